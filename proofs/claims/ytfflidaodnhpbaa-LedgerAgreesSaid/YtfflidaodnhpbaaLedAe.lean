/- Walks: open. -/
import Derived.Test.YtfflidaodnhpbaaLedAd
namespace Go.Proofs.Ytfflidaodnhpbaa.Led
open Go Go.RowKit Go.Proofs.Ytfflidaodnhpbaa.Base Go.Proofs.Ytfflidaodnhpbaa.Draw
set_option linter.unusedVariables false
set_option linter.unusedSimpArgs false

def openO (O : List Nat) (t : Trm) : List Nat := if t.1 = 1 then addO (addO O t.2.1) t.2.2 else if t.1 = 5 ∧ t.2.1 ∈ O then addO O t.2.2 else O

def OpenPost (w wr : World) (s : Nat) (T : List Trm) (vT : Value) (O' : List Nat) (e : Ending) (w' : World) : Prop :=
  e = .returned (.tuple #[]) ∧ SMid w w' s T vT O' ∧ ∀ B cs, Blk wr B 46 cs → Blk w' B 46 cs

set_option maxRecDepth 100000 in
set_option maxHeartbeats 1000000 in
theorem open_calls {w wr : World} {s : Nat} {T : List Trm} {vT : Value} {O : List Nat} (h : SMid w wr s T vT O) (h0 : 0 < T.length) (t : Trm) (hf : Fits T t) :
    Calls Try.prog 50 #[.pointer (some ⟨s, 0, none⟩), snc t] wr (OpenPost w wr s T vT (openO O t)) := by
  have HH := Lib.hid h
  have HF := Lib.hid hf
  obtain ⟨x, a, b⟩ := t
  have hb0 := Blk.new wr 46 #[.int .i64 (x : Int), .int .i64 (a : Int), .int .i64 (b : Int)]
  have hB0 : Below wr.heap.size wr (wr.alloc (.cells #[.int .i64 (x : Int), .int .i64 (a : Int), .int .i64 (b : Int)] 46)) := (Below.refl _ _).alloc (Nat.le_refl _) _
  have hM := h.below hB0
  have M := Lib.hid (And.intro hM (And.intro hb0 hB0))
  clear h hf hb0 hB0 hM
  unfold snc
  by_cases e1 : x = 1
  · subst e1
    have ha := HF.out.a (by simp)
    have hb := HF.out.b (by simp) (by simp) (by simp)
    have eo : openO O (1, a, b) = addO (addO O a) b := rfl
    rw [eo]
    clear eo
    go_enter Try.func50, Try.ntmps50
    go_wp2_with fail
    refine (tadd_calls M.out.1 a ha).mono ?_
    rintro e w2 ⟨rfl, m2, k2⟩
    have b2 := k2 _ _ M.out.2.1
    have y2 := b2.cell 2
    simp only [List.getElem?_toArray, List.getElem?_cons_zero, List.getElem?_cons_succ] at y2
    have M2 := Lib.hid (And.intro m2 k2)
    clear m2 k2 b2
    go_wp2_with fail
    refine (tadd_calls M2.out.1 b hb).mono ?_
    rintro e w3 ⟨rfl, m3, k3⟩
    have M3 := Lib.hid (And.intro m3 k3)
    clear m3 k3
    go_wp2_with fail
    go_end0
    exact ⟨rfl, M3.out.1, fun B cs hB => M3.out.2 _ _ (M2.out.2 _ _ (hB.alloc _))⟩
  · have n1 : ((x : Int) == 1) = false := by simp; omega
    by_cases e5 : x = 5
    · subst e5
      have ha := HF.out.a (by simp)
      have hb := HF.out.b (by simp) (by simp) (by simp)
      obtain ⟨g, c, ao, co, At, cT, rfl, q1, q2, q3, q4, q5, q6, c0, c1, c2, hs, hg, hne, hin, hbk, hm⟩ := HH.out.cells h0
      obtain ⟨za, -⟩ := hin a ha
      have eo : openO O (5, a, b) = if a ∈ O then addO O b else O := by simp [openO]
      have ec : (a ∈ O) = (O.contains a = true) := by simp
      rw [eo]
      have HE := Lib.hid ec
      clear eo hin hbk hm q3 q4 q5 q6 c0 c2 ec
      unfold maxLen at q2
      generalize hn : T.length = n at *
      generalize hp : O.contains a = p at *
      have HP := Lib.hid hp
      clear hp
      cases p
      · have e : (if a ∈ O then addO O b else O) = O := if_neg (by rw [HE.out]; simp)
        rw [e]
        clear e
        go_enter Try.func50, Try.ntmps50
        go_wp2_with fail
        go_quiet (fail)
        go_wp2_with fail
        go_end0
        exact ⟨rfl, M.out.1.below (below_drewN (Below.refl _ _) _), fun B cs hB => (hB.alloc _)⟩
      · have e : (if a ∈ O then addO O b else O) = addO O b := if_pos (by rw [HE.out])
        rw [e]
        clear e
        go_enter Try.func50, Try.ntmps50
        go_wp2_with fail
        go_quiet (fail)
        have M1 := Lib.hid (M.out.1.below (below_drewN (Below.refl _ _) nq))
        go_wp2_with fail
        refine (tadd_calls M1.out b (by rw [hn]; exact hb)).mono ?_
        rintro e w3 ⟨rfl, m3, k3⟩
        have M3 := Lib.hid (And.intro m3 k3)
        clear m3 k3
        go_wp2_with fail
        go_end0
        exact ⟨rfl, M3.out.1, fun B cs hB => M3.out.2 _ _ (hB.alloc _)⟩
    · have n5 : ((x : Int) == 5) = false := by simp; omega
      have eo : openO O (x, a, b) = O := by simp [openO, e1, e5]
      rw [eo]
      clear eo e1 e5
      go_enter Try.func50, Try.ntmps50
      go_wp2_with fail
      go_quiet (fail)
      go_wp2_with fail
      go_end0
      exact ⟨rfl, M.out.1.below (below_drewN (Below.refl _ _) _), fun B cs hB => (hB.alloc _)⟩
end Go.Proofs.Ytfflidaodnhpbaa.Led
