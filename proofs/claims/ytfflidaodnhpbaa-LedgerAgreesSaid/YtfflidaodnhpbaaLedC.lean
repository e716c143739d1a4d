/- Walks: ContainsFunc over what was seen, and the closures that it is handed. -/
import Derived.Test.YtfflidaodnhpbaaLedD
import Derived.LoopTactic
namespace Go.Proofs.Ytfflidaodnhpbaa.Led
open Go Go.RowKit Go.Proofs.Ytfflidaodnhpbaa.Base Go.Proofs.Ytfflidaodnhpbaa.Draw
set_option linter.unusedVariables false
set_option linter.unusedSimpArgs false

def snc (x : Nat × Nat × Nat) : Value := .agg #[.int .i64 (x.1 : Int), .int .i64 (x.2.1 : Int), .int .i64 (x.2.2 : Int)]

theorem snv_at (l : List (Nat × Nat × Nat)) : ∀ (k : Nat) (h : k < l.length), (snv l)[k * 3]? = some (.int .i64 (l[k].1 : Int)) ∧ (snv l)[k * 3 + 1]? = some (.int .i64 (l[k].2.1 : Int)) ∧ (snv l)[k * 3 + 2]? = some (.int .i64 (l[k].2.2 : Int)) := by
  induction l with
  | nil => intro k h; simp at h
  | cons a l ih =>
    intro k h
    cases k with
    | zero => simp [snv]
    | succ k =>
      have := ih k (by simpa using h)
      simp only [snv, List.flatMap_cons] at this ⊢
      have e : (k + 1) * 3 = k * 3 + 3 := by omega
      rw [e]
      simpa using this

def idxP (p : Nat × Nat × Nat → Bool) (xs : List (Nat × Nat × Nat)) : Int := match xs.findIdx? p with | some i => (i : Int) | none => -1

theorem below_trans {w w1 w2 : World} (h : Below w.heap.size w w1) (k : Below w1.heap.size w1 w2) : Below w.heap.size w w2 := h.trans (k.mono h.size)

set_option maxHeartbeats 1000000 in
theorem index_calls {w : World} {v q : Value} {n : Nat} {xs : List (Nat × Nat × Nat)} (h : Sl w 3 v xs.length (snv xs)) (hn : xs.length ≤ 1000) (p : Nat × Nat × Nat → Bool)
    (hf : ∀ W x, Below w.heap.size w W → Calls Try.prog n #[snc x, q] W fun e w' => e = .returned (.bool (p x)) ∧ Below W.heap.size W w') 
    (hE : ∀ args W, (callFunc n args).run Try.prog W = .ok (.enter n args) W) :
    Calls Try.prog 43 #[v, .func (.func n) #[] #[q]] w fun e w' => e = .returned (.int .i64 (idxP p xs)) ∧ Below w.heap.size w w' := by
  obtain ⟨hl, A, c, rfl, hnc, hcm, hcell⟩ := h
  have hcm' := hcm
  unfold maxLen at hcm'
  have HF := Lib.hid hf
  have HE := Lib.hid hcell
  clear hf hcell hl hcm
  go_enter Try.func43, Try.ntmps43
  go_wp2_with fail
  go_loopw [5, 8] (fun u i wr => ∃ k : Nat, k ≤ xs.length ∧ i = .int .i64 k ∧ (∀ j, (hj : j < k) → (hx : j < xs.length) → p xs[j] = false) ∧ Below w.heap.size w wr) (fun _ i _ => xs.length - (intOf i).toNat)
  case atStart => exact ⟨0, by omega, rfl, fun j hj => by omega, Below.refl _ _⟩
  case round =>
    obtain ⟨k, hk, rfl, hpre, hb⟩ := hrel
    have HP := Lib.hid hpre
    clear hpre
    by_cases hlt : k < xs.length
    · obtain ⟨b, o, rfl, hc⟩ := HE.out (by omega)
      obtain ⟨s0, s1, s2⟩ := snv_at xs k hlt
      have lb : b < w.heap.size := cell_lt (hc _ _ s0)
      have c0 := (hb.cell (p := ⟨b, o + k * 3, none⟩) lb).trans (hc _ _ s0)
      have c1 : wr.cell? ⟨b, o + k * 3 + 1, none⟩ = some (.int .i64 (xs[k].2.1 : Int)) := (hb.cell (p := ⟨b, o + k * 3 + 1, none⟩) lb).trans (by rw [Nat.add_assoc]; exact hc _ _ s1)
      have c2 : wr.cell? ⟨b, o + k * 3 + 2, none⟩ = some (.int .i64 (xs[k].2.2 : Int)) := (hb.cell (p := ⟨b, o + k * 3 + 2, none⟩) lb).trans (by rw [Nat.add_assoc]; exact hc _ _ s2)
      clear hc s0 s1 s2
      generalize hx : xs[k] = x at *
      have HX := Lib.hid hx
      clear hx
      go_wp2_with fail
      refine (HF.out _ x hb).mono ?_
      rintro e w2 ⟨rfl, hb2⟩
      cases hp : p x
      · have HN := Lib.hid hp
        clear hp
        go_wp2_with fail
        go_roundw
        case rel =>
          refine ⟨k + 1, by omega, by go_num, ?_, below_trans hb hb2⟩
          intro j hj hxj
          by_cases hjk : j < k
          · exact HP.out j hjk hxj
          · obtain rfl : j = k := by omega
            rw [HX.out]; exact HN.out
        case measure => simp [intOf]; omega
      · have HN := Lib.hid hp
        clear hp
        go_wp2_with fail
        go_ret
        refine ⟨?_, below_trans hb hb2⟩
        have : xs.findIdx? p = some k := by
          rw [List.findIdx?_eq_some_iff_getElem]
          exact ⟨hlt, by rw [HX.out]; exact HN.out, fun j hj => by simpa using HP.out j hj (by omega)⟩
        simp [idxP, this]
    · obtain rfl : k = xs.length := by omega
      have : xs.findIdx? p = none := by
        rw [List.findIdx?_eq_none_iff]
        intro x hx
        obtain ⟨j, hj, rfl⟩ := List.getElem_of_mem hx
        exact HP.out j hj hj
      have HI := Lib.hid this
      clear this
      go_wp2_with fail
      go_ret
      exact ⟨by simp [idxP, HI.out], hb⟩
end Go.Proofs.Ytfflidaodnhpbaa.Led
