/- Walks: leaks, awake. -/
import Derived.Test.YtfflidaodnhpbaaLedK
namespace Go.Proofs.Ytfflidaodnhpbaa.Led
open Go Go.RowKit Go.Proofs.Ytfflidaodnhpbaa.Base Go.Proofs.Ytfflidaodnhpbaa.Draw
set_option linter.unusedVariables false
set_option linter.unusedSimpArgs false

def intv (l : List Int) : List Value := l.map (Value.int .i64)
/-- A ledger of the call's own, as new. -/
structure LMid (w wr : World) (g : Nat) (st : LSt) : Prop where
  rep : ∃ F ve vs, LRep wr g F st ve vs ∧ ∀ k, F k → w.heap.size ≤ k
  bel : Below w.heap.size w wr
theorem LMid.below {w wr w' : World} {g : Nat} {st : LSt} (h : LMid w wr g st) (hb : Below wr.heap.size wr w') : LMid w w' g st := by
  obtain ⟨F, ve, vs, h1, h2⟩ := h.rep
  exact ⟨⟨F, ve, vs, h1.below hb, h2⟩, h.bel.trans (hb.mono h.bel.size)⟩
theorem LMid.drewN {w wr : World} {g : Nat} {st : LSt} (h : LMid w wr g st) (k : Nat) : LMid w (wr.drewN k) g st := h.below (below_drewN (Below.refl _ _) k)
theorem LMid.new (w : World) : LMid w (w.alloc (.cells #[.slice none 0 0, .int .i64 0, .int .i64 0, .slice none 0 0] 27)) w.heap.size ⟨[], 0, 0, []⟩ := by
  refine ⟨⟨fun k => k = w.heap.size, .slice none 0 0, .slice none 0 0, ⟨Blk.new _ _ _, World.ownsRow_nil _ _ _ _, World.ownsRow_nil _ _ _ _, fun k => by simp [Value.ownBlock]⟩, fun k hk => by omega⟩, (Below.refl _ _).alloc (Nat.le_refl _) _⟩
theorem LMid.did {w wr : World} {g : Nat} {st : LSt} {x : Int} (h : LMid w wr g st) (ok : LOk st) :
    Calls Try.prog 6 #[.pointer (some ⟨g, 0, none⟩), .int .i64 x] wr fun e w' => e = .returned (.int .i64 (doE st x)) ∧ LMid w w' g (doS st x) ∧ Chg (fun k => w.heap.size ≤ k) wr w' := by
  obtain ⟨F, ve, vs, h1, h2⟩ := h.rep
  refine (do_calls h1 ok x).mono ?_
  rintro e w1 ⟨rfl, F', ve', vs', g1, g2, g3⟩
  have hs := h.bel.size
  refine ⟨rfl, ⟨⟨F', ve', vs', g1, fun k hk => ?_⟩, Chg.below h.bel g2 hs h2⟩, g2.mono h2⟩
  rcases g3 k hk with q | q
  · exact h2 k q
  · omega

theorem own_up {w : World} {b b' : Nat} {e : TypeId} {size n : Nat} {v : Value} {xs : List Value} (h : w.ownsRow b' e size v n xs) (hb : b ≤ b') : w.ownsRow b e size v n xs :=
  ⟨h.1, h.2.imp id (fun ⟨g, c, cur, e1, e2, e3⟩ => ⟨g, c, cur, e1, Nat.le_trans hb e2, e3⟩)⟩
def runS (xs : List Int) : LSt := xs.foldl doS ⟨[], 0, 0, []⟩
def runR (xs : List Int) : List Nat := xs.foldl doRS []
theorem run_agree : ∀ (xs : List Int) (st : LSt) (L : List Nat), Agree st L → L.length + xs.length ≤ 30 → Agree (xs.foldl doS st) (xs.foldl doRS L) ∧ (xs.foldl doRS L).length ≤ L.length + xs.length
  | [], st, L, h, _ => ⟨h, by simp⟩
  | x :: xs, st, L, h, hl => by
    simp only [List.length_cons] at hl
    obtain ⟨_, h2, h3⟩ := h.step (by omega) x
    have := run_agree xs _ _ h2 (by omega)
    exact ⟨this.1, by have := this.2; simp only [List.foldl_cons, List.length_cons]; omega⟩
theorem runS_agree (xs : List Int) (h : xs.length ≤ 30) : Agree (runS xs) (runR xs) ∧ (runR xs).length ≤ xs.length := by
  have := run_agree xs _ _ agree_nil (by simpa using h)
  exact ⟨this.1, by have h2 := this.2; simp only [List.length_nil, Nat.zero_add] at h2; exact h2⟩
theorem runS_take (xs : List Int) (k : Nat) (h : k < xs.length) : runS (xs.take (k + 1)) = doS (runS (xs.take k)) xs[k] := by
  unfold runS; rw [List.take_succ_eq_append_getElem h, List.foldl_append]; rfl
theorem runR_take (xs : List Int) (k : Nat) (h : k < xs.length) : runR (xs.take (k + 1)) = doRS (runR (xs.take k)) xs[k] := by
  unfold runR; rw [List.take_succ_eq_append_getElem h, List.foldl_append]; rfl

set_option maxRecDepth 100000 in
set_option maxHeartbeats 1000000 in
theorem leaks_calls {w : World} {v : Value} {xs : List Int} (h : Sl w 1 v xs.length (intv xs)) (hn : xs.length ≤ 30) :
    Calls Try.prog 18 #[v] w fun e w' => ∃ v', e = .returned v' ∧ w'.ownsRow w.heap.size 4 1 v' (runS xs).ep.length (bools (leaked (runS xs) (runS xs).ep.length)) ∧ Below w.heap.size w w' := by
  obtain ⟨hl, A, c, rfl, hnc, hcm, hcell⟩ := h
  have hcm' := hcm
  unfold maxLen at hcm'
  have HE := Lib.hid hcell
  clear hcell hl hcm
  go_enter Try.func18, Try.ntmps18
  go_wp2_with fail
  generalize hN : xs.length = N at *
  have HN := Lib.hid hN
  clear hN
  go_loopw [4] (fun i wr => ∃ k : Nat, k ≤ N ∧ i = .int .i64 (k : Int) ∧ LMid w wr w.heap.size (runS (xs.take k))) (fun i _ => N - (intOf i).toNat)
  case atStart => exact ⟨0, by omega, rfl, by simpa [runS] using LMid.new w⟩
  case round =>
    obtain ⟨k, hk, rfl, hm⟩ := hrel
    have M := Lib.hid hm
    clear hm
    by_cases hkt : k < N
    · have hc : decide ((k : Int) < (N : Int)) = true := by simp; omega
      have hkx : k < xs.length := by rw [HN.out]; exact hkt
      obtain ⟨b, o, rfl, hcl⟩ := HE.out (by omega)
      have x0 := hcl k (.int .i64 xs[k]) (by simp [intv, hkx])
      have x1 := (M.out.bel.cell (p := ⟨b, o + k, none⟩) (cell_lt x0)).trans x0
      have lb := cell_lt x0
      clear hcl x0
      generalize hx : xs[k] = x at *
      have HX := Lib.hid hx
      clear hx
      go_wp2_with fail
      have ok := (runS_agree (xs.take k) (by simp; omega)).1.ok
      refine (M.out.did ok).mono ?_
      rintro e w1 ⟨rfl, m1, -⟩
      have M1 := Lib.hid m1
      clear m1 ok
      go_wp2_with fail
      go_roundw
      case rel => exact ⟨k + 1, by omega, by go_num, by rw [runS_take xs k hkx, HX.out]; exact M1.out⟩
      case measure => simp [intOf]; omega
    · obtain rfl : k = N := by omega
      have hc : decide ((k : Int) < (k : Int)) = false := by simp
      have e : xs.take k = xs := by rw [List.take_of_length_le (by rw [HN.out]; exact Nat.le_refl _)]
      obtain ⟨F, ve, vs, r1, r2⟩ := M.out.rep
      rw [e] at r1
      have R1 := Lib.hid r1
      have ok := (runS_agree xs (by rw [HN.out]; exact hn)).1.ok
      clear r1 r2 e
      go_wp2_with fail
      refine (leaked_calls R1.out ok).mono ?_
      rintro e w2 ⟨v2, rfl, o2, b2⟩
      have O2 := Lib.hid (And.intro o2 b2)
      clear o2 b2
      go_wp2_with fail
      go_ret
      exact ⟨_, rfl, own_up O2.out.1 M.out.bel.size, M.out.bel.trans (O2.out.2.mono M.out.bel.size)⟩
end Go.Proofs.Ytfflidaodnhpbaa.Led
