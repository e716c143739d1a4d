/- Walks: awake. -/
import Derived.Test.YtfflidaodnhpbaaLedU
namespace Go.Proofs.Ytfflidaodnhpbaa.Led
open Go Go.RowKit Go.Proofs.Ytfflidaodnhpbaa.Base Go.Proofs.Ytfflidaodnhpbaa.Draw
set_option linter.unusedVariables false
set_option linter.unusedSimpArgs false

/-- A block that is known whole reads as its cells. -/
theorem sl_blk {w : World} {B : Nat} {t : TypeId} {vs : List Value} (hb : Blk w B t vs.toArray) (hm : vs.length ≤ maxLen) : Sl w 1 (.slice (some ⟨B, 0, none⟩) vs.length vs.length) vs.length vs := by
  refine ⟨by simp, _, _, rfl, Nat.le_refl _, hm, fun _ => ⟨B, 0, rfl, fun j u hj => ?_⟩⟩
  have := hb.cell j
  simpa [hj] using this

theorem below_in {w u w' : World} {o : Obj} (h : Below w.heap.size w u) (h' : Below (u.alloc o).heap.size (u.alloc o) w') : Below w.heap.size w w' ∧ Below u.heap.size u w' := by
  have hs := h.size
  have b : Below u.heap.size u w' := ((Below.refl _ _).alloc (Nat.le_refl _) o).trans (h'.mono (by simp))
  exact ⟨h.trans (b.mono hs), b⟩

theorem sl_lk {w : World} {b : Nat} {v : Value} {xs : List Int} {r : List Bool} (h : w.ownsRow b 4 1 v (runS xs).ep.length (bools (leaked (runS xs) (runS xs).ep.length))) (e1 : (runS xs).ep.length = r.length) (e2 : leaked (runS xs) (runS xs).ep.length = r) : Sl w 1 v r.length (bools r) := by
  rw [e2, e1] at h
  exact Sl.of_own h
theorem sl_new (w : World) (B : Nat) (r : List Bool) (hB : w.heap.size = B) (hm : r.length ≤ maxLen := by unfold maxLen; simp) : Sl (w.alloc (.cells (bools r).toArray 4)) 1 (.slice (some ⟨B, 0, none⟩) r.length r.length) r.length (bools r) := by
  subst hB
  have := sl_blk (vs := bools r) (Blk.new w 4 (bools r).toArray) (by simpa [bools] using hm)
  simpa [bools] using this
set_option maxRecDepth 100000 in
set_option maxHeartbeats 200000 in
theorem awake_calls (w : World) : Calls Try.prog 5 #[] w fun e w' => e = .returned (.bool true) ∧ Below w.heap.size w w' := by
  go_enter Try.func5, Try.ntmps5
  go_wp2_with fail
  refine (leaks_calls (xs := [5, 1, 1]) (sl_blk (vs := intv [5, 1, 1]) (Blk.new _ _ _) (by unfold maxLen intv; simp)) (by decide)).mono ?_
  rintro e w1 ⟨v1, rfl, hw1, bw1⟩
  have Hw1 := Lib.hid (sl_lk (r := [true, true]) hw1 (by decide) (by decide))
  have Bw1 := Lib.hid (below_in (Below.refl w.heap.size w) bw1)
  clear hw1 bw1
  go_wp2_with fail
  refine (leaks_calls (xs := [1, 2, 5, 1, 3, 1]) (sl_blk (vs := intv [1, 2, 5, 1, 3, 1]) (Blk.new _ _ _) (by unfold maxLen intv; simp)) (by decide)).mono ?_
  rintro e w2 ⟨v2, rfl, hw2, bw2⟩
  have Hw2 := Lib.hid (sl_lk (r := [false, true, false]) hw2 (by decide) (by decide))
  have Bw2 := Lib.hid (below_in Bw1.out.1 bw2)
  clear hw2 bw2
  go_wp2_with fail
  refine (leaks_calls (xs := [4, 1]) (sl_blk (vs := intv [4, 1]) (Blk.new _ _ _) (by unfold maxLen intv; simp)) (by decide)).mono ?_
  rintro e w3 ⟨v3, rfl, hw3, bw3⟩
  have Hw3 := Lib.hid (sl_lk (r := [false]) hw3 (by decide) (by decide))
  have Bw3 := Lib.hid (below_in Bw2.out.1 bw3)
  clear hw3 bw3
  go_wp2_with fail
  refine (leaks_calls (xs := [1, 2, 5]) (sl_blk (vs := intv [1, 2, 5]) (Blk.new _ _ _) (by unfold maxLen intv; simp)) (by decide)).mono ?_
  rintro e w4 ⟨v4, rfl, hw4, bw4⟩
  have Hw4 := Lib.hid (sl_lk (r := [false]) hw4 (by decide) (by decide))
  have Bw4 := Lib.hid (below_in Bw3.out.1 bw4)
  clear hw4 bw4
  go_wp2_with fail
  have S1 := Lib.hid (((Hw1.out.below Bw2.out.2).below Bw3.out.2).below Bw4.out.2)
  have S2 := Lib.hid ((Hw2.out.below Bw3.out.2).below Bw4.out.2)
  have S3 := Lib.hid (Hw3.out.below Bw4.out.2)
  have a := fun (u : World) (o : Obj) => (Below.refl u.heap.size u).alloc (Nat.le_refl _) o
  have A := Lib.hid a
  clear a
  have Tu1 := Lib.hid (bools_eq (xs := [true, true]) (S1.out.below (A.out _ (.cells #[.bool true, .bool true] 4))) (sl_new (w4) (w4.heap.size + 0) [true, true] (by simp)) (by decide))
  refine Tu1.out.mono ?_
  rintro e u1 ⟨rfl, qu1, rfl⟩
  clear Tu1
  go_wp2_with fail
  have Tu2 := Lib.hid (bools_eq (xs := [false, true, false]) (((S2.out.below (A.out _ (.cells #[.bool true, .bool true] 4))).drewN qu1).below (A.out _ (.cells #[.bool false, .bool true, .bool false] 4))) (sl_new (((w4.alloc (.cells #[.bool true, .bool true] 4)).drewN qu1)) (w4.heap.size + 1) [false, true, false] (by simp)) (by decide))
  refine Tu2.out.mono ?_
  rintro e u2 ⟨rfl, qu2, rfl⟩
  clear Tu2
  go_wp2_with fail
  have Tu3 := Lib.hid (bools_eq (xs := [false]) (((((S3.out.below (A.out _ (.cells #[.bool true, .bool true] 4))).drewN qu1).below (A.out _ (.cells #[.bool false, .bool true, .bool false] 4))).drewN qu2).below (A.out _ (.cells #[.bool false] 4))) (sl_new (((((w4.alloc (.cells #[.bool true, .bool true] 4)).drewN qu1).alloc (.cells #[.bool false, .bool true, .bool false] 4)).drewN qu2)) (w4.heap.size + 2) [false] (by simp)) (by decide))
  refine Tu3.out.mono ?_
  rintro e u3 ⟨rfl, qu3, rfl⟩
  clear Tu3
  go_wp2_with fail
  have Tu4 := Lib.hid (bools_eq (xs := [false]) (((((((Hw4.out.below (A.out _ (.cells #[.bool true, .bool true] 4))).drewN qu1).below (A.out _ (.cells #[.bool false, .bool true, .bool false] 4))).drewN qu2).below (A.out _ (.cells #[.bool false] 4))).drewN qu3).below (A.out _ (.cells #[.bool false] 4))) (sl_new (((((((w4.alloc (.cells #[.bool true, .bool true] 4)).drewN qu1).alloc (.cells #[.bool false, .bool true, .bool false] 4)).drewN qu2).alloc (.cells #[.bool false] 4)).drewN qu3)) (w4.heap.size + 3) [false] (by simp)) (by decide))
  refine Tu4.out.mono ?_
  rintro e u4 ⟨rfl, qu4, rfl⟩
  clear Tu4
  go_wp2_with fail
  go_ret
  have hz := Bw4.out.1.size
  exact ⟨rfl, below_drewN ((below_drewN ((below_drewN ((below_drewN (Bw4.out.1.alloc (by omega) _) _).alloc (by simp; omega) _) _).alloc (by simp; omega) _) _).alloc (by simp; omega) _) _⟩
end Go.Proofs.Ytfflidaodnhpbaa.Led
