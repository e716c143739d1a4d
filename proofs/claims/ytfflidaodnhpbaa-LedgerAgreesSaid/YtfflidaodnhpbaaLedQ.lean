/- The plain law: what both sides tell is alike. No program in sight. -/
import Derived.Test.YtfflidaodnhpbaaLedP
namespace Go.Proofs.Ytfflidaodnhpbaa.Led
open Go Go.RowKit Go.Proofs.Ytfflidaodnhpbaa.Base
set_option linter.unusedVariables false
set_option linter.unusedSimpArgs false

theorem any_filterMap {α β : Type} (f : α → Option β) (p : β → Bool) : ∀ l : List α, (l.filterMap f).any p = l.any (fun a => match f a with | some b => p b | none => false)
  | [] => rfl
  | a :: l => by
    rw [List.filterMap_cons]
    cases h : f a with
    | none => simp [h, any_filterMap f p l]
    | some b => simp [h, any_filterMap f p l]

theorem Agree.any {st : LSt} {L : List Nat} (h : Agree st L) (p : Nat × Nat × Nat → Bool) : st.sn.any p = any5 L (fun a => p (cnt L 2 a, liveR L a, cnt L 3 a)) L.length := by
  rw [h.a5, any_filterMap]
  unfold any5
  congr 1
  funext a
  by_cases h5 : L.getD a 0 = 5
  · rw [if_pos h5, h5]; rfl
  · rw [if_neg h5, beq_eq_false_iff_ne.2 h5]; rfl

theorem Agree.lastAt {st : LSt} {L : List Nat} (h : Agree st L) : ∀ k, k ≤ st.ep.length → Led.lastAt st k = lastR L k
  | 0, _ => rfl
  | k + 1, hk => by
    unfold Led.lastAt lastR
    rw [h.lastAt k (by omega), h.any, h.any, h.ep k (by omega)]
    congr 1
    congr 1
    unfold any5
    congr 1
    funext a
    congr 1
    rw [Bool.eq_iff_iff]
    simp only [beq_iff_eq]
    omega
theorem Agree.leaked {st : LSt} {L : List Nat} (h : Agree st L) : Led.leaked st st.ep.length = leakedR L (cnt L 1 L.length) := by
  unfold Led.leaked leakedR
  rw [← h.a1]
  apply List.map_congr_left
  intro i hi
  exact h.lastAt _ (by have := List.mem_range.1 hi; omega)

theorem Agree.eps {st : LSt} {L : List Nat} (h : Agree st L) : st.ep = epsR L := by
  unfold epsR
  rw [← h.a1]
  apply List.ext_getElem
  · simp
  · intro i h1 h2
    have := h.ep i h1
    simp only [List.getD, List.getElem?_eq_getElem h1, Option.getD_some] at this
    simp [this]

theorem Agree.terms {st : LSt} {L : List Nat} (h : Agree st L) : (finR st).T = TT L (cnt L 1 L.length) ∧ (finR st).ks = frY (cnt L 3 L.length) (cnt L 1 L.length) ∧ (finR st).ps = frP (cnt L 3 L.length) (cnt L 1 L.length) := by
  unfold finR stC stB TT
  rw [← h.eps, ← h.a1, ← h.a3]
  exact ⟨rfl, rfl, rfl⟩

/-- What was seen stays within what there is. -/
theorem Agree.seen {st : LSt} {L : List Nat} (h : Agree st L) : ∀ x ∈ st.sn, x.1 ≤ st.ep.length ∧ x.2.1 ≤ x.2.2 ∧ x.2.2 ≤ st.nw := by
  intro x hx
  rw [h.a5] at hx
  obtain ⟨a, ha, hx⟩ := List.mem_filterMap.1 hx
  have ha' : a < L.length := by simpa using ha
  split at hx
  · injection hx with hx
    subst hx
    refine ⟨?_, ?_, ?_⟩
    · rw [h.a1]; exact Nat.le_trans (h.a6 a (by omega)) (cnt_mono L 1 (by omega))
    · exact h.live_le a (by omega)
    · rw [h.a3]; exact cnt_mono L 3 (by omega)
  · cases hx
end Go.Proofs.Ytfflidaodnhpbaa.Led
