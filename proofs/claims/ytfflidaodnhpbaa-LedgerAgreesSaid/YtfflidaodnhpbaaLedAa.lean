/- What can be found out of a list of terms, as a set that the rules close; and what that set is for the ledger's list. No program in sight. -/
import Derived.Test.YtfflidaodnhpbaaLedK
namespace Go.Proofs.Ytfflidaodnhpbaa.Led
open Go Go.RowKit Go.Proofs.Ytfflidaodnhpbaa.Base
set_option linter.unusedVariables false
set_option linter.unusedSimpArgs false

abbrev Trm := Nat × Nat × Nat
def at_ (T : List Trm) (i : Nat) : Trm := T.getD i (0, 0, 0)
def pub (T : List Trm) (p : Nat → Bool) (x : Nat) : Bool := (List.range T.length).any fun i => (at_ T i).1 == 3 && (at_ T i).2.1 == x && p i
def made (T : List Trm) (p : Nat → Bool) (t : Trm) : Bool :=
  if t.1 = 0 then false else if t.1 = 2 ∨ t.1 = 3 then p t.2.1 else if t.1 = 4 then (p t.2.1 && pub T p t.2.2) || (p t.2.2 && pub T p t.2.1) else p t.2.1 && p t.2.2
theorem pub_mono {T : List Trm} {p q : Nat → Bool} (h : ∀ i, p i = true → q i = true) {x : Nat} (hp : pub T p x = true) : pub T q x = true := by
  unfold pub at *
  rw [List.any_eq_true] at *
  obtain ⟨i, hi, h1⟩ := hp
  simp only [Bool.and_eq_true] at h1
  exact ⟨i, hi, by simp only [Bool.and_eq_true]; exact ⟨h1.1, h _ h1.2⟩⟩
theorem made_mono {T : List Trm} {p q : Nat → Bool} (h : ∀ i, p i = true → q i = true) {t : Trm} (hp : made T p t = true) : made T q t = true := by
  unfold made at *
  split
  · rename_i g; rw [if_pos g] at hp; exact hp
  · rename_i g
    rw [if_neg g] at hp
    split
    · rename_i g2; rw [if_pos g2] at hp; exact h _ hp
    · rename_i g2
      rw [if_neg g2] at hp
      split
      · rename_i g3
        rw [if_pos g3] at hp
        simp only [Bool.or_eq_true, Bool.and_eq_true] at hp ⊢
        exact hp.imp (fun a => ⟨h _ a.1, pub_mono h a.2⟩) (fun a => ⟨h _ a.1, pub_mono h a.2⟩)
      · rename_i g3
        rw [if_neg g3] at hp
        simp only [Bool.and_eq_true] at hp ⊢
        exact ⟨h _ hp.1, h _ hp.2⟩

/-- A set that the rules close. -/
structure Cl (T : List Trm) (p : Nat → Bool) : Prop where
  made : ∀ i, i < T.length → made T p (at_ T i) = true → p i = true
  pair : ∀ i, i < T.length → p i = true → (at_ T i).1 = 1 → p (at_ T i).2.1 = true ∧ p (at_ T i).2.2 = true
  box : ∀ i, i < T.length → p i = true → (at_ T i).1 = 5 → p (at_ T i).2.1 = true → p (at_ T i).2.2 = true
/-- Each term uses those ahead of it alone. -/
def WF (T : List Trm) : Prop := ∀ i, i < T.length → (at_ T i).1 ≤ 6 ∧ ((at_ T i).1 ≠ 0 → (at_ T i).2.1 < i) ∧ ((at_ T i).1 ≠ 0 → (at_ T i).1 ≠ 2 → (at_ T i).1 ≠ 3 → (at_ T i).2.2 < i)

theorem at_l {a b : List Trm} {i : Nat} (h : i < a.length) : at_ (a ++ b) i = at_ a i := by simp [at_, List.getD, List.getElem?_append_left h]
theorem at_r {a b : List Trm} {i : Nat} (h : a.length ≤ i) : at_ (a ++ b) i = at_ b (i - a.length) := by simp [at_, List.getD, List.getElem?_append_right h]
theorem sec_at : ∀ (k i r : Nat), i < k → r < 2 → at_ (secT k) (2 * i + r) = at_ [(0, 0, 0), (3, 2 * i, 0)] r
  | 0, i, r, h, _ => by omega
  | k + 1, i, r, h, hr => by
    rw [secT_succ]
    by_cases hk : i < k
    · rw [at_l (by rw [secT_length]; omega), sec_at k i r hk hr]
    · obtain rfl : i = k := by omega
      rw [at_r (by rw [secT_length]; omega), secT_length]
      congr 1; omega
theorem fr_at (M : Nat) (ep : List Nat) : ∀ (k i r : Nat), i < k → r < 10 → at_ (frT M ep k) (10 * i + r) = at_ (frameT (NN M i) (chainAt M i) (2 * ep.getD i 0)) r
  | 0, i, r, h, _ => by omega
  | k + 1, i, r, h, hr => by
    rw [frT_succ]
    by_cases hk : i < k
    · rw [at_l (by rw [frT_length]; omega), fr_at M ep k i r hk hr]
    · obtain rfl : i = k := by omega
      rw [at_r (by rw [frT_length]; omega), frT_length]
      congr 1; omega
def LT (M : Nat) (ep : List Nat) : List Trm := secT (M + 2) ++ frT M ep ep.length
theorem LT_length (M : Nat) (ep : List Nat) : (LT M ep).length = NN M ep.length := by simp [LT, secT_length, frT_length, NN]
theorem LT_sec (M : Nat) (ep : List Nat) (i r : Nat) (hi : i < M + 2) (hr : r < 2) : at_ (LT M ep) (2 * i + r) = at_ [(0, 0, 0), (3, 2 * i, 0)] r := by
  unfold LT
  rw [at_l (by rw [secT_length]; omega), sec_at _ _ _ hi hr]
theorem LT_fr (M : Nat) (ep : List Nat) (i r : Nat) (hi : i < ep.length) (hr : r < 10) : at_ (LT M ep) (NN M i + r) = at_ (frameT (NN M i) (chainAt M i) (2 * ep.getD i 0)) r := by
  unfold LT
  rw [at_r (by rw [secT_length]; unfold NN; omega), secT_length, ← fr_at M ep ep.length i r hi hr]
  congr 1; unfold NN; omega
theorem LT_cases {M : Nat} {ep : List Nat} {j : Nat} (h : j < (LT M ep).length) : (∃ i r, i < M + 2 ∧ r < 2 ∧ j = 2 * i + r) ∨ ∃ i r, i < ep.length ∧ r < 10 ∧ j = NN M i + r := by
  rw [LT_length] at h
  by_cases hj : j < 2 * (M + 2)
  · exact .inl ⟨j / 2, j % 2, by omega, by omega, by omega⟩
  · refine .inr ⟨(j - 2 * (M + 2)) / 10, (j - 2 * (M + 2)) % 10, by unfold NN at h; omega, by omega, by unfold NN; omega⟩

def openE (st : LSt) (e : Nat) : Bool := st.sn.any (fun x => decide (x.2.1 ≤ e) && decide (e ≤ x.2.2))
def chainK (st : LSt) (i : Nat) : Bool := lastAt st i || st.sn.any (fun x => (x.1 : Int) == (i : Int))
theorem lastAt_succ (st : LSt) (i : Nat) : lastAt st (i + 1) = (chainK st i && openE st (st.ep.getD i 0)) := rfl
def starF (st : LSt) (i r : Nat) : Bool :=
  if r = 1 ∨ r = 9 then true else if r = 0 then false else if r = 2 then chainK st (i + 1) else if r = 4 then chainK st i else if r = 5 then openE st (st.ep.getD i 0) else lastAt st (i + 1)
def star (st : LSt) (j : Nat) : Bool :=
  if j < 2 * (st.nw + 2) then (if j % 2 = 1 then true else if j / 2 = st.nw + 1 then chainK st 0 else openE st (j / 2))
  else starF st ((j - 2 * (st.nw + 2)) / 10) ((j - 2 * (st.nw + 2)) % 10)
theorem star_fr (st : LSt) (i r : Nat) (hr : r < 10) : star st (NN st.nw i + r) = starF st i r := by
  unfold star NN
  rw [if_neg (by omega)]
  congr 1 <;> omega
theorem star_odd (st : LSt) (i : Nat) (hi : i < st.nw + 2) : star st (2 * i + 1) = true := by
  unfold star
  rw [if_pos (by omega), if_pos (by omega)]
theorem star_epoch (st : LSt) (e : Nat) (he : e ≤ st.nw) : star st (2 * e) = openE st e := by
  unfold star
  rw [if_pos (by omega), if_neg (by omega), if_neg (by omega)]
  congr 1; omega
theorem star_chain (st : LSt) (i : Nat) : star st (chainAt st.nw i) = chainK st i := by
  unfold chainAt
  split
  · rename_i h
    subst h
    unfold star
    rw [if_pos (by omega), if_neg (by omega), if_pos (by omega)]
  · rename_i h
    rw [star_fr _ _ _ (by omega)]
    simp only [starF]
    rw [if_neg (by omega), if_neg (by omega), if_pos trivial]
    congr 1; omega

structure LWf (st : LSt) : Prop where
  ep : ∀ i, i < st.ep.length → st.ep.getD i 0 ≤ st.nw
  sn : ∀ x ∈ st.sn, x.1 ≤ st.ep.length ∧ x.2.1 ≤ x.2.2 ∧ x.2.2 ≤ st.nw

theorem ten {r : Nat} (h : r < 10) : r = 0 ∨ r = 1 ∨ r = 2 ∨ r = 3 ∨ r = 4 ∨ r = 5 ∨ r = 6 ∨ r = 7 ∨ r = 8 ∨ r = 9 := by omega
theorem LT_wf {st : LSt} (h : LWf st) : WF (LT st.nw st.ep) := by
  intro j hj
  rcases LT_cases hj with ⟨i, r, hi, hr, rfl⟩ | ⟨i, r, hi, hr, rfl⟩
  · rw [LT_sec _ _ _ _ hi hr]
    rcases (show r = 0 ∨ r = 1 by omega) with rfl | rfl <;> simp [at_]
  · rw [LT_fr _ _ _ _ hi hr]
    have h1 := h.ep i hi
    have h2 : chainAt st.nw i < NN st.nw i := by unfold chainAt NN; split <;> omega
    have h3 : 2 * st.ep.getD i 0 < NN st.nw i := by unfold NN; omega
    generalize st.ep.getD i 0 = e at *
    generalize chainAt st.nw i = c at *
    generalize NN st.nw i = B at *
    rcases ten hr with rfl | rfl | rfl | rfl | rfl | rfl | rfl | rfl | rfl | rfl <;> simp [at_, frameT] <;> omega

theorem made_1 (T : List Trm) (p : Nat → Bool) (a b : Nat) : made T p (1, a, b) = (p a && p b) := rfl
theorem made_2 (T : List Trm) (p : Nat → Bool) (a b : Nat) : made T p (2, a, b) = p a := rfl
theorem made_4 (T : List Trm) (p : Nat → Bool) (a b : Nat) : made T p (4, a, b) = ((p a && pub T p b) || (p b && pub T p a)) := rfl
theorem made_0 (T : List Trm) (p : Nat → Bool) (a b : Nat) : made T p (0, a, b) = false := rfl
section
variable (st : LSt) (i : Nat)
theorem sF0 : star st (NN st.nw i) = false := by have := star_fr st i 0 (by omega); simpa [starF] using this
theorem sF1 : star st (NN st.nw i + 1) = true := by rw [star_fr _ _ _ (by omega)]; simp [starF]
theorem sF2 : star st (NN st.nw i + 2) = chainK st (i + 1) := by rw [star_fr _ _ _ (by omega)]; simp [starF]
theorem sF3 : star st (NN st.nw i + 3) = lastAt st (i + 1) := by rw [star_fr _ _ _ (by omega)]; simp [starF]
theorem sF4 : star st (NN st.nw i + 4) = chainK st i := by rw [star_fr _ _ _ (by omega)]; simp [starF]
theorem sF5 : star st (NN st.nw i + 5) = openE st (st.ep.getD i 0) := by rw [star_fr _ _ _ (by omega)]; simp [starF]
theorem sF6 : star st (NN st.nw i + 6) = lastAt st (i + 1) := by rw [star_fr _ _ _ (by omega)]; simp [starF]
theorem sF7 : star st (NN st.nw i + 7) = lastAt st (i + 1) := by rw [star_fr _ _ _ (by omega)]; simp [starF]
theorem sF8 : star st (NN st.nw i + 8) = lastAt st (i + 1) := by rw [star_fr _ _ _ (by omega)]; simp [starF]
theorem sF9 : star st (NN st.nw i + 9) = true := by rw [star_fr _ _ _ (by omega)]; simp [starF]
end

theorem star_cl {st : LSt} (h : LWf st) : Cl (LT st.nw st.ep) (star st) := by
  refine ⟨fun j hj hm => ?_, fun j hj hp ho => ?_, fun j hj hp ho ha => ?_⟩
  · rcases LT_cases hj with ⟨i, r, hi, hr, rfl⟩ | ⟨i, r, hi, hr, rfl⟩
    · rw [LT_sec _ _ _ _ hi hr] at hm
      rcases (show r = 0 ∨ r = 1 by omega) with rfl | rfl
      · simp [at_, made] at hm
      · exact star_odd st i hi
    · rw [LT_fr _ _ _ _ hi hr] at hm
      have fc := star_chain st i
      have fe := star_epoch st _ (h.ep i hi)
      have ls := lastAt_succ st i
      rcases ten hr with rfl | rfl | rfl | rfl | rfl | rfl | rfl | rfl | rfl | rfl
      · replace hm : made (LT st.nw st.ep) (star st) (0, 0, 0) = true := hm
        rw [made_0] at hm; cases hm
      · exact sF1 st i
      · replace hm : made (LT st.nw st.ep) (star st) (0, 0, 0) = true := hm
        rw [made_0] at hm; cases hm
      · replace hm : made (LT st.nw st.ep) (star st) (0, 0, 0) = true := hm
        rw [made_0] at hm; cases hm
      · replace hm : made (LT st.nw st.ep) (star st) (4, NN st.nw i, chainAt st.nw i) = true := hm
        rw [made_4, sF0, Bool.false_and, Bool.false_or, Bool.and_eq_true] at hm
        rw [sF4, ← fc]; exact hm.1
      · replace hm : made (LT st.nw st.ep) (star st) (4, NN st.nw i, 2 * st.ep.getD i 0) = true := hm
        rw [made_4, sF0, Bool.false_and, Bool.false_or, Bool.and_eq_true] at hm
        rw [sF5, ← fe]; exact hm.1
      · replace hm : made (LT st.nw st.ep) (star st) (1, NN st.nw i + 4, NN st.nw i + 5) = true := hm
        rw [made_1, sF4, sF5] at hm
        rw [sF6, ls]; exact hm
      · replace hm : made (LT st.nw st.ep) (star st) (2, NN st.nw i + 6, 0) = true := hm
        rw [made_2, sF6] at hm
        rw [sF7]; exact hm
      · replace hm : made (LT st.nw st.ep) (star st) (1, NN st.nw i + 2, NN st.nw i + 3) = true := hm
        rw [made_1, sF3, Bool.and_eq_true] at hm
        rw [sF8]; exact hm.2
      · exact sF9 st i
  · rcases LT_cases hj with ⟨i, r, hi, hr, rfl⟩ | ⟨i, r, hi, hr, rfl⟩
    · rw [LT_sec _ _ _ _ hi hr] at ho
      rcases (show r = 0 ∨ r = 1 by omega) with rfl | rfl
      · replace ho : (0 : Nat) = 1 := ho
        omega
      · replace ho : (3 : Nat) = 1 := ho
        omega
    · rw [LT_fr _ _ _ _ hi hr] at ho ⊢
      have ls := lastAt_succ st i
      rcases ten hr with rfl | rfl | rfl | rfl | rfl | rfl | rfl | rfl | rfl | rfl
      all_goals first | (exfalso; revert ho; simp [at_, frameT]; done) | skip
      · rw [sF6] at hp
        show star st (NN st.nw i + 4) = true ∧ star st (NN st.nw i + 5) = true
        rw [ls, Bool.and_eq_true] at hp
        rw [sF4, sF5]; exact hp
      · rw [sF8] at hp
        show star st (NN st.nw i + 2) = true ∧ star st (NN st.nw i + 3) = true
        rw [sF2, sF3]
        exact ⟨by unfold chainK; rw [hp]; rfl, hp⟩
  · rcases LT_cases hj with ⟨i, r, hi, hr, rfl⟩ | ⟨i, r, hi, hr, rfl⟩
    · rw [LT_sec _ _ _ _ hi hr] at ho
      rcases (show r = 0 ∨ r = 1 by omega) with rfl | rfl
      · replace ho : (0 : Nat) = 5 := ho
        omega
      · replace ho : (3 : Nat) = 5 := ho
        omega
    · rw [LT_fr _ _ _ _ hi hr] at ho ha ⊢
      rcases ten hr with rfl | rfl | rfl | rfl | rfl | rfl | rfl | rfl | rfl | rfl
      all_goals first | (exfalso; revert ho; simp [at_, frameT]; done) | skip
      replace ha : star st (NN st.nw i + 7) = true := ha
      show star st (NN st.nw i + 8) = true
      rw [sF7] at ha
      rw [sF8]; exact ha

/-- What is known of the list. -/
theorem kn_iff (st : LSt) (x : Nat) : x ∈ (finR st).kn ↔ (∃ i, i < st.nw + 2 ∧ x = 2 * i + 1) ∨ (∃ i, i < st.ep.length ∧ (x = NN st.nw i + 1 ∨ x = NN st.nw i + 9)) ∨ ∃ s ∈ st.sn, x = chainAt st.nw s.1 ∨ ∃ e, s.2.1 ≤ e ∧ e ≤ s.2.2 ∧ e ≤ st.nw ∧ x = 2 * e := by
  have ekn : (stC st.nw st st.sn.length).kn = (secK (st.nw + 2) ++ frK st.nw st.ep.length) ++ st.sn.flatMap (seenE st.nw) := by simp [stC, stB]
  unfold finR
  simp only
  rw [mem_compact, mem_srt, ekn, List.mem_append, List.mem_append, or_assoc]
  refine or_congr ?_ (or_congr ?_ ?_)
  · simp only [secK, List.mem_map, List.mem_range]
    exact ⟨fun ⟨i, h, e⟩ => ⟨i, h, e.symm⟩, fun ⟨i, h, e⟩ => ⟨i, h, e.symm⟩⟩
  · simp only [frK, List.mem_flatMap, List.mem_range, List.mem_cons, List.not_mem_nil, or_false]
  · simp only [List.mem_flatMap, seenE, List.mem_cons]
    refine exists_congr fun s => and_congr_right fun hs => or_congr Iff.rfl ?_
    rw [List.mem_iff_getElem?]
    simp only [List.getElem?_drop, List.getElem?_take, evens, List.getElem?_map]
    constructor
    · rintro ⟨q, hq⟩
      split at hq
      · rename_i h1
        by_cases h2 : s.2.1 + q < st.nw + 1
        · rw [List.getElem?_range h2] at hq
          simp only [Option.map_some] at hq
          injection hq with hq
          exact ⟨s.2.1 + q, by omega, by omega, by omega, hq.symm⟩
        · rw [List.getElem?_eq_none (by simp; omega)] at hq
          simp at hq
      · cases hq
    · rintro ⟨e, h1, h2, h3, rfl⟩
      refine ⟨e - s.2.1, ?_⟩
      have e1 : s.2.1 + (e - s.2.1) = e := by omega
      rw [e1, if_pos (by omega), List.getElem?_range (by omega)]
      rfl
theorem kn_star {st : LSt} (h : LWf st) (x : Nat) (hx : x ∈ (finR st).kn) : star st x = true := by
  rcases (kn_iff st x).1 hx with ⟨i, hi, rfl⟩ | ⟨i, hi, rfl | rfl⟩ | ⟨s, hs, rfl | ⟨e, h1, h2, h3, rfl⟩⟩
  · exact star_odd st i hi
  · exact sF1 st i
  · exact sF9 st i
  · rw [star_chain]
    unfold chainK
    rw [Bool.or_eq_true]
    exact .inr (List.any_eq_true.2 ⟨s, hs, by simp⟩)
  · rw [star_epoch _ _ h3]
    exact List.any_eq_true.2 ⟨s, hs, by simp [h1, h2]⟩

/-- What leaks can be found out. -/
theorem cl_leaks {st : LSt} (h : LWf st) {p : Nat → Bool} (hp : Cl (LT st.nw st.ep) p) (hk : ∀ x ∈ (finR st).kn, p x = true) : ∀ i, (i ≤ st.ep.length → chainK st i = true → p (chainAt st.nw i) = true) ∧
    (i < st.ep.length → lastAt st (i + 1) = true → p (NN st.nw i + 7) = true ∧ p (NN st.nw i + 3) = true ∧ p (NN st.nw i + 2) = true) := by
  intro i
  have key : ∀ i, (i ≤ st.ep.length → chainK st i = true → p (chainAt st.nw i) = true) → (i < st.ep.length → lastAt st (i + 1) = true → p (NN st.nw i + 7) = true ∧ p (NN st.nw i + 3) = true ∧ p (NN st.nw i + 2) = true) := by
    intro i hc hi hl
    have hT : ∀ r, r < 10 → NN st.nw i + r < (LT st.nw st.ep).length := fun r hr => by rw [LT_length]; unfold NN; omega
    have e := fun r hr => LT_fr st.nw st.ep i r hi hr
    rw [lastAt_succ, Bool.and_eq_true] at hl
    have c := hc (by omega) hl.1
    have ee : p (2 * st.ep.getD i 0) = true := by
      refine hk _ ((kn_iff st _).2 (.inr (.inr ?_)))
      obtain ⟨s, hs, h1⟩ := List.any_eq_true.1 hl.2
      simp only [Bool.and_eq_true, decide_eq_true_eq] at h1
      exact ⟨s, hs, .inr ⟨_, h1.1, h1.2, h.ep i hi, rfl⟩⟩
    have pb : pub (LT st.nw st.ep) p (NN st.nw i) = true := by
      refine List.any_eq_true.2 ⟨NN st.nw i + 1, by simpa using hT 1 (by omega), ?_⟩
      rw [e 1 (by omega)]
      have := hk (NN st.nw i + 1) ((kn_iff st _).2 (.inr (.inl ⟨i, hi, .inl rfl⟩)))
      simp [at_, frameT, this]
    have p4 : p (NN st.nw i + 4) = true := hp.made _ (hT 4 (by omega)) (by
      rw [e 4 (by omega)]
      show made _ _ (4, NN st.nw i, chainAt st.nw i) = true
      rw [made_4, c, pb]; simp)
    have p5 : p (NN st.nw i + 5) = true := hp.made _ (hT 5 (by omega)) (by
      rw [e 5 (by omega)]
      show made _ _ (4, NN st.nw i, 2 * st.ep.getD i 0) = true
      rw [made_4, ee, pb]; simp)
    have p6 : p (NN st.nw i + 6) = true := hp.made _ (hT 6 (by omega)) (by
      rw [e 6 (by omega)]
      show made _ _ (1, NN st.nw i + 4, NN st.nw i + 5) = true
      rw [made_1, p4, p5]; rfl)
    have p7 : p (NN st.nw i + 7) = true := hp.made _ (hT 7 (by omega)) (by
      rw [e 7 (by omega)]
      show made _ _ (2, NN st.nw i + 6, 0) = true
      rw [made_2, p6])
    have p9 : p (NN st.nw i + 9) = true := hk _ ((kn_iff st _).2 (.inr (.inl ⟨i, hi, .inr rfl⟩)))
    have p8 : p (NN st.nw i + 8) = true := by
      have := hp.box _ (hT 9 (by omega)) p9
      rw [e 9 (by omega)] at this
      exact this rfl p7
    have := hp.pair _ (hT 8 (by omega)) p8
    rw [e 8 (by omega)] at this
    have h3 := this rfl
    exact ⟨p7, h3.2, h3.1⟩
  induction i with
  | zero =>
    have c0 : 0 ≤ st.ep.length → chainK st 0 = true → p (chainAt st.nw 0) = true := fun _ hc => by
      have hc' : (st.sn.any (fun x => (x.1 : Int) == ((0 : Nat) : Int))) = true := by simpa [chainK, lastAt] using hc
      obtain ⟨s, hs, h1⟩ := List.any_eq_true.1 hc'
      refine hk _ ((kn_iff st _).2 (.inr (.inr ⟨s, hs, .inl ?_⟩)))
      have : s.1 = 0 := by simpa using h1
      rw [this]
    exact ⟨c0, key 0 c0⟩
  | succ i ih =>
    have c0 : i + 1 ≤ st.ep.length → chainK st (i + 1) = true → p (chainAt st.nw (i + 1)) = true := fun hi hc => by
      unfold chainK at hc
      rw [Bool.or_eq_true] at hc
      rcases hc with hc | hc
      · exact (ih.2 (by omega) hc).2.2
      · obtain ⟨s, hs, h1⟩ := List.any_eq_true.1 hc
        refine hk _ ((kn_iff st _).2 (.inr (.inr ⟨s, hs, .inl ?_⟩)))
        have : s.1 = i + 1 := by have := h1; simp at this; omega
        rw [this]
    exact ⟨c0, key (i + 1) c0⟩
end Go.Proofs.Ytfflidaodnhpbaa.Led
