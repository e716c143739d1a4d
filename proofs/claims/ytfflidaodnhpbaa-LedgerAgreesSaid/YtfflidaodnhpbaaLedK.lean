/- The plain law: what is known, as a list that rises, and as marks. No program in sight. -/
import Derived.Test.YtfflidaodnhpbaaLedQ
namespace Go.Proofs.Ytfflidaodnhpbaa.Led
open Go Go.RowKit Go.Proofs.Ytfflidaodnhpbaa.Base
set_option linter.unusedVariables false
set_option linter.unusedSimpArgs false

/-- Two lists that rise strictly and have the same members are one. -/
theorem rise_eq : ∀ {a b : List Nat}, a.Pairwise (· < ·) → b.Pairwise (· < ·) → (∀ x, x ∈ a ↔ x ∈ b) → a = b
  | [], [], _, _, _ => rfl
  | [], y :: b, _, _, h => by have := (h y).2 (by simp); cases this
  | x :: a, [], _, _, h => by have := (h x).1 (by simp); cases this
  | x :: a, y :: b, ha, hb, h => by
    rw [List.pairwise_cons] at ha hb
    have hxy : x = y := by
      have h1 := (h x).1 (by simp)
      have h2 := (h y).2 (by simp)
      rcases List.mem_cons.1 h1 with e | e
      · exact e
      · rcases List.mem_cons.1 h2 with e' | e'
        · exact e'.symm
        · have := hb.1 x e
          have := ha.1 y e'
          omega
    subst hxy
    congr 1
    refine rise_eq ha.2 hb.2 (fun z => ?_)
    constructor
    · intro hz
      rcases List.mem_cons.1 ((h z).1 (List.mem_cons_of_mem _ hz)) with e | e
      · have := ha.1 z hz; omega
      · exact e
    · intro hz
      rcases List.mem_cons.1 ((h z).2 (List.mem_cons_of_mem _ hz)) with e | e
      · have := hb.1 z hz; omega
      · exact e
theorem get_bang (l : List Nat) (i : Nat) (h : i < l.length) : l.toArray[i]! = l[i] := by simp [h]

theorem compact_rise (l : List Nat) (hs : l.Pairwise (· ≤ ·)) : (Lib.compact l).Pairwise (· < ·) := by
  unfold Lib.compact Lib.compactUpTo
  rw [List.pairwise_map]
  have h0 : ((List.range l.length).filter (Lib.keeps l.toArray)).Pairwise (· < ·) := List.Pairwise.filter _ List.pairwise_lt_range
  refine List.Pairwise.imp_of_mem (fun {i j} hi hj hij => ?_) h0
  simp only [List.mem_filter, List.mem_range] at hi hj
  have hk := hj.2
  simp only [Lib.keeps, decide_eq_true_eq] at hk
  rw [get_bang l i hi.1, get_bang l j hj.1]
  rcases hk with hk | hk
  · omega
  · rw [get_bang l j hj.1, get_bang l (j - 1) (by omega)] at hk
    have h2 : l[j - 1] ≤ l[j] := List.pairwise_iff_getElem.1 hs (j - 1) j (by omega) hj.1 (by omega)
    have h1 : l[i] ≤ l[j - 1] := by
      rcases Nat.lt_or_ge i (j - 1) with g | g
      · exact List.pairwise_iff_getElem.1 hs i (j - 1) hi.1 (by omega) g
      · have e : i = j - 1 := by omega
        subst e; exact Nat.le_refl _
    omega
theorem mem_compact (l : List Nat) (x : Nat) : x ∈ Lib.compact l ↔ x ∈ l := by
  unfold Lib.compact Lib.compactUpTo
  simp only [List.mem_map, List.mem_filter, List.mem_range]
  constructor
  · rintro ⟨i, ⟨hi, _⟩, rfl⟩
    rw [get_bang l i hi]; exact List.getElem_mem hi
  · intro hx
    obtain ⟨i, hi, he⟩ := List.getElem_of_mem hx
    have : ∀ n, ∀ i (hi : i < l.length), i ≤ n → l[i] = x → ∃ a, (a < l.length ∧ Lib.keeps l.toArray a = true) ∧ l.toArray[a]! = x := by
      intro n
      induction n with
      | zero =>
        intro i hi hn he
        obtain rfl : i = 0 := by omega
        exact ⟨0, ⟨hi, by simp [Lib.keeps]⟩, by rw [get_bang l 0 hi]; exact he⟩
      | succ n ih =>
        intro i hi hn he
        by_cases h0 : i = 0
        · exact ih i hi (by omega) he
        · by_cases hp : l[i - 1]'(by omega) = x
          · exact ih (i - 1) (by omega) (by omega) hp
          · refine ⟨i, ⟨hi, ?_⟩, by rw [get_bang l i hi]; exact he⟩
            simp only [Lib.keeps, decide_eq_true_eq]
            right
            rw [get_bang l i hi, get_bang l (i - 1) (by omega), he]
            exact fun e => hp e.symm
    exact this i i hi (Nat.le_refl _) he
theorem srt_sorted (l : List Nat) : (srt l).Pairwise (· ≤ ·) := by
  unfold srt
  have := List.pairwise_mergeSort (le := fun x y : Nat => decide (x ≤ y)) (by intro a b c; simp; omega) (by intro a b; simp; omega) l
  exact this.imp (fun h => by simpa using h)
theorem mem_srt (l : List Nat) (x : Nat) : x ∈ srt l ↔ x ∈ l := by unfold srt; exact (List.mergeSort_perm l _).mem_iff
/-- The places of publics and boxes are just those in l. -/
structure PP (T : List (Nat × Nat × Nat)) (l : List Nat) : Prop where
  iff : ∀ i, i < T.length → (isP (T.getD i (0, 0, 0)) = true ↔ i ∈ l)
  lt : ∀ i ∈ l, i < T.length
theorem PP.app {T B : List (Nat × Nat × Nat)} {l lb : List Nat} (h : PP T l) (hB : ∀ j, j < B.length → (isP (B.getD j (0, 0, 0)) = true ↔ T.length + j ∈ lb)) (hlb : ∀ x ∈ lb, T.length ≤ x ∧ x < T.length + B.length) : PP (T ++ B) (l ++ lb) := by
  refine ⟨fun i hi => ?_, fun i hi => ?_⟩
  · rw [List.length_append] at hi
    rw [List.mem_append]
    by_cases hit : i < T.length
    · have e : (T ++ B).getD i (0, 0, 0) = T.getD i (0, 0, 0) := by simp [List.getD, List.getElem?_append_left hit]
      rw [e, h.iff i hit]
      constructor
      · exact .inl
      · rintro (g | g)
        · exact g
        · have := hlb i g; omega
    · have e : (T ++ B).getD i (0, 0, 0) = B.getD (i - T.length) (0, 0, 0) := by simp [List.getD, List.getElem?_append_right (show T.length ≤ i by omega)]
      rw [e, hB _ (by omega)]
      have e2 : T.length + (i - T.length) = i := by omega
      rw [e2]
      constructor
      · exact .inr
      · rintro (g | g)
        · have := h.lt i g; omega
        · exact g
  · rw [List.length_append]
    rcases List.mem_append.1 hi with g | g
    · have := h.lt i g; omega
    · exact (hlb i g).2
theorem PP_sec : ∀ k, PP (secT k) (secK k)
  | 0 => ⟨fun i hi => by simp [secT] at hi, fun i hi => by simp [secK] at hi⟩
  | k + 1 => by
    rw [secT_succ, secK_succ]
    refine (PP_sec k).app (fun j hj => ?_) (fun x hx => ?_)
    · rw [secT_length]
      match j, hj with
      | 0, _ => simp [isP]
      | 1, _ => simp [isP]
    · rw [secT_length]
      simp only [List.mem_singleton] at hx
      subst hx
      simp
theorem PP_fr (M : Nat) (ep : List Nat) : ∀ k, PP (secT (M + 2) ++ frT M ep k) (secK (M + 2) ++ frK M k)
  | 0 => by simpa [frT, frK] using PP_sec (M + 2)
  | k + 1 => by
    have hl : (secT (M + 2) ++ frT M ep k).length = NN M k := by simp [secT_length, frT_length, NN]
    rw [frT_succ, frK_succ, ← List.append_assoc, ← List.append_assoc]
    refine (PP_fr M ep k).app (fun j hj => ?_) (fun x hx => ?_)
    · rw [hl]
      generalize NN M k = n
      match j, hj with
      | 0, _ => simp [isP, frameT]
      | 1, _ => simp [isP, frameT]
      | 2, _ => simp [isP, frameT]
      | 3, _ => simp [isP, frameT]
      | 4, _ => simp [isP, frameT]
      | 5, _ => simp [isP, frameT]
      | 6, _ => simp [isP, frameT]
      | 7, _ => simp [isP, frameT]
      | 8, _ => simp [isP, frameT]
      | 9, _ => simp [isP, frameT]
    · rw [hl]
      simp only [List.mem_cons, List.not_mem_nil, or_false] at hx
      rcases hx with rfl | rfl <;> simp [frameT]
theorem getD_set (K : List Bool) (m i : Nat) (b : Bool) : (K.set m b).getD i false = if m = i ∧ i < K.length then b else K.getD i false := by
  simp only [List.getD, List.getElem?_set]
  by_cases h : m = i
  · subst h
    by_cases h2 : m < K.length
    · simp [h2]
    · simp [h2]
  · simp [h]
theorem marks_get (K : List Bool) (lo i : Nat) (hi : i < K.length) : ∀ n, (marks K lo n).getD i false = true ↔ (K.getD i false = true ∨ ∃ j, j < n ∧ i = 2 * (lo + j))
  | 0 => by simp [marks]
  | n + 1 => by
    rw [marks_succ, getD_set, marks_length]
    by_cases h : 2 * (lo + n) = i
    · rw [if_pos ⟨h, hi⟩]
      simp only [true_iff]
      exact .inr ⟨n, by omega, h.symm⟩
    · rw [if_neg (fun g => h g.1), marks_get K lo i hi n]
      constructor
      · rintro (g | ⟨j, g1, g2⟩)
        · exact .inl g
        · exact .inr ⟨j, by omega, g2⟩
      · rintro (g | ⟨j, g1, g2⟩)
        · exact .inl g
        · refine .inr ⟨j, ?_, g2⟩
          rcases Nat.lt_or_ge j n with q | q
          · exact q
          · have : j = n := by omega
            subst this; exact absurd g2.symm h
theorem knownR_get (L : List Nat) (i : Nat) (hi : i < (TT L (cnt L 1 L.length)).length) : ∀ k, (knownR L k).getD i false = true ↔
    (isP ((TT L (cnt L 1 L.length)).getD i (0, 0, 0)) = true ∨ ∃ a, a < k ∧ L.getD a 0 = 5 ∧ (i = chainAt (cnt L 3 L.length) (cnt L 2 a) ∨ ∃ e, liveR L a ≤ e ∧ e ≤ cnt L 3 a ∧ i = 2 * e))
  | 0 => by
    unfold knownR
    simp [List.getD, hi]
  | k + 1 => by
    have ih := knownR_get L i hi k
    unfold knownR
    by_cases h5 : L.getD k 0 = 5
    · rw [if_pos h5, marks_get _ _ _ (by rw [List.length_set, knownR_length]; exact hi), getD_set, knownR_length]
      constructor
      · rintro (g | ⟨j, g1, g2⟩)
        · split at g
          · rename_i q
            exact .inr ⟨k, by omega, h5, .inl q.1.symm⟩
          · rcases ih.1 g with q | ⟨a, q1, q2⟩
            · exact .inl q
            · exact .inr ⟨a, by omega, q2⟩
        · exact .inr ⟨k, by omega, h5, .inr ⟨_, by omega, by omega, g2⟩⟩
      · rintro (g | ⟨a, g1, g2, g3⟩)
        · left
          split
          · rfl
          · exact ih.2 (.inl g)
        · rcases Nat.lt_or_ge a k with q | q
          · left
            split
            · rfl
            · exact ih.2 (.inr ⟨a, q, g2, g3⟩)
          · obtain rfl : a = k := by omega
            rcases g3 with g3 | ⟨e, e1, e2, e3⟩
            · left
              rw [if_pos ⟨g3.symm, hi⟩]
            · exact .inr ⟨e - liveR L a, by omega, by rw [e3]; congr 1; omega⟩
    · rw [if_neg h5, ih]
      constructor
      · rintro (g | ⟨a, g1, g2⟩)
        · exact .inl g
        · exact .inr ⟨a, by omega, g2⟩
      · rintro (g | ⟨a, g1, g2⟩)
        · exact .inl g
        · refine .inr ⟨a, ?_, g2⟩
          rcases Nat.lt_or_ge a k with q | q
          · exact q
          · have : a = k := by omega
            subst this; exact absurd g2.1 h5

/-- What is known in terms: the marked places, in their order. -/
def allOf (K : List Bool) : List Nat := (List.range K.length).filter fun i => K.getD i false
theorem Agree.known {st : LSt} {L : List Nat} (h : Agree st L) : (finR st).kn = allOf (knownR L L.length) := by
  have hsn := h.seen
  have hpp := PP_fr st.nw st.ep st.ep.length
  have hTT : TT L (cnt L 1 L.length) = secT (st.nw + 2) ++ frT st.nw st.ep st.ep.length := by unfold TT; rw [← h.eps, ← h.a1, ← h.a3]
  have hN : (secT (st.nw + 2) ++ frT st.nw st.ep st.ep.length).length = NN st.nw st.ep.length := by simp [secT_length, frT_length, NN]
  have ekn : (stC st.nw st st.sn.length).kn = (secK (st.nw + 2) ++ frK st.nw st.ep.length) ++ st.sn.flatMap (seenE st.nw) := by simp [stC, stB]
  unfold finR
  simp only
  refine rise_eq (compact_rise _ (srt_sorted _)) (List.Pairwise.filter _ List.pairwise_lt_range) (fun i => ?_)
  rw [mem_compact, mem_srt, ekn, List.mem_append]
  simp only [allOf, List.mem_filter, List.mem_range, knownR_length]
  have mem5 : ∀ i, i ∈ st.sn.flatMap (seenE st.nw) ↔ ∃ a, a < L.length ∧ L.getD a 0 = 5 ∧ (i = chainAt st.nw (cnt L 2 a) ∨ ∃ e, liveR L a ≤ e ∧ e ≤ cnt L 3 a ∧ i = 2 * e) := fun i => by
    rw [List.mem_flatMap]
    constructor
    · rintro ⟨x, hx, hi⟩
      have hb := hsn x hx
      rw [h.a5] at hx
      obtain ⟨a, ha, hx⟩ := List.mem_filterMap.1 hx
      split at hx
      · rename_i h5
        injection hx with hx
        subst hx
        refine ⟨a, by simpa using ha, h5, ?_⟩
        simp only [seenE, List.mem_cons] at hi
        rcases hi with hi | hi
        · exact .inl hi
        · right
          simp only at hb
          obtain ⟨j, hj, he⟩ := List.getElem_of_mem hi
          simp only [List.length_drop, List.length_take, evens_length] at hj
          refine ⟨liveR L a + j, by omega, by omega, ?_⟩
          rw [← he]
          simp [evens]
      · cases hx
    · rintro ⟨a, ha, h5, hi⟩
      have hx : (cnt L 2 a, liveR L a, cnt L 3 a) ∈ st.sn := by
        rw [h.a5]
        exact List.mem_filterMap.2 ⟨a, by simpa using ha, by rw [if_pos h5]⟩
      have hb := hsn _ hx
      refine ⟨_, hx, ?_⟩
      simp only [seenE, List.mem_cons]
      rcases hi with hi | ⟨e, e1, e2, e3⟩
      · exact .inl hi
      · right
        simp only at hb
        rw [List.mem_iff_getElem]
        refine ⟨e - liveR L a, by simp only [List.length_drop, List.length_take, evens_length]; omega, ?_⟩
        rw [e3]
        simp [evens]
        omega
  constructor
  · rintro (g | g)
    · have hi := hpp.lt i g
      rw [hTT]
      refine ⟨hi, (knownR_get L i (by rw [hTT]; exact hi) _).2 (.inl ?_)⟩
      rw [hTT]
      exact (hpp.iff i hi).2 g
    · have g' := (mem5 i).1 g
      have hi : i < NN st.nw st.ep.length := by
        obtain ⟨a, ha, h5, g2⟩ := g'
        rcases g2 with g2 | ⟨e, e1, e2, e3⟩
        · rw [g2]
          exact chainAt_lt rfl (by rw [h.a1]; exact Nat.le_trans (h.a6 a (by omega)) (cnt_mono L 1 (by omega)))
        · have := cnt_mono L 3 (show a ≤ L.length by omega)
          have := h.a3
          unfold NN
          omega
      rw [hTT, hN]
      refine ⟨hi, (knownR_get L i (by rw [hTT, hN]; exact hi) _).2 (.inr ?_)⟩
      rw [← h.a3]
      exact g'
  · rintro ⟨hi, g⟩
    rcases (knownR_get L i hi _).1 g with g | g
    · left
      rw [hTT] at hi g
      exact (hpp.iff i hi).1 g
    · right
      rw [← h.a3] at g
      exact (mem5 i).2 g
end Go.Proofs.Ytfflidaodnhpbaa.Led
