/- The plain law: the ledger's state against the list of events. No program in sight. -/
import Derived.Test.YtfflidaodnhpbaaLedT
namespace Go.Proofs.Ytfflidaodnhpbaa.Led
open Go Go.RowKit Go.Proofs.Ytfflidaodnhpbaa.Base
set_option linter.unusedVariables false
set_option linter.unusedSimpArgs false

theorem cnt_app (L : List Nat) (x kind n : Nat) (h : n ≤ L.length) : cnt (L ++ [x]) kind n = cnt L kind n := by
  unfold cnt; rw [List.take_append_of_le_length h]
theorem cnt_last (L : List Nat) (x kind : Nat) : cnt (L ++ [x]) kind (L.length + 1) = cnt L kind L.length + (if x = kind then 1 else 0) := by
  rw [cnt_succ _ _ _ (by simp), cnt_app _ _ _ _ (Nat.le_refl _)]
  simp [List.getD]
theorem getD_app (L : List Nat) (x a : Nat) (h : a < L.length) : (L ++ [x]).getD a 0 = L.getD a 0 := by
  simp [List.getD, List.getElem?_append_left h]
theorem getD_last (L : List Nat) (x : Nat) : (L ++ [x]).getD L.length 0 = x := by simp [List.getD]

theorem find_congr {α : Type} {p q : α → Bool} : ∀ {l : List α}, (∀ a ∈ l, p a = q a) → l.find? p = l.find? q
  | [], _ => rfl
  | a :: l, h => by
    have h1 := h a (by simp)
    have h2 := find_congr (l := l) (fun b hb => h b (by simp [hb]))
    simp only [List.find?_cons, h1, h2]
theorem filterMap_congr {α β : Type} {f g : α → Option β} : ∀ {l : List α}, (∀ a ∈ l, f a = g a) → l.filterMap f = l.filterMap g
  | [], _ => rfl
  | a :: l, h => by
    have h1 := h a (by simp)
    have h2 := filterMap_congr (l := l) (fun b hb => h b (by simp [hb]))
    simp only [List.filterMap_cons, h1, h2]
def findE (L : List Nat) (i : Nat) : Option Nat := (List.range L.length).find? (fun a => L.getD a 0 == 1 && cnt L 1 (a + 1) == i)
theorem epR_find (L : List Nat) (i : Nat) : epR L i = match findE L i with | some a => cnt L 3 a | none => 0 := rfl
theorem findE_app (L : List Nat) (x i : Nat) : findE (L ++ [x]) i = (findE L i).or (if x = 1 ∧ cnt L 1 L.length + 1 = i then some L.length else none) := by
  unfold findE
  rw [List.length_append, List.length_singleton, List.range_succ, List.find?_append]
  congr 1
  · apply find_congr
    intro a ha
    have ha' : a < L.length := by simpa using ha
    rw [getD_app _ _ _ ha', cnt_app _ _ _ _ (by omega)]
  · rw [List.find?_singleton, getD_last, cnt_last]
    by_cases h1 : x = 1
    · subst h1
      by_cases h2 : cnt L 1 L.length + 1 = i
      · simp [h2]
      · simp [h2]
    · simp [h1]

structure Agree (st : LSt) (L : List Nat) : Prop where
  ok : LOk st
  a1 : st.ep.length = cnt L 1 L.length
  a2 : st.got = cnt L 2 L.length
  a3 : st.nw = cnt L 3 L.length
  a4 : ∀ i, i < st.ep.length → ∃ a, findE L (i + 1) = some a ∧ a < L.length ∧ st.ep.getD i 0 = cnt L 3 a
  a5 : st.sn = (List.range L.length).filterMap (fun a => if L.getD a 0 = 5 then some (cnt L 2 a, liveR L a, cnt L 3 a) else none)
  a6 : ∀ a, a ≤ L.length → cnt L 2 a ≤ cnt L 1 a

theorem Agree.ep {st : LSt} {L : List Nat} (h : Agree st L) (i : Nat) (hi : i < st.ep.length) : st.ep.getD i 0 = epR L (i + 1) := by
  obtain ⟨a, h1, _, h2⟩ := h.a4 i hi
  rw [epR_find, h1, h2]
theorem Agree.oldest {st : LSt} {L : List Nat} (h : Agree st L) : oldest st = liveR L L.length := by
  unfold Led.oldest liveR
  rw [← h.a2]
  split
  · rfl
  · have := h.ok.got
    rw [h.ep _ (by omega)]
    congr 1; omega
theorem Agree.epR_app {st : LSt} {L : List Nat} (h : Agree st L) (x i : Nat) (h1 : 1 ≤ i) (h2 : i ≤ st.ep.length) : epR (L ++ [x]) i = epR L i := by
  obtain ⟨a, g1, g2, _⟩ := h.a4 (i - 1) (by omega)
  have e : i - 1 + 1 = i := by omega
  rw [e] at g1
  rw [epR_find, epR_find, findE_app, g1]
  simp only [Option.some_or]
  exact cnt_app _ _ _ _ (by omega)
theorem Agree.liveR_app {st : LSt} {L : List Nat} (h : Agree st L) (x a : Nat) (ha : a ≤ L.length) : liveR (L ++ [x]) a = liveR L a := by
  unfold liveR
  rw [cnt_app _ _ _ _ ha]
  split
  · rfl
  · exact h.epR_app x _ (by omega) (by rw [h.a1]; exact Nat.le_trans (h.a6 a ha) (cnt_mono L 1 ha))

theorem agree_nil : Agree ⟨[], 0, 0, []⟩ [] := by
  refine ⟨⟨by simp, by simp, by simp, by simp, by simp⟩, by simp [cnt], by simp [cnt], by simp [cnt], by simp, by simp, fun a h => by simp [cnt]⟩

/-- What stays alike behind one event more. -/
theorem Agree.sn_app {st : LSt} {L : List Nat} (h : Agree st L) (x : Nat) : (List.range (L ++ [x]).length).filterMap (fun a => if (L ++ [x]).getD a 0 = 5 then some (cnt (L ++ [x]) 2 a, liveR (L ++ [x]) a, cnt (L ++ [x]) 3 a) else none) =
    st.sn ++ (if x = 5 then [(cnt L 2 L.length, liveR L L.length, cnt L 3 L.length)] else []) := by
  rw [List.length_append, List.length_singleton, List.range_succ, List.filterMap_append, h.a5]
  congr 1
  · apply filterMap_congr
    intro a ha
    have ha' : a < L.length := by simpa using ha
    rw [getD_app _ _ _ ha', cnt_app _ _ _ _ (by omega), cnt_app _ _ _ _ (by omega), h.liveR_app _ _ (by omega)]
  · simp only [List.filterMap_cons, List.filterMap_nil, getD_last, cnt_app _ _ _ _ (Nat.le_refl _), h.liveR_app x _ (Nat.le_refl _)]
    by_cases h5 : x = 5 <;> simp [h5]
theorem Agree.live_le {st : LSt} {L : List Nat} (h : Agree st L) (a : Nat) (ha : a ≤ L.length) : liveR L a ≤ cnt L 3 a := by
  unfold liveR
  split
  · omega
  · rename_i h0
    have h6 := h.a6 a ha
    have hm := cnt_mono L 1 ha
    obtain ⟨b, g1, g2, g3⟩ := h.a4 (cnt L 2 a - 1) (by rw [h.a1]; omega)
    have e : cnt L 2 a - 1 + 1 = cnt L 2 a := by omega
    rw [e] at g1
    rw [epR_find, g1]
    have g4 := List.find?_some g1
    simp only [Bool.and_eq_true, beq_iff_eq] at g4
    have hs := cnt_succ L 1 b g2
    rw [if_pos g4.1] at hs
    have hba : b < a := by
      rcases Nat.lt_or_ge b a with g | g
      · exact g
      · have := cnt_mono L 1 g
        omega
    exact cnt_mono L 3 (by omega)
theorem Agree.sn_len {st : LSt} {L : List Nat} (h : Agree st L) : st.sn.length ≤ L.length := by
  rw [h.a5]
  exact Nat.le_trans (List.length_filterMap_le _ _) (by simp)

/-- One event: both sides answer alike, and agree behind it. -/
theorem Agree.step {st : LSt} {L : List Nat} (h : Agree st L) (hL : L.length ≤ 29) (x : Int) : doE st x = doRE L x ∧ Agree (doS st x) (doRS L x) ∧ (doRS L x).length ≤ L.length + 1 := by
  have e : doE st x = doRE L x := by unfold doE doRE; rw [h.a1, h.a2, h.a3]
  have hsl := h.sn_len
  refine ⟨e, ?_, by unfold doRS; split <;> simp⟩
  have ok := h.ok
  by_cases hz : doRE L x = 0
  · have hR : doRS L x = L ++ [x.toNat] := by unfold doRS; rw [if_pos hz]
    rw [hR]
    rw [← e] at hz
    have hl1 : (L ++ [x.toNat]).length = L.length + 1 := by simp
    have hx5 : ∀ n : Nat, x = (n : Int) → x.toNat = n := fun n hn => by rw [hn]; rfl
    have old4 : ∀ i, i < st.ep.length → ∃ a, findE (L ++ [x.toNat]) (i + 1) = some a ∧ a < (L ++ [x.toNat]).length ∧ st.ep.getD i 0 = cnt (L ++ [x.toNat]) 3 a := fun i hi => by
      obtain ⟨a, g1, g2, g3⟩ := h.a4 i hi
      exact ⟨a, by rw [findE_app, g1]; rfl, by omega, by rw [cnt_app _ _ _ _ (by omega)]; exact g3⟩
    have old6 : ∀ a, a ≤ L.length → cnt (L ++ [x.toNat]) 2 a ≤ cnt (L ++ [x.toNat]) 1 a := fun a ha => by
      rw [cnt_app _ _ _ _ ha, cnt_app _ _ _ _ ha]
      exact h.a6 a ha
    have snn := h.sn_app x.toNat
    by_cases h1 : x = 1
    · have hx := hx5 1 h1
      rw [h1] at hz ⊢
      simp only [doE, if_true] at hz
      have h6 : ¬ 6 ≤ st.ep.length := by intro g; rw [if_pos g] at hz; omega
      have hS : doS st 1 = { st with ep := st.ep ++ [st.nw] } := by simp [doS, h6]
      rw [hS]
      rw [hx] at old4 old6 snn hl1
      show Agree _ (L ++ [1])
      refine ⟨⟨?_, ?_, ok.nw, ?_, ok.sn⟩, ?_, ?_, ?_, ?_, ?_, ?_⟩
      · have := ok.got; simp; omega
      · simp; omega
      · intro y hy
        simp only [List.mem_append, List.mem_singleton] at hy
        rcases hy with hy | rfl
        · exact ok.eps y hy
        · exact Nat.le_refl _
      · rw [hl1, cnt_last]; simp [h.a1]
      · rw [hl1, cnt_last]; simp [h.a2]
      · rw [hl1, cnt_last]; simp [h.a3]
      · intro i hi
        simp only [List.length_append, List.length_singleton] at hi
        by_cases hi' : i < st.ep.length
        · obtain ⟨a, g1, g2, g3⟩ := old4 i hi'
          refine ⟨a, g1, g2, ?_⟩
          rw [← g3]
          simp [List.getD, List.getElem?_append_left hi']
        · obtain rfl : i = st.ep.length := by omega
          refine ⟨L.length, ?_, by simp, ?_⟩
          · have hn : findE L (st.ep.length + 1) = none := by
              unfold findE
              rw [List.find?_eq_none]
              intro a ha
              have ha' : a < L.length := by simpa using ha
              have := cnt_mono L 1 (show a + 1 ≤ L.length by omega)
              simp only [Bool.and_eq_true, beq_iff_eq]
              rintro ⟨-, g⟩
              have := h.a1
              omega
            rw [findE_app, hn, h.a1]
            simp
          · rw [cnt_app _ _ _ _ (Nat.le_refl _), ← h.a3]
            simp [List.getD]
      · rw [snn]; simp
      · intro a ha
        rw [hl1] at ha
        by_cases ha' : a ≤ L.length
        · exact old6 a ha'
        · obtain rfl : a = L.length + 1 := by omega
          rw [cnt_last, cnt_last]
          have := h.a6 L.length (Nat.le_refl _)
          simp
          omega
    · by_cases h2 : x = 2
      · have hx := hx5 2 h2
        rw [h2] at hz ⊢
        simp only [doE, if_true] at hz
        have h6 : ¬ st.ep.length ≤ st.got := by intro g; simp [g] at hz
        have hS : doS st 2 = { st with got := st.got + 1 } := by simp [doS, h6]
        rw [hS]
        rw [hx] at old4 old6 snn hl1
        show Agree _ (L ++ [2])
        refine ⟨⟨?_, ok.len, ok.nw, ok.eps, ok.sn⟩, ?_, ?_, ?_, old4, ?_, ?_⟩
        · show st.got + 1 ≤ st.ep.length; omega
        · rw [hl1, cnt_last]; simp [h.a1]
        · rw [hl1, cnt_last]; simp [h.a2]
        · rw [hl1, cnt_last]; simp [h.a3]
        · rw [snn]; simp
        · intro a ha
          rw [hl1] at ha
          by_cases ha' : a ≤ L.length
          · exact old6 a ha'
          · obtain rfl : a = L.length + 1 := by omega
            rw [cnt_last, cnt_last]
            have := h.a1
            have := h.a2
            simp
            omega
      · have h2' : ∀ a, a ≤ (L ++ [x.toNat]).length → cnt (L ++ [x.toNat]) 2 a ≤ cnt (L ++ [x.toNat]) 1 a := fun a ha => by
          rw [hl1] at ha
          by_cases ha' : a ≤ L.length
          · exact old6 a ha'
          · obtain rfl : a = L.length + 1 := by omega
            rw [cnt_last, cnt_last, if_neg (show ¬ x.toNat = 2 by omega)]
            have := h.a6 L.length (Nat.le_refl _)
            omega
        by_cases h3 : x = 3
        · have hx := hx5 3 h3
          rw [h3] at hz ⊢
          simp only [doE, if_true] at hz
          have h6 : ¬ 6 ≤ st.nw := by intro g; simp [g] at hz
          have hS : doS st 3 = { st with nw := st.nw + 1 } := by simp [doS, h6]
          rw [hS]
          rw [hx] at old4 h2' snn hl1
          show Agree _ (L ++ [3])
          refine ⟨⟨ok.got, ok.len, ?_, fun y hy => Nat.le_succ_of_le (ok.eps y hy), ok.sn⟩, ?_, ?_, ?_, old4, ?_, h2'⟩
          · show st.nw + 1 ≤ 6; omega
          · rw [hl1, cnt_last]; simp [h.a1]
          · rw [hl1, cnt_last]; simp [h.a2]
          · rw [hl1, cnt_last]; simp [h.a3]
          · rw [snn]; simp
        · by_cases h5 : x = 5
          · have hx := hx5 5 h5
            have hS : doS st x = { st with sn := st.sn ++ [(st.got, Led.oldest st, st.nw)] } := by simp [doS, h5]
            rw [hS]
            rw [hx] at old4 h2' snn hl1 ⊢
            refine ⟨⟨ok.got, ok.len, ok.nw, ok.eps, ?_⟩, ?_, ?_, ?_, old4, ?_, h2'⟩
            · show (st.sn ++ [_]).length ≤ 30; simp; omega
            · rw [hl1, cnt_last]; simp [h.a1]
            · rw [hl1, cnt_last]; simp [h.a2]
            · rw [hl1, cnt_last]; simp [h.a3]
            · rw [snn, h.oldest, h.a2, h.a3]; simp
          · have h4 : x = 4 := by
              simp only [doE, if_neg h1, if_neg h2, if_neg h3, if_neg h5] at hz
              by_cases h4 : x = 4
              · exact h4
              · rw [if_neg h4] at hz; omega
            have hx := hx5 4 h4
            have hS : doS st x = st := by simp [doS, h4]
            rw [hS]
            rw [hx] at old4 h2' snn hl1 ⊢
            refine ⟨ok, ?_, ?_, ?_, old4, ?_, h2'⟩
            · rw [hl1, cnt_last]; simp [h.a1]
            · rw [hl1, cnt_last]; simp [h.a2]
            · rw [hl1, cnt_last]; simp [h.a3]
            · rw [snn]; simp
  · have hR : doRS L x = L := by unfold doRS; rw [if_neg hz]
    have hS : doS st x = st := by
      rw [← e] at hz
      unfold doE at hz
      unfold doS
      split
      · rename_i h1; rw [if_pos h1] at hz
        split
        · rfl
        · rename_i g; rw [if_neg g] at hz; omega
      · rename_i h1; rw [if_neg h1] at hz
        split
        · rename_i h2; rw [if_pos h2] at hz
          split
          · rfl
          · rename_i g; rw [if_neg g] at hz; omega
        · rename_i h2; rw [if_neg h2] at hz
          split
          · rename_i h3; rw [if_pos h3] at hz
            split
            · rfl
            · rename_i g; rw [if_neg g] at hz; omega
          · rename_i h3; rw [if_neg h3] at hz
            split
            · rename_i h5; subst h5; simp at hz
            · rfl
    rw [hR, hS]; exact h
end Go.Proofs.Ytfflidaodnhpbaa.Led
