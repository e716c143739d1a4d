/- Walks: what leaks, and which epochs are live. -/
import Derived.Test.YtfflidaodnhpbaaLedC
namespace Go.Proofs.Ytfflidaodnhpbaa.Led
open Go Go.RowKit Go.Proofs.Ytfflidaodnhpbaa.Base Go.Proofs.Ytfflidaodnhpbaa.Draw
set_option linter.unusedVariables false
set_option linter.unusedSimpArgs false

theorem contains_calls {w : World} {v q : Value} {n : Nat} {xs : List (Nat × Nat × Nat)} (h : Sl w 3 v xs.length (snv xs)) (hn : xs.length ≤ 1000) (p : Nat × Nat × Nat → Bool)
    (hf : ∀ W x, Below w.heap.size w W → Calls Try.prog n #[snc x, q] W fun e w' => e = .returned (.bool (p x)) ∧ Below W.heap.size W w') 
    (hE : ∀ args W, (callFunc n args).run Try.prog W = .ok (.enter n args) W) :
    Calls Try.prog 20 #[v, .func (.func n) #[] #[q]] w fun e w' => e = .returned (.bool (xs.any p)) ∧ Below w.heap.size w w' := by
  have hi := index_calls h hn p hf hE
  have HI := Lib.hid hi
  clear hi hf h
  go_enter Try.func20, Try.ntmps20
  go_wp2_with fail
  refine HI.out.mono ?_
  rintro e w1 ⟨rfl, hb⟩
  go_wp2_with fail
  go_ret
  refine ⟨?_, hb⟩
  have : (decide (0 ≤ idxP p xs)) = xs.any p := by
    unfold idxP
    cases hx : xs.findIdx? p with
    | none =>
      rw [List.findIdx?_eq_none_iff] at hx
      simp only [Int.reduceNeg, Int.reduceLE, decide_false]
      symm
      rw [List.any_eq_false]
      intro x hx'
      simp [hx x hx']
    | some i =>
      rw [List.findIdx?_eq_some_iff_getElem] at hx
      obtain ⟨h1, h2, _⟩ := hx
      have : xs.any p = true := List.any_eq_true.2 ⟨_, List.getElem_mem h1, h2⟩
      rw [this]; simp
  simp [this]

theorem leak1_calls {w : World} {c : Nat} {i : Int} (hc : w.cell? ⟨c, 0, none⟩ = some (.int .i64 i)) (x : Nat × Nat × Nat) :
    Calls Try.prog 21 #[snc x, .pointer (some ⟨c, 0, none⟩)] w fun e w' => e = .returned (.bool ((x.1 : Int) == i)) ∧ Below w.heap.size w w' := by
  have hlt := cell_lt hc
  obtain ⟨a, b, d⟩ := x
  unfold snc
  go_enter Try.func21, Try.ntmps21
  go_wp2_with fail
  go_ret
  exact ⟨rfl, (Below.refl _ _).alloc (Nat.le_refl _) _⟩

theorem leak2_calls {w : World} {c : Nat} {i : Nat} (hc : w.cell? ⟨c, 0, none⟩ = some (.int .i64 (i : Int))) (x : Nat × Nat × Nat) :
    Calls Try.prog 22 #[snc x, .pointer (some ⟨c, 0, none⟩)] w fun e w' => e = .returned (.bool (decide (x.2.1 ≤ i) && decide (i ≤ x.2.2))) ∧ Below w.heap.size w w' := by
  have hlt := cell_lt hc
  obtain ⟨a, b, d⟩ := x
  unfold snc
  by_cases h1 : b ≤ i
  · have g1 : decide ((b : Int) ≤ (i : Int)) = true := by simp; omega
    by_cases h2 : i ≤ d
    · have g2 : decide ((i : Int) ≤ (d : Int)) = true := by simp; omega
      go_enter Try.func22, Try.ntmps22
      go_wp2_with fail
      go_ret
      exact ⟨by simp [h1, h2], (Below.refl _ _).alloc (Nat.le_refl _) _⟩
    · have g2 : decide ((i : Int) ≤ (d : Int)) = false := by simp; omega
      go_enter Try.func22, Try.ntmps22
      go_wp2_with fail
      go_ret
      exact ⟨by simp [h1, h2], (Below.refl _ _).alloc (Nat.le_refl _) _⟩
  · have g1 : decide ((b : Int) ≤ (i : Int)) = false := by simp; omega
    go_enter Try.func22, Try.ntmps22
    go_wp2_with fail
    go_ret
    exact ⟨by simp [h1], (Below.refl _ _).alloc (Nat.le_refl _) _⟩

/-- Does the k-th frame leak (k from 1 on)? -/
def lastAt (st : LSt) : Nat → Bool
  | 0 => false
  | k + 1 => (lastAt st k || st.sn.any (fun x => (x.1 : Int) == (k : Int))) && st.sn.any (fun x => decide (x.2.1 ≤ st.ep.getD k 0) && decide (st.ep.getD k 0 ≤ x.2.2))
def leaked (st : LSt) (n : Nat) : List Bool := (List.range n).map fun i => lastAt st (i + 1)
def bools (l : List Bool) : List Value := l.map .bool

theorem ty_bools : SlTy Try.prog 33 4 (.bool false) 1 1 := ⟨Try.underlying33, by kernel_rfl, rfl, by decide⟩

theorem leaked_succ (st : LSt) (n : Nat) : leaked st (n + 1) = leaked st n ++ [lastAt st (n + 1)] := by simp [leaked, List.range_succ]
theorem leaked_length (st : LSt) (n : Nat) : (leaked st n).length = n := by simp [leaked]

theorem enter67 (args : Array Value) (W : World) : (callFunc 21 args).run Try.prog W = .ok (.enter 21 args) W := by
  simp [go_sem]
theorem enter68 (args : Array Value) (W : World) : (callFunc 22 args).run Try.prog W = .ok (.enter 22 args) W := by
  simp [go_sem]

set_option maxRecDepth 100000 in
set_option maxHeartbeats 2000000 in
theorem leaked_calls {w : World} {g : Nat} {F : Nat → Prop} {st : LSt} {ve vs : Value} (h : LRep w g F st ve vs) (ok : LOk st) :
    Calls Try.prog 7 #[.pointer (some ⟨g, 0, none⟩)] w fun e w' => ∃ v, e = .returned v ∧ w'.ownsRow w.heap.size 4 1 v st.ep.length (bools (leaked st st.ep.length)) ∧ Below w.heap.size w w' := by
  have c0 := h.blk.cell 0
  have hlt := h.blk.lt
  simp only [List.getElem?_toArray, List.getElem?_cons_zero, List.getElem?_cons_succ] at c0
  obtain ⟨A, c, rfl, hnc, hcm⟩ := own_len h.ep
  have hl := ok.len
  have hs := ok.sn
  generalize hN : st.ep.length = N at *
  have HN := Lib.hid hN
  clear hN
  go_enter Try.func7, Try.ntmps7
  go_wp2_with fail
  go_loopw [3, 4, 14] (fun v l i wr => ∃ k : Nat, k ≤ N ∧ i = .int .i64 k ∧ l = .bool (lastAt st k) ∧ wr.ownsRow w.heap.size 4 1 v k (bools (leaked st k)) ∧ Below w.heap.size w wr) (fun _ _ i _ => N - (intOf i).toNat)
  case atStart => exact ⟨0, by omega, rfl, rfl, World.ownsRow_nil _ _ _ _, Below.refl _ _⟩
  case round =>
    obtain ⟨k, hk, rfl, rfl, hown, hb⟩ := hrel
    have hr := h.below hb
    have d0 := hr.blk.cell 0
    have d3 := hr.blk.cell 3
    have hlr := hr.blk.lt
    simp only [List.getElem?_toArray, List.getElem?_cons_zero, List.getElem?_cons_succ] at d0 d3
    by_cases hlt : k < N
    · obtain ⟨gb, cc, hv, _, _, _, hglt, hcell⟩ := own_at hr.ep (by rw [HN.out]; omega)
      injection hv with hv1 hv2 hv3
      subst hv1
      clear hv2 hv3
      have hk0 : (nats st.ep)[k]? = some (.int .i64 (st.ep.getD k 0 : Nat)) := by
        have : k < st.ep.length := by rw [HN.out]; exact hlt
        simp [nats, this]
      have c1 := hcell _ _ hk0
      clear hk0 hcell
      generalize hE : st.ep.getD k 0 = E at *
      have HE := Lib.hid hE
      clear hE
      have hsn := Sl.of_own hr.sn
      have HS := Lib.hid hsn
      have HR := Lib.hid hr
      have HO := Lib.hid hown
      clear hsn hr hown
      have hB1 : Below wr.heap.size wr ((wr.alloc (.cells #[.int .i64 (k : Int)] 3)).alloc (.cells #[.int .i64 (E : Int)] 3)) := ((Below.refl _ _).alloc (Nat.le_refl _) _).alloc (by simp) _
      have hsz : wr.heap.size + 2 = ((wr.alloc (.cells #[.int .i64 (k : Int)] 3)).alloc (.cells #[.int .i64 (E : Int)] 3)).heap.size := by simp
      have HW := Lib.hid (And.intro hB1 hsz)
      clear hB1 hsz
      generalize hch : st.sn.any (fun x => (x.1 : Int) == (k : Int)) = ch
      generalize hop : st.sn.any (fun x => decide (x.2.1 ≤ E) && decide (E ≤ x.2.2)) = op
      have hnext : lastAt st (k + 1) = ((lastAt st k || ch) && op) := by simp only [lastAt, HE.out, hch, hop]
      have HX := Lib.hid (And.intro hch (And.intro hop hnext))
      clear hch hop hnext
      cases hla : lastAt st k
      · have HL := Lib.hid hla
        clear hla
        go_wp2_with fail
        obtain ⟨hB1, hsz⟩ := HW.out
        clear HW
        have q0 : ((wr.alloc (.cells #[.int .i64 (k : Int)] 3)).alloc (.cells #[.int .i64 (E : Int)] 3)).cell? ⟨wr.heap.size, 0, none⟩ = some (.int .i64 (k : Int)) := by simp
        have q1 : ((wr.alloc (.cells #[.int .i64 (k : Int)] 3)).alloc (.cells #[.int .i64 (E : Int)] 3)).cell? ⟨wr.heap.size + 1, 0, none⟩ = some (.int .i64 (E : Int)) := by simp
        generalize (wr.alloc (.cells #[.int .i64 (k : Int)] 3)).alloc (.cells #[.int .i64 (E : Int)] 3) = W1 at hB1 hsz q0 q1 ⊢
        refine (contains_calls (xs := st.sn) (HS.out.below hB1) (by omega) (fun x => (x.1 : Int) == (k : Int)) (fun W x hW => leak1_calls ((hW.cell (p := ⟨wr.heap.size, 0, none⟩) (by simp; omega)).trans q0) x) enter67).mono ?_
        rintro e w2 ⟨rfl, hb1⟩
        have hb2 : Below wr.heap.size wr w2 := hB1.trans (hb1.mono hB1.size)
        have q2 : w2.cell? ⟨wr.heap.size + 1, 0, none⟩ = some (.int .i64 (E : Int)) := (hb1.cell (p := ⟨wr.heap.size + 1, 0, none⟩) (by simp; omega)).trans q1
        have hsn2 : Sl w2 3 vs st.sn.length (snv st.sn) := HS.out.below hb2
        have e3 : w2.cell? ⟨g, 3, none⟩ = some vs := (hb2.cell (p := ⟨g, 3, none⟩) hlr).trans d3
        have hs2 : wr.heap.size + 2 ≤ w2.heap.size := by have := hb1.size; omega
        clear hb1 hB1 q0 q1 hsz
        rw [HX.out.1]
        go_wp2_with fail
        refine (contains_calls (xs := st.sn) hsn2 (by omega) (fun x => decide (x.2.1 ≤ E) && decide (E ≤ x.2.2)) (fun W x hW => leak2_calls ((hW.cell (p := ⟨wr.heap.size + 1, 0, none⟩) (by have := hb2.size; simp; omega)).trans q2) x) enter68).mono ?_
        rintro e w3 ⟨rfl, hb3⟩
        have hb4 : Below wr.heap.size wr w3 := hb2.trans (hb3.mono hb2.size)
        have ho4 := own_chg HO.out (Chg.of_below (F := fun _ => False) hb4) (fun _ _ f => f)
        have HO4 := Lib.hid (And.intro ho4 hb4)
        clear ho4 hb3 hb2 hsn2 q2 hb4
        rw [HX.out.2.1]
        have hw3 : wr.heap.size ≤ w3.heap.size := HO4.out.2.size
        have hwB : w.heap.size ≤ w3.heap.size := Nat.le_trans hb.size hw3
        cases ch <;> cases op
        all_goals
          have HV := Lib.hid HX.out.2.2
          go_wp2_with (refine list_app ty_bools rfl (.tmp 38) (.tmp 40) rfl (by simp [Act.eval]) (own_heap (HO4.out.1.alloc _) (by rfl)) w3.heap.size 1 1 4 #[.bool _] (by simp [Act.eval]) (by exact heap_alloc_new w3 _) rfl (by simp [Value.oneCell']) (by decide) (by unfold maxLen; omega) (by omega) (by simp; omega) ?_; intro g' cap w' hown hgr hat hlt')
          go_roundw
          case rel =>
            refine ⟨k + 1, by omega, by go_num, ?_, ?_, ?_⟩
            · rw [HV.out, HL.out]; simp
            · rw [leaked_succ, HV.out, HL.out]; simpa [bools] using hown
            · refine (hb.trans (HO4.out.2.mono hb.size)).trans ?_ |>.grown (w := w3.alloc _) hgr ?_ ?_
              · exact (Below.refl _ _).alloc hwB _
              · simp; omega
              · intro i hi; exact (HO.out.lt i hi).1
          case measure => simp [intOf]; omega
      · have HL := Lib.hid hla
        clear hla
        go_wp2_with fail
        obtain ⟨hb2, hsz⟩ := HW.out
        clear HW
        have q2 : ((wr.alloc (.cells #[.int .i64 (k : Int)] 3)).alloc (.cells #[.int .i64 (E : Int)] 3)).cell? ⟨wr.heap.size + 1, 0, none⟩ = some (.int .i64 (E : Int)) := by simp
        generalize (wr.alloc (.cells #[.int .i64 (k : Int)] 3)).alloc (.cells #[.int .i64 (E : Int)] 3) = w2 at hb2 hsz q2 ⊢
        have hs2 : wr.heap.size + 2 ≤ w2.heap.size := by omega
        have hsn2 : Sl w2 3 vs st.sn.length (snv st.sn) := HS.out.below hb2
        clear hsz
        refine (contains_calls (xs := st.sn) hsn2 (by omega) (fun x => decide (x.2.1 ≤ E) && decide (E ≤ x.2.2)) (fun W x hW => leak2_calls ((hW.cell (p := ⟨wr.heap.size + 1, 0, none⟩) (by have := hb2.size; simp; omega)).trans q2) x) enter68).mono ?_
        rintro e w3 ⟨rfl, hb3⟩
        have hb4 : Below wr.heap.size wr w3 := hb2.trans (hb3.mono hb2.size)
        have ho4 := own_chg HO.out (Chg.of_below (F := fun _ => False) hb4) (fun _ _ f => f)
        have HO4 := Lib.hid (And.intro ho4 hb4)
        clear ho4 hb3 hb2 hsn2 q2 hb4
        rw [HX.out.2.1]
        have hw3 : wr.heap.size ≤ w3.heap.size := HO4.out.2.size
        have hwB : w.heap.size ≤ w3.heap.size := Nat.le_trans hb.size hw3
        cases ch <;> cases op
        all_goals
          have HV := Lib.hid HX.out.2.2
          go_wp2_with (refine list_app ty_bools rfl (.tmp 38) (.tmp 40) rfl (by simp [Act.eval]) (own_heap (HO4.out.1.alloc _) (by rfl)) w3.heap.size 1 1 4 #[.bool _] (by simp [Act.eval]) (by exact heap_alloc_new w3 _) rfl (by simp [Value.oneCell']) (by decide) (by unfold maxLen; omega) (by omega) (by simp; omega) ?_; intro g' cap w' hown hgr hat hlt')
          go_roundw
          case rel =>
            refine ⟨k + 1, by omega, by go_num, ?_, ?_, ?_⟩
            · rw [HV.out, HL.out]; simp
            · rw [leaked_succ, HV.out, HL.out]; simpa [bools] using hown
            · refine (hb.trans (HO4.out.2.mono hb.size)).trans ?_ |>.grown (w := w3.alloc _) hgr ?_ ?_
              · exact (Below.refl _ _).alloc hwB _
              · simp; omega
              · intro i hi; exact (HO.out.lt i hi).1
          case measure => simp [intOf]; omega
    · obtain rfl : k = N := by omega
      go_wp2_with fail
      go_ret
      exact ⟨_, rfl, hown, hb⟩
end Go.Proofs.Ytfflidaodnhpbaa.Led
