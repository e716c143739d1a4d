/- Walks: the reference's line in terms. -/
import Derived.Test.YtfflidaodnhpbaaLedM
import Derived.Test.YtfflidaodnhpbaaLedS
namespace Go.Proofs.Ytfflidaodnhpbaa.Led
open Go Go.RowKit Go.Proofs.Ytfflidaodnhpbaa.Base Go.Proofs.Ytfflidaodnhpbaa.Draw
set_option linter.unusedVariables false
set_option linter.unusedSimpArgs false

def rowQ (l : List (Nat × Nat × Nat)) : Row := ⟨47, 3, l.length, snv l⟩
def rowB (l : List Bool) : Row := ⟨4, 1, l.length, bools l⟩
theorem ty_rterms : SlTy Try.prog 42 47 (.agg #[.int .i64 0, .int .i64 0, .int .i64 0]) 3 24 := ⟨Try.underlying42, by kernel_rfl, rfl, by decide⟩

/-- The epochs of the frames, by the reference. -/
def epsR (L : List Nat) : List Nat := (List.range (cnt L 1 L.length)).map fun i => epR L (i + 1)
def TT (L : List Nat) (k : Nat) : List (Nat × Nat × Nat) := secT (cnt L 3 L.length + 2) ++ frT (cnt L 3 L.length) (epsR L) k
theorem TT_length (L : List Nat) (k : Nat) : (TT L k).length = NN (cnt L 3 L.length) k := by simp [TT, secT_length, frT_length, NN]
theorem TT_zero (L : List Nat) : TT L 0 = secT (cnt L 3 L.length + 1) ++ [(0, 0, 0), (3, 2 * (cnt L 3 L.length + 1), 0)] := by simp [TT, frT, secT_succ (cnt L 3 L.length + 1)]
theorem TT_succ (L : List Nat) (k : Nat) (h : k < cnt L 1 L.length) : TT L (k + 1) = TT L k ++ frameT (NN (cnt L 3 L.length) k) (chainAt (cnt L 3 L.length) k) (2 * epR L (k + 1)) := by
  simp [TT, frT_succ, epsR, h]
/-- Which terms are known to all: publics and boxes; the first k of them are marked. -/
def isP (x : Nat × Nat × Nat) : Bool := x.1 == 3 || x.1 == 5
theorem isP_int (a b c : Nat) : isP (a, b, c) = ((a : Int) == 3 || (a : Int) == 5) := by
  rw [Bool.eq_iff_iff]
  simp only [isP, Bool.or_eq_true, beq_iff_eq]
  omega
def mk (T : List (Nat × Nat × Nat)) (k : Nat) : List Bool := (T.take k).map isP ++ List.replicate (T.length - k) false
theorem mk_zero (T : List (Nat × Nat × Nat)) : mk T 0 = List.replicate T.length false := by simp [mk]
theorem mk_all (T : List (Nat × Nat × Nat)) : mk T T.length = T.map isP := by simp [mk]
theorem mk_length (T : List (Nat × Nat × Nat)) (k : Nat) (h : k ≤ T.length) : (mk T k).length = T.length := by simp [mk]; omega
theorem mk_at (T : List (Nat × Nat × Nat)) (k : Nat) (h : k < T.length) : (bools (mk T k))[k]? = some (.bool false) := by
  have e : bools (mk T k) = bools ((T.take k).map isP) ++ bools (List.replicate (T.length - k) false) := by simp [bools, mk]
  have l : (bools ((T.take k).map isP)).length = k := by simp [bools]; omega
  have r : T.length - k = (T.length - (k + 1)) + 1 := by omega
  rw [e, List.getElem?_append_right (by omega), l, Nat.sub_self, r, List.replicate_succ]
  rfl
theorem mk_set (T : List (Nat × Nat × Nat)) (k : Nat) (h : k < T.length) (b : Bool) (hb : isP T[k] = b) : (bools (mk T k)).set k (.bool b) = bools (mk T (k + 1)) := by
  have e : bools (mk T k) = bools ((T.take k).map isP) ++ bools (List.replicate (T.length - k) false) := by simp [bools, mk]
  have l : (bools ((T.take k).map isP)).length = k := by simp [bools]; omega
  rw [e, List.set_append_right _ _ (by omega), l, Nat.sub_self]
  have r : T.length - k = (T.length - (k + 1)) + 1 := by omega
  rw [r, List.replicate_succ]
  subst hb
  simp only [bools, mk, List.take_succ_eq_append_getElem h, List.map_append, List.map_cons, List.map_nil, List.append_assoc, List.cons_append, List.nil_append, List.set_cons_zero]
/-- Further marks: the secrets of the epochs from lo on. -/
def marks (K : List Bool) (lo n : Nat) : List Bool := (List.range n).foldl (fun K j => K.set (2 * (lo + j)) true) K
theorem marks_succ (K : List Bool) (lo n : Nat) : marks K lo (n + 1) = (marks K lo n).set (2 * (lo + n)) true := by simp [marks, List.range_succ]
theorem marks_length (K : List Bool) (lo n : Nat) : (marks K lo n).length = K.length := by
  induction n with
  | zero => rfl
  | succ n ih => rw [marks_succ, List.length_set, ih]
/-- What is known behind the first k events. -/
def knownR (L : List Nat) : Nat → List Bool
  | 0 => (TT L (cnt L 1 L.length)).map isP
  | k + 1 => if L.getD k 0 = 5 then marks ((knownR L k).set (chainAt (cnt L 3 L.length) (cnt L 2 k)) true) (liveR L k) (cnt L 3 k + 1 - liveR L k) else knownR L k
theorem knownR_length (L : List Nat) (k : Nat) : (knownR L k).length = (TT L (cnt L 1 L.length)).length := by
  induction k with
  | zero => simp [knownR]
  | succ k ih =>
    unfold knownR
    split
    · rw [marks_length, List.length_set, ih]
    · exact ih
theorem bools_set (K : List Bool) (i : Nat) (b : Bool) : (bools K).set i (.bool b) = bools (K.set i b) := by simp [bools, List.map_set]
theorem bools_get {K : List Bool} {i : Nat} (h : i < K.length) : (bools K)[i]? = some (.bool (K.getD i false)) := by simp [bools, h]
theorem cnt_mono (L : List Nat) (kind : Nat) {a b : Nat} (h : a ≤ b) : cnt L kind a ≤ cnt L kind b := by
  unfold cnt
  have : L.take a = (L.take b).take a := by rw [List.take_take]; congr 1; omega
  rw [this]
  exact List.Sublist.length_le ((List.take_sublist a (L.take b)).filter _)
theorem liveR_le (L : List Nat) (n : Nat) : liveR L n ≤ L.length := by
  unfold liveR
  split
  · omega
  · unfold epR
    split
    · exact cnt_le L 3 _
    · omega
theorem chainAt_lt {M k n q : Nat} (h : NN M k = n) (hq : q ≤ k) : chainAt M q < n := by
  subst h
  unfold chainAt NN
  split
  · omega
  · omega
theorem epR_le (L : List Nat) (i : Nat) : epR L i ≤ L.length := by
  unfold epR
  split
  · exact cnt_le L 3 _
  · omega
theorem snv_append (a b : List (Nat × Nat × Nat)) : snv (a ++ b) = snv a ++ snv b := by simp [snv]


set_option maxRecDepth 100000 in
set_option maxHeartbeats 4000000 in
theorem termsR_calls {w : World} {r : Nat} {vl : Value} {L : List Nat} (h : RRep w r vl L) (hL : L.length ≤ 100) (hn1 : cnt L 1 L.length ≤ 6) (hM : cnt L 3 L.length ≤ 6) (hgot : ∀ k, k ≤ L.length → cnt L 2 k ≤ cnt L 1 L.length) :
    Calls Try.prog 15 #[.pointer (some ⟨r, 0, none⟩)] w fun e w' => ∃ vT vk vy vp, e = .returned (.tuple #[vT, vk, vy, vp]) ∧
      Owns w' [(vT, rowQ (TT L (cnt L 1 L.length))), (vk, rowB (knownR L L.length)), (vy, rowI (frY (cnt L 3 L.length) (cnt L 1 L.length))), (vp, rowI (frP (cnt L 3 L.length) (cnt L 1 L.length)))] ∧ Below w.heap.size w w' := by
  have hres : Try.f15.results = #[.tmp 2, .tmp 3, .tmp 4, .tmp 5] := by rfl
  have HR := Lib.hid h
  have hrlt := h.1.lt
  obtain ⟨A, c, rfl, hnc, hcm⟩ := own_len h.2
  have c0 := h.1.cell 0
  simp only [List.getElem?_toArray, List.getElem?_cons_zero] at c0
  clear h
  have HG := Lib.hid hgot
  clear hgot
  generalize hn1' : cnt L 1 L.length = n1 at *
  generalize hM' : cnt L 3 L.length = M at *
  generalize hNN : L.length = N at *
  have HN := Lib.hid (And.intro hn1' (And.intro hM' hNN))
  clear hn1' hM' hNN
  go_enter Try.func15, Try.ntmps15
  go_wp2_with fail
  refine (count_calls HR.out 3 N (by rw [HN.out.2.2]; exact Nat.le_refl _) (by rw [HN.out.2.2]; omega)).mono ?_
  rintro e w0 ⟨rfl, q0, rfl⟩
  have e3 : cnt L 3 N = M := HN.out.2.1
  rw [e3]
  clear e3
  go_wp2_with fail
  go_loopw [6, 10] (fun v i wr => ∃ k : Nat, k ≤ M + 1 ∧ i = .int .i64 (k : Int) ∧ OMid w wr [(v, rowQ (secT k))]) (fun _ i _ => M + 1 - (intOf i).toNat)
  case atStart => exact ⟨0, by omega, rfl, ((OMid.nil w).drewN q0).nils _ _⟩
  case round =>
    obtain ⟨k, hk, rfl, hm⟩ := hrel
    have H1 := Lib.hid hm
    have ho1 : wr.ownsRow 0 47 3 u6 (2 * k) (snv (secT k)) := by have := hm.rows.1 (u6, rowQ (secT k)) (by simp); simpa [rowQ, secT_length] using this
    have s1 := hm.bel.size
    clear hm
    by_cases hkt : k < M + 1
    · have hc : decide ((k : Int) < (M : Int) + 1) = true := by simp; omega
      go_wp2_with (refine list_app ty_rterms rfl (.tmp 32) (.tmp 37) rfl (by rfl) (own_heap (ho1.alloc _) (by rfl)) wr.heap.size 2 2 47 #[.int .i64 0, .int .i64 0, .int .i64 0, .int .i64 3, .int .i64 (2 * k), .int .i64 0] (by rfl) (by exact heap_alloc_new _ _) rfl (by simp [Value.oneCell']) (by decide) (by unfold maxLen; omega) (by omega) (by simp) ?_; intro g' cap w2 hown hgr hat hlt')
      go_roundw
      case rel =>
        refine ⟨k + 1, by omega, by go_num, ?_⟩
        refine OMid.app (l1 := []) (r' := rowQ (secT (k + 1))) H1.out rfl (H1.out.bel.alloc s1 _) hgr ?_ hat
        simp only [rowQ, secT_succ, snv_append, List.length_append, secT_length, List.length_cons, List.length_nil]
        simpa [snv] using hown
      case measure => simp [intOf]; omega
    · obtain rfl : k = M + 1 := by omega
      have hc : decide (((M + 1 : Nat) : Int) < (M : Int) + 1) = false := by simp
      clear hkt hk
      have hb2 : ∀ o o' : Obj, ((wr.alloc o).alloc o').heap[wr.heap.size + 1]? = some o' := fun o o' => by have := heap_alloc_new (wr.alloc o) o'; simpa using this
      go_wp2_with (refine list_app ty_rterms rfl (.tmp 42) (.tmp 47) rfl (by rfl) (own_heap ((ho1.alloc _).alloc _) (by rfl)) (wr.heap.size + 1) 2 2 47 #[.int .i64 0, .int .i64 0, .int .i64 0, .int .i64 3, .int .i64 (2 * ((M : Int) + 1)), .int .i64 0] (by rfl) (hb2 _ _) rfl (by simp [Value.oneCell']) (by decide) (by unfold maxLen; omega) (by omega) (by simp) ?_; intro g1 cap1 w1 hown1 hgr1 hat1 hlt1)
      have eM : cnt L 3 L.length = M := by rw [HN.out.2.2]; exact HN.out.2.1
      have eN : cnt L 1 L.length = n1 := by rw [HN.out.2.2]; exact HN.out.1
      have m0 := H1.out.lit [.int .i64 (2 * ((M : Int) + 1))] 3 (by unfold maxLen; simp)
      have m1 := OMid.app (l1 := []) (r' := rowQ (TT L 0)) m0 rfl (m0.bel.alloc m0.bel.size _) hgr1 (by simp only [rowQ, TT_zero, eM, snv_append, List.length_append, secT_length, List.length_cons, List.length_nil]; simpa [snv] using hown1) hat1
      have m2 := (m1.nils 3 1).nils 3 1
      have M2 := Lib.hid m2
      have EM := Lib.hid (And.intro eM eN)
      clear m0 m1 m2 hown1 hgr1 hat1 hb2 s1 ho1 eM eN hc
      go_loopw [6, 7, 8, 11, 12] (fun v6 v7 v8 v11 i wr => ∃ k : Nat, k ≤ n1 ∧ i = .int .i64 ((k : Int) + 1) ∧ OMid w wr [(v6, rowQ (TT L k)), (v11, rowI (chainsL M k)), (v7, rowI (frY M k)), (v8, rowI (frP M k))]) (fun _ _ _ _ i _ => n1 + 1 - (intOf i).toNat)
      case atStart => exact ⟨0, by omega, rfl, by simpa [chainsL, chainAt, rowI, nats, frY, frP, Int.mul_add] using M2.out⟩
      case round =>
        obtain ⟨k, hk, rfl, hm⟩ := hrel
        have H2 := Lib.hid hm
        have hr2 := HR.out.below hm.bel
        have d0 := hr2.1.cell 0
        simp only [List.getElem?_toArray, List.getElem?_cons_zero] at d0
        have HR2 := Lib.hid hr2
        clear hm hr2 c0
        by_cases hkt : k < n1
        · have hc : decide ((k : Int) + 1 ≤ (n1 : Int)) = true := by simp; omega
          go_wp2_with fail
          refine (count_calls HR2.out 1 N (by rw [HN.out.2.2]; exact Nat.le_refl _) (by rw [HN.out.2.2]; omega)).mono ?_
          rintro e w2 ⟨rfl, q2, rfl⟩
          rw [HN.out.1]
          have o6 := (H2.out.drewN q2).rows.1 (u6, rowQ (TT L k)) (by simp)
          simp only [rowQ, TT_length, EM.out.1] at o6
          have o11 := (H2.out.drewN q2).rows.1 (u11, rowI (chainsL M k)) (by simp)
          simp only [rowI, chainsL_length] at o11
          generalize hn : NN M k = n at *
          have hn200 : n ≤ 200 := by rw [← hn]; unfold NN; omega
          have HNN := Lib.hid hn
          obtain ⟨A6, c6, h6, _, _⟩ := own_len o6
          subst h6
          have O6 := Lib.hid o6
          obtain ⟨K1, hK1⟩ : ∃ K1, K1 = k + 1 := ⟨_, rfl⟩
          rw [← hK1] at o11
          have i1 : k < K1 := by omega
          have hK7 : K1 ≤ 8 := by omega
          have HK1 := Lib.hid hK1
          obtain ⟨gc, cc, h11, _, _, _, hgc, hcc⟩ := own_at o11 (by omega)
          have e1 := hcc k _ (nats_get (by rw [chainsL_length]; omega))
          have hg1 : (chainsL M k).getD k 0 = chainAt M k := by simp [chainsL]
          rw [hg1] at e1
          subst h11
          clear o6 o11 hcc hg1 hn hK1
          go_wp2_with fail
          refine (epoch_calls' (HR2.out.drewN _) (k + 1) _ (by omega) (by rw [HN.out.2.2]; omega)).mono ?_
          rintro e w3 ⟨rfl, q3, rfl⟩
          have m3 := (H2.out.drewN q2).drewN q3
          have e1' : ((wr.drewN q2).drewN q3).cell? ⟨gc, k, none⟩ = some (.int .i64 (chainAt M k : Int)) := e1
          have hgc' : gc < ((wr.drewN q2).drewN q3).heap.size := by simpa using hgc
          have O6' := Lib.hid (show ((wr.drewN q2).drewN q3).ownsRow 0 47 3 (.slice A6 n c6) n (snv (TT L k)) from O6.out)
          generalize (wr.drewN q2).drewN q3 = wa at *
          have M3 := Lib.hid m3
          clear m3 O6 e1 hgc
          generalize hX : epR L (k + 1) = X at *
          have hX100 : X ≤ 100 := by rw [← hX]; exact Nat.le_trans (epR_le L (k + 1)) (by rw [HN.out.2.2]; omega)
          have HX := Lib.hid hX
          clear hX
          have sa := M3.out.bel.size
          have HC1 : Hid ((nats (chainsL M k))[k]? = some (.int .i64 (chainAt M k : Int))) := Lib.hid (by have := nats_get (l := chainsL M k) (i := k) (by rw [chainsL_length]; omega); rw [this]; simp [chainsL])
          have m3' : OMid w wa [(.slice A6 n c6, ⟨47, 3, n, snv (TT L k)⟩), (.slice (some ⟨gc, 0, none⟩) K1 cc, ⟨3, 1, K1, nats (chainsL M k)⟩), (u7, ⟨3, 1, k, nats (frY M k)⟩), (u8, ⟨3, 1, k, nats (frP M k)⟩)] := by
            have := M3.out
            simpa [rowQ, rowI, TT_length, EM.out.1, HNN.out, chainsL_length, frY_length, frP_length, HK1.out] using this
          have M3 := Lib.hid m3'
          clear m3' sa
          go_wp2_with (first | (refine list_app ty_rterms rfl (.tmp 66) (.tmp 72) rfl (by rfl) (own_heap (O6'.out.alloc _) (by rfl)) wa.heap.size 4 4 47 #[.int .i64 0, .int .i64 0, .int .i64 0, .int .i64 3, .int .i64 (n : Int), .int .i64 0, .int .i64 0, .int .i64 0, .int .i64 0, .int .i64 0, .int .i64 0, .int .i64 0] (by rfl) (by exact heap_alloc_new wa _) rfl (by simp [Value.oneCell']) (by decide) (by unfold maxLen; omega) (by omega) (by simp) ?_; intro g4 cap4 w4 hown4 hgr4 hat4 hlt4; have m4 := OMid.app (l1 := []) (r' := ⟨47, 3, n + 4, _⟩) M3.out rfl (M3.out.bel.alloc M3.out.bel.size _) hgr4 hown4 hat4; have M4 := Lib.hid m4; have O4 := Lib.hid hown4; obtain ⟨e4, l4, -⟩ := m4.cellI (e := 3) (g := gc) (K := K1) (c := cc) (xs := nats (chainsL M k)) (by simp) i1 HC1.out; clear m4 hown4 hgr4 hat4) | (refine list_app ty_rterms rfl (.tmp 74) (.tmp 85) rfl (by rfl) (own_heap (O4.out.alloc _) (by rfl)) w4.heap.size 2 2 47 #[.int .i64 4, .int .i64 (n : Int), .int .i64 (chainAt M k : Int), .int .i64 4, .int .i64 (n : Int), .int .i64 (2 * (X : Int))] (by rfl) (by exact heap_alloc_new w4 _) rfl (by simp [Value.oneCell']) (by decide) (by unfold maxLen; omega) (by omega) (by simp) ?_; intro g5 cap5 w5 hown5 hgr5 hat5 hlt5; have m5 := OMid.app (l1 := []) (r' := ⟨47, 3, (n + 4) + 2, _⟩) M4.out rfl (M4.out.bel.alloc M4.out.bel.size _) hgr5 hown5 hat5; have M5 := Lib.hid m5; have O5 := Lib.hid hown5; clear m5 hown5 hgr5 hat5) | (refine list_app ty_rterms rfl (.tmp 87) (.tmp 96) rfl (by rfl) (own_heap (O5.out.alloc _) (by rfl)) w5.heap.size 2 2 47 #[.int .i64 1, .int .i64 ((n : Int) + 4), .int .i64 ((n : Int) + 5), .int .i64 2, .int .i64 ((n : Int) + 6), .int .i64 0] (by rfl) (by exact heap_alloc_new w5 _) rfl (by simp [Value.oneCell']) (by decide) (by unfold maxLen; omega) (by omega) (by simp) ?_; intro g6 cap6 w6 hown6 hgr6 hat6 hlt6; have m6 := OMid.app (l1 := []) (r' := ⟨47, 3, (n + 4 + 2) + 2, _⟩) M5.out rfl (M5.out.bel.alloc M5.out.bel.size _) hgr6 hown6 hat6; have M6 := Lib.hid m6; have O6 := Lib.hid hown6; clear m6 hown6 hgr6 hat6) | (refine list_app ty_rterms rfl (.tmp 98) (.tmp 109) rfl (by rfl) (own_heap (O6.out.alloc _) (by rfl)) w6.heap.size 2 2 47 #[.int .i64 1, .int .i64 ((n : Int) + 2), .int .i64 ((n : Int) + 3), .int .i64 5, .int .i64 ((n : Int) + 7), .int .i64 ((n : Int) + 8)] (by rfl) (by exact heap_alloc_new w6 _) rfl (by simp [Value.oneCell']) (by decide) (by unfold maxLen; omega) (by omega) (by simp) ?_; intro g7 cap7 w7 hown7 hgr7 hat7 hlt7; have m7 := OMid.app (l1 := []) (r' := ⟨47, 3, (n + 4 + 2 + 2) + 2, _⟩) M6.out rfl (M6.out.bel.alloc M6.out.bel.size _) hgr7 hown7 hat7; have M7 := Lib.hid m7; have O7 := Lib.hid hown7; have OC := Lib.hid (show w7.ownsRow 0 3 1 (.slice (some ⟨gc, 0, none⟩) K1 cc) K1 (nats (chainsL M k)) from Owns.mid (l1 := [_]) m7.rows); clear m7 hown7 hgr7 hat7) | (refine list_app ty_ints rfl (.tmp 111) (.tmp 114) rfl (by rfl) (own_heap (OC.out.alloc _) (by rfl)) w7.heap.size 1 1 3 #[.int .i64 ((n : Int) + 2)] (by rfl) (by exact heap_alloc_new w7 _) rfl (by simp [Value.oneCell']) (by decide) (by unfold maxLen; omega) (by omega) (by simp) ?_; intro g8 cap8 w8 hown8 hgr8 hat8 hlt8; have m8 := OMid.app (l1 := [_]) (r' := ⟨3, 1, K1 + 1, _⟩) M7.out rfl (M7.out.bel.alloc M7.out.bel.size _) hgr8 hown8 hat8; have M8 := Lib.hid m8; have O8 := Lib.hid hown8; have OY := Lib.hid (show w8.ownsRow 0 3 1 u7 k (nats (frY M k)) from Owns.mid (l1 := [_, _]) m8.rows); clear m8 hown8 hgr8 hat8) | (refine list_app ty_ints rfl (.tmp 116) (.tmp 119) rfl (by rfl) (own_heap (OY.out.alloc _) (by rfl)) w8.heap.size 1 1 3 #[.int .i64 ((n : Int) + 7)] (by rfl) (by exact heap_alloc_new w8 _) rfl (by simp [Value.oneCell']) (by decide) (by unfold maxLen; omega) (by omega) (by simp) ?_; intro g9 cap9 w9 hown9 hgr9 hat9 hlt9; have m9 := OMid.app (l1 := [_, _]) (r' := ⟨3, 1, k + 1, _⟩) M8.out rfl (M8.out.bel.alloc M8.out.bel.size _) hgr9 hown9 hat9; have M9 := Lib.hid m9; have O9 := Lib.hid hown9; have OP := Lib.hid (show w9.ownsRow 0 3 1 u8 k (nats (frP M k)) from Owns.mid (l1 := [_, _, _]) m9.rows); clear m9 hown9 hgr9 hat9) | (refine list_app ty_ints rfl (.tmp 121) (.tmp 124) rfl (by rfl) (own_heap (OP.out.alloc _) (by rfl)) w9.heap.size 1 1 3 #[.int .i64 ((n : Int) + 3)] (by rfl) (by exact heap_alloc_new w9 _) rfl (by simp [Value.oneCell']) (by decide) (by unfold maxLen; omega) (by omega) (by simp) ?_; intro g10 cap10 w10 hown10 hgr10 hat10 hlt10; have m10 := OMid.app (l1 := [_, _, _]) (r' := ⟨3, 1, k + 1, _⟩) M9.out rfl (M9.out.bel.alloc M9.out.bel.size _) hgr10 hown10 hat10; have M10 := Lib.hid m10; have O10 := Lib.hid hown10; clear m10 hown10 hgr10 hat10))
          go_roundw
          case rel =>
            refine ⟨k + 1, by omega, by go_num, ?_⟩
            have hk1 : k < cnt L 1 L.length := by rw [EM.out.2]; exact hkt
            have f1 : (TT L (k + 1)).length = n + 10 := by rw [TT_length, EM.out.1, ← HNN.out]; unfold NN; omega
            refine cast (congrArg (OMid w _) ?_) M10.out
            simp only [List.nil_append, List.cons_append, rowQ, rowI, f1, chainsL_length, frY_length, frP_length, HK1.out, chainsL_succ, frY_succ, frP_succ, nats_snoc, TT_succ L k hk1, snv_append, EM.out.1, HNN.out, HX.out]
            simp [snv, frameT, TT_length, EM.out.1, HNN.out, chainsL_length, frY_length, frP_length]
          case measure => simp [intOf]; omega
        · obtain rfl : k = n1 := by omega
          have hc : decide ((k : Int) + 1 ≤ (k : Int)) = false := by simp; omega
          go_wp2_with fail
          refine (count_calls HR2.out 1 N (by rw [HN.out.2.2]; exact Nat.le_refl _) (by rw [HN.out.2.2]; omega)).mono ?_
          rintro e w2 ⟨rfl, q2, rfl⟩
          rw [HN.out.1]
          have o6 := (H2.out.drewN q2).rows.1 (u6, rowQ (TT L k)) (by simp)
          simp only [rowQ, TT_length, EM.out.1] at o6
          generalize hn : NN M k = n at *
          have hn200 : n ≤ 200 := by rw [← hn]; unfold NN; omega
          have HNN := Lib.hid hn
          obtain ⟨A6, c6, h6, _, _⟩ := own_len o6
          subst h6
          have M2' := Lib.hid (H2.out.drewN q2)
          clear o6 hn hkt hk
          generalize wr.drewN q2 = wb at *
          go_wp2_with (refine list_make ty_bools rfl (.tmp 127) rfl (n := n) (by rfl) (by omega) (by unfold maxLen; omega) ?_; intro w3 hown3 hgr3)
          have hT : (TT L k).length = n := by rw [TT_length, EM.out.1, HNN.out]
          have m3 : OMid w w3 [(.slice A6 n c6, rowQ (TT L k)), (u11, rowI (chainsL M k)), (u7, rowI (frY M k)), (u8, rowI (frP M k)), (.slice (some ⟨wb.heap.size, 0, none⟩) n n, ⟨4, 1, n, bools (mk (TT L k) 0)⟩)] := by
            have := M2'.out.new hgr3 hown3
            rw [show (Value.bool false).cells = #[Value.bool false] from rfl, Nat.mul_one, toList_madeCells_one] at this
            rw [mk_zero, hT]
            simpa [bools] using this
          generalize hgb : wb.heap.size = gb at *
          have M3 := Lib.hid m3
          have HT := Lib.hid hT
          clear hown3 hgr3 m3 hT hgb d0 hc
          go_loopw [16] (fun i wr => ∃ j : Nat, j ≤ n ∧ i = .int .i64 (j : Int) ∧ OMid w wr [(.slice A6 n c6, rowQ (TT L k)), (u11, rowI (chainsL M k)), (u7, rowI (frY M k)), (u8, rowI (frP M k)), (.slice (some ⟨gb, 0, none⟩) n n, ⟨4, 1, n, bools (mk (TT L k) j)⟩)]) (fun i _ => n - (intOf i).toNat)
          case atStart => exact ⟨0, by omega, rfl, M3.out⟩
          case round =>
            clear M3
            obtain ⟨j, hj, rfl, hm⟩ := hrel
            have M3 := Lib.hid hm
            by_cases hjt : j < n
            · have hc : decide ((j : Int) < (n : Int)) = true := by simp; omega
              have oT := hm.rows.1 (.slice A6 n c6, rowQ (TT L k)) (by simp)
              simp only [rowQ] at oT
              have hjT : j < (TT L k).length := by rw [HT.out]; exact hjt
              obtain ⟨gT, cT, hv, _, _, _, hgT, hcT⟩ := own_at oT (by omega)
              injection hv with hv1 hv2 hv3
              subst hv1
              have x0 := hcT _ _ (snv_at (TT L k) j hjT).1
              obtain ⟨y0, ly, fy⟩ := hm.cellI (e := 4) (g := gb) (K := n) (c := n) (xs := bools (mk (TT L k) j)) (by simp) hjt (mk_at _ _ hjT)
              have sg := hm.bel.size
              generalize hx : (TT L k)[j] = x at *
              obtain ⟨x1, x2, x3⟩ := x
              simp only at x0
              have HX := Lib.hid hx
              clear hm oT hv2 hv3 hcT hx
              by_cases h3 : x1 = 3
              · have b3 : decide ((x1 : Int) = 3) = true := by simp; omega
                go_wp2_with fail
                go_roundw
                case rel =>
                  refine ⟨j + 1, by omega, by go_num, ?_⟩
                  have := OMid.stored (l1 := [_, _, _, _]) (l2 := []) (r := ⟨4, 1, n, bools (mk (TT L k) j)⟩) M3.out j (.bool (true))
                  rw [mk_set _ _ hjT (true) (by rw [HX.out]; simp [isP, h3])] at this
                  exact this
                case measure => simp [intOf]; omega
              · have b3 : decide ((x1 : Int) = 3) = false := by simp; omega
                go_wp2_with fail
                go_roundw
                case rel =>
                  refine ⟨j + 1, by omega, by go_num, ?_⟩
                  have := OMid.stored (l1 := [_, _, _, _]) (l2 := []) (r := ⟨4, 1, n, bools (mk (TT L k) j)⟩) M3.out j (.bool (((x1 : Int) == 3 || (x1 : Int) == 5)))
                  rw [mk_set _ _ hjT (((x1 : Int) == 3 || (x1 : Int) == 5)) (by rw [HX.out]; exact isP_int _ _ _)] at this
                  exact this
                case measure => simp [intOf]; omega
            · obtain rfl : j = n := by omega
              have hc : decide ((j : Int) < (j : Int)) = false := by simp
              have M4 : Hid (OMid w wr [(.slice A6 j c6, rowQ (TT L k)), (u11, rowI (chainsL M k)), (u7, rowI (frY M k)), (u8, rowI (frP M k)), (.slice (some ⟨gb, 0, none⟩) j j, ⟨4, 1, j, bools ((TT L k).map isP)⟩)]) := Lib.hid (by rw [← mk_all, HT.out]; exact M3.out)
              clear M3 hjt hj
              go_wp2_with fail
              go_loopw [17] (fun i wr => ∃ a : Nat, a ≤ N ∧ i = .int .i64 (a : Int) ∧ OMid w wr [(.slice A6 j c6, rowQ (TT L k)), (u11, rowI (chainsL M k)), (u7, rowI (frY M k)), (u8, rowI (frP M k)), (.slice (some ⟨gb, 0, none⟩) j j, ⟨4, 1, j, bools (knownR L a)⟩)]) (fun i _ => N - (intOf i).toNat)
              case atStart => exact ⟨0, by omega, rfl, by unfold knownR; rw [EM.out.2]; exact M4.out⟩
              case round =>
                clear M4
                obtain ⟨a, ha, rfl, hm⟩ := hrel
                have M4 := Lib.hid hm
                have hr := HR.out.below hm.bel
                have d0 := hr.1.cell 0
                have lr := hr.1.lt
                simp only [List.getElem?_toArray, List.getElem?_cons_zero] at d0
                have HR4 := Lib.hid hr
                clear hm hr
                by_cases hat : a < N
                · have hc : decide ((a : Int) < (N : Int)) = true := by simp; omega
                  obtain ⟨gL, cL, hv, _, _, _, hgL, hcL⟩ := own_at (n := N) (by have := HR4.out.2; rw [HN.out.2.2] at this; exact this) (by omega)
                  injection hv with hv1 hv2 hv3
                  subst hv1
                  have x0 := hcL a _ (nats_get (by rw [HN.out.2.2]; exact hat))
                  clear hcL hv2 hv3
                  generalize hx : L.getD a 0 = x at *
                  have HX := Lib.hid hx
                  clear hx
                  by_cases h5 : x = 5
                  · have b5 : decide ((x : Int) = 5) = true := by simp; omega
                    have b5' : ((x : Int) == 5) = true := by simp; omega
                    have H5 := Lib.hid h5
                    clear h5
                    go_wp2_with fail
                    refine (count_calls HR4.out 2 a (by rw [HN.out.2.2]; omega) (by rw [HN.out.2.2]; omega)).mono ?_
                    rintro e w5 ⟨rfl, q5, rfl⟩
                    have hcn := HG.out a (by omega)
                    generalize hq : cnt L 2 a = q at *
                    have HQ := Lib.hid hq
                    clear hq
                    have m5 := M4.out.drewN q5
                    generalize wr.drewN q5 = w5 at *
                    have o11 := m5.rows.1 (u11, rowI (chainsL M k)) (by simp)
                    simp only [rowI, chainsL_length] at o11
                    obtain ⟨gc, cc, hv, _, _, _, hgc, hcc⟩ := own_at o11 (by omega)
                    have e1 := hcc q _ (nats_get (by rw [chainsL_length]; omega))
                    have hg1 : (chainsL M k).getD q 0 = chainAt M q := by simp [chainsL, List.getElem?_range (show q < k + 1 by omega)]
                    rw [hg1] at e1
                    obtain ⟨K1, hK1⟩ : ∃ K1, K1 = k + 1 := ⟨_, rfl⟩
                    rw [← hK1] at hv
                    have i1 : q < K1 := by omega
                    have HK1 := Lib.hid hK1
                    subst hv
                    have hch : chainAt M q < j := chainAt_lt HNN.out hcn
                    have hKl : (knownR L a).length = j := by rw [knownR_length, EM.out.2, HT.out]
                    obtain ⟨y0, ly, fy⟩ := m5.cellI (e := 4) (g := gb) (K := j) (c := j) (xs := bools (knownR L a)) (by simp) hch (bools_get (by rw [hKl]; exact hch))
                    have M5 := Lib.hid m5
                    have HKl := Lib.hid hKl
                    generalize hz : chainAt M q = z at *
                    have HZ := Lib.hid hz
                    clear o11 hcc hg1 m5 hK1 hKl hz
                    go_wp2_with fail
                    have m6 := OMid.stored (l1 := [_, _, _, _]) (l2 := []) (r := ⟨4, 1, j, bools (knownR L a)⟩) M5.out z (.bool true)
                    rw [bools_set] at m6
                    have HR6 := Lib.hid (HR.out.below m6.bel)
                    refine (live_calls HR6.out a (by rw [HN.out.2.2]; omega) (by rw [HN.out.2.2]; omega)).mono ?_
                    rintro e w7 ⟨rfl, q7, rfl⟩
                    have m7 := m6.drewN q7
                    generalize (w5.setCell ⟨gb, z, none⟩ (.bool true)).drewN q7 = w7 at *
                    have hcn3 : cnt L 3 a ≤ M := by rw [← EM.out.1]; exact cnt_mono L 3 (by rw [HN.out.2.2]; omega)
                    generalize hlo : liveR L a = lo at *
                    generalize hhi : cnt L 3 a = hi at *
                    have HLH := Lib.hid (And.intro hlo hhi)
                    have M7 := Lib.hid (show OMid w w7 [(.slice A6 j c6, rowQ (TT L k)), (.slice (some ⟨gc, 0, none⟩) K1 cc, rowI (chainsL M k)), (u7, rowI (frY M k)), (u8, rowI (frP M k)), (.slice (some ⟨gb, 0, none⟩) j j, ⟨4, 1, j, bools (marks ((knownR L a).set z true) lo 0)⟩)] from m7)
                    have hlo100 : lo ≤ 100 := by rw [← hlo]; exact Nat.le_trans (liveR_le L a) (by rw [HN.out.2.2]; omega)
                    clear m6 m7 hlo hhi y0 ly fy e1 hgc x0 hgL
                    go_wp2_with fail
                    go_loopw [18] (fun i wr => ∃ b : Nat, b ≤ hi + 1 - lo ∧ i = .int .i64 ((lo + b : Nat) : Int) ∧ OMid w wr [(.slice A6 j c6, rowQ (TT L k)), (.slice (some ⟨gc, 0, none⟩) K1 cc, rowI (chainsL M k)), (u7, rowI (frY M k)), (u8, rowI (frP M k)), (.slice (some ⟨gb, 0, none⟩) j j, ⟨4, 1, j, bools (marks ((knownR L a).set z true) lo b)⟩)]) (fun i _ => hi + 1 - (intOf i).toNat)
                    case atStart => exact ⟨0, by omega, rfl, M7.out⟩
                    case round =>
                      clear M7
                      obtain ⟨b, hb, rfl, hm⟩ := hrel
                      have M7 := Lib.hid hm
                      have HR7 := Lib.hid (HR.out.below hm.bel)
                      have hmk : (marks ((knownR L a).set z true) lo b).length = j := by rw [marks_length, List.length_set]; exact HKl.out
                      have HMK := Lib.hid hmk
                      clear hm hmk
                      by_cases hbt : lo + b ≤ hi
                      · have hc2 : decide (((lo + b : Nat) : Int) ≤ (hi : Int)) = true := by simp; omega
                        go_wp2_with fail
                        refine (count_calls HR7.out 3 a (by rw [HN.out.2.2]; omega) (by rw [HN.out.2.2]; omega)).mono ?_
                        rintro e w8 ⟨rfl, q8, rfl⟩
                        rw [HLH.out.2]
                        have m8 := M7.out.drewN q8
                        generalize wr.drewN q8 = w8 at *
                        have hz2 : 2 * (lo + b) < j := by have := HNN.out; unfold NN at this; omega
                        obtain ⟨y0, ly, fy⟩ := m8.cellI (e := 4) (g := gb) (K := j) (c := j) (xs := bools (marks ((knownR L a).set z true) lo b)) (by simp) hz2 (bools_get (by rw [HMK.out]; exact hz2))
                        have M8 := Lib.hid m8
                        clear m8
                        go_wp2_with fail
                        go_roundw
                        case rel =>
                          refine ⟨b + 1, by omega, by go_num, ?_⟩
                          have := OMid.stored (l1 := [_, _, _, _]) (l2 := []) (r := ⟨4, 1, j, bools (marks ((knownR L a).set z true) lo b)⟩) M8.out (2 * (lo + b)) (.bool true)
                          rw [bools_set, ← marks_succ] at this
                          exact this
                        case measure => simp [intOf]; omega
                      · obtain rfl : b = hi + 1 - lo := by omega
                        have hc2 : decide (((lo + (hi + 1 - lo) : Nat) : Int) ≤ (hi : Int)) = false := by simp; omega
                        go_wp2_with fail
                        refine (count_calls HR7.out 3 a (by rw [HN.out.2.2]; omega) (by rw [HN.out.2.2]; omega)).mono ?_
                        rintro e w8 ⟨rfl, q8, rfl⟩
                        rw [HLH.out.2]
                        have M8 := Lib.hid (M7.out.drewN q8)
                        generalize wr.drewN q8 = w8 at *
                        go_wp2_with fail
                        go_roundw
                        case rel =>
                          refine ⟨a + 1, by omega, by go_num, ?_⟩
                          rw [knownR, if_pos (by rw [HX.out]; exact H5.out), HLH.out.1, HLH.out.2, HQ.out, EM.out.1, HZ.out]
                          have := M8.out
                          exact this
                        case measure => simp [intOf]; omega
                  · have b5 : decide ((x : Int) = 5) = false := by simp; omega
                    have b5' : ((x : Int) == 5) = false := by simp; omega
                    have H5 := Lib.hid h5
                    clear h5
                    go_wp2_with fail
                    go_roundw
                    case rel =>
                      refine ⟨a + 1, by omega, by go_num, ?_⟩
                      rw [knownR, if_neg (by rw [HX.out]; exact H5.out)]
                      exact M4.out
                    case measure => simp [intOf]; omega
                · obtain rfl : a = N := by omega
                  have hc : decide ((a : Int) < (a : Int)) = false := by simp
                  go_wp2_with fail
                  (try simp only [Exit.inBlock, Exit.then])
                  refine bodyPost_ret (v := .tuple #[.slice A6 j c6, .slice (some ⟨gb, 0, none⟩) j j, u7, u8]) (by simp [results, hres]) rfl ?_
                  have m := M4.out
                  refine ⟨_, _, _, _, rfl, ?_, m.bel⟩
                  have eL : a = L.length := HN.out.2.2.symm
                  have hp : ∀ {x1 x2 x3 x4 x5 : Value × Row}, Owns wr [x1, x2, x3, x4, x5] → Owns wr [x1, x5, x3, x4] := fun {x1 x2 x3 x4 x5} h => by
                    obtain ⟨h1, h2⟩ := h
                    simp only [List.mem_cons, List.not_mem_nil, or_false, forall_eq_or_imp, forall_eq, List.pairwise_cons, List.Pairwise.nil, and_true, false_imp_iff, implies_true] at h1 h2
                    refine ⟨?_, ?_⟩
                    · simp only [List.mem_cons, List.not_mem_nil, or_false, forall_eq_or_imp, forall_eq]
                      exact ⟨h1.1, h1.2.2.2.2, h1.2.2.1, h1.2.2.2.1⟩
                    · simp only [List.mem_cons, List.not_mem_nil, or_false, forall_eq_or_imp, forall_eq, List.pairwise_cons, List.Pairwise.nil, and_true, false_imp_iff, implies_true]
                      exact ⟨⟨h2.1.2.2.2, h2.1.2.1, h2.1.2.2.1⟩, ⟨h2.2.2.1.2.symm, h2.2.2.2.symm⟩, h2.2.2.1.1⟩
                  have hr := hp m.rows
                  have eB : rowB (knownR L a) = ⟨4, 1, j, bools (knownR L a)⟩ := by unfold rowB; rw [knownR_length, EM.out.2, HT.out]
                  rw [eB]
                  exact hr
end Go.Proofs.Ytfflidaodnhpbaa.Led
