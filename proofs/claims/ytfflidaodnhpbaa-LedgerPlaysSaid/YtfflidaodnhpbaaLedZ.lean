/- Walk: the statement's own function. -/
import Derived.Test.YtfflidaodnhpbaaLedY
namespace Go.Proofs.Ytfflidaodnhpbaa.Led
open Go Go.RowKit Go.Proofs.Ytfflidaodnhpbaa.Base Go.Proofs.Ytfflidaodnhpbaa.Draw
set_option linter.unusedVariables false
set_option linter.unusedSimpArgs false

def LoopRel (w : World) (g r : Nat) (k : Nat) (wr : World) : Prop := ∃ st L, Agree st L ∧ L.length ≤ k ∧ TwoMid w wr g r st L

/-- The marked places below k, in their order. -/
def pre (K : List Bool) (k : Nat) : List Nat := (List.range k).filter fun i => K.getD i false
theorem pre_len (K : List Bool) (k : Nat) : (pre K k).length ≤ k := Nat.le_trans (List.length_filter_le _ _) (by simp)
theorem pre_succ (K : List Bool) (k : Nat) : pre K (k + 1) = if K.getD k false then pre K k ++ [k] else pre K k := by
  unfold pre
  rw [List.range_succ, List.filter_append]
  cases h : K.getD k false <;> simp only [List.filter_cons, List.filter_nil, h] <;> simp
theorem sl_at {w : World} {sz n c : Nat} {A : Option Addr} {vs : List Value} (h : Sl w sz (.slice A n c) n vs) (hn : 0 < n) : ∃ b o, A = some ⟨b, o, none⟩ ∧ ∀ j u, vs[j]? = some u → w.cell? ⟨b, o + j, none⟩ = some u := by
  obtain ⟨_, A', c', h1, _, _, h4⟩ := h
  injection h1 with h1
  subst h1
  exact h4 hn

set_option maxRecDepth 100000 in
set_option maxHeartbeats 1000000 in
theorem long_calls {w : World} {v : Value} {xs : List Int} (h : Sl w 1 v xs.length (intv xs)) (hn : 30 < xs.length) :
    Calls Try.prog 3 #[v] w fun e w' => e = .returned (.bool true) ∧ Below w.heap.size w w' := by
  obtain ⟨hl, A, c, rfl, hnc, hcm, hcell⟩ := h
  unfold maxLen at hcm
  clear hcell hl
  generalize hN : xs.length = N at *
  clear hN
  have hc : decide ((30 : Int) < (N : Int)) = true := by simp; omega
  go_enter Try.func3, Try.ntmps3
  go_wp2_with fail
  refine (awake_calls w).mono ?_
  rintro e w1 ⟨rfl, b1⟩
  go_wp2_with fail
  go_ret
  have := b1.size
  exact ⟨rfl, (b1.alloc (by omega) _).alloc (by simp; omega) _⟩

set_option maxRecDepth 100000 in
set_option maxHeartbeats 1000000 in
theorem law_calls {w : World} {v : Value} {xs : List Int} (h : Sl w 1 v xs.length (intv xs)) (hn : xs.length ≤ 30) :
    Calls Try.prog 3 #[v] w fun e w' => e = .returned (.bool true) ∧ Below w.heap.size w w' := by
  obtain ⟨hl, A, c, rfl, hnc, hcm, hcell⟩ := h
  have hcm' := hcm
  unfold maxLen at hcm'
  have HE := Lib.hid hcell
  clear hcell hl hcm
  generalize hN : xs.length = N at *
  have HN := Lib.hid hN
  clear hN
  have hc : decide ((30 : Int) < (N : Int)) = false := by simp; omega
  go_enter Try.func3, Try.ntmps3
  go_wp2_with fail
  refine (awake_calls w).mono ?_
  rintro e w1 ⟨rfl, b1⟩
  have B1 := Lib.hid b1
  clear b1
  go_wp2_with fail
  clear hc
  go_loopw [6] (fun i wr => ∃ k : Nat, k ≤ N ∧ i = .int .i64 (k : Int) ∧ LoopRel w w1.heap.size (w1.heap.size + 1) k wr) (fun i _ => N - (intOf i).toNat)
  case atStart => exact ⟨0, by omega, rfl, _, _, agree_nil, by simp, TwoMid.start B1.out⟩
  case round =>
    obtain ⟨k, hk, rfl, hrel⟩ := hrel
    have HL := Lib.hid hrel
    clear hrel
    by_cases hkt : k < N
    · have hc : decide ((k : Int) < (N : Int)) = true := by simp; omega
      have hkx : k < xs.length := by rw [HN.out]; exact hkt
      obtain ⟨b, o, rfl, hcl⟩ := HE.out (by omega)
      obtain ⟨st, L, ha, hL, m⟩ := HL.out
      have x0 := hcl k (.int .i64 xs[k]) (by simp [intv, hkx])
      have x1 := (m.bel.cell (p := ⟨b, o + k, none⟩) (cell_lt x0)).trans x0
      have lb0 := cell_lt x0
      clear hcl HL
      generalize xs[k] = x at *
      obtain ⟨s1, s2, s3⟩ := ha.step (by omega) x
      have hrl := m.rlt
      have M := Lib.hid m
      have H := Lib.hid (And.intro ha (And.intro s1 (And.intro s2 (And.intro s3 hL))))
      clear m ha s1 s2 s3
      go_wp2_with fail
      refine (M.out.did H.out.1.ok x).mono ?_
      rintro e w2 ⟨rfl, m2⟩
      have M2 := Lib.hid m2
      clear m2
      go_wp2_with fail
      refine (M2.out.leaked H.out.2.2.1.ok).mono ?_
      rintro e w3 ⟨va, rfl, oa, b3⟩
      have M3 := Lib.hid (M2.out.below b3)
      have OA := Lib.hid oa
      clear oa b3
      go_wp2_with fail
      refine (M3.out.epochs H.out.2.2.1.ok).mono ?_
      rintro e w4 ⟨vb, rfl, ob, b4⟩
      have M4 := Lib.hid (M3.out.below b4)
      have OA4 := Lib.hid (own_below OA.out b4)
      have OB := Lib.hid ob
      have hs2 := M2.out.rlt
      have hs3 := M3.out.rlt
      have x4 := (M4.out.bel.cell (p := ⟨b, o + k, none⟩) lb0).trans x0
      clear ob b4 OA M3 M2 x1
      go_wp2_with fail
      refine (M4.out.didR (by have := H.out.2.2.2.2; omega) x).mono ?_
      rintro e w5 ⟨rfl, m5, c5⟩
      have M5 := Lib.hid m5
      have OA5 := Lib.hid (own_past OA4.out c5 hs2)
      have OB5 := Lib.hid (own_past OB.out c5 hs3)
      have hne : (doE st x != doRE L x) = false := by rw [H.out.2.1]; simp
      clear m5 c5 OA4 OB M4 x4
      go_wp2_with fail
      obtain ⟨vl5, R5⟩ := M5.out.rrep
      refine (leakedR_calls R5 (by have := H.out.2.2.2.1; have := H.out.2.2.2.2; omega)).mono ?_
      clear R5
      rintro e w6 ⟨va', rfl, oa', b6⟩
      have M6 := Lib.hid (M5.out.below b6)
      have OA6 := Lib.hid (own_below OA5.out b6)
      have OB6 := Lib.hid (own_below OB5.out b6)
      have OA' := Lib.hid oa'
      clear oa' b6 OA5 OB5 M5
      go_wp2_with fail
      refine (alike_leaked H.out.2.2.1 (by have := H.out.2.2.2.1; have := H.out.2.2.2.2; omega) OA6.out OA'.out).mono ?_
      rintro e w7 ⟨rfl, q7, rfl⟩
      have M7 := Lib.hid (M6.out.drewN q7)
      have OB7 := Lib.hid (own_drewN OB6.out q7)
      clear OA6 OA' OB6 M6
      go_wp2_with fail
      obtain ⟨vl7, R7⟩ := M7.out.rrep
      refine (epochsR_calls R7 (by have := H.out.2.2.2.1; have := H.out.2.2.2.2; omega)).mono ?_
      clear R7
      rintro e w8 ⟨vb', rfl, ob', b8⟩
      have M8 := Lib.hid (M7.out.below b8)
      have OB8 := Lib.hid (own_below OB7.out b8)
      have OB' := Lib.hid ob'
      clear ob' b8 OB7 M7
      go_wp2_with fail
      refine (alike_epochs H.out.2.2.1 OB8.out OB'.out).mono ?_
      rintro e w9 ⟨rfl, q9, rfl⟩
      have M9 := Lib.hid (M8.out.drewN q9)
      clear OB8 OB' M8
      go_wp2_with fail
      go_roundw
      case rel => exact ⟨k + 1, by omega, by go_num, _, _, H.out.2.2.1, by have := H.out.2.2.2.1; have := H.out.2.2.2.2; omega, M9.out⟩
      case measure => simp [intOf]; omega
    · obtain rfl : k = N := by omega
      have hc : decide ((k : Int) < (k : Int)) = false := by simp
      obtain ⟨st, L, ha, hL, m⟩ := HL.out
      have hL30 : L.length ≤ 30 := by omega
      have M := Lib.hid m
      have HA := Lib.hid ha
      have hr1 := m.rlt
      clear m ha HL hL
      go_wp2_with fail
      obtain ⟨hTK, hT2, hY6, hP6⟩ := TTl_len HA.out
      have HTK := Lib.hid hTK
      clear hTK
      refine (M.out.runs HA.out).mono ?_
      rintro e w2 ⟨A1, c1, A2, c2, A3, c3, A4, c4, rfl, o1, o2, o3, o4, b2⟩
      have M2 := Lib.hid (M.out.below b2)
      have O1 := Lib.hid (And.intro o1 (And.intro o2 (And.intro o3 o4)))
      clear o1 o2 o3 o4 b2 M
      go_wp2_with fail
      have M3 := Lib.hid (M2.out.below ((Below.refl _ _).alloc (Nat.le_refl _) (.cells #[.slice A1 (TTl L).length c1, .slice A2 (allOf (KKl L)).length c2, .slice A3 (YYl L).length c3, .slice A4 (PPl L).length c4] 40)))
      have O2 := Lib.hid (And.intro (O1.out.1.alloc (.cells #[.slice A1 (TTl L).length c1, .slice A2 (allOf (KKl L)).length c2, .slice A3 (YYl L).length c3, .slice A4 (PPl L).length c4] 40)) (And.intro (O1.out.2.1.alloc (.cells #[.slice A1 (TTl L).length c1, .slice A2 (allOf (KKl L)).length c2, .slice A3 (YYl L).length c3, .slice A4 (PPl L).length c4] 40)) (And.intro (O1.out.2.2.1.alloc (.cells #[.slice A1 (TTl L).length c1, .slice A2 (allOf (KKl L)).length c2, .slice A3 (YYl L).length c3, .slice A4 (PPl L).length c4] 40)) (O1.out.2.2.2.alloc (.cells #[.slice A1 (TTl L).length c1, .slice A2 (allOf (KKl L)).length c2, .slice A3 (YYl L).length c3, .slice A4 (PPl L).length c4] 40)))))
      have HB := Lib.hid (Blk.new w2 40 #[.slice A1 (TTl L).length c1, .slice A2 (allOf (KKl L)).length c2, .slice A3 (YYl L).length c3, .slice A4 (PPl L).length c4])
      generalize hG : w2.heap.size = G at *
      generalize w2.alloc (.cells #[.slice A1 (TTl L).length c1, .slice A2 (allOf (KKl L)).length c2, .slice A3 (YYl L).length c3, .slice A4 (PPl L).length c4] 40) = W3 at *
      clear M2 O1 hG
      refine (M3.out.termsR HA.out hL30).mono ?_
      rintro e w4 ⟨A5, c5, A6, c6, A7, c7, A8, c8, rfl, o5, o6, o7, o8, b4⟩
      have M4 := Lib.hid (M3.out.below b4)
      have O4 := Lib.hid (And.intro (own_below O2.out.1 b4) (And.intro (own_below O2.out.2.1 b4) (And.intro (own_below O2.out.2.2.1 b4) (own_below O2.out.2.2.2 b4))))
      have O5 := Lib.hid (And.intro o5 (And.intro o6 (And.intro o7 o8)))
      have hB4 := HB.out.below b4 HB.out.lt
      have hG : G < w4.heap.size := hB4.lt
      have y0 := hB4.cell 0
      have y1 := hB4.cell 1
      have y2 := hB4.cell 2
      have y3 := hB4.cell 3
      simp only [List.getElem?_toArray, List.getElem?_cons_zero, List.getElem?_cons_succ] at y0 y1 y2 y3
      have HB4 := Lib.hid hB4
      clear o5 o6 o7 o8 b4 O2 M3 HB hB4
      have hne : (((TTl L).length : Int) != ((TTl L).length : Int)) = false := by simp
      generalize hn1 : (TTl L).length = n1 at *
      generalize hnY : (YYl L).length = nY at *
      generalize hnP : (PPl L).length = nP at *
      generalize hnA : (allOf (KKl L)).length = nA at *
      generalize hnK : (KKl L).length = nK at *
      have HNS := Lib.hid (And.intro hn1 (And.intro hnY (And.intro hnP (And.intro hnA hnK))))
      clear hn1 hnY hnP hnA hnK
      go_wp2_with fail
      refine (numbers_eq (xs := YYl L) (by rw [HNS.out.2.1]; exact Sl.of_own O4.out.2.2.1) (by rw [HNS.out.2.1]; exact Sl.of_own O5.out.2.2.1) (by rw [HNS.out.2.1]; omega)).mono ?_
      rintro e w5 ⟨rfl, q5, rfl⟩
      go_wp2_with fail
      refine (numbers_eq (xs := PPl L) (by rw [HNS.out.2.2.1]; exact Sl.of_own (own_drewN O4.out.2.2.2 q5)) (by rw [HNS.out.2.2.1]; exact Sl.of_own (own_drewN O5.out.2.2.2 q5)) (by rw [HNS.out.2.2.1]; omega)).mono ?_
      rintro e w6 ⟨rfl, q6, rfl⟩
      have M6 := Lib.hid ((M4.out.drewN q5).drewN q6)
      have HB6 := Lib.hid ((HB4.out.drewN q5).drewN q6)
      have S1 := Lib.hid (And.intro (((Sl.of_own O4.out.1).drewN q5).drewN q6) (And.intro (((Sl.of_own O5.out.1).drewN q5).drewN q6) (And.intro (((Sl.of_own O5.out.2.1).drewN q5).drewN q6) (((Sl.of_own O4.out.2.1).drewN q5).drewN q6))))
      have hG6 : G < ((w4.drewN q5).drewN q6).heap.size := HB6.out.lt
      clear O4 O5 M4 HB4 y0 y1 y2 y3 hne hG
      generalize (w4.drewN q5).drewN q6 = W at *
      go_wp2_with fail
      go_loopw [15, 16] (fun v i wr => ∃ j : Nat, j ≤ n1 ∧ i = .int .i64 (j : Int) ∧ wr.ownsRow W.heap.size 3 1 v (pre (KKl L) j).length (nats (pre (KKl L) j)) ∧ Below W.heap.size W wr) (fun _ i _ => n1 - (intOf i).toNat)
      case atStart => exact ⟨0, by omega, rfl, World.ownsRow_nil _ _ _ _, Below.refl _ _⟩
      case round =>
        obtain ⟨j, hj, rfl, hown, hb⟩ := hrel
        have HO := Lib.hid hown
        have HBr := HB6.out.below hb hG6
        have y0 := HBr.cell 0
        have y1 := HBr.cell 1
        simp only [List.getElem?_toArray, List.getElem?_cons_zero, List.getElem?_cons_succ] at y0 y1
        have hwB : W.heap.size ≤ wr.heap.size := hb.size
        have hpl := pre_len (KKl L) j
        generalize hPl : (pre (KKl L) j).length = pl at *
        have HP := Lib.hid hPl
        have hG7 := HBr.lt
        clear hown HBr hPl
        by_cases hjt : j < n1
        · have hc : decide ((j : Int) < (n1 : Int)) = true := by simp; omega
          have hjT : j < (TTl L).length := by rw [HNS.out.1]; exact hjt
          have hjK : j < (KKl L).length := by rw [HNS.out.2.2.2.2, ← HTK.out]; exact hjt
          have hjn : j < nK := by rw [← HNS.out.2.2.2.2]; exact hjK
          obtain ⟨b1, o1, rfl, k1⟩ := sl_at S1.out.1 (by omega)
          obtain ⟨b5, o5, rfl, k5⟩ := sl_at S1.out.2.1 (by omega)
          obtain ⟨b6, o6, rfl, k6⟩ := sl_at S1.out.2.2.1 (by have := HNS.out.2.2.2.2; omega)
          obtain ⟨t0, t1, t2⟩ := snv_at (TTl L) j hjT
          have p0 := k1 _ _ t0
          have p1 := k1 _ _ t1
          have p2 := k1 _ _ t2
          have r0 := k5 _ _ t0
          have r1 := k5 _ _ t1
          have r2 := k5 _ _ t2
          have z0 := k6 _ _ (bools_get hjK)
          have l1 := cell_lt p0
          have l5 := cell_lt r0
          have l6 := cell_lt z0
          rw [← Nat.add_assoc] at p1 p2 r1 r2
          replace p0 := (hb.cell (p := ⟨b1, o1 + j * 3, none⟩) l1).trans p0
          replace p1 := (hb.cell (p := ⟨b1, o1 + j * 3 + 1, none⟩) l1).trans p1
          replace p2 := (hb.cell (p := ⟨b1, o1 + j * 3 + 2, none⟩) l1).trans p2
          replace r0 := (hb.cell (p := ⟨b5, o5 + j * 3, none⟩) l5).trans r0
          replace r1 := (hb.cell (p := ⟨b5, o5 + j * 3 + 1, none⟩) l5).trans r1
          replace r2 := (hb.cell (p := ⟨b5, o5 + j * 3 + 2, none⟩) l5).trans r2
          replace z0 := (hb.cell (p := ⟨b6, o6 + j, none⟩) l6).trans z0
          clear k1 k5 k6 t0 t1 t2
          generalize (TTl L)[j] = x at *
          have hps := pre_succ (KKl L) j
          generalize (KKl L).getD j false = bv at *
          have HPS := Lib.hid hps
          obtain ⟨x1, x2, x3⟩ := x
          have g1 : ((x1 : Int) != (x1 : Int)) = false := by simp
          have g2 : ((x2 : Int) != (x2 : Int)) = false := by simp
          have g3 : ((x3 : Int) != (x3 : Int)) = false := by simp
          have HB7 := Lib.hid hb
          clear hb hps
          cases bv
          · go_wp2_with fail
            go_quiet (fail)
            go_wp2_with fail
            go_roundw
            case rel => exact ⟨j + 1, by omega, by go_num, by rw [HPS.out, if_neg (by simp), HP.out]; exact own_drewN HO.out _, below_drewN HB7.out _⟩
            case measure => simp [intOf]; omega
          · go_wp2_with fail
            go_quiet (fail)
            have HO8 := Lib.hid (own_drewN HO.out nq)
            have HB8 := Lib.hid (below_drewN HB7.out nq)
            go_wp2_with (refine list_app ty_ints rfl (.tmp 143) (.tmp 145) rfl (by simp [Act.eval]) (own_heap (HO8.out.alloc _) (by rfl)) wr.heap.size 1 1 3 #[.int .i64 (j : Int)] (by simp [Act.eval]) (by exact heap_alloc_new _ _) rfl (by simp [Value.oneCell']) (by decide) (by unfold maxLen; omega) (by omega) (by simp; omega) ?_; intro g' cap w' hown hgr hat hlt')
            go_roundw
            case rel =>
              refine ⟨j + 1, by omega, by go_num, ?_, ?_⟩
              · rw [HPS.out, if_pos trivial, List.length_append, HP.out]
                have := hown
                simpa [nats] using this
              · refine ((HB8.out.trans ((Below.refl _ _).alloc (by simpa using hwB) (.cells #[.int .i64 (j : Int)] 3))).grown (w := (wr.drewN nq).alloc (.cells #[.int .i64 (j : Int)] 3)) hgr ?_ ?_)
                · simp; omega
                · intro i hi; exact (HO8.out.lt i hi).1
            case measure => simp [intOf]; omega
        · obtain rfl : j = n1 := by omega
          have hc : decide ((j : Int) < (j : Int)) = false := by simp
          have HB7 := Lib.hid hb
          clear hb
          go_wp2_with fail
          have ep : pre (KKl L) j = allOf (KKl L) := by unfold pre allOf; rw [HNS.out.2.2.2.2, ← HTK.out]
          have O9 : Hid (Sl wr 1 u15 nA (nats (allOf (KKl L)))) := Lib.hid (by
            have := Sl.of_own HO.out
            rw [← HP.out, ep, HNS.out.2.2.2.1] at this
            exact this)
          have hA200 : nA ≤ 200 := by rw [← HNS.out.2.2.2.1, ← ep]; have := pre_len (KKl L) j; omega
          refine (numbers_eq (xs := allOf (KKl L)) (by rw [HNS.out.2.2.2.1]; exact S1.out.2.2.2.below HB7.out) (by rw [HNS.out.2.2.2.1]; exact O9.out) (by rw [HNS.out.2.2.2.1]; omega)).mono ?_
          rintro e w9 ⟨rfl, q9, rfl⟩
          go_wp2_with fail
          go_ret
          exact ⟨rfl, below_drewN (M6.out.bel.trans (HB7.out.mono M6.out.bel.size)) _⟩
end Go.Proofs.Ytfflidaodnhpbaa.Led
