/- Walk: LedgerAgrees. -/
import Derived.Test.YtfflidaodnhpbaaLedAg
namespace Go.Proofs.Ytfflidaodnhpbaa.Led
open Go Go.RowKit Go.Proofs.Ytfflidaodnhpbaa.Base Go.Proofs.Ytfflidaodnhpbaa.Draw
set_option linter.unusedVariables false
set_option linter.unusedSimpArgs false

theorem lwf_of {st : LSt} {L : List Nat} (h : Agree st L) : LWf st := by
  refine ⟨fun i hi => ?_, h.seen⟩
  have := h.ok.eps (st.ep.getD i 0) (by simp [List.getD, hi])
  exact this
theorem kn_lt {st : LSt} (h : LWf st) (x : Nat) (hx : x ∈ (finR st).kn) : x < (LT st.nw st.ep).length := by
  rw [LT_length]
  rcases (kn_iff st x).1 hx with ⟨i, hi, rfl⟩ | ⟨i, hi, rfl | rfl⟩ | ⟨s, hs, rfl | ⟨e, h1, h2, h3, rfl⟩⟩
  · unfold NN; omega
  · unfold NN; omega
  · unfold NN; omega
  · have := (h.sn s hs).1
    unfold chainAt
    split
    · unfold NN; omega
    · unfold NN; omega
  · unfold NN; omega
theorem kn_few {st : LSt} (h : LWf st) : (finR st).kn.length ≤ (LT st.nw st.ep).length := by
  refine pigeon _ _ ?_ (kn_lt h)
  have : (finR st).kn.Pairwise (· < ·) := compact_rise _ (srt_sorted _)
  exact this.imp (fun h => Nat.ne_of_lt h)
theorem agree_in {st : LSt} (h : LWf st) {O : List Nat} (h1 : ∀ x ∈ (finR st).kn, x ∈ O) (h2 : Sound (LT st.nw st.ep) (finR st).kn O) (h3 : Cl (LT st.nw st.ep) (has O)) (i : Nat) (hi : i < st.ep.length) :
    O.contains (NN st.nw i + 7) = lastAt st (i + 1) ∧ O.contains (NN st.nw i + 3) = lastAt st (i + 1) := by
  have s := h2 (star st) (star_cl h) (kn_star h)
  have c := (cl_leaks h h3 (fun x hx => (has_iff _ _).2 (h1 x hx)) i).2 hi
  constructor
  · rw [Bool.eq_iff_iff]
    constructor
    · intro g
      have := s _ ((has_iff _ _).1 g)
      rwa [sF7] at this
    · intro g
      exact (c g).1
  · rw [Bool.eq_iff_iff]
    constructor
    · intro g
      have := s _ ((has_iff _ _).1 g)
      rwa [sF3] at this
    · intro g
      exact (c g).2.1

theorem derive_in {st : LSt} (h : LWf st) {O : List Nat} (h1 : ∀ x ∈ (finR st).kn, x ∈ O) (h2 : Sound (LT st.nw st.ep) (finR st).kn O) (h3 : Cl (LT st.nw st.ep) (has O)) {i p : Nat} (hi : i < st.ep.length) (hp : NN st.nw i + 3 = p) : p ∈ O ↔ lastAt st (i + 1) = true := by
  subst hp
  rw [← (agree_in h h1 h2 h3 i hi).2]
  simp
theorem leaked_get (st : LSt) {n j : Nat} (h : j < n) : (bools (leaked st n))[j]? = some (.bool (lastAt st (j + 1))) := by simp [bools, leaked, h]
theorem frY_get (M : Nat) {n j : Nat} (h : j < n) : (nats (frY M n))[j]? = some (.int .i64 ((NN M j + 7 : Nat) : Int)) := by simp [nats, frY, h]
theorem frP_get (M : Nat) {n j : Nat} (h : j < n) : (nats (frP M n))[j]? = some (.int .i64 ((NN M j + 3 : Nat) : Int)) := by simp [nats, frP, h]
def RunLit (st : LSt) (w : World) (e : Ending) (w' : World) : Prop :=
  ∃ A1 c1 A2 c2 A3 c3 A4 c4, e = .returned (.agg #[.slice A1 (LT st.nw st.ep).length c1, .slice A2 (finR st).kn.length c2, .slice A3 st.ep.length c3, .slice A4 st.ep.length c4]) ∧
    Sl w' 3 (.slice A1 (LT st.nw st.ep).length c1) (LT st.nw st.ep).length (snv (LT st.nw st.ep)) ∧ Sl w' 1 (.slice A2 (finR st).kn.length c2) (finR st).kn.length (nats (finR st).kn) ∧
    Sl w' 1 (.slice A3 st.ep.length c3) st.ep.length (nats (frY st.nw st.ep.length)) ∧ Sl w' 1 (.slice A4 st.ep.length c4) st.ep.length (nats (frP st.nw st.ep.length)) ∧ Below w.heap.size w w'
theorem runLit_calls {w : World} {g : Nat} {F : Nat → Prop} {st : LSt} {ve vs : Value} (h : LRep w g F st ve vs) (ok : LOk st) (hw : LWf st) :
    Calls Try.prog 14 #[.pointer (some ⟨g, 0, none⟩)] w (RunLit st w) := by
  refine (run_calls h ok hw.sn).mono ?_
  rintro e w' ⟨vT, vk, vy, vp, rfl, ow, b⟩
  have e1 : (finR st).T = LT st.nw st.ep := rfl
  have e2 : (finR st).ks = frY st.nw st.ep.length := rfl
  have e3 : (finR st).ps = frP st.nw st.ep.length := rfl
  rw [e1, e2, e3] at ow
  have o1 : w'.ownsRow 0 46 3 vT (LT st.nw st.ep).length (snv (LT st.nw st.ep)) := ow.1 (vT, rowT (LT st.nw st.ep)) (by simp)
  have o2 : w'.ownsRow 0 3 1 vk (finR st).kn.length (nats (finR st).kn) := ow.1 (vk, rowI (finR st).kn) (by simp)
  have o3 : w'.ownsRow 0 3 1 vy (frY st.nw st.ep.length).length (nats (frY st.nw st.ep.length)) := ow.1 (vy, rowI (frY st.nw st.ep.length)) (by simp)
  have o4 : w'.ownsRow 0 3 1 vp (frP st.nw st.ep.length).length (nats (frP st.nw st.ep.length)) := ow.1 (vp, rowI (frP st.nw st.ep.length)) (by simp)
  rw [frY_length] at o3
  rw [frP_length] at o4
  clear ow
  obtain ⟨A1, c1, rfl, -⟩ := own_len o1
  obtain ⟨A2, c2, rfl, -⟩ := own_len o2
  obtain ⟨A3, c3, rfl, -⟩ := own_len o3
  obtain ⟨A4, c4, rfl, -⟩ := own_len o4
  exact ⟨A1, c1, A2, c2, A3, c3, A4, c4, rfl, Sl.of_own o1, Sl.of_own o2, Sl.of_own o3, Sl.of_own o4, b⟩

set_option maxRecDepth 100000 in
set_option maxHeartbeats 1000000 in
theorem longA_calls {w : World} {v : Value} {xs : List Int} (h : Sl w 1 v xs.length (intv xs)) (hn : 30 < xs.length) :
    Calls Try.prog 4 #[v] w fun e w' => e = .returned (.bool true) ∧ Below w.heap.size w w' := by
  obtain ⟨hl, A, c, rfl, hnc, hcm, hcell⟩ := h
  unfold maxLen at hcm
  clear hcell hl
  generalize hN : xs.length = N at *
  clear hN
  have hc : decide ((30 : Int) < (N : Int)) = true := by simp; omega
  go_enter Try.func4, Try.ntmps4
  go_wp2_with fail
  refine (awake_calls w).mono ?_
  rintro e w1 ⟨rfl, b1⟩
  go_wp2_with fail
  go_ret
  have := b1.size
  exact ⟨rfl, b1.alloc (by omega) _⟩

set_option maxRecDepth 100000 in
set_option maxHeartbeats 2000000 in
theorem lawA_calls {w : World} {v : Value} {xs : List Int} (h : Sl w 1 v xs.length (intv xs)) (hn : xs.length ≤ 30) :
    Calls Try.prog 4 #[v] w fun e w' => e = .returned (.bool true) ∧ Below w.heap.size w w' := by
  obtain ⟨hl, A, c, rfl, hnc, hcm, hcell⟩ := h
  have hcm' := hcm
  unfold maxLen at hcm'
  have HE := Lib.hid hcell
  clear hcell hl hcm
  generalize hN : xs.length = N at *
  have HN := Lib.hid hN
  clear hN
  have hc : decide ((30 : Int) < (N : Int)) = false := by simp; omega
  go_enter Try.func4, Try.ntmps4
  go_wp2_with fail
  refine (awake_calls w).mono ?_
  rintro e w1 ⟨rfl, b1⟩
  have B1 := Lib.hid b1
  clear b1
  go_wp2_with fail
  clear hc
  go_loopw [5] (fun i wr => ∃ k : Nat, k ≤ N ∧ i = .int .i64 (k : Int) ∧ LMid w1 wr w1.heap.size (runS (xs.take k))) (fun i _ => N - (intOf i).toNat)
  case atStart => exact ⟨0, by omega, rfl, by simpa [runS] using LMid.new w1⟩
  case round =>
    obtain ⟨k, hk, rfl, hm⟩ := hrel
    have M := Lib.hid hm
    clear hm
    by_cases hkt : k < N
    · have hc : decide ((k : Int) < (N : Int)) = true := by simp; omega
      have hkx : k < xs.length := by rw [HN.out]; exact hkt
      obtain ⟨b, o, rfl, hcl⟩ := HE.out (by omega)
      have x0 := hcl k (.int .i64 xs[k]) (by simp [intv, hkx])
      have x1 := (B1.out.cell (p := ⟨b, o + k, none⟩) (cell_lt x0)).trans x0
      have x2 := (M.out.bel.cell (p := ⟨b, o + k, none⟩) (cell_lt x1)).trans x1
      clear hcl x0 x1
      generalize hx : xs[k] = x at *
      have HX := Lib.hid hx
      clear hx
      go_wp2_with fail
      have ok := (runS_agree (xs.take k) (by simp; omega)).1.ok
      refine (M.out.did ok).mono ?_
      rintro e w2 ⟨rfl, m1, -⟩
      have M1 := Lib.hid m1
      clear m1 ok
      go_wp2_with fail
      go_roundw
      case rel => exact ⟨k + 1, by omega, by go_num, by rw [runS_take xs k hkx, HX.out]; exact M1.out⟩
      case measure => simp [intOf]; omega
    · obtain rfl : k = N := by omega
      have hc : decide ((k : Int) < (k : Int)) = false := by simp
      have e : xs.take k = xs := by rw [List.take_of_length_le (by rw [HN.out]; exact Nat.le_refl _)]
      have hag := (runS_agree xs (by rw [HN.out]; exact hn)).1
      have M1 : Hid (LMid w1 wr w1.heap.size (runS xs)) := Lib.hid (by have := M.out; rw [e] at this; exact this)
      clear M e
      generalize runS xs = st at *
      have hwf := lwf_of hag
      have hn6 := hag.ok.len
      have hM6 := hag.ok.nw
      have HA := Lib.hid (And.intro hag.ok hwf)
      clear hag hwf
      go_wp2_with fail
      obtain ⟨F0, ve0, vs0, r0, r0'⟩ := M1.out.rep
      refine (leaked_calls r0 HA.out.1).mono ?_
      clear r0 r0'
      rintro e w2 ⟨va, rfl, oa, b2⟩
      obtain ⟨Aa, ca, rfl, ha1, ha2⟩ := own_len oa
      have M2 := Lib.hid (M1.out.below b2)
      have S2 := Lib.hid (Sl.of_own oa)
      clear oa b2 M1
      go_wp2_with fail
      obtain ⟨F0, ve0, vs0, r0, r0'⟩ := M2.out.rep
      refine (runLit_calls r0 HA.out.1 HA.out.2).mono ?_
      clear r0 r0'
      rintro e w3 ⟨A1, c1, A2, c2, A3, c3, A4, c4, rfl, s1, s2, s3, s4, b3⟩
      have M3 := Lib.hid (M2.out.below b3)
      have S3 := Lib.hid (And.intro (S2.out.below b3) (And.intro s1 (And.intro s2 (And.intro s3 s4))))
      clear s1 s2 s3 s4 b3 M2 S2
      go_wp2_with fail
      have hB0 : Below w3.heap.size w3 (w3.alloc (.cells #[.slice A1 (LT st.nw st.ep).length c1, .slice A2 (finR st).kn.length c2, .slice A3 st.ep.length c3, .slice A4 st.ep.length c4] 40)) := (Below.refl _ _).alloc (Nat.le_refl _) _
      have hBk := Blk.new w3 40 #[.slice A1 (LT st.nw st.ep).length c1, .slice A2 (finR st).kn.length c2, .slice A3 st.ep.length c3, .slice A4 st.ep.length c4]
      have M4 := Lib.hid (And.intro (M3.out.below hB0) hBk)
      have S4 := Lib.hid (And.intro (S3.out.1.below hB0) (And.intro (S3.out.2.1.below hB0) (And.intro (S3.out.2.2.1.below hB0) (And.intro (S3.out.2.2.2.1.below hB0) (S3.out.2.2.2.2.below hB0)))))
      have hkl := kn_few HA.out.2
      have hTl : (LT st.nw st.ep).length = NN st.nw st.ep.length := LT_length _ _
      have hT200 : (LT st.nw st.ep).length ≤ 200 := by rw [hTl]; unfold NN; omega
      have hT0 : 0 < (LT st.nw st.ep).length := by rw [hTl]; unfold NN; omega
      have hAsk : ∀ W, Below (w3.alloc (.cells #[.slice A1 (LT st.nw st.ep).length c1, .slice A2 (finR st).kn.length c2, .slice A3 st.ep.length c3, .slice A4 st.ep.length c4] 40)).heap.size (w3.alloc (.cells #[.slice A1 (LT st.nw st.ep).length c1, .slice A2 (finR st).kn.length c2, .slice A3 st.ep.length c3, .slice A4 st.ep.length c4] 40)) W → Asks W (LT st.nw st.ep) (.slice A1 (LT st.nw st.ep).length c1) (.slice A2 (finR st).kn.length c2) (finR st).kn :=
        fun W hW => ⟨S4.out.2.1.below hW, hT200, hT0, LT_wf HA.out.2, S4.out.2.2.1.below hW, kn_lt HA.out.2, by omega⟩
      have HAsk := Lib.hid hAsk
      have HTl := Lib.hid hTl
      clear hB0 hBk M3 S3 hAsk hkl hTl
      generalize hG : w3.heap.size = G at *
      generalize w3.alloc (.cells #[.slice A1 (LT st.nw st.ep).length c1, .slice A2 (finR st).kn.length c2, .slice A3 st.ep.length c3, .slice A4 st.ep.length c4] 40) = W4 at *
      clear hG
      refine (close_calls (HAsk.out _ (Below.refl _ _))).mono ?_
      rintro e w5 ⟨O, A5, c5, rfl, oin, hO1, hO2, hO3, b5⟩
      have hin : ∀ i, i < st.ep.length → O.contains (NN st.nw i + 7) = lastAt st (i + 1) ∧ O.contains (NN st.nw i + 3) = lastAt st (i + 1) := fun i hi => agree_in HA.out.2 hO1 hO2 hO3 i hi
      have hBk5 := M4.out.2.below b5 M4.out.2.lt
      have HB5 := Lib.hid hBk5
      have hG5 := hBk5.lt
      have y0 := hBk5.cell 0
      have y1 := hBk5.cell 1
      have y2 := hBk5.cell 2
      have y3 := hBk5.cell 3
      simp only [List.getElem?_toArray, List.getElem?_cons_zero, List.getElem?_cons_succ] at y0 y1 y2 y3
      have hAs5 := fun W (hW : Below w5.heap.size w5 W) => HAsk.out W (b5.trans (hW.mono b5.size))
      have HAs5 := Lib.hid hAs5
      have S5 := Lib.hid (And.intro (S4.out.1.below b5) (And.intro (S4.out.2.2.2.1.below b5) (And.intro (S4.out.2.2.2.2.below b5) (Sl.of_own oin))))
      have M5 := Lib.hid (M4.out.1.below b5)
      have HIn := Lib.hid hin
      clear hin hBk5 hAs5 oin hO1 hO2 hO3 b5 S4 M4 HAsk
      have hne : ((st.ep.length : Int) != (st.ep.length : Int)) = false := by simp
      go_wp2_with fail
      clear hne y0 y1 y2 y3
      go_loopw [10] (fun i wr => ∃ j : Nat, j ≤ st.ep.length ∧ i = .int .i64 (j : Int) ∧ Below w5.heap.size w5 wr) (fun i _ => st.ep.length - (intOf i).toNat)
      case atStart => exact ⟨0, by omega, rfl, Below.refl _ _⟩
      case round =>
        obtain ⟨j, hj, rfl, hb⟩ := hrel
        have HBr := HB5.out.below hb hG5
        have y0 := HBr.cell 0
        have y1 := HBr.cell 1
        have y2 := HBr.cell 2
        have y3 := HBr.cell 3
        simp only [List.getElem?_toArray, List.getElem?_cons_zero, List.getElem?_cons_succ] at y0 y1 y2 y3
        have HBB := Lib.hid hb
        by_cases hjt : j < st.ep.length
        · have hd : decide ((j : Int) < (st.ep.length : Int)) = true := by simp; omega
          obtain ⟨ba, oa, rfl, ka⟩ := sl_at2 S5.out.1 (by omega)
          obtain ⟨by', oy, rfl, ky⟩ := sl_at2 S5.out.2.1 (by omega)
          obtain ⟨bp, op, rfl, kp⟩ := sl_at2 S5.out.2.2.1 (by omega)
          obtain ⟨bi, oi, rfl, ki⟩ := sl_at2 S5.out.2.2.2 (by omega)
          have a0 := ka _ _ (leaked_get st hjt)
          have a1 := ky _ _ (frY_get st.nw hjt)
          have a2 := kp _ _ (frP_get st.nw hjt)
          have l7 : NN st.nw j + 7 < (LT st.nw st.ep).length := by rw [HTl.out]; unfold NN; omega
          have l3 : NN st.nw j + 3 < (LT st.nw st.ep).length := by rw [HTl.out]; unfold NN; omega
          have a3 := ki _ _ (inS_get (O := O) l7)
          have a4 := ki _ _ (inS_get (O := O) l3)
          rw [(HIn.out j hjt).1] at a3
          rw [(HIn.out j hjt).2] at a4
          have z0 := (hb.cell (p := ⟨ba, oa + j, none⟩) (cell_lt a0)).trans a0
          have z1 := (hb.cell (p := ⟨by', oy + j, none⟩) (cell_lt a1)).trans a1
          have z2 := (hb.cell (p := ⟨bp, op + j, none⟩) (cell_lt a2)).trans a2
          have z3 := (hb.cell (p := ⟨bi, oi + (NN st.nw j + 7), none⟩) (cell_lt a3)).trans a3
          have z4 := (hb.cell (p := ⟨bi, oi + (NN st.nw j + 3), none⟩) (cell_lt a4)).trans a4
          clear ka ky kp ki a0 a1 a2 a3 a4 hb HBr
          generalize h7 : NN st.nw j + 7 = kI at *
          generalize h3 : NN st.nw j + 3 = pI at *
          have H3 := Lib.hid h3
          have hdr := fun (O' : List Nat) (g1 : ∀ x ∈ (finR st).kn, x ∈ O') (g2 : Sound (LT st.nw st.ep) (finR st).kn O') (g3 : Cl (LT st.nw st.ep) (has O')) => derive_in HA.out.2 g1 g2 g3 hjt H3.out
          generalize hbv : lastAt st (j + 1) = bv at *
          have HDR := Lib.hid hdr
          clear h7 h3 hbv hdr
          have f1 : decide ((kI : Int) < 0) = false := by simp
          have f2 : decide ((pI : Int) < 0) = false := by simp
          have f3 : decide (((LT st.nw st.ep).length : Int) ≤ (kI : Int)) = false := by simp; omega
          have f4 : decide (((LT st.nw st.ep).length : Int) ≤ (pI : Int)) = false := by simp; omega
          have f5 : decide ((LT st.nw st.ep).length ≤ kI) = false := by simp; omega
          have f6 : decide ((LT st.nw st.ep).length ≤ pI) = false := by simp; omega
          have HL := Lib.hid (And.intro l7 l3)
          cases bv
          · go_wp2_with fail
            go_quiet (fail)
            go_wp2_with fail
            refine (derive_calls (HAs5.out _ (below_drewN HBB.out nq)) pI HL.out.2).mono ?_
            rintro e w8 ⟨O', g1, g2, g3, b8, hcase⟩
            have hno : pI ∉ O' := by rw [HDR.out O' g1 g2 g3]; simp
            have x0 : w8.cell? ⟨ba, oa + j, none⟩ = some (.bool false) := (b8.cell (p := ⟨ba, oa + j, none⟩) (by simpa using cell_lt z0)).trans z0
            have B8 := Lib.hid ((below_drewN HBB.out nq).trans (b8.mono (below_drewN HBB.out nq).size))
            clear g1 g2 g3 b8 y0 y1 y2 y3 z0 z1 z2 z3 z4
            rcases hcase with ⟨-, rfl⟩ | ⟨hin, -⟩
            · clear hno
              go_wp2_with fail
              go_roundw
              case rel => exact ⟨j + 1, by omega, by go_num, B8.out⟩
              case measure => simp [intOf]; omega
            · exact absurd hin hno
          · go_wp2_with fail
            go_quiet (fail)
            go_wp2_with fail
            refine (derive_calls (HAs5.out _ (below_drewN HBB.out nq)) pI HL.out.2).mono ?_
            rintro e w8 ⟨O', g1, g2, g3, b8, hcase⟩
            have hyes : pI ∈ O' := by rw [HDR.out O' g1 g2 g3]; trivial
            have x0 : w8.cell? ⟨ba, oa + j, none⟩ = some (.bool true) := (b8.cell (p := ⟨ba, oa + j, none⟩) (by simpa using cell_lt z0)).trans z0
            have B8 := Lib.hid ((below_drewN HBB.out nq).trans (b8.mono (below_drewN HBB.out nq).size))
            clear g1 g2 g3 b8 y0 y1 y2 y3 z0 z1 z2 z3 z4
            rcases hcase with ⟨hno, -⟩ | ⟨-, b9, p9, c9, rfl, -, hp9, x9⟩
            · exact absurd hyes hno
            · clear hyes
              have v1 : (((p9 + 1 : Nat) : Int) == 0) = false := by simp; omega
              have v2 : ((pI : Int) != (pI : Int)) = false := by simp
              go_wp2_with fail
              go_roundw
              case rel => exact ⟨j + 1, by omega, by go_num, B8.out⟩
              case measure => simp [intOf]; omega
        · obtain rfl : j = st.ep.length := by omega
          have hd : decide ((st.ep.length : Int) < (st.ep.length : Int)) = false := by simp
          clear hb HBr
          go_wp2_with fail
          go_ret
          exact ⟨rfl, B1.out.trans ((M5.out.bel.trans (HBB.out.mono M5.out.bel.size)).mono B1.out.size)⟩
end Go.Proofs.Ytfflidaodnhpbaa.Led
