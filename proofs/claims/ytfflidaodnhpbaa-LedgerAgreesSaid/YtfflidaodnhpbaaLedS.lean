/- Walks: two lists held against each other; the reference's Epochs and Leaked. -/
import Derived.Test.YtfflidaodnhpbaaLedR
namespace Go.Proofs.Ytfflidaodnhpbaa.Led
open Go Go.RowKit Go.Proofs.Ytfflidaodnhpbaa.Base Go.Proofs.Ytfflidaodnhpbaa.Draw
set_option linter.unusedVariables false
set_option linter.unusedSimpArgs false

def valB (b : Bool) : Value := .bool b
def valN (n : Nat) : Value := .int .i64 (n : Int)
set_option maxHeartbeats 1000000 in
theorem bools_eq {w : World} {v v' : Value} {xs : List Bool} (h : Sl w 1 v xs.length (bools xs)) (h' : Sl w 1 v' xs.length (bools xs)) (hn : xs.length ≤ 100000) :
    Calls Try.prog 10 #[v, v'] w fun e w' => e = .returned (.bool true) ∧ ∃ q, w' = w.drewN q := by
  obtain ⟨hl, A, c, rfl, hnc, hcm, hcell⟩ := h
  obtain ⟨hl', A', c', rfl, hnc', hcm', hcell'⟩ := h'
  have HE := Lib.hid hcell
  have HE' := Lib.hid hcell'
  have g1 := hcm
  have g2 := hcm'
  unfold maxLen at g1 g2
  clear hl hl' hcm hcm' hcell hcell'
  generalize hN : xs.length = N at *
  have HN := Lib.hid hN
  clear hN
  have hne : ((N : Int) != (N : Int)) = false := by simp
  go_enter Try.func10, Try.ntmps10
  go_wp2_with fail
  go_loopw [5] (fun i wr => ∃ k q : Nat, k ≤ N ∧ i = .int .i64 k ∧ wr = w.drewN q) (fun i _ => N - (intOf i).toNat)
  case atStart => exact ⟨0, 0, by omega, rfl, rfl⟩
  case round =>
    obtain ⟨k, q, hk, rfl, hw⟩ := hrel
    have HW := Lib.hid hw
    have hcl : ∀ p, wr.cell? p = w.cell? p := fun p => by rw [hw]; rfl
    clear hw
    by_cases hlt : k < N
    · obtain ⟨b, o, rfl, hc⟩ := HE.out (by omega)
      obtain ⟨b', o', rfl, hc'⟩ := HE'.out (by omega)
      have hkx : k < xs.length := by rw [HN.out]; exact hlt
      have hv : (bools xs)[k]? = some (Value.bool xs[k]) := by simp [bools, hkx]
      have c1 : wr.cell? ⟨b, o + k, none⟩ = some (Value.bool xs[k]) := (hcl _).trans (hc k _ hv)
      have c2 : wr.cell? ⟨b', o' + k, none⟩ = some (Value.bool xs[k]) := (hcl _).trans (hc' k _ hv)
      clear hc hc' hv hcl
      generalize xs[k] = x at *
      have hx : (x != x) = false := by simp
      go_wp2_with fail
      go_quiet (fail)
      go_wp2_with fail
      go_roundw
      case rel => exact ⟨k + 1, _, by omega, by go_num, by rw [HW.out, World.drewN_drewN]⟩
      case measure => simp [intOf]; omega
    · obtain rfl : k = N := by omega
      go_wp2_with fail
      go_ret
      exact ⟨rfl, _, HW.out⟩

set_option maxHeartbeats 1000000 in
theorem numbers_eq {w : World} {v v' : Value} {xs : List Nat} (h : Sl w 1 v xs.length (nats xs)) (h' : Sl w 1 v' xs.length (nats xs)) (hn : xs.length ≤ 100000) :
    Calls Try.prog 12 #[v, v'] w fun e w' => e = .returned (.bool true) ∧ ∃ q, w' = w.drewN q := by
  obtain ⟨hl, A, c, rfl, hnc, hcm, hcell⟩ := h
  obtain ⟨hl', A', c', rfl, hnc', hcm', hcell'⟩ := h'
  have HE := Lib.hid hcell
  have HE' := Lib.hid hcell'
  have g1 := hcm
  have g2 := hcm'
  unfold maxLen at g1 g2
  clear hl hl' hcm hcm' hcell hcell'
  generalize hN : xs.length = N at *
  have HN := Lib.hid hN
  clear hN
  have hne : ((N : Int) != (N : Int)) = false := by simp
  go_enter Try.func12, Try.ntmps12
  go_wp2_with fail
  go_loopw [5] (fun i wr => ∃ k q : Nat, k ≤ N ∧ i = .int .i64 k ∧ wr = w.drewN q) (fun i _ => N - (intOf i).toNat)
  case atStart => exact ⟨0, 0, by omega, rfl, rfl⟩
  case round =>
    obtain ⟨k, q, hk, rfl, hw⟩ := hrel
    have HW := Lib.hid hw
    have hcl : ∀ p, wr.cell? p = w.cell? p := fun p => by rw [hw]; rfl
    clear hw
    by_cases hlt : k < N
    · obtain ⟨b, o, rfl, hc⟩ := HE.out (by omega)
      obtain ⟨b', o', rfl, hc'⟩ := HE'.out (by omega)
      have hkx : k < xs.length := by rw [HN.out]; exact hlt
      have hv : (nats xs)[k]? = some ((fun (n : Nat) => Value.int .i64 (n : Int)) xs[k]) := by simp [nats, hkx]
      have c1 : wr.cell? ⟨b, o + k, none⟩ = some ((fun (n : Nat) => Value.int .i64 (n : Int)) xs[k]) := (hcl _).trans (hc k _ hv)
      have c2 : wr.cell? ⟨b', o' + k, none⟩ = some ((fun (n : Nat) => Value.int .i64 (n : Int)) xs[k]) := (hcl _).trans (hc' k _ hv)
      clear hc hc' hv hcl
      generalize xs[k] = x at *
      have hx : ((x : Int) != (x : Int)) = false := by simp
      go_wp2_with fail
      go_quiet (fail)
      go_wp2_with fail
      go_roundw
      case rel => exact ⟨k + 1, _, by omega, by go_num, by rw [HW.out, World.drewN_drewN]⟩
      case measure => simp [intOf]; omega
    · obtain rfl : k = N := by omega
      go_wp2_with fail
      go_ret
      exact ⟨rfl, _, HW.out⟩


set_option maxRecDepth 100000 in
set_option maxHeartbeats 1000000 in
theorem epochsR_calls {w : World} {r : Nat} {vl : Value} {L : List Nat} (h : RRep w r vl L) (hL : L.length ≤ 900) :
    Calls Try.prog 13 #[.pointer (some ⟨r, 0, none⟩)] w fun e w' => ∃ v, e = .returned v ∧ w'.ownsRow w.heap.size 3 1 v (cnt L 3 L.length + 1 - liveR L L.length) (nats (from_ (liveR L L.length) (cnt L 3 L.length + 1 - liveR L L.length))) ∧ Below w.heap.size w w' := by
  have HR := Lib.hid h
  have hrlt := h.1.lt
  obtain ⟨A, c, rfl, hnc, hcm⟩ := own_len h.2
  have c0 := h.1.cell 0
  simp only [List.getElem?_toArray, List.getElem?_cons_zero] at c0
  have hM := cnt_le L 3 L.length
  clear h
  go_enter Try.func13, Try.ntmps13
  go_wp2_with fail
  refine (live_calls HR.out L.length (Nat.le_refl _) (by omega)).mono ?_
  rintro e w0 ⟨rfl, q, rfl⟩
  generalize hO : liveR L L.length = O at *
  generalize hMM : cnt L 3 L.length = M at *
  have HM := Lib.hid (And.intro hO hMM)
  clear hO hMM
  have hO1 : O ≤ 1000 := by
    have h1 := HM.out.1
    have h2 := cnt_le L 3
    unfold liveR epR at h1
    split at h1
    · omega
    · split at h1
      · rename_i a _; have := h2 a; omega
      · omega
  go_wp2_with fail
  go_loopw [3, 5] (fun v i wr => ∃ k : Nat, k ≤ M + 1 - O ∧ i = .int .i64 ((O + k : Nat) : Int) ∧ wr.ownsRow w.heap.size 3 1 v k (nats (from_ O k)) ∧ Below w.heap.size w wr) (fun _ i _ => M + 1 - (intOf i).toNat)
  case atStart => exact ⟨0, by omega, rfl, World.ownsRow_nil _ _ _ _, below_drewN (Below.refl _ _) _⟩
  case round =>
    obtain ⟨k, hk, rfl, hown, hb⟩ := hrel
    have hr := HR.out.below hb
    have HR2 := Lib.hid hr
    have HO := Lib.hid hown
    have hwB : w.heap.size ≤ wr.heap.size := hb.size
    clear hr hown
    by_cases hlt : O + k ≤ M
    · have hc : decide (((O + k : Nat) : Int) ≤ (M : Int)) = true := by simp; omega
      go_wp2_with fail
      refine (count_calls HR2.out 3 L.length (Nat.le_refl _) (by omega)).mono ?_
      rintro e w0 ⟨rfl, q2, rfl⟩
      rw [HM.out.2]
      go_wp2_with (refine list_app ty_ints rfl (.tmp 21) (.tmp 23) rfl (by simp [Act.eval]) (own_heap (HO.out.alloc _) (by rfl)) wr.heap.size 1 1 3 #[.int .i64 ((O + k : Nat) : Int)] (by simp [Act.eval]) (by exact heap_alloc_new wr _) rfl (by simp [Value.oneCell']) (by decide) (by unfold maxLen; omega) (by omega) (by simp; omega) ?_; intro g' cap w' hown hgr hat hlt')
      go_roundw
      case rel =>
        refine ⟨k + 1, by omega, by go_num, ?_, ?_⟩
        · rw [from_succ]; simpa [nats] using hown
        · exact below_appN hb hwB hgr (own_low HO.out)
      case measure => simp [intOf]; omega
    · by_cases hk' : k = M + 1 - O
      · subst hk'
        have hc : decide (((O + (M + 1 - O) : Nat) : Int) ≤ (M : Int)) = false := by simp; omega
        go_wp2_with fail
        refine (count_calls HR2.out 3 L.length (Nat.le_refl _) (by omega)).mono ?_
        rintro e w0 ⟨rfl, q2, rfl⟩
        rw [HM.out.2]
        go_wp2_with fail
        go_ret
        exact ⟨_, rfl, by rw [HM.out.1, HM.out.2]; exact HO.out, below_drewN hb _⟩
      · omega

def any5 (L : List Nat) (p : Nat → Bool) (n : Nat) : Bool := (List.range n).any fun a => L.getD a 0 == 5 && p a
theorem any5_succ (L : List Nat) (p : Nat → Bool) (n : Nat) : any5 L p (n + 1) = (any5 L p n || (L.getD n 0 == 5 && p n)) := by simp [any5, List.range_succ]
def lastR (L : List Nat) : Nat → Bool
  | 0 => false
  | k + 1 => (lastR L k || any5 L (fun a => cnt L 2 a == k) L.length) && any5 L (fun a => decide (liveR L a ≤ epR L (k + 1)) && decide (epR L (k + 1) ≤ cnt L 3 a)) L.length
def leakedR (L : List Nat) (n : Nat) : List Bool := (List.range n).map fun i => lastR L (i + 1)
theorem leakedR_succ (L : List Nat) (n : Nat) : leakedR L (n + 1) = leakedR L n ++ [lastR L (n + 1)] := by simp [leakedR, List.range_succ]
theorem leakedR_length (L : List Nat) (n : Nat) : (leakedR L n).length = n := by simp [leakedR]

theorem leakedR_get (L : List Nat) (k i : Nat) (h : i + 1 = k) : (bools (leakedR L k))[i]? = some (.bool (lastR L k)) := by
  subst h
  simp [bools, leakedR]

theorem epoch_calls' {w : World} {r : Nat} {vl : Value} {L : List Nat} (h : RRep w r vl L) (i : Nat) (x : Int) (hx : x = (i : Int)) (hL : L.length ≤ 1000) :
    Calls Try.prog 26 #[.pointer (some ⟨r, 0, none⟩), .int .i64 x] w fun e w' => e = .returned (.int .i64 (epR L i : Int)) ∧ ∃ k, w' = w.drewN k := by
  subst hx; exact epoch_calls h i hL

theorem drew_to {w a b : World} {k q : Nat} (h : a = w.drewN k) (h' : b = a.drewN q) : b = w.drewN (k + q) := by rw [h', h, World.drewN_drewN]


set_option maxRecDepth 100000 in
set_option maxHeartbeats 4000000 in
theorem leakedR_calls {w : World} {r : Nat} {vl : Value} {L : List Nat} (h : RRep w r vl L) (hL : L.length ≤ 900) :
    Calls Try.prog 11 #[.pointer (some ⟨r, 0, none⟩)] w fun e w' => ∃ v, e = .returned v ∧ w'.ownsRow w.heap.size 4 1 v (cnt L 1 L.length) (bools (leakedR L (cnt L 1 L.length))) ∧ Below w.heap.size w w' := by
  have HR := Lib.hid h
  have hrlt := h.1.lt
  obtain ⟨A, c, rfl, hnc, hcm⟩ := own_len h.2
  have c0 := h.1.cell 0
  simp only [List.getElem?_toArray, List.getElem?_cons_zero] at c0
  have hM := cnt_le L 1 L.length
  clear h
  generalize hMM : cnt L 1 L.length = M at *
  generalize hNN : L.length = N at *
  have HM := Lib.hid (And.intro hMM hNN)
  clear hMM hNN
  go_enter Try.func11, Try.ntmps11
  go_wp2_with fail
  go_loopw [3, 4] (fun v i wr => ∃ (k : Nat) (x : Int), k ≤ M ∧ i = .int .i64 x ∧ (k : Int) + 1 ≤ x ∧ x ≤ (k : Int) + 1 ∧ wr.ownsRow w.heap.size 4 1 v k (bools (leakedR L k)) ∧ Below w.heap.size w wr) (fun _ i _ => M + 1 - (intOf i).toNat)
  case atStart => exact ⟨0, 1, by omega, rfl, by omega, by omega, World.ownsRow_nil _ _ _ _, Below.refl _ _⟩
  case round =>
    obtain ⟨k, x, hk, rfl, hx1, hx2, hown, hb⟩ := hrel
    have hr := HR.out.below hb
    have d0 := hr.1.cell 0
    simp only [List.getElem?_toArray, List.getElem?_cons_zero] at d0
    have HR2 := Lib.hid hr
    have HO := Lib.hid hown
    have hwB : w.heap.size ≤ wr.heap.size := hb.size
    clear hr hown
    by_cases hlt : k < M
    · have hc : decide (x ≤ (M : Int)) = true := by simp; omega
      go_wp2_with fail
      refine (count_calls HR2.out 1 N (by rw [HM.out.2]; exact Nat.le_refl _) (by rw [HM.out.2]; omega)).mono ?_
      rintro e w0 ⟨rfl, q0, rfl⟩
      rw [HM.out.1]
      by_cases hk0 : k = 0
      · have hgt : decide ((1 : Int) < x) = false := by simp; omega
        have HK0 : Hid (lastR L k = false) := by subst hk0; rfl
        clear hk0
        go_wp2_with fail
        generalize hw0 : wr.drewN q0 = w0
        have hb0 : Below w.heap.size w w0 := hw0 ▸ below_drewN hb q0
        have ho0 : w0.ownsRow w.heap.size 4 1 _ _ _ := hw0 ▸ (own_drewN HO.out q0)
        have HR0 := Lib.hid (HR.out.below hb0)
        have HO0 := Lib.hid (And.intro ho0 hb0)
        have e0 : w0.cell? ⟨r, 0, none⟩ = some (Value.slice A N c) := hw0 ▸ d0
        clear ho0 hb0 hw0
        go_loopw [5, 6, 7] (fun ch op i w2 => ∃ j q : Nat, j ≤ N ∧ i = .int .i64 (j : Int) ∧ ch = .bool (lastR L k || any5 L (fun a => cnt L 2 a == k) j) ∧ op = .bool (any5 L (fun a => decide (liveR L a ≤ epR L (k + 1)) && decide (epR L (k + 1) ≤ cnt L 3 a)) j) ∧ w2 = w0.drewN q) (fun _ _ i _ => N - (intOf i).toNat)
        case atStart => exact ⟨0, 0, by omega, rfl, by first | (simp [any5, HK0.out]; done) | simp [any5], by simp [any5], rfl⟩
        case round =>
          obtain ⟨j, q, hj, rfl, rfl, rfl, rfl⟩ := hrel
          by_cases hjt : j < N
          · have hr0 := own_at HR0.out.2 (by rw [HM.out.2]; omega)
            obtain ⟨gb1, cc1, hv1, _, _, _, _, hcl⟩ := hr0
            have hgb : ∃ gb1, A = some ⟨gb1, 0, none⟩ ∧ w0.cell? ⟨gb1, j, none⟩ = some (.int .i64 (L.getD j 0 : Nat)) := by
              injection hv1 with hv1 _ _
              exact ⟨gb1, hv1, hcl j _ (by
                have : j < L.length := by rw [HM.out.2]; omega
                simp [nats, this])⟩
            clear hv1 hcl
            obtain ⟨gb2, rfl, e1⟩ := hgb
            generalize hX : L.getD j 0 = X at *
            have HX := Lib.hid hX
            clear hX
            by_cases hx5 : X = 5
            · subst hx5
              have hne : (((5 : Nat) : Int) != 5) = false := by simp
              go_wp2_with fail
              refine (count_calls (HR0.out.drewN q) 2 j (by rw [HM.out.2]; omega) (by rw [HM.out.2]; omega)).mono ?_
              rintro e w3 ⟨rfl, q1, rfl⟩
              by_cases hck : cnt L 2 j = k
              · have hb2 : ((cnt L 2 j : Int) == (x - 1)) = true := by simp; omega
                have HC := Lib.hid (beq_iff_eq.2 hck)
                clear hck
                go_wp2_with fail
                refine (live_calls (HR0.out.drewN _) j (by rw [HM.out.2]; omega) (by rw [HM.out.2]; omega)).mono ?_
                rintro e w4 ⟨rfl, q3, rfl⟩
                go_wp2_with fail
                refine (epoch_calls' (HR0.out.drewN _) (k + 1) _ (by omega) (by rw [HM.out.2]; omega)).mono ?_
                rintro e w4 ⟨rfl, q4, rfl⟩
                cases b1 : decide (liveR L j ≤ epR L (k + 1))
                · have B1 := Lib.hid b1
                  go_wp2_with fail
                  clear b1
                  go_roundw
                  case rel =>
                    refine ⟨j + 1, _, by omega, by go_num, ?_, ?_, rfl⟩
                    · rw [any5_succ, HX.out]; simp [HC.out]
                    · rw [any5_succ, HX.out]; simp [B1.out]
                  case measure => simp [intOf]; omega
                · have B1 := Lib.hid b1
                  go_wp2_with fail
                  clear b1
                  refine (epoch_calls' (HR0.out.drewN _) (k + 1) _ (by omega) (by rw [HM.out.2]; omega)).mono ?_
                  rintro e w4 ⟨rfl, q5, rfl⟩
                  go_wp2_with fail
                  refine (count_calls (HR0.out.drewN _) 3 j (by rw [HM.out.2]; omega) (by rw [HM.out.2]; omega)).mono ?_
                  rintro e w4 ⟨rfl, q6, rfl⟩
                  cases b2 : decide (epR L (k + 1) ≤ cnt L 3 j)
                  · have B2 := Lib.hid b2
                    go_wp2_with fail
                    clear b2
                    go_roundw
                    case rel =>
                      refine ⟨j + 1, _, by omega, by go_num, ?_, ?_, rfl⟩
                      · rw [any5_succ, HX.out]; simp [HC.out]
                      · rw [any5_succ, HX.out]; simp [B1.out, B2.out]
                    case measure => simp [intOf]; omega
                  · have B2 := Lib.hid b2
                    go_wp2_with fail
                    clear b2
                    go_roundw
                    case rel =>
                      refine ⟨j + 1, _, by omega, by go_num, ?_, ?_, rfl⟩
                      · rw [any5_succ, HX.out]; simp [HC.out]
                      · rw [any5_succ, HX.out]; simp [B1.out, B2.out]
                    case measure => simp [intOf]; omega
              · have hb2 : ((cnt L 2 j : Int) == (x - 1)) = false := by simp; omega
                have HC := Lib.hid (beq_eq_false_iff_ne.2 hck)
                clear hck
                go_wp2_with fail
                refine (live_calls (HR0.out.drewN _) j (by rw [HM.out.2]; omega) (by rw [HM.out.2]; omega)).mono ?_
                rintro e w4 ⟨rfl, q3, rfl⟩
                go_wp2_with fail
                refine (epoch_calls' (HR0.out.drewN _) (k + 1) _ (by omega) (by rw [HM.out.2]; omega)).mono ?_
                rintro e w4 ⟨rfl, q4, rfl⟩
                cases b1 : decide (liveR L j ≤ epR L (k + 1))
                · have B1 := Lib.hid b1
                  go_wp2_with fail
                  clear b1
                  go_roundw
                  case rel =>
                    refine ⟨j + 1, _, by omega, by go_num, ?_, ?_, rfl⟩
                    · rw [any5_succ, HX.out]; simp [HC.out]
                    · rw [any5_succ, HX.out]; simp [B1.out]
                  case measure => simp [intOf]; omega
                · have B1 := Lib.hid b1
                  go_wp2_with fail
                  clear b1
                  refine (epoch_calls' (HR0.out.drewN _) (k + 1) _ (by omega) (by rw [HM.out.2]; omega)).mono ?_
                  rintro e w4 ⟨rfl, q5, rfl⟩
                  go_wp2_with fail
                  refine (count_calls (HR0.out.drewN _) 3 j (by rw [HM.out.2]; omega) (by rw [HM.out.2]; omega)).mono ?_
                  rintro e w4 ⟨rfl, q6, rfl⟩
                  cases b2 : decide (epR L (k + 1) ≤ cnt L 3 j)
                  · have B2 := Lib.hid b2
                    go_wp2_with fail
                    clear b2
                    go_roundw
                    case rel =>
                      refine ⟨j + 1, _, by omega, by go_num, ?_, ?_, rfl⟩
                      · rw [any5_succ, HX.out]; simp [HC.out]
                      · rw [any5_succ, HX.out]; simp [B1.out, B2.out]
                    case measure => simp [intOf]; omega
                  · have B2 := Lib.hid b2
                    go_wp2_with fail
                    clear b2
                    go_roundw
                    case rel =>
                      refine ⟨j + 1, _, by omega, by go_num, ?_, ?_, rfl⟩
                      · rw [any5_succ, HX.out]; simp [HC.out]
                      · rw [any5_succ, HX.out]; simp [B1.out, B2.out]
                    case measure => simp [intOf]; omega
            · have hne : ((X : Int) != 5) = true := by simp; omega
              have H5 := Lib.hid hx5
              clear hx5
              go_wp2_with fail
              go_roundw
              case rel =>
                refine ⟨j + 1, q, by omega, by go_num, ?_, ?_, rfl⟩
                · rw [any5_succ, HX.out]; simp [beq_eq_false_iff_ne.2 H5.out]
                · rw [any5_succ, HX.out]; simp [beq_eq_false_iff_ne.2 H5.out]
              case measure => simp [intOf]; omega
          · obtain rfl : j = N := by omega
            generalize h1 : (lastR L k || any5 L (fun a => cnt L 2 a == k) j) = B1
            generalize h2 : any5 L (fun a => decide (liveR L a ≤ epR L (k + 1)) && decide (epR L (k + 1) ≤ cnt L 3 a)) j = B2
            have HB : Hid (lastR L (k + 1) = (B1 && B2)) := by rw [← h1, ← h2, ← HM.out.2]; rfl
            clear h1 h2
            have hwB0 : w.heap.size ≤ w0.heap.size := HO0.out.2.size
            cases B1 <;> cases B2
            all_goals
              go_wp2_with (refine list_app ty_bools rfl (.tmp 67) (.tmp 72) rfl (by simp [Act.eval]) (own_heap (HO0.out.1.alloc _) (by rfl)) w0.heap.size 1 1 4 #[.bool _] (by simp [Act.eval]) (by exact heap_alloc_new w0 _) rfl (by simp [Value.oneCell']) (by decide) (by unfold maxLen; omega) (by omega) (by simp; omega) ?_; intro g' cap w' hown hgr hat hlt')
              go_roundw
              case rel =>
                refine ⟨k + 1, x + 1, by omega, rfl, by omega, by omega, ?_, below_appN HO0.out.2 hwB0 hgr (own_low HO0.out.1)⟩
                rw [leakedR_succ, HB.out]; simpa [bools] using hown
              case measure => simp [intOf]; omega
      · obtain ⟨gb, cc, hv, hnc2, hcm2, _, hglt, hcell⟩ := own_at (n := k) HO.out (by omega)
        subst hv
        have hm := hcell (x - 2).toNat (.bool (lastR L k)) (leakedR_get L k (x - 2).toNat (by omega))
        clear hcell
        have hgt : decide ((1 : Int) < x) = true := by simp; omega
        have hi1 : 0 ≤ x - 2 := by omega
        clear hk0
        have hi2 : x - 2 < (k : Int) := by omega
        go_wp2_with fail
        generalize hw0 : wr.drewN q0 = w0
        have hb0 : Below w.heap.size w w0 := hw0 ▸ below_drewN hb q0
        have ho0 : w0.ownsRow w.heap.size 4 1 _ _ _ := hw0 ▸ (own_drewN HO.out q0)
        have HR0 := Lib.hid (HR.out.below hb0)
        have HO0 := Lib.hid (And.intro ho0 hb0)
        have e0 : w0.cell? ⟨r, 0, none⟩ = some (Value.slice A N c) := hw0 ▸ d0
        clear ho0 hb0 hw0
        go_loopw [5, 6, 7] (fun ch op i w2 => ∃ j q : Nat, j ≤ N ∧ i = .int .i64 (j : Int) ∧ ch = .bool (lastR L k || any5 L (fun a => cnt L 2 a == k) j) ∧ op = .bool (any5 L (fun a => decide (liveR L a ≤ epR L (k + 1)) && decide (epR L (k + 1) ≤ cnt L 3 a)) j) ∧ w2 = w0.drewN q) (fun _ _ i _ => N - (intOf i).toNat)
        case atStart => exact ⟨0, 0, by omega, rfl, by first | (simp [any5, HK0.out]; done) | simp [any5], by simp [any5], rfl⟩
        case round =>
          obtain ⟨j, q, hj, rfl, rfl, rfl, rfl⟩ := hrel
          by_cases hjt : j < N
          · have hr0 := own_at HR0.out.2 (by rw [HM.out.2]; omega)
            obtain ⟨gb1, cc1, hv1, _, _, _, _, hcl⟩ := hr0
            have hgb : ∃ gb1, A = some ⟨gb1, 0, none⟩ ∧ w0.cell? ⟨gb1, j, none⟩ = some (.int .i64 (L.getD j 0 : Nat)) := by
              injection hv1 with hv1 _ _
              exact ⟨gb1, hv1, hcl j _ (by
                have : j < L.length := by rw [HM.out.2]; omega
                simp [nats, this])⟩
            clear hv1 hcl
            obtain ⟨gb2, rfl, e1⟩ := hgb
            generalize hX : L.getD j 0 = X at *
            have HX := Lib.hid hX
            clear hX
            by_cases hx5 : X = 5
            · subst hx5
              have hne : (((5 : Nat) : Int) != 5) = false := by simp
              go_wp2_with fail
              refine (count_calls (HR0.out.drewN q) 2 j (by rw [HM.out.2]; omega) (by rw [HM.out.2]; omega)).mono ?_
              rintro e w3 ⟨rfl, q1, rfl⟩
              by_cases hck : cnt L 2 j = k
              · have hb2 : ((cnt L 2 j : Int) == (x - 1)) = true := by simp; omega
                have HC := Lib.hid (beq_iff_eq.2 hck)
                clear hck
                go_wp2_with fail
                refine (live_calls (HR0.out.drewN _) j (by rw [HM.out.2]; omega) (by rw [HM.out.2]; omega)).mono ?_
                rintro e w4 ⟨rfl, q3, rfl⟩
                go_wp2_with fail
                refine (epoch_calls' (HR0.out.drewN _) (k + 1) _ (by omega) (by rw [HM.out.2]; omega)).mono ?_
                rintro e w4 ⟨rfl, q4, rfl⟩
                cases b1 : decide (liveR L j ≤ epR L (k + 1))
                · have B1 := Lib.hid b1
                  go_wp2_with fail
                  clear b1
                  go_roundw
                  case rel =>
                    refine ⟨j + 1, _, by omega, by go_num, ?_, ?_, rfl⟩
                    · rw [any5_succ, HX.out]; simp [HC.out]
                    · rw [any5_succ, HX.out]; simp [B1.out]
                  case measure => simp [intOf]; omega
                · have B1 := Lib.hid b1
                  go_wp2_with fail
                  clear b1
                  refine (epoch_calls' (HR0.out.drewN _) (k + 1) _ (by omega) (by rw [HM.out.2]; omega)).mono ?_
                  rintro e w4 ⟨rfl, q5, rfl⟩
                  go_wp2_with fail
                  refine (count_calls (HR0.out.drewN _) 3 j (by rw [HM.out.2]; omega) (by rw [HM.out.2]; omega)).mono ?_
                  rintro e w4 ⟨rfl, q6, rfl⟩
                  cases b2 : decide (epR L (k + 1) ≤ cnt L 3 j)
                  · have B2 := Lib.hid b2
                    go_wp2_with fail
                    clear b2
                    go_roundw
                    case rel =>
                      refine ⟨j + 1, _, by omega, by go_num, ?_, ?_, rfl⟩
                      · rw [any5_succ, HX.out]; simp [HC.out]
                      · rw [any5_succ, HX.out]; simp [B1.out, B2.out]
                    case measure => simp [intOf]; omega
                  · have B2 := Lib.hid b2
                    go_wp2_with fail
                    clear b2
                    go_roundw
                    case rel =>
                      refine ⟨j + 1, _, by omega, by go_num, ?_, ?_, rfl⟩
                      · rw [any5_succ, HX.out]; simp [HC.out]
                      · rw [any5_succ, HX.out]; simp [B1.out, B2.out]
                    case measure => simp [intOf]; omega
              · have hb2 : ((cnt L 2 j : Int) == (x - 1)) = false := by simp; omega
                have HC := Lib.hid (beq_eq_false_iff_ne.2 hck)
                clear hck
                go_wp2_with fail
                refine (live_calls (HR0.out.drewN _) j (by rw [HM.out.2]; omega) (by rw [HM.out.2]; omega)).mono ?_
                rintro e w4 ⟨rfl, q3, rfl⟩
                go_wp2_with fail
                refine (epoch_calls' (HR0.out.drewN _) (k + 1) _ (by omega) (by rw [HM.out.2]; omega)).mono ?_
                rintro e w4 ⟨rfl, q4, rfl⟩
                cases b1 : decide (liveR L j ≤ epR L (k + 1))
                · have B1 := Lib.hid b1
                  go_wp2_with fail
                  clear b1
                  go_roundw
                  case rel =>
                    refine ⟨j + 1, _, by omega, by go_num, ?_, ?_, rfl⟩
                    · rw [any5_succ, HX.out]; simp [HC.out]
                    · rw [any5_succ, HX.out]; simp [B1.out]
                  case measure => simp [intOf]; omega
                · have B1 := Lib.hid b1
                  go_wp2_with fail
                  clear b1
                  refine (epoch_calls' (HR0.out.drewN _) (k + 1) _ (by omega) (by rw [HM.out.2]; omega)).mono ?_
                  rintro e w4 ⟨rfl, q5, rfl⟩
                  go_wp2_with fail
                  refine (count_calls (HR0.out.drewN _) 3 j (by rw [HM.out.2]; omega) (by rw [HM.out.2]; omega)).mono ?_
                  rintro e w4 ⟨rfl, q6, rfl⟩
                  cases b2 : decide (epR L (k + 1) ≤ cnt L 3 j)
                  · have B2 := Lib.hid b2
                    go_wp2_with fail
                    clear b2
                    go_roundw
                    case rel =>
                      refine ⟨j + 1, _, by omega, by go_num, ?_, ?_, rfl⟩
                      · rw [any5_succ, HX.out]; simp [HC.out]
                      · rw [any5_succ, HX.out]; simp [B1.out, B2.out]
                    case measure => simp [intOf]; omega
                  · have B2 := Lib.hid b2
                    go_wp2_with fail
                    clear b2
                    go_roundw
                    case rel =>
                      refine ⟨j + 1, _, by omega, by go_num, ?_, ?_, rfl⟩
                      · rw [any5_succ, HX.out]; simp [HC.out]
                      · rw [any5_succ, HX.out]; simp [B1.out, B2.out]
                    case measure => simp [intOf]; omega
            · have hne : ((X : Int) != 5) = true := by simp; omega
              have H5 := Lib.hid hx5
              clear hx5
              go_wp2_with fail
              go_roundw
              case rel =>
                refine ⟨j + 1, q, by omega, by go_num, ?_, ?_, rfl⟩
                · rw [any5_succ, HX.out]; simp [beq_eq_false_iff_ne.2 H5.out]
                · rw [any5_succ, HX.out]; simp [beq_eq_false_iff_ne.2 H5.out]
              case measure => simp [intOf]; omega
          · obtain rfl : j = N := by omega
            generalize h1 : (lastR L k || any5 L (fun a => cnt L 2 a == k) j) = B1
            generalize h2 : any5 L (fun a => decide (liveR L a ≤ epR L (k + 1)) && decide (epR L (k + 1) ≤ cnt L 3 a)) j = B2
            have HB : Hid (lastR L (k + 1) = (B1 && B2)) := by rw [← h1, ← h2, ← HM.out.2]; rfl
            clear h1 h2
            have hwB0 : w.heap.size ≤ w0.heap.size := HO0.out.2.size
            cases B1 <;> cases B2
            all_goals
              go_wp2_with (refine list_app ty_bools rfl (.tmp 67) (.tmp 72) rfl (by simp [Act.eval]) (own_heap (HO0.out.1.alloc _) (by rfl)) w0.heap.size 1 1 4 #[.bool _] (by simp [Act.eval]) (by exact heap_alloc_new w0 _) rfl (by simp [Value.oneCell']) (by decide) (by unfold maxLen; omega) (by omega) (by simp; omega) ?_; intro g' cap w' hown hgr hat hlt')
              go_roundw
              case rel =>
                refine ⟨k + 1, x + 1, by omega, rfl, by omega, by omega, ?_, below_appN HO0.out.2 hwB0 hgr (own_low HO0.out.1)⟩
                rw [leakedR_succ, HB.out]; simpa [bools] using hown
              case measure => simp [intOf]; omega
    · obtain rfl : k = M := by omega
      have hc : decide (x ≤ (k : Int)) = false := by simp; omega
      go_wp2_with fail
      refine (count_calls HR2.out 1 N (by rw [HM.out.2]; exact Nat.le_refl _) (by rw [HM.out.2]; omega)).mono ?_
      rintro e w0 ⟨rfl, q0, rfl⟩
      rw [HM.out.1]
      go_wp2_with fail
      go_ret
      exact ⟨_, rfl, by exact own_drewN HO.out _, below_drewN hb _⟩
end Go.Proofs.Ytfflidaodnhpbaa.Led
