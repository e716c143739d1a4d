/- Walk: InboxTurns. -/
import Derived.Test.YtihjmgjjknjioaaInJ
namespace Go.Proofs.Ytihjmgjjknjioaa.In
open Go Go.RowKit Go.Proofs.Ytihjmgjjknjioaa.Base Go.Proofs.Ytihjmgjjknjioaa.Draw
set_option linter.unusedVariables false
set_option linter.unnecessarySimpa false
set_option linter.unusedSimpArgs false

/-- What is asked of one operation that came in: what it does, its index, its bytes. -/
structure OpAt (w : World) (b o k : Nat) (d : Int) (nx ix : Nat) (vb : Value) (bs : List Nat) : Prop where
  c0 : w.cell? ⟨b, o + k * 6, none⟩ = some (.int .i64 d)
  c1 : w.cell? ⟨b, o + k * 6 + 1, none⟩ = some (.int .u32 (nx : Int))
  c2 : w.cell? ⟨b, o + k * 6 + 2, none⟩ = some (.int .u32 (ix : Int))
  c3 : w.cell? ⟨b, o + k * 6 + 3, none⟩ = some vb
  sl : Sl w 1 vb bs.length (u8s bs)
  small : Small bs
  n32 : nx < 4294967296
  i32 : ix < 4294967296
theorem BMid.addIn {w wr : World} {g N : Nat} {h : HL} {u : List (List Nat)} {X : XL} {vb : Value} {bs : List Nat} (m : BMid w wr g N h u X) (hs : Sl w 1 vb bs.length (u8s bs)) (sm : Small bs) : BMid w wr g N h u ((vb, bs) :: X) := by
  obtain ⟨F, mv, uv, h1, h2, h3⟩ := m.rep
  refine ⟨⟨F, mv, uv, h1, h2, fun p hp => ?_⟩, m.bel, m.nle⟩
  rcases List.mem_cons.1 hp with rfl | hp
  · refine ⟨hs.below m.bel, fun b o c e h0 f => ?_, sm⟩
    have r : Rd w (fun _ => False) vb bs := ⟨hs, fun _ _ _ _ _ f => f, sm⟩
    have hl := Rd.lt (b := b) (o := o) (c := c) (by rw [← e]; exact r) h0
    have := (h2 b f).1
    omega
  · exact h3 p hp
theorem BMid.drop {w wr : World} {g N : Nat} {h : HL} {u : List (List Nat)} {X Y : XL} (m : BMid w wr g N h u X) (hs : ∀ p ∈ Y, p ∈ X) : BMid w wr g N h u Y := by
  obtain ⟨F, mv, uv, h1, h2, h3⟩ := m.rep
  exact ⟨⟨F, mv, uv, h1, h2, fun p hp => h3 p (hs p hp)⟩, m.bel, m.nle⟩

/-! what is held, in numbers -/
theorem putH_mem {h : HL} {k : Nat} {bs : List Nat} {y : Nat × List Nat} (hy : y ∈ putH h k bs) : y ∈ h ∨ y.1 = k := by
  unfold putH at hy
  split at hy
  · obtain ⟨z, hz, rfl⟩ := List.mem_map.1 hy
    by_cases e : z.1 = k
    · rw [if_pos e]; exact .inr e
    · rw [if_neg e]; exact .inl hz
  · rcases List.mem_append.1 hy with hy | hy
    · exact .inl hy
    · simp only [List.mem_singleton] at hy; subst hy; exact .inr rfl
theorem putH_len (h : HL) (k : Nat) (bs : List Nat) : (putH h k bs).length ≤ h.length + 1 := by
  unfold putH; split <;> simp
theorem look_put (h : HL) (k : Nat) (bs : List Nat) : lookH (putH h k bs) k = some bs := by
  unfold putH lookH
  split
  · rename_i ha
    obtain ⟨y, hy, e⟩ := List.any_eq_true.1 ha
    induction h with
    | nil => cases hy
    | cons a h ih =>
      rw [List.map_cons]
      by_cases hk : a.1 = k
      · simp [hk]
      · have h1 : (a.1 == k) = false := by simpa using hk
        rw [if_neg hk, List.find?_cons, h1]
        rcases List.mem_cons.1 hy with rfl | hy'
        · rw [h1] at e; cases e
        · exact ih (List.any_eq_true.2 ⟨y, hy', e⟩) hy'
  · rename_i ha
    have hn : h.find? (fun y => y.1 == k) = none := by
      rw [List.find?_eq_none]
      intro y hy g
      exact ha (List.any_eq_true.2 ⟨y, hy, g⟩)
    rw [List.find?_append, hn]
    simp
theorem look_turn (h : HL) (nx : Nat) : lookH (turnH h nx) nx = none := by
  unfold lookH turnH
  rw [List.find?_filter]
  have : h.find? (fun a => decide (decide (nx < a.1) = true ∧ (a.1 == nx) = true)) = none := by
    rw [List.find?_eq_none]
    intro y hy g
    have g1 := of_decide_eq_true g
    have g2 := of_decide_eq_true g1.1
    have g3 : y.1 = nx := by simpa using g1.2
    omega
  rw [this]
  rfl
def Near (h : HL) (nx : Nat) : Prop := ∀ y ∈ h, nx < y.1 ∧ y.1 ≤ nx + 3
theorem near_hold {h : HL} {nx ix : Nat} {bs : List Nat} (hn : Near h nx) : Near (holdH h nx ix bs) nx := by
  unfold holdH
  split
  · rename_i e
    unfold holdE at e
    split at e
    · cases e
    · split at e
      · cases e
      · intro y hy
        rcases putH_mem hy with g | g
        · exact hn y g
        · omega
  · exact hn
theorem near_turn {h : HL} {nx : Nat} (hn : Near h nx) : Near (turnH h (nx + 1)) (nx + 1) := by
  intro y hy
  obtain ⟨h1, h2⟩ := List.mem_filter.1 hy
  have := hn y h1
  simp at h2
  omega
theorem hold_len (h : HL) (nx ix : Nat) (bs : List Nat) : (holdH h nx ix bs).length ≤ h.length + 1 := by
  unfold holdH; split
  · exact putH_len _ _ _
  · omega
theorem turn_len (h : HL) (nx : Nat) : (turnH h nx).length ≤ h.length := List.length_filter_le _ _

set_option maxRecDepth 100000 in
set_option maxHeartbeats 2000000 in
theorem turns_calls {w : World} {b o n c first : Nat} (hn : n ≤ 80) (hc : n ≤ c) (hcm : c ≤ maxLen) (hf : first ≤ 1073741824) (hin : ∀ k, k < n → ∃ d nx ix vb bs, OpAt w b o k d nx ix vb bs) :
    Calls Try.prog 3 #[.slice (some ⟨b, o, none⟩) n c, .int .u32 (first : Int)] w fun e w' => e = .returned (.bool true) ∧ Below w.heap.size w w' := by
  have HIn := Lib.hid hin
  have hcm' := hcm
  unfold maxLen at hcm'
  clear hin
  have c1 : decide ((80 : Int) < (n : Int)) = false := by simp; omega
  have c2 : decide ((1073741824 : Int) < (first : Int)) = false := by simp; omega
  go_enter Try.func3, Try.ntmps3
  go_wp2_with fail
  refine (awake_calls w).mono ?_
  rintro e w1 ⟨rfl, b1⟩
  have B1 := Lib.hid b1
  have M0 := Lib.hid (BMid.new (w := w) b1)
  clear b1
  go_wp2_with fail
  clear c1 c2
  go_loopw [7, 8] (fun a i wr => ∃ (k nx N : Nat) (h : HL), k ≤ n ∧ i = .int .i64 (k : Int) ∧ a = .int .u32 (nx : Int) ∧ nx ≤ first + k ∧ Near h nx ∧ h.length ≤ k ∧ BMid w wr w1.heap.size N h [] []) (fun _ i _ => n - (intOf i).toNat)
  case atStart => exact ⟨0, first, _, [], by omega, rfl, rfl, by omega, fun y hy => by simp at hy, by simp, M0.out⟩
  case round =>
    obtain ⟨k, nx, N, h, hk, rfl, rfl, hnx, hnear, hlen, hm⟩ := hrel
    have M := Lib.hid hm
    clear hm
    by_cases hlt : k < n
    · have hd : decide ((k : Int) < (n : Int)) = true := by simp; omega
      obtain ⟨d, nx', ix, vb, bs, op⟩ := HIn.out k hlt
      have lb := cell_lt op.c0
      have z0 := (M.out.bel.cell (p := ⟨b, o + k * 6, none⟩) lb).trans op.c0
      have z2 := (M.out.bel.cell (p := ⟨b, o + k * 6 + 2, none⟩) lb).trans op.c2
      have z3 := (M.out.bel.cell (p := ⟨b, o + k * 6 + 3, none⟩) lb).trans op.c3
      have M1 := Lib.hid (M.out.addIn op.sl op.small)
      have hi32 := op.i32
      have OP := Lib.hid op
      have HNear := Lib.hid hnear
      clear op hnear
      go_wp2_with fail
      refine wp_region_I [⟨6, [12], ⟨b, o + k * 6 + 2, none⟩, .int .u32 (ix : Int)⟩, ⟨11, [12], ⟨b, o + k * 6 + 3, none⟩, vb⟩] (by kernel_rfl) ?_
      refine wpAnyI_takes (by kernel_rfl) (fun _ _ _ _ _ h => h) [0,1,2,3,4,5,6,7,8,9,10,11] 2 _ _ _ (by kernel_rfl) (SH_cons (fun _ => z2) (SH_cons (fun _ => z3) SH_nil)) ?_
      intro K hK
      repeat
        (refine takeW_cons (oi := ?_) (v := ?_) ?_ ?_ ?_ ?_
         rotate_left 2
         · (simp only [List.getElem?_toArray, List.getElem?_cons_zero, List.getElem?_cons_succ]; rfl)
         · rfl
         · (intro w' hw'; (try (have hc : w'.cell? _ = some _ := hw'; clear hw')); go_simp; (try with_reducible rfl))
         try simp only [Act.put, List.setIfInBounds_toArray, List.set_cons_zero, List.set_cons_succ])
      refine takeW_nil (hK.out _ ?_)
      clear hK K
      refine wpAnyI_run (i := 12) (o := ?_) (by kernel_rfl) ?_ (fun K hK => ?_)
      rotate_left 1
      · (simp only [List.getElem?_toArray, List.getElem?_cons_zero, List.getElem?_cons_succ]; rfl)
      go_wp2_with (go_at_call 7; refine (BMid.hold (M1.out.drewN 1) (List.mem_cons_self ..) nx ix (by omega) hi32).mono ?_; rintro e w3 ⟨rfl, m3⟩; have M3 := Lib.hid m3; clear m3)
      refine hK.out _ _ (SH_cons (fun h => by cases h) (SH_cons (fun h => by cases h) SH_nil)) ?_
      clear hK K
      refine wpAnyI_takes (by kernel_rfl) (fun _ _ _ _ _ h => h) [13] 0 _ _ _ (by kernel_rfl) (SH_cons (fun h => by cases h) (SH_cons (fun h => by cases h) SH_nil)) ?_
      intro K hK
      repeat
        (refine takeW_cons (oi := ?_) (v := ?_) ?_ ?_ ?_ ?_
         rotate_left 2
         · (simp only [List.getElem?_toArray, List.getElem?_cons_zero, List.getElem?_cons_succ]; rfl)
         · rfl
         · (intro w' hw'; (try (have hc : w'.cell? _ = some _ := hw'; clear hw')); go_simp; (try with_reducible rfl))
         try simp only [Act.put, List.setIfInBounds_toArray, List.set_cons_zero, List.set_cons_succ])
      refine takeW_nil (hK.out _ ?_)
      clear hK K
      refine wpAnyI_done (by kernel_rfl) ?_ _
      have x0 := (M3.out.bel.cell (p := ⟨b, o + k * 6, none⟩) lb).trans OP.out.c0
      have x2 := (M3.out.bel.cell (p := ⟨b, o + k * 6 + 2, none⟩) lb).trans OP.out.c2
      clear z0 z2 z3
      have hE : (ix ≤ nx ∧ holdE h nx ix bs = 84) ∨ (nx + 4 ≤ ix ∧ holdE h nx ix bs = 85) ∨ (nx < ix ∧ ix ≤ nx + 3 ∧ (holdE h nx ix bs = 0 ∨ holdE h nx ix bs = 63)) := by
        unfold holdE
        by_cases h1 : ix ≤ nx
        · left; rw [if_pos h1]; exact ⟨h1, rfl⟩
        · rw [if_neg h1]
          by_cases h2 : nx + 4 ≤ ix
          · right; left; rw [if_pos h2]; exact ⟨h2, rfl⟩
          · right; right
            rw [if_neg h2]
            refine ⟨by omega, by omega, ?_⟩
            split
            · split
              · exact .inl rfl
              · exact .inr rfl
            · exact .inl rfl
      have HLen := Lib.hid hlen
      generalize hEE : holdE h nx ix bs = E at *
      have HEE := Lib.hid hEE
      clear hEE
      rcases hE with ⟨hE1, rfl⟩ | ⟨hE1, rfl⟩ | ⟨hE1, hE2, rfl | rfl⟩
      · have d1 : decide ((nx : Int) < (ix : Int)) = false := by simp; omega
        have d2 : decide (nx < ix) = false := by simp; omega
        go_upto_if 78 with (fail)
        go_cut [7, 11, 12, 13, 14] from 79 to 136 (fun s7 s11 s12 s13 s14 wx => ∃ (nx2 N2 : Nat) (h2 : HL) (X2 : XL), s7 = .int .u32 (nx2 : Int) ∧ nx ≤ nx2 ∧ nx2 ≤ nx + 1 ∧ Near h2 nx2 ∧ h2.length ≤ k + 1 ∧ BMid w wx w1.heap.size N2 h2 [] X2)
        case first =>
          by_cases hd2 : d = 2
          · subst hd2
            go_wp2_with fail
            refine (BMid.turn M3.out (nx + 1) (by omega)).mono ?_
            rintro e w4 ⟨v4, rfl, m4⟩
            have M4 := Lib.hid m4
            clear m4
            go_wp2_with fail
            refine (BMid.turn M4.out (nx + 1) (by omega)).mono ?_
            rintro e w5 ⟨v5, rfl, m5⟩
            rw [look_turn]
            have M5 := Lib.hid m5
            have x5 := (M5.out.bel.cell (p := ⟨b, o + k * 6 + 2, none⟩) lb).trans OP.out.c2
            have x6 := (M5.out.bel.cell (p := ⟨b, o + k * 6 + 3, none⟩) lb).trans OP.out.c3
            have hl5 : Hid ((turnH (turnH (holdH h nx ix bs) (nx + 1)) (nx + 1)).length ≤ k + 1) := Lib.hid (by have h1 := turn_len (turnH (holdH h nx ix bs) (nx + 1)) (nx + 1); have h2 := turn_len (holdH h nx ix bs) (nx + 1); have h3 := hold_len h nx ix bs; have := HLen.out; omega)
            have hn5 : Hid (Near (turnH (turnH (holdH h nx ix bs) (nx + 1)) (nx + 1)) (nx + 1)) := Lib.hid (fun y hy => near_turn (near_hold HNear.out) y (List.mem_filter.1 hy).1)
            clear m5
            simp only [Option.isSome_none]
            generalize (lookH (holdH h nx ix bs) (nx + 1)).isSome = iz at *
            cases iz
            · go_wp2_with fail
              go_meet
              case rel => exact ⟨nx + 1, _, _, _, by go_num, by omega, by omega, hn5.out, hl5.out, M5.out⟩
            · go_wp2_with fail
              go_meet
              case rel => exact ⟨nx + 1, _, _, _, by go_num, by omega, by omega, hn5.out, hl5.out, M5.out⟩
          · skip
            have e2 : (d == 2) = false := by simpa using hd2
            clear hd2
            go_wp2_with fail
            go_meet
            case rel => exact ⟨nx, _, _, _, rfl, by omega, by omega, near_hold HNear.out, by have := hold_len h nx ix bs; have := HLen.out; omega, M3.out⟩
        case rest =>
          obtain ⟨nx2, N2, h2, X2, rfl, r1, r2, r3, r4, r5⟩ := hcut
          have R3 := Lib.hid (And.intro r3 r4)
          clear r3 r4
          go_wp2_with fail
          refine (BMid.held r5 (by have := R3.out.2; omega)).mono ?_
          rintro e w9 ⟨v9, hs, rfl, sl9, hk9, m9, -⟩
          have SL := Lib.hid sl9
          obtain ⟨_, A9, c9, rfl, hc9, hm9, _⟩ := sl9
          have M9 := Lib.hid m9
          have HK := Lib.hid hk9
          unfold maxLen at hm9
          clear m9 hk9 r5
          generalize hsn : hs.length = m at *
          have HSN := Lib.hid hsn
          clear hsn
          go_wp2_with fail
          go_loopw [16] (fun i wr => ∃ j : Nat, j ≤ m ∧ i = .int .i64 (j : Int) ∧ wr = w9) (fun i _ => m - (intOf i).toNat)
          case atStart => exact ⟨0, by omega, rfl, rfl⟩
          case round =>
            obtain ⟨j, hj, rfl, rfl⟩ := hrel
            by_cases hjm : j < m
            · have t1 : decide ((j : Int) < (m : Int)) = true := by simp; omega
              obtain ⟨b9, o9, rfl, hc⟩ := sl_at SL.out (by omega)
              have hjl : j < hs.length := by rw [HSN.out]; exact hjm
              have hcell := hc (j * 2) (.int .u32 (hs[j].1 : Int)) (by
                rw [flat_get _ _ (by omega)]
                have e1 : j * 2 / 2 = j := by omega
                have e2 : j * 2 % 2 = 0 := by omega
                rw [e1, e2]
                simp [encH, hjl])
              have hmem : hs[j].1 ∈ h2.map (·.1) := by rw [← mem_keysH, ← HK.out]; exact List.mem_map.2 ⟨hs[j], List.getElem_mem hjl, rfl⟩
              obtain ⟨y, hy, ey⟩ := List.mem_map.1 hmem
              have hnr := R3.out.1 y hy
              rw [ey] at hnr
              clear hc hmem hy ey
              generalize hs[j].1 = key at *
              have t2 : decide ((key : Int) ≤ (nx2 : Int)) = false := by simp; omega
              have t3 : decide (key ≤ nx2) = false := by simp; omega
              have t4 : decide ((nx2 : Int) + 3 < (key : Int)) = false := by simp; omega
              have t5 : decide (nx2 + 3 < key) = false := by simp; omega
              go_wp2_with fail
              go_roundw
              case rel => exact ⟨j + 1, by omega, by go_num, by first | exact rfl | exact trivial⟩
              case measure => simp [intOf]; omega
            · obtain rfl : j = m := by omega
              have t1 : decide ((j : Int) < (j : Int)) = false := by simp
              go_wp2_with fail
              go_roundw
              case rel => exact ⟨k + 1, nx2, _, h2, by omega, by go_num, rfl, by omega, R3.out.1, R3.out.2, M9.out.drop (fun p hp => by simp at hp)⟩
              case measure => simp [intOf]; omega
      · have d1 : decide ((nx : Int) < (ix : Int)) = true := by simp; omega
        have d2 : decide (nx < ix) = true := by simp; omega
        have d3 : decide ((ix : Int) - (nx : Int) ≤ 3) = false := by simp; omega
        go_upto_if 78 with (fail)
        go_cut [7, 11, 12, 13, 14] from 79 to 136 (fun s7 s11 s12 s13 s14 wx => ∃ (nx2 N2 : Nat) (h2 : HL) (X2 : XL), s7 = .int .u32 (nx2 : Int) ∧ nx ≤ nx2 ∧ nx2 ≤ nx + 1 ∧ Near h2 nx2 ∧ h2.length ≤ k + 1 ∧ BMid w wx w1.heap.size N2 h2 [] X2)
        case first =>
          by_cases hd2 : d = 2
          · subst hd2
            go_wp2_with fail
            refine (BMid.turn M3.out (nx + 1) (by omega)).mono ?_
            rintro e w4 ⟨v4, rfl, m4⟩
            have M4 := Lib.hid m4
            clear m4
            go_wp2_with fail
            refine (BMid.turn M4.out (nx + 1) (by omega)).mono ?_
            rintro e w5 ⟨v5, rfl, m5⟩
            rw [look_turn]
            have M5 := Lib.hid m5
            have x5 := (M5.out.bel.cell (p := ⟨b, o + k * 6 + 2, none⟩) lb).trans OP.out.c2
            have x6 := (M5.out.bel.cell (p := ⟨b, o + k * 6 + 3, none⟩) lb).trans OP.out.c3
            have hl5 : Hid ((turnH (turnH (holdH h nx ix bs) (nx + 1)) (nx + 1)).length ≤ k + 1) := Lib.hid (by have h1 := turn_len (turnH (holdH h nx ix bs) (nx + 1)) (nx + 1); have h2 := turn_len (holdH h nx ix bs) (nx + 1); have h3 := hold_len h nx ix bs; have := HLen.out; omega)
            have hn5 : Hid (Near (turnH (turnH (holdH h nx ix bs) (nx + 1)) (nx + 1)) (nx + 1)) := Lib.hid (fun y hy => near_turn (near_hold HNear.out) y (List.mem_filter.1 hy).1)
            clear m5
            simp only [Option.isSome_none]
            generalize (lookH (holdH h nx ix bs) (nx + 1)).isSome = iz at *
            cases iz
            · go_wp2_with fail
              go_meet
              case rel => exact ⟨nx + 1, _, _, _, by go_num, by omega, by omega, hn5.out, hl5.out, M5.out⟩
            · go_wp2_with fail
              go_meet
              case rel => exact ⟨nx + 1, _, _, _, by go_num, by omega, by omega, hn5.out, hl5.out, M5.out⟩
          · skip
            have e2 : (d == 2) = false := by simpa using hd2
            clear hd2
            go_wp2_with fail
            go_meet
            case rel => exact ⟨nx, _, _, _, rfl, by omega, by omega, near_hold HNear.out, by have := hold_len h nx ix bs; have := HLen.out; omega, M3.out⟩
        case rest =>
          obtain ⟨nx2, N2, h2, X2, rfl, r1, r2, r3, r4, r5⟩ := hcut
          have R3 := Lib.hid (And.intro r3 r4)
          clear r3 r4
          go_wp2_with fail
          refine (BMid.held r5 (by have := R3.out.2; omega)).mono ?_
          rintro e w9 ⟨v9, hs, rfl, sl9, hk9, m9, -⟩
          have SL := Lib.hid sl9
          obtain ⟨_, A9, c9, rfl, hc9, hm9, _⟩ := sl9
          have M9 := Lib.hid m9
          have HK := Lib.hid hk9
          unfold maxLen at hm9
          clear m9 hk9 r5
          generalize hsn : hs.length = m at *
          have HSN := Lib.hid hsn
          clear hsn
          go_wp2_with fail
          go_loopw [16] (fun i wr => ∃ j : Nat, j ≤ m ∧ i = .int .i64 (j : Int) ∧ wr = w9) (fun i _ => m - (intOf i).toNat)
          case atStart => exact ⟨0, by omega, rfl, rfl⟩
          case round =>
            obtain ⟨j, hj, rfl, rfl⟩ := hrel
            by_cases hjm : j < m
            · have t1 : decide ((j : Int) < (m : Int)) = true := by simp; omega
              obtain ⟨b9, o9, rfl, hc⟩ := sl_at SL.out (by omega)
              have hjl : j < hs.length := by rw [HSN.out]; exact hjm
              have hcell := hc (j * 2) (.int .u32 (hs[j].1 : Int)) (by
                rw [flat_get _ _ (by omega)]
                have e1 : j * 2 / 2 = j := by omega
                have e2 : j * 2 % 2 = 0 := by omega
                rw [e1, e2]
                simp [encH, hjl])
              have hmem : hs[j].1 ∈ h2.map (·.1) := by rw [← mem_keysH, ← HK.out]; exact List.mem_map.2 ⟨hs[j], List.getElem_mem hjl, rfl⟩
              obtain ⟨y, hy, ey⟩ := List.mem_map.1 hmem
              have hnr := R3.out.1 y hy
              rw [ey] at hnr
              clear hc hmem hy ey
              generalize hs[j].1 = key at *
              have t2 : decide ((key : Int) ≤ (nx2 : Int)) = false := by simp; omega
              have t3 : decide (key ≤ nx2) = false := by simp; omega
              have t4 : decide ((nx2 : Int) + 3 < (key : Int)) = false := by simp; omega
              have t5 : decide (nx2 + 3 < key) = false := by simp; omega
              go_wp2_with fail
              go_roundw
              case rel => exact ⟨j + 1, by omega, by go_num, by first | exact rfl | exact trivial⟩
              case measure => simp [intOf]; omega
            · obtain rfl : j = m := by omega
              have t1 : decide ((j : Int) < (j : Int)) = false := by simp
              go_wp2_with fail
              go_roundw
              case rel => exact ⟨k + 1, nx2, _, h2, by omega, by go_num, rfl, by omega, R3.out.1, R3.out.2, M9.out.drop (fun p hp => by simp at hp)⟩
              case measure => simp [intOf]; omega
      · have d1 : decide ((nx : Int) < (ix : Int)) = true := by simp; omega
        have d2 : decide (nx < ix) = true := by simp; omega
        have d3 : decide ((ix : Int) - (nx : Int) ≤ 3) = true := by simp; omega
        go_upto_if 78 with (fail)
        go_cut [7, 11, 12, 13, 14] from 79 to 136 (fun s7 s11 s12 s13 s14 wx => ∃ (nx2 N2 : Nat) (h2 : HL) (X2 : XL), s7 = .int .u32 (nx2 : Int) ∧ nx ≤ nx2 ∧ nx2 ≤ nx + 1 ∧ Near h2 nx2 ∧ h2.length ≤ k + 1 ∧ BMid w wx w1.heap.size N2 h2 [] X2)
        case first =>
          by_cases hd2 : d = 2
          · subst hd2
            go_wp2_with fail
            refine (BMid.turn M3.out (nx + 1) (by omega)).mono ?_
            rintro e w4 ⟨v4, rfl, m4⟩
            have M4 := Lib.hid m4
            clear m4
            go_wp2_with fail
            refine (BMid.turn M4.out (nx + 1) (by omega)).mono ?_
            rintro e w5 ⟨v5, rfl, m5⟩
            rw [look_turn]
            have M5 := Lib.hid m5
            have x5 := (M5.out.bel.cell (p := ⟨b, o + k * 6 + 2, none⟩) lb).trans OP.out.c2
            have x6 := (M5.out.bel.cell (p := ⟨b, o + k * 6 + 3, none⟩) lb).trans OP.out.c3
            have hl5 : Hid ((turnH (turnH (holdH h nx ix bs) (nx + 1)) (nx + 1)).length ≤ k + 1) := Lib.hid (by have h1 := turn_len (turnH (holdH h nx ix bs) (nx + 1)) (nx + 1); have h2 := turn_len (holdH h nx ix bs) (nx + 1); have h3 := hold_len h nx ix bs; have := HLen.out; omega)
            have hn5 : Hid (Near (turnH (turnH (holdH h nx ix bs) (nx + 1)) (nx + 1)) (nx + 1)) := Lib.hid (fun y hy => near_turn (near_hold HNear.out) y (List.mem_filter.1 hy).1)
            clear m5
            simp only [Option.isSome_none]
            by_cases hix : ix = nx + 1
            · have eL : lookH (holdH h nx ix bs) (nx + 1) = some bs := by
                unfold holdH
                rw [if_pos HEE.out, ← hix]
                exact look_put h ix bs
              have M6 := Lib.hid (M5.out.addIn OP.out.sl OP.out.small)
              rw [eL] at M6
              rw [eL]
              simp only [Option.isSome_some, Option.getD_some] at M6 ⊢
              have q1 : ((ix : Int) == ((nx + 1 : Nat) : Int)) = true := by simp; omega
              have q2 : ((ix : Int) == (nx : Int) + 1) = true := by simp; omega
              clear eL hix
              go_wp2_with fail
              refine (BMid.same M6.out (v := v4) (a := bs) (by simp) (List.mem_cons_self ..)).mono ?_
              rintro e w6 ⟨rfl, q6, rfl⟩
              rw [show decide (bs = bs) = true from by simp]
              have M7 := Lib.hid (M6.out.drewN q6)
              go_wp2_with fail
              go_meet
              case rel => exact ⟨nx + 1, _, _, _, by go_num, by omega, by omega, hn5.out, hl5.out, M7.out⟩
            · have q1 : ((ix : Int) == ((nx + 1 : Nat) : Int)) = false := by simp; omega
              have q2 : ((ix : Int) == (nx : Int) + 1) = false := by simp; omega
              generalize (lookH (holdH h nx ix bs) (nx + 1)).isSome = iz at *
              cases iz
              · go_wp2_with fail
                go_meet
                case rel => exact ⟨nx + 1, _, _, _, by go_num, by omega, by omega, hn5.out, hl5.out, M5.out⟩
              · go_wp2_with fail
                go_meet
                case rel => exact ⟨nx + 1, _, _, _, by go_num, by omega, by omega, hn5.out, hl5.out, M5.out⟩
          · skip
            have e2 : (d == 2) = false := by simpa using hd2
            clear hd2
            go_wp2_with fail
            go_meet
            case rel => exact ⟨nx, _, _, _, rfl, by omega, by omega, near_hold HNear.out, by have := hold_len h nx ix bs; have := HLen.out; omega, M3.out⟩
        case rest =>
          obtain ⟨nx2, N2, h2, X2, rfl, r1, r2, r3, r4, r5⟩ := hcut
          have R3 := Lib.hid (And.intro r3 r4)
          clear r3 r4
          go_wp2_with fail
          refine (BMid.held r5 (by have := R3.out.2; omega)).mono ?_
          rintro e w9 ⟨v9, hs, rfl, sl9, hk9, m9, -⟩
          have SL := Lib.hid sl9
          obtain ⟨_, A9, c9, rfl, hc9, hm9, _⟩ := sl9
          have M9 := Lib.hid m9
          have HK := Lib.hid hk9
          unfold maxLen at hm9
          clear m9 hk9 r5
          generalize hsn : hs.length = m at *
          have HSN := Lib.hid hsn
          clear hsn
          go_wp2_with fail
          go_loopw [16] (fun i wr => ∃ j : Nat, j ≤ m ∧ i = .int .i64 (j : Int) ∧ wr = w9) (fun i _ => m - (intOf i).toNat)
          case atStart => exact ⟨0, by omega, rfl, rfl⟩
          case round =>
            obtain ⟨j, hj, rfl, rfl⟩ := hrel
            by_cases hjm : j < m
            · have t1 : decide ((j : Int) < (m : Int)) = true := by simp; omega
              obtain ⟨b9, o9, rfl, hc⟩ := sl_at SL.out (by omega)
              have hjl : j < hs.length := by rw [HSN.out]; exact hjm
              have hcell := hc (j * 2) (.int .u32 (hs[j].1 : Int)) (by
                rw [flat_get _ _ (by omega)]
                have e1 : j * 2 / 2 = j := by omega
                have e2 : j * 2 % 2 = 0 := by omega
                rw [e1, e2]
                simp [encH, hjl])
              have hmem : hs[j].1 ∈ h2.map (·.1) := by rw [← mem_keysH, ← HK.out]; exact List.mem_map.2 ⟨hs[j], List.getElem_mem hjl, rfl⟩
              obtain ⟨y, hy, ey⟩ := List.mem_map.1 hmem
              have hnr := R3.out.1 y hy
              rw [ey] at hnr
              clear hc hmem hy ey
              generalize hs[j].1 = key at *
              have t2 : decide ((key : Int) ≤ (nx2 : Int)) = false := by simp; omega
              have t3 : decide (key ≤ nx2) = false := by simp; omega
              have t4 : decide ((nx2 : Int) + 3 < (key : Int)) = false := by simp; omega
              have t5 : decide (nx2 + 3 < key) = false := by simp; omega
              go_wp2_with fail
              go_roundw
              case rel => exact ⟨j + 1, by omega, by go_num, by first | exact rfl | exact trivial⟩
              case measure => simp [intOf]; omega
            · obtain rfl : j = m := by omega
              have t1 : decide ((j : Int) < (j : Int)) = false := by simp
              go_wp2_with fail
              go_roundw
              case rel => exact ⟨k + 1, nx2, _, h2, by omega, by go_num, rfl, by omega, R3.out.1, R3.out.2, M9.out.drop (fun p hp => by simp at hp)⟩
              case measure => simp [intOf]; omega
      · have d1 : decide ((nx : Int) < (ix : Int)) = true := by simp; omega
        have d2 : decide (nx < ix) = true := by simp; omega
        have d3 : decide ((ix : Int) - (nx : Int) ≤ 3) = true := by simp; omega
        go_upto_if 78 with (fail)
        go_cut [7, 11, 12, 13, 14] from 79 to 136 (fun s7 s11 s12 s13 s14 wx => ∃ (nx2 N2 : Nat) (h2 : HL) (X2 : XL), s7 = .int .u32 (nx2 : Int) ∧ nx ≤ nx2 ∧ nx2 ≤ nx + 1 ∧ Near h2 nx2 ∧ h2.length ≤ k + 1 ∧ BMid w wx w1.heap.size N2 h2 [] X2)
        case first =>
          by_cases hd2 : d = 2
          · subst hd2
            go_wp2_with fail
            refine (BMid.turn M3.out (nx + 1) (by omega)).mono ?_
            rintro e w4 ⟨v4, rfl, m4⟩
            have M4 := Lib.hid m4
            clear m4
            go_wp2_with fail
            refine (BMid.turn M4.out (nx + 1) (by omega)).mono ?_
            rintro e w5 ⟨v5, rfl, m5⟩
            rw [look_turn]
            have M5 := Lib.hid m5
            have x5 := (M5.out.bel.cell (p := ⟨b, o + k * 6 + 2, none⟩) lb).trans OP.out.c2
            have x6 := (M5.out.bel.cell (p := ⟨b, o + k * 6 + 3, none⟩) lb).trans OP.out.c3
            have hl5 : Hid ((turnH (turnH (holdH h nx ix bs) (nx + 1)) (nx + 1)).length ≤ k + 1) := Lib.hid (by have h1 := turn_len (turnH (holdH h nx ix bs) (nx + 1)) (nx + 1); have h2 := turn_len (holdH h nx ix bs) (nx + 1); have h3 := hold_len h nx ix bs; have := HLen.out; omega)
            have hn5 : Hid (Near (turnH (turnH (holdH h nx ix bs) (nx + 1)) (nx + 1)) (nx + 1)) := Lib.hid (fun y hy => near_turn (near_hold HNear.out) y (List.mem_filter.1 hy).1)
            clear m5
            simp only [Option.isSome_none]
            generalize (lookH (holdH h nx ix bs) (nx + 1)).isSome = iz at *
            cases iz
            · go_wp2_with fail
              go_meet
              case rel => exact ⟨nx + 1, _, _, _, by go_num, by omega, by omega, hn5.out, hl5.out, M5.out⟩
            · go_wp2_with fail
              go_meet
              case rel => exact ⟨nx + 1, _, _, _, by go_num, by omega, by omega, hn5.out, hl5.out, M5.out⟩
          · skip
            have e2 : (d == 2) = false := by simpa using hd2
            clear hd2
            go_wp2_with fail
            go_meet
            case rel => exact ⟨nx, _, _, _, rfl, by omega, by omega, near_hold HNear.out, by have := hold_len h nx ix bs; have := HLen.out; omega, M3.out⟩
        case rest =>
          obtain ⟨nx2, N2, h2, X2, rfl, r1, r2, r3, r4, r5⟩ := hcut
          have R3 := Lib.hid (And.intro r3 r4)
          clear r3 r4
          go_wp2_with fail
          refine (BMid.held r5 (by have := R3.out.2; omega)).mono ?_
          rintro e w9 ⟨v9, hs, rfl, sl9, hk9, m9, -⟩
          have SL := Lib.hid sl9
          obtain ⟨_, A9, c9, rfl, hc9, hm9, _⟩ := sl9
          have M9 := Lib.hid m9
          have HK := Lib.hid hk9
          unfold maxLen at hm9
          clear m9 hk9 r5
          generalize hsn : hs.length = m at *
          have HSN := Lib.hid hsn
          clear hsn
          go_wp2_with fail
          go_loopw [16] (fun i wr => ∃ j : Nat, j ≤ m ∧ i = .int .i64 (j : Int) ∧ wr = w9) (fun i _ => m - (intOf i).toNat)
          case atStart => exact ⟨0, by omega, rfl, rfl⟩
          case round =>
            obtain ⟨j, hj, rfl, rfl⟩ := hrel
            by_cases hjm : j < m
            · have t1 : decide ((j : Int) < (m : Int)) = true := by simp; omega
              obtain ⟨b9, o9, rfl, hc⟩ := sl_at SL.out (by omega)
              have hjl : j < hs.length := by rw [HSN.out]; exact hjm
              have hcell := hc (j * 2) (.int .u32 (hs[j].1 : Int)) (by
                rw [flat_get _ _ (by omega)]
                have e1 : j * 2 / 2 = j := by omega
                have e2 : j * 2 % 2 = 0 := by omega
                rw [e1, e2]
                simp [encH, hjl])
              have hmem : hs[j].1 ∈ h2.map (·.1) := by rw [← mem_keysH, ← HK.out]; exact List.mem_map.2 ⟨hs[j], List.getElem_mem hjl, rfl⟩
              obtain ⟨y, hy, ey⟩ := List.mem_map.1 hmem
              have hnr := R3.out.1 y hy
              rw [ey] at hnr
              clear hc hmem hy ey
              generalize hs[j].1 = key at *
              have t2 : decide ((key : Int) ≤ (nx2 : Int)) = false := by simp; omega
              have t3 : decide (key ≤ nx2) = false := by simp; omega
              have t4 : decide ((nx2 : Int) + 3 < (key : Int)) = false := by simp; omega
              have t5 : decide (nx2 + 3 < key) = false := by simp; omega
              go_wp2_with fail
              go_roundw
              case rel => exact ⟨j + 1, by omega, by go_num, by first | exact rfl | exact trivial⟩
              case measure => simp [intOf]; omega
            · obtain rfl : j = m := by omega
              have t1 : decide ((j : Int) < (j : Int)) = false := by simp
              go_wp2_with fail
              go_roundw
              case rel => exact ⟨k + 1, nx2, _, h2, by omega, by go_num, rfl, by omega, R3.out.1, R3.out.2, M9.out.drop (fun p hp => by simp at hp)⟩
              case measure => simp [intOf]; omega
    · obtain rfl : k = n := by omega
      have hd : decide ((k : Int) < (k : Int)) = false := by simp
      go_wp2_with fail
      go_ret
      exact ⟨rfl, M.out.bel⟩
end Go.Proofs.Ytihjmgjjknjioaa.In
