/- Walks: what a term uses, and that a list is right. -/
import Derived.Test.YtfflidaodnhpbaaLedAa
import Derived.Test.YtfflidaodnhpbaaLedV
namespace Go.Proofs.Ytfflidaodnhpbaa.Led
open Go Go.RowKit Go.Proofs.Ytfflidaodnhpbaa.Base Go.Proofs.Ytfflidaodnhpbaa.Draw
set_option linter.unusedVariables false
set_option linter.unusedSimpArgs false

theorem right1_calls {w : World} {c i a : Nat} (hc : w.cell? ⟨c, 0, none⟩ = some (.int .i64 (i : Int))) (ha : a < i) :
    Calls Try.prog 62 #[.int .i64 (a : Int), .pointer (some ⟨c, 0, none⟩)] w fun e w' => e = .returned (.bool false) ∧ w' = w := by
  have h1 : decide (i ≤ a) = false := by simp; omega
  have h2 : decide ((a : Int) < 0) = false := by simp
  go_enter Try.func62, Try.ntmps62
  go_wp2_with fail
  go_ret
  exact ⟨rfl, rfl⟩

set_option maxHeartbeats 1000000 in
theorem none_calls {w : World} {v : Value} {c i : Nat} {xs : List Nat} (h : Sl w 1 v xs.length (nats xs)) (hn : xs.length ≤ 1000) (hc : w.cell? ⟨c, 0, none⟩ = some (.int .i64 (i : Int))) (hx : ∀ x ∈ xs, x < i) :
    Calls Try.prog 72 #[v, .func (.func 62) #[] #[.pointer (some ⟨c, 0, none⟩)]] w fun e w' => e = .returned (.int .i64 (-1)) ∧ w' = w := by
  obtain ⟨hl, A, c', rfl, hnc, hcm, hcell⟩ := h
  have hcm' := hcm
  unfold maxLen at hcm'
  have HE := Lib.hid hcell
  have HX := Lib.hid hx
  have HC := Lib.hid hc
  clear hx hcell hl hcm hc
  generalize hN : xs.length = N at *
  have HN := Lib.hid hN
  clear hN
  go_enter Try.func72, Try.ntmps72
  go_wp2_with fail
  go_loop [5, 8] (fun u i => ∃ k : Nat, k ≤ N ∧ i = .int .i64 k) (fun _ i => N - (intOf i).toNat)
  case atStart => exact ⟨0, by omega, rfl⟩
  case round =>
    obtain ⟨k, hk, rfl⟩ := hrel
    by_cases hlt : k < N
    · have hkx : k < xs.length := by rw [HN.out]; exact hlt
      obtain ⟨b, o, rfl, hc⟩ := HE.out (by omega)
      have c0 := hc k (.int .i64 (xs[k] : Int)) (by simp [nats, hkx])
      have hxi := HX.out xs[k] (List.getElem_mem hkx)
      clear hc
      generalize xs[k] = x at *
      go_wp2_with fail
      refine (right1_calls HC.out hxi).mono ?_
      rintro e w2 ⟨rfl, rfl⟩
      go_wp2_with fail
      go_round
      case rel => exact ⟨k + 1, by omega, by go_num⟩
      case measure => simp [intOf]; omega
    · obtain rfl : k = N := by omega
      go_wp2_with fail
      go_ret
      exact ⟨rfl, rfl⟩
theorem nonec_calls {w : World} {v : Value} {c i : Nat} {xs : List Nat} (h : Sl w 1 v xs.length (nats xs)) (hn : xs.length ≤ 1000) (hc : w.cell? ⟨c, 0, none⟩ = some (.int .i64 (i : Int))) (hx : ∀ x ∈ xs, x < i) :
    Calls Try.prog 63 #[v, .func (.func 62) #[] #[.pointer (some ⟨c, 0, none⟩)]] w fun e w' => e = .returned (.bool false) ∧ w' = w := by
  have HI := Lib.hid (none_calls h hn hc hx)
  clear h hc hx
  go_enter Try.func63, Try.ntmps63
  go_wp2_with fail
  refine HI.out.mono ?_
  rintro e w1 ⟨rfl, rfl⟩
  go_wp2_with fail
  go_ret
  exact ⟨rfl, rfl⟩

def usesL (t : Trm) : List Nat := if t.1 = 0 then [] else if t.1 = 2 ∨ t.1 = 3 then [t.2.1] else [t.2.1, t.2.2]
theorem usesL_len (t : Trm) : (usesL t).length ≤ 2 := by unfold usesL; repeat (first | split | simp)
theorem uses_calls (w : World) (t : Trm) :
    Calls Try.prog 64 #[snc t] w fun e w' => ∃ v, e = .returned v ∧ Sl w' 1 v (usesL t).length (nats (usesL t)) ∧ Below w.heap.size w w' := by
  obtain ⟨x, a, b⟩ := t
  unfold snc
  by_cases h0 : x = 0
  · subst h0
    go_enter Try.func64, Try.ntmps64
    go_wp2_with fail
    go_ret
    exact ⟨_, rfl, ⟨rfl, none, 0, rfl, Nat.le_refl _, Nat.zero_le _, fun h => absurd h (by simp [usesL])⟩, (Below.refl _ _).alloc (Nat.le_refl _) _⟩
  · have n0 : ((x : Int) == 0) = false := by simp; omega
    by_cases h2 : x = 2
    · subst h2
      go_enter Try.func64, Try.ntmps64
      go_wp2_with fail
      go_ret
      refine ⟨_, rfl, ?_, ((Below.refl _ _).alloc (Nat.le_refl _) _).alloc (by simp) _⟩
      have := sl_blk (vs := nats [a]) (Blk.new (w.alloc (.cells #[.int .i64 ((2 : Nat) : Int), .int .i64 a, .int .i64 b] 46)) 3 (nats [a]).toArray) (by unfold maxLen nats; simp)
      simpa [usesL, nats] using this
    · have n2 : ((x : Int) == 2) = false := by simp; omega
      by_cases h3 : x = 3
      · subst h3
        go_enter Try.func64, Try.ntmps64
        go_wp2_with fail
        go_ret
        refine ⟨_, rfl, ?_, ((Below.refl _ _).alloc (Nat.le_refl _) _).alloc (by simp) _⟩
        have := sl_blk (vs := nats [a]) (Blk.new (w.alloc (.cells #[.int .i64 ((3 : Nat) : Int), .int .i64 a, .int .i64 b] 46)) 3 (nats [a]).toArray) (by unfold maxLen nats; simp)
        simpa [usesL, nats] using this
      · have n3 : ((x : Int) == 3) = false := by simp; omega
        have e : usesL (x, a, b) = [a, b] := by simp [usesL, h0, h2, h3]
        rw [e]
        clear h0 h2 h3 e
        go_enter Try.func64, Try.ntmps64
        go_wp2_with fail
        go_ret
        refine ⟨_, rfl, ?_, ((Below.refl _ _).alloc (Nat.le_refl _) _).alloc (by simp) _⟩
        have := sl_blk (vs := nats [a, b]) (Blk.new (w.alloc (.cells #[.int .i64 (x : Int), .int .i64 a, .int .i64 b] 46)) 3 (nats [a, b]).toArray) (by unfold maxLen nats; simp)
        simpa [nats] using this

theorem wf_uses {T : List Trm} (h : WF T) {i : Nat} (hi : i < T.length) : ∀ x ∈ usesL (at_ T i), x < i := by
  obtain ⟨_, h1, h2⟩ := h i hi
  intro x hx
  unfold usesL at hx
  split at hx
  · simp at hx
  · rename_i g0
    split at hx
    · simp only [List.mem_singleton] at hx
      subst hx; exact h1 g0
    · rename_i g1
      simp only [List.mem_cons, List.not_mem_nil, or_false] at hx
      rcases hx with rfl | rfl
      · exact h1 g0
      · exact h2 g0 (fun e => g1 (.inl e)) (fun e => g1 (.inr e))

set_option maxRecDepth 100000 in
set_option maxHeartbeats 1000000 in
theorem right_calls {w : World} {v : Value} {T : List Trm} (h : Sl w 3 v T.length (snv T)) (hn : T.length ≤ 200) (hw : WF T) :
    Calls Try.prog 47 #[v] w fun e w' => e = .returned (.int .i64 0) ∧ Below w.heap.size w w' := by
  obtain ⟨hl, A, c, rfl, hnc, hcm, hcell⟩ := h
  have hcm' := hcm
  unfold maxLen at hcm'
  have HE := Lib.hid hcell
  have HW := Lib.hid hw
  clear hcell hl hcm hw
  generalize hN : T.length = N at *
  have HN := Lib.hid hN
  clear hN
  have hc : decide ((200 : Int) < (N : Int)) = false := by simp; omega
  go_enter Try.func47, Try.ntmps47
  go_wp2_with fail
  clear hc
  go_loopw [11] (fun i wr => ∃ k : Nat, k ≤ N ∧ i = .int .i64 k ∧ Below w.heap.size w wr) (fun i _ => N - (intOf i).toNat)
  case atStart => exact ⟨0, by omega, rfl, Below.refl _ _⟩
  case round =>
    obtain ⟨k, hk, rfl, hb⟩ := hrel
    have HB := Lib.hid hb
    by_cases hlt : k < N
    · obtain ⟨b, o, rfl, hc⟩ := HE.out (by omega)
      have hkT : k < T.length := by rw [HN.out]; exact hlt
      obtain ⟨s0, s1, s2⟩ := snv_at T k hkT
      have lb : b < w.heap.size := cell_lt (hc _ _ s0)
      have lb2 : b < wr.heap.size := Nat.lt_of_lt_of_le lb hb.size
      have c0 := (hb.cell (p := ⟨b, o + k * 3, none⟩) lb).trans (hc _ _ s0)
      have c1 : wr.cell? ⟨b, o + k * 3 + 1, none⟩ = some (.int .i64 (T[k].2.1 : Int)) := (hb.cell (p := ⟨b, o + k * 3 + 1, none⟩) lb).trans (by rw [Nat.add_assoc]; exact hc _ _ s1)
      have c2 : wr.cell? ⟨b, o + k * 3 + 2, none⟩ = some (.int .i64 (T[k].2.2 : Int)) := (hb.cell (p := ⟨b, o + k * 3 + 2, none⟩) lb).trans (by rw [Nat.add_assoc]; exact hc _ _ s2)
      have eT : at_ T k = T[k] := by simp [at_, hkT]
      have hu := wf_uses HW.out hkT
      have h6 : (at_ T k).1 ≤ 6 := (HW.out k hkT).1
      rw [eT] at hu h6
      have HU := Lib.hid hu
      clear hc s0 s1 s2 hb hu eT
      generalize T[k] = x at *
      obtain ⟨x1, x2, x3⟩ := x
      have g1 : decide ((x1 : Int) < 0) = false := by simp
      replace h6 : x1 ≤ 6 := h6
      have g2 : decide ((6 : Int) < (x1 : Int)) = false := by simp; omega
      have g3 : decide (6 < x1) = false := by simp; omega
      clear h6
      go_wp2_with fail
      have hW2 : Below wr.heap.size wr ((wr.alloc (.cells #[.int .i64 (k : Int)] 3)).alloc (.cells #[.int .i64 (x1 : Int), .int .i64 (x2 : Int), .int .i64 (x3 : Int)] 46)) := ((Below.refl _ _).alloc (Nat.le_refl _) _).alloc (by simp) _
      have hcl : ((wr.alloc (.cells #[.int .i64 (k : Int)] 3)).alloc (.cells #[.int .i64 (x1 : Int), .int .i64 (x2 : Int), .int .i64 (x3 : Int)] 46)).cell? ⟨wr.heap.size, 0, none⟩ = some (.int .i64 (k : Int)) := ((Blk.new wr 3 #[.int .i64 (k : Int)]).alloc _).cell 0
      have HW2 := Lib.hid (And.intro hW2 hcl)
      clear hW2 hcl
      generalize (wr.alloc (.cells #[.int .i64 (k : Int)] 3)).alloc (.cells #[.int .i64 (x1 : Int), .int .i64 (x2 : Int), .int .i64 (x3 : Int)] 46) = W2 at *
      refine (uses_calls W2 (x1, x2, x3)).mono ?_
      rintro e w3 ⟨v3, rfl, s3, b3⟩
      have HW3 := Lib.hid (And.intro (HW2.out.1.trans (b3.mono HW2.out.1.size)) ((b3.cell (cell_lt HW2.out.2)).trans HW2.out.2))
      have S3 := Lib.hid s3
      clear s3 b3
      go_wp2_with fail
      refine (nonec_calls S3.out (by have := usesL_len (x1, x2, x3); omega) HW3.out.2 HU.out).mono ?_
      rintro e w4 ⟨rfl, rfl⟩
      go_wp2_with fail
      go_roundw
      case rel => exact ⟨k + 1, by omega, by go_num, HB.out.trans (HW3.out.1.mono HB.out.size)⟩
      case measure => simp [intOf]; omega
    · obtain rfl : k = N := by omega
      have hc : decide ((k : Int) < (k : Int)) = false := by simp
      go_wp2_with fail
      go_ret
      exact ⟨rfl, HB.out⟩
end Go.Proofs.Ytfflidaodnhpbaa.Led
