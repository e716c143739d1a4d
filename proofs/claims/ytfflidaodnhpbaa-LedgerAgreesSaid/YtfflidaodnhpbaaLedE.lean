/- Walks: which epochs are live; the reference's counts. -/
import Derived.Test.YtfflidaodnhpbaaLedL
namespace Go.Proofs.Ytfflidaodnhpbaa.Led
open Go Go.RowKit Go.Proofs.Ytfflidaodnhpbaa.Base Go.Proofs.Ytfflidaodnhpbaa.Draw
set_option linter.unusedVariables false
set_option linter.unusedSimpArgs false

def from_ (a n : Nat) : List Nat := (List.range n).map (a + ·)
theorem from_succ (a n : Nat) : from_ a (n + 1) = from_ a n ++ [a + n] := by simp [from_, List.range_succ]
theorem from_length (a n : Nat) : (from_ a n).length = n := by simp [from_]

theorem oldest_le (st : LSt) (ok : LOk st) : oldest st ≤ st.nw := by
  unfold oldest
  split
  · omega
  · have h := ok.got
    have hlt : st.got - 1 < st.ep.length := by omega
    rw [List.getD, List.getElem?_eq_getElem hlt]
    exact ok.eps _ (List.getElem_mem hlt)

set_option maxRecDepth 100000 in
set_option maxHeartbeats 1000000 in
theorem epochs_calls {w : World} {g : Nat} {F : Nat → Prop} {st : LSt} {ve vs : Value} (h : LRep w g F st ve vs) (ok : LOk st) :
    Calls Try.prog 8 #[.pointer (some ⟨g, 0, none⟩)] w fun e w' => ∃ v, e = .returned v ∧ w'.ownsRow w.heap.size 3 1 v (st.nw + 1 - oldest st) (nats (from_ (oldest st) (st.nw + 1 - oldest st))) ∧ Below w.heap.size w w' := by
  have hlt := h.blk.lt
  have hle := oldest_le st ok
  have hnw := ok.nw
  have HR := Lib.hid h
  go_enter Try.func8, Try.ntmps8
  go_wp2_with fail
  refine (oldest_calls HR.out ok).mono ?_
  rintro e w0 ⟨rfl, q, rfl⟩
  clear h
  generalize hO : oldest st = O at *
  generalize hM : st.nw = M at *
  have HM := Lib.hid (And.intro hO hM)
  clear hO hM
  go_wp2_with fail
  go_loopw [3, 4] (fun v i wr => ∃ k : Nat, k ≤ M + 1 - O ∧ i = .int .i64 ((O + k : Nat) : Int) ∧ wr.ownsRow w.heap.size 3 1 v k (nats (from_ O k)) ∧ Below w.heap.size w wr) (fun _ i _ => M + 1 - (intOf i).toNat)
  case atStart => exact ⟨0, by omega, rfl, World.ownsRow_nil _ _ _ _, below_drewN (Below.refl _ _) _⟩
  case round =>
    obtain ⟨k, hk, rfl, hown, hb⟩ := hrel
    have hr := HR.out.below hb
    have d2 := hr.blk.cell 2
    simp only [List.getElem?_toArray, List.getElem?_cons_zero, List.getElem?_cons_succ] at d2
    rw [HM.out.2] at d2
    have HO := Lib.hid hown
    have hwB : w.heap.size ≤ wr.heap.size := hb.size
    clear hr hown
    by_cases hlt : O + k ≤ M
    · have hc : decide (((O + k : Nat) : Int) ≤ (M : Int)) = true := by simp; omega
      go_wp2_with (refine list_app ty_ints rfl (.tmp 15) (.tmp 17) rfl (by simp [Act.eval]) (own_heap (HO.out.alloc _) (by rfl)) wr.heap.size 1 1 3 #[.int .i64 ((O + k : Nat) : Int)] (by simp [Act.eval]) (by exact heap_alloc_new wr _) rfl (by simp [Value.oneCell']) (by decide) (by unfold maxLen; omega) (by omega) (by simp; omega) ?_; intro g' cap w' hown hgr hat hlt')
      go_roundw
      case rel =>
        refine ⟨k + 1, by omega, by go_num, ?_, ?_⟩
        · rw [from_succ]; simpa [nats] using hown
        · refine (hb.trans ((Below.refl _ _).alloc hwB _)).grown (w := wr.alloc _) hgr ?_ ?_
          · simp; omega
          · intro i hi; exact (HO.out.lt i hi).1
      case measure => simp [intOf]; omega
    · obtain rfl : k = M + 1 - O := by omega
      have hc : decide (((O + (M + 1 - O) : Nat) : Int) ≤ (M : Int)) = false := by simp; omega
      go_wp2_with fail
      go_ret
      exact ⟨_, rfl, by rw [HM.out.1, HM.out.2]; exact HO.out, hb⟩

/-! ### The reference: all events that were done -/
def RRep (w : World) (r : Nat) (vl : Value) (L : List Nat) : Prop := Blk w r 30 #[vl] ∧ w.ownsRow 0 3 1 vl L.length (nats L)

theorem RRep.below {w w' : World} {r : Nat} {vl : Value} {L : List Nat} (h : RRep w r vl L) (hb : Below w.heap.size w w') : RRep w' r vl L :=
  ⟨h.1.below hb h.1.lt, own_chg h.2 (Chg.of_below (F := fun _ => False) hb) (fun _ _ f => f)⟩
theorem RRep.drewN {w : World} {r : Nat} {vl : Value} {L : List Nat} (h : RRep w r vl L) (k : Nat) : RRep (w.drewN k) r vl L := h

/-- How many of a kind there are among the first n. -/
def cnt (L : List Nat) (kind n : Nat) : Nat := ((L.take n).filter (fun x => x == kind)).length
theorem cnt_zero (L : List Nat) (kind : Nat) : cnt L kind 0 = 0 := by simp [cnt]
theorem cnt_succ (L : List Nat) (kind n : Nat) (h : n < L.length) : cnt L kind (n + 1) = cnt L kind n + (if L.getD n 0 = kind then 1 else 0) := by
  unfold cnt
  rw [List.take_succ_eq_append_getElem h, List.filter_append, List.length_append]
  by_cases e : L.getD n 0 = kind
  · have : L[n] = kind := by simpa [List.getD, h] using e
    rw [if_pos e]; simp [this]
  · have : ¬ L[n] = kind := by simpa [List.getD, h] using e
    simp only [e, if_false]
    rw [List.filter_cons_of_neg (by simpa using this)]
    simp
theorem cnt_le (L : List Nat) (kind n : Nat) : cnt L kind n ≤ L.length := by
  unfold cnt
  exact Nat.le_trans (List.length_filter_le _ _) (List.length_take_le' _ _)

theorem count_calls {w : World} {r : Nat} {vl : Value} {L : List Nat} (h : RRep w r vl L) (kind n : Nat) (hn : n ≤ L.length) (hL : L.length ≤ 1000) :
    Calls Try.prog 24 #[.pointer (some ⟨r, 0, none⟩), .int .i64 (kind : Int), .int .i64 (n : Int)] w fun e w' => e = .returned (.int .i64 (cnt L kind n : Int)) ∧ ∃ k, w' = w.drewN k := by
  obtain ⟨hblk, hown⟩ := h
  obtain ⟨hl, A, c, rfl, hnc, hcm, hcell⟩ := Sl.of_own hown
  clear hown
  have c0 := hblk.cell 0
  simp only [List.getElem?_toArray, List.getElem?_cons_zero] at c0
  have HE := Lib.hid hcell
  have HLn := Lib.hid hl
  have hcm' := hcm
  unfold maxLen at hcm'
  clear hcell hl hcm hblk
  go_enter Try.func24, Try.ntmps24
  go_wp2_with fail
  go_loop [7, 8] (fun c i => ∃ k : Nat, k ≤ n ∧ i = .int .i64 (k : Int) ∧ c = .int .i64 (cnt L kind k : Int)) (fun _ i => n - (intOf i).toNat)
  case atStart => exact ⟨0, by omega, rfl, by rw [cnt_zero]; rfl⟩
  case round =>
    obtain ⟨k, hk, rfl, rfl⟩ := hrel
    have hle := cnt_le L kind k
    by_cases hlt : k < n
    · obtain ⟨b, o, rfl, hc⟩ := HE.out (by omega)
      have hkL : k < L.length := by omega
      have c1 := hc k (.int .i64 (L.getD k 0 : Nat)) (by simp [nats, hkL])
      clear hc
      have hs := cnt_succ L kind k hkL
      generalize hX : L.getD k 0 = X at *
      have HS := Lib.hid hs
      clear hs hX
      by_cases hx : X = kind
      · have hb : ((X : Int) == (kind : Int)) = true := by simp [hx]
        have HX := Lib.hid hx
        clear hx
        go_wp2_with fail
        go_round
        case rel => exact ⟨k + 1, by omega, by go_num, by rw [HS.out, if_pos HX.out]; go_num⟩
        case measure => simp [intOf]; omega
      · have hb : ((X : Int) == (kind : Int)) = false := by simp; omega
        have HX := Lib.hid hx
        clear hx
        go_wp2_with fail
        go_round
        case rel => exact ⟨k + 1, by omega, by go_num, by rw [HS.out, if_neg HX.out]; rfl⟩
        case measure => simp [intOf]; omega
    · obtain rfl : k = n := by omega
      go_wp2_with fail
      go_ret
      exact ⟨rfl, 0, rfl⟩

/-- Which epoch the i-th frame was sealed to. -/
def epR (L : List Nat) (i : Nat) : Nat :=
  match (List.range L.length).find? (fun at_ => L.getD at_ 0 == 1 && cnt L 1 (at_ + 1) == i) with
  | some at_ => cnt L 3 at_
  | none => 0

def liveR (L : List Nat) (n : Nat) : Nat := if cnt L 2 n = 0 then 0 else epR L (cnt L 2 n)

theorem epR_some {L : List Nat} {i k : Nat} (hk : k < L.length) (h1 : L.getD k 0 = 1) (h2 : cnt L 1 (k + 1) = i) (hpre : ∀ j, j < k → ¬ (L.getD j 0 = 1 ∧ cnt L 1 (j + 1) = i)) : epR L i = cnt L 3 k := by
  unfold epR
  have : (List.range L.length).find? (fun at_ => L.getD at_ 0 == 1 && cnt L 1 (at_ + 1) == i) = some k := by
    rw [List.find?_range_eq_some]
    refine ⟨by simp only [h1, h2, beq_self_eq_true, Bool.and_self], by simpa using hk, fun j hj => ?_⟩
    have := hpre j hj
    simp only [Bool.not_eq_true', Bool.and_eq_false_imp, beq_iff_eq, beq_eq_false_iff_ne]
    exact fun a b => this ⟨a, b⟩
  rw [this]

theorem epR_none {L : List Nat} {i : Nat} (hpre : ∀ j, j < L.length → ¬ (L.getD j 0 = 1 ∧ cnt L 1 (j + 1) = i)) : epR L i = 0 := by
  unfold epR
  have : (List.range L.length).find? (fun at_ => L.getD at_ 0 == 1 && cnt L 1 (at_ + 1) == i) = none := by
    rw [List.find?_eq_none]
    intro j hj
    have := hpre j (by simpa using hj)
    simp only [Bool.and_eq_true, beq_iff_eq]
    exact this
  rw [this]

set_option maxHeartbeats 1000000 in
theorem epoch_calls {w : World} {r : Nat} {vl : Value} {L : List Nat} (h : RRep w r vl L) (i : Nat) (hL : L.length ≤ 1000) :
    Calls Try.prog 26 #[.pointer (some ⟨r, 0, none⟩), .int .i64 (i : Int)] w fun e w' => e = .returned (.int .i64 (epR L i : Int)) ∧ ∃ k, w' = w.drewN k := by
  have HR := Lib.hid h
  obtain ⟨hblk, hown⟩ := h
  obtain ⟨hl, A, c, rfl, hnc, hcm, hcell⟩ := Sl.of_own hown
  clear hown
  have c0 := hblk.cell 0
  simp only [List.getElem?_toArray, List.getElem?_cons_zero] at c0
  have HE := Lib.hid hcell
  have hcm' := hcm
  unfold maxLen at hcm'
  clear hcell hl hcm hblk
  go_enter Try.func26, Try.ntmps26
  go_wp2_with fail
  go_loop [5, 6] (fun c i' => ∃ k : Nat, k ≤ L.length ∧ i' = .int .i64 (k : Int) ∧ c = .int .i64 (cnt L 1 k : Int) ∧ ∀ j, j < k → ¬ (L.getD j 0 = 1 ∧ cnt L 1 (j + 1) = i)) (fun _ i => L.length - (intOf i).toNat)
  case atStart => exact ⟨0, by omega, rfl, by rw [cnt_zero]; rfl, fun j hj => by omega⟩
  case round =>
    obtain ⟨k, hk, rfl, rfl, hpre⟩ := hrel
    have HP := Lib.hid hpre
    clear hpre
    have hle := cnt_le L 1 k
    by_cases hlt : k < L.length
    · obtain ⟨b, o, rfl, hc⟩ := HE.out (by omega)
      have c1 := hc k (.int .i64 (L.getD k 0 : Nat)) (by simp [nats, hlt])
      clear hc
      have hs := cnt_succ L 1 k hlt
      generalize hX : L.getD k 0 = X at *
      have HS := Lib.hid (And.intro hs hX)
      clear hs hX
      by_cases hx : X = 1
      · have hb : ((X : Int) == 1) = true := by simp [hx]; 
        have HX := Lib.hid hx
        clear hx
        by_cases hi : cnt L 1 k + 1 = i
        · have hb2 : (((cnt L 1 k : Int) + 1) == (i : Int)) = true := by simp; omega
          have HI := Lib.hid hi
          clear hi
          go_wp2_with fail
          refine (count_calls HR.out 3 k (by omega) hL).mono ?_
          rintro e w1 ⟨rfl, q, rfl⟩
          go_wp2_with fail
          go_ret
          refine ⟨?_, _, rfl⟩
          rw [epR_some hlt (by rw [HS.out.2]; exact HX.out) (by rw [HS.out.1, if_pos HX.out]; exact HI.out) HP.out]
          rfl
        · have hb2 : (((cnt L 1 k : Int) + 1) == (i : Int)) = false := by simp; omega
          have HI := Lib.hid hi
          clear hi
          go_wp2_with fail
          go_round
          case rel =>
            refine ⟨k + 1, by omega, by go_num, by rw [HS.out.1, if_pos HX.out]; go_num, ?_⟩
            intro j hj
            by_cases hjk : j < k
            · exact HP.out j hjk
            · obtain rfl : j = k := by omega
              rw [HS.out.1, if_pos HX.out]
              exact fun a => HI.out a.2
          case measure => simp [intOf]; omega
      · have hb : ((X : Int) == 1) = false := by simp; omega
        have HX := Lib.hid hx
        clear hx
        go_wp2_with fail
        go_round
        case rel =>
          refine ⟨k + 1, by omega, by go_num, by rw [HS.out.1, if_neg HX.out]; rfl, ?_⟩
          intro j hj
          by_cases hjk : j < k
          · exact HP.out j hjk
          · obtain rfl : j = k := by omega
            rw [HS.out.2]
            exact fun a => HX.out a.1
        case measure => simp [intOf]; omega
    · obtain rfl : k = L.length := by omega
      go_wp2_with fail
      go_ret
      exact ⟨by rw [epR_none HP.out]; rfl, 0, rfl⟩

theorem live_calls {w : World} {r : Nat} {vl : Value} {L : List Nat} (h : RRep w r vl L) (n : Nat) (hn : n ≤ L.length) (hL : L.length ≤ 1000) :
    Calls Try.prog 25 #[.pointer (some ⟨r, 0, none⟩), .int .i64 (n : Int)] w fun e w' => e = .returned (.int .i64 (liveR L n : Int)) ∧ ∃ k, w' = w.drewN k := by
  have HR := Lib.hid h
  clear h
  go_enter Try.func25, Try.ntmps25
  go_wp2_with fail
  refine (count_calls HR.out 2 n hn hL).mono ?_
  rintro e w1 ⟨rfl, q, rfl⟩
  by_cases hz : cnt L 2 n = 0
  · have hb : ((cnt L 2 n : Int) == 0) = true := by simp [hz]
    have HZ := Lib.hid hz
    clear hz
    go_wp2_with fail
    go_ret
    exact ⟨by simp [liveR, HZ.out], _, rfl⟩
  · have hb : ((cnt L 2 n : Int) == 0) = false := by simp; omega
    have HZ := Lib.hid hz
    clear hz
    go_wp2_with fail
    refine (epoch_calls (HR.out.drewN _) (cnt L 2 n) hL).mono ?_
    rintro e w1 ⟨rfl, q, rfl⟩
    go_wp2_with fail
    go_ret
    exact ⟨by simp [liveR, HZ.out], _, rfl⟩
end Go.Proofs.Ytfflidaodnhpbaa.Led
