/- Walks: publicOf, made, open. -/
import Derived.Test.YtfflidaodnhpbaaLedAb
namespace Go.Proofs.Ytfflidaodnhpbaa.Led
open Go Go.RowKit Go.Proofs.Ytfflidaodnhpbaa.Base Go.Proofs.Ytfflidaodnhpbaa.Draw
set_option linter.unusedVariables false
set_option linter.unusedSimpArgs false

def has (O : List Nat) : Nat → Bool := fun i => O.contains i
def isPub (T : List Trm) (O : List Nat) (x i : Nat) : Bool := (at_ T i).1 == 3 && (at_ T i).2.1 == x && O.contains i

/-- The cells of a term, in the world amid. -/
theorem SMid.term {w wr : World} {s : Nat} {T : List Trm} {At : Option Addr} {n cT : Nat} {O : List Nat} (h : SMid w wr s T (.slice At n cT) O) {i : Nat} (hi : i < T.length) :
    ∃ b o, At = some ⟨b, o, none⟩ ∧ b < wr.heap.size ∧ wr.cell? ⟨b, o + i * 3, none⟩ = some (.int .i64 ((at_ T i).1 : Int)) ∧ wr.cell? ⟨b, o + i * 3 + 1, none⟩ = some (.int .i64 ((at_ T i).2.1 : Int)) ∧ wr.cell? ⟨b, o + i * 3 + 2, none⟩ = some (.int .i64 ((at_ T i).2.2 : Int)) := by
  obtain ⟨_, A', c', h1, _, _, h4⟩ := h.sT
  injection h1 with h1
  subst h1
  obtain ⟨b, o, e, hc⟩ := h4 (by omega)
  obtain ⟨s0, s1, s2⟩ := snv_at T i hi
  have lb : b < w.heap.size := cell_lt (hc _ _ s0)
  have eT : at_ T i = T[i] := by simp [at_, hi]
  have hb := h.bel
  rw [eT]
  refine ⟨b, o, e, Nat.lt_of_lt_of_le lb hb.size, (hb.cell (p := ⟨b, o + i * 3, none⟩) lb).trans (hc _ _ s0), (hb.cell (p := ⟨b, o + i * 3 + 1, none⟩) lb).trans (by rw [Nat.add_assoc]; exact hc _ _ s1), (hb.cell (p := ⟨b, o + i * 3 + 2, none⟩) lb).trans (by rw [Nat.add_assoc]; exact hc _ _ s2)⟩

set_option maxRecDepth 100000 in
set_option maxHeartbeats 1000000 in
theorem public_calls {w wo : World} {s : Nat} {T : List Trm} {vT : Value} {O : List Nat} (h : SMid w wo s T vT O) (h0 : 0 < T.length) (x : Nat) :
    Calls Try.prog 65 #[.pointer (some ⟨s, 0, none⟩), .int .i64 (x : Int)] wo fun e w' => e = .returned (.bool (pub T (has O) x)) ∧ Below wo.heap.size wo w' := by
  obtain ⟨g, c, ao, co, At, cT, rfl, q1, q2, q3, q4, q5, q6, c0, c1, c2, hs, hg, hne, hin, hb, hm⟩ := h.cells h0
  have hlen := h.len
  have HH := Lib.hid h
  clear h hin hb hm q3 q4 q5 q6
  unfold maxLen at q2
  generalize hn : T.length = n at *
  have HN := Lib.hid hn
  clear hn
  go_enter Try.func65, Try.ntmps65
  go_wp2_with fail
  go_loopw [12] (fun i wr => ∃ k : Nat, k ≤ n ∧ i = .int .i64 k ∧ Below wo.heap.size wo wr ∧ ∀ j, j < k → isPub T O x j = false) (fun i _ => n - (intOf i).toNat)
  case atStart => exact ⟨0, by omega, rfl, Below.refl _ _, fun j hj => by omega⟩
  case round =>
    obtain ⟨k, hk, rfl, hbk, hpre⟩ := hrel
    have HB := Lib.hid (And.intro hbk hpre)
    have hsz := hbk.size
    have hs' : s < wr.heap.size := by omega
    have hg' : g < wr.heap.size := by omega
    by_cases hlt : k < n
    · have hM := HH.out.below hbk
      have d1 := (hbk.cell (p := ⟨s, 1, none⟩) hs).trans c1
      obtain ⟨b, o, rfl, lb, t0, t1, t2⟩ := hM.term (i := k) (by rw [HN.out]; exact hlt)
      obtain ⟨g', c', ao', co', At', cT', e1, -, -, -, -, -, -, -, e2, -, -, -, -, hin', -, -⟩ := hM.cells (by rw [HN.out]; omega)
      rw [d1] at e2
      injection e2 with e2
      injection e2 with e2 e3 e4
      injection e2 with e2
      injection e2 with e2
      subst e2
      have z0 := (hin' k (by rw [HN.out]; exact hlt)).1
      have hpub : isPub T O x k = ((at_ T k).1 == 3 && (at_ T k).2.1 == x && O.contains k) := rfl
      have HQ := Lib.hid hpub
      clear hM hin' hpub hbk hpre e1 e3 e4 c0 c1 c2
      generalize at_ T k = t at *
      generalize O.contains k = bO at *
      obtain ⟨x1, x2, x3⟩ := t
      by_cases h3 : x1 = 3
      · have g1 : ((x1 : Int) == 3) = true := by simp; omega
        by_cases hx : x2 = x
        · have g2 : ((x2 : Int) == (x : Int)) = true := by simp; omega
          have H3 : Hid (isPub T O x k = bO) := Lib.hid (by rw [HQ.out]; simp [h3, hx])
          clear h3 hx HQ
          cases bO
          · go_wp2_with fail
            go_roundw
            case rel => exact ⟨k + 1, by omega, by go_num, HB.out.1.alloc (by omega) _, fun j hj => (by
              by_cases hjk : j = k
              · subst hjk; exact H3.out
              · exact HB.out.2 j (by omega))⟩
            case measure => simp [intOf]; omega
          · go_wp2_with fail
            go_ret
            refine ⟨?_, HB.out.1.alloc (by omega) _⟩
            have : pub T (has O) x = true := List.any_eq_true.2 ⟨k, by rw [HN.out]; simpa using hlt, H3.out⟩
            rw [this]
            try rfl
        · have g2 : ((x2 : Int) == (x : Int)) = false := by simp; omega
          have H3 : Hid (isPub T O x k = false) := Lib.hid (by rw [HQ.out]; simp [hx])
          clear h3 hx HQ
          go_wp2_with fail
          go_roundw
          case rel => exact ⟨k + 1, by omega, by go_num, HB.out.1.alloc (by omega) _, fun j hj => (by
              by_cases hjk : j = k
              · subst hjk; exact H3.out
              · exact HB.out.2 j (by omega))⟩
          case measure => simp [intOf]; omega
      · have g1 : ((x1 : Int) == 3) = false := by simp; omega
        have H3 : Hid (isPub T O x k = false) := Lib.hid (by rw [HQ.out]; simp [h3])
        clear h3 HQ
        go_wp2_with fail
        go_roundw
        case rel => exact ⟨k + 1, by omega, by go_num, HB.out.1.alloc (by omega) _, fun j hj => (by
              by_cases hjk : j = k
              · subst hjk; exact H3.out
              · exact HB.out.2 j (by omega))⟩
        case measure => simp [intOf]; omega
    · obtain rfl : k = n := by omega
      have hc : decide ((k : Int) < (k : Int)) = false := by simp
      clear hbk hpre
      go_wp2_with fail
      go_ret
      refine ⟨?_, HB.out.1⟩
      have : pub T (has O) x = false := by
        unfold pub
        rw [List.any_eq_false]
        intro i hi
        rw [HN.out] at hi
        have := HB.out.2 i (by simpa using hi)
        unfold isPub at this
        simpa [has] using this
      rw [this]
      try rfl

/-- What made asks of a term. -/
structure Fits (T : List Trm) (t : Trm) : Prop where
  a : t.1 ≠ 0 → t.2.1 < T.length
  b : t.1 ≠ 0 → t.1 ≠ 2 → t.1 ≠ 3 → t.2.2 < T.length
theorem made_d (T : List Trm) (p : Nat → Bool) (x a b : Nat) (h0 : x ≠ 0) (h2 : x ≠ 2) (h3 : x ≠ 3) (h4 : x ≠ 4) : made T p (x, a, b) = (p a && p b) := by simp [made, h0, h2, h3, h4]

abbrev heldM (s g B a b : Nat) (v : Value) (pa pb : Bool) : List Held :=
  [⟨3, [], ⟨s, 1, none⟩, v⟩, ⟨5, [], ⟨B, 1, none⟩, .int .i64 (a : Int)⟩, ⟨7, [], ⟨g, a, none⟩, .bool pa⟩, ⟨11, [], ⟨B, 2, none⟩, .int .i64 (b : Int)⟩, ⟨18, [], ⟨s, 1, none⟩, v⟩, ⟨20, [], ⟨B, 2, none⟩, .int .i64 (b : Int)⟩, ⟨22, [], ⟨g, b, none⟩, .bool pb⟩, ⟨26, [], ⟨B, 1, none⟩, .int .i64 (a : Int)⟩]
theorem SH_all {H : List Held} {W2 : World} (h : ∀ x ∈ H, W2.cell? x.ad = some x.v ∧ x.ad.block < W2.heap.size) : ∀ (w : World) (L : Array Bool), Below W2.heap.size W2 w → SH H L w :=
  fun w L hb x hx _ => (hb.cell (h x hx).2).trans (h x hx).1
set_option maxRecDepth 100000 in
set_option maxHeartbeats 2000000 in
theorem made_calls {w wr : World} {s : Nat} {T : List Trm} {vT : Value} {O : List Nat} (h : SMid w wr s T vT O) (h0 : 0 < T.length) (t : Trm) (hf : Fits T t) :
    Calls Try.prog 49 #[.pointer (some ⟨s, 0, none⟩), snc t] wr fun e w' => e = .returned (.bool (made T (has O) t)) ∧ Below wr.heap.size wr w' := by
  obtain ⟨g, c, ao, co, At, cT, rfl, q1, q2, q3, q4, q5, q6, c0, c1, c2, hs, hg, hne, hin, hb, hm⟩ := h.cells h0
  have hlen := h.len
  have HH := Lib.hid h
  have HI := Lib.hid hin
  have HF := Lib.hid hf
  clear h hin hb hm q3 q4 q5 q6 c0 c2 hf
  unfold maxLen at q2
  obtain ⟨x, a, b⟩ := t
  unfold snc
  by_cases e0 : x = 0
  · subst e0
    rw [made_0]
    go_enter Try.func49, Try.ntmps49
    go_wp2_with fail
    go_ret
    exact ⟨rfl, (Below.refl _ _).alloc (Nat.le_refl _) _⟩
  · have n0 : ((x : Int) == 0) = false := by simp; omega
    have ha := HF.out.a e0
    obtain ⟨za, -⟩ := HI.out a ha
    by_cases e2 : x = 2
    · subst e2
      have em : made T (has O) (2, a, b) = O.contains a := rfl
      rw [em]
      generalize O.contains a = pa at *
      generalize hn : T.length = n at *
      clear em e0
      go_enter Try.func49, Try.ntmps49
      go_wp2_with fail
      go_quiet (fail)
      go_wp2_with fail
      go_ret
      exact ⟨rfl, below_drewN ((Below.refl _ _).alloc (Nat.le_refl _) _) _⟩
    · have n2 : ((x : Int) == 2) = false := by simp; omega
      by_cases e3 : x = 3
      · subst e3
        have em : made T (has O) (3, a, b) = O.contains a := rfl
        rw [em]
        generalize O.contains a = pa at *
        generalize hn : T.length = n at *
        clear em e0
        go_enter Try.func49, Try.ntmps49
        go_wp2_with fail
        go_quiet (fail)
        go_wp2_with fail
        go_ret
        exact ⟨rfl, below_drewN ((Below.refl _ _).alloc (Nat.le_refl _) _) _⟩
      · have n3 : ((x : Int) == 3) = false := by simp; omega
        have hb := HF.out.b e0 e2 e3
        obtain ⟨zb, -⟩ := HI.out b hb
        by_cases e4 : x = 4
        · subst e4
          have em := made_4 T (has O) a b
          have hpA := fun (W : World) (hW : Below wr.heap.size wr W) => public_calls (HH.out.below hW) h0 a
          have hpB := fun (W : World) (hW : Below wr.heap.size wr W) => public_calls (HH.out.below hW) h0 b
          have ea : has O a = O.contains a := rfl
          have eb : has O b = O.contains b := rfl
          rw [em, ea, eb]
          have PA := Lib.hid hpA
          have PB := Lib.hid hpB
          clear em ea eb e0 e2 e3 hpA hpB
          generalize O.contains a = pa at *
          generalize O.contains b = pb at *
          generalize pub T (has O) a = qa at *
          generalize pub T (has O) b = qb at *
          generalize hn : T.length = n at *
          have B1 : Hid (Below wr.heap.size wr (wr.alloc (.cells #[.int .i64 4, .int .i64 (a : Int), .int .i64 (b : Int)] 46))) := Lib.hid ((Below.refl _ _).alloc (Nat.le_refl _) _)
          have k0 : (wr.alloc (.cells #[.int .i64 4, .int .i64 (a : Int), .int .i64 (b : Int)] 46)).cell? ⟨wr.heap.size, 1, none⟩ = some (.int .i64 (a : Int)) := (Blk.new wr _ _).cell 1
          have k1 : (wr.alloc (.cells #[.int .i64 4, .int .i64 (a : Int), .int .i64 (b : Int)] 46)).cell? ⟨wr.heap.size, 2, none⟩ = some (.int .i64 (b : Int)) := (Blk.new wr _ _).cell 2
          have k2 := (B1.out.cell (p := ⟨s, 1, none⟩) hs).trans c1
          have k3 := (B1.out.cell (p := ⟨g, a, none⟩) hg).trans za
          have k4 := (B1.out.cell (p := ⟨g, b, none⟩) hg).trans zb
          have K := Lib.hid (And.intro k0 (And.intro k1 (And.intro k2 (And.intro k3 k4))))
          have hlw : wr.heap.size < (wr.alloc (.cells #[.int .i64 4, .int .i64 (a : Int), .int .i64 (b : Int)] 46)).heap.size := by simp
          clear k0 k1 k2 k3 k4
          have bb : ∀ x : Bool, x = true ∨ x = false := fun x => by cases x <;> simp
          cases pa
          · cases pb
            · skip
              go_enter Try.func49, Try.ntmps49
              go_wp2_with fail
              generalize hW : wr.alloc (.cells #[.int .i64 4, .int .i64 (a : Int), .int .i64 (b : Int)] 46) = W2 at *
              obtain ⟨k0, k1, k2, k3, k4⟩ := K.out
              have hs2 : s < W2.heap.size := Nat.lt_of_lt_of_le hs B1.out.size
              have hg2 : g < W2.heap.size := Nat.lt_of_lt_of_le hg B1.out.size
              have B2 := B1
              have D := below_drewN (Below.refl W2.heap.size W2) 1
              clear hW K
              have hH := SH_all (H := heldM s g wr.heap.size a b (.slice (some ⟨g, 0, none⟩) n c) false false) (W2 := W2) (by intro x hx; simp only [List.mem_cons, List.not_mem_nil, or_false] at hx; rcases hx with rfl | rfl | rfl | rfl | rfl | rfl | rfl | rfl <;> exact ⟨by assumption, by first | exact hlw | exact hs2 | exact hg2⟩)
              have HH2 := Lib.hid hH
              clear hH k0 k1 k2 k3 k4
              refine wp_region_I (heldM s g wr.heap.size a b (.slice (some ⟨g, 0, none⟩) n c) false false) (by kernel_rfl) ?_
              refine wpAnyI_takes (by kernel_rfl) (fun _ _ _ _ _ h => h) [0,1,2,3,4,5,6,7,8,9,10,11] 19 _ _ _ (by kernel_rfl) (HH2.out _ _ D) ?_
              intro K hK
              repeat
                (first
                 | (refine takeW_cons (oi := ?_) (v := ?_) ?_ ?_ ?_ ?_
                    rotate_left 2
                    · (simp only [List.getElem?_toArray, List.getElem?_cons_zero, List.getElem?_cons_succ]; rfl)
                    · rfl
                    · (intro w' hw'; (try (have hc : w'.cell? _ = some _ := hw'; clear hw')); go_simp; (try with_reducible rfl))
                    try simp only [Act.put, List.setIfInBounds_toArray, List.set_cons_zero, List.set_cons_succ])
                 | (refine takeW_skip (oi := ?_) ?_ ?_ ?_
                    rotate_left 1
                    · (simp only [List.getElem?_toArray, List.getElem?_cons_zero, List.getElem?_cons_succ]; rfl)
                    · rfl
                    try simp only [Act.put, List.setIfInBounds_toArray, List.set_cons_zero, List.set_cons_succ]))
              refine takeW_nil (hK.out _ ?_)
              clear hK K
              refine wpAnyI_run (i := 12) (o := ?_) (by kernel_rfl) ?_ (fun K hK => ?_)
              rotate_left 1
              · (simp only [List.getElem?_toArray, List.getElem?_cons_zero, List.getElem?_cons_succ]; rfl)
              go_wp2_with fail
              refine hK.out _ _ (HH2.out _ _ D) ?_
              clear hK K
              refine wpAnyI_takes (by kernel_rfl) (fun _ _ _ _ _ h => h) [13,14,15,16,17,18,19,20,21,22,23,24,25,26] 4 _ _ _ (by kernel_rfl) (HH2.out _ _ D) ?_
              intro K hK
              repeat
                (first
                 | (refine takeW_cons (oi := ?_) (v := ?_) ?_ ?_ ?_ ?_
                    rotate_left 2
                    · (simp only [List.getElem?_toArray, List.getElem?_cons_zero, List.getElem?_cons_succ]; rfl)
                    · rfl
                    · (intro w' hw'; (try (have hc : w'.cell? _ = some _ := hw'; clear hw')); go_simp; (try with_reducible rfl))
                    try simp only [Act.put, List.setIfInBounds_toArray, List.set_cons_zero, List.set_cons_succ])
                 | (refine takeW_skip (oi := ?_) ?_ ?_ ?_
                    rotate_left 1
                    · (simp only [List.getElem?_toArray, List.getElem?_cons_zero, List.getElem?_cons_succ]; rfl)
                    · rfl
                    try simp only [Act.put, List.setIfInBounds_toArray, List.set_cons_zero, List.set_cons_succ]))
              refine takeW_nil (hK.out _ ?_)
              clear hK K
              refine wpAnyI_run (i := 27) (o := ?_) (by kernel_rfl) ?_ (fun K hK => ?_)
              rotate_left 1
              · (simp only [List.getElem?_toArray, List.getElem?_cons_zero, List.getElem?_cons_succ]; rfl)
              go_wp2_with fail
              refine hK.out _ _ (HH2.out _ _ D) ?_
              clear hK K
              refine wpAnyI_takes (by kernel_rfl) (fun _ _ _ _ _ h => h) [28,29,30] 0 _ _ _ (by kernel_rfl) (HH2.out _ _ D) ?_
              intro K hK
              repeat
                (first
                 | (refine takeW_cons (oi := ?_) (v := ?_) ?_ ?_ ?_ ?_
                    rotate_left 2
                    · (simp only [List.getElem?_toArray, List.getElem?_cons_zero, List.getElem?_cons_succ]; rfl)
                    · rfl
                    · (intro w' hw'; (try (have hc : w'.cell? _ = some _ := hw'; clear hw')); go_simp; (try with_reducible rfl))
                    try simp only [Act.put, List.setIfInBounds_toArray, List.set_cons_zero, List.set_cons_succ])
                 | (refine takeW_skip (oi := ?_) ?_ ?_ ?_
                    rotate_left 1
                    · (simp only [List.getElem?_toArray, List.getElem?_cons_zero, List.getElem?_cons_succ]; rfl)
                    · rfl
                    try simp only [Act.put, List.setIfInBounds_toArray, List.set_cons_zero, List.set_cons_succ]))
              refine takeW_nil (hK.out _ ?_)
              clear hK K
              refine wpAnyI_done (by kernel_rfl) ?_ _
              go_wp2_with fail
              go_ret
              exact ⟨rfl, B2.out.trans (D.mono B2.out.size)⟩
            · skip
              go_enter Try.func49, Try.ntmps49
              go_wp2_with fail
              generalize hW : wr.alloc (.cells #[.int .i64 4, .int .i64 (a : Int), .int .i64 (b : Int)] 46) = W2 at *
              obtain ⟨k0, k1, k2, k3, k4⟩ := K.out
              have hs2 : s < W2.heap.size := Nat.lt_of_lt_of_le hs B1.out.size
              have hg2 : g < W2.heap.size := Nat.lt_of_lt_of_le hg B1.out.size
              have B2 := B1
              have D := below_drewN (Below.refl W2.heap.size W2) 1
              clear hW K
              have hH := SH_all (H := heldM s g wr.heap.size a b (.slice (some ⟨g, 0, none⟩) n c) false true) (W2 := W2) (by intro x hx; simp only [List.mem_cons, List.not_mem_nil, or_false] at hx; rcases hx with rfl | rfl | rfl | rfl | rfl | rfl | rfl | rfl <;> exact ⟨by assumption, by first | exact hlw | exact hs2 | exact hg2⟩)
              have HH2 := Lib.hid hH
              clear hH k0 k1 k2 k3 k4
              refine wp_region_I (heldM s g wr.heap.size a b (.slice (some ⟨g, 0, none⟩) n c) false true) (by kernel_rfl) ?_
              refine wpAnyI_takes (by kernel_rfl) (fun _ _ _ _ _ h => h) [0,1,2,3,4,5,6,7,8,9,10,11] 19 _ _ _ (by kernel_rfl) (HH2.out _ _ D) ?_
              intro K hK
              repeat
                (first
                 | (refine takeW_cons (oi := ?_) (v := ?_) ?_ ?_ ?_ ?_
                    rotate_left 2
                    · (simp only [List.getElem?_toArray, List.getElem?_cons_zero, List.getElem?_cons_succ]; rfl)
                    · rfl
                    · (intro w' hw'; (try (have hc : w'.cell? _ = some _ := hw'; clear hw')); go_simp; (try with_reducible rfl))
                    try simp only [Act.put, List.setIfInBounds_toArray, List.set_cons_zero, List.set_cons_succ])
                 | (refine takeW_skip (oi := ?_) ?_ ?_ ?_
                    rotate_left 1
                    · (simp only [List.getElem?_toArray, List.getElem?_cons_zero, List.getElem?_cons_succ]; rfl)
                    · rfl
                    try simp only [Act.put, List.setIfInBounds_toArray, List.set_cons_zero, List.set_cons_succ]))
              refine takeW_nil (hK.out _ ?_)
              clear hK K
              refine wpAnyI_run (i := 12) (o := ?_) (by kernel_rfl) ?_ (fun K hK => ?_)
              rotate_left 1
              · (simp only [List.getElem?_toArray, List.getElem?_cons_zero, List.getElem?_cons_succ]; rfl)
              go_wp2_with fail
              refine hK.out _ _ (HH2.out _ _ D) ?_
              clear hK K
              refine wpAnyI_takes (by kernel_rfl) (fun _ _ _ _ _ h => h) [13,14,15,16,17,18,19,20,21,22,23,24,25,26] 4 _ _ _ (by kernel_rfl) (HH2.out _ _ D) ?_
              intro K hK
              repeat
                (first
                 | (refine takeW_cons (oi := ?_) (v := ?_) ?_ ?_ ?_ ?_
                    rotate_left 2
                    · (simp only [List.getElem?_toArray, List.getElem?_cons_zero, List.getElem?_cons_succ]; rfl)
                    · rfl
                    · (intro w' hw'; (try (have hc : w'.cell? _ = some _ := hw'; clear hw')); go_simp; (try with_reducible rfl))
                    try simp only [Act.put, List.setIfInBounds_toArray, List.set_cons_zero, List.set_cons_succ])
                 | (refine takeW_skip (oi := ?_) ?_ ?_ ?_
                    rotate_left 1
                    · (simp only [List.getElem?_toArray, List.getElem?_cons_zero, List.getElem?_cons_succ]; rfl)
                    · rfl
                    try simp only [Act.put, List.setIfInBounds_toArray, List.set_cons_zero, List.set_cons_succ]))
              refine takeW_nil (hK.out _ ?_)
              clear hK K
              refine wpAnyI_run (i := 27) (o := ?_) (by kernel_rfl) ?_ (fun K hK => ?_)
              rotate_left 1
              · (simp only [List.getElem?_toArray, List.getElem?_cons_zero, List.getElem?_cons_succ]; rfl)
              go_wp2_with (go_at_call 65; refine (PA.out _ (below_drewN B2.out 1)).mono ?_; rintro e w4 ⟨rfl, b4⟩; replace b4 := D.trans b4)
              refine hK.out _ _ (HH2.out _ _ b4) ?_
              clear hK K
              refine wpAnyI_takes (by kernel_rfl) (fun _ _ _ _ _ h => h) [28,29,30] 0 _ _ _ (by kernel_rfl) (HH2.out _ _ b4) ?_
              intro K hK
              repeat
                (first
                 | (refine takeW_cons (oi := ?_) (v := ?_) ?_ ?_ ?_ ?_
                    rotate_left 2
                    · (simp only [List.getElem?_toArray, List.getElem?_cons_zero, List.getElem?_cons_succ]; rfl)
                    · rfl
                    · (intro w' hw'; (try (have hc : w'.cell? _ = some _ := hw'; clear hw')); go_simp; (try with_reducible rfl))
                    try simp only [Act.put, List.setIfInBounds_toArray, List.set_cons_zero, List.set_cons_succ])
                 | (refine takeW_skip (oi := ?_) ?_ ?_ ?_
                    rotate_left 1
                    · (simp only [List.getElem?_toArray, List.getElem?_cons_zero, List.getElem?_cons_succ]; rfl)
                    · rfl
                    try simp only [Act.put, List.setIfInBounds_toArray, List.set_cons_zero, List.set_cons_succ]))
              refine takeW_nil (hK.out _ ?_)
              clear hK K
              refine wpAnyI_done (by kernel_rfl) ?_ _
              go_wp2_with fail
              go_ret
              exact ⟨rfl, B2.out.trans (b4.mono B2.out.size)⟩
          · cases qb
            · cases pb
              · skip
                go_enter Try.func49, Try.ntmps49
                go_wp2_with fail
                generalize hW : wr.alloc (.cells #[.int .i64 4, .int .i64 (a : Int), .int .i64 (b : Int)] 46) = W2 at *
                obtain ⟨k0, k1, k2, k3, k4⟩ := K.out
                have hs2 : s < W2.heap.size := Nat.lt_of_lt_of_le hs B1.out.size
                have hg2 : g < W2.heap.size := Nat.lt_of_lt_of_le hg B1.out.size
                have B2 := B1
                have D := below_drewN (Below.refl W2.heap.size W2) 1
                clear hW K
                have hH := SH_all (H := heldM s g wr.heap.size a b (.slice (some ⟨g, 0, none⟩) n c) true false) (W2 := W2) (by intro x hx; simp only [List.mem_cons, List.not_mem_nil, or_false] at hx; rcases hx with rfl | rfl | rfl | rfl | rfl | rfl | rfl | rfl <;> exact ⟨by assumption, by first | exact hlw | exact hs2 | exact hg2⟩)
                have HH2 := Lib.hid hH
                clear hH k0 k1 k2 k3 k4
                refine wp_region_I (heldM s g wr.heap.size a b (.slice (some ⟨g, 0, none⟩) n c) true false) (by kernel_rfl) ?_
                refine wpAnyI_takes (by kernel_rfl) (fun _ _ _ _ _ h => h) [0,1,2,3,4,5,6,7,8,9,10,11] 19 _ _ _ (by kernel_rfl) (HH2.out _ _ D) ?_
                intro K hK
                repeat
                  (first
                   | (refine takeW_cons (oi := ?_) (v := ?_) ?_ ?_ ?_ ?_
                      rotate_left 2
                      · (simp only [List.getElem?_toArray, List.getElem?_cons_zero, List.getElem?_cons_succ]; rfl)
                      · rfl
                      · (intro w' hw'; (try (have hc : w'.cell? _ = some _ := hw'; clear hw')); go_simp; (try with_reducible rfl))
                      try simp only [Act.put, List.setIfInBounds_toArray, List.set_cons_zero, List.set_cons_succ])
                   | (refine takeW_skip (oi := ?_) ?_ ?_ ?_
                      rotate_left 1
                      · (simp only [List.getElem?_toArray, List.getElem?_cons_zero, List.getElem?_cons_succ]; rfl)
                      · rfl
                      try simp only [Act.put, List.setIfInBounds_toArray, List.set_cons_zero, List.set_cons_succ]))
                refine takeW_nil (hK.out _ ?_)
                clear hK K
                refine wpAnyI_run (i := 12) (o := ?_) (by kernel_rfl) ?_ (fun K hK => ?_)
                rotate_left 1
                · (simp only [List.getElem?_toArray, List.getElem?_cons_zero, List.getElem?_cons_succ]; rfl)
                go_wp2_with (go_at_call 65; refine (PB.out _ (below_drewN B2.out 1)).mono ?_; rintro e w3 ⟨rfl, b3⟩; replace b3 := D.trans b3)
                refine hK.out _ _ (HH2.out _ _ b3) ?_
                clear hK K
                refine wpAnyI_takes (by kernel_rfl) (fun _ _ _ _ _ h => h) [13,14,15,16,17,18,19,20,21,22,23,24,25,26] 4 _ _ _ (by kernel_rfl) (HH2.out _ _ b3) ?_
                intro K hK
                repeat
                  (first
                   | (refine takeW_cons (oi := ?_) (v := ?_) ?_ ?_ ?_ ?_
                      rotate_left 2
                      · (simp only [List.getElem?_toArray, List.getElem?_cons_zero, List.getElem?_cons_succ]; rfl)
                      · rfl
                      · (intro w' hw'; (try (have hc : w'.cell? _ = some _ := hw'; clear hw')); go_simp; (try with_reducible rfl))
                      try simp only [Act.put, List.setIfInBounds_toArray, List.set_cons_zero, List.set_cons_succ])
                   | (refine takeW_skip (oi := ?_) ?_ ?_ ?_
                      rotate_left 1
                      · (simp only [List.getElem?_toArray, List.getElem?_cons_zero, List.getElem?_cons_succ]; rfl)
                      · rfl
                      try simp only [Act.put, List.setIfInBounds_toArray, List.set_cons_zero, List.set_cons_succ]))
                refine takeW_nil (hK.out _ ?_)
                clear hK K
                refine wpAnyI_run (i := 27) (o := ?_) (by kernel_rfl) ?_ (fun K hK => ?_)
                rotate_left 1
                · (simp only [List.getElem?_toArray, List.getElem?_cons_zero, List.getElem?_cons_succ]; rfl)
                go_wp2_with fail
                refine hK.out _ _ (HH2.out _ _ b3) ?_
                clear hK K
                refine wpAnyI_takes (by kernel_rfl) (fun _ _ _ _ _ h => h) [28,29,30] 0 _ _ _ (by kernel_rfl) (HH2.out _ _ b3) ?_
                intro K hK
                repeat
                  (first
                   | (refine takeW_cons (oi := ?_) (v := ?_) ?_ ?_ ?_ ?_
                      rotate_left 2
                      · (simp only [List.getElem?_toArray, List.getElem?_cons_zero, List.getElem?_cons_succ]; rfl)
                      · rfl
                      · (intro w' hw'; (try (have hc : w'.cell? _ = some _ := hw'; clear hw')); go_simp; (try with_reducible rfl))
                      try simp only [Act.put, List.setIfInBounds_toArray, List.set_cons_zero, List.set_cons_succ])
                   | (refine takeW_skip (oi := ?_) ?_ ?_ ?_
                      rotate_left 1
                      · (simp only [List.getElem?_toArray, List.getElem?_cons_zero, List.getElem?_cons_succ]; rfl)
                      · rfl
                      try simp only [Act.put, List.setIfInBounds_toArray, List.set_cons_zero, List.set_cons_succ]))
                refine takeW_nil (hK.out _ ?_)
                clear hK K
                refine wpAnyI_done (by kernel_rfl) ?_ _
                go_wp2_with fail
                go_ret
                exact ⟨rfl, B2.out.trans (b3.mono B2.out.size)⟩
              · skip
                go_enter Try.func49, Try.ntmps49
                go_wp2_with fail
                generalize hW : wr.alloc (.cells #[.int .i64 4, .int .i64 (a : Int), .int .i64 (b : Int)] 46) = W2 at *
                obtain ⟨k0, k1, k2, k3, k4⟩ := K.out
                have hs2 : s < W2.heap.size := Nat.lt_of_lt_of_le hs B1.out.size
                have hg2 : g < W2.heap.size := Nat.lt_of_lt_of_le hg B1.out.size
                have B2 := B1
                have D := below_drewN (Below.refl W2.heap.size W2) 1
                clear hW K
                have hH := SH_all (H := heldM s g wr.heap.size a b (.slice (some ⟨g, 0, none⟩) n c) true true) (W2 := W2) (by intro x hx; simp only [List.mem_cons, List.not_mem_nil, or_false] at hx; rcases hx with rfl | rfl | rfl | rfl | rfl | rfl | rfl | rfl <;> exact ⟨by assumption, by first | exact hlw | exact hs2 | exact hg2⟩)
                have HH2 := Lib.hid hH
                clear hH k0 k1 k2 k3 k4
                refine wp_region_I (heldM s g wr.heap.size a b (.slice (some ⟨g, 0, none⟩) n c) true true) (by kernel_rfl) ?_
                refine wpAnyI_takes (by kernel_rfl) (fun _ _ _ _ _ h => h) [0,1,2,3,4,5,6,7,8,9,10,11] 19 _ _ _ (by kernel_rfl) (HH2.out _ _ D) ?_
                intro K hK
                repeat
                  (first
                   | (refine takeW_cons (oi := ?_) (v := ?_) ?_ ?_ ?_ ?_
                      rotate_left 2
                      · (simp only [List.getElem?_toArray, List.getElem?_cons_zero, List.getElem?_cons_succ]; rfl)
                      · rfl
                      · (intro w' hw'; (try (have hc : w'.cell? _ = some _ := hw'; clear hw')); go_simp; (try with_reducible rfl))
                      try simp only [Act.put, List.setIfInBounds_toArray, List.set_cons_zero, List.set_cons_succ])
                   | (refine takeW_skip (oi := ?_) ?_ ?_ ?_
                      rotate_left 1
                      · (simp only [List.getElem?_toArray, List.getElem?_cons_zero, List.getElem?_cons_succ]; rfl)
                      · rfl
                      try simp only [Act.put, List.setIfInBounds_toArray, List.set_cons_zero, List.set_cons_succ]))
                refine takeW_nil (hK.out _ ?_)
                clear hK K
                refine wpAnyI_run (i := 12) (o := ?_) (by kernel_rfl) ?_ (fun K hK => ?_)
                rotate_left 1
                · (simp only [List.getElem?_toArray, List.getElem?_cons_zero, List.getElem?_cons_succ]; rfl)
                go_wp2_with (go_at_call 65; refine (PB.out _ (below_drewN B2.out 1)).mono ?_; rintro e w3 ⟨rfl, b3⟩; replace b3 := D.trans b3)
                refine hK.out _ _ (HH2.out _ _ b3) ?_
                clear hK K
                refine wpAnyI_takes (by kernel_rfl) (fun _ _ _ _ _ h => h) [13,14,15,16,17,18,19,20,21,22,23,24,25,26] 4 _ _ _ (by kernel_rfl) (HH2.out _ _ b3) ?_
                intro K hK
                repeat
                  (first
                   | (refine takeW_cons (oi := ?_) (v := ?_) ?_ ?_ ?_ ?_
                      rotate_left 2
                      · (simp only [List.getElem?_toArray, List.getElem?_cons_zero, List.getElem?_cons_succ]; rfl)
                      · rfl
                      · (intro w' hw'; (try (have hc : w'.cell? _ = some _ := hw'; clear hw')); go_simp; (try with_reducible rfl))
                      try simp only [Act.put, List.setIfInBounds_toArray, List.set_cons_zero, List.set_cons_succ])
                   | (refine takeW_skip (oi := ?_) ?_ ?_ ?_
                      rotate_left 1
                      · (simp only [List.getElem?_toArray, List.getElem?_cons_zero, List.getElem?_cons_succ]; rfl)
                      · rfl
                      try simp only [Act.put, List.setIfInBounds_toArray, List.set_cons_zero, List.set_cons_succ]))
                refine takeW_nil (hK.out _ ?_)
                clear hK K
                refine wpAnyI_run (i := 27) (o := ?_) (by kernel_rfl) ?_ (fun K hK => ?_)
                rotate_left 1
                · (simp only [List.getElem?_toArray, List.getElem?_cons_zero, List.getElem?_cons_succ]; rfl)
                go_wp2_with (go_at_call 65; refine (PA.out _ (B2.out.trans (b3.mono B2.out.size))).mono ?_; rintro e w4 ⟨rfl, b4⟩)
                refine hK.out _ _ (HH2.out _ _ (b3.trans (b4.mono b3.size))) ?_
                clear hK K
                refine wpAnyI_takes (by kernel_rfl) (fun _ _ _ _ _ h => h) [28,29,30] 0 _ _ _ (by kernel_rfl) (HH2.out _ _ (b3.trans (b4.mono b3.size))) ?_
                intro K hK
                repeat
                  (first
                   | (refine takeW_cons (oi := ?_) (v := ?_) ?_ ?_ ?_ ?_
                      rotate_left 2
                      · (simp only [List.getElem?_toArray, List.getElem?_cons_zero, List.getElem?_cons_succ]; rfl)
                      · rfl
                      · (intro w' hw'; (try (have hc : w'.cell? _ = some _ := hw'; clear hw')); go_simp; (try with_reducible rfl))
                      try simp only [Act.put, List.setIfInBounds_toArray, List.set_cons_zero, List.set_cons_succ])
                   | (refine takeW_skip (oi := ?_) ?_ ?_ ?_
                      rotate_left 1
                      · (simp only [List.getElem?_toArray, List.getElem?_cons_zero, List.getElem?_cons_succ]; rfl)
                      · rfl
                      try simp only [Act.put, List.setIfInBounds_toArray, List.set_cons_zero, List.set_cons_succ]))
                refine takeW_nil (hK.out _ ?_)
                clear hK K
                refine wpAnyI_done (by kernel_rfl) ?_ _
                go_wp2_with fail
                go_ret
                exact ⟨rfl, B2.out.trans ((b3.trans (b4.mono b3.size)).mono B2.out.size)⟩
            · skip
              go_enter Try.func49, Try.ntmps49
              go_wp2_with fail
              generalize hW : wr.alloc (.cells #[.int .i64 4, .int .i64 (a : Int), .int .i64 (b : Int)] 46) = W2 at *
              obtain ⟨k0, k1, k2, k3, k4⟩ := K.out
              have hs2 : s < W2.heap.size := Nat.lt_of_lt_of_le hs B1.out.size
              have hg2 : g < W2.heap.size := Nat.lt_of_lt_of_le hg B1.out.size
              have B2 := B1
              have D := below_drewN (Below.refl W2.heap.size W2) 1
              clear hW K
              have hH := SH_all (H := heldM s g wr.heap.size a b (.slice (some ⟨g, 0, none⟩) n c) true pb) (W2 := W2) (by intro x hx; simp only [List.mem_cons, List.not_mem_nil, or_false] at hx; rcases hx with rfl | rfl | rfl | rfl | rfl | rfl | rfl | rfl <;> exact ⟨by assumption, by first | exact hlw | exact hs2 | exact hg2⟩)
              have HH2 := Lib.hid hH
              clear hH k0 k1 k2 k3 k4
              refine wp_region_I (heldM s g wr.heap.size a b (.slice (some ⟨g, 0, none⟩) n c) true pb) (by kernel_rfl) ?_
              refine wpAnyI_takes (by kernel_rfl) (fun _ _ _ _ _ h => h) [0,1,2,3,4,5,6,7,8,9,10,11] 19 _ _ _ (by kernel_rfl) (HH2.out _ _ D) ?_
              intro K hK
              repeat
                (first
                 | (refine takeW_cons (oi := ?_) (v := ?_) ?_ ?_ ?_ ?_
                    rotate_left 2
                    · (simp only [List.getElem?_toArray, List.getElem?_cons_zero, List.getElem?_cons_succ]; rfl)
                    · rfl
                    · (intro w' hw'; (try (have hc : w'.cell? _ = some _ := hw'; clear hw')); go_simp; (try with_reducible rfl))
                    try simp only [Act.put, List.setIfInBounds_toArray, List.set_cons_zero, List.set_cons_succ])
                 | (refine takeW_skip (oi := ?_) ?_ ?_ ?_
                    rotate_left 1
                    · (simp only [List.getElem?_toArray, List.getElem?_cons_zero, List.getElem?_cons_succ]; rfl)
                    · rfl
                    try simp only [Act.put, List.setIfInBounds_toArray, List.set_cons_zero, List.set_cons_succ]))
              refine takeW_nil (hK.out _ ?_)
              clear hK K
              refine wpAnyI_run (i := 12) (o := ?_) (by kernel_rfl) ?_ (fun K hK => ?_)
              rotate_left 1
              · (simp only [List.getElem?_toArray, List.getElem?_cons_zero, List.getElem?_cons_succ]; rfl)
              go_wp2_with (go_at_call 65; refine (PB.out _ (below_drewN B2.out 1)).mono ?_; rintro e w3 ⟨rfl, b3⟩; replace b3 := D.trans b3)
              refine hK.out _ _ (HH2.out _ _ b3) ?_
              clear hK K
              refine wpAnyI_takes (by kernel_rfl) (fun _ _ _ _ _ h => h) [13,14,15,16,17,18,19,20,21,22,23,24,25,26] 4 _ _ _ (by kernel_rfl) (HH2.out _ _ b3) ?_
              intro K hK
              repeat
                (first
                 | (refine takeW_cons (oi := ?_) (v := ?_) ?_ ?_ ?_ ?_
                    rotate_left 2
                    · (simp only [List.getElem?_toArray, List.getElem?_cons_zero, List.getElem?_cons_succ]; rfl)
                    · rfl
                    · (intro w' hw'; (try (have hc : w'.cell? _ = some _ := hw'; clear hw')); go_simp; (try with_reducible rfl))
                    try simp only [Act.put, List.setIfInBounds_toArray, List.set_cons_zero, List.set_cons_succ])
                 | (refine takeW_skip (oi := ?_) ?_ ?_ ?_
                    rotate_left 1
                    · (simp only [List.getElem?_toArray, List.getElem?_cons_zero, List.getElem?_cons_succ]; rfl)
                    · rfl
                    try simp only [Act.put, List.setIfInBounds_toArray, List.set_cons_zero, List.set_cons_succ]))
              refine takeW_nil (hK.out _ ?_)
              clear hK K
              refine wpAnyI_run (i := 27) (o := ?_) (by kernel_rfl) ?_ (fun K hK => ?_)
              rotate_left 1
              · (simp only [List.getElem?_toArray, List.getElem?_cons_zero, List.getElem?_cons_succ]; rfl)
              go_wp2_with fail
              refine hK.out _ _ (HH2.out _ _ b3) ?_
              clear hK K
              refine wpAnyI_takes (by kernel_rfl) (fun _ _ _ _ _ h => h) [28,29,30] 0 _ _ _ (by kernel_rfl) (HH2.out _ _ b3) ?_
              intro K hK
              repeat
                (first
                 | (refine takeW_cons (oi := ?_) (v := ?_) ?_ ?_ ?_ ?_
                    rotate_left 2
                    · (simp only [List.getElem?_toArray, List.getElem?_cons_zero, List.getElem?_cons_succ]; rfl)
                    · rfl
                    · (intro w' hw'; (try (have hc : w'.cell? _ = some _ := hw'; clear hw')); go_simp; (try with_reducible rfl))
                    try simp only [Act.put, List.setIfInBounds_toArray, List.set_cons_zero, List.set_cons_succ])
                 | (refine takeW_skip (oi := ?_) ?_ ?_ ?_
                    rotate_left 1
                    · (simp only [List.getElem?_toArray, List.getElem?_cons_zero, List.getElem?_cons_succ]; rfl)
                    · rfl
                    try simp only [Act.put, List.setIfInBounds_toArray, List.set_cons_zero, List.set_cons_succ]))
              refine takeW_nil (hK.out _ ?_)
              clear hK K
              refine wpAnyI_done (by kernel_rfl) ?_ _
              go_wp2_with fail
              go_ret
              exact ⟨rfl, B2.out.trans (b3.mono B2.out.size)⟩
        · have n4 : ((x : Int) == 4) = false := by simp; omega
          have em : made T (has O) (x, a, b) = (O.contains a && O.contains b) := made_d _ _ _ _ _ e0 e2 e3 e4
          rw [em]
          generalize O.contains a = pa at *
          generalize O.contains b = pb at *
          generalize hn : T.length = n at *
          clear em e0 e2 e3 e4
          cases pa
          · skip
            go_enter Try.func49, Try.ntmps49
            go_wp2_with fail
            go_quiet (fail)
            go_wp2_with fail
            go_ret
            exact ⟨rfl, below_drewN ((Below.refl _ _).alloc (Nat.le_refl _) _) _⟩
          · skip
            go_enter Try.func49, Try.ntmps49
            go_wp2_with fail
            go_quiet (fail)
            go_wp2_with fail
            go_ret
            exact ⟨rfl, below_drewN ((Below.refl _ _).alloc (Nat.le_refl _) _) _⟩
end Go.Proofs.Ytfflidaodnhpbaa.Led
