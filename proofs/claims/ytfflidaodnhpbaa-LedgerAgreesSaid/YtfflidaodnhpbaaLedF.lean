/- Walks: a line in terms: a frame. -/
import Derived.Test.YtfflidaodnhpbaaLedN
namespace Go.Proofs.Ytfflidaodnhpbaa.Led
open Go Go.RowKit Go.Proofs.Ytfflidaodnhpbaa.Base Go.Proofs.Ytfflidaodnhpbaa.Draw
set_option linter.unusedVariables false
set_option linter.unusedSimpArgs false

structure Cum (w0 w : World) (t : Nat) (vT0 : Value) (st : RSt) (vT vk vy vp : Value) (more : List (Value × Row)) : Prop where
  rep : RunRep w t st vT vk vy vp more
  chg : Chg (fun k => k = t ∨ vT0.ownBlock = some k) w0 w
  fr : Fresh w0 vT0 vT

theorem add_cum {w0 w : World} {t : Nat} {vT0 : Value} {st : RSt} {vT vk vy vp : Value} {more : List (Value × Row)} (h : Cum w0 w t vT0 st vT vk vy vp more) (hm : ∀ p ∈ more, p.2.e = 3) (hl : st.T.length ≤ 10000) (x y z : Int) (a b c : Nat) (hx : x = (a : Int)) (hy : y = (b : Int)) (hz : z = (c : Int)) :
    Calls Try.prog 44 #[.pointer (some ⟨t, 0, none⟩), .int .i64 x, .int .i64 y, .int .i64 z] w fun e w' => e = .returned (.int .i64 (st.T.length : Int)) ∧ ∃ vT', Cum w0 w' t vT0 { st with T := st.T ++ [(a, b, c)] } vT' vk vy vp more :=
  (add_calls h.rep hm hl x y z a b c hx hy hz).mono fun e w' ⟨he, vT', h1, h2, h3⟩ => ⟨he, vT', h1, h.chg.trans h2 (fun i hi => by
    rcases hi with rfl | hi
    · exact .inl (.inl rfl)
    · exact (h.fr i hi).imp .inr id), h.fr.trans h3 h.chg.size⟩

/-- The terms of a frame, behind n terms. -/
def frameT (n chain epoch : Nat) : List (Nat × Nat × Nat) :=
  [(0, 0, 0), (3, n, 0), (0, 0, 0), (0, 0, 0), (4, n, chain), (4, n, epoch), (1, n + 4, n + 5), (2, n + 6, 0), (1, n + 2, n + 3), (5, n + 7, n + 8)]


set_option maxRecDepth 100000 in
set_option maxHeartbeats 4000000 in
theorem frame_calls {w : World} {t : Nat} {st : RSt} {vT vk vy vp : Value} {more : List (Value × Row)} (h : RunRep w t st vT vk vy vp more) (hm : ∀ p ∈ more, p.2.e = 3) (hl : st.T.length ≤ 8000) (hk : st.kn.length ≤ 8000)
    (hks : st.ks.length ≤ 8000) (hps : st.ps.length ≤ 8000) (chain epoch : Nat) :
    Calls Try.prog 28 #[.pointer (some ⟨t, 0, none⟩), .int .i64 (chain : Int), .int .i64 (epoch : Int)] w fun e w' => e = .returned (.int .i64 ((st.T.length + 2 : Nat) : Int)) ∧
      ∃ vT' vk' vy' vp', RunRep w' t { T := st.T ++ frameT st.T.length chain epoch, kn := st.kn ++ [st.T.length + 1, st.T.length + 9], ks := st.ks ++ [st.T.length + 7], ps := st.ps ++ [st.T.length + 3] } vT' vk' vy' vp' more ∧
        Chg (fun k => k = t ∨ vT.ownBlock = some k ∨ vk.ownBlock = some k ∨ vy.ownBlock = some k ∨ vp.ownBlock = some k) w w' ∧ Fresh w vT vT' ∧ Fresh w vk vk' ∧ Fresh w vy vy' ∧ Fresh w vp vp' := by
  have HR := Lib.hid h
  clear h
  go_enter Try.func28, Try.ntmps28
  go_wp2_with fail
  refine (secret_calls HR.out hm (by omega) (by omega)).mono ?_
  rintro e w0 ⟨rfl, vT0, vk0, h0, hc0, hfT0, hfk0⟩
  have H0 := Lib.hid (And.intro h0 (And.intro hc0 (And.intro hfT0 hfk0)))
  have C0 := Lib.hid (Cum.mk (w0 := w0) h0 (Chg.refl _ _) (Fresh.refl _ _))
  clear h0 hc0 hfT0 hfk0
  generalize hn : st.T.length = n at *
  have HN := Lib.hid hn
  clear hn
  go_wp2_with fail
  refine (add_cum C0.out hm (by simp [HN.out]; omega) 0 0 0 0 0 0 rfl rfl rfl).mono ?_
  rintro e w1 ⟨rfl, vT1, c1⟩
  have C1 := Lib.hid c1
  clear c1
  go_wp2_with fail
  refine (add_cum C1.out hm (by simp [HN.out]; omega) 0 0 0 0 0 0 rfl rfl rfl).mono ?_
  rintro e w2 ⟨rfl, vT2, c2⟩
  have C2 := Lib.hid c2
  clear c2
  go_wp2_with fail
  refine (add_cum C2.out hm (by simp [HN.out]; omega) 4 _ _ 4 n chain rfl rfl rfl).mono ?_
  rintro e w3 ⟨rfl, vT3, c3⟩
  have C3 := Lib.hid c3
  clear c3
  go_wp2_with fail
  refine (add_cum C3.out hm (by simp [HN.out]; omega) 4 _ _ 4 n epoch rfl rfl rfl).mono ?_
  rintro e w4 ⟨rfl, vT4, c4⟩
  have C4 := Lib.hid c4
  clear c4
  go_wp2_with fail
  refine (add_cum C4.out hm (by simp [HN.out]; omega) 1 _ _ 1 (n + 4) (n + 5) rfl (by simp [HN.out]) (by simp [HN.out])).mono ?_
  rintro e w5 ⟨rfl, vT5, c5⟩
  have C5 := Lib.hid c5
  clear c5
  go_wp2_with fail
  refine (add_cum C5.out hm (by simp [HN.out]; omega) 2 _ 0 2 (n + 6) 0 rfl (by simp [HN.out]) rfl).mono ?_
  rintro e w6 ⟨rfl, vT6, c6⟩
  have C6 := Lib.hid c6
  clear c6
  go_wp2_with fail
  refine (add_cum C6.out hm (by simp [HN.out]; omega) 1 _ _ 1 (n + 2) (n + 3) rfl (by simp [HN.out]) (by simp [HN.out])).mono ?_
  rintro e w7 ⟨rfl, vT7, c7⟩
  have C7 := Lib.hid c7
  clear c7
  go_wp2_with fail
  refine (add_cum C7.out hm (by simp [HN.out]; omega) 5 _ _ 5 (n + 7) (n + 8) rfl (by simp [HN.out]) (by simp [HN.out])).mono ?_
  rintro e w8 ⟨rfl, vT8, c8⟩
  have k8 := c8.rep.blk.cell 1
  have l8 := c8.rep.blk.lt
  simp only [List.getElem?_toArray, List.getElem?_cons_zero, List.getElem?_cons_succ] at k8
  have hk8 : w8.ownsRow 0 3 1 vk0 (st.kn.length + 1) (nats (st.kn ++ [n + 1])) := by simpa [rowI] using Owns.mid (l1 := [(vT8, _)]) c8.rep.rows
  have HK := Lib.hid hk8
  have C8 := Lib.hid c8
  clear c8 hk8
  go_wp2_with (refine list_app ty_ints rfl (.tmp 45) (.tmp 47) rfl (by rfl) (own_heap (HK.out.alloc _) (by rfl)) w8.heap.size 1 1 3 #[.int .i64 _] (by rfl) (by exact heap_alloc_new w8 _) rfl (by simp [Value.oneCell']) (by decide) (by unfold maxLen; omega) (by omega) (by simp) ?_; intro g' cap w9 hown hgr hat hlt'; have b9 := (C8.out.rep.blk.alloc _).grown hgr (C8.out.rep.blk.own_ne HK.out (by decide)); have k9 := b9.cell 1; have f9 := b9.frozen 1; simp only [List.getElem?_toArray, List.getElem?_cons_zero, List.getElem?_cons_succ] at k9)
  have m0 : Mid w (fun k => k = t ∨ vT.ownBlock = some k ∨ vk.ownBlock = some k ∨ vy.ownBlock = some k ∨ vp.ownBlock = some k) (w9.setCell ⟨t, 1, none⟩ (.slice (some ⟨g', 0, none⟩) (st.kn.length + 1 + 1) cap)) t 40 #[vT8, .slice (some ⟨g', 0, none⟩) (st.kn.length + 1 + 1) cap, vy, vp]
      ((vT8, rowT (st.T ++ frameT n chain epoch)) :: (.slice (some ⟨g', 0, none⟩) (st.kn.length + 1 + 1) cap, rowI (st.kn ++ [n + 1, n + 9])) :: (vy, rowI st.ks) :: (vp, rowI st.ps) :: more) ∧ Fresh w vk (.slice (some ⟨g', 0, none⟩) (st.kn.length + 1 + 1) cap) := by
    obtain ⟨h0, hc0, hfT0, hfk0⟩ := H0.out
    obtain ⟨h8, hc8, hf8⟩ := C8.out
    obtain ⟨hrep, hfr⟩ := kn_close (a := n + 9) hm h8 rfl (by simpa [HN.out] using hown) hgr (by simpa using hat) b9
    have cc : Chg (fun k => k = t ∨ vT.ownBlock = some k ∨ vk.ownBlock = some k ∨ vy.ownBlock = some k ∨ vp.ownBlock = some k) w w8 := by
      refine (hc0.mono (fun i hi => ?_)).trans hc8 (fun i hi => ?_)
      · rcases hi with hi | hi | hi
        · exact .inl hi
        · exact .inr (.inl hi)
        · exact .inr (.inr (.inl hi))
      · rcases hi with rfl | hi
        · exact .inl (.inl rfl)
        · exact (hfT0 i hi).imp (fun g => .inr (.inl g)) id
    refine ⟨⟨by simpa using hrep.blk, by simpa [frameT] using hrep.rows, ?_⟩, ?_⟩
    · exact Chg.setCell (chg_grown (cc.alloc _) hgr (fun k hk => (hfk0 k hk).imp (fun g => .inr (.inr (.inl g))) id)) (.inl (.inl rfl)) _
    · exact hfk0.trans (by simpa using hfr) (Nat.le_trans hc0.size hc8.size)
  have FK := Lib.hid m0.2
  have c2 := m0.1.cell 2
  have c3 := m0.1.cell 3
  simp only [List.getElem?_toArray, List.getElem?_cons_zero, List.getElem?_cons_succ] at c2 c3
  have M0 := Lib.hid m0.1
  clear m0 k9 f9 k8 hown hgr hat b9
  generalize w9.setCell ⟨t, 1, none⟩ (.slice (some ⟨g', 0, none⟩) (st.kn.length + 1 + 1) cap) = W at *
  have lW := M0.out.blk.lt
  have LY : ∀ k, vy.ownBlock = some k → k < W.heap.size := fun k hk => M0.out.rows.lt (vy, rowI st.ks) (by simp) k hk
  obtain ⟨o7, ho7⟩ : ∃ o, o = Obj.cells #[.int .i64 ((st.T.length : Int) + 7)] 3 (0, 0) := ⟨_, rfl⟩
  obtain ⟨o14, ho14⟩ : ∃ o, o = Obj.cells #[.int .i64 ((st.T.length : Int) + 3)] 3 (0, 0) := ⟨_, rfl⟩
  refine wp_region_I [⟨5, [8, 18, 21], ⟨t, 2, none⟩, vy⟩, ⟨12, [15, 18, 21], ⟨t, 3, none⟩, vp⟩] (by kernel_rfl) ?_
  refine wpAnyI_takes (by kernel_rfl) (fun _ _ _ _ _ h => h) [0,1,2,3,4,5,6,9,10,11,12,13] 10 _ _ _ (by kernel_rfl) (SH_cons (fun _ => c2) (SH_cons (fun _ => c3) SH_nil)) ?_
  intro K hK
  repeat
    (refine takeW_cons (oi := ?_) (v := ?_) ?_ ?_ ?_ ?_
     rotate_left 2
     · (simp only [List.getElem?_toArray, List.getElem?_cons_zero, List.getElem?_cons_succ]; rfl)
     · rfl
     · (intro w' hw'; (try (have hc : w'.cell? _ = some _ := hw'; clear hw')); go_simp; (try with_reducible rfl))
     try simp only [Act.put, List.setIfInBounds_toArray, List.set_cons_zero, List.set_cons_succ])
  refine takeW_nil (hK.out _ ?_)
  clear hK K
  refine wpAnyI_two (i := 7) (j := 14) (oi := ?_) (oj := ?_) (by kernel_rfl) ?_ ?_ (fun K hK => ?_) (fun K hK => ?_)
  rotate_left 2
  · (simp only [List.getElem?_toArray, List.getElem?_cons_zero, List.getElem?_cons_succ]; rfl)
  · (simp only [List.getElem?_toArray, List.getElem?_cons_zero, List.getElem?_cons_succ]; rfl)
  · go_wp2
    rw [← ho7]
    have hA : ∀ (o : Obj) (i : Nat), (W.alloc o).cell? ⟨t, i, none⟩ = W.cell? ⟨t, i, none⟩ := fun o i => World.cell?_alloc_lt W o _ lW
    refine hK.out _ _ (SH_cons (fun _ => (hA _ _).trans c2) (SH_cons (fun _ => (hA _ _).trans c3) SH_nil)) ?_
    clear hK K
    have N7 : Hid (((W.alloc o7).drew).heap[W.heap.size]? = some o7) := Lib.hid (heap_alloc_new W o7)
    have m1 := ((M0.out.alloc o7).drew)
    have d2 := m1.cell 2
    have d3 := m1.cell 3
    simp only [List.getElem?_toArray, List.getElem?_cons_zero, List.getElem?_cons_succ] at d2 d3
    have M1 := Lib.hid m1
    clear m1
    generalize (W.alloc o7).drew = W1 at *
    clear hA
    refine wpAnyI_two (i := 8) (j := 14) (oi := ?_) (oj := ?_) (by kernel_rfl) ?_ ?_ (fun K hK => ?_) (fun K hK => ?_)
    rotate_left 2
    · (simp only [List.getElem?_toArray, List.getElem?_cons_zero, List.getElem?_cons_succ]; rfl)
    · (simp only [List.getElem?_toArray, List.getElem?_cons_zero, List.getElem?_cons_succ]; rfl)
    · skip
      have hoy : W1.ownsRow 0 3 1 vy st.ks.length (nats st.ks) := Owns.mid (l1 := [_, _]) M1.out.rows
      go_wp2_with (refine list_app ty_ints rfl (.tmp 56) (.tmp 58) rfl (by rfl) hoy _ 1 1 3 #[.int .i64 _] (by rfl) (by rw [N7.out, ho7]) rfl (by simp [Value.oneCell']) (by decide) (by unfold maxLen; omega) (by omega) (by simp) ?_; intro gy cy W2 hown3 hgr3 hat3 hlt3)
      have m2 := Mid.app (l1 := [_, _]) (r' := rowI (st.ks ++ [n + 7])) M1.out (by simp [rowI]) hgr3 (by simpa [rowI, nats_snoc, HN.out] using hown3) (at_or hat3) (fun k hk => .inl (.inr (.inr (.inr (.inl hk)))))
      have d3 := m2.cell 3
      simp only [List.getElem?_toArray, List.getElem?_cons_zero, List.getElem?_cons_succ] at d3
      have FY := Lib.hid (show Fresh w vy (.slice (some ⟨gy, 0, none⟩) (st.ks.length + 1) cy) from fun k hk => by
        simp only [Value.ownBlock] at hk
        injection hk with hk
        subst hk
        rcases hat3 with h | h
        · exact .inl h
        · right; have := M1.out.chg.size; omega)
      have M2 := Lib.hid m2
      skip
      clear m2 hoy hgr3 hown3 hat3
      refine hK.out _ _ (SH_cons (fun h => by cases h) (SH_cons (fun _ => d3) SH_nil)) ?_
      clear hK K
      refine wpAnyI_run (i := 14) (o := ?_) (by kernel_rfl) ?_ (fun K hK => ?_)
      rotate_left 1
      · (simp only [List.getElem?_toArray, List.getElem?_cons_zero, List.getElem?_cons_succ]; rfl)
      go_wp2
      rw [← ho14]
      have l2 := M2.out.blk.lt
      refine hK.out _ _ (SH_cons (fun h => by cases h) (SH_cons (fun _ => (World.cell?_alloc_lt W2 _ ⟨t, 3, none⟩ l2).trans d3) SH_nil)) ?_
      clear hK K
      have N14 := Lib.hid (heap_alloc_new W2 o14)
      have M3 := Lib.hid (M2.out.alloc o14)
      generalize W2.alloc o14 = W3 at *
      -- append of the payload's number, world W3
      refine wpAnyI_run (i := 15) (o := ?_) (by kernel_rfl) ?_ (fun K hK => ?_)
      rotate_left 1
      · (simp only [List.getElem?_toArray, List.getElem?_cons_zero, List.getElem?_cons_succ]; rfl)
      have hop : W3.ownsRow 0 3 1 vp st.ps.length (nats st.ps) := Owns.mid (l1 := [_, _, _]) M3.out.rows
      have hlp := W3.heap.size
      go_wp2_with (refine list_app ty_ints rfl (.tmp 63) (.tmp 65) rfl (by rfl) hop _ 1 1 3 #[.int .i64 _] (by rfl) (by rw [N14.out, ho14]) rfl (by simp [Value.oneCell']) (by decide) (by unfold maxLen; omega) (by omega) (by simp) ?_; intro gp cp w4 hown4 hgr4 hat4 hlt4)
      have m4 := Mid.app (l1 := [_, _, _]) (r' := rowI (st.ps ++ [n + 3])) M3.out (by simp [rowI]) hgr4 (by simpa [rowI, nats_snoc, HN.out] using hown4) (at_or hat4) (fun k hk => .inl (.inr (.inr (.inr (.inr hk)))))
      have FP := Lib.hid (show Fresh w vp (.slice (some ⟨gp, 0, none⟩) (st.ps.length + 1) cp) from fun k hk => by
        simp only [Value.ownBlock] at hk
        injection hk with hk
        subst hk
        rcases hat4 with h | h
        · exact .inl h
        · right; have := M3.out.chg.size; omega)
      have M4 := Lib.hid m4
      clear m4 hop hgr4 hown4 hat4 hlp
      refine hK.out _ _ (SH_cons (fun h => by cases h) (SH_cons (fun h => by cases h) SH_nil)) ?_
      clear hK K
      refine wpAnyI_takes (by kernel_rfl) (fun _ _ _ _ _ h => h) [16,17] 4 _ _ _ (by kernel_rfl) (SH_cons (fun h => by cases h) (SH_cons (fun h => by cases h) SH_nil)) ?_
      intro K hK
      repeat
        (refine takeW_cons (oi := ?_) (v := ?_) ?_ ?_ ?_ ?_
         rotate_left 2
         · (simp only [List.getElem?_toArray, List.getElem?_cons_zero, List.getElem?_cons_succ]; rfl)
         · rfl
         · (intro w' hw'; (try (have hc : w'.cell? _ = some _ := hw'; clear hw')); go_simp; (try with_reducible rfl))
         try simp only [Act.put, List.setIfInBounds_toArray, List.set_cons_zero, List.set_cons_succ])
      refine takeW_nil (hK.out _ ?_)
      clear hK K
      refine wpAnyI_run (i := 18) (o := ?_) (by kernel_rfl) ?_ (fun K hK => ?_)
      rotate_left 1
      · (simp only [List.getElem?_toArray, List.getElem?_cons_zero, List.getElem?_cons_succ]; rfl)
      have kk2 := (M4.out.cell 2)
      have ff2 := M4.out.blk.frozen 2
      simp only [List.getElem?_toArray, List.getElem?_cons_zero, List.getElem?_cons_succ] at kk2
      go_wp2
      refine hK.out _ _ (SH_cons (fun h => by cases h) (SH_cons (fun h => by cases h) SH_nil)) ?_
      clear hK K
      have m5 := M4.out.set (rows_ne (st := ⟨_, _, _, _⟩) hm rfl) (.inl (.inl rfl)) 2 (.slice (some ⟨gy, 0, none⟩) (st.ks.length + 1) cy)
      have kk3 := m5.cell 3
      have ff3 := m5.blk.frozen 3
      simp at kk3
      have M5 := Lib.hid m5
      clear m5 kk2 ff2
      refine wpAnyI_takes (by kernel_rfl) (fun _ _ _ _ _ h => h) [19,20] 1 _ _ _ (by kernel_rfl) (SH_cons (fun h => by cases h) (SH_cons (fun h => by cases h) SH_nil)) ?_
      intro K hK
      repeat
        (refine takeW_cons (oi := ?_) (v := ?_) ?_ ?_ ?_ ?_
         rotate_left 2
         · (simp only [List.getElem?_toArray, List.getElem?_cons_zero, List.getElem?_cons_succ]; rfl)
         · rfl
         · (intro w' hw'; (try (have hc : w'.cell? _ = some _ := hw'; clear hw')); go_simp; (try with_reducible rfl))
         try simp only [Act.put, List.setIfInBounds_toArray, List.set_cons_zero, List.set_cons_succ])
      refine takeW_nil (hK.out _ ?_)
      clear hK K
      refine wpAnyI_run (i := 21) (o := ?_) (by kernel_rfl) ?_ (fun K hK => ?_)
      rotate_left 1
      · (simp only [List.getElem?_toArray, List.getElem?_cons_zero, List.getElem?_cons_succ]; rfl)
      go_wp2
      refine hK.out _ _ (SH_cons (fun h => by cases h) (SH_cons (fun h => by cases h) SH_nil)) ?_
      clear hK K
      refine wpAnyI_done (by kernel_rfl) ?_ _
      go_wp2_with fail
      go_ret
      have m6 := M5.out.set (rows_ne (st := ⟨_, _, _, _⟩) hm rfl) (.inl (.inl rfl)) 3 (.slice (some ⟨gp, 0, none⟩) (st.ps.length + 1) cp)
      obtain ⟨h0, hc0, hfT0, hfk0⟩ := H0.out
      refine ⟨by simp [HN.out], vT8, _, _, _, ⟨by simpa using m6.blk, by simpa [HN.out] using m6.rows⟩, m6.chg, ?_, FK.out, ?_, ?_⟩
      · exact hfT0.trans C8.out.fr hc0.size
      · exact FY.out
      · exact FP.out
    · go_wp2
      rw [← ho14]
      have l1 := M1.out.blk.lt
      refine hK.out _ _ (SH_cons (fun _ => (World.cell?_alloc_lt W1 _ ⟨t, 2, none⟩ l1).trans d2) (SH_cons (fun _ => (World.cell?_alloc_lt W1 _ ⟨t, 3, none⟩ l1).trans d3) SH_nil)) ?_
      clear hK K
      have N14 := Lib.hid (heap_alloc_new W1 o14)
      have N7' := Lib.hid ((Below.heap_alloc W1 o14 W.heap.size (lt_of_block N7.out)).trans N7.out)
      have M2 := Lib.hid (M1.out.alloc o14)
      have LW : Hid (W.heap.size ≤ W1.heap.size) := Lib.hid (Nat.le_of_lt (lt_of_block N7.out))
      have e2 := (World.cell?_alloc_lt W1 o14 ⟨t, 2, none⟩ l1).trans d2
      have e3 := (World.cell?_alloc_lt W1 o14 ⟨t, 3, none⟩ l1).trans d3
      clear N7 d2 d3
      have N7 := N7'
      clear N7'
      generalize hB : W1.heap.size = B14 at N14 LW
      clear hB
      generalize W1.alloc o14 = W2 at *
      refine wpAnyI_run (i := 8) (o := ?_) (by kernel_rfl) ?_ (fun K hK => ?_)
      rotate_left 1
      · (simp only [List.getElem?_toArray, List.getElem?_cons_zero, List.getElem?_cons_succ]; rfl)
      have hoy : W2.ownsRow 0 3 1 vy st.ks.length (nats st.ks) := Owns.mid (l1 := [_, _]) M2.out.rows
      go_wp2_with (refine list_app ty_ints rfl (.tmp 56) (.tmp 58) rfl (by rfl) hoy _ 1 1 3 #[.int .i64 _] (by rfl) (by rw [N7.out, ho7]) rfl (by simp [Value.oneCell']) (by decide) (by unfold maxLen; omega) (by omega) (by simp) ?_; intro gy cy W3 hown3 hgr3 hat3 hlt3)
      have m2 := Mid.app (l1 := [_, _]) (r' := rowI (st.ks ++ [n + 7])) M2.out (by simp [rowI]) hgr3 (by simpa [rowI, nats_snoc, HN.out] using hown3) (at_or hat3) (fun k hk => .inl (.inr (.inr (.inr (.inl hk)))))
      have d3 := m2.cell 3
      simp only [List.getElem?_toArray, List.getElem?_cons_zero, List.getElem?_cons_succ] at d3
      have FY := Lib.hid (show Fresh w vy (.slice (some ⟨gy, 0, none⟩) (st.ks.length + 1) cy) from fun k hk => by
        simp only [Value.ownBlock] at hk
        injection hk with hk
        subst hk
        rcases hat3 with h | h
        · exact .inl h
        · right; have := M2.out.chg.size; omega)
      have M3 := Lib.hid m2
      replace N14 := Lib.hid (news_kept N14.out hgr3 (fun e => by have := LY _ e; have := LW.out; omega))
      clear m2 hoy hgr3 hown3 hat3
      refine hK.out _ _ (SH_cons (fun h => by cases h) (SH_cons (fun _ => d3) SH_nil)) ?_
      clear hK K
      -- append of the payload's number, world W3
      refine wpAnyI_run (i := 15) (o := ?_) (by kernel_rfl) ?_ (fun K hK => ?_)
      rotate_left 1
      · (simp only [List.getElem?_toArray, List.getElem?_cons_zero, List.getElem?_cons_succ]; rfl)
      have hop : W3.ownsRow 0 3 1 vp st.ps.length (nats st.ps) := Owns.mid (l1 := [_, _, _]) M3.out.rows
      have hlp := W3.heap.size
      go_wp2_with (refine list_app ty_ints rfl (.tmp 63) (.tmp 65) rfl (by rfl) hop _ 1 1 3 #[.int .i64 _] (by rfl) (by rw [N14.out, ho14]) rfl (by simp [Value.oneCell']) (by decide) (by unfold maxLen; omega) (by omega) (by simp) ?_; intro gp cp w4 hown4 hgr4 hat4 hlt4)
      have m4 := Mid.app (l1 := [_, _, _]) (r' := rowI (st.ps ++ [n + 3])) M3.out (by simp [rowI]) hgr4 (by simpa [rowI, nats_snoc, HN.out] using hown4) (at_or hat4) (fun k hk => .inl (.inr (.inr (.inr (.inr hk)))))
      have FP := Lib.hid (show Fresh w vp (.slice (some ⟨gp, 0, none⟩) (st.ps.length + 1) cp) from fun k hk => by
        simp only [Value.ownBlock] at hk
        injection hk with hk
        subst hk
        rcases hat4 with h | h
        · exact .inl h
        · right; have := M3.out.chg.size; omega)
      have M4 := Lib.hid m4
      clear m4 hop hgr4 hown4 hat4 hlp
      refine hK.out _ _ (SH_cons (fun h => by cases h) (SH_cons (fun h => by cases h) SH_nil)) ?_
      clear hK K
      refine wpAnyI_takes (by kernel_rfl) (fun _ _ _ _ _ h => h) [16,17] 4 _ _ _ (by kernel_rfl) (SH_cons (fun h => by cases h) (SH_cons (fun h => by cases h) SH_nil)) ?_
      intro K hK
      repeat
        (refine takeW_cons (oi := ?_) (v := ?_) ?_ ?_ ?_ ?_
         rotate_left 2
         · (simp only [List.getElem?_toArray, List.getElem?_cons_zero, List.getElem?_cons_succ]; rfl)
         · rfl
         · (intro w' hw'; (try (have hc : w'.cell? _ = some _ := hw'; clear hw')); go_simp; (try with_reducible rfl))
         try simp only [Act.put, List.setIfInBounds_toArray, List.set_cons_zero, List.set_cons_succ])
      refine takeW_nil (hK.out _ ?_)
      clear hK K
      refine wpAnyI_run (i := 18) (o := ?_) (by kernel_rfl) ?_ (fun K hK => ?_)
      rotate_left 1
      · (simp only [List.getElem?_toArray, List.getElem?_cons_zero, List.getElem?_cons_succ]; rfl)
      have kk2 := (M4.out.cell 2)
      have ff2 := M4.out.blk.frozen 2
      simp only [List.getElem?_toArray, List.getElem?_cons_zero, List.getElem?_cons_succ] at kk2
      go_wp2
      refine hK.out _ _ (SH_cons (fun h => by cases h) (SH_cons (fun h => by cases h) SH_nil)) ?_
      clear hK K
      have m5 := M4.out.set (rows_ne (st := ⟨_, _, _, _⟩) hm rfl) (.inl (.inl rfl)) 2 (.slice (some ⟨gy, 0, none⟩) (st.ks.length + 1) cy)
      have kk3 := m5.cell 3
      have ff3 := m5.blk.frozen 3
      simp at kk3
      have M5 := Lib.hid m5
      clear m5 kk2 ff2
      refine wpAnyI_takes (by kernel_rfl) (fun _ _ _ _ _ h => h) [19,20] 1 _ _ _ (by kernel_rfl) (SH_cons (fun h => by cases h) (SH_cons (fun h => by cases h) SH_nil)) ?_
      intro K hK
      repeat
        (refine takeW_cons (oi := ?_) (v := ?_) ?_ ?_ ?_ ?_
         rotate_left 2
         · (simp only [List.getElem?_toArray, List.getElem?_cons_zero, List.getElem?_cons_succ]; rfl)
         · rfl
         · (intro w' hw'; (try (have hc : w'.cell? _ = some _ := hw'; clear hw')); go_simp; (try with_reducible rfl))
         try simp only [Act.put, List.setIfInBounds_toArray, List.set_cons_zero, List.set_cons_succ])
      refine takeW_nil (hK.out _ ?_)
      clear hK K
      refine wpAnyI_run (i := 21) (o := ?_) (by kernel_rfl) ?_ (fun K hK => ?_)
      rotate_left 1
      · (simp only [List.getElem?_toArray, List.getElem?_cons_zero, List.getElem?_cons_succ]; rfl)
      go_wp2
      refine hK.out _ _ (SH_cons (fun h => by cases h) (SH_cons (fun h => by cases h) SH_nil)) ?_
      clear hK K
      refine wpAnyI_done (by kernel_rfl) ?_ _
      go_wp2_with fail
      go_ret
      have m6 := M5.out.set (rows_ne (st := ⟨_, _, _, _⟩) hm rfl) (.inl (.inl rfl)) 3 (.slice (some ⟨gp, 0, none⟩) (st.ps.length + 1) cp)
      obtain ⟨h0, hc0, hfT0, hfk0⟩ := H0.out
      refine ⟨by simp [HN.out], vT8, _, _, _, ⟨by simpa using m6.blk, by simpa [HN.out] using m6.rows⟩, m6.chg, ?_, FK.out, ?_, ?_⟩
      · exact hfT0.trans C8.out.fr hc0.size
      · exact FY.out
      · exact FP.out
  · go_wp2
    rw [← ho14]
    have hA : ∀ (o : Obj) (i : Nat), (W.alloc o).cell? ⟨t, i, none⟩ = W.cell? ⟨t, i, none⟩ := fun o i => World.cell?_alloc_lt W o _ lW
    refine hK.out _ _ (SH_cons (fun _ => (hA _ _).trans c2) (SH_cons (fun _ => (hA _ _).trans c3) SH_nil)) ?_
    clear hK K
    have N14 : Hid ((W.alloc o14).drew.heap[W.heap.size]? = some o14) := Lib.hid (heap_alloc_new W o14)
    have M1 := Lib.hid ((M0.out.alloc o14).drew)
    have d2 : (W.alloc o14).drew.cell? ⟨t, 2, none⟩ = some vy := (hA _ _).trans c2
    have d3 : (W.alloc o14).drew.cell? ⟨t, 3, none⟩ = some vp := (hA _ _).trans c3
    have LW : Hid (W.heap.size ≤ W.heap.size) := Lib.hid (Nat.le_refl _)
    clear hA
    generalize hB : W.heap.size = B14 at N14 LW
    have LY' : ∀ k, vy.ownBlock = some k → k < B14 := fun k hk => hB ▸ LY k hk
    clear hB LY
    generalize (W.alloc o14).drew = W1 at *
    refine wpAnyI_run (i := 7) (o := ?_) (by kernel_rfl) ?_ (fun K hK => ?_)
    rotate_left 1
    · (simp only [List.getElem?_toArray, List.getElem?_cons_zero, List.getElem?_cons_succ]; rfl)
    go_wp2
    rw [← ho7]
    have l1 := M1.out.blk.lt
    refine hK.out _ _ (SH_cons (fun _ => (World.cell?_alloc_lt W1 _ ⟨t, 2, none⟩ l1).trans d2) (SH_cons (fun _ => (World.cell?_alloc_lt W1 _ ⟨t, 3, none⟩ l1).trans d3) SH_nil)) ?_
    clear hK K
    have N7 := Lib.hid (heap_alloc_new W1 o7)
    have N14' := Lib.hid ((Below.heap_alloc W1 o7 B14 (lt_of_block N14.out)).trans N14.out)
    have M2 := Lib.hid (M1.out.alloc o7)
    clear N14
    have N14 := N14'
    clear N14' d2 d3
    generalize hB : W1.heap.size = B7 at N7
    clear hB
    generalize W1.alloc o7 = W2 at *
    refine wpAnyI_run (i := 8) (o := ?_) (by kernel_rfl) ?_ (fun K hK => ?_)
    rotate_left 1
    · (simp only [List.getElem?_toArray, List.getElem?_cons_zero, List.getElem?_cons_succ]; rfl)
    have hoy : W2.ownsRow 0 3 1 vy st.ks.length (nats st.ks) := Owns.mid (l1 := [_, _]) M2.out.rows
    go_wp2_with (refine list_app ty_ints rfl (.tmp 56) (.tmp 58) rfl (by rfl) hoy _ 1 1 3 #[.int .i64 _] (by rfl) (by rw [N7.out, ho7]) rfl (by simp [Value.oneCell']) (by decide) (by unfold maxLen; omega) (by omega) (by simp) ?_; intro gy cy W3 hown3 hgr3 hat3 hlt3)
    have m2 := Mid.app (l1 := [_, _]) (r' := rowI (st.ks ++ [n + 7])) M2.out (by simp [rowI]) hgr3 (by simpa [rowI, nats_snoc, HN.out] using hown3) (at_or hat3) (fun k hk => .inl (.inr (.inr (.inr (.inl hk)))))
    have d3 := m2.cell 3
    simp only [List.getElem?_toArray, List.getElem?_cons_zero, List.getElem?_cons_succ] at d3
    have FY := Lib.hid (show Fresh w vy (.slice (some ⟨gy, 0, none⟩) (st.ks.length + 1) cy) from fun k hk => by
      simp only [Value.ownBlock] at hk
      injection hk with hk
      subst hk
      rcases hat3 with h | h
      · exact .inl h
      · right; have := M2.out.chg.size; omega)
    have M3 := Lib.hid m2
    replace N14 := Lib.hid (news_kept N14.out hgr3 (fun e => by have := LY' _ e; omega))
    clear m2 hoy hgr3 hown3 hat3
    refine hK.out _ _ (SH_cons (fun h => by cases h) (SH_cons (fun _ => d3) SH_nil)) ?_
    clear hK K
    -- append of the payload's number, world W3
    refine wpAnyI_run (i := 15) (o := ?_) (by kernel_rfl) ?_ (fun K hK => ?_)
    rotate_left 1
    · (simp only [List.getElem?_toArray, List.getElem?_cons_zero, List.getElem?_cons_succ]; rfl)
    have hop : W3.ownsRow 0 3 1 vp st.ps.length (nats st.ps) := Owns.mid (l1 := [_, _, _]) M3.out.rows
    have hlp := W3.heap.size
    go_wp2_with (refine list_app ty_ints rfl (.tmp 63) (.tmp 65) rfl (by rfl) hop _ 1 1 3 #[.int .i64 _] (by rfl) (by rw [N14.out, ho14]) rfl (by simp [Value.oneCell']) (by decide) (by unfold maxLen; omega) (by omega) (by simp) ?_; intro gp cp w4 hown4 hgr4 hat4 hlt4)
    have m4 := Mid.app (l1 := [_, _, _]) (r' := rowI (st.ps ++ [n + 3])) M3.out (by simp [rowI]) hgr4 (by simpa [rowI, nats_snoc, HN.out] using hown4) (at_or hat4) (fun k hk => .inl (.inr (.inr (.inr (.inr hk)))))
    have FP := Lib.hid (show Fresh w vp (.slice (some ⟨gp, 0, none⟩) (st.ps.length + 1) cp) from fun k hk => by
      simp only [Value.ownBlock] at hk
      injection hk with hk
      subst hk
      rcases hat4 with h | h
      · exact .inl h
      · right; have := M3.out.chg.size; omega)
    have M4 := Lib.hid m4
    clear m4 hop hgr4 hown4 hat4 hlp
    refine hK.out _ _ (SH_cons (fun h => by cases h) (SH_cons (fun h => by cases h) SH_nil)) ?_
    clear hK K
    refine wpAnyI_takes (by kernel_rfl) (fun _ _ _ _ _ h => h) [16,17] 4 _ _ _ (by kernel_rfl) (SH_cons (fun h => by cases h) (SH_cons (fun h => by cases h) SH_nil)) ?_
    intro K hK
    repeat
      (refine takeW_cons (oi := ?_) (v := ?_) ?_ ?_ ?_ ?_
       rotate_left 2
       · (simp only [List.getElem?_toArray, List.getElem?_cons_zero, List.getElem?_cons_succ]; rfl)
       · rfl
       · (intro w' hw'; (try (have hc : w'.cell? _ = some _ := hw'; clear hw')); go_simp; (try with_reducible rfl))
       try simp only [Act.put, List.setIfInBounds_toArray, List.set_cons_zero, List.set_cons_succ])
    refine takeW_nil (hK.out _ ?_)
    clear hK K
    refine wpAnyI_run (i := 18) (o := ?_) (by kernel_rfl) ?_ (fun K hK => ?_)
    rotate_left 1
    · (simp only [List.getElem?_toArray, List.getElem?_cons_zero, List.getElem?_cons_succ]; rfl)
    have kk2 := (M4.out.cell 2)
    have ff2 := M4.out.blk.frozen 2
    simp only [List.getElem?_toArray, List.getElem?_cons_zero, List.getElem?_cons_succ] at kk2
    go_wp2
    refine hK.out _ _ (SH_cons (fun h => by cases h) (SH_cons (fun h => by cases h) SH_nil)) ?_
    clear hK K
    have m5 := M4.out.set (rows_ne (st := ⟨_, _, _, _⟩) hm rfl) (.inl (.inl rfl)) 2 (.slice (some ⟨gy, 0, none⟩) (st.ks.length + 1) cy)
    have kk3 := m5.cell 3
    have ff3 := m5.blk.frozen 3
    simp at kk3
    have M5 := Lib.hid m5
    clear m5 kk2 ff2
    refine wpAnyI_takes (by kernel_rfl) (fun _ _ _ _ _ h => h) [19,20] 1 _ _ _ (by kernel_rfl) (SH_cons (fun h => by cases h) (SH_cons (fun h => by cases h) SH_nil)) ?_
    intro K hK
    repeat
      (refine takeW_cons (oi := ?_) (v := ?_) ?_ ?_ ?_ ?_
       rotate_left 2
       · (simp only [List.getElem?_toArray, List.getElem?_cons_zero, List.getElem?_cons_succ]; rfl)
       · rfl
       · (intro w' hw'; (try (have hc : w'.cell? _ = some _ := hw'; clear hw')); go_simp; (try with_reducible rfl))
       try simp only [Act.put, List.setIfInBounds_toArray, List.set_cons_zero, List.set_cons_succ])
    refine takeW_nil (hK.out _ ?_)
    clear hK K
    refine wpAnyI_run (i := 21) (o := ?_) (by kernel_rfl) ?_ (fun K hK => ?_)
    rotate_left 1
    · (simp only [List.getElem?_toArray, List.getElem?_cons_zero, List.getElem?_cons_succ]; rfl)
    go_wp2
    refine hK.out _ _ (SH_cons (fun h => by cases h) (SH_cons (fun h => by cases h) SH_nil)) ?_
    clear hK K
    refine wpAnyI_done (by kernel_rfl) ?_ _
    go_wp2_with fail
    go_ret
    have m6 := M5.out.set (rows_ne (st := ⟨_, _, _, _⟩) hm rfl) (.inl (.inl rfl)) 3 (.slice (some ⟨gp, 0, none⟩) (st.ps.length + 1) cp)
    obtain ⟨h0, hc0, hfT0, hfk0⟩ := H0.out
    refine ⟨by simp [HN.out], vT8, _, _, _, ⟨by simpa using m6.blk, by simpa [HN.out] using m6.rows⟩, m6.chg, ?_, FK.out, ?_, ?_⟩
    · exact hfT0.trans C8.out.fr hc0.size
    · exact FY.out
    · exact FP.out
end Go.Proofs.Ytfflidaodnhpbaa.Led
