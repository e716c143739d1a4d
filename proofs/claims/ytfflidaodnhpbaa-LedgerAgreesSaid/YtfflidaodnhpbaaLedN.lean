/- Walks: a line in terms: add, secret, frame. -/
import Derived.Test.YtfflidaodnhpbaaLedS
import Derived.Test.YtfflidaodnhpbaaOwns
namespace Go.Proofs.Ytfflidaodnhpbaa.Led
open Go Go.RowKit Go.Proofs.Ytfflidaodnhpbaa.Base Go.Proofs.Ytfflidaodnhpbaa.Draw
set_option linter.unusedVariables false
set_option linter.unusedSimpArgs false

structure RSt where
  T : List (Nat × Nat × Nat)
  kn : List Nat
  ks : List Nat
  ps : List Nat

def rowT (l : List (Nat × Nat × Nat)) : Row := ⟨46, 3, l.length, snv l⟩
def rowI (l : List Nat) : Row := ⟨3, 1, l.length, nats l⟩

/-- The run's block and its four rows, and further rows of ints beside them. -/
structure RunRep (w : World) (t : Nat) (st : RSt) (vT vk vy vp : Value) (more : List (Value × Row)) : Prop where
  blk : Blk w t 40 #[vT, vk, vy, vp]
  rows : Owns w ((vT, rowT st.T) :: (vk, rowI st.kn) :: (vy, rowI st.ks) :: (vp, rowI st.ps) :: more)

theorem ty_terms : SlTy Try.prog 38 46 (.agg #[.int .i64 0, .int .i64 0, .int .i64 0]) 3 24 := ⟨Try.underlying38, by kernel_rfl, rfl, by decide⟩

theorem snv_snoc (l : List (Nat × Nat × Nat)) (a b c : Nat) : snv (l ++ [(a, b, c)]) = snv l ++ [.int .i64 (a : Int), .int .i64 (b : Int), .int .i64 (c : Int)] := by simp [snv]
theorem nats_snoc (l : List Nat) (a : Nat) : nats (l ++ [a]) = nats l ++ [.int .i64 (a : Int)] := by simp [nats]

/-- The rows behind an append to one and a store into the run's block. -/
theorem rows_step {w w1 w' : World} {o : Obj} {l1 l2 : List (Value × Row)} {v : Value} {r r' : Row} {g' n cap : Nat} (h : Owns w (l1 ++ (v, r) :: l2)) (h1 : w1.heap = (w.alloc o).heap)
    (hg : w1.grownBy w' v.ownBlock) (ho : w'.ownsRow 0 r'.e r'.size (.slice (some ⟨g', 0, none⟩) n cap) r'.n r'.xs) (hat : v.ownBlock = some g' ∨ g' = w1.heap.size) :
    Owns w' (l1 ++ (.slice (some ⟨g', 0, none⟩) n cap, r') :: l2) ∧ Fresh w v (.slice (some ⟨g', 0, none⟩) n cap) := by
  have hs : w1.heap.size = w.heap.size + 1 := by rw [h1]; simp
  refine ⟨((h.alloc o).heap h1).grown hg ho ?_, ?_⟩
  · rcases hat with e | e
    · exact .inl (by rw [e]; rfl)
    · right
      intro k hk
      simp only [Value.ownBlock] at hk
      injection hk with hk
      omega
  · intro k hk
    simp only [Value.ownBlock] at hk
    injection hk with hk
    subst hk
    rcases hat with e | e
    · exact .inl e
    · right; omega

set_option maxRecDepth 100000 in
set_option maxHeartbeats 1000000 in
theorem add_calls {w : World} {t : Nat} {st : RSt} {vT vk vy vp : Value} {more : List (Value × Row)} (h : RunRep w t st vT vk vy vp more) (hm : ∀ p ∈ more, p.2.e = 3) (hl : st.T.length ≤ 10000) (x y z : Int) (a b c : Nat) (hx : x = (a : Int)) (hy : y = (b : Int)) (hz : z = (c : Int)) :
    Calls Try.prog 44 #[.pointer (some ⟨t, 0, none⟩), .int .i64 x, .int .i64 y, .int .i64 z] w fun e w' => e = .returned (.int .i64 (st.T.length : Int)) ∧ ∃ vT', RunRep w' t { st with T := st.T ++ [(a, b, c)] } vT' vk vy vp more ∧ Chg (fun k => k = t ∨ vT.ownBlock = some k) w w' ∧ Fresh w vT vT' := by
  subst hx; subst hy; subst hz
  have HR := Lib.hid h
  have c0 := h.blk.cell 0
  have f0 := h.blk.frozen 0
  have hlt := h.blk.lt
  simp only [List.getElem?_toArray, List.getElem?_cons_zero, List.getElem?_cons_succ] at c0
  have hT : w.ownsRow 0 46 3 vT st.T.length (snv st.T) := Owns.mid (l1 := []) h.rows
  have HT := Lib.hid hT
  clear h hT
  go_enter Try.func44, Try.ntmps44
  go_wp2_with (refine list_app ty_terms rfl (.tmp 13) (.tmp 18) rfl (by rfl) (own_heap (HT.out.alloc (.cells #[.int .i64 (a : Int), .int .i64 (b : Int), .int .i64 (c : Int)] 46)) (by rfl)) w.heap.size 1 1 46 #[.int .i64 (a : Int), .int .i64 (b : Int), .int .i64 (c : Int)] (by rfl) (by exact heap_alloc_new w _) rfl (by simp [Value.oneCell']) (by decide) (by unfold maxLen; omega) (by omega) (by simp) ?_; intro g' cap w1 hown hgr hat hlt'; have b1 := (HR.out.blk.alloc (.cells #[.int .i64 (a : Int), .int .i64 (b : Int), .int .i64 (c : Int)] 46)).grown hgr (HR.out.blk.own_ne HT.out (by decide)); have k1 := b1.cell 0; have f1 := b1.frozen 0; simp only [List.getElem?_toArray, List.getElem?_cons_zero] at k1)
  go_ret
  obtain ⟨hrows, hfr⟩ := rows_step (l1 := []) (r' := rowT (st.T ++ [(a, b, c)])) HR.out.rows rfl hgr (by simpa [rowT, snv_snoc] using hown) hat
  refine ⟨by simp, _, ⟨b1.set_ 0 _, ?_⟩, ?_, hfr⟩
  · refine Owns.setCell hrows b1 (fun p hp => ?_) 0 _
    simp only [List.nil_append, List.mem_cons] at hp
    rcases hp with rfl | rfl | rfl | rfl | hp
    · simp [rowT]
    · simp [rowI]
    · simp [rowI]
    · simp [rowI]
    · rw [hm p hp]; decide
  · exact Chg.setCell (chg_grown ((Chg.refl _ w).alloc _) hgr (fun k hk => .inl (.inr hk))) (.inl (.inl rfl)) _

theorem RunRep.drewN {w : World} {t : Nat} {st : RSt} {vT vk vy vp : Value} {more : List (Value × Row)} (h : RunRep w t st vT vk vy vp more) (k : Nat) : RunRep (w.drewN k) t st vT vk vy vp more := ⟨h.blk.drewN k, h.rows.drewN k⟩
theorem RunRep.alloc {w : World} {t : Nat} {st : RSt} {vT vk vy vp : Value} {more : List (Value × Row)} (h : RunRep w t st vT vk vy vp more) (o : Obj) : RunRep (w.alloc o) t st vT vk vy vp more := ⟨h.blk.alloc o, h.rows.alloc o⟩

theorem rows_ne {l : List (Value × Row)} {st : RSt} {vT vk vy vp : Value} {more : List (Value × Row)} (hm : ∀ p ∈ more, p.2.e = 3) (hl : l = (vT, rowT st.T) :: (vk, rowI st.kn) :: (vy, rowI st.ks) :: (vp, rowI st.ps) :: more) : ∀ p ∈ l, p.2.e ≠ 40 := by
  subst hl
  intro p hp
  simp only [List.mem_cons] at hp
  rcases hp with rfl | rfl | rfl | rfl | hp
  · simp [rowT]
  · simp [rowI]
  · simp [rowI]
  · simp [rowI]
  · rw [hm p hp]; decide

/-- A number is laid behind what is known. -/
theorem kn_close {w w1 w' : World} {t : Nat} {st : RSt} {vT vk vy vp : Value} {more : List (Value × Row)} (hm : ∀ p ∈ more, p.2.e = 3) {o : Obj} {a g' cap : Nat} (h : RunRep w t st vT vk vy vp more) (h1 : w1.heap = (w.alloc o).heap)
    (hown : w'.ownsRow 0 3 1 (.slice (some ⟨g', 0, none⟩) (st.kn.length + 1) cap) (st.kn.length + 1) (nats st.kn ++ [.int .i64 (a : Int)]))
    (hgr : w1.grownBy w' vk.ownBlock) (hat : vk.ownBlock = some g' ∨ g' = w1.heap.size) (b1 : Blk w' t 40 #[vT, vk, vy, vp]) :
    RunRep (w'.setCell ⟨t, 1, none⟩ (.slice (some ⟨g', 0, none⟩) (st.kn.length + 1) cap)) t { st with kn := st.kn ++ [a] } vT (.slice (some ⟨g', 0, none⟩) (st.kn.length + 1) cap) vy vp more ∧ Fresh w vk (.slice (some ⟨g', 0, none⟩) (st.kn.length + 1) cap) := by
  obtain ⟨hrows, hfr⟩ := rows_step (l1 := [(vT, rowT st.T)]) (r' := rowI (st.kn ++ [a])) h.rows h1 hgr (by simpa [rowI, nats_snoc] using hown) hat
  exact ⟨⟨b1.set_ 1 _, Owns.setCell hrows b1 (rows_ne (st := { st with kn := st.kn ++ [a] }) hm rfl) 1 _⟩, hfr⟩

set_option maxRecDepth 100000 in
set_option maxHeartbeats 2000000 in
theorem secret_calls {w : World} {t : Nat} {st : RSt} {vT vk vy vp : Value} {more : List (Value × Row)} (h : RunRep w t st vT vk vy vp more) (hm : ∀ p ∈ more, p.2.e = 3) (hl : st.T.length ≤ 9000) (hk : st.kn.length ≤ 9000) :
    Calls Try.prog 27 #[.pointer (some ⟨t, 0, none⟩)] w fun e w' => e = .returned (.int .i64 (st.T.length : Int)) ∧
      ∃ vT' vk', RunRep w' t { st with T := st.T ++ [(0, 0, 0), (3, st.T.length, 0)], kn := st.kn ++ [st.T.length + 1] } vT' vk' vy vp more ∧ Chg (fun k => k = t ∨ vT.ownBlock = some k ∨ vk.ownBlock = some k) w w' ∧ Fresh w vT vT' ∧ Fresh w vk vk' := by
  have HR := Lib.hid h
  clear h
  go_enter Try.func27, Try.ntmps27
  go_wp2_with fail
  refine (add_calls HR.out hm (by omega) 0 0 0 0 0 0 rfl rfl rfl).mono ?_
  rintro e w1 ⟨rfl, vT1, h1, hc1, hf1⟩
  have c1 := h1.blk.cell 1
  simp only [List.getElem?_toArray, List.getElem?_cons_zero, List.getElem?_cons_succ] at c1
  have H1 := Lib.hid (And.intro h1 (And.intro hc1 hf1))
  clear h1 hc1 hf1
  go_wp2_with fail
  refine wp_region_I [⟨4, [9, 12], ⟨t, 1, none⟩, vk⟩] (by kernel_rfl) ?_
  refine wpAnyI_takes (by kernel_rfl) (fun _ _ _ _ _ h => h) [0,1,2,3,4,5,6] 6 _ _ _ (by kernel_rfl) (SH_cons (fun _ => c1) SH_nil) ?_
  intro K hK
  repeat
    (refine takeW_cons (oi := ?_) (v := ?_) ?_ ?_ ?_ ?_
     rotate_left 2
     · (simp only [List.getElem?_toArray, List.getElem?_cons_zero, List.getElem?_cons_succ]; rfl)
     · rfl
     · (intro w' hw'; (try (have hc : w'.cell? _ = some _ := hw'; clear hw')); go_simp; (try with_reducible rfl))
     try simp only [Act.put, List.setIfInBounds_toArray, List.set_cons_zero, List.set_cons_succ])
  refine takeW_nil (hK.out _ ?_)
  clear hK K
  refine wpAnyI_run (i := 7) (o := ?_) (by kernel_rfl) ?_ (fun K hK => ?_)
  rotate_left 1
  · (simp only [List.getElem?_toArray, List.getElem?_cons_zero, List.getElem?_cons_succ]; rfl)
  go_wp2_with fail
  refine (add_calls (H1.out.1.drewN 1) hm (by simp; omega) 3 _ 0 3 st.T.length 0 rfl rfl rfl).mono ?_
  rintro e w2 ⟨rfl, vT2, h2, hc2, hf2⟩
  have c2 := h2.blk.cell 1
  have f2 := h2.blk.frozen 1
  have l2 := h2.blk.lt
  simp only [List.getElem?_toArray, List.getElem?_cons_zero, List.getElem?_cons_succ] at c2
  have H2 := Lib.hid (And.intro h2 (And.intro hc2 hf2))
  clear h2 hc2 hf2
  go_wp2_with fail
  refine hK.out _ _ (SH_cons (fun _ => c2) SH_nil) ?_
  clear hK K
  have hk2 : w2.ownsRow 0 3 1 vk st.kn.length (nats st.kn) := Owns.mid (l1 := [(vT2, _)]) H2.out.1.rows
  have HK := Lib.hid hk2
  clear hk2
  have hA : ∀ (o : Obj) (i : Nat), (w2.alloc o).cell? ⟨t, i, none⟩ = w2.cell? ⟨t, i, none⟩ := fun o i => World.cell?_alloc_lt w2 o _ l2
  refine wpAnyI_run (i := 8) (o := ?_) (by kernel_rfl) ?_ (fun K hK => ?_)
  rotate_left 1
  · (simp only [List.getElem?_toArray, List.getElem?_cons_zero, List.getElem?_cons_succ]; rfl)
  go_wp2
  refine hK.out _ _ (SH_cons (fun _ => (hA _ _).trans c2) SH_nil) ?_
  clear hK K
  refine wpAnyI_run (i := 9) (o := ?_) (by kernel_rfl) ?_ (fun K hK => ?_)
  rotate_left 1
  · (simp only [List.getElem?_toArray, List.getElem?_cons_zero, List.getElem?_cons_succ]; rfl)
  go_wp2_with (refine list_app ty_ints rfl (.tmp 10) (.tmp 14) rfl (by rfl) (own_heap (HK.out.alloc _) (by rfl)) w2.heap.size 1 1 3 #[.int .i64 _] (by rfl) (by exact heap_alloc_new w2 _) rfl (by simp [Value.oneCell']) (by decide) (by unfold maxLen; omega) (by omega) (by simp) ?_; intro g' cap w3 hown hgr hat hlt'; have b3 := (H2.out.1.blk.alloc _).grown hgr (H2.out.1.blk.own_ne HK.out (by decide)); have k3 := b3.cell 1; have f3 := b3.frozen 1; simp only [List.getElem?_toArray, List.getElem?_cons_zero, List.getElem?_cons_succ] at k3)
  refine hK.out _ _ (SH_cons (fun h => by cases h) SH_nil) ?_
  clear hK K
  refine wpAnyI_takes (by kernel_rfl) (fun _ _ _ _ _ h => h) [10,11] 1 _ _ _ (by kernel_rfl) (SH_cons (fun h => by cases h) SH_nil) ?_
  intro K hK
  repeat
    (refine takeW_cons (oi := ?_) (v := ?_) ?_ ?_ ?_ ?_
     rotate_left 2
     · (simp only [List.getElem?_toArray, List.getElem?_cons_zero, List.getElem?_cons_succ]; rfl)
     · rfl
     · (intro w' hw'; (try (have hc : w'.cell? _ = some _ := hw'; clear hw')); go_simp; (try with_reducible rfl))
     try simp only [Act.put, List.setIfInBounds_toArray, List.set_cons_zero, List.set_cons_succ])
  refine takeW_nil (hK.out _ ?_)
  clear hK K
  refine wpAnyI_run (i := 12) (o := ?_) (by kernel_rfl) ?_ (fun K hK => ?_)
  rotate_left 1
  · (simp only [List.getElem?_toArray, List.getElem?_cons_zero, List.getElem?_cons_succ]; rfl)
  go_wp2
  refine hK.out _ _ (SH_cons (fun h => by cases h) SH_nil) ?_
  clear hK K
  refine wpAnyI_done (by kernel_rfl) ?_ _
  go_wp2_with fail
  go_ret
  obtain ⟨h1, hc1, hf1⟩ := H1.out
  obtain ⟨h2, hc2, hf2⟩ := H2.out
  obtain ⟨hrep, hfr⟩ := kn_close (a := st.T.length + 1) hm h2 rfl (by simpa using hown) hgr hat b3
  have cc : Chg (fun k => k = t ∨ vT.ownBlock = some k ∨ vk.ownBlock = some k) w w2 := by
    refine (hc1.drewN 1).mono (fun i hi => ?_) |>.trans hc2 (fun i hi => ?_)
    · rcases hi with rfl | hi
      · exact .inl rfl
      · exact .inr (.inl hi)
    · rcases hi with rfl | hi
      · exact .inl (.inl rfl)
      · rcases hf1 i hi with g | g
        · exact .inl (.inr (.inl g))
        · exact .inr g
  refine ⟨by simp, vT2, _, by simpa using hrep, ?_, hf1.trans hf2 (by simpa using hc1.size), hfr.up cc.size⟩
  exact Chg.setCell (chg_grown (cc.alloc _) hgr (fun k hk => .inl (.inr (.inr hk)))) (.inl (.inl rfl)) _
end Go.Proofs.Ytfflidaodnhpbaa.Led
