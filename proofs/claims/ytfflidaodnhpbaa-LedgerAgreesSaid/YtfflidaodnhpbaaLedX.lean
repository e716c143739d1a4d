/- Walks through the ledger's own functions, further. -/
import Derived.Test.YtfflidaodnhpbaaProg
import Derived.Test.YtfflidaodnhpbaaLedW
import Derived.Test.YtfflidaodnhpbaaDraw
import Derived.Handy
import Derived.Deep.QuietTactic
import Derived.BigQuiet
import Derived.LoopTactic
import Derived.Deep.LoopGhost
import Derived.Deep.DeepCutAuto
import Derived.Deep.RegionHeld3
import Derived.Deep.RegionLawGrows
import Derived.StillTailTactics
import Derived.Outline
namespace Go.Proofs.Ytfflidaodnhpbaa.Led
open Go Go.RowKit Go.Proofs.Ytfflidaodnhpbaa.Base Go.Proofs.Ytfflidaodnhpbaa.Draw

theorem LRep.drewN {w : World} {g : Nat} {F : Nat → Prop} {st : LSt} {ve vs : Value} (h : LRep w g F st ve vs) (k : Nat) : LRep (w.drewN k) g F st ve vs := ⟨h.blk, h.ep, h.sn, h.foot⟩

/-- Behind append and store: the ledger again. -/
theorem k9_close {w w' : World} {g : Nat} {F : Nat → Prop} {st : LSt} {ve vs : Value} (h : LRep w g F st ve vs) {g' cap k : Nat} {o : Obj}
    (hown : w'.ownsRow 0 62 3 (.slice (some ⟨g', 0, none⟩) (st.sn.length + 1) cap) (st.sn.length + 1) (snv st.sn ++ [.int .i64 (st.got : Int), .int .i64 (oldest st : Int), .int .i64 (st.nw : Int)]))
    (hgr : ((w.alloc o).drewN k).grownBy w' vs.ownBlock) (hat : vs.ownBlock = some g' ∨ g' = ((w.alloc o).drewN k).heap.size)
    (b1 : Blk w' g 27 #[ve, .int .i64 (st.got : Int), .int .i64 (st.nw : Int), vs]) :
    ∃ F' vs', LRep (w'.setCell ⟨g, 3, none⟩ (.slice (some ⟨g', 0, none⟩) (st.sn.length + 1) cap)) g F' { st with sn := st.sn ++ [(st.got, oldest st, st.nw)] } ve vs' ∧ Chg F w (w'.setCell ⟨g, 3, none⟩ (.slice (some ⟨g', 0, none⟩) (st.sn.length + 1) cap)) ∧ ∀ k, F' k → F k ∨ w.heap.size ≤ k := by
  have hsz : ((w.alloc o).drewN k).heap.size = w.heap.size + 1 := by simp
  refine ⟨fun k => k = g ∨ ve.ownBlock = some k ∨ g' = k, _, ⟨b1.set_ 3 _, ?_, ?_, fun k => by simp [Value.ownBlock]⟩, ?_, ?_⟩
  · have h1 : w'.ownsRow 0 3 1 ve st.ep.length (nats st.ep) := (own_drewN (h.ep.alloc o) k).kept hgr (own_ne_own h.ep h.sn (by decide))
    exact own_setCell h1 (Blk.own_ne b1 h1 (by decide)) _
  · have := own_setCell hown (a := ⟨g, 3, none⟩) (Blk.own_ne b1 hown (by decide)) (.slice (some ⟨g', 0, none⟩) (st.sn.length + 1) cap)
    simpa [snv] using this
  · refine Chg.setCell (chg_grown (((Chg.refl F w).alloc o).drewN k) hgr fun k hk => .inl ((h.foot k).2 (.inr (.inr hk)))) (.inl ((h.foot g).2 (.inl rfl))) _
  · intro k hk
    rcases hk with rfl | hk | rfl
    · exact .inl ((h.foot _).2 (.inl rfl))
    · exact .inl ((h.foot _).2 (.inr (.inl hk)))
    · rcases hat with hat | hat
      · exact .inl ((h.foot _).2 (.inr (.inr hat)))
      · right; omega

set_option maxRecDepth 100000 in
set_option maxHeartbeats 1000000 in
theorem k9_calls {w : World} {g : Nat} {F : Nat → Prop} {st : LSt} {ve vs : Value} (h : LRep w g F st ve vs) (ok : LOk st) :
    Calls Try.prog 42 #[.pointer (some ⟨g, 0, none⟩)] w fun e w' => e = .returned (.tuple #[]) ∧ ∃ F' vs', LRep w' g F' { st with sn := st.sn ++ [(st.got, oldest st, st.nw)] } ve vs' ∧ Chg F w w' ∧ ∀ k, F' k → F k ∨ w.heap.size ≤ k := by
  have c1 := h.blk.cell 1
  have c2 := h.blk.cell 2
  have c3 := h.blk.cell 3
  have f3 := h.blk.frozen 3
  have hlt := h.blk.lt
  have hs := ok.sn
  simp only [List.getElem?_toArray, List.getElem?_cons_zero, List.getElem?_cons_succ] at c1 c2 c3
  have hlen := snv_length st.sn
  have hA := cell_drewN_alloc hlt
  go_enter Try.func42, Try.ntmps42
  go_wp2
  refine wp_region_I [⟨4, [17, 20], ⟨g, 3, none⟩, vs⟩, ⟨8, [20], ⟨g, 1, none⟩, .int .i64 (st.got : Int)⟩, ⟨14, [20], ⟨g, 2, none⟩, .int .i64 (st.nw : Int)⟩] (by kernel_rfl) ?_
  refine wpAnyI_takes (by kernel_rfl) (fun _ _ _ _ _ h => h) [0,1,2,3,4,5,6,7,8,9,11,12,13,14] 7 _ _ _ (by kernel_rfl) (SH_cons (fun _ => c3) (SH_cons (fun _ => c1) (SH_cons (fun _ => c2) SH_nil))) ?_
  intro K hK
  repeat
    (refine takeW_cons (oi := ?_) (v := ?_) ?_ ?_ ?_ ?_
     rotate_left 2
     · (simp only [List.getElem?_toArray, List.getElem?_cons_zero, List.getElem?_cons_succ]; rfl)
     · rfl
     · (intro w' hw'; (try (have hc : w'.cell? _ = some _ := hw'; clear hw')); go_simp; (try with_reducible rfl))
     try simp only [Act.put, List.setIfInBounds_toArray, List.set_cons_zero, List.set_cons_succ])
  refine takeW_nil (hK.out _ ?_)
  clear hK K
  refine wpAnyI_run (i := 10) (o := ?_) (by kernel_rfl) ?_ (fun K hK => ?_)
  rotate_left 1
  · (simp only [List.getElem?_toArray, List.getElem?_cons_zero, List.getElem?_cons_succ]; rfl)
  go_wp2_with (go_at_call 23; refine (oldest_calls (h.drewN 1) ok).mono ?_; rintro e w' ⟨rfl, k, rfl⟩)
  refine hK.out _ _ (SH_cons (fun _ => c3) (SH_cons (fun _ => c1) (SH_cons (fun _ => c2) SH_nil))) ?_
  clear hK K
  refine wpAnyI_takes (by kernel_rfl) (fun _ _ _ _ _ h => h) [15] 5 _ _ _ (by kernel_rfl) (SH_cons (fun _ => c3) (SH_cons (fun _ => c1) (SH_cons (fun _ => c2) SH_nil))) ?_
  intro K hK
  repeat
    (refine takeW_cons (oi := ?_) (v := ?_) ?_ ?_ ?_ ?_
     rotate_left 2
     · (simp only [List.getElem?_toArray, List.getElem?_cons_zero, List.getElem?_cons_succ]; rfl)
     · rfl
     · (intro w' hw'; (try (have hc : w'.cell? _ = some _ := hw'; clear hw')); go_simp; (try with_reducible rfl))
     try simp only [Act.put, List.setIfInBounds_toArray, List.set_cons_zero, List.set_cons_succ])
  refine takeW_nil (hK.out _ ?_)
  clear hK K
  refine wpAnyI_run (i := 16) (o := ?_) (by kernel_rfl) ?_ (fun K hK => ?_)
  rotate_left 1
  · (simp only [List.getElem?_toArray, List.getElem?_cons_zero, List.getElem?_cons_succ]; rfl)
  go_wp2
  refine hK.out _ _ (SH_cons (fun _ => (hA _ _ _).trans c3) (SH_cons (fun _ => (hA _ _ _).trans c1) (SH_cons (fun _ => (hA _ _ _).trans c2) SH_nil))) ?_
  clear hK K
  refine wpAnyI_run (i := 17) (o := ?_) (by kernel_rfl) ?_ (fun K hK => ?_)
  rotate_left 1
  · (simp only [List.getElem?_toArray, List.getElem?_cons_zero, List.getElem?_cons_succ]; rfl)
  go_wp2_with (refine list_app ty_seen rfl (.tmp 6) (.tmp 18) rfl (by simp [Act.eval]) (own_heap (h.sn.alloc (.cells #[.int .i64 st.got, .int .i64 (oldest st), .int .i64 st.nw] 62)) (by rfl)) w.heap.size 1 1 62 #[.int .i64 st.got, .int .i64 (oldest st), .int .i64 st.nw] (by simp [Act.eval]) (by exact heap_alloc_new w _) rfl (by simp [Value.oneCell']) (by decide) (by unfold maxLen; omega) (by omega) (by simp) ?_; intro g' cap w' hown hgr hat hlt'; have b1 := (Blk.heap (h.blk.alloc (.cells #[.int .i64 st.got, .int .i64 (oldest st), .int .i64 st.nw] 62)) (by rfl)).grown hgr (h.blk.own_ne h.sn (by decide)); have d1 := b1.cell 3; have e1 := b1.frozen 3; have hd1 := b1.cell 1; have hd2 := b1.cell 2; simp only [List.getElem?_toArray, List.getElem?_cons_zero, List.getElem?_cons_succ] at d1 hd1 hd2)
  refine hK.out _ _ (SH_cons (fun _ => d1) (SH_cons (fun _ => hd1) (SH_cons (fun _ => hd2) SH_nil))) ?_
  clear hK K
  refine wpAnyI_takes (by kernel_rfl) (fun _ _ _ _ _ h => h) [18,19] 1 _ _ _ (by kernel_rfl) (SH_cons (fun _ => d1) (SH_cons (fun _ => hd1) (SH_cons (fun _ => hd2) SH_nil))) ?_
  intro K hK
  repeat
    (refine takeW_cons (oi := ?_) (v := ?_) ?_ ?_ ?_ ?_
     rotate_left 2
     · (simp only [List.getElem?_toArray, List.getElem?_cons_zero, List.getElem?_cons_succ]; rfl)
     · rfl
     · (intro w' hw'; (try (have hc : w'.cell? _ = some _ := hw'; clear hw')); go_simp; (try with_reducible rfl))
     try simp only [Act.put, List.setIfInBounds_toArray, List.set_cons_zero, List.set_cons_succ])
  refine takeW_nil (hK.out _ ?_)
  clear hK K
  refine wpAnyI_run (i := 20) (o := ?_) (by kernel_rfl) ?_ (fun K hK => ?_)
  rotate_left 1
  · (simp only [List.getElem?_toArray, List.getElem?_cons_zero, List.getElem?_cons_succ]; rfl)
  go_wp2
  refine hK.out _ _ (SH_cons (fun h => by cases h) (SH_cons (fun h => by cases h) (SH_cons (fun h => by cases h) SH_nil))) ?_
  clear hK K
  refine wpAnyI_done (by kernel_rfl) ?_ _
  go_end0
  exact ⟨rfl, k9_close h hown hgr hat b1⟩
end Go.Proofs.Ytfflidaodnhpbaa.Led
