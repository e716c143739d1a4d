/- Walks through the ledger's own functions. -/
import Derived.Test.YtfflidaodnhpbaaProg
import Derived.Test.YtfflidaodnhpbaaBase
import Derived.Handy
import Derived.Deep.QuietTactic
import Derived.BigQuiet
import Derived.LoopTactic
import Derived.Deep.LoopGhost
import Derived.Deep.DeepCutAuto
import Derived.Deep.RegionHeld3
import Derived.Deep.RegionLawGrows
import Derived.StillTailTactics
import Derived.Outline
namespace Go.Proofs.Ytfflidaodnhpbaa.Led
open Go Go.RowKit Go.Proofs.Ytfflidaodnhpbaa.Base

structure LSt where
  ep : List Nat
  got : Nat
  nw : Nat
  sn : List (Nat × Nat × Nat)

def nats (l : List Nat) : List Value := l.map fun (n : Nat) => .int .i64 (n : Int)
def snv (l : List (Nat × Nat × Nat)) : List Value := l.flatMap fun x => [.int .i64 (x.1 : Int), .int .i64 (x.2.1 : Int), .int .i64 (x.2.2 : Int)]

structure LRep (w : World) (g : Nat) (F : Nat → Prop) (st : LSt) (ve vs : Value) : Prop where
  blk : Blk w g 27 #[ve, .int .i64 (st.got : Int), .int .i64 (st.nw : Int), vs]
  ep : w.ownsRow 0 3 1 ve st.ep.length (nats st.ep)
  sn : w.ownsRow 0 62 3 vs st.sn.length (snv st.sn)
  foot : ∀ k, F k ↔ k = g ∨ ve.ownBlock = some k ∨ vs.ownBlock = some k

structure LOk (st : LSt) : Prop where
  got : st.got ≤ st.ep.length
  len : st.ep.length ≤ 6
  nw : st.nw ≤ 6
  eps : ∀ x ∈ st.ep, x ≤ st.nw
  sn : st.sn.length ≤ 30

def oldest (st : LSt) : Nat := if st.got = 0 then 0 else st.ep.getD (st.got - 1) 0

def pickE (b : Bool) (n : Int) : Int := if b then n else 0

theorem only_calls (n : Int) (b : Bool) (w : World) : Calls Try.prog 35 #[.int .i64 n, .bool b] w fun e w' => e = .returned (.int .i64 (pickE b n)) ∧ ∃ k, w' = w.drewN k := by
  cases b
  all_goals
    go_enter Try.func35, Try.ntmps35
    go_wp2
    go_ret
    exact ⟨rfl, 0, rfl⟩

theorem snv_length (l : List (Nat × Nat × Nat)) : (snv l).length = l.length * 3 := by
  induction l with
  | nil => rfl
  | cons a l ih => simp only [snv, List.flatMap_cons, List.length_append, List.length_cons, List.length_nil] at ih ⊢; omega

theorem oldest_calls {w : World} {g : Nat} {F : Nat → Prop} {st : LSt} {ve vs : Value} (h : LRep w g F st ve vs) (ok : LOk st) :
    Calls Try.prog 23 #[.pointer (some ⟨g, 0, none⟩)] w fun e w' => e = .returned (.int .i64 (oldest st : Int)) ∧ ∃ k, w' = w.drewN k := by
  have c0 := h.blk.cell 0
  have c1 := h.blk.cell 1
  simp only [List.getElem?_toArray, List.getElem?_cons_zero, List.getElem?_cons_succ] at c0 c1
  have hg := ok.got
  have hl := ok.len
  obtain ⟨ep, got, nw, sn⟩ := st
  simp only at *
  by_cases hz : got = 0
  · subst hz
    go_enter Try.func23, Try.ntmps23
    go_wp2
    go_ret
    exact ⟨by simp [oldest], 0, rfl⟩
  · obtain ⟨A, c, rfl, hnc, hcm⟩ := own_len h.ep
    obtain ⟨gb, cap, hv, _, _⟩ := h.ep.form (by simp; omega)
    injection hv with hv1 hv2 hv3
    subst hv1
    have hc := h.ep.cells (g := gb) rfl (got - 1) (.int .i64 (ep.getD (got - 1) 0 : Nat)) (by
      simp [nats, List.getD, List.getElem?_eq_getElem (show got - 1 < ep.length by omega)])
    have hz' : ((got : Int) == 0) = false := by simp; omega
    obtain ⟨m, rfl⟩ : ∃ m, got = m + 1 := ⟨got - 1, by omega⟩
    have hbd : IntKind.i64.wrap (((m + 1 : Nat) : Int) - 1) = (m : Int) := by simp [IntKind.wrap_i64]; omega
    have hm : m < ep.length := by omega
    have hm' : (m : Int) < (ep.length : Int) := by omega
    have hc : w.cell? ⟨gb, m, none⟩ = some (.int .i64 (ep.getD m 0 : Nat)) := by
      have := hc
      by_cases hj : m = 0
      · subst hj; simpa [Addr.add] using this
      · simpa [Addr.add, hj] using this
    go_enter Try.func23, Try.ntmps23
    go_wp2
    go_quiet (fail)
    go_wp2
    go_ret
    exact ⟨by simp only [oldest, Nat.add_sub_cancel, if_neg hz, List.getD, List.getElem?_eq_getElem hm]; rfl, _, rfl⟩

theorem ty_ints : SlTy Try.prog 22 3 (.int .i64 0) 1 8 := ⟨Try.underlying22, by kernel_rfl, rfl, by decide⟩

theorem nats_append (l m : List Nat) : nats (l ++ m) = nats l ++ nats m := by simp [nats]
theorem nats_length (l : List Nat) : (nats l).length = l.length := by simp [nats]

/-- Behind append and store: the ledger again. -/
theorem k3_close {w w' : World} {g : Nat} {F : Nat → Prop} {st : LSt} {ve vs : Value} (h : LRep w g F st ve vs) {g' cap : Nat} {o : Obj}
    (hown : w'.ownsRow 0 3 1 (.slice (some ⟨g', 0, none⟩) (st.ep.length + 1) cap) (st.ep.length + 1) (nats st.ep ++ [.int .i64 (st.nw : Int)]))
    (hgr : (w.alloc o).drew.grownBy w' ve.ownBlock) (hat : ve.ownBlock = some g' ∨ g' = (w.alloc o).drew.heap.size)
    (b1 : Blk w' g 27 #[ve, .int .i64 (st.got : Int), .int .i64 (st.nw : Int), vs]) :
    ∃ F' ve', LRep (w'.setCell ⟨g, 0, none⟩ (.slice (some ⟨g', 0, none⟩) (st.ep.length + 1) cap)) g F' { st with ep := st.ep ++ [st.nw] } ve' vs ∧ Chg F w (w'.setCell ⟨g, 0, none⟩ (.slice (some ⟨g', 0, none⟩) (st.ep.length + 1) cap)) ∧ ∀ k, F' k → F k ∨ w.heap.size ≤ k := by
  have hsz : (w.alloc o).drew.heap.size = w.heap.size + 1 := by simp
  refine ⟨fun k => k = g ∨ g' = k ∨ vs.ownBlock = some k, _, ⟨b1.set_ 0 _, ?_, ?_, fun k => by simp [Value.ownBlock]⟩, ?_, ?_⟩
  · have := own_setCell hown (a := ⟨g, 0, none⟩) (Blk.own_ne b1 hown (by decide)) (.slice (some ⟨g', 0, none⟩) (st.ep.length + 1) cap)
    simpa [nats] using this
  · have h1 : w'.ownsRow 0 62 3 vs st.sn.length (snv st.sn) := (own_drew (h.sn.alloc o)).kept hgr (own_ne_own h.sn h.ep (by decide))
    exact own_setCell h1 (Blk.own_ne b1 h1 (by decide)) _
  · refine Chg.setCell (chg_grown (((Chg.refl F w).alloc o).drew) hgr fun k hk => .inl ((h.foot k).2 (.inr (.inl hk)))) (.inl ((h.foot g).2 (.inl rfl))) _
  · intro k hk
    rcases hk with rfl | rfl | hk
    · exact .inl ((h.foot _).2 (.inl rfl))
    · rcases hat with hat | hat
      · exact .inl ((h.foot _).2 (.inr (.inl hat)))
      · right; omega
    · exact .inl ((h.foot _).2 (.inr (.inr hk)))

theorem k3_calls {w : World} {g : Nat} {F : Nat → Prop} {st : LSt} {ve vs : Value} (h : LRep w g F st ve vs) (h6 : st.ep.length < 6) :
    Calls Try.prog 36 #[.pointer (some ⟨g, 0, none⟩)] w fun e w' => e = .returned (.tuple #[]) ∧ ∃ F' ve', LRep w' g F' { st with ep := st.ep ++ [st.nw] } ve' vs ∧ Chg F w w' ∧ ∀ k, F' k → F k ∨ w.heap.size ≤ k := by
  have c0 := h.blk.cell 0
  have c2 := h.blk.cell 2
  have f0 := h.blk.frozen 0
  have hlt := h.blk.lt
  simp only [List.getElem?_toArray, List.getElem?_cons_zero, List.getElem?_cons_succ] at c0 c2
  go_enter Try.func36, Try.ntmps36
  go_wp2
  go_region_law (refine step_app ty_ints rfl (.tmp 6) (.tmp 11) rfl (by simp [Act.eval]) (h.ep.alloc _) w.heap.size 1 1 3 #[.int .i64 st.nw] (by simp [Act.eval]) (by exact heap_alloc_new w _) rfl (by simp [Value.oneCell']) (by decide) (by unfold maxLen; omega) (by omega) (by simp) ?_; intro g' cap w' hown hgr hat hlt'; have b1 := (h.blk.alloc (.cells #[.int .i64 st.nw] 3)).drewN 1 |>.grown hgr (h.blk.own_ne h.ep (by decide)); have c1 := b1.cell 0; have f1 := b1.frozen 0; simp only [List.getElem?_toArray, List.getElem?_cons_zero] at c1)
  all_goals (go_end0; exact ⟨rfl, k3_close h hown hgr hat b1⟩)

theorem k1_calls (w : World) (v : Value) : Calls Try.prog 33 #[v] w fun e w' => e = .returned (.int .i64 0) ∧ ∃ k, w' = w.drewN k := by
  go_enter Try.func33, Try.ntmps33
  go_wp2
  go_ret
  exact ⟨rfl, 0, rfl⟩

theorem k2_calls {w : World} {g : Nat} {F : Nat → Prop} {st : LSt} {ve vs : Value} (h : LRep w g F st ve vs) :
    Calls Try.prog 34 #[.pointer (some ⟨g, 0, none⟩)] w fun e w' => e = .returned (.int .i64 (pickE (decide ((6 : Int) ≤ (st.ep.length : Int))) 63)) ∧ ∃ k, w' = w.drewN k := by
  have c0 := h.blk.cell 0
  simp only [List.getElem?_toArray, List.getElem?_cons_zero] at c0
  obtain ⟨A, c, rfl, hnc, hcm⟩ := own_len h.ep
  go_enter Try.func34, Try.ntmps34
  go_wp2_with (go_at_call 35; refine (only_calls _ _ _).mono ?_; rintro e w' ⟨rfl, k, rfl⟩)
  go_ret
  exact ⟨rfl, _, rfl⟩

theorem k4_calls {w : World} {g : Nat} {F : Nat → Prop} {st : LSt} {ve vs : Value} (h : LRep w g F st ve vs) :
    Calls Try.prog 37 #[.pointer (some ⟨g, 0, none⟩)] w fun e w' => e = .returned (.int .i64 (pickE (decide (st.ep.length ≤ st.got)) 62)) ∧ ∃ k, w' = w.drewN k := by
  have c0 := h.blk.cell 0
  have c1 := h.blk.cell 1
  simp only [List.getElem?_toArray, List.getElem?_cons_zero, List.getElem?_cons_succ] at c0 c1
  obtain ⟨A, c, rfl, hnc, hcm⟩ := own_len h.ep
  go_enter Try.func37, Try.ntmps37
  go_wp2
  go_quiet ((go_at_call 35; exact Calls.quiet_of (only_calls _ _ _)))
  go_wp2
  go_ret
  exact ⟨rfl, _, rfl⟩

theorem k6_calls {w : World} {g : Nat} {F : Nat → Prop} {st : LSt} {ve vs : Value} (h : LRep w g F st ve vs) :
    Calls Try.prog 39 #[.pointer (some ⟨g, 0, none⟩)] w fun e w' => e = .returned (.int .i64 (pickE (decide ((6 : Int) ≤ (st.nw : Int))) 63)) ∧ ∃ k, w' = w.drewN k := by
  have c0 := h.blk.cell 2
  simp only [List.getElem?_toArray, List.getElem?_cons_zero, List.getElem?_cons_succ] at c0
  go_enter Try.func39, Try.ntmps39
  go_wp2_with (go_at_call 35; refine (only_calls _ _ _).mono ?_; rintro e w' ⟨rfl, k, rfl⟩)
  go_ret
  exact ⟨rfl, _, rfl⟩

/-- A field of the ledger's own block is stored: the slices stay. -/
theorem LRep.store {w : World} {g : Nat} {F : Nat → Prop} {st st' : LSt} {ve vs : Value} (h : LRep w g F st ve vs) (i : Nat) (u : Value) (he : st'.ep = st.ep) (hs : st'.sn = st.sn)
    (hb : #[ve, .int .i64 (st.got : Int), .int .i64 (st.nw : Int), vs].setIfInBounds i u = #[ve, .int .i64 (st'.got : Int), .int .i64 (st'.nw : Int), vs]) : LRep (w.setCell ⟨g, i, none⟩ u) g F st' ve vs ∧ Chg F w (w.setCell ⟨g, i, none⟩ u) := by
  refine ⟨⟨hb ▸ h.blk.set_ i u, ?_, ?_, h.foot⟩, Chg.setCell (Chg.refl F w) (.inl ((h.foot g).2 (.inl rfl))) u⟩
  · rw [he]; exact own_setCell h.ep (h.blk.own_ne h.ep (by decide)) _
  · rw [hs]; exact own_setCell h.sn (h.blk.own_ne h.sn (by decide)) _

theorem k5_calls {w : World} {g : Nat} {F : Nat → Prop} {st : LSt} {ve vs : Value} (h : LRep w g F st ve vs) (h6 : st.got < 100) :
    Calls Try.prog 38 #[.pointer (some ⟨g, 0, none⟩)] w fun e w' => e = .returned (.tuple #[]) ∧ LRep w' g F { st with got := st.got + 1 } ve vs ∧ Chg F w w' := by
  have c0 := h.blk.cell 1
  have f0 := h.blk.frozen 1
  simp only [List.getElem?_toArray, List.getElem?_cons_zero, List.getElem?_cons_succ] at c0
  go_enter Try.func38, Try.ntmps38
  go_wp2
  go_end0
  exact ⟨rfl, h.store (st' := { st with got := st.got + 1 }) 1 _ rfl rfl rfl⟩

theorem k7_calls {w : World} {g : Nat} {F : Nat → Prop} {st : LSt} {ve vs : Value} (h : LRep w g F st ve vs) (h6 : st.nw < 100) :
    Calls Try.prog 40 #[.pointer (some ⟨g, 0, none⟩)] w fun e w' => e = .returned (.tuple #[]) ∧ LRep w' g F { st with nw := st.nw + 1 } ve vs ∧ Chg F w w' := by
  have c0 := h.blk.cell 2
  have f0 := h.blk.frozen 2
  simp only [List.getElem?_toArray, List.getElem?_cons_zero, List.getElem?_cons_succ] at c0
  go_enter Try.func40, Try.ntmps40
  go_wp2
  go_end0
  exact ⟨rfl, h.store (st' := { st with nw := st.nw + 1 }) 2 _ rfl rfl rfl⟩

theorem k8_calls (w : World) (v : Value) : Calls Try.prog 41 #[v] w fun e w' => e = .returned (.tuple #[]) ∧ ∃ k, w' = w.drewN k := by
  go_enter Try.func41, Try.ntmps41
  go_wp2
  go_end0
  exact ⟨rfl, 0, rfl⟩

theorem ty_seen : SlTy Try.prog 25 62 (.agg #[.int .i64 0, .int .i64 0, .int .i64 0]) 3 24 := ⟨Try.underlying25, by kernel_rfl, rfl, by decide⟩

theorem kinds_calls (w : World) : Calls Try.prog 19 #[] w fun e w' => ∃ H, e = .returned (.slice (some ⟨H, 0, none⟩) 5 5) ∧ w.heap.size ≤ H ∧ Below w.heap.size w w' ∧
    ∃ t, Blk w' H t #[.func (.func 34) #[] #[], .func (.func 36) #[] #[], .func (.func 37) #[] #[], .func (.func 38) #[] #[], .func (.func 39) #[] #[], .func (.func 40) #[] #[], .func (.func 33) #[] #[], .func (.func 41) #[] #[], .func (.func 33) #[] #[], .func (.func 42) #[] #[]] := by
  go_enter Try.func19, Try.ntmps19
  go_wp2
  go_ret
  exact ⟨_, rfl, Nat.le_refl _, (Below.refl _ _).alloc (Nat.le_refl _) _, _, Blk.new _ _ _⟩
end Go.Proofs.Ytfflidaodnhpbaa.Led
