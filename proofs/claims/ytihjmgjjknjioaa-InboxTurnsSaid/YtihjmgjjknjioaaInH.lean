/- Walks: Put, Fetch, Room. -/
import Derived.Test.YtihjmgjjknjioaaInG
namespace Go.Proofs.Ytihjmgjjknjioaa.In
open Go Go.RowKit Go.Proofs.Ytihjmgjjknjioaa.Base Go.Proofs.Ytihjmgjjknjioaa.Draw
set_option linter.unusedVariables false
set_option linter.unusedSimpArgs false

theorem ty_rows : SlTy Try.prog 27 32 (.slice none 0 0) 1 24 := ⟨Try.underlying27, by kernel_rfl, rfl, by decide⟩
theorem HRep.other {w w' : World} {F G : Nat → Prop} {mv : Value} {h : HL} (hr : HRep w F mv h) (hB : ∀ B l clock, MapAt w B l clock → w'.heap[B]? = w.heap[B]?) (hFG : ∀ k, F k → G k) (hR : ∀ v y, Rd w F v y → Rd w' G v y) : HRep w' G mv h := by
  rcases hr with h | ⟨B, l, clock, e, fB, hm, hf⟩
  · exact .inl h
  · exact .inr ⟨B, l, clock, e, hFG B fB, hm.same (hB B l clock hm), hf.imp (fun a b hab => ⟨hab.1, hab.2.1, hR _ _ hab.2.2⟩)⟩
structure PutPost (w : World) (F : Nat → Prop) (u : List (List Nat)) (bs : List Nat) (v' : Value) (w' : World) (F' : Nat → Prop) : Prop where
  un : URep w' F' v' (u ++ [bs])
  chg : Chg F w w'
  up : ∀ k, F k → F' k
  new : ∀ k, F' k → F k ∨ w.heap.size ≤ k
  box : ∀ g cs, Blk w g 29 cs → Blk w' g 29 cs
  held : ∀ mv h, HRep w F mv h → HRep w' F' mv h
  low : ∀ k, F' k → k < w'.heap.size
theorem setCells_one (w : World) (b o : Nat) (v : Value) : w.setCells b o [v] = w.setCell ⟨b, o, none⟩ v := rfl
theorem run_put_row {w : World} {F : Nat → Prop} {uv vb : Value} {u : List (List Nat)} {bs : List Nat} {B0 : Nat} (hu : URep w F uv u) (hv : Rd w F vb bs) (hnew : w.heap[B0]? = some (.cells #[vb] 32 (0, 0)))
    (hlen : u.length ≤ 1000) (hlow : ∀ k, F k → k < w.heap.size) (hB0 : ¬ F B0) (ty : TypeId) :
    ∃ v' w' F', (Builtin.append_ #[27, 27] ty #[uv, .slice (some ⟨B0, 0, none⟩) 1 1]).run Try.prog w = .ok v' w' ∧ PutPost w F u bs v' w' F' := by
  obtain ⟨A, c, vs, rfl, h1, h2, h3, h4, h5⟩ := hu
  obtain ⟨i, hi, hz, hsize, hby⟩ := info_parts ty_rows.info
  have hvs := h3.length
  obtain ⟨Ab, cb, rfl, -, -⟩ := hv.lit
  have hc0 : ∀ j u', [Value.slice Ab bs.length cb][j]? = some u' → w.cell? ((⟨B0, 0, none⟩ : Addr).add j) = some u' := by
    intro j u' hj
    have := (Blk.cell (w := w) (g := B0) hnew j)
    cases j with
    | zero => simp at hj; subst hj; simpa [Addr.add] using this
    | succ j => simp at hj
  by_cases hroom : u.length + 1 ≤ c
  · cases A with
    | none => have := h4 rfl; omega
    | some ad =>
      obtain ⟨b, o, rfl, fb, hcl, cs, hh, hs⟩ := h5 ad rfl
      have hrun := run_append_room_cells (P := Try.prog) w 27 ty 32 i ty_rows.ht hi b o u.length c ⟨B0, 0, none⟩ 1 1 [.slice Ab bs.length cb] (by rw [hsize]; rfl) hc0 (by simp [Value.oneCell']) hroom
        (by intro j hj; simp at hj; subst hj; rw [hsize]; have := Blk.cell (w := w) (g := b) hh (o + u.length * 1 + 0); rw [this]; simp; omega)
        (by intro j hj; exact Blk.frozen (w := w) (g := b) hh _)
      rw [hsize, setCells_one] at hrun
      have cF : Chg F w (w.setCell ⟨b, o + u.length * 1, none⟩ (.slice Ab bs.length cb)) := (Chg.refl F w).setCell (.inl fb) _
      have hblk := (show Blk w b 32 cs from hh).set_ (o + u.length * 1) (.slice Ab bs.length cb)
      have hne : ∀ k, k ≠ b → (w.setCell ⟨b, o + u.length * 1, none⟩ (.slice Ab bs.length cb)).heap[k]? = w.heap[k]? := fun k hk => Below.heap_setCell w _ _ k hk
      refine ⟨_, _, F, hrun, ⟨⟨some ⟨b, o, none⟩, c, vs ++ [.slice Ab bs.length cb], by simp, by simpa using hroom, h2, (h3.imp (fun v y r => r.chg cF)).app ⟨hv.chg cF, trivial⟩, (fun e => by cases e), fun ad e => ?_⟩, cF, fun k f => f, fun k f => .inl f, fun g cs' hg => ?_, fun mv h hr => hr.other (fun B l clock hm => hne B (fun e => by subst e; exact blk_ne_map hh hm.heap rfl)) (fun k f => f) (fun v y r => r.chg cF), fun k f => by have := hlow k f; simpa [World.setCell] using this⟩⟩
      · injection e with e
        subst e
        refine ⟨b, o, rfl, fb, fun j v hj => ?_, _, hblk, by simpa using hs⟩
        have hcc := hblk.cell (o + j)
        rw [hcc]
        by_cases hjn : j < vs.length
        · rw [List.getElem?_append_left hjn] at hj
          have h6 := hcl j v hj
          have h7 := (show Blk w b 32 cs from hh).cell (o + j)
          rw [h7] at h6
          rw [Array.getElem?_setIfInBounds_ne (by omega)]
          exact h6
        · rw [List.getElem?_append_right (by omega)] at hj
          have hj0 : j - vs.length = 0 := by
            rcases Nat.eq_zero_or_pos (j - vs.length) with g | g
            · exact g
            · rw [List.getElem?_eq_none (by simp; omega)] at hj; cases hj
          rw [hj0] at hj
          simp only [List.getElem?_cons_zero, Option.some.injEq] at hj
          have : o + j = o + u.length * 1 := by omega
          rw [this, Array.getElem?_setIfInBounds_self_of_lt (by omega), ← hj]
      · exact hg.far (p := ⟨b, o + u.length * 1, none⟩) (fun e => by subst e; exact Blk.ne_ (g := g) hg (show Blk w g 32 cs from hh) (by decide) rfl) _
  · have key : ∃ v' w', (Builtin.append_ #[27, 27] ty #[.slice A u.length c, .slice (some ⟨B0, 0, none⟩) 1 1]).run Try.prog w = .ok v' w' ∧ w'.ownsRow w.heap.size 32 1 v' (u.length + 1) (vs ++ [.slice Ab bs.length cb]) ∧ w.grownBy w' none := by
      cases A with
      | none =>
        have hc := h4 rfl
        subst hc
        have hu0 : u.length = 0 := by omega
        have hv0 : vs = [] := List.eq_nil_of_length_eq_zero (by omega)
        subst hv0
        obtain ⟨v', w', r1, r2, r3, r4, r5⟩ := run_append_own_at (P := Try.prog) w w.heap.size 27 ty 32 i (.slice none 0 0) 1 24 ty_rows.ht hi hz hsize hby rfl (by decide) (.slice none 0 0) 0 [] (World.ownsRow_nil _ _ _ _) ⟨B0, 0, none⟩ 1 1 [.slice Ab bs.length cb] rfl hc0 (by simp [Value.oneCell']) (by unfold maxLen; omega) (by omega) (Nat.le_refl _)
        rw [hu0]
        exact ⟨v', w', r1, by simpa using r2, by simpa [Value.ownBlock] using r3⟩
      | some ad =>
        obtain ⟨b, o, rfl, fb, hcl, cs, hh, hs⟩ := h5 ad rfl
        exact run_append_arg_grows (P := Try.prog) w 27 ty 32 i (.slice none 0 0) 1 24 ty_rows.ht hi hz hsize hby rfl (by decide) ⟨b, o, none⟩ u.length c vs (by omega) (fun j u' hj => by rw [Addr.add_lit]; exact hcl j u' hj) ⟨B0, 0, none⟩ 1 1 [.slice Ab bs.length cb] rfl hc0 (by omega) (by unfold maxLen; omega) (by omega)
    obtain ⟨v', w', r1, r2, r3⟩ := key
    rcases r2.2 with ⟨-, e0⟩ | ⟨g, cap, cur, rfl, hbase, hh, hn1, hn2, hn3, hn4⟩
    · omega
    · have cF : Chg F w w' := chg_grown (Chg.refl F w) r3 (fun k hk => by cases hk)
      have hold : ∀ k, k < w.heap.size → w'.heap[k]? = w.heap[k]? := fun k hk => r3.block k hk (by simp)
      have hG : ∀ k, (F k ∨ k = g) → F k ∨ w.heap.size ≤ k := fun k hk => hk.imp id (fun e => by omega)
      have hRd : ∀ v y, Rd w F v y → Rd w' (fun k => F k ∨ k = g) v y := fun v y r => r.foot (r.chg cF) hG
      refine ⟨_, w', fun k => F k ∨ k = g, r1, ⟨⟨some ⟨g, 0, none⟩, cap, vs ++ [.slice Ab bs.length cb], by simp, by simpa using hn1, hn2, (h3.imp hRd).app ⟨hRd _ _ hv, trivial⟩, (fun e => by cases e), fun ad e => ?_⟩, cF, fun k f => .inl f, hG, fun g' cs' hg => (hold g' hg.lt).trans hg, fun mv h hr => hr.other (fun B l clock hm => hold B hm.lt_) (fun k f => .inl f) hRd, fun k f => ?_⟩⟩
      · injection e with e
        subst e
        refine ⟨g, 0, rfl, .inr rfl, fun j v hj => ?_, cur, hh, by omega⟩
        have h6 := r2.cells (g := g) rfl j v hj
        by_cases hj0 : j = 0
        · subst hj0; simpa [Addr.add] using h6
        · simpa [Addr.add, hj0] using h6
      · rcases f with f | rfl
        · have := hlow k f; have := r3.size; omega
        · exact lt_of_block hh

theorem URep.setBox {w : World} {g : Nat} {F : Nat → Prop} {uv : Value} {u : List (List Nat)} {cs : Array Value} (h : URep w F uv u) (hb : Blk w g 29 cs) (fg : F g) (i : Nat) (x : Value) : URep (w.setCell ⟨g, i, none⟩ x) F uv u := by
  obtain ⟨A, c, vs, e, h1, h2, h3, h4, h5⟩ := h
  have cF : Chg F w (w.setCell ⟨g, i, none⟩ x) := (Chg.refl F w).setCell (.inl fg) _
  refine ⟨A, c, vs, e, h1, h2, h3.imp (fun v y r => r.chg cF), h4, fun ad ha => ?_⟩
  obtain ⟨b, o, e2, fb, hcl, cs', hh, hs⟩ := h5 ad ha
  have hne : b ≠ g := by
    rintro rfl
    exact Blk.ne_ (g := b) hh hb (by decide) rfl
  have hblk := Below.heap_setCell w ⟨g, i, none⟩ x b hne
  exact ⟨b, o, e2, fb, fun j v hv => (World.cell?_of_block hblk).trans (hcl j v hv), cs', hblk.trans hh, hs⟩
theorem HRep.setBox {w : World} {g : Nat} {F : Nat → Prop} {mv : Value} {h : HL} {cs : Array Value} (hr : HRep w F mv h) (hb : Blk w g 29 cs) (fg : F g) (i : Nat) (x : Value) : HRep (w.setCell ⟨g, i, none⟩ x) F mv h :=
  hr.other (fun B l clock hm => Below.heap_setCell w ⟨g, i, none⟩ x B (fun e => by subst e; exact blk_ne_map (g := B) hb hm.heap rfl)) (fun k f => f) (fun v y r => r.chg ((Chg.refl F w).setCell (.inl fg) _))
theorem box_set1 {w : World} {g : Nat} {F : Nat → Prop} {mv uv uv' : Value} {h : HL} {u' : List (List Nat)} (hb : Blk w g 29 #[mv, uv]) (hh : HRep w F mv h) (hu : URep w F uv' u') (fg : F g) (low : ∀ k, F k → k < w.heap.size) :
    BRep (w.setCell ⟨g, 1, none⟩ uv') g F mv uv' h u' :=
  ⟨by simpa using hb.set_ 1 uv', hh.setBox hb fg 1 uv', hu.setBox hb fg 1 uv', fg, fun k f => by simpa [World.setCell] using low k f⟩

theorem room_calls {w : World} {g : Nat} {F : Nat → Prop} {mv uv : Value} {h : HL} {u : List (List Nat)} (hr : BRep w g F mv uv h u) (h8 : u.length ≤ 8) :
    Calls Try.prog 20 #[.pointer (some ⟨g, 0, none⟩)] w fun e w' => e = .returned (.int .i64 (8 - (u.length : Int))) ∧ w = w' := by
  have y1 := hr.blk.cell 1
  obtain ⟨A, c, vs, rfl, -⟩ := hr.un
  simp only [List.getElem?_toArray, List.getElem?_cons_zero, List.getElem?_cons_succ] at y1
  clear hr
  generalize u.length = n at *
  go_enter Try.func20, Try.ntmps20
  go_wp2_with fail
  go_ret
  exact ⟨rfl, rfl⟩
def putE (u : List (List Nat)) : Int := if 8 ≤ u.length then 63 else 0
def putU (u : List (List Nat)) (bs : List Nat) : List (List Nat) := if 8 ≤ u.length then u else u ++ [bs]

theorem list_run {P : Program} {w w' : World} {ops : Array Oper} {rest : List Oper} {o : Oper} {a : Act} {Q : Exit → Act → World → Prop} {v' vs vx : Value} {t : TypeId} (hgd : o.guard = none) (s x : Operand)
    (ho : o.op = .call { callee := .builtin .append, args := #[s, x], argTypes := #[t, t] }) (hs : a.eval s = vs) (hx : a.eval x = vx)
    (hrun : (Builtin.append_ #[t, t] o.type #[vs, vx]).run P w = .ok v' w') (h : wpList P ops Q rest (a.put o.dst v') w') : wpList P ops Q (o :: rest) a w :=
  wpList_plain hgd fun K hK => by
    unfold Oper.wp execOp
    simp only [ho, resolve, invoke, builtin, Sem.run_bind, Sem.run_pure, Result.andThen_ok, List.map_toArray, List.map_cons, List.map_nil, hs, hx, hrun]
    exact hK _ _ h

set_option maxRecDepth 100000 in
set_option maxHeartbeats 2000000 in
theorem put_calls {w : World} {g : Nat} {F : Nat → Prop} {mv uv vb : Value} {h : HL} {u : List (List Nat)} {bs : List Nat} (hr : BRep w g F mv uv h u) (h8 : u.length ≤ 8) (hb : Rd w F vb bs) :
    Calls Try.prog 13 #[.pointer (some ⟨g, 0, none⟩), vb] w (BoxPost w g F h (putU u bs) (.int .i64 (putE u))) := by
  have HR := Lib.hid hr
  have HB := Lib.hid hb
  have y1 := hr.blk.cell 1
  have hgl := hr.blk.lt
  simp only [List.getElem?_toArray, List.getElem?_cons_zero, List.getElem?_cons_succ] at y1
  have HRoom := Lib.hid (room_calls hr h8)
  clear hr hb
  by_cases h88 : 8 ≤ u.length
  · have e1 : putE u = 63 := by unfold putE; rw [if_pos h88]
    have e2 : putU u bs = u := by unfold putU; rw [if_pos h88]
    have e3 : (8 - (u.length : Int)) = 0 := by omega
    rw [e1, e2]
    rw [e3] at HRoom
    clear e1 e2 e3
    go_enter Try.func13, Try.ntmps13
    go_wp2_with fail
    refine HRoom.out.mono ?_
    rintro e w1 ⟨rfl, rfl⟩
    go_wp2_with fail
    go_ret
    exact ⟨rfl, F, _, _, HR.out, Chg.refl _ _, fun k f => .inl f⟩
  · have e1 : putE u = 0 := by unfold putE; rw [if_neg h88]
    have e2 : putU u bs = u ++ [bs] := by unfold putU; rw [if_neg h88]
    have c1 : ((8 - (u.length : Int)) == 0) = false := by simp; omega
    rw [e1, e2]
    clear e1 e2
    go_enter Try.func13, Try.ntmps13
    go_wp2_with fail
    refine HRoom.out.mono ?_
    rintro e w1 ⟨rfl, rfl⟩
    go_wp2_with fail
    refine wp_region_I [⟨4, [8, 11], ⟨g, 1, none⟩, uv⟩] (by kernel_rfl) ?_
    refine wpAnyI_takes (by kernel_rfl) (fun _ _ _ _ _ h => h) [0,1,2,3,4,5] 6 _ _ _ (by kernel_rfl) (SH_cons (fun _ => y1) SH_nil) ?_
    intro K hK
    repeat
      (refine takeW_cons (oi := ?_) (v := ?_) ?_ ?_ ?_ ?_
       rotate_left 2
       · (simp only [List.getElem?_toArray, List.getElem?_cons_zero, List.getElem?_cons_succ]; rfl)
       · rfl
       · (intro w' hw'; (try (have hc : w'.cell? _ = some _ := hw'; clear hw')); go_simp; (try with_reducible rfl))
       try simp only [Act.put, List.setIfInBounds_toArray, List.set_cons_zero, List.set_cons_succ])
    refine takeW_nil (hK.out _ ?_)
    clear hK K
    refine wpAnyI_run (i := 6) (o := ?_) (by kernel_rfl) ?_ (fun K hK => ?_)
    rotate_left 1
    · (simp only [List.getElem?_toArray, List.getElem?_cons_zero, List.getElem?_cons_succ]; rfl)
    go_wp2_with (go_at_call 23; refine (clone_calls (HB.out.drewN 1) (fun k hk => HR.out.low k hk)).mono ?_; rintro e w3 ⟨v3, rfl, r3, b3⟩; replace b3 : Below w.heap.size w w3 := (below_drewN (Below.refl _ _) 1).trans b3; have y3 := (b3.cell (p := ⟨g, 1, none⟩) hgl).trans y1; have hg3 := Nat.lt_of_lt_of_le hgl b3.size; obtain ⟨A3, c3, rfl, -, -⟩ := r3.lit; have B3 := Lib.hid (And.intro r3 b3); clear r3 b3)
    refine hK.out _ _ (SH_cons (fun _ => y3) SH_nil) ?_
    clear hK K
    refine wpAnyI_run (i := 7) (o := ?_) (by kernel_rfl) ?_ (fun K hK => ?_)
    rotate_left 1
    · (simp only [List.getElem?_toArray, List.getElem?_cons_zero, List.getElem?_cons_succ]; rfl)
    go_wp2_with fail
    refine hK.out _ _ (SH_cons (fun _ => (World.cell?_alloc_lt w3 _ ⟨g, 1, none⟩ hg3).trans y3) SH_nil) ?_
    clear hK K
    have bA : Below w3.heap.size w3 (w3.alloc (.cells #[.slice A3 bs.length c3] 32)) := (Below.refl _ _).alloc (Nat.le_refl _) _
    have R4 := Lib.hid ((HR.out.below B3.out.2).below bA)
    obtain ⟨v', w', F', hrun, P⟩ := run_put_row (B0 := w3.heap.size) R4.out.un (B3.out.1.below bA) (heap_alloc_new w3 _) (by omega) R4.out.low (fun f => by have := (HR.out.below B3.out.2).low _ f; omega) 27
    have PP := Lib.hid P
    obtain ⟨A', c', vs', rfl, -⟩ := P.un
    have b5 := P.box g _ R4.out.blk
    have y5 := b5.cell 1
    have f5 := b5.frozen 1
    simp only [List.getElem?_toArray, List.getElem?_cons_zero, List.getElem?_cons_succ] at y5
    have HRun := Lib.hid hrun
    clear hrun P b5
    refine wpAnyI_run (i := 8) (o := ?_) (by kernel_rfl) ?_ (fun K hK => ?_)
    rotate_left 1
    · (simp only [List.getElem?_toArray, List.getElem?_cons_zero, List.getElem?_cons_succ]; rfl)
    go_wp2_with (refine list_run rfl (.tmp 12) (.tmp 15) rfl (by simp [Act.eval]) (by simp [Act.eval]) HRun.out ?_)
    refine hK.out _ _ (SH_cons (fun h => by cases h) SH_nil) ?_
    clear hK K
    refine wpAnyI_takes (by kernel_rfl) (fun _ _ _ _ _ h => h) [9,10] 1 _ _ _ (by kernel_rfl) (SH_cons (fun h => by cases h) SH_nil) ?_
    intro K hK
    repeat
      (refine takeW_cons (oi := ?_) (v := ?_) ?_ ?_ ?_ ?_
       rotate_left 2
       · (simp only [List.getElem?_toArray, List.getElem?_cons_zero, List.getElem?_cons_succ]; rfl)
       · rfl
       · (intro w' hw'; (try (have hc : w'.cell? _ = some _ := hw'; clear hw')); go_simp; (try with_reducible rfl))
       try simp only [Act.put, List.setIfInBounds_toArray, List.set_cons_zero, List.set_cons_succ])
    refine takeW_nil (hK.out _ ?_)
    clear hK K
    refine wpAnyI_run (i := 11) (o := ?_) (by kernel_rfl) ?_ (fun K hK => ?_)
    rotate_left 1
    · (simp only [List.getElem?_toArray, List.getElem?_cons_zero, List.getElem?_cons_succ]; rfl)
    go_wp2_with fail
    refine hK.out _ _ (SH_cons (fun h => by cases h) SH_nil) ?_
    clear hK K
    refine wpAnyI_done (by kernel_rfl) ?_ _
    go_wp2_with fail
    go_ret
    have cW : Chg F w w' := ((Chg.of_below B3.out.2).trans (Chg.of_below (F := F) bA) (fun k f => .inl f)).trans PP.out.chg (fun k f => .inl f)
    have hun := PP.out.un
    rw [show (u ++ [bs]).length = u.length + 1 by simp] at hun
    refine ⟨rfl, F', _, _, box_set1 (PP.out.box g _ R4.out.blk) (PP.out.held _ _ R4.out.held) hun (PP.out.up g R4.out.foot) PP.out.low, cW.setCell (.inl HR.out.foot) _, fun k hk => ?_⟩
    rcases PP.out.new k hk with f | f
    · exact .inl f
    · right
      have h1 := B3.out.2.size
      have h2 := bA.size
      omega

theorem tail_rep {w : World} {F : Nat → Prop} {b o o' c : Nat} {v0 : Value} {vs : List Value} {y : List Nat} {u : List (List Nat)} {cs : Array Value} (h3 : All2 (Rd w F) (v0 :: vs) (y :: u))
    (hcl : ∀ j v, (v0 :: vs)[j]? = some v → w.cell? ⟨b, o + j, none⟩ = some v) (hh : w.heap[b]? = some (.cells cs 32 (0, 0))) (hs : o + c ≤ cs.size) (fb : F b) (hc : u.length + 1 ≤ c) (hm : c ≤ maxLen) (ho : o' = o + 1 ∨ (o' = o ∧ c = 1)) :
    URep w F (.slice (some ⟨b, o', none⟩) u.length (c - 1)) u := by
  refine ⟨some ⟨b, o', none⟩, c - 1, vs, rfl, by omega, by omega, h3.2, (fun e => by cases e), fun ad e => ?_⟩
  injection e with e
  subst e
  refine ⟨b, o', rfl, fb, fun j v hj => ?_, cs, hh, ?_⟩
  · rcases ho with rfl | ⟨rfl, h1⟩
    · have := hcl (j + 1) v (by simpa using hj)
      have e : o + (j + 1) = o + 1 + j := by omega
      rw [e] at this
      exact this
    · have hl := h3.2.length
      have : vs = [] := List.eq_nil_of_length_eq_zero (by omega)
      subst this
      simp at hj
  · rcases ho with rfl | ⟨rfl, h1⟩ <;> omega
def fetchE (u : List (List Nat)) : Int := if u = [] then 90 else 0
def FetchPost (w : World) (g : Nat) (F : Nat → Prop) (h : HL) (u : List (List Nat)) (e : Ending) (w' : World) : Prop :=
  ∃ v, e = .returned (.tuple #[v, .int .i64 (fetchE u)]) ∧ Rd w' F v (u.headD []) ∧ (∃ mv' uv', BRep w' g F mv' uv' h u.tail) ∧ Chg F w w'
set_option maxRecDepth 100000 in
set_option maxHeartbeats 2000000 in
theorem fetch_calls {w : World} {g : Nat} {F : Nat → Prop} {mv uv : Value} {h : HL} {u : List (List Nat)} (hr : BRep w g F mv uv h u) :
    Calls Try.prog 15 #[.pointer (some ⟨g, 0, none⟩)] w (FetchPost w g F h u) := by
  have HR := Lib.hid hr
  have y1 := hr.blk.cell 1
  have f1 := hr.blk.frozen 1
  have hgl := hr.blk.lt
  simp only [List.getElem?_toArray, List.getElem?_cons_zero, List.getElem?_cons_succ] at y1
  obtain ⟨A, c, vs, rfl, h1, h2, h3, h4, h5⟩ := hr.un
  have h2' := h2
  unfold maxLen at h2'
  cases u with
  | nil =>
    clear hr h3 h4 h5
    have c1 : (((([] : List (List Nat)).length : Nat) : Int) == 0) = true := by simp
    go_enter Try.func15, Try.ntmps15
    go_wp2_with fail
    go_ret2
    exact ⟨_, rfl, rd_nil _ _, ⟨_, _, HR.out⟩, Chg.refl _ _⟩
  | cons y u =>
    cases vs with
    | nil => exact h3.elim
    | cons v0 vs =>
      cases A with
      | none => have := h4 rfl; simp at h1; omega
      | some ad =>
        obtain ⟨b, o, rfl, fb, hcl, cs, hh, hs⟩ := h5 ad rfl
        have z0 := hcl 0 v0 rfl
        have R0 := Lib.hid h3
        have HC := Lib.hid (And.intro hcl (And.intro hh (And.intro hs fb)))
        have hl : (y :: u).length = u.length + 1 := by simp
        have HL := Lib.hid hl
        rw [hl] at h1 y1
        simp only [Nat.add_zero] at z0
        clear hr h3 h4 h5 hcl hh hs hl fb
        generalize hn : u.length = n at *
        have HN := Lib.hid hn
        clear hn
        have fin : ∀ o', (o' = o + 1 ∨ (o' = o ∧ c = 1)) → FetchPost w g F h (y :: u) (.returned (.tuple #[v0, .int .i64 0])) (w.setCell ⟨g, 1, none⟩ (.slice (some ⟨b, o', none⟩) n (c - 1))) := fun o' ho => by
          have t := tail_rep R0.out HC.out.1 HC.out.2.1 HC.out.2.2.1 HC.out.2.2.2 (by rw [HN.out]; exact h1) h2 ho
          rw [HN.out] at t
          have cF : Chg F w (w.setCell ⟨g, 1, none⟩ (.slice (some ⟨b, o', none⟩) n (c - 1))) := (Chg.refl F w).setCell (.inl HR.out.foot) _
          exact ⟨v0, rfl, R0.out.1.chg cF, ⟨_, _, box_set1 HR.out.blk HR.out.held t HR.out.foot HR.out.low⟩, cF⟩
        have HFin := Lib.hid fin
        clear fin
        have c1 : (((n + 1 : Nat) : Int) == 0) = false := by simp; omega
        go_enter Try.func15, Try.ntmps15
        go_wp2_with fail
        · rename_i hcc
          go_ret2
          have hc1 : c = 1 := by omega
          subst hc1
          exact HFin.out o (.inr ⟨rfl, rfl⟩)
        · go_ret2
          exact HFin.out (o + 1) (.inl rfl)
end Go.Proofs.Ytihjmgjjknjioaa.In
