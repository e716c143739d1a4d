/- Walk: Hold. -/
import Derived.Test.YtihjmgjjknjioaaInB
namespace Go.Proofs.Ytihjmgjjknjioaa.In
open Go Go.RowKit Go.Proofs.Ytihjmgjjknjioaa.Base Go.Proofs.Ytihjmgjjknjioaa.Draw
set_option linter.unusedVariables false
set_option linter.unusedSimpArgs false

def holdE (h : HL) (nx ix : Nat) (bs : List Nat) : Int :=
  if ix ≤ nx then 84 else if nx + 4 ≤ ix then 85 else match lookH h ix with | some was => if was = bs then 0 else 63 | none => 0
def holdH (h : HL) (nx ix : Nat) (bs : List Nat) : HL := if holdE h nx ix bs = 0 then putH h ix bs else h
def BoxPost (w : World) (g : Nat) (F : Nat → Prop) (h' : HL) (u' : List (List Nat)) (E : Value) (e : Ending) (w' : World) : Prop :=
  e = .returned E ∧ ∃ F' mv' uv', BRep w' g F' mv' uv' h' u' ∧ Chg F w w' ∧ ∀ k, F' k → F k ∨ w.heap.size ≤ k

theorem URep.foot {w w' : World} {F G : Nat → Prop} {uv : Value} {u : List (List Nat)} (h : URep w F uv u) (hb : Chg (fun k => F k ∧ ∀ A c, uv = .slice (some A) u.length c → A.block ≠ k) w w') (hG : ∀ k, G k → F k ∨ w.heap.size ≤ k) (hG2 : ∀ k, F k → G k) : URep w' G uv u := by
  obtain ⟨A, c, vs, e, h1, h2, h3, h4, h5⟩ := h
  refine ⟨A, c, vs, e, h1, h2, h3.imp (fun v y r => r.foot (r.chg (hb.mono (fun k hk => hk.1))) hG), h4, fun ad ha => ?_⟩
  obtain ⟨b, o, e2, fb, hc, cs, hh, hs⟩ := h5 ad ha
  have hlt := lt_of_block hh
  have hblk : w'.heap[b]? = w.heap[b]? := hb.block b hlt (fun f => f.2 ad c (by rw [e, ha]) (by rw [e2]))
  refine ⟨b, o, e2, hG2 b fb, fun j v hv => ?_, cs, hblk.trans hh, hs⟩
  exact (World.cell?_of_block hblk).trans (hc j v hv)

set_option maxRecDepth 100000 in
set_option maxHeartbeats 1000000 in
theorem hold_no {w : World} {g : Nat} {F : Nat → Prop} {mv uv vb : Value} {h : HL} {u : List (List Nat)} {bs : List Nat} (hr : BRep w g F mv uv h u) (nx ix : Nat) (hb : Rd w F vb bs) (h4 : ix ≤ nx ∨ nx + 4 ≤ ix) (hn : nx < 4294967296) (hi : ix < 4294967296) :
    Calls Try.prog 7 #[.pointer (some ⟨g, 0, none⟩), .int .u32 (nx : Int), .int .u32 (ix : Int), vb] w (BoxPost w g F (holdH h nx ix bs) u (.int .i64 (holdE h nx ix bs))) := by
  have HR := Lib.hid hr
  clear hr
  by_cases h1 : ix ≤ nx
  · have e1 : holdE h nx ix bs = 84 := by unfold holdE; rw [if_pos h1]
    have e2 : holdH h nx ix bs = h := by unfold holdH; rw [e1]; rfl
    rw [e1, e2]
    clear e1 e2
    have c1 : decide ((ix : Int) ≤ (nx : Int)) = true := by simp; omega
    have c2 : decide (ix ≤ nx) = true := by simp; omega
    go_enter Try.func7, Try.ntmps7
    go_wp2_with fail
    go_ret
    exact ⟨rfl, F, mv, uv, HR.out, Chg.refl _ _, fun k f => .inl f⟩
  · have h2 : nx + 4 ≤ ix := by omega
    have e1 : holdE h nx ix bs = 85 := by unfold holdE; rw [if_neg h1, if_pos h2]
    have e2 : holdH h nx ix bs = h := by unfold holdH; rw [e1]; rfl
    rw [e1, e2]
    clear e1 e2
    have c1 : decide ((ix : Int) ≤ (nx : Int)) = false := by simp; omega
    have c2 : decide (ix ≤ nx) = false := by simp; omega
    go_enter Try.func7, Try.ntmps7
    go_wp2_with fail
    go_ret
    exact ⟨rfl, F, mv, uv, HR.out, Chg.refl _ _, fun k f => .inl f⟩

theorem blk_ne_map {w : World} {g B : Nat} {t : TypeId} {cs : Array Value} {r : Nat × Nat} {es : Array MapEntry} {clock : Nat} (h1 : w.heap[g]? = some (.cells cs t r)) (h2 : w.heap[B]? = some (.map es clock)) : g ≠ B := by
  rintro rfl
  rw [h1] at h2
  cases h2
/-- Behind a store into the map. -/
theorem put_close {W w3 : World} {g B : Nat} {F : Nat → Prop} {uv v3 : Value} {h : HL} {u : List (List Nat)} {l : List MEnt} {clock clock' ix : Nat} {bs : List Nat} {o : Obj}
    (hr : BRep W g F (.map (some B)) uv h u) (hm : MapAt W B l clock) (ha : All2 (HEnt W F) l h) (fB : F B) (b3 : Below W.heap.size W w3) (r3 : Rd w3 F v3 bs) (hk : ix < 4294967296)
    (m4 : MapAt (ChangeMaps.setBlock w3 B o) B (putL l ix v3 clock) clock') :
    BRep (ChangeMaps.setBlock w3 B o) g F (.map (some B)) uv (putH h ix bs) u ∧ Chg F W (ChangeMaps.setBlock w3 B o) := by
  have c1 : Chg (fun k => k = B) W (ChangeMaps.setBlock w3 B o) := (Chg.of_below (F := fun k => k = B) b3).setBlock (.inl rfl) o
  have cF : Chg F W (ChangeMaps.setBlock w3 B o) := c1.mono (fun k hk => by rw [hk]; exact fB)
  have c3 : Chg (fun k => k = B) w3 (ChangeMaps.setBlock w3 B o) := (Chg.refl (fun k => k = B) _).setBlock (.inl rfl) o
  have hg : g ≠ B := blk_ne_map hr.blk hm.heap
  refine ⟨⟨hr.blk.chg c1 hg, .inr ⟨B, _, _, rfl, fB, m4, put_rel hk (r3.chg (c3.mono (fun k hk => by rw [hk]; exact fB))) ha (fun v y r => r.chg cF)⟩, ?_, hr.foot, fun k hk => Nat.lt_of_lt_of_le (hr.low k hk) cF.size⟩, cF⟩
  obtain ⟨A, c, vs, e, h1, h2, h3, h4, h5⟩ := hr.un
  refine ⟨A, c, vs, e, h1, h2, h3.imp (fun v y r => r.chg cF), h4, fun ad ha' => ?_⟩
  obtain ⟨b, o', e2, fb, hc, cs, hh, hs⟩ := h5 ad ha'
  have hblk := c1.block b (lt_of_block hh) (blk_ne_map hh hm.heap)
  exact ⟨b, o', e2, fb, fun j v hv => (World.cell?_of_block hblk).trans (hc j v hv), cs, hblk.trans hh, hs⟩
/-- Behind the making of the map. -/
theorem make_close {w : World} {g : Nat} {F : Nat → Prop} {uv : Value} {u : List (List Nat)} (hr : BRep w g F (.map none) uv [] u) :
    BRep ((w.setCell ⟨g, 0, none⟩ (.map (some w.heap.size))).alloc (.map #[] 0)) g (fun k => F k ∨ k = w.heap.size) (.map (some w.heap.size)) uv [] u ∧ Chg F w ((w.setCell ⟨g, 0, none⟩ (.map (some w.heap.size))).alloc (.map #[] 0)) ∧
      MapAt ((w.setCell ⟨g, 0, none⟩ (.map (some w.heap.size))).alloc (.map #[] 0)) w.heap.size [] 0 := by
  have cg : Chg (fun k => k = g) w ((w.setCell ⟨g, 0, none⟩ (.map (some w.heap.size))).alloc (.map #[] 0)) := ((Chg.refl (fun k => k = g) w).setCell (.inl rfl) _).alloc _
  have hlt := hr.blk.lt
  have hsz : (w.setCell ⟨g, 0, none⟩ (.map (some w.heap.size))).heap.size = w.heap.size := by simp [World.setCell]
  have m : MapAt ((w.setCell ⟨g, 0, none⟩ (.map (some w.heap.size))).alloc (.map #[] 0)) w.heap.size [] 0 := by have := MapAt.new (w.setCell ⟨g, 0, none⟩ (.map (some w.heap.size))); rw [hsz] at this; exact this
  have b1 := (hr.blk.set_ 0 (.map (some w.heap.size))).alloc (.map #[] 0)
  refine ⟨⟨by simpa using b1, .inr ⟨_, _, _, rfl, .inr rfl, m, trivial⟩, ?_, .inl hr.foot, ?_⟩, cg.mono (fun k hk => by rw [hk]; exact hr.foot), m⟩
  · obtain ⟨A, c, vs, e, h1, h2, h3, h4, h5⟩ := hr.un
    refine ⟨A, c, vs, e, h1, h2, h3.imp (fun v y r => r.foot (r.chg (cg.mono (fun k hk => by rw [hk]; exact hr.foot))) (fun k hk => hk.imp id (fun e => by omega))), h4, fun ad ha' => ?_⟩
    obtain ⟨b, o', e2, fb, hc, cs, hh, hs⟩ := h5 ad ha'
    have hne : b ≠ g := by
      rintro rfl
      exact Blk.ne_ (g := b) hh hr.blk (by decide) rfl
    have hblk := cg.block b (lt_of_block hh) hne
    exact ⟨b, o', e2, .inl fb, fun j v hv => (World.cell?_of_block hblk).trans (hc j v hv), cs, hblk.trans hh, hs⟩
  · intro k hk
    have : ((w.setCell ⟨g, 0, none⟩ (.map (some w.heap.size))).alloc (.map #[] 0)).heap.size = w.heap.size + 1 := by simp [World.setCell]
    rw [this]
    rcases hk with f | rfl
    · have := hr.low k f; omega
    · omega

set_option maxRecDepth 100000 in
set_option maxHeartbeats 2000000 in
theorem hold_yes {w : World} {g : Nat} {F : Nat → Prop} {mv uv vb : Value} {h : HL} {u : List (List Nat)} {bs : List Nat} (hr : BRep w g F mv uv h u) (nx ix : Nat) (hb : Rd w F vb bs) (h1 : nx < ix) (h4 : ix < nx + 4) (hn : nx < 4294967296) (hi : ix < 4294967296) :
    Calls Try.prog 7 #[.pointer (some ⟨g, 0, none⟩), .int .u32 (nx : Int), .int .u32 (ix : Int), vb] w (BoxPost w g F (holdH h nx ix bs) u (.int .i64 (holdE h nx ix bs))) := by
  have HR := Lib.hid hr
  have HB := Lib.hid hb
  have c1 : decide ((ix : Int) ≤ (nx : Int)) = false := by simp; omega
  have c2 : decide (ix ≤ nx) = false := by simp; omega
  have y0 := hr.blk.cell 0
  have f0 := hr.blk.frozen 0
  have hgl := hr.blk.lt
  simp only [List.getElem?_toArray, List.getElem?_cons_zero, List.getElem?_cons_succ] at y0
  have eE : holdE h nx ix bs = match lookH h ix with | some was => if was = bs then 0 else 63 | none => 0 := by unfold holdE; rw [if_neg (by omega), if_neg (by omega)]
  rcases hr.held with ⟨rfl, rfl⟩ | ⟨B, l, clock, rfl, fB, hm, ha⟩
  · have e1 : holdE [] nx ix bs = 0 := by rw [eE]; rfl
    have e2 : holdH [] nx ix bs = putH [] ix bs := by unfold holdH; rw [e1]; rfl
    rw [e1, e2]
    have q1 := run_look_nil ty_map w ix
    have q2 := fun w => run_eql_map_nil (P := Try.prog) w 26 23 32 none Try.underlying26
    have q3 := fun w => run_makeMap (P := Try.prog) 26 w
    clear e1 e2 eE hr hb
    go_enter Try.func7, Try.ntmps7
    go_wp2_with fail
    obtain ⟨k1, k2, k3⟩ := make_close HR.out
    have R := Lib.hid k1
    have K2 := Lib.hid k2
    have rb : Rd ((w.setCell ⟨g, 0, none⟩ (.map (some w.heap.size))).alloc (.map #[] 0)) (fun k => F k ∨ k = w.heap.size) vb bs := HB.out.foot (HB.out.chg k2) (fun k hk => hk.imp id (fun e => by omega))
    have K3 := Lib.hid (And.intro rb k3)
    clear k1 k2 k3 rb y0 f0 q1 q2 q3 hgl
    generalize hG : (fun k => F k ∨ k = w.heap.size) = G at *
    generalize (w.setCell ⟨g, 0, none⟩ (.map (some w.heap.size))).alloc (.map #[] 0) = W at *
    have HG := Lib.hid hG
    clear hG
    have RB : Hid (Rd W G vb bs) := Lib.hid K3.out.1
    have RM := Lib.hid (And.intro K3.out.2 (And.intro (trivial : All2 (HEnt W G) [] []) (show G (w.heap.size) from by rw [← HG.out]; exact Or.inr rfl)))
    have c0 := R.out.blk.cell 0
    have hgl := R.out.blk.lt
    simp only [List.getElem?_toArray, List.getElem?_cons_zero, List.getElem?_cons_succ] at c0
    refine wp_region_I [⟨3, [7], ⟨g, 0, none⟩, .map (some w.heap.size)⟩] (by kernel_rfl) ?_
    refine wpAnyI_takes (by kernel_rfl) (fun _ _ _ _ _ h => h) [0,1,2,3,4,5] 2 _ _ _ (by kernel_rfl) (SH_cons (fun _ => c0) SH_nil) ?_
    intro K hK
    repeat
      (refine takeW_cons (oi := ?_) (v := ?_) ?_ ?_ ?_ ?_
       rotate_left 2
       · (simp only [List.getElem?_toArray, List.getElem?_cons_zero, List.getElem?_cons_succ]; rfl)
       · rfl
       · (intro w' hw'; (try (have hc : w'.cell? _ = some _ := hw'; clear hw')); go_simp; (try with_reducible rfl))
       try simp only [Act.put, List.setIfInBounds_toArray, List.set_cons_zero, List.set_cons_succ])
    refine takeW_nil (hK.out _ ?_)
    clear hK K
    refine wpAnyI_run (i := 6) (o := ?_) (by kernel_rfl) ?_ (fun K hK => ?_)
    rotate_left 1
    · (simp only [List.getElem?_toArray, List.getElem?_cons_zero, List.getElem?_cons_succ]; rfl)
    go_wp2_with (go_at_call 23; refine (clone_calls (RB.out.drewN 1) (fun k hk => R.out.low k hk)).mono ?_; rintro e w3 ⟨v3, rfl, r3, b3⟩; replace b3 : Below (W).heap.size W w3 := (below_drewN (Below.refl _ _) 1).trans b3; have c3 := (b3.cell (p := ⟨g, 0, none⟩) hgl).trans c0; have B3 := Lib.hid (And.intro r3 b3); clear r3 b3)
    refine hK.out _ _ (SH_cons (fun _ => c3) SH_nil) ?_
    clear hK K
    obtain ⟨o4, clock4, q4, m4⟩ := run_put ty_map (RM.out.1.below B3.out.2) ix v3
    have M4 := Lib.hid m4
    clear m4
    refine wpAnyI_run (i := 7) (o := ?_) (by kernel_rfl) ?_ (fun K hK => ?_)
    rotate_left 1
    · (simp only [List.getElem?_toArray, List.getElem?_cons_zero, List.getElem?_cons_succ]; rfl)
    go_wp2_with fail
    refine hK.out _ _ (SH_cons (fun h => by cases h) SH_nil) ?_
    clear hK K
    refine wpAnyI_done (by kernel_rfl) ?_ _
    go_wp2_with fail
    go_ret
    obtain ⟨j1, j2⟩ := put_close R.out RM.out.1 RM.out.2.1 RM.out.2.2 B3.out.2 B3.out.1 hi M4.out
    exact ⟨rfl, G, _, _, j1, K2.out.trans j2 (fun k hk => by rw [← HG.out] at hk; exact hk.imp id (fun e => by omega)), fun k hk => by rw [← HG.out] at hk; exact hk.imp id (fun e => by omega)⟩
  · have q1 := run_look ty_map hm ix
    have q2 := fun w => run_eql_map_nil (P := Try.prog) w 26 23 32 (some B) Try.underlying26
    have HM := Lib.hid (And.intro hm (And.intro ha fB))
    rcases look_rel ix ha with ⟨e1, e2⟩ | ⟨v0, bs0, e1, e2, r0⟩
    · rw [e2] at eE
      have eH : holdH h nx ix bs = putH h ix bs := by unfold holdH; rw [eE]; rfl
      rw [eE, eH]
      rw [e1] at q1
      simp only [Option.getD_none, Option.isSome_none] at q1
      clear eE eH e1 e2 hr hb hm ha
      go_enter Try.func7, Try.ntmps7
      go_wp2_with fail
      have R := HR
      clear y0 f0 q1 q2 hgl
      have RB : Hid (Rd w F vb bs) := Lib.hid HB.out
      have RM := Lib.hid (And.intro HM.out.1 (And.intro HM.out.2.1 (show F (B) from HM.out.2.2)))
      have c0 := R.out.blk.cell 0
      have hgl := R.out.blk.lt
      simp only [List.getElem?_toArray, List.getElem?_cons_zero, List.getElem?_cons_succ] at c0
      refine wp_region_I [⟨3, [7], ⟨g, 0, none⟩, .map (some B)⟩] (by kernel_rfl) ?_
      refine wpAnyI_takes (by kernel_rfl) (fun _ _ _ _ _ h => h) [0,1,2,3,4,5] 2 _ _ _ (by kernel_rfl) (SH_cons (fun _ => c0) SH_nil) ?_
      intro K hK
      repeat
        (refine takeW_cons (oi := ?_) (v := ?_) ?_ ?_ ?_ ?_
         rotate_left 2
         · (simp only [List.getElem?_toArray, List.getElem?_cons_zero, List.getElem?_cons_succ]; rfl)
         · rfl
         · (intro w' hw'; (try (have hc : w'.cell? _ = some _ := hw'; clear hw')); go_simp; (try with_reducible rfl))
         try simp only [Act.put, List.setIfInBounds_toArray, List.set_cons_zero, List.set_cons_succ])
      refine takeW_nil (hK.out _ ?_)
      clear hK K
      refine wpAnyI_run (i := 6) (o := ?_) (by kernel_rfl) ?_ (fun K hK => ?_)
      rotate_left 1
      · (simp only [List.getElem?_toArray, List.getElem?_cons_zero, List.getElem?_cons_succ]; rfl)
      go_wp2_with (go_at_call 23; refine (clone_calls (RB.out.drewN 1) (fun k hk => R.out.low k hk)).mono ?_; rintro e w3 ⟨v3, rfl, r3, b3⟩; replace b3 : Below (w).heap.size w w3 := (below_drewN (Below.refl _ _) 1).trans b3; have c3 := (b3.cell (p := ⟨g, 0, none⟩) hgl).trans c0; have B3 := Lib.hid (And.intro r3 b3); clear r3 b3)
      refine hK.out _ _ (SH_cons (fun _ => c3) SH_nil) ?_
      clear hK K
      obtain ⟨o4, clock4, q4, m4⟩ := run_put ty_map (RM.out.1.below B3.out.2) ix v3
      have M4 := Lib.hid m4
      clear m4
      refine wpAnyI_run (i := 7) (o := ?_) (by kernel_rfl) ?_ (fun K hK => ?_)
      rotate_left 1
      · (simp only [List.getElem?_toArray, List.getElem?_cons_zero, List.getElem?_cons_succ]; rfl)
      go_wp2_with fail
      refine hK.out _ _ (SH_cons (fun h => by cases h) SH_nil) ?_
      clear hK K
      refine wpAnyI_done (by kernel_rfl) ?_ _
      go_wp2_with fail
      go_ret
      obtain ⟨j1, j2⟩ := put_close R.out RM.out.1 RM.out.2.1 RM.out.2.2 B3.out.2 B3.out.1 hi M4.out
      exact ⟨rfl, F, _, _, j1, j2, fun k hk => .inl hk⟩
    · rw [e2] at eE
      rw [e1] at q1
      simp only [Option.getD_some, Option.isSome_some] at q1
      have R0 := Lib.hid r0
      by_cases hbs : bs0 = bs
      · simp only [if_pos hbs] at eE
        have eH : holdH h nx ix bs = putH h ix bs := by unfold holdH; rw [eE]; rfl
        rw [eE, eH]
        have HE : Hid (decide (bs0 = bs) = true) := Lib.hid (by simp [hbs])
        clear eE eH e1 e2 hr hb hm ha hbs r0
        go_enter Try.func7, Try.ntmps7
        go_wp2_with fail
        refine (equal_calls R0.out HB.out).mono ?_
        rintro e w1 ⟨rfl, rfl⟩
        rw [HE.out]
        go_wp2_with fail
        have R := HR
        clear y0 f0 q1 q2 hgl
        have RB : Hid (Rd w F vb bs) := Lib.hid HB.out
        have RM := Lib.hid (And.intro HM.out.1 (And.intro HM.out.2.1 (show F (B) from HM.out.2.2)))
        have c0 := R.out.blk.cell 0
        have hgl := R.out.blk.lt
        simp only [List.getElem?_toArray, List.getElem?_cons_zero, List.getElem?_cons_succ] at c0
        refine wp_region_I [⟨3, [7], ⟨g, 0, none⟩, .map (some B)⟩] (by kernel_rfl) ?_
        refine wpAnyI_takes (by kernel_rfl) (fun _ _ _ _ _ h => h) [0,1,2,3,4,5] 2 _ _ _ (by kernel_rfl) (SH_cons (fun _ => c0) SH_nil) ?_
        intro K hK
        repeat
          (refine takeW_cons (oi := ?_) (v := ?_) ?_ ?_ ?_ ?_
           rotate_left 2
           · (simp only [List.getElem?_toArray, List.getElem?_cons_zero, List.getElem?_cons_succ]; rfl)
           · rfl
           · (intro w' hw'; (try (have hc : w'.cell? _ = some _ := hw'; clear hw')); go_simp; (try with_reducible rfl))
           try simp only [Act.put, List.setIfInBounds_toArray, List.set_cons_zero, List.set_cons_succ])
        refine takeW_nil (hK.out _ ?_)
        clear hK K
        refine wpAnyI_run (i := 6) (o := ?_) (by kernel_rfl) ?_ (fun K hK => ?_)
        rotate_left 1
        · (simp only [List.getElem?_toArray, List.getElem?_cons_zero, List.getElem?_cons_succ]; rfl)
        go_wp2_with (go_at_call 23; refine (clone_calls (RB.out.drewN 1) (fun k hk => R.out.low k hk)).mono ?_; rintro e w3 ⟨v3, rfl, r3, b3⟩; replace b3 : Below (w).heap.size w w3 := (below_drewN (Below.refl _ _) 1).trans b3; have c3 := (b3.cell (p := ⟨g, 0, none⟩) hgl).trans c0; have B3 := Lib.hid (And.intro r3 b3); clear r3 b3)
        refine hK.out _ _ (SH_cons (fun _ => c3) SH_nil) ?_
        clear hK K
        obtain ⟨o4, clock4, q4, m4⟩ := run_put ty_map (RM.out.1.below B3.out.2) ix v3
        have M4 := Lib.hid m4
        clear m4
        refine wpAnyI_run (i := 7) (o := ?_) (by kernel_rfl) ?_ (fun K hK => ?_)
        rotate_left 1
        · (simp only [List.getElem?_toArray, List.getElem?_cons_zero, List.getElem?_cons_succ]; rfl)
        go_wp2_with fail
        refine hK.out _ _ (SH_cons (fun h => by cases h) SH_nil) ?_
        clear hK K
        refine wpAnyI_done (by kernel_rfl) ?_ _
        go_wp2_with fail
        go_ret
        obtain ⟨j1, j2⟩ := put_close R.out RM.out.1 RM.out.2.1 RM.out.2.2 B3.out.2 B3.out.1 hi M4.out
        exact ⟨rfl, F, _, _, j1, j2, fun k hk => .inl hk⟩
      · simp only [if_neg hbs] at eE
        have eH : holdH h nx ix bs = h := by unfold holdH; rw [eE]; rfl
        rw [eE, eH]
        have HE : Hid (decide (bs0 = bs) = false) := Lib.hid (by simp [hbs])
        clear eE eH e1 e2 hr hb hm ha hbs r0
        go_enter Try.func7, Try.ntmps7
        go_wp2_with fail
        refine (equal_calls R0.out HB.out).mono ?_
        rintro e w1 ⟨rfl, rfl⟩
        rw [HE.out]
        go_wp2_with fail
        go_ret
        exact ⟨rfl, F, _, _, HR.out, Chg.refl _ _, fun k hk => .inl hk⟩

theorem hold_calls {w : World} {g : Nat} {F : Nat → Prop} {mv uv vb : Value} {h : HL} {u : List (List Nat)} {bs : List Nat} (hr : BRep w g F mv uv h u) (nx ix : Nat) (hb : Rd w F vb bs) (hn : nx < 4294967296) (hi : ix < 4294967296) :
    Calls Try.prog 7 #[.pointer (some ⟨g, 0, none⟩), .int .u32 (nx : Int), .int .u32 (ix : Int), vb] w (BoxPost w g F (holdH h nx ix bs) u (.int .i64 (holdE h nx ix bs))) := by
  by_cases h1 : ix ≤ nx ∨ nx + 4 ≤ ix
  · exact hold_no hr nx ix hb h1 hn hi
  · exact hold_yes hr nx ix hb (by omega) (by omega) hn hi
end Go.Proofs.Ytihjmgjjknjioaa.In
