/- Walks: the reference's Do. -/
import Derived.Test.YtfflidaodnhpbaaLedE
import Derived.Deep.DeepFit
namespace Go.Proofs.Ytfflidaodnhpbaa.Led
open Go Go.RowKit Go.Proofs.Ytfflidaodnhpbaa.Base Go.Proofs.Ytfflidaodnhpbaa.Draw
set_option linter.unusedVariables false
set_option linter.unusedSimpArgs false

theorem RRep.chg {w w' : World} {r : Nat} {vl : Value} {L : List Nat} {G : Nat → Prop} (h : RRep w r vl L) (hc : Chg G w w') (hr : ¬ G r) (hv : ∀ k, vl.ownBlock = some k → ¬ G k) : RRep w' r vl L :=
  ⟨h.1.chg hc hr, own_chg h.2 hc hv⟩

def doRE (L : List Nat) (x : Int) : Int :=
  if x = 1 then (if 6 ≤ cnt L 1 L.length then 63 else 0)
  else if x = 2 then (if cnt L 1 L.length ≤ cnt L 2 L.length then 62 else 0)
  else if x = 3 then (if 6 ≤ cnt L 3 L.length then 63 else 0)
  else if x = 4 then 0 else if x = 5 then 0 else 1
def doRS (L : List Nat) (x : Int) : List Nat := if doRE L x = 0 then L ++ [x.toNat] else L

def DoRPost (w : World) (r : Nat) (vl : Value) (L' : List Nat) (n : Int) (e : Ending) (w' : World) : Prop :=
  e = .returned (.int .i64 n) ∧ ∃ vl', RRep w' r vl' L' ∧ Chg (fun k => k = r) w w' ∧ ∀ k, vl'.ownBlock = some k → vl.ownBlock = some k ∨ w.heap.size ≤ k

theorem doR_close {w w0 w1 w2 : World} {r : Nat} {vl v1 : Value} {L : List Nat} {x : Nat} {cap g' : Nat} (h : RRep w r vl L) (e0 : Chg (fun k => k = r) w w0) (hsz : w0.heap.size = w.heap.size)
    (g1 : (w0.alloc (.cells #[] 3)).grownBy w1 (some w.heap.size))
    (hown : w2.ownsRow w.heap.size 3 1 (.slice (some ⟨g', 0, none⟩) (L.length + 1) cap) (L.length + 1) (nats L ++ [.int .i64 (x : Int)]))
    (hv1 : v1.ownBlock = some w.heap.size ∨ v1.ownBlock = some (w.heap.size + 1))
    (g2 : (w1.alloc (.cells #[.int .i64 (x : Int)] 3)).grownBy w2 v1.ownBlock) (b2 : Blk w2 r 30 #[vl]) :
    ∃ vl', RRep (w2.setCell ⟨r, 0, none⟩ (.slice (some ⟨g', 0, none⟩) (L.length + 1) cap)) r vl' (L ++ [x]) ∧ Chg (fun k => k = r) w (w2.setCell ⟨r, 0, none⟩ (.slice (some ⟨g', 0, none⟩) (L.length + 1) cap)) ∧ ∀ k, vl'.ownBlock = some k → vl.ownBlock = some k ∨ w.heap.size ≤ k := by
  refine ⟨_, ⟨b2.set_ 0 _, ?_⟩, ?_, ?_⟩
  · have h0 : w2.ownsRow 0 3 1 (.slice (some ⟨g', 0, none⟩) (L.length + 1) cap) (L.length + 1) (nats L ++ [.int .i64 (x : Int)]) := by
      obtain ⟨a, b⟩ := hown
      refine ⟨a, b.imp id (fun ⟨g, c, cur, e1, e2, e3⟩ => ⟨g, c, cur, e1, Nat.zero_le _, e3⟩)⟩
    have := own_setCell h0 (a := ⟨r, 0, none⟩) (Blk.own_ne b2 h0 (by decide)) (.slice (some ⟨g', 0, none⟩) (L.length + 1) cap)
    simpa [nats] using this
  · have c1 : Chg (fun k => k = r) w w1 := chg_grown (e0.alloc _) g1 (fun k hk => by injection hk with hk; right; omega)
    have c2 : Chg (fun k => k = r) w w2 := chg_grown (c1.alloc _) g2 (fun k hk => by
      right
      rcases hv1 with e | e
      · rw [e] at hk; injection hk with hk; omega
      · rw [e] at hk; injection hk with hk; omega)
    exact c2.setCell (.inl rfl) _
  · intro k hk
    right
    exact (hown.lt k hk).1

theorem nats_one (L : List Nat) : ∀ u ∈ nats L, u.oneCell' = true := by
  intro u hu
  simp only [nats, List.mem_map] at hu
  obtain ⟨n, _, rfl⟩ := hu
  rfl


set_option maxRecDepth 100000 in
set_option maxHeartbeats 1000000 in
theorem doR1_calls {w : World} {r : Nat} {vl : Value} {L : List Nat} (h : RRep w r vl L) (hL : L.length ≤ 900) :
    Calls Try.prog 9 #[.pointer (some ⟨r, 0, none⟩), .int .i64 1] w (DoRPost w r vl (doRS L 1) (doRE L 1)) := by
  have HR := Lib.hid h
  have hrlt := h.1.lt
  obtain ⟨A, c, rfl, hnc, hcm⟩ := own_len h.2
  have c0 := h.1.cell 0
  have f0 := h.1.frozen 0
  simp only [List.getElem?_toArray, List.getElem?_cons_zero] at c0
  clear h
  go_enter Try.func9, Try.ntmps9
  go_wp2_with fail
  refine (count_calls HR.out 1 L.length (Nat.le_refl _) (by omega)).mono ?_
  rintro e w1 ⟨rfl, q, rfl⟩
  by_cases hc : 6 ≤ cnt L 1 L.length
  · have hb : decide ((6 : Int) ≤ (cnt L 1 L.length : Int)) = true := by simp; omega
    have HC := Lib.hid hc
    clear hc
    go_wp2_with fail
    go_ret
    have hE : doRE L 1 = 63 := by simp [doRE, HC.out]
    exact ⟨by rw [hE]; rfl, _, by rw [doRS, hE, if_neg (by decide)]; exact HR.out.drewN _, (Chg.refl _ _).drewN _, fun k hk => .inl hk⟩
  · have hb : decide ((6 : Int) ≤ (cnt L 1 L.length : Int)) = false := by simp; omega
    have HC := Lib.hid hc
    clear hc
    have hW : (w.drewN q).heap.size = w.heap.size := by simp
    have ho0 : ((w.drewN q).alloc (.cells #[] 3)).ownsRow w.heap.size 3 1 (.slice (some ⟨w.heap.size, 0, none⟩) 0 0) 0 [] := World.ownsRow_lit (w.drewN q) #[] 0 (by simp) (by decide) rfl
    have HO := Lib.hid ho0
    have hA := cell_drewN_alloc hrlt
    have hs0 : Sl ((w.drewN q).alloc (.cells #[] 3)) 1 (Value.slice A L.length c) L.length (nats L) := Sl.of_own ((own_drewN HR.out.2 _).alloc _)
    have HS := Lib.hid hs0
    clear ho0 hs0
    go_wp2_with (first
      | (refine list_app_sl ty_ints rfl (.tmp 45) (.tmp 49) rfl (by simp [Act.eval]; rfl) (by exact HO.out) (by simp [Act.eval]; rfl) (by exact HS.out) (nats_one L) (by unfold maxLen; omega) (by omega) (by simp) ?_; intro v1 w1 hown1 hgr1 hv1
         have b1 : Blk w1 r 30 #[Value.slice A L.length c] := ((HR.out.1.drewN q).alloc _).grown hgr1 (by simp only [Value.ownBlock]; intro e; injection e with e; omega)
         have k1 := b1.cell 0
         have f1 := b1.frozen 0
         simp only [List.getElem?_toArray, List.getElem?_cons_zero] at k1
         have G1 := Lib.hid (And.intro hown1 (And.intro hgr1 (And.intro hv1 b1)))
         have hw1 : w.heap.size + 1 ≤ w1.heap.size := by have := hgr1.size; simp at this; omega
         clear hown1 hgr1 hv1 HO HS b1)
      | (refine list_app ty_ints rfl (.tmp 50) (.tmp 52) rfl (by simp [Act.eval]; rfl) (by exact G1.out.1.alloc _) w1.heap.size 1 1 3 #[.int .i64 1] (by simp [Act.eval]) (by exact heap_alloc_new w1 _) rfl (by simp [Value.oneCell']) (by decide) (by unfold maxLen; omega) (by omega) (by simp; omega) ?_; intro g' cap w2 hown2 hgr2 hat2 hlt2
         have b2 : Blk w2 r 30 #[Value.slice A L.length c] := (G1.out.2.2.2.alloc _).grown hgr2 (by
           intro e
           rcases G1.out.2.2.1 with g | g
           · rw [g] at e; simp only [Value.ownBlock] at e; injection e with e; omega
           · rw [g] at e; injection e with e; simp at e; omega)
         have k2 := b2.cell 0
         have f2 := b2.frozen 0
         simp only [List.getElem?_toArray, List.getElem?_cons_zero] at k2))
    go_ret
    have hE : doRE L 1 = 0 := by simp [doRE, HC.out]
    refine ⟨by rw [hE]; rfl, ?_⟩
    rw [doRS, if_pos hE]
    exact doR_close (x := 1) HR.out ((Chg.refl _ _).drewN q) rfl G1.out.2.1 (by simpa using hown2) (by simpa [Value.ownBlock] using G1.out.2.2.1) hgr2 b2

set_option maxRecDepth 100000 in
set_option maxHeartbeats 1000000 in
theorem doR2_calls {w : World} {r : Nat} {vl : Value} {L : List Nat} (h : RRep w r vl L) (hL : L.length ≤ 900) :
    Calls Try.prog 9 #[.pointer (some ⟨r, 0, none⟩), .int .i64 2] w (DoRPost w r vl (doRS L 2) (doRE L 2)) := by
  have HR := Lib.hid h
  have hrlt := h.1.lt
  obtain ⟨A, c, rfl, hnc, hcm⟩ := own_len h.2
  have c0 := h.1.cell 0
  have f0 := h.1.frozen 0
  simp only [List.getElem?_toArray, List.getElem?_cons_zero] at c0
  clear h
  go_enter Try.func9, Try.ntmps9
  go_wp2_with fail
  refine (count_calls HR.out 2 L.length (Nat.le_refl _) (by omega)).mono ?_
  rintro e w1 ⟨rfl, q, rfl⟩
  go_wp2_with fail
  refine (count_calls (HR.out.drewN _) 1 L.length (Nat.le_refl _) (by omega)).mono ?_
  rintro e w1 ⟨rfl, q2, rfl⟩
  by_cases hc : cnt L 1 L.length ≤ cnt L 2 L.length
  · have hb : decide (cnt L 1 L.length ≤ cnt L 2 L.length) = true := by simp; omega
    have HC := Lib.hid hc
    clear hc
    go_wp2_with fail
    go_ret
    have hE : doRE L 2 = 62 := by simp [doRE, HC.out]
    exact ⟨by rw [hE]; rfl, _, by rw [doRS, hE, if_neg (by decide)]; exact HR.out.drewN _, (Chg.refl _ _).drewN _, fun k hk => .inl hk⟩
  · have hb : decide (cnt L 1 L.length ≤ cnt L 2 L.length) = false := by simp; omega
    have HC := Lib.hid hc
    clear hc
    have hW : (w.drewN (q + q2)).heap.size = w.heap.size := by simp
    have ho0 : ((w.drewN (q + q2)).alloc (.cells #[] 3)).ownsRow w.heap.size 3 1 (.slice (some ⟨w.heap.size, 0, none⟩) 0 0) 0 [] := World.ownsRow_lit (w.drewN (q + q2)) #[] 0 (by simp) (by decide) rfl
    have HO := Lib.hid ho0
    have hA := cell_drewN_alloc hrlt
    have hs0 : Sl ((w.drewN (q + q2)).alloc (.cells #[] 3)) 1 (Value.slice A L.length c) L.length (nats L) := Sl.of_own ((own_drewN HR.out.2 _).alloc _)
    have HS := Lib.hid hs0
    clear ho0 hs0
    go_wp2_with (first
      | (refine list_app_sl ty_ints rfl (.tmp 45) (.tmp 49) rfl (by simp [Act.eval]; rfl) (by exact HO.out) (by simp [Act.eval]; rfl) (by exact HS.out) (nats_one L) (by unfold maxLen; omega) (by omega) (by simp) ?_; intro v1 w1 hown1 hgr1 hv1
         have b1 : Blk w1 r 30 #[Value.slice A L.length c] := ((HR.out.1.drewN (q + q2)).alloc _).grown hgr1 (by simp only [Value.ownBlock]; intro e; injection e with e; omega)
         have k1 := b1.cell 0
         have f1 := b1.frozen 0
         simp only [List.getElem?_toArray, List.getElem?_cons_zero] at k1
         have G1 := Lib.hid (And.intro hown1 (And.intro hgr1 (And.intro hv1 b1)))
         have hw1 : w.heap.size + 1 ≤ w1.heap.size := by have := hgr1.size; simp at this; omega
         clear hown1 hgr1 hv1 HO HS b1)
      | (refine list_app ty_ints rfl (.tmp 50) (.tmp 52) rfl (by simp [Act.eval]; rfl) (by exact G1.out.1.alloc _) w1.heap.size 1 1 3 #[.int .i64 2] (by simp [Act.eval]) (by exact heap_alloc_new w1 _) rfl (by simp [Value.oneCell']) (by decide) (by unfold maxLen; omega) (by omega) (by simp; omega) ?_; intro g' cap w2 hown2 hgr2 hat2 hlt2
         have b2 : Blk w2 r 30 #[Value.slice A L.length c] := (G1.out.2.2.2.alloc _).grown hgr2 (by
           intro e
           rcases G1.out.2.2.1 with g | g
           · rw [g] at e; simp only [Value.ownBlock] at e; injection e with e; omega
           · rw [g] at e; injection e with e; simp at e; omega)
         have k2 := b2.cell 0
         have f2 := b2.frozen 0
         simp only [List.getElem?_toArray, List.getElem?_cons_zero] at k2))
    go_ret
    have hE : doRE L 2 = 0 := by simp [doRE, HC.out]
    refine ⟨by rw [hE]; rfl, ?_⟩
    rw [doRS, if_pos hE]
    exact doR_close (x := 2) HR.out ((Chg.refl _ _).drewN (q + q2)) rfl G1.out.2.1 (by simpa using hown2) (by simpa [Value.ownBlock] using G1.out.2.2.1) hgr2 b2

set_option maxRecDepth 100000 in
set_option maxHeartbeats 1000000 in
theorem doR3_calls {w : World} {r : Nat} {vl : Value} {L : List Nat} (h : RRep w r vl L) (hL : L.length ≤ 900) :
    Calls Try.prog 9 #[.pointer (some ⟨r, 0, none⟩), .int .i64 3] w (DoRPost w r vl (doRS L 3) (doRE L 3)) := by
  have HR := Lib.hid h
  have hrlt := h.1.lt
  obtain ⟨A, c, rfl, hnc, hcm⟩ := own_len h.2
  have c0 := h.1.cell 0
  have f0 := h.1.frozen 0
  simp only [List.getElem?_toArray, List.getElem?_cons_zero] at c0
  clear h
  go_enter Try.func9, Try.ntmps9
  go_wp2_with fail
  refine (count_calls HR.out 3 L.length (Nat.le_refl _) (by omega)).mono ?_
  rintro e w1 ⟨rfl, q, rfl⟩
  by_cases hc : 6 ≤ cnt L 3 L.length
  · have hb : decide ((6 : Int) ≤ (cnt L 3 L.length : Int)) = true := by simp; omega
    have HC := Lib.hid hc
    clear hc
    go_wp2_with fail
    go_ret
    have hE : doRE L 3 = 63 := by simp [doRE, HC.out]
    exact ⟨by rw [hE]; rfl, _, by rw [doRS, hE, if_neg (by decide)]; exact HR.out.drewN _, (Chg.refl _ _).drewN _, fun k hk => .inl hk⟩
  · have hb : decide ((6 : Int) ≤ (cnt L 3 L.length : Int)) = false := by simp; omega
    have HC := Lib.hid hc
    clear hc
    have hW : (w.drewN q).heap.size = w.heap.size := by simp
    have ho0 : ((w.drewN q).alloc (.cells #[] 3)).ownsRow w.heap.size 3 1 (.slice (some ⟨w.heap.size, 0, none⟩) 0 0) 0 [] := World.ownsRow_lit (w.drewN q) #[] 0 (by simp) (by decide) rfl
    have HO := Lib.hid ho0
    have hA := cell_drewN_alloc hrlt
    have hs0 : Sl ((w.drewN q).alloc (.cells #[] 3)) 1 (Value.slice A L.length c) L.length (nats L) := Sl.of_own ((own_drewN HR.out.2 _).alloc _)
    have HS := Lib.hid hs0
    clear ho0 hs0
    go_wp2_with (first
      | (refine list_app_sl ty_ints rfl (.tmp 45) (.tmp 49) rfl (by simp [Act.eval]; rfl) (by exact HO.out) (by simp [Act.eval]; rfl) (by exact HS.out) (nats_one L) (by unfold maxLen; omega) (by omega) (by simp) ?_; intro v1 w1 hown1 hgr1 hv1
         have b1 : Blk w1 r 30 #[Value.slice A L.length c] := ((HR.out.1.drewN q).alloc _).grown hgr1 (by simp only [Value.ownBlock]; intro e; injection e with e; omega)
         have k1 := b1.cell 0
         have f1 := b1.frozen 0
         simp only [List.getElem?_toArray, List.getElem?_cons_zero] at k1
         have G1 := Lib.hid (And.intro hown1 (And.intro hgr1 (And.intro hv1 b1)))
         have hw1 : w.heap.size + 1 ≤ w1.heap.size := by have := hgr1.size; simp at this; omega
         clear hown1 hgr1 hv1 HO HS b1)
      | (refine list_app ty_ints rfl (.tmp 50) (.tmp 52) rfl (by simp [Act.eval]; rfl) (by exact G1.out.1.alloc _) w1.heap.size 1 1 3 #[.int .i64 3] (by simp [Act.eval]) (by exact heap_alloc_new w1 _) rfl (by simp [Value.oneCell']) (by decide) (by unfold maxLen; omega) (by omega) (by simp; omega) ?_; intro g' cap w2 hown2 hgr2 hat2 hlt2
         have b2 : Blk w2 r 30 #[Value.slice A L.length c] := (G1.out.2.2.2.alloc _).grown hgr2 (by
           intro e
           rcases G1.out.2.2.1 with g | g
           · rw [g] at e; simp only [Value.ownBlock] at e; injection e with e; omega
           · rw [g] at e; injection e with e; simp at e; omega)
         have k2 := b2.cell 0
         have f2 := b2.frozen 0
         simp only [List.getElem?_toArray, List.getElem?_cons_zero] at k2))
    go_ret
    have hE : doRE L 3 = 0 := by simp [doRE, HC.out]
    refine ⟨by rw [hE]; rfl, ?_⟩
    rw [doRS, if_pos hE]
    exact doR_close (x := 3) HR.out ((Chg.refl _ _).drewN q) rfl G1.out.2.1 (by simpa using hown2) (by simpa [Value.ownBlock] using G1.out.2.2.1) hgr2 b2

set_option maxRecDepth 100000 in
set_option maxHeartbeats 1000000 in
theorem doR4_calls {w : World} {r : Nat} {vl : Value} {L : List Nat} (h : RRep w r vl L) (hL : L.length ≤ 900) :
    Calls Try.prog 9 #[.pointer (some ⟨r, 0, none⟩), .int .i64 4] w (DoRPost w r vl (doRS L 4) (doRE L 4)) := by
  have HR := Lib.hid h
  have hrlt := h.1.lt
  obtain ⟨A, c, rfl, hnc, hcm⟩ := own_len h.2
  have c0 := h.1.cell 0
  have f0 := h.1.frozen 0
  simp only [List.getElem?_toArray, List.getElem?_cons_zero] at c0
  clear h
  go_enter Try.func9, Try.ntmps9
  have hW : (w.drewN 0).heap.size = w.heap.size := by simp
  have ho0 : ((w.drewN 0).alloc (.cells #[] 3)).ownsRow w.heap.size 3 1 (.slice (some ⟨w.heap.size, 0, none⟩) 0 0) 0 [] := World.ownsRow_lit (w.drewN 0) #[] 0 (by simp) (by decide) rfl
  have HO := Lib.hid ho0
  have hA := cell_drewN_alloc hrlt
  have hs0 : Sl ((w.drewN 0).alloc (.cells #[] 3)) 1 (Value.slice A L.length c) L.length (nats L) := Sl.of_own ((own_drewN HR.out.2 _).alloc _)
  have HS := Lib.hid hs0
  clear ho0 hs0
  go_wp2_with (first
    | (refine list_app_sl ty_ints rfl (.tmp 45) (.tmp 49) rfl (by simp [Act.eval]; rfl) (by exact HO.out) (by simp [Act.eval]; rfl) (by exact HS.out) (nats_one L) (by unfold maxLen; omega) (by omega) (by simp) ?_; intro v1 w1 hown1 hgr1 hv1
       have b1 : Blk w1 r 30 #[Value.slice A L.length c] := ((HR.out.1.drewN 0).alloc _).grown hgr1 (by simp only [Value.ownBlock]; intro e; injection e with e; omega)
       have k1 := b1.cell 0
       have f1 := b1.frozen 0
       simp only [List.getElem?_toArray, List.getElem?_cons_zero] at k1
       have G1 := Lib.hid (And.intro hown1 (And.intro hgr1 (And.intro hv1 b1)))
       have hw1 : w.heap.size + 1 ≤ w1.heap.size := by have := hgr1.size; simp at this; omega
       clear hown1 hgr1 hv1 HO HS b1)
    | (refine list_app ty_ints rfl (.tmp 50) (.tmp 52) rfl (by simp [Act.eval]; rfl) (by exact G1.out.1.alloc _) w1.heap.size 1 1 3 #[.int .i64 4] (by simp [Act.eval]) (by exact heap_alloc_new w1 _) rfl (by simp [Value.oneCell']) (by decide) (by unfold maxLen; omega) (by omega) (by simp; omega) ?_; intro g' cap w2 hown2 hgr2 hat2 hlt2
       have b2 : Blk w2 r 30 #[Value.slice A L.length c] := (G1.out.2.2.2.alloc _).grown hgr2 (by
         intro e
         rcases G1.out.2.2.1 with g | g
         · rw [g] at e; simp only [Value.ownBlock] at e; injection e with e; omega
         · rw [g] at e; injection e with e; simp at e; omega)
       have k2 := b2.cell 0
       have f2 := b2.frozen 0
       simp only [List.getElem?_toArray, List.getElem?_cons_zero] at k2))
  go_ret
  have hE : doRE L 4 = 0 := by simp [doRE]
  refine ⟨by rw [hE]; rfl, ?_⟩
  rw [doRS, if_pos hE]
  exact doR_close (x := 4) HR.out (Chg.refl _ _) rfl G1.out.2.1 (by simpa using hown2) (by simpa [Value.ownBlock] using G1.out.2.2.1) hgr2 b2

set_option maxRecDepth 100000 in
set_option maxHeartbeats 1000000 in
theorem doR5_calls {w : World} {r : Nat} {vl : Value} {L : List Nat} (h : RRep w r vl L) (hL : L.length ≤ 900) :
    Calls Try.prog 9 #[.pointer (some ⟨r, 0, none⟩), .int .i64 5] w (DoRPost w r vl (doRS L 5) (doRE L 5)) := by
  have HR := Lib.hid h
  have hrlt := h.1.lt
  obtain ⟨A, c, rfl, hnc, hcm⟩ := own_len h.2
  have c0 := h.1.cell 0
  have f0 := h.1.frozen 0
  simp only [List.getElem?_toArray, List.getElem?_cons_zero] at c0
  clear h
  go_enter Try.func9, Try.ntmps9
  have hW : (w.drewN 0).heap.size = w.heap.size := by simp
  have ho0 : ((w.drewN 0).alloc (.cells #[] 3)).ownsRow w.heap.size 3 1 (.slice (some ⟨w.heap.size, 0, none⟩) 0 0) 0 [] := World.ownsRow_lit (w.drewN 0) #[] 0 (by simp) (by decide) rfl
  have HO := Lib.hid ho0
  have hA := cell_drewN_alloc hrlt
  have hs0 : Sl ((w.drewN 0).alloc (.cells #[] 3)) 1 (Value.slice A L.length c) L.length (nats L) := Sl.of_own ((own_drewN HR.out.2 _).alloc _)
  have HS := Lib.hid hs0
  clear ho0 hs0
  go_wp2_with (first
    | (refine list_app_sl ty_ints rfl (.tmp 45) (.tmp 49) rfl (by simp [Act.eval]; rfl) (by exact HO.out) (by simp [Act.eval]; rfl) (by exact HS.out) (nats_one L) (by unfold maxLen; omega) (by omega) (by simp) ?_; intro v1 w1 hown1 hgr1 hv1
       have b1 : Blk w1 r 30 #[Value.slice A L.length c] := ((HR.out.1.drewN 0).alloc _).grown hgr1 (by simp only [Value.ownBlock]; intro e; injection e with e; omega)
       have k1 := b1.cell 0
       have f1 := b1.frozen 0
       simp only [List.getElem?_toArray, List.getElem?_cons_zero] at k1
       have G1 := Lib.hid (And.intro hown1 (And.intro hgr1 (And.intro hv1 b1)))
       have hw1 : w.heap.size + 1 ≤ w1.heap.size := by have := hgr1.size; simp at this; omega
       clear hown1 hgr1 hv1 HO HS b1)
    | (refine list_app ty_ints rfl (.tmp 50) (.tmp 52) rfl (by simp [Act.eval]; rfl) (by exact G1.out.1.alloc _) w1.heap.size 1 1 3 #[.int .i64 5] (by simp [Act.eval]) (by exact heap_alloc_new w1 _) rfl (by simp [Value.oneCell']) (by decide) (by unfold maxLen; omega) (by omega) (by simp; omega) ?_; intro g' cap w2 hown2 hgr2 hat2 hlt2
       have b2 : Blk w2 r 30 #[Value.slice A L.length c] := (G1.out.2.2.2.alloc _).grown hgr2 (by
         intro e
         rcases G1.out.2.2.1 with g | g
         · rw [g] at e; simp only [Value.ownBlock] at e; injection e with e; omega
         · rw [g] at e; injection e with e; simp at e; omega)
       have k2 := b2.cell 0
       have f2 := b2.frozen 0
       simp only [List.getElem?_toArray, List.getElem?_cons_zero] at k2))
  go_ret
  have hE : doRE L 5 = 0 := by simp [doRE]
  refine ⟨by rw [hE]; rfl, ?_⟩
  rw [doRS, if_pos hE]
  exact doR_close (x := 5) HR.out (Chg.refl _ _) rfl G1.out.2.1 (by simpa using hown2) (by simpa [Value.ownBlock] using G1.out.2.2.1) hgr2 b2

set_option maxRecDepth 100000 in
set_option maxHeartbeats 1000000 in
theorem doRNo_calls {w : World} {r : Nat} {vl : Value} {L : List Nat} (h : RRep w r vl L) (hL : L.length ≤ 900) (x : Int) (hx : x < 1 ∨ 5 < x) :
    Calls Try.prog 9 #[.pointer (some ⟨r, 0, none⟩), .int .i64 x] w (DoRPost w r vl (doRS L x) (doRE L x)) := by
  have HR := Lib.hid h
  have hrlt := h.1.lt
  obtain ⟨A, c, rfl, hnc, hcm⟩ := own_len h.2
  have c0 := h.1.cell 0
  have f0 := h.1.frozen 0
  simp only [List.getElem?_toArray, List.getElem?_cons_zero] at c0
  clear h
  have hE : doRE L x = 1 := by unfold doRE; rw [if_neg (by omega), if_neg (by omega), if_neg (by omega), if_neg (by omega), if_neg (by omega)]
  have hS : doRS L x = L := by unfold doRS; rw [hE, if_neg (by decide)]
  rw [hE, hS]
  clear hE hS
  rcases hx with hx | hx
  · go_enter Try.func9, Try.ntmps9
    go_wp2_with fail
    go_ret
    exact ⟨rfl, _, HR.out, Chg.refl _ _, fun k hk => .inl hk⟩
  · have hx' : ¬ x < 1 := by omega
    go_enter Try.func9, Try.ntmps9
    go_wp2_with fail
    go_ret
    exact ⟨rfl, _, HR.out, Chg.refl _ _, fun k hk => .inl hk⟩

theorem doR_calls {w : World} {r : Nat} {vl : Value} {L : List Nat} (h : RRep w r vl L) (hL : L.length ≤ 900) (x : Int) :
    Calls Try.prog 9 #[.pointer (some ⟨r, 0, none⟩), .int .i64 x] w (DoRPost w r vl (doRS L x) (doRE L x)) := by
  by_cases hx : x < 1 ∨ 5 < x
  · exact doRNo_calls h hL x hx
  · rcases (show x = 1 ∨ x = 2 ∨ x = 3 ∨ x = 4 ∨ x = 5 by omega) with rfl | rfl | rfl | rfl | rfl
    · exact doR1_calls h hL
    · exact doR2_calls h hL
    · exact doR3_calls h hL
    · exact doR4_calls h hL
    · exact doR5_calls h hL
end Go.Proofs.Ytfflidaodnhpbaa.Led
