/- Walks through the ledger's own functions: what an event does. -/
import Derived.Test.YtfflidaodnhpbaaLedX
import Derived.Deep.DeepFit
import Derived.Laws.EntriesVeiled
namespace Go.Proofs.Ytfflidaodnhpbaa.Led
open Go Go.RowKit Go.Proofs.Ytfflidaodnhpbaa.Base Go.Proofs.Ytfflidaodnhpbaa.Draw
set_option linter.unusedVariables false
set_option linter.unusedSimpArgs false

theorem LRep.chg {w w' : World} {g : Nat} {F G : Nat → Prop} {st : LSt} {ve vs : Value} (h : LRep w g F st ve vs) (hc : Chg G w w') (hF : ∀ k, F k → ¬ G k) : LRep w' g F st ve vs :=
  ⟨h.blk.chg hc (hF g ((h.foot g).2 (.inl rfl))), own_chg h.ep hc (fun k hk => hF k ((h.foot k).2 (.inr (.inl hk)))), own_chg h.sn hc (fun k hk => hF k ((h.foot k).2 (.inr (.inr hk)))), h.foot⟩
theorem LRep.below {w w' : World} {g : Nat} {F : Nat → Prop} {st : LSt} {ve vs : Value} (h : LRep w g F st ve vs) (hb : Below w.heap.size w w') : LRep w' g F st ve vs :=
  h.chg (G := fun _ => False) (Chg.of_below hb) (fun _ _ f => f)

theorem LRep.alloc {w : World} {g : Nat} {F : Nat → Prop} {st : LSt} {ve vs : Value} (h : LRep w g F st ve vs) (o : Obj) : LRep (w.alloc o) g F st ve vs :=
  ⟨h.blk.alloc o, h.ep.alloc o, h.sn.alloc o, h.foot⟩

def doE (st : LSt) (e : Int) : Int :=
  if e = 1 then (if 6 ≤ st.ep.length then 63 else 0)
  else if e = 2 then (if st.ep.length ≤ st.got then 62 else 0)
  else if e = 3 then (if 6 ≤ st.nw then 63 else 0)
  else if e = 4 then 0 else if e = 5 then 0 else 1
def doS (st : LSt) (e : Int) : LSt :=
  if e = 1 then (if 6 ≤ st.ep.length then st else { st with ep := st.ep ++ [st.nw] })
  else if e = 2 then (if st.ep.length ≤ st.got then st else { st with got := st.got + 1 })
  else if e = 3 then (if 6 ≤ st.nw then st else { st with nw := st.nw + 1 })
  else if e = 5 then { st with sn := st.sn ++ [(st.got, oldest st, st.nw)] } else st

/-- What an event does, as its walk tells it. -/
def DoPost (w : World) (g : Nat) (F : Nat → Prop) (st' : LSt) (n : Int) (e : Ending) (w' : World) : Prop :=
  e = .returned (.int .i64 n) ∧ ∃ F' ve' vs', LRep w' g F' st' ve' vs' ∧ Chg F w w' ∧ ∀ k, F' k → F k ∨ w.heap.size ≤ k

set_option maxRecDepth 100000 in
set_option maxHeartbeats 1000000 in
theorem do1_calls {w : World} {g : Nat} {F : Nat → Prop} {st : LSt} {ve vs : Value} (h : LRep w g F st ve vs) (ok : LOk st) :
    Calls Try.prog 6 #[.pointer (some ⟨g, 0, none⟩), .int .i64 1] w (DoPost w g F (doS st 1) (doE st 1)) := by
  go_enter Try.func6, Try.ntmps6
  go_wp2_with fail
  refine (kinds_calls w).mono ?_
  rintro e w1 ⟨H, rfl, hH, hb, t, hk⟩
  have h1 := h.below hb
  have k0 := hk.cell 0
  have k1 := hk.cell 1
  simp only [List.getElem?_toArray, List.getElem?_cons_zero, List.getElem?_cons_succ] at k0 k1
  go_wp2_with fail
  refine (k2_calls (h1.alloc _)).mono ?_
  rintro e w2 ⟨rfl, k, rfl⟩
  by_cases hc : 6 ≤ st.ep.length
  · have hp : pickE (decide ((6 : Int) ≤ (st.ep.length : Int))) 63 = 63 := by simp [pickE]; omega
    rw [hp]
    go_wp2_with fail
    go_ret
    exact ⟨by simp [doE, hc], F, ve, vs, by simpa [doS, hc] using ((h1.alloc _).drewN _), ((Chg.of_below hb).alloc _).drewN _, fun _ f => .inl f⟩
  · have hp : pickE (decide ((6 : Int) ≤ (st.ep.length : Int))) 63 = 0 := by simp [pickE]; omega
    rw [hp]
    go_wp2_with fail
    refine (k3_calls ((h1.alloc _).drewN _) (by omega)).mono ?_
    rintro e w3 ⟨rfl, F', ve', hr, hch, hf⟩
    go_wp2_with fail
    go_ret
    exact ⟨by simp [doE, hc], F', ve', vs, by simpa [doS, hc] using hr, (((Chg.of_below hb).alloc _).drewN _).trans hch (fun _ f => .inl f), fun i f => (hf i f).imp id (fun g => by have := hb.size; simp at g; omega)⟩
set_option maxRecDepth 100000 in
set_option maxHeartbeats 1000000 in
theorem do2_calls {w : World} {g : Nat} {F : Nat → Prop} {st : LSt} {ve vs : Value} (h : LRep w g F st ve vs) (ok : LOk st) :
    Calls Try.prog 6 #[.pointer (some ⟨g, 0, none⟩), .int .i64 2] w (DoPost w g F (doS st 2) (doE st 2)) := by
  go_enter Try.func6, Try.ntmps6
  go_wp2_with fail
  refine (kinds_calls w).mono ?_
  rintro e w1 ⟨H, rfl, hH, hb, t, hk⟩
  have h1 := h.below hb
  have k0 := hk.cell 2
  have k1 := hk.cell 3
  simp only [List.getElem?_toArray, List.getElem?_cons_zero, List.getElem?_cons_succ] at k0 k1
  go_wp2_with fail
  refine (k4_calls (h1.alloc _)).mono ?_
  rintro e w2 ⟨rfl, k, rfl⟩
  by_cases hc : st.ep.length ≤ st.got
  · have hp : pickE (decide (st.ep.length ≤ st.got)) 62 = 62 := by simp [pickE]; omega
    rw [hp]
    go_wp2_with fail
    go_ret
    exact ⟨by simp [doE, hc], F, ve, vs, by simpa [doS, hc] using ((h1.alloc _).drewN _), ((Chg.of_below hb).alloc _).drewN _, fun _ f => .inl f⟩
  · have hp : pickE (decide (st.ep.length ≤ st.got)) 62 = 0 := by simp [pickE]; omega
    rw [hp]
    go_wp2_with fail
    refine (k5_calls ((h1.alloc _).drewN _) (by have := ok.len; omega)).mono ?_
    rintro e w3 ⟨rfl, hr, hch⟩
    go_wp2_with fail
    go_ret
    exact ⟨by simp [doE, hc], F, ve, vs, by simpa [doS, hc] using hr, (((Chg.of_below hb).alloc _).drewN _).trans hch (fun _ f => .inl f), fun i f => .inl f⟩
set_option maxRecDepth 100000 in
set_option maxHeartbeats 1000000 in
theorem do3_calls {w : World} {g : Nat} {F : Nat → Prop} {st : LSt} {ve vs : Value} (h : LRep w g F st ve vs) (ok : LOk st) :
    Calls Try.prog 6 #[.pointer (some ⟨g, 0, none⟩), .int .i64 3] w (DoPost w g F (doS st 3) (doE st 3)) := by
  go_enter Try.func6, Try.ntmps6
  go_wp2_with fail
  refine (kinds_calls w).mono ?_
  rintro e w1 ⟨H, rfl, hH, hb, t, hk⟩
  have h1 := h.below hb
  have k0 := hk.cell 4
  have k1 := hk.cell 5
  simp only [List.getElem?_toArray, List.getElem?_cons_zero, List.getElem?_cons_succ] at k0 k1
  go_wp2_with fail
  refine (k6_calls (h1.alloc _)).mono ?_
  rintro e w2 ⟨rfl, k, rfl⟩
  by_cases hc : 6 ≤ st.nw
  · have hp : pickE (decide ((6 : Int) ≤ (st.nw : Int))) 63 = 63 := by simp [pickE]; omega
    rw [hp]
    go_wp2_with fail
    go_ret
    exact ⟨by simp [doE, hc], F, ve, vs, by simpa [doS, hc] using ((h1.alloc _).drewN _), ((Chg.of_below hb).alloc _).drewN _, fun _ f => .inl f⟩
  · have hp : pickE (decide ((6 : Int) ≤ (st.nw : Int))) 63 = 0 := by simp [pickE]; omega
    rw [hp]
    go_wp2_with fail
    refine (k7_calls ((h1.alloc _).drewN _) (by have := ok.nw; omega)).mono ?_
    rintro e w3 ⟨rfl, hr, hch⟩
    go_wp2_with fail
    go_ret
    exact ⟨by simp [doE, hc], F, ve, vs, by simpa [doS, hc] using hr, (((Chg.of_below hb).alloc _).drewN _).trans hch (fun _ f => .inl f), fun i f => .inl f⟩
set_option maxRecDepth 100000 in
set_option maxHeartbeats 1000000 in
theorem do4_calls {w : World} {g : Nat} {F : Nat → Prop} {st : LSt} {ve vs : Value} (h : LRep w g F st ve vs) (ok : LOk st) :
    Calls Try.prog 6 #[.pointer (some ⟨g, 0, none⟩), .int .i64 4] w (DoPost w g F (doS st 4) (doE st 4)) := by
  go_enter Try.func6, Try.ntmps6
  go_wp2_with fail
  refine (kinds_calls w).mono ?_
  rintro e w1 ⟨H, rfl, hH, hb, t, hk⟩
  have h1 := h.below hb
  have k0 := hk.cell 6
  have k1 := hk.cell 7
  simp only [List.getElem?_toArray, List.getElem?_cons_zero, List.getElem?_cons_succ] at k0 k1
  go_wp2_with fail
  refine (k1_calls _ _).mono ?_
  rintro e w2 ⟨rfl, k, rfl⟩
  go_wp2_with fail
  refine (k8_calls _ _).mono ?_
  rintro e w3 ⟨rfl, k', rfl⟩
  go_wp2_with fail
  go_ret
  exact ⟨by simp [doE], F, ve, vs, by simpa [doS] using ((h1.alloc _).drewN _), ((Chg.of_below hb).alloc _).drewN _, fun i f => .inl f⟩
set_option maxRecDepth 100000 in
set_option maxHeartbeats 1000000 in
theorem do5_calls {w : World} {g : Nat} {F : Nat → Prop} {st : LSt} {ve vs : Value} (h : LRep w g F st ve vs) (ok : LOk st) :
    Calls Try.prog 6 #[.pointer (some ⟨g, 0, none⟩), .int .i64 5] w (DoPost w g F (doS st 5) (doE st 5)) := by
  go_enter Try.func6, Try.ntmps6
  go_wp2_with fail
  refine (kinds_calls w).mono ?_
  rintro e w1 ⟨H, rfl, hH, hb, t, hk⟩
  have h1 := h.below hb
  have k0 := hk.cell 8
  have k1 := hk.cell 9
  simp only [List.getElem?_toArray, List.getElem?_cons_zero, List.getElem?_cons_succ] at k0 k1
  go_wp2_with fail
  refine (k1_calls _ _).mono ?_
  rintro e w2 ⟨rfl, k, rfl⟩
  go_wp2_with fail
  refine (k9_calls ((h1.alloc _).drewN _) ok).mono ?_
  rintro e w3 ⟨rfl, F', vs', hr, hch, hf⟩
  go_wp2_with fail
  go_ret
  exact ⟨by simp [doE], F', ve, vs', by simpa [doS] using hr, (((Chg.of_below hb).alloc _).drewN _).trans hch (fun _ f => .inl f), fun i f => (hf i f).imp id (fun g => by have := hb.size; simp at g; omega)⟩
theorem doNo_calls {w : World} {g : Nat} {F : Nat → Prop} {st : LSt} {ve vs : Value} (h : LRep w g F st ve vs) (x : Int) (hx : x < 1 ∨ 5 < x) :
    Calls Try.prog 6 #[.pointer (some ⟨g, 0, none⟩), .int .i64 x] w (DoPost w g F (doS st x) (doE st x)) := by
  have hE : doE st x = 1 := by unfold doE; rw [if_neg (by omega), if_neg (by omega), if_neg (by omega), if_neg (by omega), if_neg (by omega)]
  have hS : doS st x = st := by unfold doS; rw [if_neg (by omega), if_neg (by omega), if_neg (by omega), if_neg (by omega)]
  rw [hE, hS]
  clear hE hS
  rcases hx with hx | hx
  · go_enter Try.func6, Try.ntmps6
    go_wp2_with fail
    refine (kinds_calls w).mono ?_
    rintro e w1 ⟨H, rfl, hH, hb, t, hk⟩
    go_wp2_with fail
    go_ret
    exact ⟨rfl, F, ve, vs, h.below hb, Chg.of_below hb, fun _ f => .inl f⟩
  · have hx' : ¬ x < 1 := by omega
    go_enter Try.func6, Try.ntmps6
    go_wp2_with fail
    refine (kinds_calls w).mono ?_
    rintro e w1 ⟨H, rfl, hH, hb, t, hk⟩
    go_wp2_with fail
    go_ret
    exact ⟨rfl, F, ve, vs, h.below hb, Chg.of_below hb, fun _ f => .inl f⟩

theorem do_calls {w : World} {g : Nat} {F : Nat → Prop} {st : LSt} {ve vs : Value} (h : LRep w g F st ve vs) (ok : LOk st) (x : Int) :
    Calls Try.prog 6 #[.pointer (some ⟨g, 0, none⟩), .int .i64 x] w (DoPost w g F (doS st x) (doE st x)) := by
  by_cases hx : x < 1 ∨ 5 < x
  · exact doNo_calls h x hx
  · rcases (show x = 1 ∨ x = 2 ∨ x = 3 ∨ x = 4 ∨ x = 5 by omega) with rfl | rfl | rfl | rfl | rfl
    · exact do1_calls h ok
    · exact do2_calls h ok
    · exact do3_calls h ok
    · exact do4_calls h ok
    · exact do5_calls h ok
end Go.Proofs.Ytfflidaodnhpbaa.Led
