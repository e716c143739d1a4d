/- Both ledgers side by side: what each call leaves of the other one. -/
import Derived.Test.YtfflidaodnhpbaaLedV
namespace Go.Proofs.Ytfflidaodnhpbaa.Led
open Go Go.RowKit Go.Proofs.Ytfflidaodnhpbaa.Base Go.Proofs.Ytfflidaodnhpbaa.Draw
set_option linter.unusedVariables false
set_option linter.unusedSimpArgs false

structure TwoMid (w wr : World) (g r : Nat) (st : LSt) (L : List Nat) : Prop where
  rep : ∃ F ve vs vl, LRep wr g F st ve vs ∧ RRep wr r vl L ∧ (∀ k, F k → w.heap.size ≤ k ∧ k ≠ r ∧ vl.ownBlock ≠ some k) ∧ w.heap.size ≤ r ∧ (∀ k, vl.ownBlock = some k → w.heap.size ≤ k)
  bel : Below w.heap.size w wr
theorem LRep.lt_foot {w : World} {g : Nat} {F : Nat → Prop} {st : LSt} {ve vs : Value} (h : LRep w g F st ve vs) (k : Nat) (hk : F k) : k < w.heap.size := by
  rcases (h.foot k).1 hk with rfl | e | e
  · exact h.blk.lt
  · exact (h.ep.lt k e).2
  · exact (h.sn.lt k e).2
theorem TwoMid.below {w wr w' : World} {g r : Nat} {st : LSt} {L : List Nat} (h : TwoMid w wr g r st L) (hb : Below wr.heap.size wr w') : TwoMid w w' g r st L := by
  obtain ⟨F, ve, vs, vl, h1, h2, h3⟩ := h.rep
  exact ⟨⟨F, ve, vs, vl, h1.below hb, h2.below hb, h3⟩, h.bel.trans (hb.mono h.bel.size)⟩
theorem TwoMid.drewN {w wr : World} {g r : Nat} {st : LSt} {L : List Nat} (h : TwoMid w wr g r st L) (k : Nat) : TwoMid w (wr.drewN k) g r st L := h.below (below_drewN (Below.refl _ _) k)
theorem TwoMid.rlt {w wr : World} {g r : Nat} {st : LSt} {L : List Nat} (h : TwoMid w wr g r st L) : r < wr.heap.size := by
  obtain ⟨F, ve, vs, vl, h1, h2, h3⟩ := h.rep
  exact h2.1.lt
theorem TwoMid.start {w wr : World} (h : Below w.heap.size w wr) : TwoMid w ((wr.alloc (.cells #[.slice none 0 0, .int .i64 0, .int .i64 0, .slice none 0 0] 27)).alloc (.cells #[.slice none 0 0] 30)) wr.heap.size (wr.heap.size + 1) ⟨[], 0, 0, []⟩ [] := by
  have hs := h.size
  refine ⟨⟨fun k => k = wr.heap.size, .slice none 0 0, .slice none 0 0, .slice none 0 0, ⟨(Blk.new _ _ _).alloc _, World.ownsRow_nil _ _ _ _, World.ownsRow_nil _ _ _ _, fun k => by simp [Value.ownBlock]⟩, ⟨?_, World.ownsRow_nil _ _ _ _⟩, fun k hk => ⟨by omega, by omega, by simp [Value.ownBlock]⟩, by omega, fun k hk => by simp [Value.ownBlock] at hk⟩, (h.alloc (by omega) _).alloc (by simp; omega) _⟩
  have := Blk.new (wr.alloc (.cells #[.slice none 0 0, .int .i64 0, .int .i64 0, .slice none 0 0] 27)) 30 #[.slice none 0 0]
  simpa using this

theorem TwoMid.did {w wr : World} {g r : Nat} {st : LSt} {L : List Nat} (h : TwoMid w wr g r st L) (ok : LOk st) (x : Int) :
    Calls Try.prog 6 #[.pointer (some ⟨g, 0, none⟩), .int .i64 x] wr fun e w' => e = .returned (.int .i64 (doE st x)) ∧ TwoMid w w' g r (doS st x) L := by
  obtain ⟨F, ve, vs, vl, h1, h2, h3, h4, h5⟩ := h.rep
  refine (do_calls h1 ok x).mono ?_
  rintro e w1 ⟨rfl, F', ve', vs', g1, g2, g3⟩
  have hs := h.bel.size
  have hr := h2.1.lt
  refine ⟨rfl, ⟨F', ve', vs', vl, g1, ⟨h2.1.chg g2 (fun f => (h3 r f).2.1 rfl), own_chg h2.2 g2 (fun k hk f => (h3 k f).2.2 hk)⟩, fun k hk => ?_, h4, h5⟩, Chg.below h.bel g2 hs (fun k f => (h3 k f).1)⟩
  rcases g3 k hk with q | q
  · exact h3 k q
  · refine ⟨by omega, by omega, fun e => ?_⟩
    have := (h2.2.lt k e).2
    omega
theorem TwoMid.didR {w wr : World} {g r : Nat} {st : LSt} {L : List Nat} (h : TwoMid w wr g r st L) (hL : L.length ≤ 900) (x : Int) :
    Calls Try.prog 9 #[.pointer (some ⟨r, 0, none⟩), .int .i64 x] wr fun e w' => e = .returned (.int .i64 (doRE L x)) ∧ TwoMid w w' g r st (doRS L x) ∧ Chg (fun k => k = r) wr w' := by
  obtain ⟨F, ve, vs, vl, h1, h2, h3, h4, h5⟩ := h.rep
  refine (doR_calls h2 hL x).mono ?_
  rintro e w1 ⟨rfl, vl', g1, g2, g3⟩
  have hs := h.bel.size
  refine ⟨rfl, ⟨⟨F, ve, vs, vl', h1.chg g2 (fun k f => (h3 k f).2.1), g1, fun k hk => ?_, h4, fun k hk => ?_⟩, Chg.below h.bel g2 hs (fun k f => by omega)⟩, g2⟩
  · refine ⟨(h3 k hk).1, (h3 k hk).2.1, fun e => ?_⟩
    rcases g3 k e with q | q
    · exact (h3 k hk).2.2 q
    · have := h1.lt_foot k hk
      omega
  · rcases g3 k hk with q | q
    · exact h5 k q
    · omega
theorem TwoMid.leaked {w wr : World} {g r : Nat} {st : LSt} {L : List Nat} (h : TwoMid w wr g r st L) (ok : LOk st) :
    Calls Try.prog 7 #[.pointer (some ⟨g, 0, none⟩)] wr fun e w' => ∃ v, e = .returned v ∧ w'.ownsRow wr.heap.size 4 1 v st.ep.length (bools (leaked st st.ep.length)) ∧ Below wr.heap.size wr w' := by
  obtain ⟨F, ve, vs, vl, h1, -⟩ := h.rep
  exact leaked_calls h1 ok
theorem TwoMid.epochs {w wr : World} {g r : Nat} {st : LSt} {L : List Nat} (h : TwoMid w wr g r st L) (ok : LOk st) :
    Calls Try.prog 8 #[.pointer (some ⟨g, 0, none⟩)] wr fun e w' => ∃ v, e = .returned v ∧ w'.ownsRow wr.heap.size 3 1 v (st.nw + 1 - oldest st) (nats (from_ (oldest st) (st.nw + 1 - oldest st))) ∧ Below wr.heap.size wr w' := by
  obtain ⟨F, ve, vs, vl, h1, -⟩ := h.rep
  exact epochs_calls h1 ok
theorem TwoMid.rrep {w wr : World} {g r : Nat} {st : LSt} {L : List Nat} (h : TwoMid w wr g r st L) : ∃ vl, RRep wr r vl L := by
  obtain ⟨F, ve, vs, vl, h1, h2, -⟩ := h.rep
  exact ⟨vl, h2⟩
theorem TwoMid.run {w wr : World} {g r : Nat} {st : LSt} {L : List Nat} (h : TwoMid w wr g r st L) (ha : Agree st L) :
    Calls Try.prog 14 #[.pointer (some ⟨g, 0, none⟩)] wr (runPost wr st) := by
  obtain ⟨F, ve, vs, vl, h1, -⟩ := h.rep
  exact run_calls h1 ha.ok ha.seen
theorem own_below {w w' : World} {base : Nat} {e : TypeId} {size n : Nat} {v : Value} {xs : List Value} (h : w.ownsRow base e size v n xs) (hb : Below w.heap.size w w') : w'.ownsRow base e size v n xs :=
  own_chg h (Chg.of_below (F := fun _ => False) hb) (fun _ _ f => f)
theorem own_past {w w' : World} {base r : Nat} {e : TypeId} {size n : Nat} {v : Value} {xs : List Value} (h : w.ownsRow base e size v n xs) (hc : Chg (fun k => k = r) w w') (hr : r < base) : w'.ownsRow base e size v n xs :=
  own_chg h hc (fun k hk f => by have := (h.lt k hk).1; omega)

/-- Both sides answer alike: in the shapes that the walk asks. -/
theorem alike_leaked {w : World} {v v' : Value} {b b' : Nat} {st : LSt} {L : List Nat} (ha : Agree st L) (hL : L.length ≤ 30) (h : w.ownsRow b 4 1 v st.ep.length (bools (leaked st st.ep.length))) (h' : w.ownsRow b' 4 1 v' (cnt L 1 L.length) (bools (leakedR L (cnt L 1 L.length)))) :
    Calls Try.prog 10 #[v, v'] w fun e w' => e = .returned (.bool true) ∧ ∃ q, w' = w.drewN q := by
  have e := ha.leaked
  have hl := leaked_length st st.ep.length
  have hl' := leakedR_length L (cnt L 1 L.length)
  have hle := ha.ok.len
  refine bools_eq (xs := leaked st st.ep.length) ?_ ?_ (by rw [hl]; omega)
  · rw [hl]; exact Sl.of_own h
  · rw [e, hl']; exact Sl.of_own h'
theorem alike_epochs {w : World} {v v' : Value} {b b' : Nat} {st : LSt} {L : List Nat} (ha : Agree st L) (h : w.ownsRow b 3 1 v (st.nw + 1 - oldest st) (nats (from_ (oldest st) (st.nw + 1 - oldest st)))) (h' : w.ownsRow b' 3 1 v' (cnt L 3 L.length + 1 - liveR L L.length) (nats (from_ (liveR L L.length) (cnt L 3 L.length + 1 - liveR L L.length)))) :
    Calls Try.prog 12 #[v, v'] w fun e w' => e = .returned (.bool true) ∧ ∃ q, w' = w.drewN q := by
  rw [← ha.oldest, ← ha.a3] at h'
  have hnw := ha.ok.nw
  have hl := from_length (oldest st) (st.nw + 1 - oldest st)
  refine numbers_eq (xs := from_ (oldest st) (st.nw + 1 - oldest st)) ?_ ?_ (by rw [hl]; omega)
  · rw [hl]; exact Sl.of_own h
  · rw [hl]; exact Sl.of_own h'

def TTl (L : List Nat) : List (Nat × Nat × Nat) := TT L (cnt L 1 L.length)
def KKl (L : List Nat) : List Bool := knownR L L.length
def YYl (L : List Nat) : List Nat := frY (cnt L 3 L.length) (cnt L 1 L.length)
def PPl (L : List Nat) : List Nat := frP (cnt L 3 L.length) (cnt L 1 L.length)
def RunPost (L : List Nat) (w : World) (e : Ending) (w' : World) : Prop :=
  ∃ A1 c1 A2 c2 A3 c3 A4 c4, e = .returned (.agg #[.slice A1 (TTl L).length c1, .slice A2 (allOf (KKl L)).length c2, .slice A3 (YYl L).length c3, .slice A4 (PPl L).length c4]) ∧
    w'.ownsRow 0 46 3 (.slice A1 (TTl L).length c1) (TTl L).length (snv (TTl L)) ∧ w'.ownsRow 0 3 1 (.slice A2 (allOf (KKl L)).length c2) (allOf (KKl L)).length (nats (allOf (KKl L))) ∧
    w'.ownsRow 0 3 1 (.slice A3 (YYl L).length c3) (YYl L).length (nats (YYl L)) ∧ w'.ownsRow 0 3 1 (.slice A4 (PPl L).length c4) (PPl L).length (nats (PPl L)) ∧ Below w.heap.size w w'
theorem TwoMid.runs {w wr : World} {g r : Nat} {st : LSt} {L : List Nat} (h : TwoMid w wr g r st L) (ha : Agree st L) :
    Calls Try.prog 14 #[.pointer (some ⟨g, 0, none⟩)] wr (RunPost L wr) := by
  refine (h.run ha).mono ?_
  rintro e w' ⟨vT, vk, vy, vp, rfl, ow, b⟩
  have e1 : (finR st).T = TTl L := ha.terms.1
  have e2 : (finR st).ks = YYl L := ha.terms.2.1
  have e3 : (finR st).ps = PPl L := ha.terms.2.2
  have e4 : (finR st).kn = allOf (KKl L) := ha.known
  rw [e1, e2, e3, e4] at ow
  have o1 : w'.ownsRow 0 46 3 vT (TTl L).length (snv (TTl L)) := ow.1 (vT, rowT (TTl L)) (by simp)
  have o2 : w'.ownsRow 0 3 1 vk (allOf (KKl L)).length (nats (allOf (KKl L))) := ow.1 (vk, rowI (allOf (KKl L))) (by simp)
  have o3 : w'.ownsRow 0 3 1 vy (YYl L).length (nats (YYl L)) := ow.1 (vy, rowI (YYl L)) (by simp)
  have o4 : w'.ownsRow 0 3 1 vp (PPl L).length (nats (PPl L)) := ow.1 (vp, rowI (PPl L)) (by simp)
  clear ow
  obtain ⟨A1, c1, rfl, -⟩ := own_len o1
  obtain ⟨A2, c2, rfl, -⟩ := own_len o2
  obtain ⟨A3, c3, rfl, -⟩ := own_len o3
  obtain ⟨A4, c4, rfl, -⟩ := own_len o4
  exact ⟨A1, c1, A2, c2, A3, c3, A4, c4, rfl, o1, o2, o3, o4, b⟩
def TermsPost (L : List Nat) (w : World) (e : Ending) (w' : World) : Prop :=
  ∃ A1 c1 A2 c2 A3 c3 A4 c4, e = .returned (.tuple #[.slice A1 (TTl L).length c1, .slice A2 (KKl L).length c2, .slice A3 (YYl L).length c3, .slice A4 (PPl L).length c4]) ∧
    w'.ownsRow 0 47 3 (.slice A1 (TTl L).length c1) (TTl L).length (snv (TTl L)) ∧ w'.ownsRow 0 4 1 (.slice A2 (KKl L).length c2) (KKl L).length (bools (KKl L)) ∧
    w'.ownsRow 0 3 1 (.slice A3 (YYl L).length c3) (YYl L).length (nats (YYl L)) ∧ w'.ownsRow 0 3 1 (.slice A4 (PPl L).length c4) (PPl L).length (nats (PPl L)) ∧ Below w.heap.size w w'
theorem TwoMid.termsR {w wr : World} {g r : Nat} {st : LSt} {L : List Nat} (h : TwoMid w wr g r st L) (ha : Agree st L) (hL : L.length ≤ 30) :
    Calls Try.prog 15 #[.pointer (some ⟨r, 0, none⟩)] wr (TermsPost L wr) := by
  obtain ⟨vl, hr⟩ := h.rrep
  refine (termsR_calls hr (by omega) (by rw [← ha.a1]; exact ha.ok.len) (by rw [← ha.a3]; exact ha.ok.nw) (fun k hk => Nat.le_trans (ha.a6 k hk) (cnt_mono L 1 hk))).mono ?_
  rintro e w' ⟨vT, vk, vy, vp, rfl, ow, b⟩
  have o1 : w'.ownsRow 0 47 3 vT (TTl L).length (snv (TTl L)) := ow.1 (vT, rowQ (TTl L)) (by simp [TTl])
  have o2 : w'.ownsRow 0 4 1 vk (KKl L).length (bools (KKl L)) := ow.1 (vk, rowB (KKl L)) (by simp [KKl])
  have o3 : w'.ownsRow 0 3 1 vy (YYl L).length (nats (YYl L)) := ow.1 (vy, rowI (YYl L)) (by simp [YYl])
  have o4 : w'.ownsRow 0 3 1 vp (PPl L).length (nats (PPl L)) := ow.1 (vp, rowI (PPl L)) (by simp [PPl])
  clear ow
  obtain ⟨A1, c1, rfl, -⟩ := own_len o1
  obtain ⟨A2, c2, rfl, -⟩ := own_len o2
  obtain ⟨A3, c3, rfl, -⟩ := own_len o3
  obtain ⟨A4, c4, rfl, -⟩ := own_len o4
  exact ⟨A1, c1, A2, c2, A3, c3, A4, c4, rfl, o1, o2, o3, o4, b⟩
theorem TTl_len {st : LSt} {L : List Nat} (ha : Agree st L) : (TTl L).length = (KKl L).length ∧ (TTl L).length ≤ 200 ∧ (YYl L).length ≤ 6 ∧ (PPl L).length ≤ 6 := by
  have h1 := ha.ok.len
  have h2 := ha.ok.nw
  rw [ha.a1] at h1
  rw [ha.a3] at h2
  refine ⟨(knownR_length L L.length).symm, ?_, by simp [YYl, frY]; omega, by simp [PPl, frP]; omega⟩
  simp [TTl, TT, secT_length, frT_length]
  omega
end Go.Proofs.Ytfflidaodnhpbaa.Led
