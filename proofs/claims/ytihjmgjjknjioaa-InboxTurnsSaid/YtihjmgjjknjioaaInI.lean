/- A box of the call's own, amid a function; byte slices that are carried along. -/
import Derived.Test.YtihjmgjjknjioaaInH
namespace Go.Proofs.Ytihjmgjjknjioaa.In
open Go Go.RowKit Go.Proofs.Ytihjmgjjknjioaa.Base Go.Proofs.Ytihjmgjjknjioaa.Draw
set_option linter.unusedVariables false
set_option linter.unnecessarySimpa false
set_option linter.unusedSimpArgs false

abbrev XL := List (Value × List Nat)
structure BMid (w wr : World) (g N : Nat) (h : HL) (u : List (List Nat)) (X : XL) : Prop where
  rep : ∃ F mv uv, BRep wr g F mv uv h u ∧ (∀ k, F k → w.heap.size ≤ k ∧ k < N) ∧ ∀ p ∈ X, Rd wr F p.1 p.2
  bel : Below w.heap.size w wr
  nle : N ≤ wr.heap.size
theorem BMid.below {w wr w' : World} {g N : Nat} {h : HL} {u : List (List Nat)} {X : XL} (m : BMid w wr g N h u X) (hb : Below wr.heap.size wr w') : BMid w w' g N h u X := by
  obtain ⟨F, mv, uv, h1, h2, h3⟩ := m.rep
  exact ⟨⟨F, mv, uv, h1.below hb, h2, fun p hp => (h3 p hp).below hb⟩, m.bel.trans (hb.mono m.bel.size), Nat.le_trans m.nle hb.size⟩
theorem BMid.drewN {w wr : World} {g N : Nat} {h : HL} {u : List (List Nat)} {X : XL} (m : BMid w wr g N h u X) (k : Nat) : BMid w (wr.drewN k) g N h u X := m.below (below_drewN (Below.refl _ _) k)
theorem BMid.new {w wr : World} (hb : Below w.heap.size w wr) : BMid w (wr.alloc (.cells #[.map none, .slice none 0 0] 29)) wr.heap.size (wr.heap.size + 1) [] [] [] := by
  have hs := hb.size
  refine ⟨⟨fun k => k = wr.heap.size, _, _, ⟨Blk.new _ _ _, .inl ⟨rfl, rfl⟩, ⟨none, 0, [], rfl, Nat.le_refl _, Nat.zero_le _, trivial, fun _ => rfl, fun ad e => by cases e⟩, rfl, fun k hk => by simp; omega⟩, fun k hk => by omega, by simp⟩, hb.alloc hs _, by simp⟩
theorem BMid.of_post {w wr w' : World} {g N : Nat} {h h' : HL} {u u' : List (List Nat)} {X : XL} {F F' : Nat → Prop} {mv mv' uv uv' : Value} (m : BMid w wr g N h u X) (h1 : BRep wr g F mv uv h u) (h2 : ∀ k, F k → w.heap.size ≤ k ∧ k < N) (h3 : ∀ p ∈ X, Rd wr F p.1 p.2)
    (r : BRep w' g F' mv' uv' h' u') (c : Chg F wr w') (hf : ∀ k, F' k → F k ∨ wr.heap.size ≤ k) : BMid w w' g w'.heap.size h' u' X := by
  have hs := m.bel.size
  refine ⟨⟨F', mv', uv', r, fun k hk => ⟨?_, r.low k hk⟩, fun p hp => (h3 p hp).foot ((h3 p hp).chg c) hf⟩, Chg.below m.bel c hs (fun k f => (h2 k f).1), Nat.le_refl _⟩
  rcases hf k hk with f | f
  · exact (h2 k f).1
  · omega
theorem BMid.hold {w wr : World} {g N : Nat} {h : HL} {u : List (List Nat)} {X : XL} {vb : Value} {bs : List Nat} (m : BMid w wr g N h u X) (hx : (vb, bs) ∈ X) (nx ix : Nat) (hn : nx < 4294967296) (hi : ix < 4294967296) :
    Calls Try.prog 7 #[.pointer (some ⟨g, 0, none⟩), .int .u32 (nx : Int), .int .u32 (ix : Int), vb] wr fun e w' => e = .returned (.int .i64 (holdE h nx ix bs)) ∧ BMid w w' g w'.heap.size (holdH h nx ix bs) u X := by
  obtain ⟨F, mv, uv, h1, h2, h3⟩ := m.rep
  refine (hold_calls h1 nx ix (h3 _ hx) hn hi).mono ?_
  rintro e w' ⟨rfl, F', mv', uv', r, c, hf⟩
  exact ⟨rfl, m.of_post h1 h2 h3 r c hf⟩
theorem BMid.put {w wr : World} {g N : Nat} {h : HL} {u : List (List Nat)} {X : XL} {vb : Value} {bs : List Nat} (m : BMid w wr g N h u X) (hx : (vb, bs) ∈ X) (h8 : u.length ≤ 8) :
    Calls Try.prog 13 #[.pointer (some ⟨g, 0, none⟩), vb] wr fun e w' => e = .returned (.int .i64 (putE u)) ∧ BMid w w' g w'.heap.size h (putU u bs) X := by
  obtain ⟨F, mv, uv, h1, h2, h3⟩ := m.rep
  refine (put_calls h1 h8 (h3 _ hx)).mono ?_
  rintro e w' ⟨rfl, F', mv', uv', r, c, hf⟩
  exact ⟨rfl, m.of_post h1 h2 h3 r c hf⟩
theorem BMid.turn {w wr : World} {g N : Nat} {h : HL} {u : List (List Nat)} {X : XL} (m : BMid w wr g N h u X) (nx : Nat) (hn : nx < 4294967296) :
    Calls Try.prog 8 #[.pointer (some ⟨g, 0, none⟩), .int .u32 (nx : Int)] wr fun e w' => ∃ v, e = .returned (.tuple #[v, .bool (lookH h nx).isSome]) ∧ BMid w w' g w'.heap.size (turnH h nx) u ((v, (lookH h nx).getD []) :: X) := by
  obtain ⟨F, mv, uv, h1, h2, h3⟩ := m.rep
  refine (turn_calls h1 nx hn).mono ?_
  rintro e w' ⟨v, rfl, r, rv, c⟩
  obtain ⟨⟨F2, mv2, uv2, a, b, d⟩, b1, b2⟩ := m.of_post h1 h2 h3 r c (fun k f => .inl f)
  refine ⟨v, rfl, ⟨F, _, _, r, fun k f => ⟨(h2 k f).1, r.low k f⟩, fun p hp => ?_⟩, b1, b2⟩
  rcases List.mem_cons.1 hp with rfl | hp
  · exact rv
  · exact (h3 p hp).chg c
theorem BMid.fetch {w wr : World} {g N : Nat} {h : HL} {u : List (List Nat)} {X : XL} (m : BMid w wr g N h u X) :
    Calls Try.prog 15 #[.pointer (some ⟨g, 0, none⟩)] wr fun e w' => ∃ v, e = .returned (.tuple #[v, .int .i64 (fetchE u)]) ∧ BMid w w' g w'.heap.size h u.tail ((v, u.headD []) :: X) := by
  obtain ⟨F, mv, uv, h1, h2, h3⟩ := m.rep
  refine (fetch_calls h1).mono ?_
  rintro e w' ⟨v, rfl, rv, ⟨mv', uv', r⟩, c⟩
  obtain ⟨⟨F2, mv2, uv2, a, b, d⟩, b1, b2⟩ := m.of_post h1 h2 h3 r c (fun k f => .inl f)
  refine ⟨v, rfl, ⟨F, _, _, r, fun k f => ⟨(h2 k f).1, r.low k f⟩, fun p hp => ?_⟩, b1, b2⟩
  rcases List.mem_cons.1 hp with rfl | hp
  · exact rv
  · exact (h3 p hp).chg c
theorem BMid.held {w wr : World} {g N : Nat} {h : HL} {u : List (List Nat)} {X : XL} (m : BMid w wr g N h u X) (hl : h.length ≤ 1000) :
    Calls Try.prog 10 #[.pointer (some ⟨g, 0, none⟩)] wr fun e w' => ∃ v, ∃ hs : List HE, e = .returned v ∧ Sl w' 2 v hs.length (hs.flatMap encH) ∧ hs.map (·.1) = keysH h ∧
      BMid w w' g N h u (hs.map (fun x => (Value.slice x.2.1 x.2.2.1 x.2.2.2, datum h x.1)) ++ X) ∧ Below wr.heap.size wr w' := by
  obtain ⟨F, mv, uv, h1, h2, h3⟩ := m.rep
  refine (held_calls h1 hl).mono ?_
  rintro e w' ⟨v, hs, rfl, ho, hr, hk, hb⟩
  refine ⟨v, hs, rfl, Sl.of_own ho, hk, ⟨⟨F, mv, uv, h1.below hb, h2, fun p hp => ?_⟩, m.bel.trans (hb.mono m.bel.size), Nat.le_trans m.nle hb.size⟩, hb⟩
  rcases List.mem_append.1 hp with hp | hp
  · obtain ⟨x, hx, rfl⟩ := List.mem_map.1 hp
    exact hr x hx
  · exact (h3 p hp).below hb
/-- Bytes that are written down. -/
theorem BMid.lit {w wr : World} {g N : Nat} {h : HL} {u : List (List Nat)} {X : XL} (m : BMid w wr g N h u X) (bs : List Nat) (hs : Small bs) (B : Nat) (hB : B = wr.heap.size) :
    BMid w (wr.alloc (.cells (u8s bs).toArray 5)) g N h u ((.slice (some ⟨B, 0, none⟩) bs.length bs.length, bs) :: X) := by
  subst hB
  have m1 := m.below (w' := wr.alloc (.cells (u8s bs).toArray 5)) ((Below.refl _ _).alloc (Nat.le_refl _) _)
  obtain ⟨F, mv, uv, h1, h2, h3⟩ := m1.rep
  have hn := m.nle
  refine ⟨⟨F, mv, uv, h1, h2, fun p hp => ?_⟩, m1.bel, m1.nle⟩
  rcases List.mem_cons.1 hp with rfl | hp
  · have hb := Blk.new wr 5 (u8s bs).toArray
    refine ⟨⟨by simp [u8s], _, _, rfl, Nat.le_refl _, by have := hs.1; unfold maxLen; omega, fun h0 => ⟨wr.heap.size, 0, rfl, fun j u' hj => ?_⟩⟩, fun b o c e h0 f => ?_, hs⟩
    · have := hb.cell j
      simpa [hj] using this
    · injection e with e
      injection e with e
      injection e with e
      have := (h2 b f).2
      omega
  · exact h3 p hp
theorem BMid.same {w wr : World} {g N : Nat} {h : HL} {u : List (List Nat)} {X : XL} {v v' : Value} {a b : List Nat} (m : BMid w wr g N h u X) (h1 : (v, a) ∈ X) (h2 : (v', b) ∈ X) :
    Calls Try.prog 9 #[v, v'] wr fun e w' => e = .returned (.bool (decide (a = b))) ∧ ∃ q, w' = wr.drewN q := by
  obtain ⟨F, mv, uv, r1, r2, r3⟩ := m.rep
  exact same_calls (r3 _ h1) (r3 _ h2)
end Go.Proofs.Ytihjmgjjknjioaa.In
