/- Several rows that a call owns, apart from each other; what an append to one of them leaves of the others. -/
import Derived.Test.YtihjmgjjknjioaaBase
namespace Go.Proofs.Ytihjmgjjknjioaa.Base
open Go Go.RowKit
set_option linter.unusedVariables false

structure Row where
  e : TypeId
  size : Nat
  n : Nat
  xs : List Value

def Dis (v v' : Value) : Prop := ∀ k, v.ownBlock = some k → v'.ownBlock ≠ some k
theorem Dis.symm {v v' : Value} (h : Dis v v') : Dis v' v := fun k hk hk' => h k hk' hk

def Owns (w : World) (l : List (Value × Row)) : Prop :=
  (∀ p ∈ l, w.ownsRow 0 p.2.e p.2.size p.1 p.2.n p.2.xs) ∧ l.Pairwise (fun a b => Dis a.1 b.1)

theorem Owns.chg {w w' : World} {l : List (Value × Row)} {F : Nat → Prop} (h : Owns w l) (hc : Chg F w w') (hF : ∀ p ∈ l, ∀ k, p.1.ownBlock = some k → ¬ F k) : Owns w' l :=
  ⟨fun p hp => own_chg (h.1 p hp) hc (hF p hp), h.2⟩
theorem Owns.below {w w' : World} {l : List (Value × Row)} (h : Owns w l) (hb : Below w.heap.size w w') : Owns w' l :=
  h.chg (F := fun _ => False) (Chg.of_below hb) (fun _ _ _ _ f => f)
theorem Owns.alloc {w : World} {l : List (Value × Row)} (h : Owns w l) (o : Obj) : Owns (w.alloc o) l := ⟨fun p hp => (h.1 p hp).alloc o, h.2⟩
theorem Owns.drewN {w : World} {l : List (Value × Row)} (h : Owns w l) (k : Nat) : Owns (w.drewN k) l := ⟨fun p hp => own_drewN (h.1 p hp) k, h.2⟩
theorem Owns.heap {w w' : World} {l : List (Value × Row)} (h : Owns w l) (e : w'.heap = w.heap) : Owns w' l := ⟨fun p hp => own_heap (h.1 p hp) e, h.2⟩
theorem Owns.setCell {w : World} {l : List (Value × Row)} {t : Nat} {T : TypeId} {cs : Array Value} (h : Owns w l) (hb : Blk w t T cs) (hT : ∀ p ∈ l, p.2.e ≠ T) (i : Nat) (u : Value) : Owns (w.setCell ⟨t, i, none⟩ u) l :=
  ⟨fun p hp => own_setCell (h.1 p hp) (hb.own_ne (h.1 p hp) (hT p hp)) u, h.2⟩
theorem Owns.lt {w : World} {l : List (Value × Row)} (h : Owns w l) : ∀ p ∈ l, ∀ k, p.1.ownBlock = some k → k < w.heap.size := fun p hp k hk => ((h.1 p hp).lt k hk).2

theorem Owns.mid {w : World} {l1 l2 : List (Value × Row)} {v : Value} {r : Row} (h : Owns w (l1 ++ (v, r) :: l2)) : w.ownsRow 0 r.e r.size v r.n r.xs := h.1 (v, r) (by simp)
theorem Owns.dis {w : World} {l1 l2 : List (Value × Row)} {v : Value} {r : Row} (h : Owns w (l1 ++ (v, r) :: l2)) : ∀ p ∈ l1 ++ l2, Dis v p.1 := by
  intro p hp
  have h2 := h.2
  rw [List.pairwise_append] at h2
  obtain ⟨h3, h4, h5⟩ := h2
  rw [List.pairwise_cons] at h4
  rcases List.mem_append.1 hp with hp | hp
  · exact (h5 p hp (v, r) (by simp)).symm
  · exact h4.1 p hp

/-- One row is appended to: the others stay, and stay apart. -/
theorem Owns.grown {w w' : World} {l1 l2 : List (Value × Row)} {v v' : Value} {r r' : Row} (h : Owns w (l1 ++ (v, r) :: l2)) (hg : w.grownBy w' v.ownBlock)
    (ho : w'.ownsRow 0 r'.e r'.size v' r'.n r'.xs) (hat : v'.ownBlock = v.ownBlock ∨ ∀ k, v'.ownBlock = some k → w.heap.size ≤ k) : Owns w' (l1 ++ (v', r') :: l2) := by
  have hd := h.dis
  have keep : ∀ p ∈ l1 ++ l2, w'.ownsRow 0 p.2.e p.2.size p.1 p.2.n p.2.xs := fun p hp => by
    have hp' : p ∈ l1 ++ (v, r) :: l2 := by
      rcases List.mem_append.1 hp with h | h
      · simp [h]
      · simp [h]
    refine (h.1 p hp').kept hg ?_
    rcases hq : p.1.ownBlock with _ | q
    · exact .inl rfl
    · exact .inr fun e => hd p hp q e.symm hq
  have hd' : ∀ p ∈ l1 ++ l2, Dis v' p.1 := fun p hp k hk hk' => by
    rcases hat with e | e
    · exact hd p hp k (e ▸ hk) hk'
    · have h1 := e k hk
      have hp' : p ∈ l1 ++ (v, r) :: l2 := by
        rcases List.mem_append.1 hp with h | h
        · simp [h]
        · simp [h]
      have h2 := h.lt p hp' k hk'
      omega
  refine ⟨fun p hp => ?_, ?_⟩
  · rcases List.mem_append.1 hp with hp | hp
    · exact keep p (by simp [hp])
    · rcases List.mem_cons.1 hp with rfl | hp
      · exact ho
      · exact keep p (by simp [hp])
  · have h2 := h.2
    rw [List.pairwise_append] at h2 ⊢
    obtain ⟨h3, h4, h5⟩ := h2
    rw [List.pairwise_cons] at h4 ⊢
    refine ⟨h3, ⟨fun p hp => hd' p (by simp [hp]), h4.2⟩, fun a ha b hb => ?_⟩
    rcases List.mem_cons.1 hb with rfl | hb
    · exact (hd' a (by simp [ha])).symm
    · exact h5 a ha b (by simp [hb])

def Fresh (w : World) (v v' : Value) : Prop := ∀ k, v'.ownBlock = some k → v.ownBlock = some k ∨ w.heap.size ≤ k
theorem Fresh.trans {w w1 : World} {a b c : Value} (h1 : Fresh w a b) (h2 : Fresh w1 b c) (hs : w.heap.size ≤ w1.heap.size) : Fresh w a c := fun k hk => by
  rcases h2 k hk with h | h
  · exact h1 k h
  · right; omega
theorem Fresh.up {w w1 : World} {a b : Value} (h : Fresh w1 a b) (hs : w.heap.size ≤ w1.heap.size) : Fresh w a b := fun k hk => (h k hk).imp id (fun g => by omega)
theorem Fresh.refl (w : World) (a : Value) : Fresh w a a := fun k hk => .inl hk

/-- Amid a function: a block known whole, rows apart from each other, and what may have turned since w0. -/
structure Mid (w0 : World) (F : Nat → Prop) (w : World) (t : Nat) (T : TypeId) (cs : Array Value) (l : List (Value × Row)) : Prop where
  blk : Blk w t T cs
  rows : Owns w l
  chg : Chg F w0 w

section
variable {w0 w w' : World} {F : Nat → Prop} {t : Nat} {T : TypeId} {cs : Array Value} {l : List (Value × Row)}
theorem Mid.alloc (h : Mid w0 F w t T cs l) (o : Obj) : Mid w0 F (w.alloc o) t T cs l := ⟨h.blk.alloc o, h.rows.alloc o, h.chg.alloc o⟩
theorem Mid.drewN (h : Mid w0 F w t T cs l) (k : Nat) : Mid w0 F (w.drewN k) t T cs l := ⟨h.blk.drewN k, h.rows.drewN k, h.chg.drewN k⟩
theorem Mid.drew (h : Mid w0 F w t T cs l) : Mid w0 F w.drew t T cs l := h.drewN 1
theorem Mid.set (h : Mid w0 F w t T cs l) (hT : ∀ p ∈ l, p.2.e ≠ T) (hF : F t ∨ w0.heap.size ≤ t) (i : Nat) (u : Value) : Mid w0 F (w.setCell ⟨t, i, none⟩ u) t T (cs.setIfInBounds i u) l :=
  ⟨h.blk.set_ i u, h.rows.setCell h.blk hT i u, h.chg.setCell hF u⟩
theorem Mid.app {l1 l2 : List (Value × Row)} {v v' : Value} {r r' : Row} (h : Mid w0 F w t T cs (l1 ++ (v, r) :: l2)) (hT : r.e ≠ T) (hg : w.grownBy w' v.ownBlock)
    (ho : w'.ownsRow 0 r'.e r'.size v' r'.n r'.xs) (hat : v'.ownBlock = v.ownBlock ∨ ∀ k, v'.ownBlock = some k → w.heap.size ≤ k) (hF : ∀ k, v.ownBlock = some k → F k ∨ w0.heap.size ≤ k) :
    Mid w0 F w' t T cs (l1 ++ (v', r') :: l2) :=
  ⟨h.blk.grown hg (h.blk.own_ne h.rows.mid hT), h.rows.grown hg ho hat, chg_grown h.chg hg hF⟩
theorem Mid.cell (h : Mid w0 F w t T cs l) (i : Nat) : w.cell? ⟨t, i, none⟩ = cs[i]? := h.blk.cell i
end
theorem at_or {v : Value} {g n cap s : Nat} (hat : v.ownBlock = some g ∨ g = s) : (Value.slice (some ⟨g, 0, none⟩) n cap).ownBlock = v.ownBlock ∨ ∀ k, (Value.slice (some ⟨g, 0, none⟩) n cap).ownBlock = some k → s ≤ k := by
  rcases hat with h | h
  · exact .inl h.symm
  · exact .inr fun k hk => by simp only [Value.ownBlock] at hk; injection hk with hk; omega
/-- The block that an append's news lie in is kept by a law on another row. -/
theorem news_kept {w w' : World} {v : Value} {B : Nat} {o : Obj} (h : w.heap[B]? = some o) (hg : w.grownBy w' v.ownBlock) (hne : v.ownBlock ≠ some B) : w'.heap[B]? = some o :=
  (hg.block B (lt_of_block h) (fun e => hne e.symm)).trans h
end Go.Proofs.Ytihjmgjjknjioaa.Base
