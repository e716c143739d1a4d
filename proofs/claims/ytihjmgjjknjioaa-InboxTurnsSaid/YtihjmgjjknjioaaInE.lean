/- What Held has amid its loop. -/
import Derived.Test.YtihjmgjjknjioaaInD
namespace Go.Proofs.Ytihjmgjjknjioaa.In
open Go Go.RowKit Go.Proofs.Ytihjmgjjknjioaa.Base Go.Proofs.Ytihjmgjjknjioaa.Draw
set_option linter.unusedVariables false
set_option linter.unusedSimpArgs false

def datum (h : HL) (k : Nat) : List Nat := (lookH h k).getD []
abbrev CL := List (Nat × Value)
def flat (cs : CL) : List Value := cs.flatMap fun c => [.int .u32 (c.1 : Int), c.2]
theorem flat_app (a b : CL) : flat (a ++ b) = flat a ++ flat b := by simp [flat]
theorem ty_held : SlTy Try.prog 33 41 (.agg #[.int .u32 0, .slice none 0 0]) 2 32 := ⟨Try.underlying33, by kernel_rfl, rfl, by decide⟩
theorem lookL_mem {l : List MEnt} (hk : (l.map (·.1)).Nodup) {x : MEnt} (hx : x ∈ l) : lookL l x.1 = some x.2.1 := by
  unfold lookL
  cases hf : l.find? (fun y => y.1 == x.1) with
  | none =>
    rw [List.find?_eq_none] at hf
    exact absurd (beq_self_eq_true _) (hf x hx)
  | some y =>
    have h1 := List.mem_of_find?_eq_some hf
    have h2 := List.find?_some hf
    have : y = x := key_inj hk h1 hx (by simpa using h2)
    rw [this]; rfl
theorem rd_mem {w : World} {F : Nat → Prop} {l : List MEnt} {h : HL} (hk : (l.map (·.1)).Nodup) (ha : All2 (HEnt w F) l h) {x : MEnt} (hx : x ∈ l) : Rd w F x.2.1 (datum h x.1) := by
  have e := lookL_mem hk hx
  unfold datum
  rcases look_rel x.1 ha with ⟨e1, e2⟩ | ⟨v0, bs0, e1, e2, r0⟩
  · rw [e] at e1; cases e1
  · rw [e] at e1
    injection e1 with e1
    rw [e2, e1]; exact r0
theorem cell_it {w : World} {r : Nat} {a : Option Nat} {b d : Nat} {c : Array Nat} (hit : w.heap[r]? = some (.mapIter a b c d)) {o : Nat} {s : Option Nat} {u : Value} (hc : w.cell? ⟨r, o, s⟩ = some u) : False := by
  simp [World.cell?, hit] at hc
theorem sl_but {w w' : World} {r : Nat} {a : Option Nat} {b d : Nat} {c : Array Nat} (hit : w.heap[r]? = some (.mapIter a b c d)) (hk : ∀ k, k ≠ r → w'.heap[k]? = w.heap[k]?) {sz n : Nat} {v : Value} {vs : List Value} (h : Sl w sz v n vs) : Sl w' sz v n vs := by
  obtain ⟨h1, A, c', e, h2, h3, h4⟩ := h
  refine ⟨h1, A, c', e, h2, h3, fun h0 => ?_⟩
  obtain ⟨b', o, e2, hc⟩ := h4 h0
  refine ⟨b', o, e2, fun j u hu => ?_⟩
  have h5 := hc j u hu
  exact (World.cell?_of_block (hk b' (fun e => by subst e; exact cell_it hit h5))).trans h5
theorem rd_but {w w' : World} {r : Nat} {a : Option Nat} {b d : Nat} {c : Array Nat} (hit : w.heap[r]? = some (.mapIter a b c d)) (hk : ∀ k, k ≠ r → w'.heap[k]? = w.heap[k]?) {F : Nat → Prop} {v : Value} {bs : List Nat} (h : Rd w F v bs) : Rd w' F v bs := ⟨sl_but hit hk h.sl, h.out, h.small⟩
theorem own_but {w w' : World} {r : Nat} {a : Option Nat} {b d : Nat} {c : Array Nat} (hit : w.heap[r]? = some (.mapIter a b c d)) (hk : ∀ k, k ≠ r → w'.heap[k]? = w.heap[k]?) {base : Nat} {e : TypeId} {size n : Nat} {v : Value} {xs : List Value} (h : w.ownsRow base e size v n xs) : w'.ownsRow base e size v n xs := by
  obtain ⟨h1, h2⟩ := h
  refine ⟨h1, h2.imp id ?_⟩
  rintro ⟨g, cap, cur, e1, hg, hh, rest⟩
  have hne : g ≠ r := by rintro rfl; rw [hit] at hh; cases hh
  exact ⟨g, cap, cur, e1, hg, (hk g hne).trans hh, rest⟩
theorem own_it {w : World} {r : Nat} {a : Option Nat} {b d : Nat} {c : Array Nat} (hit : w.heap[r]? = some (.mapIter a b c d)) {base : Nat} {e : TypeId} {size n : Nat} {v : Value} {xs : List Value} (h : w.ownsRow base e size v n xs) : v.ownBlock ≠ some r := by
  rcases h.2 with ⟨rfl, _⟩ | ⟨g, cap, cur, rfl, _, hh, _⟩
  · simp [Value.ownBlock]
  · intro e
    simp only [Value.ownBlock] at e
    injection e with e
    subst e
    rw [hit] at hh
    cases hh
theorem sub_len : ∀ {S l : List MEnt}, (S.map (·.2.2)).Nodup → (∀ x ∈ S, x ∈ l) → S.length ≤ l.length
  | [], l, _, _ => by simp
  | a :: S, l, hn, hs => by
    rw [List.map_cons, List.nodup_cons] at hn
    have ha := hs a (by simp)
    obtain ⟨l1, l2, rfl⟩ := List.append_of_mem ha
    have := sub_len (S := S) (l := l1 ++ l2) hn.2 (fun x hx => by
      have hx' := hs x (by simp [hx])
      have hne : x ≠ a := by rintro rfl; exact hn.1 (List.mem_map.2 ⟨x, hx, rfl⟩)
      simp only [List.mem_append, List.mem_cons] at hx' ⊢
      rcases hx' with h | h | h
      · exact .inl h
      · exact absurd h hne
      · exact .inr h)
    simp only [List.length_append, List.length_cons] at this ⊢
    omega
structure HeldMid (w wr : World) (F : Nat → Prop) (B r : Nat) (l : List MEnt) (clock : Nat) (h : HL) (v : Value) (S : List MEnt) (cs : CL) : Prop where
  at_ : RangeAt wr B r l clock clock (S.map (·.2.2))
  sub : ∀ x ∈ S, x ∈ l
  nod : (S.map (·.2.2)).Nodup
  keys : cs.map (·.1) = S.map (·.1)
  rd : ∀ c ∈ cs, Rd wr (fun k => F k ∨ v.ownBlock = some k) c.2 (datum h c.1)
  own : wr.ownsRow w.heap.size 41 2 v cs.length (flat cs)
  bel : Below w.heap.size w wr

end Go.Proofs.Ytihjmgjjknjioaa.In
