/- What a box has, and Hold. -/
import Derived.Test.YtihjmgjjknjioaaInA
namespace Go.Proofs.Ytihjmgjjknjioaa.In
open Go Go.RowKit Go.Proofs.Ytihjmgjjknjioaa.Base Go.Proofs.Ytihjmgjjknjioaa.Draw
set_option linter.unusedVariables false
set_option linter.unusedSimpArgs false

theorem ty_map : MapTy Try.prog 26 23 32 (.slice none 0 0) := ⟨Try.underlying26, Try.underlying23, fun w => by kernel_rfl⟩

/-- Two lists, side by side. -/
def All2 {α β : Type} (R : α → β → Prop) : List α → List β → Prop
  | [], [] => True
  | a :: l, b :: m => R a b ∧ All2 R l m
  | _, _ => False
theorem All2.imp {α β : Type} {R S : α → β → Prop} (h : ∀ a b, R a b → S a b) : ∀ {l : List α} {m : List β}, All2 R l m → All2 S l m
  | [], [], _ => trivial
  | _ :: _, _ :: _, ⟨a, b⟩ => ⟨h _ _ a, b.imp h⟩
theorem All2.length {α β : Type} {R : α → β → Prop} : ∀ {l : List α} {m : List β}, All2 R l m → l.length = m.length
  | [], [], _ => rfl
  | _ :: _, _ :: _, ⟨_, b⟩ => by simp [b.length]
theorem All2.app {α β : Type} {R : α → β → Prop} : ∀ {l l' : List α} {m m' : List β}, All2 R l m → All2 R l' m' → All2 R (l ++ l') (m ++ m')
  | [], _, [], _, _, h => h
  | _ :: _, _, _ :: _, _, ⟨a, b⟩, h => ⟨a, b.app h⟩
theorem All2.get {α β : Type} {R : α → β → Prop} : ∀ {l : List α} {m : List β} {i : Nat} {a : α} {b : β}, All2 R l m → l[i]? = some a → m[i]? = some b → R a b
  | _ :: _, _ :: _, 0, _, _, ⟨h, _⟩, e1, e2 => by
    simp only [List.getElem?_cons_zero, Option.some.injEq] at e1 e2
    subst e1; subst e2; exact h
  | _ :: _, _ :: _, i + 1, _, _, ⟨_, h⟩, e1, e2 => h.get (by simpa using e1) (by simpa using e2)
theorem All2.mem {α β : Type} {R : α → β → Prop} {l : List α} {m : List β} (h : All2 R l m) {a : α} (ha : a ∈ l) : ∃ b ∈ m, R a b := by
  induction l generalizing m with
  | nil => cases ha
  | cons x l ih =>
    cases m with
    | nil => exact h.elim
    | cons y m =>
      rcases List.mem_cons.1 ha with rfl | ha
      · exact ⟨y, by simp, h.1⟩
      · obtain ⟨b, hb, hr⟩ := ih h.2 ha
        exact ⟨b, by simp [hb], hr⟩
theorem All2.filter {α β : Type} {R : α → β → Prop} {p : α → Bool} {q : β → Bool} (hpq : ∀ a b, R a b → p a = q b) : ∀ {l : List α} {m : List β}, All2 R l m → All2 R (l.filter p) (m.filter q)
  | [], [], _ => trivial
  | a :: l, b :: m, ⟨h, g⟩ => by
    have ih := All2.filter hpq g
    have e := hpq a b h
    cases hp : p a
    · rw [hp] at e
      rw [List.filter_cons_of_neg (by simp [hp]), List.filter_cons_of_neg (by simp [← e])]
      exact ih
    · rw [hp] at e
      rw [List.filter_cons_of_pos hp, List.filter_cons_of_pos e.symm]
      exact ⟨h, ih⟩
theorem All2.map {α β α' β' : Type} {R : α → β → Prop} {S : α' → β' → Prop} {f : α → α'} {g : β → β'} (h : ∀ a b, R a b → S (f a) (g b)) : ∀ {l : List α} {m : List β}, All2 R l m → All2 S (l.map f) (m.map g)
  | [], [], _ => trivial
  | _ :: _, _ :: _, ⟨a, b⟩ => ⟨h _ _ a, All2.map h b⟩

/-- What is held: frames by their indexes, in the map's own order. -/
abbrev HL := List (Nat × List Nat)
/-- An entry of the map, and what it stands for. -/
def HEnt (w : World) (F : Nat → Prop) (x : MEnt) (y : Nat × List Nat) : Prop := x.1 = y.1 ∧ y.1 < 4294967296 ∧ Rd w F x.2.1 y.2
def lookH (h : HL) (k : Nat) : Option (List Nat) := (h.find? (fun y => y.1 == k)).map (·.2)
def putH (h : HL) (k : Nat) (bs : List Nat) : HL := if h.any (fun y => y.1 == k) then h.map (fun y => if y.1 = k then (y.1, bs) else y) else h ++ [(k, bs)]
def delH (h : HL) (k : Nat) : HL := h.filter (fun y => y.1 != k)
theorem look_rel {w : World} {F : Nat → Prop} (k : Nat) : ∀ {l : List MEnt} {h : HL}, All2 (HEnt w F) l h → (lookL l k = none ∧ lookH h k = none) ∨ ∃ v bs, lookL l k = some v ∧ lookH h k = some bs ∧ Rd w F v bs
  | [], [], _ => .inl ⟨rfl, rfl⟩
  | x :: l, y :: h, ⟨a, b⟩ => by
    have ih := look_rel k b
    have e := a.1
    unfold lookL lookH at ih ⊢
    by_cases hk : x.1 = k
    · have h1 : (x.1 == k) = true := by simpa using hk
      have h2 : (y.1 == k) = true := by rw [← e]; exact h1
      exact .inr ⟨x.2.1, y.2, by simp [List.find?_cons, h1], by simp [List.find?_cons, h2], a.2.2⟩
    · have h1 : (x.1 == k) = false := by simpa using hk
      have h2 : (y.1 == k) = false := by rw [← e]; exact h1
      simp only [List.find?_cons, h1, h2]
      exact ih
theorem any_rel {w : World} {F : Nat → Prop} (k : Nat) : ∀ {l : List MEnt} {h : HL}, All2 (HEnt w F) l h → l.any (fun x => x.1 == k) = h.any (fun y => y.1 == k)
  | [], [], _ => rfl
  | x :: l, y :: h, ⟨a, b⟩ => by simp [a.1, any_rel k b]
theorem put_rel {w w' : World} {F G : Nat → Prop} {k : Nat} {v : Value} {bs : List Nat} {clock : Nat} (hk : k < 4294967296) (hv : Rd w' G v bs) {l : List MEnt} {h : HL} (ha : All2 (HEnt w F) l h) (hR : ∀ v y, Rd w F v y → Rd w' G v y) :
    All2 (HEnt w' G) (putL l k v clock) (putH h k bs) := by
  have e := any_rel k ha
  unfold putL putH
  rw [← e]
  split
  · refine All2.map (fun a b hab => ?_) ha
    have e1 := hab.1
    by_cases hx : a.1 = k
    · rw [if_pos hx, if_pos (by rw [← e1]; exact hx)]
      exact ⟨e1, hab.2.1, hv⟩
    · rw [if_neg hx, if_neg (by rw [← e1]; exact hx)]
      exact ⟨e1, hab.2.1, hR _ _ hab.2.2⟩
  · exact (ha.imp (fun a b hab => ⟨hab.1, hab.2.1, hR _ _ hab.2.2⟩)).app ⟨⟨rfl, hk, hv⟩, trivial⟩
theorem del_rel {w : World} {F : Nat → Prop} {k : Nat} {l : List MEnt} {h : HL} (ha : All2 (HEnt w F) l h) : All2 (HEnt w F) (delL l k) (delH h k) :=
  All2.filter (fun a b hab => by rw [hab.1]) ha
/-- The map of a box: none yet, or a block of F. -/
def HRep (w : World) (F : Nat → Prop) (mv : Value) (h : HL) : Prop :=
  (mv = .map none ∧ h = []) ∨ ∃ B l clock, mv = .map (some B) ∧ F B ∧ MapAt w B l clock ∧ All2 (HEnt w F) l h
/-- The rows that are to be read: their block is of F; the spare room is the box's own. -/
def URep (w : World) (F : Nat → Prop) (uv : Value) (u : List (List Nat)) : Prop :=
  ∃ A c vs, uv = .slice A u.length c ∧ u.length ≤ c ∧ c ≤ maxLen ∧ All2 (Rd w F) vs u ∧ (A = none → c = 0) ∧
    ∀ ad, A = some ad → ∃ b o, ad = ⟨b, o, none⟩ ∧ F b ∧ (∀ j v, vs[j]? = some v → w.cell? ⟨b, o + j, none⟩ = some v) ∧ ∃ cs, w.heap[b]? = some (.cells cs 32 (0, 0)) ∧ o + c ≤ cs.size
structure BRep (w : World) (g : Nat) (F : Nat → Prop) (mv uv : Value) (h : HL) (u : List (List Nat)) : Prop where
  blk : Blk w g 29 #[mv, uv]
  held : HRep w F mv h
  un : URep w F uv u
  foot : F g
  low : ∀ k, F k → k < w.heap.size
theorem HRep.chg {w w' : World} {F G : Nat → Prop} {mv : Value} {h : HL} (hr : HRep w F mv h) (hc : Chg G w w') (hG : ∀ k, F k → ¬ G k) (hR : ∀ v y, Rd w F v y → Rd w' F v y) : HRep w' F mv h := by
  rcases hr with h | ⟨B, l, clock, e, fB, hm, hf⟩
  · exact .inl h
  · exact .inr ⟨B, l, clock, e, fB, hm.chg hc (hG B fB), All2.imp (fun a b hab => ⟨hab.1, hab.2.1, hR _ _ hab.2.2⟩) hf⟩
theorem URep.below {w w' : World} {F : Nat → Prop} {uv : Value} {u : List (List Nat)} (h : URep w F uv u) (hb : Below w.heap.size w w') : URep w' F uv u := by
  obtain ⟨A, c, vs, e, h1, h2, h3, h4, h5⟩ := h
  refine ⟨A, c, vs, e, h1, h2, All2.imp (fun _ _ r => r.below hb) h3, h4, fun ad ha => ?_⟩
  obtain ⟨b, o, e2, fb, hc, cs, hh, hs⟩ := h5 ad ha
  have hlt := lt_of_block hh
  exact ⟨b, o, e2, fb, fun j v hv => (hb.cell (p := ⟨b, o + j, none⟩) hlt).trans (hc j v hv), cs, (hb.block b hlt).trans hh, hs⟩
theorem HRep.below {w w' : World} {F : Nat → Prop} {mv : Value} {h : HL} (hr : HRep w F mv h) (hb : Below w.heap.size w w') : HRep w' F mv h := by
  rcases hr with h | ⟨B, l, clock, e, fB, hm, hf⟩
  · exact .inl h
  · exact .inr ⟨B, l, clock, e, fB, hm.below hb, All2.imp (fun a b hab => ⟨hab.1, hab.2.1, hab.2.2.below hb⟩) hf⟩
theorem BRep.below {w w' : World} {g : Nat} {F : Nat → Prop} {mv uv : Value} {h : HL} {u : List (List Nat)} (hr : BRep w g F mv uv h u) (hb : Below w.heap.size w w') : BRep w' g F mv uv h u :=
  ⟨hr.blk.below hb hr.blk.lt, hr.held.below hb, hr.un.below hb, hr.foot, fun k hk => Nat.lt_of_lt_of_le (hr.low k hk) hb.size⟩
end Go.Proofs.Ytihjmgjjknjioaa.In
