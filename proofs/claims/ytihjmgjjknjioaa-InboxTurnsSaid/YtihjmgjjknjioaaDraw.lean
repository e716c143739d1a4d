/- A region that draws its order: what reads, or computes, is taken first; what changes the world is met one by one. What each load reads is named, with the operations behind which nobody asks it any more. No program in sight. -/
import Derived.OrdersHeld
import Derived.Deep.RegionHeld
import Derived.Tactics2
namespace Go.Proofs.Ytihjmgjjknjioaa.Draw
open Go

/-- A load of the region: its number, the operations that wait for it, what it reads. -/
structure Held where
  i : Nat
  offs : List Nat
  ad : Addr
  v : Value

def Held.on (h : Held) (L : Array Bool) : Bool := h.offs.all fun e => !L.getD e false

/-- What is still to be asked reads as it was named. -/
def SH (H : List Held) (L : Array Bool) (w : World) : Prop := ∀ h ∈ H, h.on L = true → w.cell? h.ad = some h.v

theorem SH_nil {L : Array Bool} {w : World} : SH [] L w := fun _ h => by cases h
theorem SH_cons {h : Held} {H : List Held} {L : Array Bool} {w : World} (h1 : h.on L = true → w.cell? h.ad = some h.v) (h2 : SH H L w) : SH (h :: H) L w := fun x hx hon => by
  rcases List.mem_cons.1 hx with rfl | hx
  · exact h1 hon
  · exact h2 x hx hon

def heldAt (H : List Held) (i : Nat) (w : World) : Prop :=
  match H.find? (fun h => h.i == i) with
  | some h => w.cell? h.ad = some h.v
  | none => True

def offsAt (H : List Held) (i : Nat) : List Nat :=
  match H.find? (fun h => h.i == i) with
  | some h => h.offs
  | none => []

section
variable {P : Program} {ops : Array Oper} {Q : Exit → Act → World → Prop} {md : Region.Mode} {H : List Held}

def wpAnyI (P : Program) (md : Region.Mode) (ops : Array Oper) (Q : Exit → Act → World → Prop) (H : List Held) : Nat → Array Bool → Act → World → Prop
  | 0, L, a, w => Region.ready md ops L = [] ∧ Q .normal a w
  | n + 1, L, a, w =>
    (Region.ready md ops L = [] → Q .normal a w) ∧
    ∀ i ∈ Region.ready md ops L, wpOp P ops Q i (fun a' w' => SH H (L.setIfInBounds i true) w' ∧ wpAnyI P md ops Q H n (L.setIfInBounds i true) a' w') a w

theorem wpAny_of_I : ∀ (n : Nat) (L : Array Bool) (a : Act) (w : World), wpAnyI P md ops Q H n L a w → wpAny P md ops Q n L a w
  | 0, _, _, _, h => h
  | n + 1, _, _, _, h => ⟨h.1, fun i hi => wpOp_mono (fun a' w' h' => wpAny_of_I n _ a' w' h'.2) (h.2 i hi)⟩

theorem on_set {h : Held} {L : Array Bool} {i : Nat} (hi : h.offs.contains i = false) : h.on (L.setIfInBounds i true) = h.on L := by
  unfold Held.on
  rw [Bool.eq_iff_iff, List.all_eq_true, List.all_eq_true]
  constructor
  · intro g e he
    have := g e he
    rwa [getD_set_ne false (fun e' => by subst e'; simp [he] at hi)] at this
  · intro g e he
    rw [getD_set_ne false (fun e' => by subst e'; simp [he] at hi)]
    exact g e he

theorem SH_set {L : Array Bool} {i : Nat} {w : World} (hi : (H.all fun h => !h.offs.contains i) = true) : SH H (L.setIfInBounds i true) w ↔ SH H L w := by
  constructor
  · intro g h hh hon
    have := List.all_eq_true.1 hi h hh
    exact g h hh (by rw [on_set (by simpa using this)]; exact hon)
  · intro g h hh hon
    have := List.all_eq_true.1 hi h hh
    exact g h hh (by rw [on_set (by simpa using this)] at hon; exact hon)

theorem heldAt_of_SH {L : Array Bool} {i : Nat} {w : World} (hS : SH H L w) (ho : ∀ e ∈ offsAt H i, L.getD e false = false) : heldAt H i w := by
  unfold heldAt
  unfold offsAt at ho
  split
  · rename_i h hf
    rw [hf] at ho
    exact hS h (List.mem_of_find?_eq_some hf) (List.all_eq_true.2 fun e he => by simpa using ho e he)
  · trivial

theorem getD_tf {L : Array Bool} {e : Nat} (h : L.getD e true = false) : L.getD e false = false := by
  rcases Nat.lt_or_ge e L.size with h' | h'
  · simpa [h'] using h
  · simp [Array.getElem?_eq_none h'] at h

/-- An operation that may come up now may be taken first. -/
theorem wpAnyI_first {i : Nat} {oi : Oper} {v : Value} (hi : ops[i]? = some oi) (hsel : ∀ (j : Nat) (o : Oper) cs b, ops[j]? = some o → o.op ≠ .select cs b)
    (hQ : ∀ c a w, Q (.panic c) (a.put oi.dst v) w → Q (.panic c) a w)
    (hset : (H.all fun h => !h.offs.contains i) = true)
    (hoff : ∀ e ∈ offsAt H i, ∀ oe, ops[e]? = some oe → ∃ ed ∈ oe.after, Region.binds md ed = true ∧ ed.on = i) :
    ∀ (n : Nat) (L : Array Bool) (a : Act) (w : World),
      (∀ j oj, ops[j]? = some oj → j ≠ i → L.getD j true = false → (∀ e ∈ oj.after, Region.binds md e = true → e.on ≠ i) → oi.apart ops oj = true) →
      i ∈ Region.ready md ops L → (∀ e ∈ offsAt H i, L.getD e false = false) → YieldsIf P ops (heldAt H i) oi v a → SH H L w →
      wpAnyI P md ops Q H n (L.setIfInBounds i true) (a.put oi.dst v) w → wpAnyI P md ops Q H (n + 1) L a w := by
  intro n
  induction n with
  | zero =>
    intro L a w _ hr ho hy hS h
    refine ⟨fun h0 => (by rw [h0] at hr; cases hr), fun j hj => ?_⟩
    by_cases hji : j = i
    · subst hji; exact hy.wpOp hi (heldAt_of_SH hS ho) ⟨(SH_set hset).2 hS, h⟩
    · have := ready_mono hj hji
      rw [h.1] at this
      cases this
  | succ n ih =>
    intro L a w hfree hr ho hy hS h
    refine ⟨fun h0 => (by rw [h0] at hr; cases hr), fun j hj => ?_⟩
    by_cases hji : j = i
    · subst hji; exact hy.wpOp hi (heldAt_of_SH hS ho) ⟨(SH_set hset).2 hS, h⟩
    · have h1 := h.2 j (ready_mono hj hji)
      obtain ⟨hjun, oj, hoj, hall⟩ := mem_ready.1 hj
      have hiun := (mem_ready.1 hr).1
      have hnot : ∀ e ∈ oj.after, Region.binds md e = true → e.on ≠ i := fun e he hb heq => by
        have h1 := hall e he hb
        rw [heq, getD_tf hiun] at h1
        cases h1
      have hjo : j ∉ offsAt H i := fun hm => by
        obtain ⟨ed, he, hb, heq⟩ := hoff j hm oj hoj
        exact hnot ed he hb heq
      have h2 := wpOp_putIf (S := heldAt H i) hoj (hfree j oj hoj hji hjun hnot) (fun cs b => hsel i oi cs b hi) (fun cs b => hsel j oj cs b hoj) hQ hy h1
      have hfree' : ∀ k ok, ops[k]? = some ok → k ≠ i → (L.setIfInBounds j true).getD k true = false →
          (∀ e ∈ ok.after, Region.binds md e = true → e.on ≠ i) → oi.apart ops ok = true := fun k ok hk hki hun hno => by
        refine hfree k ok hk hki ?_ hno
        by_cases hjk : j = k
        · subst hjk; exact hjun
        · rw [getD_set_ne true hjk] at hun; exact hun
      refine wpOp_mono (fun a' w' h3 => ?_) h2
      obtain ⟨hy', hS', hrest⟩ := h3
      rw [Array.setIfInBounds_comm _ _ (Ne.symm hji)] at hS' hrest
      have hS2 := (SH_set hset).1 hS'
      refine ⟨hS2, ih (L.setIfInBounds j true) a' w' hfree' (ready_mono hr (Ne.symm hji)) (fun e he => ?_) hy' hS2 hrest⟩
      rw [getD_set_ne false (fun e' => by subst e'; exact hjo he)]
      exact ho e he

/-- Is such a row of operations to be taken first, one behind the other? -/
def takesB (md : Region.Mode) (ops : Array Oper) (H : List Held) : List Nat → Array Bool → Bool
  | [], _ => true
  | i :: is, L =>
    Region.free md ops L i && (Region.ready md ops L).contains i && (H.all fun h => !h.offs.contains i) &&
    ((offsAt H i).all fun e => !L.getD e false && (match ops[e]? with | some oe => oe.after.any (fun ed => Region.binds md ed && ed.on == i) | none => false)) &&
    takesB md ops H is (L.setIfInBounds i true)

def setAll (L : Array Bool) : List Nat → Array Bool
  | [] => L
  | i :: is => setAll (L.setIfInBounds i true) is

/-- The row's operations yield, in every world in which the loads read as named. -/
def takeW (P : Program) (ops : Array Oper) (H : List Held) (K : Act → Prop) : List Nat → Act → Prop
  | [], a => K a
  | i :: is, a => ∃ oi v, ops[i]? = some oi ∧ YieldsIf P ops (heldAt H i) oi v a ∧ takeW P ops H K is (a.put oi.dst v)

theorem takeW_nil {K : Act → Prop} {a : Act} (h : K a) : takeW P ops H K [] a := h
theorem takeW_cons {K : Act → Prop} {a : Act} {i : Nat} {is : List Nat} {oi : Oper} {v : Value} (ho : ops[i]? = some oi) (hw : Region.wanted oi (yielded ops a.tmps) = true)
    (hy : ∀ w, heldAt H i w → (execOp a.eval oi).run P w = .ok (.value v) w) (h : takeW P ops H K is (a.put oi.dst v)) : takeW P ops H K (i :: is) a :=
  ⟨oi, v, ho, .inl ⟨hw, hy⟩, h⟩
theorem takeW_skip {K : Act → Prop} {a : Act} {i : Nat} {is : List Nat} {oi : Oper} (ho : ops[i]? = some oi) (hw : Region.wanted oi (yielded ops a.tmps) = false)
    (h : takeW P ops H K is (a.put oi.dst undef)) : takeW P ops H K (i :: is) a :=
  ⟨oi, undef, ho, .inr ⟨hw, rfl⟩, h⟩

theorem takeW_mono {K K' : Act → Prop} (h : ∀ a, K a → K' a) : ∀ (is : List Nat) (a : Act), takeW P ops H K is a → takeW P ops H K' is a
  | [], a, g => h a g
  | _ :: is, _, ⟨oi, v, ho, hy, g⟩ => ⟨oi, v, ho, hy, takeW_mono h is _ g⟩

theorem wpAnyI_takes (hs : Region.noSelect ops = true) (hQ : ∀ (c : List PanicEntry) (a : Act) (d : Tmp) (v : Value) (w : World), Q (.panic c) (a.put (some d) v) w → Q (.panic c) a w) :
    ∀ (is : List Nat) (n : Nat) (L : Array Bool) (a : Act) (w : World), takesB md ops H is L = true → SH H L w →
      (∀ K : Act → Prop, Shut (∀ a', wpAnyI P md ops Q H n (setAll L is) a' w → K a') → takeW P ops H K is a) → wpAnyI P md ops Q H (n + is.length) L a w
  | [], n, L, a, w, _, _, h => h _ (fun _ g => g)
  | i :: is, n, L, a, w, hk, hS, h => by
    obtain ⟨oi, v, ho, hy, hrest⟩ := h (fun a' => wpAnyI P md ops Q H n (setAll L (i :: is)) a' w) (fun _ g => g)
    simp only [takesB, Bool.and_eq_true] at hk
    obtain ⟨⟨⟨⟨h1, h2⟩, h3⟩, h4⟩, h5⟩ := hk
    have hoff : ∀ e ∈ offsAt H i, L.getD e false = false ∧ ∀ oe, ops[e]? = some oe → ∃ ed ∈ oe.after, Region.binds md ed = true ∧ ed.on = i := fun e he => by
      have := List.all_eq_true.1 h4 e he
      simp only [Bool.and_eq_true, Bool.not_eq_true'] at this
      refine ⟨this.1, fun oe hoe => ?_⟩
      have g := this.2
      rw [hoe] at g
      obtain ⟨ed, hed, hb⟩ := Array.any_eq_true'.1 g
      simp only [Bool.and_eq_true, beq_iff_eq] at hb
      exact ⟨ed, hed, hb.1, hb.2⟩
    have hS' : SH H (L.setIfInBounds i true) w := (SH_set h3).2 hS
    exact wpAnyI_first ho (Region.noSelect_spec hs) (fun c a w g => by
      cases hd : oi.dst with
      | none => rw [hd] at g; exact g
      | some d => rw [hd] at g; exact hQ c a d v w g) h3 (fun e he => (hoff e he).2) (n + is.length) L a w (Region.free_spec ho h1) (by simpa using h2) (fun e he => (hoff e he).1) hy hS
      (wpAnyI_takes hs hQ is n (L.setIfInBounds i true) (a.put oi.dst v) w h5 hS' (fun K hK => takeW_mono (fun a' g => hK a' g) is _ hrest))

theorem wpOp_of_list {i : Nat} {o : Oper} {K : Act → World → Prop} {a : Act} {w : World} (ho : ops[i]? = some o) (g : wpList P ops (Exit.then K Q) [o] a w) : wpOp P ops Q i K a w := by
  unfold wpOp
  simp only [ho]
  simp only [wpList] at g
  split
  · rename_i hw
    rw [if_pos hw] at g
    rcases g with g | ⟨g1, a0, w0, g2⟩
    · left
      unfold Oper.wp at *
      generalize (execOp a.eval o).run P w = r at *
      cases r with
      | ok x w' =>
        cases x <;> simp only [Oper.upon] at g ⊢
        case value u => exact g
        case skip => exact g
        case defer d => exact g
        case enter f args =>
          refine Calls.mono g fun e w'' he => ?_
          cases e with
          | returned u => exact he
          | panicked c => exact he
          | outgrown => exact he
        case row row args => exact Rows.mono g fun u w'' he => he
      | halt x w' =>
        cases x <;> simp only [Oper.upon] at g ⊢
        case panic u => exact g
    · exact .inr ⟨g1, a0, w0, g2⟩
  · rename_i hw
    rw [if_neg hw] at g
    exact g

/-- One operation alone may come up: it is walked as in a plain region. -/
theorem wpAnyI_run {i : Nat} {o : Oper} {n : Nat} {L : Array Bool} {a : Act} {w : World} (hr : Region.ready md ops L = [i]) (ho : ops[i]? = some o)
    (h : ∀ K : Act → World → Prop, Shut (∀ a' w', SH H (L.setIfInBounds i true) w' → wpAnyI P md ops Q H n (L.setIfInBounds i true) a' w' → K a' w') → wpList P ops (Exit.then K Q) [o] a w) :
    wpAnyI P md ops Q H (n + 1) L a w := by
  refine ⟨fun h0 => (by rw [hr] at h0; cases h0), fun j hj => ?_⟩
  rw [hr] at hj
  obtain rfl : j = i := by simpa using hj
  exact wpOp_of_list ho (h _ (fun a' w' h1 h2 => ⟨h1, h2⟩))

/-- Two operations may come up: each is walked as in a plain region. -/
theorem wpAnyI_two {i j : Nat} {oi oj : Oper} {n : Nat} {L : Array Bool} {a : Act} {w : World} (hr : Region.ready md ops L = [i, j]) (hi : ops[i]? = some oi) (hj : ops[j]? = some oj)
    (h1 : ∀ K : Act → World → Prop, Shut (∀ a' w', SH H (L.setIfInBounds i true) w' → wpAnyI P md ops Q H n (L.setIfInBounds i true) a' w' → K a' w') → wpList P ops (Exit.then K Q) [oi] a w)
    (h2 : ∀ K : Act → World → Prop, Shut (∀ a' w', SH H (L.setIfInBounds j true) w' → wpAnyI P md ops Q H n (L.setIfInBounds j true) a' w' → K a' w') → wpList P ops (Exit.then K Q) [oj] a w) :
    wpAnyI P md ops Q H (n + 1) L a w := by
  refine ⟨fun h0 => (by rw [hr] at h0; cases h0), fun k hk => ?_⟩
  rw [hr] at hk
  simp only [List.mem_cons, List.not_mem_nil, or_false] at hk
  rcases hk with rfl | rfl
  · exact wpOp_of_list hi (h1 _ (fun a' w' h1 h2 => ⟨h1, h2⟩))
  · exact wpOp_of_list hj (h2 _ (fun a' w' h1 h2 => ⟨h1, h2⟩))

theorem wpAnyI_done {L : Array Bool} {a : Act} {w : World} (hr : Region.ready md ops L = []) (h : Q .normal a w) : ∀ n, wpAnyI P md ops Q H n L a w
  | 0 => ⟨hr, h⟩
  | _ + 1 => ⟨fun _ => h, by rw [hr]; simp⟩

theorem wp_region_I {id : Nat} {a : Act} {w : World} (H : List Held) (hm : P.follows .mixedOrders = true)
    (h : wpAnyI P .any ops Q H ops.size (Array.replicate ops.size false) a w.drew) : (Code.region id ops true).wp P Q a w :=
  wp_region_any hm (wpAny_of_I _ _ _ _ h)
end
end Go.Proofs.Ytihjmgjjknjioaa.Draw
