/- Amid a function that owns rows alone, all made since it began. -/
import Derived.Test.YtfflidaodnhpbaaLedG
import Derived.OwnWalk
namespace Go.Proofs.Ytfflidaodnhpbaa.Led
open Go Go.RowKit Go.Proofs.Ytfflidaodnhpbaa.Base Go.Proofs.Ytfflidaodnhpbaa.Draw
set_option linter.unusedVariables false
set_option linter.unusedSimpArgs false

structure OMid (w wr : World) (l : List (Value × Row)) : Prop where
  rows : Owns wr l
  low : ∀ p ∈ l, ∀ k, p.1.ownBlock = some k → w.heap.size ≤ k
  bel : Below w.heap.size w wr

theorem OMid.nil (w : World) : OMid w w [] := ⟨⟨fun _ h => (by cases h), List.Pairwise.nil⟩, fun _ h => (by cases h), Below.refl _ _⟩
theorem OMid.drewN {w wr : World} {l : List (Value × Row)} (h : OMid w wr l) (k : Nat) : OMid w (wr.drewN k) l := ⟨h.rows.drewN k, h.low, below_drewN h.bel k⟩
theorem OMid.alloc {w wr : World} {l : List (Value × Row)} (h : OMid w wr l) (o : Obj) : OMid w (wr.alloc o) l := ⟨h.rows.alloc o, h.low, h.bel.alloc h.bel.size o⟩
theorem OMid.below {w wr w' : World} {l : List (Value × Row)} (h : OMid w wr l) (hb : Below wr.heap.size wr w') : OMid w w' l :=
  ⟨h.rows.below hb, h.low, h.bel.trans (hb.mono h.bel.size)⟩
/-- A nil row beside. -/
theorem OMid.nils {w wr : World} {l : List (Value × Row)} (h : OMid w wr l) (e : TypeId) (s : Nat) : OMid w wr (l ++ [(.slice none 0 0, ⟨e, s, 0, []⟩)]) := by
  refine ⟨⟨fun p hp => ?_, ?_⟩, fun p hp k hk => ?_, h.bel⟩
  · rcases List.mem_append.1 hp with hp | hp
    · exact h.rows.1 p hp
    · simp only [List.mem_singleton] at hp; subst hp; exact World.ownsRow_nil _ _ _ _
  · rw [List.pairwise_append]
    refine ⟨h.rows.2, by simp, fun a ha b hb k hk hk' => ?_⟩
    simp only [List.mem_singleton] at hb
    subst hb
    simp [Value.ownBlock] at hk'
  · rcases List.mem_append.1 hp with hp | hp
    · exact h.low p hp k hk
    · simp only [List.mem_singleton] at hp; subst hp; simp [Value.ownBlock] at hk
/-- A new row beside: it lies above all that was. -/
theorem OMid.new {w wr w' : World} {l : List (Value × Row)} {v : Value} {e : TypeId} {s n : Nat} {xs : List Value} (h : OMid w wr l) (hg : wr.grownBy w' none) (ho : w'.ownsRow wr.heap.size e s v n xs) : OMid w w' (l ++ [(v, ⟨e, s, n, xs⟩)]) := by
  have hs := h.bel.size
  have hl := own_low ho
  refine ⟨⟨fun p hp => ?_, ?_⟩, fun p hp k hk => ?_, h.bel.grown hg hs (fun k hk => by cases hk)⟩
  · rcases List.mem_append.1 hp with hp | hp
    · exact (h.rows.1 p hp).kept hg (by
        rcases hq : p.1.ownBlock with _ | q
        · exact .inl rfl
        · exact .inr (by simp))
    · simp only [List.mem_singleton] at hp; subst hp; exact own_zero ho
  · rw [List.pairwise_append]
    refine ⟨h.rows.2, by simp, fun a ha b hb k hk hk' => ?_⟩
    simp only [List.mem_singleton] at hb
    subst hb
    have := h.rows.lt a ha k hk
    have := hl k hk'
    omega
  · rcases List.mem_append.1 hp with hp | hp
    · exact h.low p hp k hk
    · simp only [List.mem_singleton] at hp; subst hp
      have := hl k hk
      omega
/-- A row written down at once. -/
theorem OMid.lit {w wr : World} {l : List (Value × Row)} (h : OMid w wr l) (xs : List Value) (e : TypeId) (hm : xs.length ≤ maxLen) : OMid w (wr.alloc (.cells xs.toArray e)) (l ++ [(.slice (some ⟨wr.heap.size, 0, none⟩) xs.length xs.length, ⟨e, 1, xs.length, xs⟩)]) := by
  have ho : (wr.alloc (.cells xs.toArray e)).ownsRow wr.heap.size e 1 (.slice (some ⟨wr.heap.size, 0, none⟩) xs.length xs.length) xs.length xs := by
    simpa using World.ownsRow_lit (base := wr.heap.size) (e := e) (size := 1) wr xs.toArray xs.length (Nat.le_refl _) hm (by simp)
  exact h.new (World.grownBy_alloc wr _ none) ho
theorem OMid.app {w wr w1 w' : World} {l1 l2 : List (Value × Row)} {v : Value} {r r' : Row} {o : Obj} {g' n cap : Nat} (h : OMid w wr (l1 ++ (v, r) :: l2)) (h1 : w1.heap = (wr.alloc o).heap)
    (h2 : Below w.heap.size w w1) (hg : w1.grownBy w' v.ownBlock) (ho : w'.ownsRow 0 r'.e r'.size (.slice (some ⟨g', 0, none⟩) n cap) r'.n r'.xs) (hat : v.ownBlock = some g' ∨ g' = w1.heap.size) :
    OMid w w' (l1 ++ (.slice (some ⟨g', 0, none⟩) n cap, r') :: l2) := by
  obtain ⟨hrows, hfr⟩ := rows_step h.rows h1 hg ho hat
  have hs := h.bel.size
  have hv := h.low (v, r) (by simp)
  refine ⟨hrows, ?_, ?_⟩
  · intro p hp k hk
    rcases List.mem_append.1 hp with hp' | hp'
    · exact h.low p (List.mem_append.2 (.inl hp')) k hk
    · rcases List.mem_cons.1 hp' with rfl | hp'
      · exact low_fresh hs hv hfr k hk
      · exact h.low p (List.mem_append.2 (.inr (List.mem_cons_of_mem _ hp'))) k hk
  · refine h2.grown hg ?_ hv
    rw [h1]; simp; omega
/-- A cell of one row is stored into. -/
theorem OMid.stored {w wr : World} {l1 l2 : List (Value × Row)} {g cap : Nat} {r : Row} (h : OMid w wr (l1 ++ (.slice (some ⟨g, 0, none⟩) r.n cap, r) :: l2)) (j : Nat) (u : Value) :
    OMid w (wr.setCell ⟨g, j, none⟩ u) (l1 ++ (.slice (some ⟨g, 0, none⟩) r.n cap, ⟨r.e, r.size, r.n, r.xs.set j u⟩) :: l2) := by
  have hg := h.low _ (List.mem_append.2 (.inr (List.mem_cons_self ..))) g rfl
  have hd := h.rows.dis
  refine ⟨⟨fun p hp => ?_, ?_⟩, fun p hp k hk => ?_, h.bel.setCell hg u⟩
  · rcases List.mem_append.1 hp with hp | hp
    · exact own_setCell (h.rows.1 p (List.mem_append.2 (.inl hp))) (fun e => hd p (List.mem_append.2 (.inl hp)) g rfl e.symm) u
    · rcases List.mem_cons.1 hp with rfl | hp
      · exact (h.rows.mid.stored j u).1
      · exact own_setCell (h.rows.1 p (List.mem_append.2 (.inr (List.mem_cons_of_mem _ hp)))) (fun e => hd p (List.mem_append.2 (.inr hp)) g rfl e.symm) u
  · have h2 := h.rows.2
    rw [List.pairwise_append] at h2 ⊢
    obtain ⟨h3, h4, h5⟩ := h2
    rw [List.pairwise_cons] at h4 ⊢
    refine ⟨h3, ⟨h4.1, h4.2⟩, fun a ha b hb => ?_⟩
    rcases List.mem_cons.1 hb with rfl | hb
    · exact h5 a ha (.slice (some ⟨g, 0, none⟩) r.n cap, r) (List.mem_cons_self ..)
    · exact h5 a ha b (List.mem_cons_of_mem _ hb)
  · rcases List.mem_append.1 hp with hp | hp
    · exact h.low p (List.mem_append.2 (.inl hp)) k hk
    · rcases List.mem_cons.1 hp with rfl | hp
      · exact h.low _ (List.mem_append.2 (.inr (List.mem_cons_self ..))) k hk
      · exact h.low p (List.mem_append.2 (.inr (List.mem_cons_of_mem _ hp))) k hk
/-- A cell of a row of one-cell elements. -/
theorem OMid.cellI {w wr : World} {l : List (Value × Row)} {e : TypeId} {g K c j : Nat} {xs : List Value} {u : Value} (h : OMid w wr l) (hm : (Value.slice (some ⟨g, 0, none⟩) K c, (⟨e, 1, K, xs⟩ : Row)) ∈ l) (hj : j < K) (hx : xs[j]? = some u) :
    wr.cell? ⟨g, j, none⟩ = some u ∧ g < wr.heap.size ∧ wr.frozen? ⟨g, j, none⟩ = false := by
  have h1 : wr.ownsRow 0 e 1 (.slice (some ⟨g, 0, none⟩) K c) K xs := h.rows.1 _ hm
  exact ⟨(h1.cellAt j (by omega)).trans hx, h.rows.lt _ hm g rfl, h1.frozenAt j⟩
/-- make([]T, n): n zero elements. -/
theorem list_make {P : Program} {t e : TypeId} {z : Value} {size bytes : Nat} {w : World} (T : SlTy P t e z size bytes) {ops : Array Oper} {rest : List Oper} {o : Oper} {a : Act} {Q : Exit → Act → World → Prop} (hgd : o.guard = none) (l : Operand)
    (ho : o.op = .makeSlice t l l) {n : Nat} (hl : a.eval l = .int .i64 (n : Int)) (b2 : bytes * n ≤ 281474976710656) (b3 : n ≤ maxLen)
    (h : ∀ w', w'.ownsRow w.heap.size e size (.slice (some ⟨w.heap.size, 0, none⟩) n n) n (madeCells z.cells (n * size)).toList → w.grownBy w' none → wpList P ops Q rest (a.put o.dst (.slice (some ⟨w.heap.size, 0, none⟩) n n)) w') :
    wpList P ops Q (o :: rest) a w := by
  obtain ⟨i, hi, hz, hsize, hby⟩ := info_parts T.info
  exact wpList_make_full w hgd l l t ho w.heap.size e i z size T.ht hi hz hsize .i64 .i64 n n n hl hl rfl rfl (by rw [hby]; exact b2) b3 (Nat.le_refl _) h
end Go.Proofs.Ytfflidaodnhpbaa.Led
