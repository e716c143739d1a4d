/- Maps with keys of 32 bits, known entry by entry: what a look-up, a store, a delete and a range do to them. No program in sight. -/
import Derived.Test.YtihjmgjjknjioaaBase
import Derived.Maps.RangeWalk
namespace Go.Proofs.Ytihjmgjjknjioaa.Base
open Go Go.RowKit Go.ChangeMaps
set_option linter.unusedVariables false
set_option linter.unusedSimpArgs false

theorem sl_at {w : World} {sz n c : Nat} {A : Option Addr} {vs : List Value} (h : Sl w sz (.slice A n c) n vs) (hn : 0 < n) : ∃ b o, A = some ⟨b, o, none⟩ ∧ ∀ j u, vs[j]? = some u → w.cell? ⟨b, o + j, none⟩ = some u := by
  obtain ⟨_, A', c', h1, _, _, h4⟩ := h
  injection h1 with h1
  subst h1
  exact h4 hn
abbrev MEnt := Nat × Value × Nat
def ent (x : MEnt) : MapEntry := ⟨.int .u32 (x.1 : Int), x.2.1, x.2.2⟩
/-- A block that is a map, known entry by entry. -/
structure MapAt (w : World) (B : Nat) (l : List MEnt) (clock : Nat) : Prop where
  heap : w.heap[B]? = some (.map (l.map ent).toArray clock)
  keys : (l.map (·.1)).Nodup
  borns : (l.map (·.2.2)).Nodup
  lt : ∀ x ∈ l, x.2.2 < clock
def findI (k : Nat) : List MEnt → Nat → Option (Nat × Value)
  | [], _ => none
  | x :: l, i => if x.1 = k then some (i, x.2.1) else findI k l (i + 1)
def lookL (l : List MEnt) (k : Nat) : Option Value := (l.find? (fun x => x.1 == k)).map (·.2.1)
def putL (l : List MEnt) (k : Nat) (v : Value) (clock : Nat) : List MEnt := if l.any (fun x => x.1 == k) then l.map (fun x => if x.1 = k then (x.1, v, x.2.2) else x) else l ++ [(k, v, clock)]
def delL (l : List MEnt) (k : Nat) : List MEnt := l.filter (fun x => x.1 != k)

theorem findNow_ent (k : Nat) : ∀ (l : List MEnt) (i : Nat), Instr.findNow (.int .u32) (.int .u32 (k : Int)) (l.map ent) i = some (findI k l i)
  | [], i => rfl
  | x :: l, i => by
    have ih := findNow_ent k l (i + 1)
    simp only [List.map_cons, Instr.findNow, ent, Instr.sameNow, if_true, findI]
    by_cases h : x.1 = k
    · rw [if_pos h]
      have : ((k : Int) == (x.1 : Int)) = true := by simp; omega
      rw [this]
    · rw [if_neg h]
      have : ((k : Int) == (x.1 : Int)) = false := by simp; omega
      rw [this]
      exact ih
theorem findI_look (k : Nat) : ∀ (l : List MEnt) (i : Nat), (findI k l i).map (·.2) = lookL l k
  | [], i => rfl
  | x :: l, i => by
    have ih := findI_look k l (i + 1)
    unfold findI lookL
    by_cases h : x.1 = k
    · simp [h]
    · have h' : (x.1 == k) = false := by simpa using h
      simp only [if_neg h, List.find?_cons, h']
      exact ih
theorem findI_some {k : Nat} : ∀ {l : List MEnt} {i j : Nat} {v : Value}, findI k l i = some (j, v) → ∃ q b, j = i + q ∧ l[q]? = some (k, v, b)
  | [], i, j, v, h => by cases h
  | x :: l, i, j, v, h => by
    unfold findI at h
    split at h
    · rename_i e
      injection h with h
      injection h with h1 h2
      exact ⟨0, x.2.2, by omega, by subst e; subst h2; rfl⟩
    · obtain ⟨q, b, h1, h2⟩ := findI_some h
      exact ⟨q + 1, b, by omega, by simpa using h2⟩
theorem findI_none {k : Nat} : ∀ {l : List MEnt} {i : Nat}, findI k l i = none → ∀ x ∈ l, x.1 ≠ k
  | [], i, _, x, hx => by cases hx
  | y :: l, i, h, x, hx => by
    unfold findI at h
    split at h
    · cases h
    · rename_i e
      rcases List.mem_cons.1 hx with rfl | hx
      · exact e
      · exact findI_none h x hx

section
variable {w : World} {B : Nat} {l : List MEnt} {clock : Nat}
theorem MapAt.lt_ (h : MapAt w B l clock) : B < w.heap.size := lt_of_block h.heap
theorem MapAt.same {w' : World} (h : MapAt w B l clock) (e : w'.heap[B]? = w.heap[B]?) : MapAt w' B l clock := ⟨e.trans h.heap, h.keys, h.borns, h.lt⟩
theorem MapAt.chg {w' : World} {F : Nat → Prop} (h : MapAt w B l clock) (hc : Chg F w w') (hF : ¬ F B) : MapAt w' B l clock := h.same (hc.block B h.lt_ hF)
theorem MapAt.below {w' : World} (h : MapAt w B l clock) (hb : Below w.heap.size w w') : MapAt w' B l clock := h.same (hb.block B h.lt_)
theorem MapAt.alloc (h : MapAt w B l clock) (o : Obj) : MapAt (w.alloc o) B l clock := h.same (Below.heap_alloc w o B h.lt_)
theorem MapAt.drewN (h : MapAt w B l clock) (k : Nat) : MapAt (w.drewN k) B l clock := h.same rfl
theorem MapAt.new (w : World) : MapAt (w.alloc (.map #[] 0)) w.heap.size [] 0 := ⟨by simpa using heap_alloc_new w _, by simp, by simp, by simp⟩
theorem set_size (w : World) (b : Nat) (o : Obj) : (setBlock w b o).heap.size = w.heap.size := by simp [setBlock]
theorem set_other {b i : Nat} (o : Obj) (h : i ≠ b) : (setBlock w b o).heap[i]? = w.heap[i]? := by
  simp only [setBlock]
  rw [Array.getElem?_setIfInBounds_ne (Ne.symm h)]
theorem set_self {b : Nat} (o : Obj) (h : b < w.heap.size) : (setBlock w b o).heap[b]? = some o := by
  simp only [setBlock]
  rw [Array.getElem?_setIfInBounds_self_of_lt h]
theorem Chg.setBlock {F : Nat → Prop} {a : World} (h : Chg F a w) {b : Nat} (hb : F b ∨ a.heap.size ≤ b) (o : Obj) : Chg F a (ChangeMaps.setBlock w b o) :=
  ⟨h.os, h.tape, h.output, by rw [set_size]; exact h.size, fun k hk hF => by
    rw [set_other o (fun e => by subst e; rcases hb with f | f; exact hF f; omega)]
    exact h.block k hk hF⟩
theorem Below.setBlock_ {a : World} {M : Nat} (h : Below M a w) {b : Nat} (hb : M ≤ b) (o : Obj) : Below M a (ChangeMaps.setBlock w b o) :=
  ⟨h.os, h.tape, h.output, by rw [set_size]; exact h.size, fun k hk => by
    rw [set_other o (fun e => by subst e; omega)]
    exact h.block k hk⟩

theorem map_at_get {q : Nat} {x : MEnt} (h : l[q]? = some x) : (l.map ent).toArray[q]? = some (ent x) := by simp [h]

/-- The list behind a store. -/
theorem putL_mem {x : MEnt} {k : Nat} {v : Value} (h : x ∈ putL l k v clock) : (x ∈ l ∧ x.1 ≠ k) ∨ (x.1 = k ∧ x.2.1 = v) := by
  unfold putL at h
  split at h
  · obtain ⟨y, hy, rfl⟩ := List.mem_map.1 h
    by_cases e : y.1 = k
    · rw [if_pos e]; exact .inr ⟨e, rfl⟩
    · rw [if_neg e]; exact .inl ⟨hy, e⟩
  · rename_i hn
    rcases List.mem_append.1 h with h | h
    · refine .inl ⟨h, fun e => hn ?_⟩
      exact List.any_eq_true.2 ⟨x, h, by simp [e]⟩
    · simp only [List.mem_singleton] at h
      subst h
      exact .inr ⟨rfl, rfl⟩
theorem modify_map (l : List MEnt) (k : Nat) (v : Value) : ∀ (q : Nat) (b : Nat) (v0 : Value), l[q]? = some (k, v0, b) → (l.map (·.1)).Nodup →
    (l.map ent).modify q (fun e => { e with key := .int .u32 (k : Int), val := v }) = (l.map (fun x => if x.1 = k then (x.1, v, x.2.2) else x)).map ent := by
  induction l with
  | nil => intro q b v0 h _; simp at h
  | cons a l ih =>
    intro q b v0 h hn
    rw [List.map_cons, List.nodup_cons] at hn
    cases q with
    | zero =>
      simp only [List.getElem?_cons_zero, Option.some.injEq] at h
      subst h
      have hl : l.map (fun x => if x.1 = k then (x.1, v, x.2.2) else x) = l := by
        conv => rhs; rw [← List.map_id l]
        apply List.map_congr_left
        intro x hx
        rw [if_neg (fun e => hn.1 (List.mem_map.2 ⟨x, hx, e⟩))]
        rfl
      simp only [List.map_cons, List.modify_zero_cons, if_true]
      rw [hl]
      rfl
    | succ q =>
      simp only [List.getElem?_cons_succ] at h
      have hne : a.1 ≠ k := fun e => hn.1 (List.mem_map.2 ⟨(k, v0, b), List.mem_of_getElem? h, e.symm⟩)
      simp only [List.map_cons, List.modify_succ_cons, if_neg hne]
      rw [ih q b v0 h hn.2]
theorem erase_map (l : List MEnt) (k : Nat) : ∀ (q : Nat) (b : Nat) (v0 : Value), l[q]? = some (k, v0, b) → (l.map (·.1)).Nodup → (l.map ent).eraseIdx q = (delL l k).map ent := by
  induction l with
  | nil => intro q b v0 h _; simp at h
  | cons a l ih =>
    intro q b v0 h hn
    rw [List.map_cons, List.nodup_cons] at hn
    cases q with
    | zero =>
      simp only [List.getElem?_cons_zero, Option.some.injEq] at h
      subst h
      have hl : delL l k = l := by
        unfold delL
        rw [List.filter_eq_self]
        intro x hx
        have : x.1 ≠ k := fun e => hn.1 (List.mem_map.2 ⟨x, hx, e⟩)
        simpa using this
      have : delL ((k, v0, b) :: l) k = l := by
        unfold delL at hl ⊢
        simp [hl]
      rw [this]
      simp
    | succ q =>
      simp only [List.getElem?_cons_succ] at h
      have hne : a.1 ≠ k := fun e => hn.1 (List.mem_map.2 ⟨(k, v0, b), List.mem_of_getElem? h, e.symm⟩)
      have : delL (a :: l) k = a :: delL l k := by unfold delL; simp [hne]
      rw [this]
      simp only [List.map_cons, List.eraseIdx_cons_succ]
      rw [ih q b v0 h hn.2]
end

section
variable {P : Program} {w : World} {B : Nat} {l : List MEnt} {clock : Nat} {t K E : TypeId}
/-- What is asked of a map's type, by the program's table. -/
structure MapTy (P : Program) (t K E : TypeId) (z : Value) : Prop where
  ht : P.underlying t = some (.map K E)
  hk : P.underlying K = some (.int .u32)
  hz : ∀ w, (zeroValue E).run P w = .ok z w
theorem isKey_u32 (k : Nat) : MapKept.IsKey (.int .u32) (.int .u32 (k : Int)) := by simp [MapKept.IsKey]
theorem run_look {z : Value} (T : MapTy P t K E z) (h : MapAt w B l clock) (k : Nat) :
    (Instr.lookup t (.map (some B)) (.int .u32 (k : Int)) true).run P w = .ok (.tuple #[(lookL l k).getD z, .bool (lookL l k).isSome]) w := by
  have h1 := findNow_ent k l 0
  have h2 := findI_look k l 0
  simp only [Instr.lookup, Sem.run_bind, run_underlying T.ht, Result.andThen_ok, MapKept.run_getObj_map h.heap, Sem.run_pure, MapKept.run_checkKey T.hk (isKey_u32 k), MapKept.run_findKey T.hk h1]
  rw [← h2]
  cases hf : findI k l 0 with
  | none => simp [T.hz w, Result.andThen]
  | some y => obtain ⟨i, v⟩ := y; simp [Result.andThen]
theorem run_look_nil {z : Value} (T : MapTy P t K E z) (w : World) (k : Nat) :
    (Instr.lookup t (.map none) (.int .u32 (k : Int)) true).run P w = .ok (.tuple #[z, .bool false]) w := by
  simp only [Instr.lookup, Sem.run_bind, run_underlying T.ht, Result.andThen_ok, Sem.run_pure, MapKept.run_checkKey T.hk (isKey_u32 k), MapKept.run_findKey T.hk (show Instr.findNow (.int .u32) (.int .u32 (k : Int)) ([] : List MapEntry) 0 = some none from rfl)]
  simp [T.hz w, Result.andThen]
theorem run_put {z : Value} (T : MapTy P t K E z) (h : MapAt w B l clock) (k : Nat) (v : Value) :
    ∃ o clock', (Instr.mapUpdate t (.map (some B)) (.int .u32 (k : Int)) v).run P w = .ok () (ChangeMaps.setBlock w B o) ∧ MapAt (ChangeMaps.setBlock w B o) B (putL l k v clock) clock' := by
  have h1 := findNow_ent k l 0
  cases hf : findI k l 0 with
  | none =>
    rw [hf] at h1
    have hno := findI_none hf
    have ha : l.any (fun x => x.1 == k) = false := by
      rw [List.any_eq_false]
      intro x hx
      simpa using hno x hx
    refine ⟨.map ((l.map ent).toArray.push (ent (k, v, clock))) (clock + 1), clock + 1, ?_, ?_, ?_, ?_, ?_⟩
    · simp only [Instr.mapUpdate, Sem.run_bind, run_underlying T.ht, Result.andThen_ok, MapKept.run_getObj_map h.heap, Sem.run_pure, MapKept.run_checkKey T.hk (isKey_u32 k), MapKept.run_findKey T.hk h1, MapKept.run_setObj_map _ h.heap]
      rfl
    · rw [set_self _ h.lt_]
      simp [putL, ha]
    · simp only [putL, ha, Bool.false_eq_true, if_false, List.map_append, List.map_cons, List.map_nil]
      rw [List.nodup_append]
      refine ⟨h.keys, by simp, fun a ha' b hb => ?_⟩
      simp only [List.mem_singleton] at hb
      subst hb
      obtain ⟨x, hx, rfl⟩ := List.mem_map.1 ha'
      exact hno x hx
    · simp only [putL, ha, Bool.false_eq_true, if_false, List.map_append, List.map_cons, List.map_nil]
      rw [List.nodup_append]
      refine ⟨h.borns, by simp, fun a ha' b hb => ?_⟩
      simp only [List.mem_singleton] at hb
      subst hb
      obtain ⟨x, hx, rfl⟩ := List.mem_map.1 ha'
      have := h.lt x hx
      omega
    · simp only [putL, ha, Bool.false_eq_true, if_false]
      intro x hx
      rcases List.mem_append.1 hx with hx | hx
      · have := h.lt x hx; omega
      · simp only [List.mem_singleton] at hx; subst hx; simp
  | some y =>
    obtain ⟨j, v0⟩ := y
    rw [hf] at h1
    obtain ⟨q, b, hq, hlq⟩ := findI_some hf
    obtain rfl : j = q := by omega
    have ha : l.any (fun x => x.1 == k) = true := List.any_eq_true.2 ⟨_, List.mem_of_getElem? hlq, by simp⟩
    have hkeys : (l.map (fun x => if x.1 = k then (x.1, v, x.2.2) else x)).map (·.1) = l.map (·.1) := by
      rw [List.map_map]
      apply List.map_congr_left
      intro x hx
      simp only [Function.comp]
      split <;> rfl
    have hborns : (l.map (fun x => if x.1 = k then (x.1, v, x.2.2) else x)).map (·.2.2) = l.map (·.2.2) := by
      rw [List.map_map]
      apply List.map_congr_left
      intro x hx
      simp only [Function.comp]
      split <;> rfl
    refine ⟨.map ((l.map ent).toArray.modify j fun e => { e with key := .int .u32 (k : Int), val := v }) clock, clock, ?_, ?_, ?_, ?_, ?_⟩
    · have hj := map_at_get hlq
      simp only [Instr.mapUpdate, Sem.run_bind, run_underlying T.ht, Result.andThen_ok, MapKept.run_getObj_map h.heap, Sem.run_pure, MapKept.run_checkKey T.hk (isKey_u32 k), MapKept.run_findKey T.hk h1, hj, Option.map_some, Option.getD_some, ent, MapKept.run_keyThatStays (isKey_u32 k), MapKept.run_setObj_map _ h.heap]
      rfl
    · rw [set_self _ h.lt_]
      simp only [putL, ha, if_true]
      congr 2
      rw [← modify_map l k v j b v0 hlq h.keys]
      simp
    · simp only [putL, ha, if_true]; rw [hkeys]; exact h.keys
    · simp only [putL, ha, if_true]; rw [hborns]; exact h.borns
    · simp only [putL, ha, if_true]
      intro x hx
      obtain ⟨y, hy, rfl⟩ := List.mem_map.1 hx
      have := h.lt y hy
      split <;> exact this
theorem run_del {z : Value} (T : MapTy P t K E z) (h : MapAt w B l clock) (k : Nat) (ty : TypeId) :
    ∃ o, (Builtin.delete_ #[t, K] ty #[.map (some B), .int .u32 (k : Int)]).run P w = .ok (.tuple #[]) (ChangeMaps.setBlock w B o) ∧ MapAt (ChangeMaps.setBlock w B o) B (delL l k) clock := by
  have h1 := findNow_ent k l 0
  have hsub : ∀ x ∈ delL l k, x ∈ l := fun x hx => (List.mem_filter.1 hx).1
  have hk : ((delL l k).map (·.1)).Nodup := h.keys.sublist (List.Sublist.map _ List.filter_sublist)
  have hbn : ((delL l k).map (·.2.2)).Nodup := h.borns.sublist (List.Sublist.map _ List.filter_sublist)
  cases hf : findI k l 0 with
  | none =>
    rw [hf] at h1
    have hno := findI_none hf
    have e : delL l k = l := by
      unfold delL
      rw [List.filter_eq_self]
      intro x hx
      simpa using hno x hx
    refine ⟨.map (l.map ent).toArray clock, ?_, ?_, hk, hbn, fun x hx => h.lt x (hsub x hx)⟩
    · simp only [Builtin.delete_, List.getElem?_toArray, List.getElem?_cons_zero, List.getElem?_cons_succ, Sem.run_bind, run_underlying T.ht, Result.andThen_ok, MapKept.run_getObj_map h.heap, Sem.run_pure, MapKept.run_checkKey T.hk (isKey_u32 k), MapKept.run_findKey T.hk h1, MapKept.run_setObj_map _ h.heap]
      rfl
    · rw [set_self _ h.lt_, e]
  | some y =>
    obtain ⟨j, v0⟩ := y
    rw [hf] at h1
    obtain ⟨q, b, hq, hlq⟩ := findI_some hf
    obtain rfl : j = q := by omega
    refine ⟨.map ((l.map ent).toArray.eraseIdxIfInBounds j) clock, ?_, ?_, hk, hbn, fun x hx => h.lt x (hsub x hx)⟩
    · simp only [Builtin.delete_, List.getElem?_toArray, List.getElem?_cons_zero, List.getElem?_cons_succ, Sem.run_bind, run_underlying T.ht, Result.andThen_ok, MapKept.run_getObj_map h.heap, Sem.run_pure, MapKept.run_checkKey T.hk (isKey_u32 k), MapKept.run_findKey T.hk h1, MapKept.run_setObj_map _ h.heap]
      rfl
    · rw [set_self _ h.lt_]
      congr 2
      rw [← erase_map l k j b v0 hlq h.keys]
      simp
theorem run_del_nil {z : Value} (T : MapTy P t K E z) (w : World) (k : Nat) (ty : TypeId) :
    (Builtin.delete_ #[t, K] ty #[.map none, .int .u32 (k : Int)]).run P w = .ok (.tuple #[]) w := by
  simp only [Builtin.delete_, List.getElem?_toArray, List.getElem?_cons_zero, List.getElem?_cons_succ, Sem.run_bind, run_underlying T.ht, Result.andThen_ok, Sem.run_pure, MapKept.run_checkKey T.hk (isKey_u32 k)]
end

/-! A range under way: what was handed out is named by its stamps. -/
def left_ (l : List MEnt) (seen : List Nat) : List MEnt := l.filter (fun x => !seen.contains x.2.2)
structure RangeAt (w : World) (B r : Nat) (l : List MEnt) (clock since : Nat) (seen : List Nat) : Prop where
  map : MapAt w B l clock
  it : ∃ c0, w.heap[r]? = some (.mapIter (some B) since seen.toArray c0) ∧ since ≤ c0
  old : ∀ x ∈ l, x.2.2 < since
  sc : since ≤ clock
section
variable {P : Program} {w : World} {B r : Nat} {l : List MEnt} {clock since : Nat} {seen : List Nat} {t K E : TypeId}
theorem RangeAt.lt_ (h : RangeAt w B r l clock since seen) : r < w.heap.size := by
  obtain ⟨c0, h1, _⟩ := h.it
  exact lt_of_block h1
theorem RangeAt.ne (h : RangeAt w B r l clock since seen) : r ≠ B := by
  rintro rfl
  obtain ⟨c0, h1, _⟩ := h.it
  rw [h.map.heap] at h1
  cases h1
theorem RangeAt.same {w' : World} (h : RangeAt w B r l clock since seen) (e1 : w'.heap[B]? = w.heap[B]?) (e2 : w'.heap[r]? = w.heap[r]?) : RangeAt w' B r l clock since seen := by
  obtain ⟨c0, h1, h2⟩ := h.it
  exact ⟨h.map.same e1, ⟨c0, e2.trans h1, h2⟩, h.old, h.sc⟩
theorem RangeAt.below {w' : World} (h : RangeAt w B r l clock since seen) (hb : Below w.heap.size w w') : RangeAt w' B r l clock since seen := h.same (hb.block B h.map.lt_) (hb.block r h.lt_)
theorem RangeAt.chg {w' : World} {F : Nat → Prop} (h : RangeAt w B r l clock since seen) (hc : Chg F w w') (h1 : ¬ F B) (h2 : ¬ F r) : RangeAt w' B r l clock since seen := h.same (hc.block B h.map.lt_ h1) (hc.block r h.lt_ h2)
theorem run_range {z : Value} (T : MapTy P t K E z) (h : MapAt w B l clock) :
    (Instr.range t (.map (some B))).run P w = .ok (.pointer (some ⟨w.heap.size, 0, none⟩)) (w.alloc (.mapIter (some B) clock #[] clock)) ∧ RangeAt (w.alloc (.mapIter (some B) clock #[] clock)) B w.heap.size l clock clock [] := by
  refine ⟨?_, h.alloc _, ⟨clock, by simpa using heap_alloc_new w _, Nat.le_refl _⟩, h.lt, Nat.le_refl _⟩
  simp only [Instr.range, Sem.run_bind, run_underlying T.ht, Result.andThen_ok, MapKept.run_getObj_map h.heap, Sem.run_pure]
  rfl
theorem run_range_nil {z : Value} (T : MapTy P t K E z) (w : World) :
    (Instr.range t (.map none)).run P w = .ok (.pointer (some ⟨w.heap.size, 0, none⟩)) (w.alloc (.mapIter none 0 #[] 0)) := by
  simp only [Instr.range, Sem.run_bind, run_underlying T.ht, Result.andThen_ok, Sem.run_pure]
  rfl
theorem run_next_nil (w : World) (r ty : Nat) (h : w.heap[r]? = some (.mapIter none 0 #[] 0)) : (Instr.next (.pointer (some ⟨r, 0, none⟩)) false ty).run P w = .ok (.tuple #[.bool false]) w := by
  simp [Instr.next, getObj, Sem.run, h, Result.andThen]
/-- One that has not been handed out yet comes out, whichever the tape says; or all have been. -/
theorem run_next_ (h : RangeAt w B r l clock since seen) (ty : TypeId) :
    (left_ l seen = [] ∧ (Instr.next (.pointer (some ⟨r, 0, none⟩)) false ty).run P w = .ok (.tuple #[.bool false]) w) ∨
    ∃ x o w1, x ∈ l ∧ x.2.2 ∉ seen ∧ (w1 = w ∨ w1 = w.drew) ∧ (Instr.next (.pointer (some ⟨r, 0, none⟩)) false ty).run P w = .ok (.tuple #[.bool true, .int .u32 (x.1 : Int), x.2.1]) (ChangeMaps.setBlock w1 r o) ∧
      RangeAt (ChangeMaps.setBlock w1 r o) B r l clock since (seen ++ [x.2.2]) ∧
      (Instr.entry (.pointer (some ⟨r, 0, none⟩))).run P (ChangeMaps.setBlock w1 r o) = .ok (.tuple #[.int .u32 (x.1 : Int), x.2.1]) (ChangeMaps.setBlock w1 r o) := by
  obtain ⟨c0, hit, hs⟩ := h.it
  have hold : ∀ e ∈ (l.map ent).toArray.toList, e.born < since := by
    intro e he
    obtain ⟨x, hx, rfl⟩ := List.mem_map.1 (show e ∈ l.map ent from he)
    exact h.old x hx
  have el : (leftOf (l.map ent).toArray seen.toArray).toList = (left_ l seen).map ent := by
    unfold leftOf left_
    rw [Array.toList_filter]
    simp only [List.filter_map]
    congr 1
    apply List.filter_congr
    intro x hx
    rw [Bool.eq_iff_iff]
    simp only [Function.comp, ent, List.contains_toArray, Array.contains_toList, Bool.not_eq_true']
  rcases run_next_at (P := P) w ty r B since c0 seen.toArray (l.map ent).toArray clock hit h.map.heap hold hs with ⟨h0, hr⟩ | ⟨e, he, w1, hw1, hr⟩
  · refine .inl ⟨?_, hr⟩
    have : ((left_ l seen).map ent).length = 0 := by rw [← el]; simpa using h0
    simpa using this
  · rw [el] at he
    obtain ⟨x, hx, rfl⟩ := List.mem_map.1 he
    obtain ⟨hxl, hxs⟩ := List.mem_filter.1 hx
    have hne := h.ne
    have hheap : w1.heap = w.heap := by rcases hw1 with rfl | rfl <;> rfl
    have hrl := h.lt_
    have r1 : (ChangeMaps.setBlock w1 r (.mapIter (some B) since (seen.toArray.push x.2.2) clock)).heap[r]? = some (.mapIter (some B) since (seen.toArray.push x.2.2) clock) := set_self _ (by rw [hheap]; exact hrl)
    have m1 : MapAt (ChangeMaps.setBlock w1 r (.mapIter (some B) since (seen.toArray.push x.2.2) clock)) B l clock := h.map.same ((set_other _ (Ne.symm hne)).trans (by rw [hheap]))
    refine .inr ⟨x, .mapIter (some B) since (seen.toArray.push x.2.2) clock, w1, hxl, by simpa using hxs, hw1, hr, ⟨m1, ⟨clock, by simpa using r1, h.sc⟩, h.old, h.sc⟩, ?_⟩
    exact run_entry_at _ r B since seen.toArray (l.map ent).toArray clock (ent x) r1 m1.heap (show ent x ∈ l.map ent from List.mem_map.2 ⟨x, hxl, rfl⟩) (by show ((l.map ent).map (·.born)).Nodup; rw [List.map_map]; exact h.map.borns)
end
end Go.Proofs.Ytihjmgjjknjioaa.Base
