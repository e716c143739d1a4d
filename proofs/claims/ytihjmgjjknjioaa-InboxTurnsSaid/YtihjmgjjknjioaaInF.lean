/- The sort of what is held. -/
import Derived.Test.YtihjmgjjknjioaaInE
import Derived.Shelf.SlSortCmp.NoneTotal
import Derived.Sort.OwnSortedInts
namespace Go.Proofs.Ytihjmgjjknjioaa.In
open Go Go.RowKit Go.Proofs.Ytihjmgjjknjioaa.Base Go.Proofs.Ytihjmgjjknjioaa.Draw
set_option linter.unusedVariables false
set_option linter.unusedSimpArgs false

abbrev HE := Nat × (Option Addr × Nat × Nat)
def encH (x : HE) : List Value := [.int .u32 (x.1 : Int), .slice x.2.1 x.2.2.1 x.2.2.2]
theorem flat_get : ∀ (l : List HE) (t : Nat), t < l.length * 2 → (l.flatMap encH)[t]? = (encH (l.getD (t / 2) (0, none, 0, 0)))[t % 2]?
  | [], t, h => by simp at h
  | a :: l, t, h => by
    rw [List.flatMap_cons]
    by_cases h2 : t < 2
    · have e1 : t / 2 = 0 := by omega
      have e2 : t % 2 = t := by omega
      rw [List.getElem?_append_left (by simp [encH]; omega), e1, e2]
      rfl
    · have ih := flat_get l (t - 2) (by simp at h; omega)
      have e1 : t / 2 = (t - 2) / 2 + 1 := by omega
      have e2 : t % 2 = (t - 2) % 2 := by omega
      rw [List.getElem?_append_right (by simp [encH]; omega), e1, e2]
      simpa [encH] using ih
theorem flat_len (l : List HE) : (l.flatMap encH).length = l.length * 2 := by
  induction l with
  | nil => rfl
  | cons a l ih => rw [List.flatMap_cons, List.length_append, ih]; simp [encH]; omega
theorem flatK_list (d : Array HE) : (Go.Sort.flatK encH 2 d).toList = d.toList.flatMap encH := by
  apply List.ext_getElem?
  intro t
  by_cases ht : t < d.size * 2
  · rw [flat_get _ _ (by simpa using ht)]
    have h1 := Go.Sort.get_flatK encH 2 d t ht
    have hs : t < (Go.Sort.flatK encH 2 d).size := by simpa using ht
    rw [getElem!_pos (Go.Sort.flatK encH 2 d) t hs] at h1
    rw [Array.getElem?_toList, Array.getElem?_eq_getElem hs, h1]
    have hd : t / 2 < d.size := by omega
    have e1 : d[t / 2]! = d.toList.getD (t / 2) (0, none, 0, 0) := by
      rw [getElem!_pos d _ hd]
      simp [hd]
    rw [e1]
    generalize d.toList.getD (t / 2) (0, none, 0, 0) = x
    have h2 : t % 2 < (encH x).length := by simp [encH]; omega
    rw [getElem!_pos (encH x) (t % 2) h2, List.getElem?_eq_getElem h2]
  · rw [List.getElem?_eq_none (by simp; omega), List.getElem?_eq_none (by rw [flat_len]; simp; omega)]

/-! a row of values, sorted in place -/
theorem holds_id {w : World} {g : Nat} {cur : Array Value} {e : TypeId} {F : Array Value} (hb : w.heap[g]? = some (.cells cur e (0, 0))) (ht : cur.toList.take F.size = F.toList) : Go.Sort.Holds id w g 0 F := by
  intro j hj
  refine ⟨?_, by simp [World.frozen?, hb]⟩
  have h1 : (cur.toList.take F.size)[j]? = F.toList[j]? := by rw [ht]
  rw [List.getElem?_take_of_lt hj] at h1
  simp only [World.cell?, hb, Nat.zero_add]
  simp only [Option.isSome_none, Bool.false_eq_true, if_false]
  rw [← Array.getElem?_toList, h1, Array.getElem?_toList, Array.getElem?_eq_getElem hj, getElem!_pos F j hj]
  rfl
theorem heap_sorted {w : World} {g n : Nat} {os : Array Obj} {cur : Array Value} {e : TypeId} {fr : Nat × Nat} (d : Array Value) (hb : w.heap[g]? = some (.cells cur e fr)) :
    (Go.Sort.grow (Go.Sort.putRow id (Go.Sort.ahead w n) g 0 d) os).heap[g]? = some (.cells (Go.Sort.putCells id 0 d cur) e fr) := by
  have hg : g < w.heap.size := (Array.getElem?_eq_some_iff.1 hb).1
  rw [Go.Sort.heap_grow_old _ _ (by simpa using hg)]
  simp [Go.Sort.putRow, Go.Sort.mapBlock, Go.Sort.ahead, Array.getElem?_modify, hb, Go.Sort.onCells]
theorem grownBy_sorted {w : World} {g n : Nat} {os : Array Obj} (d : Array Value) : w.grownBy (Go.Sort.grow (Go.Sort.putRow id (Go.Sort.ahead w n) g 0 d) os) (some g) := by
  refine ⟨rfl, rfl, rfl, by simp, fun k hk hne => ?_⟩
  rw [Go.Sort.heap_grow_old _ _ (by simpa using hk)]
  have : g ≠ k := fun e => hne (by rw [e])
  simp [Go.Sort.putRow, Go.Sort.mapBlock, Go.Sort.ahead, Array.getElem?_modify, this]
theorem take_put (cur F : Array Value) (h : F.size ≤ cur.size) : (Go.Sort.putCells id 0 F cur).toList.take F.size = F.toList := by
  apply List.ext_getElem?
  intro j
  by_cases hj : j < F.size
  · rw [List.getElem?_take_of_lt hj, Array.getElem?_toList]
    simp [Go.Sort.putCells, hj, show j < cur.size by omega]
  · rw [List.getElem?_take_eq_none (by omega), List.getElem?_eq_none (by simp; omega)]

theorem isNaN_calls (w : World) (a : Nat) : Calls Try.prog 29 #[.int .u32 (a : Int)] w fun e w' => e = .returned (.bool false) ∧ w = w' := by
  have h : ((a : Int) != (a : Int)) = false := by simp
  go_enter Try.func29, Try.ntmps29
  go_wp2_with fail
  go_ret
  exact ⟨rfl, rfl⟩
theorem compare_calls (w : World) (a b : Nat) : Calls Try.prog 26 #[.int .u32 (a : Int), .int .u32 (b : Int)] w fun e w' => e = .returned (.int .i64 (Lib.compareInt (a : Int) (b : Int))) ∧ w = w' := by
  have e : Lib.compareInt (a : Int) (b : Int) = if a < b then -1 else if b < a then 1 else 0 := by
    unfold Lib.compareInt
    by_cases h1 : a < b
    · simp [h1]
    · by_cases h2 : b < a <;> simp [h1, h2]
  rw [e]
  clear e
  by_cases h1 : a < b
  · have c1 : decide ((a : Int) < (b : Int)) = true := by simp; omega
    have c2 : decide (a < b) = true := by simp; omega
    rw [if_pos h1]
    go_enter Try.func26, Try.ntmps26
    go_wp2_with fail
    refine (isNaN_calls _ _).mono ?_
    rintro e w1 ⟨rfl, rfl⟩
    go_wp2_with fail
    refine (isNaN_calls _ _).mono ?_
    rintro e w1 ⟨rfl, rfl⟩
    go_wp2_with fail
    go_ret
    exact ⟨rfl, rfl⟩
  · have c1 : decide ((a : Int) < (b : Int)) = false := by simp; omega
    have c2 : decide (a < b) = false := by simp; omega
    rw [if_neg h1]
    by_cases h2 : b < a
    · have d1 : decide ((b : Int) < (a : Int)) = true := by simp; omega
      have d2 : decide (b < a) = true := by simp; omega
      rw [if_pos h2]
      go_enter Try.func26, Try.ntmps26
      go_wp2_with fail
      refine (isNaN_calls _ _).mono ?_
      rintro e w1 ⟨rfl, rfl⟩
      go_wp2_with fail
      refine (isNaN_calls _ _).mono ?_
      rintro e w1 ⟨rfl, rfl⟩
      go_wp2_with fail
      go_ret
      exact ⟨rfl, rfl⟩
    · have d1 : decide ((b : Int) < (a : Int)) = false := by simp; omega
      have d2 : decide (b < a) = false := by simp; omega
      rw [if_neg h2]
      go_enter Try.func26, Try.ntmps26
      go_wp2_with fail
      refine (isNaN_calls _ _).mono ?_
      rintro e w1 ⟨rfl, rfl⟩
      go_wp2_with fail
      refine (isNaN_calls _ _).mono ?_
      rintro e w1 ⟨rfl, rfl⟩
      go_wp2_with fail
      go_ret
      exact ⟨rfl, rfl⟩
theorem closure_calls (x y : HE) (W : World) : Calls Try.prog 25 #[.agg #[.int .u32 (x.1 : Int), .slice x.2.1 x.2.2.1 x.2.2.2], .agg #[.int .u32 (y.1 : Int), .slice y.2.1 y.2.2.1 y.2.2.2]] W fun e w' => e = .returned (.int .i64 (Lib.compareInt (x.1 : Int) (y.1 : Int))) ∧ ∃ q os', w' = Go.Sort.grow (W.drewN q) os' := by
  have hcon := fun W' => compare_calls W' x.1 y.1
  generalize Lib.compareInt (x.1 : Int) (y.1 : Int) = r at hcon ⊢
  have HC := Lib.hid hcon
  clear hcon
  go_enter Try.func25, Try.ntmps25
  go_wp2_with fail
  refine (HC.out _).mono ?_
  rintro e w1 ⟨rfl, rfl⟩
  go_wp2_with fail
  go_ret
  exact ⟨rfl, 0, _, by rw [Go.Sort.alloc_eq_grow, Go.Sort.alloc_eq_grow, Go.Sort.grow_grow]; rfl⟩
theorem cmpLays (blk off size : Nat) (w : World) : Go.Proofs.CmpLays Try.prog 25 #[] encH 2 (fun x y : HE => Lib.compareInt (x.1 : Int) (y.1 : Int)) blk off size w :=
  fun _ _ _ _ x y => closure_calls x y _
theorem lt_cmp (x y : HE) : Go.Proofs.ltOf (fun x y : HE => Lib.compareInt (x.1 : Int) (y.1 : Int)) x y = decide (x.1 < y.1) := by
  unfold Go.Proofs.ltOf Lib.compareInt
  by_cases h1 : x.1 < y.1
  · simp [h1]
  · by_cases h2 : y.1 < x.1 <;> simp [h1, h2]
theorem swo : Go.Sort.SWO (Go.Proofs.ltOf fun x y : HE => Lib.compareInt (x.1 : Int) (y.1 : Int)) where
  irrefl x := by rw [lt_cmp]; simp
  trans x y z h1 h2 := by rw [lt_cmp] at *; simp at *; omega
  ntrans x y z h1 h2 := by rw [lt_cmp] at *; simp at *; omega

theorem perm_all {d d' : Array HE} (h : Go.Sort.PermIn 0 d.size d d') : d'.toList.Perm d.toList ∧ d'.size = d.size := by
  obtain ⟨h1, _, h3⟩ := h
  refine ⟨?_, h1⟩
  have e1 : d'.extract 0 d.size = d' := by rw [← h1]; simp
  have e2 : d.extract 0 d.size = d := by simp
  rw [e1, e2] at h3
  exact h3
theorem sorted_all {d' : Array HE} {n : Nat} (hn : d'.size = n) (h : Go.Sort.SortedIn (Go.Proofs.ltOf fun x y : HE => Lib.compareInt (x.1 : Int) (y.1 : Int)) 0 n d') : (d'.toList.map (·.1)).Pairwise (· ≤ ·) := by
  rw [List.pairwise_map, List.pairwise_iff_getElem]
  intro i j hi hj hij
  have h1 := h i j (Nat.zero_le _) hij (by rw [← hn]; simpa using hj)
  rw [lt_cmp, getElem!_pos d' j (by simpa using hj), getElem!_pos d' i (by simpa using hi)] at h1
  simp only [decide_eq_false_iff_not, Nat.not_lt] at h1
  simpa using h1

/-- slices.SortFunc at what is held, by its indexes: a row of the call's own. -/
theorem sortH_calls {w : World} {base : Nat} {v : Value} {hs : List HE} (h : w.ownsRow base 41 2 v hs.length (hs.flatMap encH)) (hn : hs.length ≤ 100000) :
    Calls Try.prog 24 #[v, .func (.func 25) #[] #[]] w fun e w' => e = .returned (.tuple #[]) ∧
      ∃ hs' : List HE, hs'.Perm hs ∧ (hs'.map (·.1)).Pairwise (· ≤ ·) ∧ w'.ownsRow base 41 2 v hs.length (hs'.flatMap encH) ∧ w.grownBy w' v.ownBlock := by
  by_cases h0 : 0 < hs.length
  · rcases h.2 with ⟨-, e0⟩ | ⟨g, c, cur, rfl, hbase, hh, h1, h2, h3, h4⟩
    · omega
    · have hfl := flat_len hs
      have eF : (Go.Sort.flatK encH 2 hs.toArray).toList = hs.flatMap encH := flatK_list _
      have sF : (Go.Sort.flatK encH 2 hs.toArray).size = hs.length * 2 := by simp
      have hH : Go.Sort.HoldsK encH 2 w g 0 hs.toArray := holds_id hh (by rw [sF, eF]; exact h4)
      have eg : ∀ args w, (callFunc 25 args).run Try.prog w = .ok (.enter 25 args) w := Go.Proofs.enters_of Try.func25 (by kernel_rfl) rfl
      have hcon := Go.Proofs.AnyQ.slices_SortFunc Try.sortHeld 2 Try.isAgg41 Try.sizeOf41 encH (fun _ => rfl) (fun x v hv => by simp [encH] at hv; rcases hv with rfl | rfl <;> rfl) (fun x y : HE => Lib.compareInt (x.1 : Int) (y.1 : Int)) swo 25 #[] g 0 c hs.toArray w eg (cmpLays g 0 hs.toArray.size w) hH (lt_of_block hh) (by simp; omega)
      refine Calls.mono (P := Try.prog) (f := 24) hcon ?_
      rintro e w' ⟨he, d', n, os, hp, hsd, rfl⟩
      obtain ⟨p1, p2⟩ := perm_all hp
      have p2' : d'.toList.length = hs.length := by simpa using p2
      have sF' : (Go.Sort.flatK encH 2 d').size = hs.length * 2 := by rw [Go.Sort.size_flatK, show d'.size = hs.length by simpa using p2]
      refine ⟨he, d'.toList, by simpa using p1, sorted_all p2 hsd, ⟨by rw [flat_len, p2'], .inr ⟨g, c, _, rfl, hbase, heap_sorted _ hh, h1, h2, ?_, ?_⟩⟩, ?_⟩
      · simp [Go.Sort.putCells, h3]
      · rw [← flatK_list, ← sF']
        exact take_put _ _ (by rw [sF', h3]; omega)
      · exact grownBy_sorted _
  · have e0 : hs = [] := List.eq_nil_of_length_eq_zero (by omega)
    subst e0
    obtain ⟨A, c, rfl, _, _⟩ := own_len h
    refine (Go.Proofs.AnyF.slices_SortFunc_none Try.sortHeld A c _ w).mono ?_
    rintro e w' ⟨he, rfl⟩
    exact ⟨he, [], List.Perm.refl _, by simp, h, World.grownBy.refl _ _⟩
end Go.Proofs.Ytihjmgjjknjioaa.In
