/- The shelf's contracts of slices.Sort and slices.Compact, at rows of naturals that the call owns. -/
import Derived.Test.YtfflidaodnhpbaaLedN
import Derived.Test.YtfflidaodnhpbaaShelf
import Derived.Sort.OwnSortedInts
import Derived.Lib.RowBridge
namespace Go.Proofs.Ytfflidaodnhpbaa.Led
open Go Go.RowKit Go.Proofs.Ytfflidaodnhpbaa.Base Go.Proofs.Ytfflidaodnhpbaa.Draw
set_option linter.unusedVariables false
set_option linter.unusedSimpArgs false

def ints (l : List Nat) : List Int := l.map (fun n : Nat => (n : Int))
theorem ints_length (l : List Nat) : (ints l).length = l.length := by simp [ints]
theorem nats_ints (l : List Nat) : nats l = (ints l).map (Value.int .i64) := by simp [nats, ints]
def srt (l : List Nat) : List Nat := l.mergeSort fun x y => decide (x ≤ y)
theorem srt_ints (l : List Nat) : (ints l).mergeSort (fun x y => decide (x ≤ y)) = ints (srt l) := by
  unfold ints srt
  rw [List.map_mergeSort (s := fun x y : Int => decide (x ≤ y))]
  intro a _ b _
  simp
theorem srt_length (l : List Nat) : (srt l).length = l.length := by simp [srt]

theorem ints_get (l : List Nat) (j : Nat) : (ints l).toArray[j]! = ((l.toArray[j]! : Nat) : Int) := by
  by_cases h : j < l.length
  · simp [ints, h]
  · simp [ints, h]
theorem keeps_ints (l : List Nat) (j : Nat) : Lib.keeps (ints l).toArray j = Lib.keeps l.toArray j := by
  unfold Lib.keeps
  rw [ints_get, ints_get]
  congr 1
  apply propext
  constructor
  · rintro (h | h)
    · exact .inl h
    · exact .inr fun e => h (by rw [e])
  · rintro (h | h)
    · exact .inl h
    · exact .inr fun e => h (by exact_mod_cast e)
theorem compact_ints (l : List Nat) : Lib.compact (ints l) = ints (Lib.compact l) := by
  unfold Lib.compact Lib.compactUpTo
  rw [ints_length]
  have e : Lib.keeps (ints l).toArray = Lib.keeps l.toArray := funext (keeps_ints l)
  rw [e]
  conv => rhs; unfold ints
  rw [List.map_map]
  exact List.map_congr_left (fun j _ => ints_get l j)

theorem own_form {w : World} {v : Value} {n : Nat} {xs : List Value} (h : w.ownsRow 0 3 1 v n xs) (hn : 0 < n) : ∃ g c cur, v = .slice (some ⟨g, 0, none⟩) n c ∧ w.heap[g]? = some (.cells cur 3 (0, 0)) ∧ n ≤ c ∧ c ≤ maxLen ∧ cur.size = c * 1 ∧ cur.toList.take (n * 1) = xs := by
  rcases h.2 with ⟨-, rfl⟩ | ⟨g, c, cur, rfl, _, hh, h1, h2, h3, h4⟩
  · have := h.1; simp at this; omega
  · exact ⟨g, c, cur, rfl, hh, h1, h2, h3, h4⟩

theorem sort_calls {w : World} {v : Value} {l : List Nat} (h : w.ownsRow 0 3 1 v l.length (nats l)) (hn : l.length ≤ 10000) :
    Calls Try.prog 29 #[v] w fun e w' => e = .returned (.tuple #[]) ∧ w'.ownsRow 0 3 1 v l.length (nats (srt l)) ∧ w.grownBy w' v.ownBlock := by
  by_cases h0 : 0 < l.length
  · obtain ⟨g, c, cur, rfl, hh, h1, h2, h3, h4⟩ := own_form h h0
    have hH : Go.Sort.Holds (Value.int .i64) w g 0 (ints l).toArray := Go.holds_of_blockI hh (by rw [ints_length, ← nats_ints]; simpa using h4)
    have := Try.slices_Sort_int g 0 c (ints l) w hH (lt_of_block hh) (by rw [ints_length]; omega)
    rw [ints_length] at this
    refine this.mono ?_
    rintro e w' ⟨he, n, os, rfl⟩
    refine ⟨he, ?_, ?_⟩
    · have hr := Go.ownsRow_sortedI (n := n) (os := os) (ss := ints l) (ts := ints (srt l)) (base := 0) (by simp [ints_length, srt_length]) (Nat.zero_le _) hh (by rw [ints_length]; exact h1) h2 h3
      rw [ints_length, ← nats_ints] at hr
      rw [srt_ints]
      exact hr
    · exact Go.grownBy_sortedI _
  · have e0 : l = [] := List.eq_nil_of_length_eq_zero (by omega)
    subst e0
    obtain ⟨A, c, rfl, _, _⟩ := own_len h
    refine (Try.slices_Sort_int_none A c w).mono ?_
    rintro e w' ⟨he, rfl⟩
    exact ⟨he, by simpa [srt, nats] using h, World.grownBy.refl _ _⟩

theorem compact_calls {w : World} {v : Value} {l : List Nat} (h : w.ownsRow 0 3 1 v l.length (nats l)) (hn : l.length ≤ 10000) :
    Calls Try.prog 30 #[v] w fun e w' => ∃ v', e = .returned v' ∧ w'.ownsRow 0 3 1 v' (Lib.compact l).length (nats (Lib.compact l)) ∧ w.grownBy w' v.ownBlock ∧ v'.ownBlock = v.ownBlock := by
  by_cases h0 : 0 < l.length
  · obtain ⟨g, c, cur, rfl, hh, h1, h2, h3, h4⟩ := own_form h h0
    have hH : Go.Sort.Holds (Value.int .i64) w g 0 (ints l).toArray := Go.holds_of_blockI hh (by rw [ints_length, ← nats_ints]; simpa using h4)
    have := Try.slices_Compact_int g 0 c (ints l) w hH (by rw [ints_length]; omega) (by rw [ints_length]; exact h1)
    rw [ints_length, compact_ints, ints_length] at this
    refine this.mono ?_
    rintro e w' ⟨rfl, q, rfl⟩
    have hcl : (Lib.compact l).length ≤ l.length := Lib.compact_length_le l
    refine ⟨_, rfl, ?_, ?_, rfl⟩
    · have hr := Go.ownsRow_sortedI (n := q) (os := #[]) (ss := ints l) (ts := ints (Lib.compact l) ++ List.replicate (l.length - (Lib.compact l).length) 0) (base := 0) (by simp [ints_length]; omega) (Nat.zero_le _) hh (by rw [ints_length]; exact h1) h2 h3
      rw [Go.Sort.grow_empty] at hr
      rcases hr.2 with ⟨hx, _⟩ | ⟨g', c', cur', hv, hg, hh', g1, g2, g3, g4⟩
      · cases hx
      · cases hv
        refine ⟨by simp [nats], .inr ⟨g, c, cur', rfl, hg, hh', by omega, g2, g3, ?_⟩⟩
        have e1 : cur'.toList.take ((Lib.compact l).length * 1) = (cur'.toList.take ((ints l).length * 1)).take (Lib.compact l).length := by
          rw [List.take_take, ints_length]
          congr 1
          omega
        rw [e1, g4, nats_ints]
        simp [ints_length, List.map_append, List.take_append_of_le_length]
    · have := Go.grownBy_sortedI (w := w) (g := g) (n := q) (os := #[]) (ints (Lib.compact l) ++ List.replicate (l.length - (Lib.compact l).length) 0).toArray
      rw [Go.Sort.grow_empty] at this
      exact this
  · have e0 : l = [] := List.eq_nil_of_length_eq_zero (by omega)
    subst e0
    obtain ⟨A, c, rfl, _, _⟩ := own_len h
    refine (Try.slices_Compact_int_empty A c w).mono ?_
    rintro e w' ⟨rfl, rfl⟩
    exact ⟨_, rfl, by simpa [Lib.compact, Lib.compactUpTo, nats] using h, World.grownBy.refl _ _, rfl⟩
end Go.Proofs.Ytfflidaodnhpbaa.Led
