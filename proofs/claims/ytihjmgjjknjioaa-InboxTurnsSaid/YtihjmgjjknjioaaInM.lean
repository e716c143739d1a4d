/- Walk: InboxTurns where it does not play. -/
import Derived.Test.YtihjmgjjknjioaaInK
namespace Go.Proofs.Ytihjmgjjknjioaa.In
open Go Go.RowKit Go.Proofs.Ytihjmgjjknjioaa.Base Go.Proofs.Ytihjmgjjknjioaa.Draw
set_option linter.unusedVariables false
set_option linter.unnecessarySimpa false
set_option linter.unusedSimpArgs false
set_option maxRecDepth 100000 in
theorem turns_long {w : World} {A : Option Addr} {n c first : Nat} (h : 80 < n ∨ 1073741824 < first) :
    Calls Try.prog 3 #[.slice A n c, .int .u32 (first : Int)] w fun e w' => e = .returned (.bool true) ∧ Below w.heap.size w w' := by
  by_cases h1 : 80 < n
  · have c1 : decide ((80 : Int) < (n : Int)) = true := by simp; omega
    clear h
    go_enter Try.func3, Try.ntmps3
    go_wp2_with fail
    refine (awake_calls w).mono ?_
    rintro e w1 ⟨rfl, b1⟩
    have M0 := Lib.hid (BMid.new (w := w) b1)
    clear b1
    go_wp2_with fail
    go_ret
    exact ⟨rfl, M0.out.bel⟩
  · have c1 : decide ((80 : Int) < (n : Int)) = false := by simp; omega
    have c2 : decide ((1073741824 : Int) < (first : Int)) = true := by simp; omega
    clear h
    go_enter Try.func3, Try.ntmps3
    go_wp2_with fail
    refine (awake_calls w).mono ?_
    rintro e w1 ⟨rfl, b1⟩
    have M0 := Lib.hid (BMid.new (w := w) b1)
    clear b1
    go_wp2_with fail
    go_ret
    exact ⟨rfl, M0.out.bel⟩
set_option maxRecDepth 100000 in
theorem turns_none {w : World} {A : Option Addr} {c first : Nat} (hf : first ≤ 1073741824) :
    Calls Try.prog 3 #[.slice A 0 c, .int .u32 (first : Int)] w fun e w' => e = .returned (.bool true) ∧ Below w.heap.size w w' := by
  have c2 : decide ((1073741824 : Int) < (first : Int)) = false := by simp; omega
  go_enter Try.func3, Try.ntmps3
  go_wp2_with fail
  refine (awake_calls w).mono ?_
  rintro e w1 ⟨rfl, b1⟩
  have B1 := Lib.hid b1
  have M0 := Lib.hid (BMid.new (w := w) b1)
  clear b1
  go_wp2_with fail
  clear c2
  go_loopw [8] (fun i wr => i = .int .i64 (0 : Int) ∧ Below w.heap.size w wr) (fun i _ => 0)
  case atStart => exact ⟨rfl, M0.out.bel⟩
  case round =>
    obtain ⟨rfl, hb⟩ := hrel
    have HB := Lib.hid hb
    clear hb
    go_wp2_with fail
    go_ret
    exact ⟨rfl, HB.out⟩
end Go.Proofs.Ytihjmgjjknjioaa.In
