/- Walk: awake. -/
import Derived.Test.YtihjmgjjknjioaaInI
namespace Go.Proofs.Ytihjmgjjknjioaa.In
open Go Go.RowKit Go.Proofs.Ytihjmgjjknjioaa.Base Go.Proofs.Ytihjmgjjknjioaa.Draw
set_option linter.unusedVariables false
set_option linter.unnecessarySimpa false
set_option linter.unusedSimpArgs false

theorem small1 (x : Nat) (h : x < 256) : Small [x] := by unfold Small; simpa using h

set_option maxRecDepth 100000 in
set_option maxHeartbeats 2000000 in
theorem awake_calls (w : World) : Calls Try.prog 6 #[] w fun e w' => e = .returned (.bool true) ∧ Below w.heap.size w w' := by
  have M0 := Lib.hid (BMid.new (w := w) (Below.refl w.heap.size w))
  go_enter Try.func6, Try.ntmps6
  go_wp2_with fail
  have Lw1 := Lib.hid (BMid.lit M0.out [97] (small1 97 (by omega)) (w.heap.size + 1) (by simp))
  refine (BMid.hold Lw1.out (List.mem_cons_self ..) 2 3 (by omega) (by omega)).mono ?_
  rintro e w1 ⟨rfl, m⟩
  rw [show holdE [] 2 3 [97] = 0 from by decide]
  rw [show holdH [] 2 3 [97] = [(3, [97])] from by decide] at m
  have Mw1 := Lib.hid m
  clear m Lw1
  go_wp2_with fail
  have Lw2 := Lib.hid (BMid.lit Mw1.out [98] (small1 98 (by omega)) w1.heap.size (by simp))
  refine (BMid.hold Lw2.out (List.mem_cons_self ..) 2 6 (by omega) (by omega)).mono ?_
  rintro e w2 ⟨rfl, m⟩
  rw [show holdE [(3, [97])] 2 6 [98] = 85 from by decide]
  rw [show holdH [(3, [97])] 2 6 [98] = [(3, [97])] from by decide] at m
  have Mw2 := Lib.hid m
  clear m Lw2
  go_wp2_with fail
  have Lw3 := Lib.hid (BMid.lit Mw2.out [99] (small1 99 (by omega)) w2.heap.size (by simp))
  refine (BMid.hold Lw3.out (List.mem_cons_self ..) 2 2 (by omega) (by omega)).mono ?_
  rintro e w3 ⟨rfl, m⟩
  rw [show holdE [(3, [97])] 2 2 [99] = 84 from by decide]
  rw [show holdH [(3, [97])] 2 2 [99] = [(3, [97])] from by decide] at m
  have Mw3 := Lib.hid m
  clear m Lw3
  go_wp2_with fail
  refine (BMid.turn Mw3.out 2 (by omega)).mono ?_
  rintro e w4 ⟨vw4, rfl, m⟩
  rw [show (lookH [(3, [97])] 2).isSome = false from by decide]
  rw [show turnH [(3, [97])] 2 = [(3, [97])] from by decide, show (lookH [(3, [97])] 2).getD [] = [] from by decide] at m
  have Mw4 := Lib.hid m
  clear m
  go_wp2_with fail
  refine (BMid.turn Mw4.out 3 (by omega)).mono ?_
  rintro e w5 ⟨vw5, rfl, m⟩
  rw [show (lookH [(3, [97])] 3).isSome = true from by decide]
  rw [show turnH [(3, [97])] 3 = [] from by decide, show (lookH [(3, [97])] 3).getD [] = [97] from by decide] at m
  have Mw5 := Lib.hid m
  clear m
  go_wp2_with fail
  refine (BMid.turn Mw5.out 3 (by omega)).mono ?_
  rintro e w6 ⟨vw6, rfl, m⟩
  rw [show (lookH [] 3).isSome = false from by decide]
  rw [show turnH [] 3 = [] from by decide, show (lookH [] 3).getD [] = [] from by decide] at m
  have Mw6 := Lib.hid m
  clear m
  go_wp2_with fail
  have Lw7 := Lib.hid (BMid.lit Mw6.out [97] (small1 97 (by omega)) w6.heap.size (by simp))
  refine (BMid.put Lw7.out (List.mem_cons_self ..) (by decide)).mono ?_
  rintro e w7 ⟨rfl, m⟩
  rw [show putU [] [97] = [[97]] from by decide] at m
  have Mw7 := Lib.hid m
  clear m Lw7
  go_wp2_with fail
  have Lw8 := Lib.hid (BMid.lit Mw7.out [98] (small1 98 (by omega)) w7.heap.size (by simp))
  refine (BMid.put Lw8.out (List.mem_cons_self ..) (by decide)).mono ?_
  rintro e w8 ⟨rfl, m⟩
  rw [show putU [[97]] [98] = [[97], [98]] from by decide] at m
  have Mw8 := Lib.hid m
  clear m Lw8
  go_wp2_with fail
  refine (BMid.fetch Mw8.out).mono ?_
  rintro e w9 ⟨vw9, rfl, m⟩
  rw [show fetchE [[97], [98]] = 0 from by decide]
  simp only [List.tail_cons, List.tail_nil, List.headD_cons, List.headD_nil] at m
  have Mw9 := Lib.hid m
  clear m
  go_wp2_with fail
  refine (BMid.fetch Mw9.out).mono ?_
  rintro e w10 ⟨vw10, rfl, m⟩
  rw [show fetchE [[98]] = 0 from by decide]
  simp only [List.tail_cons, List.tail_nil, List.headD_cons, List.headD_nil] at m
  have Mw10 := Lib.hid m
  clear m
  go_wp2_with fail
  refine (BMid.fetch Mw10.out).mono ?_
  rintro e w11 ⟨vw11, rfl, m⟩
  rw [show fetchE [] = 90 from by decide]
  simp only [List.tail_cons, List.tail_nil, List.headD_cons, List.headD_nil] at m
  have Mw11 := Lib.hid m
  clear m
  go_wp2_with fail
  have Ls1 := Lib.hid (BMid.lit Mw11.out [97] (small1 97 (by omega)) w11.heap.size (by simp))
  refine (BMid.same Ls1.out (v := vw5) (a := [97]) (by simp) (List.mem_cons_self ..)).mono ?_
  rintro e _ ⟨rfl, q1, rfl⟩
  rw [show decide (([97] : List Nat) = [97]) = true from by decide]
  have Ms1 := Lib.hid (Ls1.out.drewN q1)
  clear Ls1
  go_wp2_with fail
  have Ls2 := Lib.hid (BMid.lit Ms1.out [97] (small1 97 (by omega)) (w11.heap.size + 1) (by simp))
  refine (BMid.same Ls2.out (v := vw9) (a := [97]) (by simp) (List.mem_cons_self ..)).mono ?_
  rintro e _ ⟨rfl, q2, rfl⟩
  rw [show decide (([97] : List Nat) = [97]) = true from by decide]
  have Ms2 := Lib.hid (Ls2.out.drewN q2)
  clear Ls2
  go_wp2_with fail
  have Ls3 := Lib.hid (BMid.lit Ms2.out [98] (small1 98 (by omega)) (w11.heap.size + 2) (by simp))
  refine (BMid.same Ls3.out (v := vw10) (a := [98]) (by simp) (List.mem_cons_self ..)).mono ?_
  rintro e _ ⟨rfl, q3, rfl⟩
  rw [show decide (([98] : List Nat) = [98]) = true from by decide]
  have Ms3 := Lib.hid (Ls3.out.drewN q3)
  clear Ls3
  go_wp2_with fail
  go_ret
  exact ⟨rfl, Ms3.out.bel⟩
end Go.Proofs.Ytihjmgjjknjioaa.In
