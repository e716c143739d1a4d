/- Whatever the list of events that comes in: InboxTurns returns true, and the list reads as it did. There are no conditions. -/
import Derived.Test.YtihjmgjjknjioaaRows
import Derived.Test.YtihjmgjjknjioaaInL
import Derived.Test.YtihjmgjjknjioaaInM
import Derived.WalkKit
import Derived.ProofKit
import Derived.OpenShut
import Derived.ShutString
import Derived.ChangeOld
import Derived.Below
namespace Go.Proofs.Ytihjmgjjknjioaa.Turns
open Go.ChangeShapes Go.WideShapes Go.ChangeAt Go.RowKit
open Go.Proofs.Ytihjmgjjknjioaa.Base Go.Proofs.Ytihjmgjjknjioaa.In
set_option linter.unusedVariables false
set_option linter.unnecessarySimpa false

theorem own : ownKnob Try.prog.godebug = none := by kernel_rfl
theorem laidOut : laidOutB Try.prog = true := by kernel_rfl

theorem walk (a0 : Option Addr) (len0 cap0 first : Nat) (w : World) (hl : len0 ≤ cap0) (hm : cap0 ≤ maxLen) (h : 0 < len0 → ∃ b o, a0 = some ⟨b, o, none⟩ ∧ ∀ k, k < len0 → ∃ d nx ix vb bs, OpAt w b o k d nx ix vb bs) :
    Calls Try.prog 3 #[.slice a0 len0 cap0, .int .u32 (first : Int)] w fun e w' => e = .returned (.bool true) ∧ Below w.heap.size w w' := by
  by_cases g : 80 < len0 ∨ 1073741824 < first
  · exact turns_long g
  · by_cases g0 : len0 = 0
    · subst g0
      exact turns_none (by omega)
    · obtain ⟨b, o, rfl, hk⟩ := h (by omega)
      exact turns_calls (by omega) hl hm (by omega) hk

set_option maxRecDepth 100000 in
theorem lifted (os : Os) (started : os.Started) (H : Type) (enc : TypeId × Value → H) :
    ReturnsInHanded {} Try.checked os 3 .any (Rows.inboxTurnsSpec.pre6 enc Try.prog Try.f3 Rows.inboxTurnsRow.domain false) (Rows.inboxTurnsSpec.post enc Try.prog Try.f3 false true false false) := by
  refine returnsInHanded_of_change_sized (C := Try.checked) own started (by kernel_rfl) Try.func3
    (ChangeSpec.witness6 (enc := enc) (C := Try.checked) false ⟨#[], #[.slice none 0 0, .int .u32 0], []⟩ 8 (by kernel_rfl) (by kernel_rfl) (by kernel_rfl) (by kernel_rfl)) ?_
  intro W base args ds gs before hval0 hW hcnd hsz0 _
  have hval : ∀ (j : Nat) t v, Try.f3.params[j]? = some t → args[j]? = some v → Value.okWide Try.prog W .any base t v := hval0
  have hW' := hW
  obtain ⟨p, q, hA0, hV, rfl, hfz, hnd⟩ := hW
  have hA : DataW.TrodAll enc Try.prog W 0 (fun _ => true) true Try.f3.params.toList args.toList ds p := hA0
  have hsz : (DataW.weightsEach Try.prog (Try.f3.params.toList ++ []) (ds ++ gs)).all (· ≤ reachBytes) = true := hsz0
  rw [Try.params3] at hA hval hsz
  obtain ⟨v0, vs0, d0, ds0, p0, q0, hargs, rfl, rfl, h0, r0⟩ := trodAll_cons hA
  obtain ⟨v1, vs1, d1, ds1, p1, q1, hargs1, rfl, rfl, h1, r1⟩ := trodAll_cons r0
  obtain ⟨rfl, rfl, rfl⟩ := trodAll_nil r1
  obtain rfl : args = #[v0, v1] := by cases args; simp_all
  obtain ⟨rfl, rfl⟩ := trodVars_none hV
  obtain ⟨a0, len0, cap0, rfl⟩ := okWide_slice Try.underlying22 (hval 0 22 v0 rfl rfl)
  obtain ⟨z, rfl, rfl, rfl, wz⟩ := open_int Try.underlying23 (hval 1 23 v1 rfl rfl) h1
  have k0 := h0
  have lt0 : ∀ x ∈ p0, x.block < W.heap.size := by obtain ⟨m, hm⟩ := k0; exact DataW.trod_lt m _ _ _ hm
  have hw0 : (d0.weights Try.prog 22).all (· ≤ reachBytes) = true := by
    simp [DataW.weightsEach] at hsz
    rw [List.all_eq_true]
    intro y hy
    exact decide_eq_true (hsz.1 y hy)
  obtain ⟨fuel, hf⟩ := h0
  obtain ⟨hl, hm, hk⟩ := ops_of_trod hf hw0
  have hz := wf_u32 wz
  obtain ⟨first, rfl⟩ : ∃ f : Nat, z = (f : Int) := ⟨z.toNat, by omega⟩
  clear hA0 hval0
  refine (walk a0 len0 cap0 first W hl hm hk).mono fun e W' ⟨he, bel⟩ => ?_
  subst he
  exact ⟨_, rfl, _, _, _, [], _, [], hW', trodAll_mk1 (shut_bool Try.underlying4 _), (trodAll_cons_mk (Below.trod laidOut (by kernel_rfl) (of_decide_eq_true (by kernel_rfl)) k0 bel lt0) (trodAll_cons_mk (shut_int Try.underlying23 wz) trodAll_mk0)), rfl, bel.frame _, fun h => by cases h⟩

theorem over : Rows.inboxTurnsRow.holds Try.pinned (OpenSpec.ofChange Rows.inboxTurnsSpec) :=
  OpenClaim.holds_of_wide 3 Try.f3 rfl rfl rfl rfl rfl rfl rfl ⟨rfl, rfl, rfl, rfl, rfl⟩ rfl rfl rfl rfl rfl (by kernel_rfl) Try.func3 (by kernel_rfl)
    (of_decide_eq_true (by kernel_rfl)) (by unfold Func.isWrapper; first | (rw [if_pos (by decide +kernel)]; kernel_rfl) | (rw [if_neg (by decide +kernel)]; exact ⟨rfl, rfl⟩))
    (fun os started H enc _ => lifted os started H enc)
end Go.Proofs.Ytihjmgjjknjioaa.Turns
namespace Go.Proofs.Ytihjmgjjknjioaa
/-- The statement. -/
theorem inboxTurns_holds : Rows.InboxTurnsSaid := Turns.over
#print axioms inboxTurns_holds
end Go.Proofs.Ytihjmgjjknjioaa
