/- Whatever the list of events that comes in: LedgerAgrees returns true, and the list reads as it did. There are no conditions. -/
import Derived.Test.YtfflidaodnhpbaaRows
import Derived.Test.YtfflidaodnhpbaaLedAh
import Derived.WalkKit
import Derived.ProofKit
import Derived.OpenShut
import Derived.ShutString
import Derived.ChangeOld
import Derived.Below
namespace Go.Proofs.Ytfflidaodnhpbaa.Agrees
open Go.ChangeShapes Go.WideShapes Go.ChangeAt Go.RowKit
open Go.Proofs.Ytfflidaodnhpbaa.Base Go.Proofs.Ytfflidaodnhpbaa.Led
set_option linter.unusedVariables false

theorem own : ownKnob Try.prog.godebug = none := by kernel_rfl
theorem laidOut : laidOutB Try.prog = true := by kernel_rfl

/-- A slice of integers that came in reads as a list. -/
theorem sl_of_row {w : World} {x : Addr} {len cap : Nat} {zs : List Int} (hl : len ≤ cap) (hm : cap ≤ maxLen) (hz : zs.length = cap) (hcell : ∀ i, i < zs.length → w.cell? (x.add i) = some (.int .i64 (zs.getD i 0))) :
    Sl w 1 (.slice (some x) len cap) (zs.take len).length (intv (zs.take len)) := by
  have hlen : (zs.take len).length = len := by rw [List.length_take]; omega
  refine ⟨by simp [intv], some x, cap, by rw [hlen], by omega, hm, fun hn => ?_⟩
  obtain ⟨b, off, spot⟩ := x
  have h0 := hcell 0 (by omega)
  have hspot : spot = none := by simpa [Addr.add] using World.cell?_spot h0
  subst hspot
  refine ⟨b, off, rfl, fun j u hj => ?_⟩
  have hj' : j < (zs.take len).length := by
    rcases Nat.lt_or_ge j (zs.take len).length with g | g
    · exact g
    · rw [List.getElem?_eq_none (by simpa only [intv, List.length_map] using g)] at hj
      cases hj
  have hjz : j < zs.length := by omega
  have e : u = .int .i64 (zs.getD j 0) := by
    simp only [intv, List.getElem?_map, List.getElem?_eq_getElem hj', Option.map_some, List.getElem_take] at hj
    injection hj with hj
    simp [← hj, hjz]
  have := hcell j hjz
  rw [e, ← this]
  by_cases h : j = 0
  · subst h; simp [Addr.add]
  · simp [Addr.add, h]

theorem walk (a0 : Option Addr) (len0 cap0 : Nat) (w : World) (h : ∃ xs : List Int, xs.length = len0 ∧ Sl w 1 (.slice a0 len0 cap0) xs.length (intv xs)) :
    Calls Try.prog 4 #[.slice a0 len0 cap0] w fun e w' => e = .returned (.bool true) ∧ Below w.heap.size w w' := by
  obtain ⟨xs, hl, hs⟩ := h
  by_cases h30 : xs.length ≤ 30
  · exact lawA_calls hs h30
  · exact longA_calls hs (by omega)

set_option maxRecDepth 100000 in
theorem lifted (os : Os) (started : os.Started) (H : Type) (enc : TypeId × Value → H) :
    ReturnsInHanded {} Try.checked os 4 .any (Rows.ledgerAgreesSpec.pre6 enc Try.prog Try.f4 Rows.ledgerAgreesRow.domain false) (Rows.ledgerAgreesSpec.post enc Try.prog Try.f4 false true false false) := by
  refine returnsInHanded_of_change (C := Try.checked) own started (by kernel_rfl) Try.func4
    (ChangeSpec.witness6 (enc := enc) (C := Try.checked) false ⟨#[], #[.slice none 0 0], []⟩ 8 (by kernel_rfl) (by kernel_rfl) (by kernel_rfl) (by kernel_rfl)) ?_
  intro W base args ds gs before hval0 hW hcnd _
  have hval : ∀ (j : Nat) t v, Try.f4.params[j]? = some t → args[j]? = some v → Value.okWide Try.prog W .any base t v := hval0
  have hW' := hW
  obtain ⟨p, q, hA0, hV, rfl, hfz, hnd⟩ := hW
  have hA : DataW.TrodAll enc Try.prog W 0 (fun _ => true) true Try.f4.params.toList args.toList ds p := hA0
  rw [Try.params4] at hA hval
  obtain ⟨v0, vs0, d0, ds0, p0, q0, hargs, rfl, rfl, h0, r0⟩ := trodAll_cons hA
  obtain ⟨rfl, rfl, rfl⟩ := trodAll_nil r0
  obtain rfl : args = #[v0] := by cases args; simp_all
  obtain ⟨rfl, rfl⟩ := trodVars_none hV
  obtain ⟨a0, len0, cap0, rfl⟩ := okWide_slice Try.underlying22 (hval 0 22 v0 rfl rfl)
  have k0 := h0
  have lt0 : ∀ x ∈ p0, x.block < W.heap.size := by obtain ⟨m, hm⟩ := k0; exact DataW.trod_lt m _ _ _ hm
  have w0 : ∃ xs : List Int, xs.length = len0 ∧ Sl W 1 (.slice a0 len0 cap0) xs.length (intv xs) := by
    obtain ⟨fuel, hf⟩ := h0
    rcases open_ints Try.underlying22 Try.underlying3 (by kernel_rfl) hf with ⟨hcs, _⟩ | ⟨x, l, c, zs, hcs, _, hl, hm, hz, _, hcell, hwz⟩
    · simp [Value.cells] at hcs
      obtain ⟨rfl, rfl, rfl⟩ := hcs
      exact ⟨[], rfl, by simp [intv], none, 0, rfl, Nat.le_refl _, Nat.zero_le _, fun h => absurd h (by simp)⟩
    · simp [Value.cells] at hcs
      obtain ⟨rfl, rfl, rfl⟩ := hcs
      have hz' : zs.length = cap0 := by simpa using hz
      exact ⟨zs.take len0, by rw [List.length_take]; omega, sl_of_row hl hm hz' hcell⟩
  clear hA0 hval0
  refine (walk a0 len0 cap0 W w0).mono fun e W' ⟨he, bel⟩ => ?_
  subst he
  exact ⟨_, rfl, _, _, _, [], _, [], hW', trodAll_mk1 (shut_bool Try.underlying4 _), (trodAll_cons_mk (Below.trod laidOut (by kernel_rfl) (of_decide_eq_true (by kernel_rfl)) k0 bel lt0) trodAll_mk0), rfl, bel.frame _, fun h => by cases h⟩

theorem over : Rows.ledgerAgreesRow.holds Try.pinned (OpenSpec.ofChange Rows.ledgerAgreesSpec) :=
  OpenClaim.holds_of_wide 4 Try.f4 rfl rfl rfl rfl rfl rfl rfl ⟨rfl, rfl, rfl, rfl, rfl⟩ rfl rfl rfl rfl rfl (by kernel_rfl) Try.func4 (by kernel_rfl)
    (of_decide_eq_true (by kernel_rfl)) (by unfold Func.isWrapper; first | (rw [if_pos (by decide +kernel)]; kernel_rfl) | (rw [if_neg (by decide +kernel)]; exact ⟨rfl, rfl⟩))
    (fun os started H enc _ => lifted os started H enc)
end Go.Proofs.Ytfflidaodnhpbaa.Agrees
namespace Go.Proofs.Ytfflidaodnhpbaa
/-- The statement. -/
theorem ledgerAgrees_holds : Rows.LedgerAgreesSaid := Agrees.over
#print axioms ledgerAgrees_holds
end Go.Proofs.Ytfflidaodnhpbaa
