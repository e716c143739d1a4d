/- The operations that came in, opened: what the walk of InboxTurns asks (OpAt), from the row's reading and its reach. -/
import Derived.Test.YtihjmgjjknjioaaInK
import Derived.Deep.Slices
import Derived.SizedLaws
namespace Go.Proofs.Ytihjmgjjknjioaa.In
open Go Go.RowKit Go.Proofs.Ytihjmgjjknjioaa.Base Go.Proofs.Ytihjmgjjknjioaa.Draw Go.ChangeShapes Go.WideShapes Go.Deep
set_option linter.unusedVariables false
set_option linter.unnecessarySimpa false
set_option linter.unusedSimpArgs false
section
variable {H : Type} {enc : TypeId × Value → H}

theorem wf_u8 {z : Int} (h : (Lit.int .u8 z).wf = true) : 0 ≤ z ∧ z < 256 := by
  simp [Lit.wf] at h
  have h1 : IntKind.u8.min = 0 := by decide +kernel
  have h2 : IntKind.u8.max = 255 := by decide +kernel
  omega
theorem wf_u32 {z : Int} (h : (Lit.int .u32 z).wf = true) : 0 ≤ z ∧ z < 4294967296 := by
  simp [Lit.wf] at h
  have h1 : IntKind.u32.min = 0 := by decide +kernel
  have h2 : IntKind.u32.max = 4294967295 := by decide +kernel
  omega
theorem weights_get {P : Program} {e : TypeId} {q : Nat → Bool} : ∀ {l : List (DataW H)}, (DataW.weightsAll P e l).all q = true → ∀ d ∈ l, (d.weights P e).all q = true
  | [], _, d, hd => by cases hd
  | a :: l, h, d, hd => by
    rw [DataW.weightsAll, List.all_append, Bool.and_eq_true] at h
    rcases List.mem_cons.1 hd with rfl | hd
    · exact h.1
    · exact weights_get h.2 d hd
theorem bytes_of_trod {W : World} {fuel : Nat} {cs : List Value} {x : DataW H × List MemPlace} (h : DataW.trod enc Try.prog W 0 (fun _ => true) true fuel 32 cs = some x)
    (hw : (x.1.weights Try.prog 32).all (· ≤ reachBytes) = true) : ∃ v bs, cs = [v] ∧ Sl W 1 v bs.length (u8s bs) ∧ Small bs := by
  rcases open_ints Try.underlying32 Try.underlying5 (by kernel_rfl) h with ⟨rfl, _⟩ | ⟨a, len, cap, zs, rfl, _, hl, hm, hz, rfl, hcell, hwf⟩
  · exact ⟨_, [], rfl, ⟨by simp [u8s], none, 0, rfl, Nat.le_refl _, Nat.zero_le _, fun h => absurd h (by simp)⟩, by simp, by simp⟩
  · have hz' : zs.length = cap := by simpa using hz
    simp only [DataW.weights, Try.underlying32, List.all_cons, Bool.and_eq_true] at hw
    have hw1 := of_decide_eq_true hw.1
    rw [show Try.prog.bytesOf 5 = 1 from by kernel_rfl] at hw1
    simp only [lits, List.length_map, List.length_take, List.length_drop, reachBytes] at hw1
    have hlen : ((zs.take len).map Int.toNat).length = len := by simp; omega
    refine ⟨_, (zs.take len).map Int.toNat, rfl, ⟨by simp [u8s], some a, cap, by rw [hlen], by omega, hm, fun hn => ?_⟩, by omega, fun y hy => ?_⟩
    · obtain ⟨b, off, spot⟩ := a
      have h0 := hcell 0 (by omega)
      have hspot : spot = none := by simpa [Addr.add] using World.cell?_spot h0
      subst hspot
      refine ⟨b, off, rfl, fun j u hj => ?_⟩
      have hj' : j < len := by
        rcases Nat.lt_or_ge j len with g | g
        · exact g
        · rw [List.getElem?_eq_none (by simp [u8s]; omega)] at hj
          cases hj
      have hjz : j < zs.length := by omega
      have hr := wf_u8 (hwf zs[j] (List.getElem_mem hjz))
      have e : u = .int .u8 (zs.getD j 0) := by
        simp [u8s, List.getElem?_take, hj', hjz] at hj
        simp [← hj, hjz]
        omega
      have := hcell j hjz
      rw [e, ← this]
      by_cases h : j = 0
      · subst h; simp [Addr.add]
      · simp [Addr.add, h]
    · obtain ⟨z, hz, rfl⟩ := List.mem_map.1 hy
      have := wf_u8 (hwf z (List.mem_of_mem_take hz))
      omega

/-- The cells of one operation, by its reading. -/
theorem op_of_trod {W : World} {fuel : Nat} {cs : List Value} {x : DataW H × List MemPlace} (h : DataW.trod enc Try.prog W 0 (fun _ => true) true fuel 35 cs = some x)
    (hw : (x.1.weights Try.prog 35).all (· ≤ reachBytes) = true) :
    ∃ (d : Int) (nx ix : Nat) (vb v4 v5 : Value) (bs : List Nat), cs = [.int .i64 d, .int .u32 (nx : Int), .int .u32 (ix : Int), vb, v4, v5] ∧ Sl W 1 vb bs.length (u8s bs) ∧ Small bs ∧ nx < 4294967296 ∧ ix < 4294967296 := by
  obtain ⟨xs, n, hk, rfl, hlen, hxl, hf⟩ := DataW.trod_struct Try.underlying35 h
  rw [show Try.prog.cellsOf 35 = 6 from by kernel_rfl] at hlen
  match xs, hxl, cs, hlen with
  | [y0, y1, y2, y3, y4, y5], _, [c0, c1, c2, c3, c4, c5], _ =>
    have g0 := hf 0 _ rfl
    have g1 := hf 1 _ rfl
    have g2 := hf 2 _ rfl
    have g3 := hf 3 _ rfl
    simp [show Try.prog.cellsOf 3 = 1 from by kernel_rfl, show Try.prog.cellsOf 23 = 1 from by kernel_rfl, show Try.prog.cellsOf 32 = 1 from by kernel_rfl] at g0 g1 g2 g3
    simp only [DataW.weights, Try.underlying35] at hw
    simp [DataW.weightsEach, List.all_append] at hw
    obtain ⟨z0, e0, _, _⟩ := DataW.trod_int Try.underlying3 g0
    obtain ⟨z1, e1, _, w1⟩ := DataW.trod_int Try.underlying23 g1
    obtain ⟨z2, e2, _, w2⟩ := DataW.trod_int Try.underlying23 g2
    obtain ⟨v, bs, e3, hs, sm⟩ := bytes_of_trod g3 (by
      rw [List.all_eq_true]
      intro y hy
      exact decide_eq_true (hw.2.2.2.1 y hy))
    simp only [List.cons.injEq, and_true] at e0 e1 e2 e3
    subst e0 e1 e2 e3
    have r1 := wf_u32 w1
    have r2 := wf_u32 w2
    refine ⟨z0, z1.toNat, z2.toNat, c3, c4, c5, bs, ?_, hs, sm, by omega, by omega⟩
    rw [show ((z1.toNat : Nat) : Int) = z1 from by omega, show ((z2.toNat : Nat) : Int) = z2 from by omega]
/-- The list of operations that came in. -/
theorem ops_of_trod {W : World} {fuel : Nat} {A : Option Addr} {len cap : Nat} {x : DataW H × List MemPlace} (h : DataW.trod enc Try.prog W 0 (fun _ => true) true fuel 22 [.slice A len cap] = some x)
    (hw : (x.1.weights Try.prog 22).all (· ≤ reachBytes) = true) :
    len ≤ cap ∧ cap ≤ maxLen ∧ (0 < len → ∃ b o, A = some ⟨b, o, none⟩ ∧ ∀ k, k < len → ∃ d nx ix vb bs, OpAt W b o k d nx ix vb bs) := by
  rcases open_slice Try.underlying22 h with ⟨e, _⟩ | ⟨a, len', cap', m, n, D, Pl, e, _, hl, hm, hmm, rfl, hx⟩
  · simp only [List.cons.injEq, and_true, Value.slice.injEq] at e
    obtain ⟨rfl, rfl, rfl⟩ := e
    exact ⟨Nat.le_refl _, Nat.zero_le _, fun h => absurd h (by simp)⟩
  · simp only [List.cons.injEq, and_true, Value.slice.injEq] at e
    obtain ⟨rfl, rfl, rfl⟩ := e
    refine ⟨hl, hm, fun hn => ?_⟩
    have hm' : m = cap := by simpa using hmm
    rw [show Try.prog.cellsOf 35 = 6 from by kernel_rfl] at hx
    simp only [DataW.weights, Try.underlying22, List.all_cons, List.all_append, Bool.and_eq_true] at hw
    have hd : ∀ k, k < len → ((D k).weights Try.prog 35).all (· ≤ reachBytes) = true := fun k hk => weights_get hw.2.1 _ (List.mem_map.2 ⟨k, by simpa using hk, rfl⟩)
    obtain ⟨b, off, spot⟩ := a
    obtain ⟨cs0, h0, t0⟩ := hx 0 (by omega)
    obtain ⟨d, nx, ix, vb, v4, v5, bs, rfl, _⟩ := op_of_trod t0 (hd 0 hn)
    obtain ⟨_, _, hc0⟩ := World.cells?_some h0
    have hspot : spot = none := by simpa [Addr.add] using World.cell?_spot (hc0 0 (by omega))
    subst hspot
    refine ⟨b, off, rfl, fun k hk => ?_⟩
    obtain ⟨cs0, h0, t0⟩ := hx k (by omega)
    obtain ⟨d, nx, ix, vb, v4, v5, bs, rfl, hs, sm, r1, r2⟩ := op_of_trod t0 (hd k hk)
    obtain ⟨_, _, hc0⟩ := World.cells?_some h0
    have q0 := hc0 0 (by omega)
    have q1 := hc0 1 (by omega)
    have q2 := hc0 2 (by omega)
    have q3 := hc0 3 (by omega)
    rw [add_add] at q0 q1 q2 q3
    rw [add_plain] at q0 q1 q2 q3
    exact ⟨d, nx, ix, vb, bs, by simpa using q0, by simpa [Nat.add_assoc] using q1, by simpa [Nat.add_assoc] using q2, by simpa [Nat.add_assoc] using q3, hs, sm, r1, r2⟩
end
end Go.Proofs.Ytihjmgjjknjioaa.In
