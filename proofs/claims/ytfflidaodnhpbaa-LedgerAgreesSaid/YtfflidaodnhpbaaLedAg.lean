/- Walks: Close, Derive. -/
import Derived.Test.YtfflidaodnhpbaaLedAf
namespace Go.Proofs.Ytfflidaodnhpbaa.Led
open Go Go.RowKit Go.Proofs.Ytfflidaodnhpbaa.Base Go.Proofs.Ytfflidaodnhpbaa.Draw
set_option linter.unusedVariables false
set_option linter.unusedSimpArgs false

structure Asks (w : World) (T : List Trm) (vT vk : Value) (kn : List Nat) : Prop where
  sT : Sl w 3 vT T.length (snv T)
  n : T.length ≤ 200
  pos : 0 < T.length
  wf : WF T
  sk : Sl w 1 vk kn.length (nats kn)
  lt : ∀ x ∈ kn, x < T.length
  few : kn.length ≤ 1000
def ClosePost (w : World) (T : List Trm) (kn : List Nat) (e : Ending) (w' : World) : Prop :=
  ∃ O A c, e = .returned (.tuple #[.slice A T.length c, .int .i64 0]) ∧ w'.ownsRow w.heap.size 4 1 (.slice A T.length c) T.length (bools (inS O T.length)) ∧ (∀ x ∈ kn, x ∈ O) ∧ Sound T kn O ∧ Cl T (has O) ∧ Below w.heap.size w w'

set_option maxRecDepth 100000 in
set_option maxHeartbeats 1000000 in
theorem close_calls {w : World} {vT vk : Value} {T : List Trm} {kn : List Nat} (h : Asks w T vT vk kn) :
    Calls Try.prog 16 #[vT, vk] w (ClosePost w T kn) := by
  have H := Lib.hid h
  clear h
  go_enter Try.func16, Try.ntmps16
  go_wp2_with fail
  refine (closed_calls H.out.sT H.out.n H.out.pos H.out.wf H.out.sk H.out.lt H.out.few).mono ?_
  rintro e w1 ⟨s, O, rfl, hf, hcl⟩
  obtain ⟨g, c, ao, co, At, cT, rfl, q1, q2, q3, q4, q5, q6, c0, c1, c2, hs, hg, hne, hin, hb, hm⟩ := hf.mid.cells H.out.pos
  have o1 : w1.ownsRow w.heap.size 4 1 (.slice (some ⟨g, 0, none⟩) T.length c) T.length (bools (inS O T.length)) := by
    have h1 : w1.ownsRow 0 4 1 (.slice (some ⟨g, 0, none⟩) T.length c) T.length (bools (inS O T.length)) := hm.rows.1 (.slice (some ⟨g, 0, none⟩) T.length c, rowS O T.length) (by simp)
    have h2 := hm.low (.slice (some ⟨g, 0, none⟩) T.length c, rowS O T.length) (by simp) g rfl
    refine ⟨h1.1, h1.2.imp id (fun ⟨g', c', cur, e1, e2, e3⟩ => ⟨g', c', cur, e1, ?_, e3⟩)⟩
    injection e1 with e1
    injection e1 with e1
    injection e1 with e1
    rw [← e1]; exact h2
  have F := Lib.hid (And.intro hf (And.intro hcl o1))
  clear hf hcl hin hb hm o1
  go_wp2_with fail
  go_ret2
  exact ⟨O, _, _, rfl, F.out.2.2, F.out.1.all, F.out.1.snd, F.out.2.1, F.out.1.mid.bel⟩

set_option maxHeartbeats 1000000 in
theorem indexI_calls {w : World} {v : Value} {xs : List Nat} {x p : Nat} (h : Sl w 1 v xs.length (nats xs)) (hp : p < xs.length) (hx : xs.getD p 0 = x) (hno : ∀ j, j < p → xs.getD j 0 ≠ x) :
    Calls Try.prog 32 #[v, .int .i64 (x : Int)] w fun e w' => e = .returned (.int .i64 (p : Int)) ∧ w' = w := by
  obtain ⟨hl, A, c', rfl, hnc, hcm, hcell⟩ := h
  have hcm' := hcm
  unfold maxLen at hcm'
  have HE := Lib.hid hcell
  have HX := Lib.hid (And.intro hx hno)
  clear hx hcell hl hcm hno
  generalize hN : xs.length = N at *
  have HN := Lib.hid hN
  clear hN
  go_enter Try.func32, Try.ntmps32
  go_wp2_with fail
  go_loop [5, 8] (fun u i => ∃ k : Nat, k ≤ p ∧ i = .int .i64 k) (fun _ i => N - (intOf i).toNat)
  case atStart => exact ⟨0, by omega, rfl⟩
  case round =>
    obtain ⟨k, hk, rfl⟩ := hrel
    have hkx : k < xs.length := by rw [HN.out]; omega
    obtain ⟨b, o, rfl, hc⟩ := HE.out (by omega)
    have c0 := hc k (.int .i64 ((xs.getD k 0 : Nat) : Int)) (by simp [nats, hkx])
    have hd : decide ((k : Int) < (N : Int)) = true := by simp; omega
    clear hc
    by_cases hkp : k = p
    · subst hkp
      rw [HX.out.1] at c0
      have e1 : ((x : Int) == (x : Int)) = true := by simp
      go_wp2_with fail
      go_ret
      exact ⟨rfl, rfl⟩
    · have h1 := HX.out.2 k (by omega)
      generalize xs.getD k 0 = y at *
      have e1 : ((x : Int) == (y : Int)) = false := by simp; omega
      clear h1
      go_wp2_with fail
      go_round
      case rel => exact ⟨k + 1, by omega, by go_num⟩
      case measure => simp [intOf]; omega
theorem first_at (O : List Nat) (x : Nat) (h : x ∈ O) : ∃ p, p < O.length ∧ O.getD p 0 = x ∧ ∀ j, j < p → O.getD j 0 ≠ x := by
  induction O with
  | nil => cases h
  | cons a O ih =>
    by_cases e : a = x
    · exact ⟨0, by simp, by simp [e], fun j hj => by omega⟩
    · have : x ∈ O := by
        rcases List.mem_cons.1 h with g | g
        · exact absurd g.symm e
        · exact g
      obtain ⟨p, h1, h2, h3⟩ := ih this
      refine ⟨p + 1, by simp; omega, by simpa using h2, fun j hj => ?_⟩
      cases j with
      | zero => simpa using e
      | succ j => simpa using h3 j (by omega)

def DerivePost (w : World) (T : List Trm) (kn : List Nat) (goal : Nat) (e : Ending) (w' : World) : Prop :=
  ∃ O, (∀ x ∈ kn, x ∈ O) ∧ Sound T kn O ∧ Cl T (has O) ∧ Below w.heap.size w w' ∧
    ((goal ∉ O ∧ e = .returned (.tuple #[.slice none 0 0, .int .i64 62])) ∨
     (goal ∈ O ∧ ∃ b p c, e = .returned (.tuple #[.slice (some ⟨b, 0, none⟩) (p + 1) c, .int .i64 0]) ∧ w.heap.size ≤ b ∧ p < 1000 ∧ w'.cell? ⟨b, p, none⟩ = some (.int .i64 (goal : Int))))

set_option maxRecDepth 100000 in
set_option maxHeartbeats 2000000 in
theorem derive_calls {w : World} {vT vk : Value} {T : List Trm} {kn : List Nat} (h : Asks w T vT vk kn) (goal : Nat) (hgl : goal < T.length) :
    Calls Try.prog 17 #[vT, vk, .int .i64 (goal : Int)] w (DerivePost w T kn goal) := by
  have H := Lib.hid h
  obtain ⟨_, At0, cT0, rfl, hT1, hT2, _⟩ := h.sT
  have hn200 := h.n
  unfold maxLen at hT2
  clear h
  go_enter Try.func17, Try.ntmps17
  go_wp2_with fail
  refine (closed_calls H.out.sT H.out.n H.out.pos H.out.wf H.out.sk H.out.lt H.out.few).mono ?_
  rintro e w1 ⟨s, O, rfl, hf, hcl⟩
  obtain ⟨g, c, ao, co, At, cT, e1, q1, q2, q3, q4, q5, q6, c0, c1, c2, hs, hg, hne, hin, hb, hm⟩ := hf.mid.cells H.out.pos
  obtain ⟨z0, -⟩ := hin goal hgl
  have hol := hf.mid.olen
  have o2 : w1.ownsRow 0 3 1 (.slice ao O.length co) O.length (nats O) := hm.rows.1 (.slice ao O.length co, rowI O) (by simp)
  have hlow := hm.low (.slice ao O.length co, rowI O) (by simp)
  have F := Lib.hid (And.intro hf (And.intro hcl (And.intro o2 hlow)))
  unfold maxLen at q4 q6
  have f1 : decide ((goal : Int) < 0) = false := by simp
  generalize hn : T.length = n at *
  have f2 : decide ((n : Int) ≤ (goal : Int)) = false := by simp; omega
  have f3 : decide (n ≤ goal) = false := by simp; omega
  clear hf hcl hin hb hm e1 o2 hlow hn q1 q2
  by_cases hgO : goal ∈ O
  · have ec : O.contains goal = true := by simpa using hgO
    rw [ec] at z0
    obtain ⟨p, hp1, hp2, hp3⟩ := first_at O goal hgO
    obtain ⟨b, co', hv, _, _, _, hblt, hcell⟩ := own_at F.out.2.2.1 (by omega)
    injection hv with hv1 hv2 hv3
    subst hv1
    have hbw := F.out.2.2.2 b rfl
    have hcp := hcell p (.int .i64 (goal : Int)) (by rw [nats_get hp1, hp2])
    have HI := Lib.hid (fun q : Nat => indexI_calls ((Sl.of_own F.out.2.2.1).drewN q) hp1 hp2 hp3)
    have HC := Lib.hid (And.intro hcp (And.intro hgO hbw))
    clear hp2 hp3 hcell hcp ec hgO hv2 hv3
    generalize hno : O.length = no at *
    clear hno
    go_wp2_with fail
    go_quiet ((go_at_call 32; exact Calls.quiet_of_same (HI.out _)))
    go_wp2_with fail
    go_ret2
    exact ⟨O, F.out.1.all, F.out.1.snd, F.out.2.1, below_drewN F.out.1.mid.bel _, .inr ⟨HC.out.2.1, _, _, _, rfl, HC.out.2.2, by omega, HC.out.1⟩⟩
  · have ec : O.contains goal = false := by simpa using hgO
    rw [ec] at z0
    have HG := Lib.hid hgO
    clear ec hgO
    go_wp2_with fail
    go_ret2
    exact ⟨O, F.out.1.all, F.out.1.snd, F.out.2.1, F.out.1.mid.bel, .inl ⟨HG.out, rfl⟩⟩
end Go.Proofs.Ytfflidaodnhpbaa.Led
