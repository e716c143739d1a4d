/- Walks: closed: the set that the rules close. -/
import Derived.Test.YtfflidaodnhpbaaLedAe
import Derived.Test.YtfflidaodnhpbaaLedAc
import Derived.ScopeJumps
import Derived.WalkMore
namespace Go.Proofs.Ytfflidaodnhpbaa.Led
open Go Go.RowKit Go.Proofs.Ytfflidaodnhpbaa.Base Go.Proofs.Ytfflidaodnhpbaa.Draw
set_option linter.unusedVariables false
set_option linter.unusedSimpArgs false

/-- All that is in O can be found out. -/
def Sound (T : List Trm) (kn O : List Nat) : Prop := ∀ p, Cl T p → (∀ x ∈ kn, p x = true) → ∀ i ∈ O, p i = true
structure OkAt (T : List Trm) (O : List Nat) (j : Nat) : Prop where
  made : made T (has O) (at_ T j) = true → j ∈ O
  pair : j ∈ O → (at_ T j).1 = 1 → (at_ T j).2.1 ∈ O ∧ (at_ T j).2.2 ∈ O
  box : j ∈ O → (at_ T j).1 = 5 → (at_ T j).2.1 ∈ O → (at_ T j).2.2 ∈ O
theorem has_iff (O : List Nat) (i : Nat) : has O i = true ↔ i ∈ O := by simp [has]
theorem addO_pre (O : List Nat) (i : Nat) : O <+: addO O i := by
  unfold addO; split
  · exact List.prefix_refl _
  · exact List.prefix_append _ _
theorem openO_pre (O : List Nat) (t : Trm) : O <+: openO O t := by
  unfold openO; split
  · exact (addO_pre _ _).trans (addO_pre _ _)
  · split
    · exact addO_pre _ _
    · exact List.prefix_refl _
theorem mem_addO (O : List Nat) (i : Nat) : i ∈ addO O i := by
  unfold addO; split
  · assumption
  · simp
theorem addO_mem {O : List Nat} {i k : Nat} (h : k ∈ addO O i) : k ∈ O ∨ k = i := by
  unfold addO at h; split at h
  · exact .inl h
  · simpa using h
theorem pre_eq {a b c : List Nat} (h1 : a <+: b) (h2 : b <+: c) (e : c = a) : b = a :=
  (List.IsPrefix.eq_of_length h1 (Nat.le_antisymm h1.length_le (by rw [e] at h2; exact h2.length_le))).symm
theorem Sound.add {T : List Trm} {kn O : List Nat} {i : Nat} (h : Sound T kn O) (hi : ∀ p, Cl T p → (∀ x ∈ kn, p x = true) → p i = true) : Sound T kn (addO O i) := fun p hp hk k hkk => by
  rcases addO_mem hkk with g | rfl
  · exact h p hp hk k g
  · exact hi p hp hk
theorem snd_made {T : List Trm} {kn O : List Nat} {k : Nat} (h : Sound T kn O) (hk : k < T.length) (hm : made T (has O) (at_ T k) = true) : Sound T kn (addO O k) :=
  h.add fun p hp hkn => hp.made k hk (made_mono (fun i hi => h p hp hkn i ((has_iff O i).1 hi)) hm)
theorem snd_open {T : List Trm} {kn O : List Nat} {k : Nat} (h : Sound T kn O) (hk : k < T.length) (hm : k ∈ O) : Sound T kn (openO O (at_ T k)) := by
  unfold openO
  split
  · rename_i h1
    exact (h.add fun p hp hkn => (hp.pair k hk (h p hp hkn k hm) h1).1).add fun p hp hkn => (hp.pair k hk (h p hp hkn k hm) h1).2
  · split
    · rename_i h5
      exact h.add fun p hp hkn => hp.box k hk (h p hp hkn k hm) h5.1 (h p hp hkn _ h5.2)
    · exact h
def stepA (T : List Trm) (O : List Nat) (k : Nat) : List Nat := if made T (has O) (at_ T k) = true then addO O k else O
def stepO (T : List Trm) (O : List Nat) (k : Nat) : List Nat := if k ∈ stepA T O k then openO (stepA T O k) (at_ T k) else stepA T O k
theorem stepA_pre (T : List Trm) (O : List Nat) (k : Nat) : O <+: stepA T O k := by
  unfold stepA
  split
  · exact addO_pre _ _
  · exact List.prefix_refl _
theorem snd_stepA {T : List Trm} {kn O : List Nat} {k : Nat} (h : Sound T kn O) (hk : k < T.length) : Sound T kn (stepA T O k) := by
  unfold stepA
  split
  · rename_i g; exact snd_made h hk g
  · exact h
theorem stepO_pre (T : List Trm) (O : List Nat) (k : Nat) : O <+: stepO T O k := by
  unfold stepO
  split
  · exact (stepA_pre _ _ _).trans (openO_pre _ _)
  · exact stepA_pre _ _ _
theorem snd_step {T : List Trm} {kn O : List Nat} {k : Nat} (h : Sound T kn O) (hk : k < T.length) : Sound T kn (stepO T O k) := by
  unfold stepO
  split
  · rename_i g; exact snd_open (snd_stepA h hk) hk g
  · exact snd_stepA h hk
theorem addO_eq {O : List Nat} {i : Nat} (e : addO O i = O) : i ∈ O := e ▸ mem_addO O i
theorem stepO_ok {T : List Trm} {O : List Nat} {k : Nat} (e : stepO T O k = O) : OkAt T O k := by
  have h2 : stepA T O k = O := by
    unfold stepO at e
    split at e
    · exact pre_eq (stepA_pre _ _ _) (openO_pre _ _) e
    · exact e
  unfold stepO at e
  rw [h2] at e
  have op : k ∈ O → openO O (at_ T k) = O := fun hk => by rw [if_pos hk] at e; exact e
  refine ⟨fun hm => ?_, fun hk h1 => ?_, fun hk h5 ha => ?_⟩
  · unfold stepA at h2
    rw [if_pos hm] at h2
    exact addO_eq h2
  · have := op hk
    unfold openO at this
    rw [if_pos h1] at this
    have e1 := pre_eq (addO_pre O (at_ T k).2.1) (addO_pre _ _) this
    rw [e1] at this
    exact ⟨addO_eq e1, addO_eq this⟩
  · have := op hk
    unfold openO at this
    rw [if_neg (by omega), if_pos ⟨h5, ha⟩] at this
    exact addO_eq this
theorem ok_cl {T : List Trm} {O : List Nat} (h : ∀ j, j < T.length → OkAt T O j) : Cl T (has O) :=
  ⟨fun i hi hm => (has_iff _ _).2 ((h i hi).made hm), fun i hi hp h1 => by
    have := (h i hi).pair ((has_iff _ _).1 hp) h1
    exact ⟨(has_iff _ _).2 this.1, (has_iff _ _).2 this.2⟩, fun i hi hp h5 ha => (has_iff _ _).2 ((h i hi).box ((has_iff _ _).1 hp) h5 ((has_iff _ _).1 ha))⟩
theorem wf_fits {T : List Trm} (h : WF T) {k : Nat} (hk : k < T.length) : Fits T (at_ T k) :=
  ⟨fun h0 => by have := (h k hk).2.1 h0; omega, fun h0 h2 h3 => by have := (h k hk).2.2 h0 h2 h3; omega⟩

theorem sl_at2 {w : World} {sz n c : Nat} {A : Option Addr} {vs : List Value} (h : Sl w sz (.slice A n c) n vs) (hn : 0 < n) : ∃ b o, A = some ⟨b, o, none⟩ ∧ ∀ j u, vs[j]? = some u → w.cell? ⟨b, o + j, none⟩ = some u := by
  obtain ⟨_, A', c', h1, _, _, h4⟩ := h
  injection h1 with h1
  subst h1
  exact h4 hn
def lenAt (w : World) (s : Nat) : Nat := match w.cell? ⟨s, 2, none⟩ with | some (.slice _ n _) => n | _ => 0
theorem SMid.lenAt {w wr : World} {s : Nat} {T : List Trm} {vT : Value} {O : List Nat} (h : SMid w wr s T vT O) (h0 : 0 < T.length) : Led.lenAt wr s = O.length := by
  obtain ⟨g, c, ao, co, At, cT, rfl, q1, q2, q3, q4, q5, q6, c0, c1, c2, hs, hg, hne, hin, hb, hm⟩ := h.cells h0
  unfold Led.lenAt
  rw [c2]

structure Found (w wr : World) (s : Nat) (T : List Trm) (vT : Value) (kn O : List Nat) : Prop where
  mid : SMid w wr s T vT O
  all : ∀ x ∈ kn, x ∈ O
  snd : Sound T kn O
def ClosedPost (w : World) (T : List Trm) (vT : Value) (kn : List Nat) (e : Ending) (w' : World) : Prop :=
  ∃ s O, e = .returned (.tuple #[.pointer (some ⟨s, 0, none⟩), .int .i64 0]) ∧ Found w w' s T vT kn O ∧ Cl T (has O)

theorem wp_scope_jumps' {P : Program} {a : Act} {w : World} {Q : Exit → Act → World → Prop} {c r : Code} (l : Nat) (J : Act → World → Prop) (μ : Act → World → Nat) (hf : findLabel c l = some (Code.seq .skip r))
    (first : (∀ a w, J a w → r.wp P (Exit.jump l J Q) a w) → c.wp P (Exit.jump l J Q) a w)
    (pass : ∀ a w, J a w → r.wp P (Exit.jump l (fun a' w' => J a' w' ∧ μ a' w' < μ a w) Q) a w) : (Code.scope c).wp P Q a w :=
  wp_scope_jumps l J μ hf (first fun a w h => by
    intro b k cs
    obtain ⟨e, a', w', hq, ha⟩ := pass a w h b k cs
    refine ⟨e, a', w', ?_, ha⟩
    cases e <;> first | exact hq | exact ⟨hq.1, hq.2.1⟩) (fun a w h => wp_seq (wp_skip (pass a w h)))

theorem SMid.start {w w1 w2 : World} {T : List Trm} {n : Nat} {vT : Value} (hN : T.length = n) (hn : n ≤ 200) (hT : Sl w 3 vT T.length (snv T)) (b1 : Below w.heap.size w w1)
    (o2 : w2.ownsRow w1.heap.size 4 1 (.slice (some ⟨w1.heap.size, 0, none⟩) n n) n (madeCells (Value.bool false).cells (n * 1)).toList) (g2 : w1.grownBy w2 none) :
    SMid w (w2.alloc (.cells #[vT, .slice (some ⟨w1.heap.size, 0, none⟩) n n, .slice none 0 0] 73)) w2.heap.size T vT [] := by
  subst hN
  rw [show (Value.bool false).cells = #[Value.bool false] from rfl, Nat.mul_one, toList_madeCells_one] at o2
  have e : List.replicate T.length (Value.bool false) = bools (inS [] T.length) := by
    apply List.ext_getElem
    · simp [bools, inS]
    · intro k h1 h2
      simp [bools, inS]
  rw [e] at o2
  have m0 : OMid w w1 [] := ⟨⟨fun _ h => (by cases h), List.Pairwise.nil⟩, fun _ h => (by cases h), b1⟩
  have m1 := m0.new g2 o2
  have m2 := m1.nils 3 1
  have hs := b1.size
  have hs2 := g2.size
  exact ⟨⟨_, _, Blk.new _ _ _, m2.alloc _⟩, hT, by omega, by simp, by simp, hn⟩
theorem found_add {T : List Trm} {O : List Nat} {i : Nat} {kn : List Nat} (h : Sound T kn O) (hi : i ∈ kn) : Sound T kn (addO O i) := h.add fun p hp hk => hk i hi
def sAt (a : Act) : Nat := match a.tmps.getD 7 undef with | .pointer (some p) => p.block | _ => 0
theorem round_end {w wr w' : World} {s : Nat} {T : List Trm} {vT : Value} {kn O O0 : List Nat} {k : Nat} (h : Found w wr s T vT kn O) (hpre : O0 <+: O) (hok : O = O0 → ∀ j, j < k → OkAt T O0 j) (hk : k < T.length) (hm : SMid w w' s T vT (stepO T O k)) :
    Found w w' s T vT kn (stepO T O k) ∧ O0 <+: stepO T O k ∧ (stepO T O k = O0 → ∀ j, j < k + 1 → OkAt T O0 j) := by
  refine ⟨⟨hm, fun x hx => (stepO_pre T O k).subset (h.all x hx), snd_step h.snd hk⟩, hpre.trans (stepO_pre T O k), fun e j hj => ?_⟩
  have e1 : O = O0 := pre_eq hpre (stepO_pre T O k) e
  subst e1
  by_cases hjk : j < k
  · exact hok rfl j hjk
  · obtain rfl : j = k := by omega
    exact stepO_ok e
theorem stepO_no {T : List Trm} {O : List Nat} {k : Nat} (h : (stepA T O k).contains k = false) : stepO T O k = stepA T O k := by
  unfold stepO; rw [if_neg (by simpa using h)]
theorem stepO_yes {T : List Trm} {O : List Nat} {k : Nat} (h : (stepA T O k).contains k = true) : stepO T O k = openO (stepA T O k) (at_ T k) := by
  unfold stepO; rw [if_pos (by simpa using h)]
theorem stepA_no {T : List Trm} {O : List Nat} {k : Nat} (h : made T (has O) (at_ T k) = false) : stepA T O k = O := by unfold stepA; rw [h]; simp
theorem stepA_yes {T : List Trm} {O : List Nat} {k : Nat} (h : made T (has O) (at_ T k) = true) : stepA T O k = addO O k := by unfold stepA; rw [if_pos h]
def JJ (w : World) (T : List Trm) (vT vk : Value) (kn : List Nat) (a' : Act) (w' : World) : Prop :=
  ∃ s, (∃ O, Found w w' s T vT kn O) ∧ ∃ (u2 u3 u4 u5 u6 u8 u9 u10 u11 u12 u13 u14 u15 u16 u17 u18 u19 u20 u21 u22 u23 u24 u25 u26 u27 u28 u29 u30 u31 u32 u33 u34 u35 u36 u37 u38 u39 u40 u41 u42 u43 u44 u45 u46 u47 u48 u49 u50 u51 u52 u53 u54 u55 u56 u57 u58 u59 u60 u61 u62 u63 u64 u65 u66 u67 u68 u69 u70 u71 u72 u73 u74 u75 u76 u77 u78 : Value), a' = { tmps := #[vT, vk, u2, u3, u4, u5, u6, .pointer (some ⟨s, 0, none⟩), u8, u9, u10, u11, u12, u13, u14, u15, u16, u17, u18, u19, u20, u21, u22, u23, u24, u25, u26, u27, u28, u29, u30, u31, u32, u33, u34, u35, u36, u37, u38, u39, u40, u41, u42, u43, u44, u45, u46, u47, u48, u49, u50, u51, u52, u53, u54, u55, u56, u57, u58, u59, u60, u61, u62, u63, u64, u65, u66, u67, u68, u69, u70, u71, u72, u73, u74, u75, u76, u77, u78], defers := [] }

set_option maxRecDepth 100000 in
set_option maxHeartbeats 4000000 in
theorem closed_calls {w : World} {vT vk : Value} {T : List Trm} {kn : List Nat} (h : Sl w 3 vT T.length (snv T)) (hn : T.length ≤ 200) (h0 : 0 < T.length) (hw : WF T) (hk : Sl w 1 vk kn.length (nats kn)) (hkn : ∀ x ∈ kn, x < T.length) (hkl : kn.length ≤ 1000) :
    Calls Try.prog 31 #[vT, vk] w (ClosedPost w T vT kn) := by
  have HS := Lib.hid h
  have HK := Lib.hid hk
  have HW := Lib.hid hw
  have HKN := Lib.hid hkn
  obtain ⟨_, At, cT, rfl, hT1, hT2, _⟩ := h
  obtain ⟨_, Ak, ck, rfl, hK1, hK2, _⟩ := hk
  unfold maxLen at hT2 hK2
  clear hw hkn
  generalize hN : T.length = n at *
  generalize hM : kn.length = m at *
  have HN := Lib.hid (And.intro hN hM)
  clear hN hM
  go_enter Try.func31, Try.ntmps31
  go_wp2_with fail
  refine wp_scope_jumps' 0 (JJ w T (.slice At n cT) (.slice Ak m ck) kn) (fun a' w' => n - lenAt w' (sAt a')) rfl ?_ ?_
  · intro hpass
    have HP := Lib.hid hpass
    clear hpass
    go_wp2_with fail
    refine (right_calls (by rw [HN.out.1]; exact HS.out) (by rw [HN.out.1]; exact hn) HW.out).mono ?_
    rintro e w1 ⟨rfl, b1⟩
    have B1 := Lib.hid b1
    clear b1
    go_wp2_with (refine list_make ty_bools rfl (.tmp 20) rfl (n := n) (by simp [Act.eval]) (by omega) (by unfold maxLen; omega) ?_; intro w2 o2 g2)
    have M0 := Lib.hid (SMid.start (vT := .slice At n cT) HN.out.1 hn (by rw [HN.out.1]; exact HS.out) B1.out o2 g2)
    have hs2 : w2.heap.size < (w2.alloc (.cells #[.slice At n cT, .slice (some ⟨w1.heap.size, 0, none⟩) n n, .slice none 0 0] 73)).heap.size := by simp
    generalize w2.alloc (.cells #[.slice At n cT, .slice (some ⟨w1.heap.size, 0, none⟩) n n, .slice none 0 0] 73) = W at *
    generalize w2.heap.size = S at *
    clear o2 g2
    go_loopw [26] (fun i wr => ∃ k : Nat, k ≤ m ∧ i = .int .i64 (k : Int) ∧ ∃ O, SMid w wr S T (.slice At n cT) O ∧ Sound T kn O ∧ ∀ x ∈ kn.take k, x ∈ O) (fun i _ => m - (intOf i).toNat)
    case atStart => exact ⟨0, by omega, rfl, [], M0.out, fun p _ _ i hi => by simp at hi, by simp⟩
    case round =>
      obtain ⟨k, hk, rfl, O, hm, hsd, hin⟩ := hrel
      have H := Lib.hid (And.intro hm (And.intro hsd hin))
      by_cases hlt : k < m
      · have hc : decide ((k : Int) < (m : Int)) = true := by simp; omega
        have hkx : k < kn.length := by rw [HN.out.2]; exact hlt
        obtain ⟨b, o, rfl, hcl⟩ := sl_at2 HK.out (by omega)
        have x0 := hcl k (.int .i64 (kn[k] : Int)) (by simp [nats, hkx])
        have x1 := (hm.bel.cell (p := ⟨b, o + k, none⟩) (cell_lt x0)).trans x0
        have hxn := HKN.out kn[k] (List.getElem_mem hkx)
        have htk : kn.take (k + 1) = kn.take k ++ [kn[k]] := List.take_succ_eq_append_getElem hkx
        have hmem : kn[k] ∈ kn := List.getElem_mem hkx
        clear hcl x0 hm hsd hin
        generalize kn[k] = x at *
        have HT := Lib.hid (And.intro htk hmem)
        have f1 : decide ((x : Int) < 0) = false := by simp
        have f2 : decide ((n : Int) ≤ (x : Int)) = false := by simp; omega
        have f3 : decide (n ≤ x) = false := by simp; omega
        clear htk hmem
        go_wp2_with fail
        refine (tadd_calls H.out.1 x (by rw [HN.out.1]; exact hxn)).mono ?_
        rintro e w3 ⟨rfl, m3, k3⟩
        have M3 := Lib.hid m3
        clear m3 k3
        go_wp2_with fail
        go_roundw
        case rel =>
          refine ⟨k + 1, by omega, by go_num, addO O x, M3.out, found_add H.out.2.1 HT.out.2, fun y hy => ?_⟩
          rw [HT.out.1] at hy
          rcases List.mem_append.1 hy with hy | hy
          · exact (addO_pre O x).subset (H.out.2.2 y hy)
          · simp only [List.mem_singleton] at hy
            subst hy
            exact mem_addO _ _
        case measure => simp [intOf]; omega
      · obtain rfl : k = m := by omega
        have hc : decide ((k : Int) < (k : Int)) = false := by simp
        clear hm hsd hin
        have e : kn.take k = kn := by rw [List.take_of_length_le (by rw [HN.out.2]; exact Nat.le_refl _)]
        have HF : Hid (Found w wr S T (.slice At n cT) kn O) := Lib.hid ⟨H.out.1, by have := H.out.2.2; rw [e] at this; exact this, H.out.2.1⟩
        clear e
        go_wp2_with fail
        go_step3
        rename_i hK
        refine hK _ _ (HP.out _ _ ⟨S, ⟨_, HF.out⟩, ?_⟩)
        repeat (apply Exists.intro)
        rfl
  · rintro a' w0 ⟨s, ⟨O0, hf⟩, u2, u3, u4, u5, u6, u8, u9, u10, u11, u12, u13, u14, u15, u16, u17, u18, u19, u20, u21, u22, u23, u24, u25, u26, u27, u28, u29, u30, u31, u32, u33, u34, u35, u36, u37, u38, u39, u40, u41, u42, u43, u44, u45, u46, u47, u48, u49, u50, u51, u52, u53, u54, u55, u56, u57, u58, u59, u60, u61, u62, u63, u64, u65, u66, u67, u68, u69, u70, u71, u72, u73, u74, u75, u76, u77, u78, rfl⟩
    have HF := Lib.hid hf
    obtain ⟨g, c, ao, co, At', cT', e1, q1, q2, q3, q4, q5, q6, c0, c1, c2, hs, hg, hne, hin, hb, hm⟩ := hf.mid.cells (by rw [HN.out.1]; exact h0)
    have hol := hf.mid.olen
    rw [HN.out.1] at hol
    have hla := hf.mid.lenAt (by rw [HN.out.1]; exact h0)
    generalize hno : O0.length = no at *
    have HNO := Lib.hid (And.intro hno hla)
    clear hf hin hb hm e1 q1 q2 q5 q6 c0 c1 hno hla
    go_wp2_with fail
    go_loopw [49] (fun i wr => ∃ k : Nat, k ≤ n ∧ i = .int .i64 (k : Int) ∧ ∃ O, Found w wr s T (.slice At n cT) kn O ∧ O0 <+: O ∧ (O = O0 → ∀ j, j < k → OkAt T O0 j)) (fun i _ => n - (intOf i).toNat)
    case atStart => exact ⟨0, by omega, rfl, O0, HF.out, List.prefix_refl _, fun _ j hj => by omega⟩
    case round =>
      obtain ⟨k, hk, rfl, O, hf, hpre, hok⟩ := hrel
      have H := Lib.hid (And.intro hf (And.intro hpre hok))
      clear c2 hs hg hne
      by_cases hlt : k < n
      · have hc : decide ((k : Int) < (n : Int)) = true := by simp; omega
        have hkT : k < T.length := by rw [HN.out.1]; exact hlt
        obtain ⟨b, o, rfl, lb, t0, t1, t2⟩ := hf.mid.term hkT
        have hfit := wf_fits HW.out hkT
        have HFit := Lib.hid hfit
        clear hf hpre hok hfit
        generalize ht : at_ T k = t at *
        have HT := Lib.hid ht
        clear ht
        obtain ⟨x1, x2, x3⟩ := t
        go_wp2_with fail
        have hb0 := Blk.new wr 46 #[.int .i64 (x1 : Int), .int .i64 (x2 : Int), .int .i64 (x3 : Int)]
        have hB0 : Below wr.heap.size wr (wr.alloc (.cells #[.int .i64 (x1 : Int), .int .i64 (x2 : Int), .int .i64 (x3 : Int)] 46)) := (Below.refl _ _).alloc (Nat.le_refl _) _
        have M2 := Lib.hid (And.intro (H.out.1.mid.below hB0) hb0)
        clear hb0 hB0
        refine (made_calls M2.out.1 (by rw [HN.out.1]; exact h0) (x1, x2, x3) HFit.out).mono ?_
        rintro e w3 ⟨rfl, b3⟩
        have M3 := Lib.hid (And.intro (M2.out.1.below b3) (M2.out.2.below b3 M2.out.2.lt))
        clear b3 M2
        generalize hmd : made T (has O) (x1, x2, x3) = md at *
        have HMD := Lib.hid hmd
        clear hmd t0 t1 t2 lb
        cases md
        · have M4 : Hid (SMid w w3 s T (.slice (some ⟨b, o, none⟩) n cT) (stepA T O k) ∧ Blk w3 wr.heap.size 46 #[.int .i64 (x1 : Int), .int .i64 (x2 : Int), .int .i64 (x3 : Int)]) := Lib.hid ⟨by rw [stepA_no (by rw [HT.out]; exact HMD.out)]; exact M3.out.1, M3.out.2⟩
          obtain ⟨g', c', ao', co', At'', cT'', e1', q1', q2', q3', q4', q5', q6', c0', c1', c2', hs', hg', hne', hin', hb', hm'⟩ := M4.out.1.cells (by rw [HN.out.1]; exact h0)
          have z0 := (hin' k hkT).1
          have y0 := M4.out.2.cell 0
          have y1 := M4.out.2.cell 1
          have y2 := M4.out.2.cell 2
          simp only [List.getElem?_toArray, List.getElem?_cons_zero, List.getElem?_cons_succ] at y0 y1 y2
          rw [HN.out.1] at c1' q5'
          clear e1' q1' q2' q3' q4' c0' c2' hin' hb' hm'
          unfold maxLen at q6'
          generalize hbk : (stepA T O k).contains k = bk at *
          have HBK := Lib.hid hbk
          clear hbk
          cases bk
          · go_wp2_with fail
            go_roundw
            case rel => exact ⟨k + 1, by omega, by go_num, _, round_end H.out.1 H.out.2.1 H.out.2.2 hkT (by rw [stepO_no HBK.out]; exact M4.out.1)⟩
            case measure => simp [intOf]; omega
          · go_wp2_with fail
            refine (open_calls M4.out.1 (by rw [HN.out.1]; exact h0) (x1, x2, x3) HFit.out).mono ?_
            rintro e w6 ⟨rfl, m6, -⟩
            have M6 := Lib.hid m6
            clear m6
            go_wp2_with fail
            go_roundw
            case rel => exact ⟨k + 1, by omega, by go_num, _, round_end H.out.1 H.out.2.1 H.out.2.2 hkT (by rw [stepO_yes HBK.out, HT.out]; exact M6.out)⟩
            case measure => simp [intOf]; omega
        · go_wp2_with fail
          refine (tadd_calls M3.out.1 k hkT).mono ?_
          rintro e w4 ⟨rfl, m4, k4⟩
          have M4 : Hid (SMid w w4 s T (.slice (some ⟨b, o, none⟩) n cT) (stepA T O k) ∧ Blk w4 wr.heap.size 46 #[.int .i64 (x1 : Int), .int .i64 (x2 : Int), .int .i64 (x3 : Int)]) := Lib.hid ⟨by rw [stepA_yes (by rw [HT.out]; exact HMD.out)]; exact m4, k4 _ _ M3.out.2⟩
          clear m4 k4
          obtain ⟨g', c', ao', co', At'', cT'', e1', q1', q2', q3', q4', q5', q6', c0', c1', c2', hs', hg', hne', hin', hb', hm'⟩ := M4.out.1.cells (by rw [HN.out.1]; exact h0)
          have z0 := (hin' k hkT).1
          have y0 := M4.out.2.cell 0
          have y1 := M4.out.2.cell 1
          have y2 := M4.out.2.cell 2
          simp only [List.getElem?_toArray, List.getElem?_cons_zero, List.getElem?_cons_succ] at y0 y1 y2
          rw [HN.out.1] at c1' q5'
          clear e1' q1' q2' q3' q4' c0' c2' hin' hb' hm'
          unfold maxLen at q6'
          generalize hbk : (stepA T O k).contains k = bk at *
          have HBK := Lib.hid hbk
          clear hbk
          cases bk
          · go_wp2_with fail
            go_roundw
            case rel => exact ⟨k + 1, by omega, by go_num, _, round_end H.out.1 H.out.2.1 H.out.2.2 hkT (by rw [stepO_no HBK.out]; exact M4.out.1)⟩
            case measure => simp [intOf]; omega
          · go_wp2_with fail
            refine (open_calls M4.out.1 (by rw [HN.out.1]; exact h0) (x1, x2, x3) HFit.out).mono ?_
            rintro e w6 ⟨rfl, m6, -⟩
            have M6 := Lib.hid m6
            clear m6
            go_wp2_with fail
            go_roundw
            case rel => exact ⟨k + 1, by omega, by go_num, _, round_end H.out.1 H.out.2.1 H.out.2.2 hkT (by rw [stepO_yes HBK.out, HT.out]; exact M6.out)⟩
            case measure => simp [intOf]; omega
      · obtain rfl : k = n := by omega
        have hc : decide ((k : Int) < (k : Int)) = false := by simp
        have hol' := hf.mid.olen
        rw [HN.out.1] at hol'
        have hla' := hf.mid.lenAt (by rw [HN.out.1]; exact h0)
        obtain ⟨g', c', ao', co', At'', cT'', e1', q1', q2', q3', q4', q5', q6', c0', c1', c2', hs', hg', hne', hin', hb', hm'⟩ := hf.mid.cells (by rw [HN.out.1]; exact h0)
        have hple := hpre.length_le
        generalize hno' : O.length = no' at *
        have HN2 := Lib.hid (And.intro hno' hla')
        clear hf hpre hok e1' q1' q2' q5' q6' c0' c1' hin' hb' hm' hno' hla'
        by_cases hgt : no < no'
        · have hd : decide ((no : Int) < (no' : Int)) = true := by simp; omega
          have hd2 : decide (no < no') = true := by simp; omega
          go_wp2_with fail
          go_step3
          refine ⟨rfl, ⟨s, ⟨O, H.out.1⟩, ?_⟩, ?_⟩
          · repeat (apply Exists.intro)
            rfl
          · show k - lenAt wr s < k - lenAt w0 s
            rw [HN2.out.2, HNO.out.2]
            omega
        · have hd : decide ((no : Int) < (no' : Int)) = false := by simp; omega
          have hd2 : decide (no < no') = false := by simp; omega
          go_wp2_with fail
          simp only [Exit.jump]
          go_ret2
          have e : O = O0 := (List.IsPrefix.eq_of_length H.out.2.1 (by have g1 := HN2.out.1; have g2 := HNO.out.1; have g3 := H.out.2.1.length_le; omega)).symm
          refine ⟨s, O, rfl, H.out.1, ?_⟩
          have hk2 := H.out.2.2 e
          rw [e]
          exact ok_cl (fun j hj => hk2 j (by rw [HN.out.1] at hj; exact hj))
end Go.Proofs.Ytfflidaodnhpbaa.Led
