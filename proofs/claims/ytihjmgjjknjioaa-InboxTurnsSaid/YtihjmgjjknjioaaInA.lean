/- Slices of bytes: Clone, Equal, Same. -/
import Derived.Test.YtihjmgjjknjioaaProg
import Derived.Test.YtihjmgjjknjioaaMaps
import Derived.Test.YtihjmgjjknjioaaOwns
import Derived.Test.YtihjmgjjknjioaaDraw
import Derived.Test.YtihjmgjjknjioaaShelf
import Derived.Handy
import Derived.Deep.QuietTactic
import Derived.BigQuiet
import Derived.LoopTactic
import Derived.Deep.LoopGhost
import Derived.Deep.DeepCutAuto
import Derived.Deep.RegionHeld3
import Derived.StillTailTactics
import Derived.Outline
import Derived.WalkSpells
namespace Go.Proofs.Ytihjmgjjknjioaa.In
open Go Go.RowKit Go.Proofs.Ytihjmgjjknjioaa.Base Go.Proofs.Ytihjmgjjknjioaa.Draw
set_option linter.unusedVariables false
set_option linter.unusedSimpArgs false

def u8s (l : List Nat) : List Value := l.map fun n : Nat => .int .u8 (n : Int)
def Small (l : List Nat) : Prop := l.length ≤ 140737488351232 ∧ ∀ x ∈ l, x < 256
/-- A slice of bytes that reads as a list; it lies outside of F. -/
structure Rd (w : World) (F : Nat → Prop) (v : Value) (bs : List Nat) : Prop where
  sl : Sl w 1 v bs.length (u8s bs)
  out : ∀ b o c, v = .slice (some ⟨b, o, none⟩) bs.length c → 0 < bs.length → ¬ F b
  small : Small bs
theorem u8s_length (l : List Nat) : (u8s l).length = l.length := by simp [u8s]
theorem u8s_one (l : List Nat) : ∀ u ∈ u8s l, u.oneCell' = true := by intro u hu; obtain ⟨n, _, rfl⟩ := List.mem_map.1 hu; rfl
theorem Rd.chg {w w' : World} {F : Nat → Prop} {v : Value} {bs : List Nat} (h : Rd w F v bs) (hc : Chg F w w') : Rd w' F v bs := ⟨h.sl.chg hc h.out, h.out, h.small⟩
theorem Rd.below {w w' : World} {F : Nat → Prop} {v : Value} {bs : List Nat} (h : Rd w F v bs) (hb : Below w.heap.size w w') : Rd w' F v bs := ⟨h.sl.below hb, h.out, h.small⟩
theorem Rd.drewN {w : World} {F : Nat → Prop} {v : Value} {bs : List Nat} (h : Rd w F v bs) (k : Nat) : Rd (w.drewN k) F v bs := ⟨h.sl.drewN k, h.out, h.small⟩
theorem Rd.lit {w : World} {F : Nat → Prop} {v : Value} {bs : List Nat} (h : Rd w F v bs) : ∃ A c, v = .slice A bs.length c ∧ bs.length ≤ c ∧ c ≤ maxLen := by
  obtain ⟨_, A, c, h1, h2, h3, _⟩ := h.sl
  exact ⟨A, c, h1, h2, h3⟩
theorem Rd.lt {w : World} {F : Nat → Prop} {bs : List Nat} {b o c : Nat} (h : Rd w F (.slice (some ⟨b, o, none⟩) bs.length c) bs) (h0 : 0 < bs.length) : b < w.heap.size := by
  obtain ⟨_, A, c', h1, _, _, h4⟩ := h.sl
  obtain ⟨b', o', e, hc⟩ := h4 h0
  injection h1 with h1
  rw [← h1] at e
  injection e with e
  injection e with e1 e2
  subst e1
  have : (u8s bs)[0]? = some (u8s bs)[0] := by rw [List.getElem?_eq_getElem]
  have h0' : 0 < (u8s bs).length := by rw [u8s_length]; exact h0
  exact cell_lt (hc 0 _ (List.getElem?_eq_getElem h0'))
/-- Another footprint, that has nothing but new blocks more. -/
theorem Rd.foot {w w' : World} {F G : Nat → Prop} {v : Value} {bs : List Nat} (h : Rd w F v bs) (h' : Rd w' F v bs) (hG : ∀ k, G k → F k ∨ w.heap.size ≤ k) : Rd w' G v bs :=
  ⟨h'.sl, fun b o c e h0 g => by
    rcases hG b g with f | f
    · exact h.out b o c e h0 f
    · have hl := Rd.lt (b := b) (o := o) (c := c) (by rw [← e]; exact h) h0
      omega, h.small⟩

theorem ty_bytes : SlTy Try.prog 32 5 (.int .u8 0) 1 1 := ⟨Try.underlying32, by kernel_rfl, rfl, by decide⟩

set_option maxHeartbeats 1000000 in
theorem clone_calls {w : World} {F : Nat → Prop} {v : Value} {bs : List Nat} (h : Rd w F v bs) (hF : ∀ k, F k → k < w.heap.size) :
    Calls Try.prog 23 #[v] w fun e w' => ∃ v', e = .returned v' ∧ Rd w' F v' bs ∧ Below w.heap.size w w' := by
  have HR := Lib.hid h
  obtain ⟨A, c, rfl, hl, hm⟩ := h.lit
  have hs := h.small.1
  have hm' := hm
  unfold maxLen at hm'
  clear h hm
  cases A with
  | none =>
    have h0 : bs.length = 0 := by
      obtain ⟨_, A', c', h1, _, _, h4⟩ := HR.out.sl
      rcases Nat.eq_zero_or_pos bs.length with g | g
      · exact g
      · obtain ⟨b, o, e, _⟩ := h4 g
        injection h1 with h1
        rw [← h1] at e
        cases e
    have q := fun w => Lib.run_eql_slice_nil (P := Try.prog) w 32 5 none bs.length c 0 0 Try.underlying32
    have hb : bs = [] := List.eq_nil_of_length_eq_zero h0
    have HB := Lib.hid hb
    clear h0 hb
    generalize bs.length = n at *
    go_enter Try.func23, Try.ntmps23
    go_wp2_with fail
    go_ret
    refine ⟨_, rfl, ?_, Below.refl _ _⟩
    rw [HB.out]
    exact ⟨⟨rfl, none, 0, rfl, Nat.le_refl _, Nat.zero_le _, fun h => absurd h (by simp)⟩, fun _ _ _ _ h => absurd h (by simp), by unfold Small; simp⟩
  | some ad =>
    have q := fun w => Lib.run_eql_slice_nil (P := Try.prog) w 32 5 (some ad) bs.length c 0 0 Try.underlying32
    have ho0 : (w.alloc (.cells #[] 5)).ownsRow w.heap.size 5 1 (.slice (some ⟨w.heap.size, 0, none⟩) 0 0) 0 [] := World.ownsRow_lit w #[] 0 (by simp) (by decide) rfl
    have HO := Lib.hid ho0
    have HS := Lib.hid ((HR.out.sl).below (w' := w.alloc (.cells #[] 5)) ((Below.refl _ _).alloc (Nat.le_refl _) _))
    clear ho0
    generalize hn : bs.length = n at *
    have HN := Lib.hid hn
    clear hn
    go_enter Try.func23, Try.ntmps23
    go_wp2_with (refine list_app_sl ty_bytes rfl (.tmp 5) (.tmp 6) rfl (by simp [Act.eval]; rfl) (by exact HO.out) (by simp [Act.eval]; rfl) (by exact HS.out) (u8s_one bs) (by unfold maxLen; omega) (by omega) (by simp) ?_; intro v1 w1 hown1 hgr1 hv1)
    go_ret
    refine ⟨v1, rfl, ?_, ?_⟩
    · have hn := HN.out
      subst hn
      have hs1 : Sl w1 1 v1 bs.length (u8s bs) := by have := Sl.of_own hown1; simpa using this
      refine ⟨hs1, fun b o c' e h0 f => ?_, HR.out.small⟩
      subst e
      have h1 := hF b f
      have hle : w.heap.size ≤ b := by
        have := own_low hown1 b
        refine this ?_
        have h2 := hown1.2
        rcases h2 with ⟨e2, _⟩ | ⟨g, cap, cur, e2, hg, _⟩
        · injection e2 with e2; cases e2
        · injection e2 with e2 e3 e4
          injection e2 with e2
          injection e2 with e2 e5
          subst e5
          simp [Value.ownBlock]
      omega
    · refine below_app (o := .cells #[] 5) (Below.refl _ _) (Nat.le_refl _) hgr1 (fun k hk => ?_)
      simp only [Value.ownBlock] at hk
      injection hk with hk
      omega

set_option maxRecDepth 100000 in
set_option maxHeartbeats 1000000 in
/-- Same: are two slices alike, byte by byte? -/
theorem same_calls {w : World} {F F' : Nat → Prop} {v v' : Value} {xs ys : List Nat} (h : Rd w F v xs) (h' : Rd w F' v' ys) :
    Calls Try.prog 9 #[v, v'] w fun e w' => e = .returned (.bool (decide (xs = ys))) ∧ ∃ q, w' = w.drewN q := by
  have HX := Lib.hid h
  have HY := Lib.hid h'
  obtain ⟨A, c, rfl, hl, hm⟩ := h.lit
  obtain ⟨A', c', rfl, hl', hm'⟩ := h'.lit
  have g1 := hm
  have g2 := hm'
  unfold maxLen at g1 g2
  clear h h' hm hm'
  by_cases hne : xs.length = ys.length
  · have HN := Lib.hid hne
    have hc : ((xs.length : Int) != (ys.length : Int)) = false := by simp; omega
    rw [hne] at hc hl ⊢
    generalize hn : ys.length = n at *
    have HM := Lib.hid hn
    clear hn hne
    go_enter Try.func9, Try.ntmps9
    go_wp2_with fail
    go_loopw [5] (fun i wr => ∃ k q : Nat, k ≤ n ∧ i = .int .i64 k ∧ wr = w.drewN q ∧ xs.take k = ys.take k) (fun i _ => n - (intOf i).toNat)
    case atStart => exact ⟨0, 0, by omega, rfl, rfl, by simp⟩
    case round =>
      obtain ⟨k, q, hk, rfl, hw, hp⟩ := hrel
      have HP := Lib.hid (And.intro hw hp)
      have hcl : ∀ p, wr.cell? p = w.cell? p := fun p => by rw [hw]; rfl
      clear hw hp
      by_cases hlt : k < n
      · have hd : decide ((k : Int) < (n : Int)) = true := by simp; omega
        have kx : k < xs.length := by rw [HN.out]; exact hlt
        have ky : k < ys.length := by rw [HM.out]; exact hlt
        obtain ⟨b, o, rfl, hcx⟩ := sl_at (n := n) (by have := HX.out.sl; rw [HN.out] at this; exact this) (by omega)
        obtain ⟨b', o', rfl, hcy⟩ := sl_at (n := n) (by have := HY.out.sl; rw [HM.out] at this; exact this) (by omega)
        have c1 : wr.cell? ⟨b, o + k, none⟩ = some (.int .u8 (xs[k] : Int)) := (hcl _).trans (hcx k _ (by simp [u8s, kx]))
        have c2 : wr.cell? ⟨b', o' + k, none⟩ = some (.int .u8 (ys[k] : Int)) := (hcl _).trans (hcy k _ (by simp [u8s, ky]))
        have tx : xs.take (k + 1) = xs.take k ++ [xs[k]] := List.take_succ_eq_append_getElem kx
        have ty : ys.take (k + 1) = ys.take k ++ [ys[k]] := List.take_succ_eq_append_getElem ky
        clear hcx hcy hcl
        by_cases e : xs[k] = ys[k]
        · have HT := Lib.hid (show xs.take (k + 1) = ys.take (k + 1) by rw [tx, ty, HP.out.2, e])
          rw [e] at c1
          clear tx ty e
          generalize ys[k] = y at *
          have hx : ((y : Int) != (y : Int)) = false := by simp
          go_wp2_with fail
          go_quiet (fail)
          go_wp2_with fail
          go_roundw
          case rel => exact ⟨k + 1, _, by omega, by go_num, by rw [HP.out.1, World.drewN_drewN], HT.out⟩
          case measure => simp [intOf]; omega
        · have HT : Hid (decide (xs = ys) = false) := Lib.hid (by simp; intro h; subst h; exact e rfl)
          clear tx ty
          generalize xs[k] = x at *
          generalize ys[k] = y at *
          have hx : ((x : Int) != (y : Int)) = true := by simp; omega
          clear e
          go_wp2_with fail
          go_quiet (fail)
          go_wp2_with fail
          go_ret
          exact ⟨by rw [HT.out]; rfl, _, by rw [HP.out.1, World.drewN_drewN]⟩
      · obtain rfl : k = n := by omega
        have hd : decide ((k : Int) < (k : Int)) = false := by simp
        have HT : Hid (decide (xs = ys) = true) := Lib.hid (by
          have h1 := HP.out.2
          rw [List.take_of_length_le (by rw [HN.out]; exact Nat.le_refl _), List.take_of_length_le (by rw [HM.out]; exact Nat.le_refl _)] at h1
          simp [h1])
        clear hcl
        go_wp2_with fail
        go_ret
        exact ⟨by rw [HT.out]; rfl, _, HP.out.1⟩
  · have HT : Hid (decide (xs = ys) = false) := Lib.hid (by simp; intro h; exact hne (by rw [h]))
    have hc : ((xs.length : Int) != (ys.length : Int)) = true := by simp; omega
    generalize xs.length = n at *
    generalize ys.length = m at *
    clear hne
    go_enter Try.func9, Try.ntmps9
    go_wp2_with fail
    go_ret
    exact ⟨by rw [HT.out]; rfl, 0, rfl⟩

theorem bytesIn {w : World} {F : Nat → Prop} {A : Option Addr} {c : Nat} {bs : List Nat} (h : Rd w F (.slice A bs.length c) bs) : Lib.BytesIn w A bs.length (bs.map fun n : Nat => (n : Int)) := by
  intro hn
  obtain ⟨b, o, e, hc⟩ := sl_at h.sl hn
  exact ⟨b, o, e, fun i hi => by simpa [hi] using hc i (.int .u8 (bs[i] : Int)) (by simp [u8s, hi])⟩
theorem bytesOf_eq {xs ys : List Nat} (hx : ∀ x ∈ xs, x < 256) (hy : ∀ x ∈ ys, x < 256) : (Lib.bytesOf (xs.map fun n : Nat => (n : Int)) == Lib.bytesOf (ys.map fun n : Nat => (n : Int))) = decide (xs = ys) := by
  have e : ∀ l : List Nat, Lib.bytesOf (l.map fun n : Nat => (n : Int)) = l.map UInt8.ofNat := fun l => by simp [Lib.bytesOf]
  rw [e, e, Bool.eq_iff_iff]
  simp only [beq_iff_eq, decide_eq_true_eq]
  constructor
  · intro h
    have h2 := congrArg (List.map UInt8.toNat) h
    rw [List.map_map, List.map_map] at h2
    have f : ∀ l : List Nat, (∀ x ∈ l, x < 256) → l.map (UInt8.toNat ∘ UInt8.ofNat) = l := fun l hl => by
      conv => rhs; rw [← List.map_id l]
      apply List.map_congr_left
      intro x hx
      have := hl x hx
      simp [Function.comp]
      omega
    rw [f xs hx, f ys hy] at h2
    exact h2
  · intro h; rw [h]
theorem equal_calls {w : World} {F F' : Nat → Prop} {v v' : Value} {xs ys : List Nat} (h : Rd w F v xs) (h' : Rd w F' v' ys) :
    Calls Try.prog 22 #[v, v'] w fun e w' => e = .returned (.bool (decide (xs = ys))) ∧ w = w' := by
  obtain ⟨A, c, rfl, hl, hm⟩ := h.lit
  obtain ⟨A', c', rfl, hl', hm'⟩ := h'.lit
  have := Try.bytes_Equal_all A A' xs.length c ys.length c' (xs.map fun n : Nat => (n : Int)) (ys.map fun n : Nat => (n : Int)) w (by simp) (by simp) (bytesIn h) (bytesIn h')
  rw [bytesOf_eq h.small.2 h'.small.2] at this
  exact this.mono fun _ _ ⟨a, b⟩ => ⟨a, b.symm⟩
end Go.Proofs.Ytihjmgjjknjioaa.In
