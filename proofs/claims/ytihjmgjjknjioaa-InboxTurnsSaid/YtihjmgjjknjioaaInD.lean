/- Walk: Turn. -/
import Derived.Test.YtihjmgjjknjioaaInC
namespace Go.Proofs.Ytihjmgjjknjioaa.In
open Go Go.RowKit Go.Proofs.Ytihjmgjjknjioaa.Base Go.Proofs.Ytihjmgjjknjioaa.Draw
set_option linter.unusedVariables false
set_option linter.unusedSimpArgs false

def turnH (h : HL) (nx : Nat) : HL := h.filter (fun y => decide (nx < y.1))
def kept (l : List MEnt) (seen : List Nat) (nx : Nat) : List MEnt := l.filter (fun x => !(seen.contains x.2.2 && decide (x.1 < nx)))
structure TurnMid (w wr : World) (B r : Nat) (l : List MEnt) (clock nx : Nat) (seen : List Nat) : Prop where
  at_ : RangeAt wr B r (kept l seen nx) clock clock seen
  chg : Chg (fun k => k = B) w wr
  new : w.heap.size ≤ r

theorem born_inj {l : List MEnt} (h : (l.map (·.2.2)).Nodup) {x y : MEnt} (hx : x ∈ l) (hy : y ∈ l) (e : x.2.2 = y.2.2) : x = y := by
  induction l with
  | nil => cases hx
  | cons a l ih =>
    rw [List.map_cons, List.nodup_cons] at h
    rcases List.mem_cons.1 hx with rfl | hx' <;> rcases List.mem_cons.1 hy with rfl | hy'
    · rfl
    · exact absurd (List.mem_map.2 ⟨y, hy', e.symm⟩) h.1
    · exact absurd (List.mem_map.2 ⟨x, hx', e⟩) h.1
    · exact ih h.2 hx' hy'
theorem key_inj {l : List MEnt} (h : (l.map (·.1)).Nodup) {x y : MEnt} (hx : x ∈ l) (hy : y ∈ l) (e : x.1 = y.1) : x = y := by
  induction l with
  | nil => cases hx
  | cons a l ih =>
    rw [List.map_cons, List.nodup_cons] at h
    rcases List.mem_cons.1 hx with rfl | hx' <;> rcases List.mem_cons.1 hy with rfl | hy'
    · rfl
    · exact absurd (List.mem_map.2 ⟨y, hy', e.symm⟩) h.1
    · exact absurd (List.mem_map.2 ⟨x, hx', e⟩) h.1
    · exact ih h.2 hx' hy'
theorem kept_mem {l : List MEnt} {seen : List Nat} {nx : Nat} {x : MEnt} (h : x ∈ kept l seen nx) : x ∈ l := (List.mem_filter.1 h).1
theorem kept_stay {l : List MEnt} (hb : (l.map (·.2.2)).Nodup) {seen : List Nat} {nx : Nat} {x : MEnt} (hx : x ∈ l) (hn : ¬ x.1 < nx) : kept l (seen ++ [x.2.2]) nx = kept l seen nx := by
  unfold kept
  apply List.filter_congr
  intro y hy
  by_cases e : y.2.2 = x.2.2
  · have := born_inj hb hy hx e
    subst this
    simp [hn]
  · have h1 : (seen ++ [x.2.2]).contains y.2.2 = seen.contains y.2.2 := by
      rw [Bool.eq_iff_iff]
      simp [e]
    rw [h1]
theorem kept_del {l : List MEnt} (hb : (l.map (·.2.2)).Nodup) (hk : (l.map (·.1)).Nodup) {seen : List Nat} {nx : Nat} {x : MEnt} (hx : x ∈ l) (hn : x.1 < nx) : kept l (seen ++ [x.2.2]) nx = delL (kept l seen nx) x.1 := by
  unfold kept delL
  rw [List.filter_filter]
  apply List.filter_congr
  intro y hy
  by_cases e : y.2.2 = x.2.2
  · have := born_inj hb hy hx e
    subst this
    simp [hn]
  · have h2 : y.1 ≠ x.1 := fun g => e (by rw [key_inj hk hy hx g])
    have h1 : (seen ++ [x.2.2]).contains y.2.2 = seen.contains y.2.2 := by
      rw [Bool.eq_iff_iff]
      simp [e]
    rw [h1]
    have h3 : (y.1 != x.1) = true := by simpa using h2
    rw [h3, Bool.true_and]
theorem kept_end {l : List MEnt} {seen : List Nat} {nx : Nat} (h : left_ (kept l seen nx) seen = []) : kept l seen nx = l.filter (fun x => decide (nx ≤ x.1)) := by
  unfold kept left_ at *
  apply List.filter_congr
  intro y hy
  rw [List.filter_eq_nil_iff] at h
  by_cases hl : y.1 < nx
  · have hs : seen.contains y.2.2 = true := by
      by_cases hs : seen.contains y.2.2 = true
      · exact hs
      · exfalso
        have hs' : seen.contains y.2.2 = false := by simpa using hs
        have := h y (List.mem_filter.2 ⟨hy, by simp only [hs', Bool.false_and, Bool.not_false]⟩)
        rw [hs'] at this
        simp at this
    rw [hs]
    simp [hl]
  · have h1 : decide (y.1 < nx) = false := by simpa using hl
    have h2 : decide (nx ≤ y.1) = true := by simp; omega
    rw [h1, h2]
    simp
theorem look_filter (l : List MEnt) (nx : Nat) : lookL (l.filter (fun x => decide (nx ≤ x.1))) nx = lookL l nx := by
  unfold lookL
  rw [List.find?_filter]
  congr 2
  funext x
  by_cases e : x.1 = nx
  · simp [e]
  · have : (x.1 == nx) = false := by simpa using e
    simp [this]
theorem del_filter (l : List MEnt) (nx : Nat) : delL (l.filter (fun x => decide (nx ≤ x.1))) nx = l.filter (fun x => decide (nx < x.1)) := by
  unfold delL
  rw [List.filter_filter]
  apply List.filter_congr
  intro x _
  rw [Bool.eq_iff_iff]
  simp only [Bool.and_eq_true, bne_iff_ne, decide_eq_true_eq]
  omega

/-- How many are still to come. -/
theorem rangeLeft_at {w : World} {B r : Nat} {l : List MEnt} {clock since : Nat} {seen : List Nat} (h : RangeAt w B r l clock since seen) : w.rangeLeft B r = (left_ l seen).length := by
  obtain ⟨c0, hit, _⟩ := h.it
  unfold World.rangeLeft
  rw [h.map.heap, hit]
  have el : (leftOf (l.map ent).toArray seen.toArray).toList = (left_ l seen).map ent := by
    unfold leftOf left_
    rw [Array.toList_filter]
    simp only [List.filter_map]
    congr 1
    apply List.filter_congr
    intro x hx
    simp only [Function.comp, ent, List.contains_toArray, Array.contains_toList, Bool.not_eq_true']
  have := congrArg List.length el
  simpa using this
theorem left_lt {l l' : List MEnt} {seen : List Nat} {x : MEnt} (hx : x ∈ l) (hs : x.2.2 ∉ seen) (hsub : ∀ y ∈ l', y ∈ l) (hn : (l'.map (·.2.2)).Nodup) (hn' : (l.map (·.2.2)).Nodup) (hl : l'.length ≤ l.length) (hf : l' = l ∨ ∃ p : MEnt → Bool, l' = l.filter p) : (left_ l' (seen ++ [x.2.2])).length < (left_ l seen).length := by
  have h1 : left_ l' (seen ++ [x.2.2]) = (left_ l' seen).filter (fun y => y.2.2 != x.2.2) := by
    unfold left_
    rw [List.filter_filter]
    apply List.filter_congr
    intro y _
    rw [Bool.eq_iff_iff]
    simp
    constructor
    · rintro ⟨a, b⟩; exact ⟨b, a⟩
    · rintro ⟨a, b⟩; exact ⟨b, a⟩
  have h2 : (left_ l' (seen ++ [x.2.2])).length ≤ ((left_ l seen).filter (fun y => y.2.2 != x.2.2)).length := by
    rw [h1]
    rcases hf with rfl | ⟨p, rfl⟩
    · exact Nat.le_refl _
    · unfold left_
      rw [List.filter_filter, List.filter_filter, List.filter_filter]
      have : (l.filter fun a => (a.2.2 != x.2.2 && !seen.contains a.2.2) && p a) = ((l.filter fun a => a.2.2 != x.2.2 && !seen.contains a.2.2)).filter p := by
        rw [List.filter_filter]
        apply List.filter_congr
        intro y _
        rw [Bool.and_comm]
      first
        | exact (this ▸ List.length_filter_le _ _)
        | (refine Nat.le_trans (Nat.le_of_eq ?_) (List.length_filter_le p _)
           rw [List.filter_filter]
           congr 1
           apply List.filter_congr
           intro y _
           rw [Bool.eq_iff_iff]
           simp only [Bool.and_eq_true]
           constructor
           · rintro ⟨a, b, c⟩; exact ⟨c, a, b⟩
           · rintro ⟨a, b, c⟩; exact ⟨b, c, a⟩)
  have h3 : x ∈ left_ l seen := List.mem_filter.2 ⟨hx, by simpa using hs⟩
  have h4 : ((left_ l seen).filter (fun y => y.2.2 != x.2.2)).length < (left_ l seen).length := by
    rw [List.length_filter_lt_length_iff_exists]
    exact ⟨x, h3, by simp⟩
  omega

def TurnPost (w : World) (g : Nat) (F : Nat → Prop) (mv uv : Value) (h : HL) (u : List (List Nat)) (nx : Nat) (e : Ending) (w' : World) : Prop :=
  ∃ v, e = .returned (.tuple #[v, .bool (lookH h nx).isSome]) ∧ BRep w' g F mv uv (turnH h nx) u ∧ Rd w' F v ((lookH h nx).getD []) ∧ Chg F w w'
theorem rd_nil (w : World) (F : Nat → Prop) : Rd w F (.slice none 0 0) [] :=
  ⟨⟨rfl, none, 0, rfl, Nat.le_refl _, Nat.zero_le _, fun h => absurd h (by simp)⟩, fun _ _ _ _ h => absurd h (by simp), by unfold Small; simp⟩
/-- Behind stores that turned nothing but the map's block. -/
theorem turn_close {w w' : World} {g B : Nat} {F : Nat → Prop} {uv : Value} {h : HL} {u : List (List Nat)} {l : List MEnt} {clock clock' nx : Nat}
    (hr : BRep w g F (.map (some B)) uv h u) (hm : MapAt w B l clock) (ha : All2 (HEnt w F) l h) (fB : F B) (hc : Chg (fun k => k = B) w w')
    (m4 : MapAt w' B (l.filter (fun x => decide (nx < x.1))) clock') :
    BRep w' g F (.map (some B)) uv (turnH h nx) u := by
  have cF : Chg F w w' := hc.mono (fun k hk => by rw [hk]; exact fB)
  have hg : g ≠ B := blk_ne_map hr.blk hm.heap
  refine ⟨hr.blk.chg hc hg, .inr ⟨B, _, _, rfl, fB, m4, All2.filter (fun a b hab => by rw [hab.1]) (ha.imp (fun a b hab => ⟨hab.1, hab.2.1, hab.2.2.chg cF⟩))⟩, ?_, hr.foot, fun k hk => Nat.lt_of_lt_of_le (hr.low k hk) cF.size⟩
  obtain ⟨A, c, vs, e, h1, h2, h3, h4, h5⟩ := hr.un
  refine ⟨A, c, vs, e, h1, h2, h3.imp (fun v y r => r.chg cF), h4, fun ad ha' => ?_⟩
  obtain ⟨b, o', e2, fb, hcl, cs, hh, hs⟩ := h5 ad ha'
  have hblk := hc.block b (lt_of_block hh) (blk_ne_map hh hm.heap)
  exact ⟨b, o', e2, fb, fun j v hv => (World.cell?_of_block hblk).trans (hcl j v hv), cs, hblk.trans hh, hs⟩

set_option maxRecDepth 100000 in
set_option maxHeartbeats 2000000 in
theorem turn_calls {w : World} {g : Nat} {F : Nat → Prop} {mv uv : Value} {h : HL} {u : List (List Nat)} (hr : BRep w g F mv uv h u) (nx : Nat) (hn : nx < 4294967296) :
    Calls Try.prog 8 #[.pointer (some ⟨g, 0, none⟩), .int .u32 (nx : Int)] w (TurnPost w g F mv uv h u nx) := by
  have HR := Lib.hid hr
  have y0 := hr.blk.cell 0
  have hgl := hr.blk.lt
  simp only [List.getElem?_toArray, List.getElem?_cons_zero, List.getElem?_cons_succ] at y0
  rcases hr.held with ⟨rfl, rfl⟩ | ⟨B, l, clock, rfl, fB, hm, ha⟩
  · have q1 := run_range_nil ty_map w
    have q2 := run_next_nil (P := Try.prog) (w.alloc (.mapIter none 0 #[] 0)) w.heap.size 0 (by simpa using heap_alloc_new w _)
    have q3 := run_look_nil ty_map (w.alloc (.mapIter none 0 #[] 0)) nx
    have q4 := run_del_nil ty_map (w.alloc (.mapIter none 0 #[] 0)) nx 0
    clear hr
    go_enter Try.func8, Try.ntmps8
    go_wp2_with fail
    go_loopw [14] (fun v wr => wr = w.alloc (.mapIter none 0 #[] 0)) (fun _ _ => 0)
    case atStart => rfl
    case round =>
      obtain rfl := hrel
      go_wp2_with fail
      go_ret2
      exact ⟨_, rfl, HR.out.below ((Below.refl _ _).alloc (Nat.le_refl _) _), rd_nil _ _, (Chg.refl _ _).alloc _⟩
  · obtain ⟨q1, hra⟩ := run_range ty_map hm
    have HM := Lib.hid (And.intro hm (And.intro ha fB))
    have T0 : Hid (TurnMid w (w.alloc (.mapIter (some B) clock #[] clock)) B w.heap.size l clock nx []) := Lib.hid ⟨by
      have e : kept l [] nx = l := by unfold kept; rw [List.filter_eq_self]; intro x _; simp
      rw [e]; exact hra, (Chg.refl _ _).alloc _, Nat.le_refl _⟩
    have hgB : g ≠ B := blk_ne_map hr.blk hm.heap
    have LK : Hid ((lookL l nx).isSome = (lookH h nx).isSome ∧ Rd w F ((lookL l nx).getD (.slice none 0 0)) ((lookH h nx).getD [])) := Lib.hid (by
      rcases look_rel nx ha with ⟨e1, e2⟩ | ⟨v0, bs0, e1, e2, r0⟩
      · rw [e1, e2]; exact ⟨rfl, rd_nil _ _⟩
      · rw [e1, e2]; exact ⟨rfl, r0⟩)
    clear hr hm ha hra
    generalize hr0 : w.heap.size = r0 at *
    have HR0 := Lib.hid hr0
    clear hr0
    go_enter Try.func8, Try.ntmps8
    go_wp2_with fail
    clear q1
    go_loopw [14] (fun v wr => ∃ seen, TurnMid w wr B r0 l clock nx seen) (fun _ wr => wr.rangeLeft B r0)
    case atStart => exact ⟨[], T0.out⟩
    case round =>
      obtain ⟨seen, hT⟩ := hrel
      have HT := Lib.hid hT
      have hml := rangeLeft_at hT.at_
      rcases run_next_ (P := Try.prog) hT.at_ 0 with ⟨hl, q2⟩ | ⟨x, o, w1, hx, hs, hw1, q2, hR1, q3⟩
      · have hk := kept_end hl
        have M5 := Lib.hid hT.at_.map
        have y5 := (hT.chg.cell (p := ⟨g, 0, none⟩) y0 (fun e => hgB e))
        have C5 := Lib.hid hT.chg
        rw [hk] at M5
        have q5 := run_look ty_map M5.out nx
        rw [look_filter] at q5
        obtain ⟨o6, q6, m6⟩ := run_del ty_map M5.out nx 0
        rw [del_filter] at m6
        have M6 := Lib.hid m6
        clear hT hl hk hml m6 HT M5
        go_wp2_with fail
        go_ret2
        have cc := C5.out.setBlock (b := B) (.inl rfl) o6
        exact ⟨_, by rw [← LK.out.1]; rfl, turn_close HR.out HM.out.1 HM.out.2.1 HM.out.2.2 cc M6.out, LK.out.2.chg (cc.mono (fun k hk => by rw [hk]; exact HM.out.2.2)), cc.mono (fun k hk => by rw [hk]; exact HM.out.2.2)⟩
      · have hc1 : Chg (fun k => k = B) w w1 := by
          rcases hw1 with rfl | rfl
          · exact hT.chg
          · exact hT.chg.drew
        have hcW : Chg (fun k => k = B) w (ChangeMaps.setBlock w1 r0 o) := hc1.setBlock (.inr hT.new) o
        have hxl := kept_mem hx
        clear hw1 hc1
        generalize ChangeMaps.setBlock w1 r0 o = W1 at *
        have y1 := hcW.cell (p := ⟨g, 0, none⟩) y0 (fun e => hgB e)
        have C1 := Lib.hid hcW
        have R1 := Lib.hid (And.intro hR1 (And.intro hx (And.intro hs hxl)))
        obtain ⟨o6, q6, m6⟩ := run_del ty_map hR1.map x.1 0
        have M6 := Lib.hid m6
        have hx32 : x.1 < 4294967296 := by
          obtain ⟨y, _, hy⟩ := HM.out.2.1.mem hxl
          rw [hy.1]; exact hy.2.1
        have HML := Lib.hid hml
        clear hT hR1 hx hs hcW m6 hml
        by_cases hlt : x.1 < nx
        · have t1 : decide ((x.1 : Int) < (nx : Int)) = true := by simp; omega
          have t2 : decide (x.1 < nx) = true := by simp; omega
          have hkd := kept_del HM.out.1.borns HM.out.1.keys (seen := seen) R1.out.2.2.2 hlt
          have HKD := Lib.hid hkd
          clear hkd
          go_wp2_with fail
          have N : TurnMid w (ChangeMaps.setBlock W1 B o6) B r0 l clock nx (seen ++ [x.2.2]) := by
            refine ⟨?_, C1.out.setBlock (.inl rfl) o6, HT.out.new⟩
            rw [HKD.out]
            obtain ⟨c0, i1, i2⟩ := R1.out.1.it
            exact ⟨M6.out, ⟨c0, (set_other o6 R1.out.1.ne).trans i1, i2⟩, fun y hy => R1.out.1.old y (List.mem_filter.1 hy).1, R1.out.1.sc⟩
          go_roundw
          case rel => exact ⟨_, N⟩
          case measure =>
            rw [rangeLeft_at N.at_, HML.out, HKD.out]
            exact left_lt R1.out.2.1 R1.out.2.2.1 (fun y hy => (List.mem_filter.1 hy).1) M6.out.borns HT.out.at_.map.borns (List.length_filter_le _ _) (.inr ⟨_, rfl⟩)
        · have t1 : decide ((x.1 : Int) < (nx : Int)) = false := by simp; omega
          have t2 : decide (x.1 < nx) = false := by simp; omega
          have hkd := kept_stay HM.out.1.borns (seen := seen) R1.out.2.2.2 hlt
          have HKD := Lib.hid hkd
          clear hkd q6
          go_wp2_with fail
          have N : TurnMid w W1 B r0 l clock nx (seen ++ [x.2.2]) := by
            refine ⟨?_, C1.out, HT.out.new⟩
            rw [HKD.out]
            exact R1.out.1
          go_roundw
          case rel => exact ⟨_, N⟩
          case measure =>
            rw [rangeLeft_at N.at_, HML.out, HKD.out]
            exact left_lt R1.out.2.1 R1.out.2.2.1 (fun y hy => hy) HT.out.at_.map.borns HT.out.at_.map.borns (Nat.le_refl _) (.inl rfl)
end Go.Proofs.Ytihjmgjjknjioaa.In
