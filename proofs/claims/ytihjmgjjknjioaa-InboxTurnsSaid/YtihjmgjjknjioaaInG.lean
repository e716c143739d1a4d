/- Walk: Held. -/
import Derived.Test.YtihjmgjjknjioaaInF
namespace Go.Proofs.Ytihjmgjjknjioaa.In
open Go Go.RowKit Go.Proofs.Ytihjmgjjknjioaa.Base Go.Proofs.Ytihjmgjjknjioaa.Draw
set_option linter.unusedVariables false
set_option linter.unusedSimpArgs false

def keysH (h : HL) : List Nat := (h.map (·.1)).mergeSort fun a b => decide (a ≤ b)
theorem rise_eq : ∀ {a b : List Nat}, a.Pairwise (· < ·) → b.Pairwise (· < ·) → (∀ x, x ∈ a ↔ x ∈ b) → a = b
  | [], [], _, _, _ => rfl
  | [], y :: b, _, _, h => absurd ((h y).2 (by simp)) (by simp)
  | x :: a, [], _, _, h => absurd ((h x).1 (by simp)) (by simp)
  | x :: a, y :: b, ha, hb, h => by
    rw [List.pairwise_cons] at ha hb
    have e : x = y := by
      have h1 := (h x).1 (by simp)
      have h2 := (h y).2 (by simp)
      rcases List.mem_cons.1 h1 with e | h1
      · exact e
      · rcases List.mem_cons.1 h2 with e | h2
        · exact e.symm
        · have := hb.1 x h1
          have := ha.1 y h2
          omega
    subst e
    congr 1
    refine rise_eq ha.2 hb.2 fun z => ?_
    have h1 := h z
    simp only [List.mem_cons] at h1
    constructor
    · intro hz
      have hlt := ha.1 z hz
      rcases h1.1 (.inr hz) with e | g
      · omega
      · exact g
    · intro hz
      have hlt := hb.1 z hz
      rcases h1.2 (.inr hz) with e | g
      · omega
      · exact g
theorem rising {a : List Nat} (h : a.Pairwise (· ≤ ·)) (hn : a.Nodup) : a.Pairwise (· < ·) := by
  have := List.Pairwise.and h hn
  exact this.imp (fun ⟨a, b⟩ => by omega)
theorem keysH_rise {h : HL} (hn : (h.map (·.1)).Nodup) : (keysH h).Pairwise (· < ·) := by
  unfold keysH
  have h1 := List.pairwise_mergeSort (le := fun x y : Nat => decide (x ≤ y)) (by intro a b c; simp; omega) (by intro a b; simp; omega) (h.map (·.1))
  exact rising (h1.imp (fun h => by simpa using h)) ((List.mergeSort_perm _ _).nodup_iff.2 hn)
theorem mem_keysH (h : HL) (k : Nat) : k ∈ keysH h ↔ k ∈ h.map (·.1) := by unfold keysH; exact (List.mergeSort_perm _ _).mem_iff
theorem Rd.weak {w : World} {F G : Nat → Prop} {v : Value} {bs : List Nat} (h : Rd w G v bs) (hf : ∀ k, F k → G k) : Rd w F v bs := ⟨h.sl, fun b o c e h0 f => h.out b o c e h0 (hf b f), h.small⟩
def toC (x : HE) : Nat × Value := (x.1, .slice x.2.1 x.2.2.1 x.2.2.2)
theorem flat_toC (hs : List HE) : flat (hs.map toC) = hs.flatMap encH := by
  induction hs with
  | nil => rfl
  | cons a hs ih => simp only [flat, List.map_cons, List.flatMap_cons] at ih ⊢; rw [ih]; rfl
theorem to_lits : ∀ (cs : CL), (∀ c ∈ cs, ∃ A n c', c.2 = .slice A n c') → ∃ hs : List HE, cs = hs.map toC
  | [], _ => ⟨[], rfl⟩
  | c :: cs, h => by
    obtain ⟨A, n, c', e⟩ := h c (by simp)
    obtain ⟨hs, e2⟩ := to_lits cs (fun x hx => h x (by simp [hx]))
    refine ⟨(c.1, A, n, c') :: hs, ?_⟩
    rw [List.map_cons, ← e2]
    congr 1
    obtain ⟨c1, c2⟩ := c
    simp only at e
    subst e
    rfl
theorem keys_h {w : World} {F : Nat → Prop} : ∀ {l : List MEnt} {h : HL}, All2 (HEnt w F) l h → l.map (·.1) = h.map (·.1)
  | [], [], _ => rfl
  | x :: l, y :: h, ⟨a, b⟩ => by rw [List.map_cons, List.map_cons, a.1, keys_h b]

/-- What Held hands back: frames by their indexes, rising; new memory. -/
def HeldPost (w : World) (F : Nat → Prop) (h : HL) (e : Ending) (w' : World) : Prop :=
  ∃ v, ∃ hs : List HE, e = .returned v ∧ w'.ownsRow w.heap.size 41 2 v hs.length (hs.flatMap encH) ∧ (∀ x ∈ hs, Rd w' F (.slice x.2.1 x.2.2.1 x.2.2.2) (datum h x.1)) ∧ hs.map (·.1) = keysH h ∧ Below w.heap.size w w'

theorem held_close {w wr w' : World} {F : Nat → Prop} {B r clock : Nat} {l S : List MEnt} {h : HL} {v : Value} {hs hs' : List HE} (hm : MapAt w B l clock) (ha : All2 (HEnt w F) l h)
    (hT : HeldMid w wr F B r l clock h v S (hs.map toC)) (hl : left_ l (S.map (·.2.2)) = []) (hp : hs'.Perm hs) (hsd : (hs'.map (·.1)).Pairwise (· ≤ ·)) (ho : w'.ownsRow w.heap.size 41 2 v hs.length (hs'.flatMap encH)) (hg : wr.grownBy w' v.ownBlock) :
    HeldPost w F h (.returned v) w' := by
  have hlow := own_low hT.own
  have cG : Chg (fun k => F k ∨ v.ownBlock = some k) wr w' := chg_grown (Chg.refl (fun k => F k ∨ v.ownBlock = some k) wr) hg (fun k hk => .inl (.inr hk))
  have hlen : hs'.length = hs.length := hp.length_eq
  refine ⟨v, hs', rfl, by rw [hlen]; exact ho, fun x hx => ?_, ?_, hT.bel.grown hg hT.bel.size hlow⟩
  · have r := hT.rd (toC x) (List.mem_map.2 ⟨x, hp.mem_iff.1 hx, rfl⟩)
    exact (r.chg cG).weak (fun k f => .inl f)
  · have kS : (hs.map toC).map (·.1) = hs.map (·.1) := by rw [List.map_map]; rfl
    have e1 : hs.map (·.1) = S.map (·.1) := by rw [← kS]; exact hT.keys
    have hin : ∀ x, x ∈ S ↔ x ∈ l := fun x => by
      refine ⟨hT.sub x, fun hx => ?_⟩
      have h1 : x ∉ left_ l (S.map (·.2.2)) := by rw [hl]; simp
      have h2 : x.2.2 ∈ S.map (·.2.2) := by
        by_cases g : x.2.2 ∈ S.map (·.2.2)
        · exact g
        · exact absurd (List.mem_filter.2 ⟨hx, by simpa using g⟩) h1
      obtain ⟨y, hy, e⟩ := List.mem_map.1 h2
      have := born_inj hm.borns (hT.sub y hy) hx e
      exact this ▸ hy
    have hkl : (l.map (·.1)) = h.map (·.1) := keys_h ha
    have hkn : (h.map (·.1)).Nodup := by rw [← hkl]; exact hm.keys
    have hSn : (S.map (·.1)).Nodup := by
      rw [List.nodup_iff_pairwise_ne] at *
      have hn := hT.nod
      rw [List.nodup_iff_pairwise_ne, List.pairwise_map] at hn
      rw [List.pairwise_map]
      exact List.Pairwise.imp_of_mem (fun {a b} ha' hb' hne e => hne (by rw [key_inj hm.keys (hT.sub a ha') (hT.sub b hb') e])) hn
    refine rise_eq (rising hsd ((hp.map (·.1)).nodup_iff.2 (by rw [e1]; exact hSn))) (keysH_rise hkn) (fun k => ?_)
    rw [(hp.map (·.1)).mem_iff, e1, mem_keysH, ← hkl]
    constructor
    · intro hk
      obtain ⟨x, hx, e⟩ := List.mem_map.1 hk
      exact List.mem_map.2 ⟨x, (hin x).1 hx, e⟩
    · intro hk
      obtain ⟨x, hx, e⟩ := List.mem_map.1 hk
      exact List.mem_map.2 ⟨x, (hin x).2 hx, e⟩

set_option maxRecDepth 100000 in
set_option maxHeartbeats 2000000 in
theorem held_calls {w : World} {g : Nat} {F : Nat → Prop} {mv uv : Value} {h : HL} {u : List (List Nat)} (hr : BRep w g F mv uv h u) (hlen : h.length ≤ 1000) :
    Calls Try.prog 10 #[.pointer (some ⟨g, 0, none⟩)] w (HeldPost w F h) := by
  have HR := Lib.hid hr
  have y0 := hr.blk.cell 0
  have hgl := hr.blk.lt
  simp only [List.getElem?_toArray, List.getElem?_cons_zero, List.getElem?_cons_succ] at y0
  rcases hr.held with ⟨rfl, rfl⟩ | ⟨B, l, clock, rfl, fB, hm, ha⟩
  · have q1 := run_range_nil ty_map w
    have q2 := run_next_nil (P := Try.prog) (w.alloc (.mapIter none 0 #[] 0)) w.heap.size 0 (by simpa using heap_alloc_new w _)
    have HS := Lib.hid (sortH_calls (w := w.alloc (.mapIter none 0 #[] 0)) (base := w.heap.size) (v := .slice none 0 0) (hs := []) (World.ownsRow_nil _ _ _ _) (by simp))
    clear hr
    go_enter Try.func10, Try.ntmps10
    go_wp2_with fail
    go_loopw [3] (fun v wr => v = .slice none 0 0 ∧ wr = w.alloc (.mapIter none 0 #[] 0)) (fun _ _ => 0)
    case atStart => exact ⟨rfl, rfl⟩
    case round =>
      obtain ⟨rfl, rfl⟩ := hrel
      go_wp2_with fail
      refine HS.out.mono ?_
      rintro e w4 ⟨rfl, hs', p1, p2, p3, p4⟩
      have HP := Lib.hid (And.intro p1 (And.intro p3 p4))
      clear p1 p2 p3 p4
      go_wp2_with fail
      go_ret
      have e0 : hs' = [] := by simpa using HP.out.1
      refine ⟨_, [], rfl, World.ownsRow_nil _ _ _ _, by simp, by simp [keysH], ((Below.refl _ _).alloc (Nat.le_refl _) _).grown HP.out.2.2 (by simp) (fun k hk => by simp [Value.ownBlock] at hk)⟩
  · obtain ⟨q1, hra⟩ := run_range ty_map hm
    have HM := Lib.hid (And.intro hm (And.intro ha fB))
    have hll : l.length ≤ 1000 := by rw [ha.length]; exact hlen
    have T0 : Hid (HeldMid w (w.alloc (.mapIter (some B) clock #[] clock)) F B w.heap.size l clock h (.slice none 0 0) [] []) := Lib.hid ⟨hra, by simp, by simp, rfl, by simp, World.ownsRow_nil _ _ _ _, (Below.refl _ _).alloc (Nat.le_refl _) _⟩
    have hgB : g ≠ B := blk_ne_map hr.blk hm.heap
    clear hr hm ha hra
    generalize hr0 : w.heap.size = r0 at *
    have HR0 := Lib.hid hr0
    clear hr0
    go_enter Try.func10, Try.ntmps10
    go_wp2_with fail
    clear q1
    go_loopw [3] (fun v wr => ∃ S cs, HeldMid w wr F B r0 l clock h v S cs) (fun _ wr => wr.rangeLeft B r0)
    case atStart => exact ⟨[], [], T0.out⟩
    case round =>
      obtain ⟨S, cs, hT⟩ := hrel
      have HT := Lib.hid hT
      have hml := rangeLeft_at hT.at_
      rcases run_next_ (P := Try.prog) hT.at_ 0 with ⟨hl, q2⟩ | ⟨x, o, w1, hx, hs, hw1, q2, hR1, q3⟩
      · have HL := Lib.hid hl
        obtain ⟨hs, ehs⟩ := to_lits cs (fun c hc => by
          obtain ⟨A, c', e, _, _⟩ := (hT.rd c hc).lit
          exact ⟨A, _, c', e⟩)
        subst ehs
        have hcl : hs.length ≤ 1000 := by
          have e := congrArg List.length hT.keys
          simp only [List.length_map] at e
          rw [e]
          exact Nat.le_trans (sub_len hT.nod hT.sub) hll
        have HCL := Lib.hid hcl
        have HO : Hid (wr.ownsRow w.heap.size 41 2 u3 hs.length (hs.flatMap encH)) := Lib.hid (by have := hT.own; rw [flat_toC, List.length_map] at this; exact this)
        clear hT hml hl hcl
        go_wp2_with fail
        refine (sortH_calls HO.out (by have := HCL.out; omega)).mono ?_
        rintro e w4 ⟨rfl, hs', p1, p2, p3, p4⟩
        have HP := Lib.hid (And.intro p1 (And.intro p2 (And.intro p3 p4)))
        clear p1 p2 p3 p4
        go_wp2_with fail
        go_ret
        exact held_close HM.out.1 HM.out.2.1 HT.out HL.out HP.out.1 HP.out.2.1 HP.out.2.2.1 HP.out.2.2.2
      · obtain ⟨c0, hit, _⟩ := hT.at_.it
        have hk1 : ∀ k, k ≠ r0 → (ChangeMaps.setBlock w1 r0 o).heap[k]? = wr.heap[k]? := fun k hk => by
          rw [set_other o hk]
          rcases hw1 with rfl | rfl <;> rfl
        have hb1 : Below w.heap.size w (ChangeMaps.setBlock w1 r0 o) := by
          rcases hw1 with rfl | rfl
          · exact Below.setBlock_ hT.bel (by rw [HR0.out]; exact Nat.le_refl _) o
          · exact Below.setBlock_ hT.bel.drew (by rw [HR0.out]; exact Nat.le_refl _) o
        have o1 := own_but hit hk1 hT.own
        have rd1 : ∀ c ∈ cs, Rd (ChangeMaps.setBlock w1 r0 o) (fun k => F k ∨ Value.ownBlock u3 = some k) c.2 (datum h c.1) := fun c hc => rd_but hit hk1 (hT.rd c hc)
        have hxr0 := rd_mem HM.out.1.keys HM.out.2.1 hx
        have hxr : Rd (ChangeMaps.setBlock w1 r0 o) (fun k => F k ∨ Value.ownBlock u3 = some k) x.2.1 (datum h x.1) := hxr0.foot (hxr0.below hb1) (fun k hk => hk.imp id (fun e => own_low hT.own k e))
        clear hxr0
        clear hw1 hk1 hit
        generalize ChangeMaps.setBlock w1 r0 o = W1 at *
        have H1 := Lib.hid (And.intro hR1 (And.intro hb1 (And.intro o1 (And.intro rd1 (And.intro hxr (And.intro hx hs))))))
        have hF1 : Hid (∀ k, (F k ∨ Value.ownBlock u3 = some k) → k < W1.heap.size) := Lib.hid (fun k hk => hk.elim (fun f => Nat.lt_of_lt_of_le (HR.out.low k f) hb1.size) (fun e => (o1.lt k e).2))
        have hcl : cs.length ≤ 1000 := by
          have e := congrArg List.length hT.keys
          simp only [List.length_map] at e
          rw [e]
          exact Nat.le_trans (sub_len hT.nod hT.sub) hll
        have HML := Lib.hid hml
        clear hT hR1 hb1 o1 rd1 hxr hx hs hml
        go_wp2_with fail
        refine (clone_calls H1.out.2.2.2.2.1 hF1.out).mono ?_
        rintro e w3 ⟨v3, rfl, r3, b3⟩
        obtain ⟨A3, c3, rfl, -, -⟩ := r3.lit
        have H3 := Lib.hid (And.intro r3 (And.intro b3 (And.intro (own_chg H1.out.2.2.1 (Chg.of_below (F := fun _ => False) b3) (fun _ _ f => f)) (And.intro (fun c hc => (H1.out.2.2.2.1 c hc).below b3) (H1.out.1.below b3)))))
        have hw3 : w.heap.size ≤ w3.heap.size := Nat.le_trans H1.out.2.1.size b3.size
        clear r3 b3
        generalize hcn : cs.length = n at *
        have HC := Lib.hid hcn
        clear hcn
        go_wp2_with (at_builtin; go_must (refine list_app ty_held rfl (.tmp 16) (.tmp 21) rfl (by simp [Act.eval]) (own_heap (H3.out.2.2.1.alloc _) (by rfl)) w3.heap.size 1 1 41 #[.int .u32 (x.1 : Int), .slice A3 (datum h x.1).length c3] (by simp [Act.eval]) (by exact heap_alloc_new w3 _) rfl (by simp [Value.oneCell']) (by decide) (by unfold maxLen; omega) (by omega) (by simp; omega) ?_; intro g' cap w' hown hgr hat hlt'))
        have N : HeldMid w w' F B r0 l clock h (.slice (some ⟨g', 0, none⟩) (n + 1) cap) (S ++ [x]) (cs ++ [(x.1, .slice A3 (datum h x.1).length c3)]) := by
          obtain ⟨c0, hit3, hs0⟩ := H3.out.2.2.2.2.it
          have hB3 := H3.out.2.2.2.2.map.lt_
          have hr3 := H3.out.2.2.2.2.lt_
          have own3 := H3.out.2.2.1
          have hlow := own_low own3
          have g0 := hgr.size
          have hsz : (w3.alloc (.cells #[.int .u32 (x.1 : Int), .slice A3 (datum h x.1).length c3] 41)).heap.size = w3.heap.size + 1 := by simp
          have blk : ∀ k, k < w3.heap.size → some k ≠ Value.ownBlock u3 → w'.heap[k]? = w3.heap[k]? := fun k hk hne => (hgr.block k (by rw [hsz]; omega) hne).trans (Below.heap_alloc w3 _ k hk)
          have cG : Chg (fun k => F k ∨ Value.ownBlock u3 = some k) w3 w' := chg_grown ((Chg.refl (fun k => F k ∨ Value.ownBlock u3 = some k) w3).alloc _) hgr (fun k hk => .inl (.inr hk))
          have hG : ∀ k, (F k ∨ (Value.slice (some ⟨g', 0, none⟩) (n + 1) cap).ownBlock = some k) → (F k ∨ Value.ownBlock u3 = some k) ∨ w3.heap.size ≤ k := fun k hk => by
            rcases hk with f | e
            · exact .inl (.inl f)
            · simp only [Value.ownBlock] at e
              injection e with e
              subst e
              rcases hat with q | q
              · exact .inl (.inr q)
              · right; rw [q, hsz]; omega
          refine ⟨?_, ?_, ?_, ?_, ?_, ?_, ?_⟩
          · rw [List.map_append]
            exact H3.out.2.2.2.2.same (blk B hB3 (fun e => by have := hlow B e.symm; have := HM.out.1.lt_; omega)) (blk r0 hr3 (fun e => own_it hit3 own3 e.symm))
          · intro y hy
            rcases List.mem_append.1 hy with hy | hy
            · exact HT.out.sub y hy
            · simp only [List.mem_singleton] at hy; subst hy; exact H1.out.2.2.2.2.2.1
          · rw [List.map_append, List.nodup_append]
            refine ⟨HT.out.nod, by simp, fun a ha b hb => ?_⟩
            simp only [List.map_cons, List.map_nil, List.mem_singleton] at hb
            subst hb
            rintro rfl
            exact H1.out.2.2.2.2.2.2 ha
          · rw [List.map_append, List.map_append, HT.out.keys]; rfl
          · intro c hc
            rcases List.mem_append.1 hc with hc | hc
            · have r := H3.out.2.2.2.1 c hc
              exact r.foot (r.chg cG) hG
            · simp only [List.mem_singleton] at hc
              subst hc
              have r := H3.out.1
              exact r.foot (r.chg cG) hG
          · have := hown
            rw [List.length_append, HC.out, flat_app]
            exact this
          · have b1 : Below w.heap.size w w3 := H1.out.2.1.trans (H3.out.2.1.mono H1.out.2.1.size)
            exact (b1.alloc hw3 _).grown hgr (by rw [hsz]; omega) hlow
        go_roundw
        case rel => exact ⟨_, _, N⟩
        case measure =>
          rw [rangeLeft_at N.at_, HML.out]
          rw [List.map_append]
          exact left_lt H1.out.2.2.2.2.2.1 H1.out.2.2.2.2.2.2 (fun y hy => hy) HM.out.1.borns HM.out.1.borns (Nat.le_refl _) (.inl rfl)
end Go.Proofs.Ytihjmgjjknjioaa.In
