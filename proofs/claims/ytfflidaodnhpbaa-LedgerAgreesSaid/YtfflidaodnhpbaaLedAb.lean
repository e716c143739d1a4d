/- Walks: the set of what was found out: add, publicOf, made, open. -/
import Derived.Test.YtfflidaodnhpbaaLedAa
import Derived.Test.YtfflidaodnhpbaaLedS
import Derived.Test.YtfflidaodnhpbaaLedM
import Derived.Deep.RegionWith
namespace Go.Proofs.Ytfflidaodnhpbaa.Led
open Go Go.RowKit Go.Proofs.Ytfflidaodnhpbaa.Base Go.Proofs.Ytfflidaodnhpbaa.Draw
set_option linter.unusedVariables false
set_option linter.unusedSimpArgs false

def inS (O : List Nat) (n : Nat) : List Bool := (List.range n).map fun i => O.contains i
theorem inS_length (O : List Nat) (n : Nat) : (inS O n).length = n := by simp [inS]
theorem inS_get {O : List Nat} {n i : Nat} (h : i < n) : (bools (inS O n))[i]? = some (.bool (O.contains i)) := by simp [bools, inS, h]
theorem inS_app (O : List Nat) (n i : Nat) : (bools (inS O n)).set i (.bool true) = bools (inS (O ++ [i]) n) := by
  apply List.ext_getElem
  · simp [bools, inS]
  · intro k h1 h2
    rw [List.getElem_set]
    simp only [bools, inS, List.getElem_map, List.getElem_range]
    by_cases h : i = k
    · subst h; simp
    · rw [if_neg h]
      congr 1
      rw [Bool.eq_iff_iff]
      simp only [List.contains_iff_mem, List.mem_append, List.mem_singleton]
      constructor
      · exact .inl
      · rintro (g | g)
        · exact g
        · exact absurd g.symm h
def rowS (O : List Nat) (n : Nat) : Row := ⟨4, 1, n, bools (inS O n)⟩

structure SMid (w wr : World) (s : Nat) (T : List Trm) (vT : Value) (O : List Nat) : Prop where
  rep : ∃ vin vo, Blk wr s 73 #[vT, vin, vo] ∧ OMid w wr [(vin, rowS O T.length), (vo, rowI O)]
  sT : Sl w 3 vT T.length (snv T)
  tl : w.heap.size ≤ s
  lt : ∀ i ∈ O, i < T.length
  nod : O.Nodup
  len : T.length ≤ 200
theorem SMid.bel {w wr : World} {s : Nat} {T : List Trm} {vT : Value} {O : List Nat} (h : SMid w wr s T vT O) : Below w.heap.size w wr := by
  obtain ⟨vin, vo, _, hm⟩ := h.rep
  exact hm.bel
theorem SMid.below {w wr w' : World} {s : Nat} {T : List Trm} {vT : Value} {O : List Nat} (h : SMid w wr s T vT O) (hb : Below wr.heap.size wr w') : SMid w w' s T vT O := by
  obtain ⟨vin, vo, h1, h2⟩ := h.rep
  exact ⟨⟨vin, vo, h1.below hb h1.lt, h2.below hb⟩, h.sT, h.tl, h.lt, h.nod, h.len⟩
theorem pigeon : ∀ (n : Nat) (O : List Nat), O.Nodup → (∀ i ∈ O, i < n) → O.length ≤ n
  | 0, [], _, _ => by simp
  | 0, a :: O, _, h => by have := h a (by simp); omega
  | n + 1, O, hn, h => by
    by_cases hm : n ∈ O
    · have := pigeon n (O.erase n) (hn.erase n) (fun i hi => by
        have h1 := h i (List.mem_of_mem_erase hi)
        have h2 : i ≠ n := by rintro rfl; exact hn.not_mem_erase hi
        omega)
      rw [List.length_erase_of_mem hm] at this
      omega
    · have := pigeon n O hn (fun i hi => by
        have h1 := h i hi
        have h2 : i ≠ n := by rintro rfl; exact hm hi
        omega)
      omega
theorem SMid.olen {w wr : World} {s : Nat} {T : List Trm} {vT : Value} {O : List Nat} (h : SMid w wr s T vT O) : O.length ≤ T.length := by
  exact pigeon T.length O h.nod h.lt
theorem OMid.setBlk {w wr : World} {l : List (Value × Row)} {s : Nat} {T : TypeId} {cs : Array Value} (h : OMid w wr l) (hb : Blk wr s T cs) (hT : ∀ p ∈ l, p.2.e ≠ T) (hs : w.heap.size ≤ s) (i : Nat) (u : Value) : OMid w (wr.setCell ⟨s, i, none⟩ u) l :=
  ⟨h.rows.setCell hb hT i u, h.low, h.bel.setCell hs u⟩
def addO (O : List Nat) (i : Nat) : List Nat := if i ∈ O then O else O ++ [i]

/-- The set's cells, in the shape that the walk asks. -/
theorem SMid.cells {w wr : World} {s : Nat} {T : List Trm} {vT : Value} {O : List Nat} (h : SMid w wr s T vT O) (h0 : 0 < T.length) :
    ∃ g c ao co At cT, vT = .slice At T.length cT ∧ T.length ≤ cT ∧ cT ≤ maxLen ∧ O.length ≤ co ∧ co ≤ maxLen ∧ T.length ≤ c ∧ c ≤ maxLen ∧
      wr.cell? ⟨s, 0, none⟩ = some (.slice At T.length cT) ∧ wr.cell? ⟨s, 1, none⟩ = some (.slice (some ⟨g, 0, none⟩) T.length c) ∧ wr.cell? ⟨s, 2, none⟩ = some (.slice ao O.length co) ∧ s < wr.heap.size ∧ g < wr.heap.size ∧ s ≠ g ∧
      (∀ i, i < T.length → wr.cell? ⟨g, i, none⟩ = some (.bool (O.contains i)) ∧ wr.frozen? ⟨g, i, none⟩ = false) ∧
      Blk wr s 73 #[.slice At T.length cT, .slice (some ⟨g, 0, none⟩) T.length c, .slice ao O.length co] ∧ OMid w wr [(.slice (some ⟨g, 0, none⟩) T.length c, rowS O T.length), (.slice ao O.length co, rowI O)] := by
  obtain ⟨vin, vo, h1, h2⟩ := h.rep
  obtain ⟨_, At, cT, rfl, hT1, hT2, _⟩ := h.sT
  have o1 : wr.ownsRow 0 4 1 vin T.length (bools (inS O T.length)) := h2.rows.1 (vin, rowS O T.length) (by simp)
  have o2 : wr.ownsRow 0 3 1 vo O.length (nats O) := h2.rows.1 (vo, rowI O) (by simp)
  obtain ⟨g, c, rfl, hn1, hn2, _, hg, hcell⟩ := own_at o1 h0
  obtain ⟨ao, co, rfl, hm1, hm2⟩ := own_len o2
  have c0 := h1.cell 0
  have c1 := h1.cell 1
  have c2 := h1.cell 2
  simp only [List.getElem?_toArray, List.getElem?_cons_zero, List.getElem?_cons_succ] at c0 c1 c2
  refine ⟨g, c, ao, co, At, cT, rfl, hT1, hT2, hm1, hm2, hn1, hn2, c0, c1, c2, h1.lt, hg, ?_, fun i hi => ⟨hcell i _ (inS_get hi), o1.frozenAt i⟩, h1, h2⟩
  rintro rfl
  exact own_blk_ne o1 h1 (by decide) rfl

theorem SMid.close {w wr w' : World} {s : Nat} {T : List Trm} {At ao : Option Addr} {g cT c co g' cap i : Nat} {O : List Nat} {o : Obj} (h : SMid w wr s T (.slice At T.length cT) O) (hi : i < T.length) (hO : i ∉ O)
    (hb : Blk wr s 73 #[.slice At T.length cT, .slice (some ⟨g, 0, none⟩) T.length c, .slice ao O.length co]) (hm : OMid w wr [(.slice (some ⟨g, 0, none⟩) T.length c, rowS O T.length), (.slice ao O.length co, rowI O)])
    {w1 : World} (h1 : w1.heap = ((wr.setCell ⟨g, i, none⟩ (.bool true)).alloc o).heap) (hb1 : Below w.heap.size w w1)
    (hown : w'.ownsRow 0 3 1 (.slice (some ⟨g', 0, none⟩) (O.length + 1) cap) (O.length + 1) (nats O ++ [.int .i64 (i : Int)]))
    (hgr : w1.grownBy w' (Value.slice ao O.length co).ownBlock) (hat : (Value.slice ao O.length co).ownBlock = some g' ∨ g' = w1.heap.size)
    (b1 : Blk w' s 73 #[.slice At T.length cT, .slice (some ⟨g, 0, none⟩) T.length c, .slice ao O.length co]) :
    SMid w (w'.setCell ⟨s, 2, none⟩ (.slice (some ⟨g', 0, none⟩) (O.length + 1) cap)) s T (.slice At T.length cT) (O ++ [i]) := by
  have m1 : OMid w (wr.setCell ⟨g, i, none⟩ (.bool true)) [(.slice (some ⟨g, 0, none⟩) T.length c, rowS (O ++ [i]) T.length), (.slice ao O.length co, rowI O)] := by
    have := OMid.stored (l1 := []) (r := rowS O T.length) (cap := c) hm i (.bool true)
    simp only [rowS, inS_app] at this
    exact this
  have m2 : OMid w w' [(.slice (some ⟨g, 0, none⟩) T.length c, rowS (O ++ [i]) T.length), (.slice (some ⟨g', 0, none⟩) (O.length + 1) cap, rowI (O ++ [i]))] :=
    OMid.app (l1 := [_]) (r' := rowI (O ++ [i])) m1 h1 hb1 hgr (by simpa [rowI, nats] using hown) hat
  refine ⟨⟨_, _, b1.set_ 2 _, ?_⟩, h.sT, h.tl, ?_, ?_, h.len⟩
  · exact m2.setBlk b1 (by intro p hp; simp only [List.mem_cons, List.not_mem_nil, or_false] at hp; rcases hp with rfl | rfl <;> simp [rowS, rowI]) h.tl 2 _
  · intro k hk
    rcases List.mem_append.1 hk with hk | hk
    · exact h.lt k hk
    · simp only [List.mem_singleton] at hk; omega
  · rw [List.nodup_append]
    refine ⟨h.nod, by simp, fun a ha b hb' => ?_⟩
    simp only [List.mem_singleton] at hb'
    rintro rfl
    exact hO (hb' ▸ ha)

set_option maxRecDepth 100000 in
set_option maxHeartbeats 1000000 in
theorem tadd_calls {w wr : World} {s : Nat} {T : List Trm} {vT : Value} {O : List Nat} (h : SMid w wr s T vT O) (i : Nat) (hi : i < T.length) :
    Calls Try.prog 48 #[.pointer (some ⟨s, 0, none⟩), .int .i64 (i : Int)] wr fun e w' => e = .returned (.tuple #[]) ∧ SMid w w' s T vT (addO O i) ∧ ∀ B cs, Blk wr B 46 cs → Blk w' B 46 cs := by
  obtain ⟨g, c, ao, co, At, cT, rfl, q1, q2, q3, q4, q5, q6, c0, c1, c2, hs, hg, hne, hin, hb, hm⟩ := h.cells (by omega)
  obtain ⟨d0, f0⟩ := hin i hi
  have ho := h.olen
  have hlen := h.len
  have HH := Lib.hid h
  have HM := Lib.hid (And.intro hb hm)
  have HI := Lib.hid hi
  clear h hin hm
  unfold maxLen at q2 q4 q6
  by_cases hO : i ∈ O
  · have e1 : O.contains i = true := by simpa using hO
    rw [e1] at d0
    have HO := Lib.hid hO
    clear hO hb e1
    generalize hn : T.length = n at *
    have HN := Lib.hid hn
    clear hn
    go_enter Try.func48, Try.ntmps48
    go_wp2_with fail
    go_end0
    exact ⟨rfl, by unfold addO; rw [if_pos HO.out]; exact HH.out, fun _ _ h => h⟩
  · have e1 : O.contains i = false := by simpa using hO
    rw [e1] at d0
    have b1 := hb.far (p := ⟨g, i, none⟩) hne (.bool true)
    have x2 := b1.cell 2
    have x3 := b1.frozen 2
    simp only [List.getElem?_toArray, List.getElem?_cons_zero, List.getElem?_cons_succ] at x2
    have B1 := Lib.hid b1
    have m1 := OMid.stored (l1 := []) (r := rowS O T.length) (cap := c) HM.out.2 i (.bool true)
    have M1 := Lib.hid m1
    have ov : (wr.setCell ⟨g, i, none⟩ (.bool true)).ownsRow 0 3 1 (.slice ao O.length co) O.length (nats O) := m1.rows.1 (_, rowI O) (by simp)
    have OV := Lib.hid ov
    have HO := Lib.hid hO
    clear hO hb e1 b1 m1 ov
    generalize hn : T.length = n at *
    generalize hno : O.length = no at *
    have HN := Lib.hid (And.intro hn hno)
    clear hn hno
    have hz : (wr.setCell ⟨g, i, none⟩ (.bool true)).heap.size = wr.heap.size := by simp [World.setCell]
    have HZ := Lib.hid hz
    have hbel : Below w.heap.size w ((wr.setCell ⟨g, i, none⟩ (.bool true)).alloc (.cells #[.int .i64 (i : Int)] 3)) := M1.out.bel.alloc M1.out.bel.size _
    have HBel := Lib.hid hbel
    clear hz hbel
    go_enter Try.func48, Try.ntmps48
    go_wp2_with (refine list_app ty_ints rfl (.tmp 22) (.tmp 24) rfl (by simp [Act.eval]) (own_heap (OV.out.alloc (.cells #[.int .i64 (i : Int)] 3)) (by rfl)) wr.heap.size 1 1 3 #[.int .i64 (i : Int)] (by simp [Act.eval]) (by have := heap_alloc_new (wr.setCell ⟨g, i, none⟩ (.bool true)) (.cells #[.int .i64 (i : Int)] 3); rw [HZ.out] at this; exact this) rfl (by simp [Value.oneCell']) (by decide) (by unfold maxLen; omega) (by omega) (by simp) ?_; intro g' cap w' hown hgr hat hlt'; have b2 := (B1.out.alloc (.cells #[.int .i64 (i : Int)] 3)).grown hgr (B1.out.own_ne OV.out (by decide)); have y2 := b2.cell 2; have y3 := b2.frozen 2; simp only [List.getElem?_toArray, List.getElem?_cons_zero, List.getElem?_cons_succ] at y2)
    go_end0
    have hn : T.length = n := HN.out.1
    have hno : O.length = no := HN.out.2
    subst hn
    subst hno
    refine ⟨rfl, ?_⟩
    have e : addO O i = O ++ [i] := by unfold addO; rw [if_neg HO.out]
    rw [e]
    refine ⟨HH.out.close HI.out HO.out HM.out.1 HM.out.2 rfl HBel.out hown hgr hat b2, fun B cs hB => ?_⟩
    have n1 : B ≠ g := fun e => own_blk_ne (v := .slice (some ⟨g, 0, none⟩) T.length c) (e := 4) (HM.out.2.rows.1 (.slice (some ⟨g, 0, none⟩) T.length c, rowS O T.length) (List.mem_cons_self ..)) hB (by decide) (by rw [e]; rfl)
    have n2 : B ≠ s := hB.ne_ HM.out.1 (by decide)
    have x1 := (hB.far (p := ⟨g, i, none⟩) n1 (.bool true))
    exact ((x1.alloc (.cells #[.int .i64 (i : Int)] 3)).grown hgr (x1.own_ne OV.out (by decide))).far (p := ⟨s, 2, none⟩) n2 _
end Go.Proofs.Ytfflidaodnhpbaa.Led
