/- Walks: the whole line in terms. -/
import Derived.Test.YtfflidaodnhpbaaLedF
import Derived.Test.YtfflidaodnhpbaaLedO
namespace Go.Proofs.Ytfflidaodnhpbaa.Led
open Go Go.RowKit Go.Proofs.Ytfflidaodnhpbaa.Base Go.Proofs.Ytfflidaodnhpbaa.Draw
set_option linter.unusedVariables false
set_option linter.unusedSimpArgs false

/-- Amid Run: the run's block and rows, all made since w. -/
structure RunMid (w wr : World) (t : Nat) (st : RSt) (vT vk vy vp : Value) (more : List (Value × Row)) : Prop where
  rep : RunRep wr t st vT vk vy vp more
  low : ∀ p ∈ (vT, rowT st.T) :: (vk, rowI st.kn) :: (vy, rowI st.ks) :: (vp, rowI st.ps) :: more, ∀ k, p.1.ownBlock = some k → w.heap.size ≤ k
  tl : w.heap.size ≤ t
  bel : Below w.heap.size w wr

theorem low_fresh {w wr : World} {v v' : Value} (hs : w.heap.size ≤ wr.heap.size) (h : ∀ k, v.ownBlock = some k → w.heap.size ≤ k) (hf : Fresh wr v v') : ∀ k, v'.ownBlock = some k → w.heap.size ≤ k := fun k hk => by
  rcases hf k hk with g | g
  · exact h k g
  · omega

theorem RunMid.step {w wr w' : World} {t : Nat} {st st' : RSt} {vT vk vy vp vT' vk' vy' vp' : Value} {more : List (Value × Row)} (h : RunMid w wr t st vT vk vy vp more) (hr : RunRep w' t st' vT' vk' vy' vp' more)
    (hc : Chg (fun k => k = t ∨ vT.ownBlock = some k ∨ vk.ownBlock = some k ∨ vy.ownBlock = some k ∨ vp.ownBlock = some k) wr w') (f1 : Fresh wr vT vT') (f2 : Fresh wr vk vk') (f3 : Fresh wr vy vy') (f4 : Fresh wr vp vp') : RunMid w w' t st' vT' vk' vy' vp' more := by
  have hs := h.bel.size
  have hlow := h.low
  simp only [List.mem_cons, forall_eq_or_imp] at hlow
  obtain ⟨l1, l2, l3, l4, l5⟩ := hlow
  refine ⟨hr, ?_, h.tl, Chg.below h.bel hc hs (fun i hi => ?_)⟩
  · simp only [List.mem_cons, forall_eq_or_imp]
    exact ⟨low_fresh hs l1 f1, low_fresh hs l2 f2, low_fresh hs l3 f3, low_fresh hs l4 f4, l5⟩
  · rcases hi with rfl | hi | hi | hi | hi
    · exact h.tl
    · exact l1 i hi
    · exact l2 i hi
    · exact l3 i hi
    · exact l4 i hi

/-- One of the rows beside is appended to. -/
theorem RunMid.more {w wr w1 w' : World} {t : Nat} {st : RSt} {vT vk vy vp : Value} {m1 m2 : List (Value × Row)} {v : Value} {r r' : Row} {o : Obj} {g' n cap : Nat} (h : RunMid w wr t st vT vk vy vp (m1 ++ (v, r) :: m2)) (h1 : w1.heap = (wr.alloc o).heap)
    (h2 : Below w.heap.size w w1) (hT : r.e ≠ 40) (hg : w1.grownBy w' v.ownBlock) (ho : w'.ownsRow 0 r'.e r'.size (.slice (some ⟨g', 0, none⟩) n cap) r'.n r'.xs) (hat : v.ownBlock = some g' ∨ g' = w1.heap.size) :
    RunMid w w' t st vT vk vy vp (m1 ++ (.slice (some ⟨g', 0, none⟩) n cap, r') :: m2) := by
  have hs := h.bel.size
  have e : (vT, rowT st.T) :: (vk, rowI st.kn) :: (vy, rowI st.ks) :: (vp, rowI st.ps) :: (m1 ++ (v, r) :: m2) = ((vT, rowT st.T) :: (vk, rowI st.kn) :: (vy, rowI st.ks) :: (vp, rowI st.ps) :: m1) ++ (v, r) :: m2 := by simp
  have hr := h.rep.rows
  rw [e] at hr
  obtain ⟨hrows, hfr⟩ := rows_step hr h1 hg ho hat
  have hown := hr.mid
  have hlow := h.low
  rw [e] at hlow
  have hv := hlow (v, r) (by simp)
  refine ⟨⟨?_, by simpa using hrows⟩, ?_, h.tl, ?_⟩
  · have b1 : Blk w1 t 40 #[vT, vk, vy, vp] := Blk.heap (h.rep.blk.alloc o) h1
    exact b1.grown hg (h.rep.blk.own_ne hown hT)
  · intro p hp k hk
    have hp' : p ∈ ((vT, rowT st.T) :: (vk, rowI st.kn) :: (vy, rowI st.ks) :: (vp, rowI st.ps) :: m1) ++ (.slice (some ⟨g', 0, none⟩) n cap, r') :: m2 := by simpa using hp
    rcases List.mem_append.1 hp' with hp' | hp'
    · exact hlow p (List.mem_append.2 (.inl hp')) k hk
    · rcases List.mem_cons.1 hp' with rfl | hp'
      · exact low_fresh hs hv hfr k hk
      · exact hlow p (List.mem_append.2 (.inr (List.mem_cons_of_mem _ hp'))) k hk
  · refine h2.grown hg ?_ hv
    rw [h1]; simp; omega

/-! ### What is laid, in numbers -/
def secT (k : Nat) : List (Nat × Nat × Nat) := (List.range k).flatMap fun i => [(0, 0, 0), (3, 2 * i, 0)]
def secK (k : Nat) : List Nat := (List.range k).map fun i => 2 * i + 1
def evens (k : Nat) : List Nat := (List.range k).map fun i => 2 * i
theorem secT_succ (k : Nat) : secT (k + 1) = secT k ++ [(0, 0, 0), (3, 2 * k, 0)] := by simp [secT, List.range_succ]
theorem secT_length (k : Nat) : (secT k).length = 2 * k := by
  induction k with
  | zero => rfl
  | succ k ih => rw [secT_succ, List.length_append, ih]; simp; omega
theorem secK_succ (k : Nat) : secK (k + 1) = secK k ++ [2 * k + 1] := by simp [secK, List.range_succ]
theorem secK_length (k : Nat) : (secK k).length = k := by simp [secK]
theorem evens_succ (k : Nat) : evens (k + 1) = evens k ++ [2 * k] := by simp [evens, List.range_succ]
theorem evens_length (k : Nat) : (evens k).length = k := by simp [evens]

/-- What is known turns into another list, and the block is told so. -/
theorem RunMid.knTo {w wr w2 : World} {t : Nat} {st : RSt} {vT vk vy vp v' : Value} {more : List (Value × Row)} (h : RunMid w wr t st vT vk vy vp more) (hm : ∀ p ∈ more, p.2.e = 3) (kn' : List Nat)
    (hown : w2.ownsRow 0 3 1 v' kn'.length (nats kn')) (hgr : wr.grownBy w2 vk.ownBlock) (hat : v'.ownBlock = vk.ownBlock ∨ v'.ownBlock = some wr.heap.size) :
    Blk w2 t 40 #[vT, vk, vy, vp] ∧ (v' = vk → RunMid w w2 t ⟨st.T, kn', st.ks, st.ps⟩ vT v' vy vp more) ∧ RunMid w (w2.setCell ⟨t, 1, none⟩ v') t ⟨st.T, kn', st.ks, st.ps⟩ vT v' vy vp more := by
  have hkn : wr.ownsRow 0 3 1 vk st.kn.length (nats st.kn) := Owns.mid (l1 := [_]) h.rep.rows
  have b2 := h.rep.blk.grown hgr (h.rep.blk.own_ne hkn (by decide))
  have hs := h.bel.size
  have lk : ∀ k, vk.ownBlock = some k → w.heap.size ≤ k := h.low (vk, rowI st.kn) (by simp)
  have at' : v'.ownBlock = vk.ownBlock ∨ ∀ k, v'.ownBlock = some k → wr.heap.size ≤ k := hat.imp id (fun e k hk => by rw [e] at hk; injection hk with hk; omega)
  have rows : Owns w2 ((vT, rowT st.T) :: (v', rowI (kn')) :: (vy, rowI st.ks) :: (vp, rowI st.ps) :: more) :=
    Owns.grown (l1 := [(vT, rowT st.T)]) (r' := rowI (kn')) h.rep.rows hgr hown at'
  have low : ∀ p ∈ (vT, rowT st.T) :: (v', rowI kn') :: (vy, rowI st.ks) :: (vp, rowI st.ps) :: more, ∀ k, p.1.ownBlock = some k → w.heap.size ≤ k := by
    have hl := h.low
    simp only [List.mem_cons, forall_eq_or_imp] at hl ⊢
    refine ⟨hl.1, fun k hk => ?_, hl.2.2⟩
    rcases at' with e | e
    · exact lk k (e ▸ hk)
    · have := e k hk; omega
  refine ⟨b2, fun e => ⟨⟨by rw [e]; exact b2, rows⟩, low, h.tl, h.bel.grown hgr hs lk⟩, ⟨⟨by simpa using b2.set_ 1 v', Owns.setCell rows b2 (rows_ne (st := ⟨st.T, kn', st.ks, st.ps⟩) hm rfl) 1 _⟩, low, h.tl, (h.bel.grown hgr hs lk).setCell h.tl _⟩⟩

/-- What is known grows, and the block is told so. -/
theorem RunMid.kn {w wr w2 : World} {t : Nat} {st : RSt} {vT vk vy vp v' : Value} {more : List (Value × Row)} (h : RunMid w wr t st vT vk vy vp more) (hm : ∀ p ∈ more, p.2.e = 3) (xs : List Nat)
    (hown : w2.ownsRow 0 3 1 v' (st.kn.length + xs.length) (nats st.kn ++ nats xs)) (hgr : wr.grownBy w2 vk.ownBlock) (hat : v'.ownBlock = vk.ownBlock ∨ v'.ownBlock = some wr.heap.size) :
    Blk w2 t 40 #[vT, vk, vy, vp] ∧ RunMid w (w2.setCell ⟨t, 1, none⟩ v') t ⟨st.T, st.kn ++ xs, st.ks, st.ps⟩ vT v' vy vp more :=
  have h2 := (h.knTo hm (st.kn ++ xs) (by simpa [nats] using hown) hgr hat)
  ⟨h2.1, h2.2.2⟩

theorem RunMid.drewN {w wr : World} {t : Nat} {st : RSt} {vT vk vy vp : Value} {more : List (Value × Row)} (h : RunMid w wr t st vT vk vy vp more) (k : Nat) : RunMid w (wr.drewN k) t st vT vk vy vp more :=
  ⟨h.rep.drewN k, h.low, h.tl, below_drewN h.bel k⟩
theorem RunMid.alloc {w wr : World} {t : Nat} {st : RSt} {vT vk vy vp : Value} {more : List (Value × Row)} (h : RunMid w wr t st vT vk vy vp more) (o : Obj) : RunMid w (wr.alloc o) t st vT vk vy vp more :=
  ⟨h.rep.alloc o, h.low, h.tl, h.bel.alloc h.bel.size o⟩
/-- A new row of ints beside. -/
theorem RunMid.new {w wr : World} {t : Nat} {st : RSt} {vT vk vy vp : Value} {more : List (Value × Row)} (h : RunMid w wr t st vT vk vy vp more) (l : List Nat) (hl : l.length ≤ 1000) :
    RunMid w (wr.alloc (.cells (nats l).toArray 3)) t st vT vk vy vp (more ++ [(.slice (some ⟨wr.heap.size, 0, none⟩) l.length l.length, rowI l)]) := by
  have ho : (wr.alloc (.cells (nats l).toArray 3)).ownsRow 0 3 1 (.slice (some ⟨wr.heap.size, 0, none⟩) l.length l.length) l.length (nats l) := by
    simpa using World.ownsRow_lit (base := 0) (e := 3) (size := 1) wr (nats l).toArray l.length (Nat.zero_le _) (by unfold maxLen; omega) (by simp [nats])
  have h1 := h.alloc (.cells (nats l).toArray 3)
  have e : (vT, rowT st.T) :: (vk, rowI st.kn) :: (vy, rowI st.ks) :: (vp, rowI st.ps) :: (more ++ [(Value.slice (some ⟨wr.heap.size, 0, none⟩) l.length l.length, rowI l)]) = ((vT, rowT st.T) :: (vk, rowI st.kn) :: (vy, rowI st.ks) :: (vp, rowI st.ps) :: more) ++ [(Value.slice (some ⟨wr.heap.size, 0, none⟩) l.length l.length, rowI l)] := by simp
  refine ⟨⟨h1.rep.blk, ?_⟩, ?_, h.tl, h1.bel⟩
  · rw [e]
    refine ⟨fun p hp => ?_, ?_⟩
    · rcases List.mem_append.1 hp with hp | hp
      · exact h1.rep.rows.1 p hp
      · simp only [List.mem_singleton] at hp; subst hp; exact ho
    · rw [List.pairwise_append]
      refine ⟨h.rep.rows.2, by simp, fun a ha b hb k hk hk' => ?_⟩
      simp only [List.mem_singleton] at hb
      subst hb
      have := h.rep.rows.lt a ha k hk
      simp only [Value.ownBlock] at hk'
      injection hk' with hk'
      omega
  · rw [e]
    intro p hp k hk
    rcases List.mem_append.1 hp with hp | hp
    · exact h.low p hp k hk
    · simp only [List.mem_singleton] at hp
      subst hp
      simp only [Value.ownBlock] at hk
      injection hk with hk
      have := h.bel.size
      omega

/-- The beginning: all four lists nil. -/
theorem RunMid.start (w : World) (o : Obj) : RunMid (w.alloc o) ((w.alloc o).alloc (.cells #[.slice none 0 0, .slice none 0 0, .slice none 0 0, .slice none 0 0] 40)) (w.heap.size + 1) ⟨[], [], [], []⟩ (.slice none 0 0) (.slice none 0 0) (.slice none 0 0) (.slice none 0 0) [(.slice none 0 0, rowI [])] := by
  refine ⟨⟨?_, ?_⟩, ?_, by simp, (Below.refl _ _).alloc (Nat.le_refl _) _⟩
  · have := Blk.new (w.alloc o) 40 #[.slice none 0 0, .slice none 0 0, .slice none 0 0, .slice none 0 0]
    simpa using this
  · refine ⟨fun p hp => ?_, ?_⟩
    · simp only [List.mem_cons, List.not_mem_nil, or_false] at hp
      rcases hp with rfl | rfl | rfl | rfl | rfl <;> exact World.ownsRow_nil _ _ _ _
    · simp [Dis, Value.ownBlock]
  · intro p hp k hk
    simp only [List.mem_cons, List.not_mem_nil, or_false] at hp
    rcases hp with rfl | rfl | rfl | rfl | rfl <;> simp [Value.ownBlock] at hk

/-! frames: M: the newest epoch; ep: each frame's epoch -/
def NN (M i : Nat) : Nat := 2 * (M + 2) + 10 * i
def chainAt (M i : Nat) : Nat := if i = 0 then 2 * (M + 1) else NN M (i - 1) + 2
def frT (M : Nat) (ep : List Nat) (k : Nat) : List (Nat × Nat × Nat) := (List.range k).flatMap fun i => frameT (NN M i) (chainAt M i) (2 * ep.getD i 0)
def frK (M k : Nat) : List Nat := (List.range k).flatMap fun i => [NN M i + 1, NN M i + 9]
def frY (M k : Nat) : List Nat := (List.range k).map fun i => NN M i + 7
def frP (M k : Nat) : List Nat := (List.range k).map fun i => NN M i + 3
def chainsL (M k : Nat) : List Nat := (List.range (k + 1)).map (chainAt M)
def stB (M : Nat) (ep : List Nat) (k : Nat) : RSt := ⟨secT (M + 2) ++ frT M ep k, secK (M + 2) ++ frK M k, frY M k, frP M k⟩
theorem frT_succ (M : Nat) (ep : List Nat) (k : Nat) : frT M ep (k + 1) = frT M ep k ++ frameT (NN M k) (chainAt M k) (2 * ep.getD k 0) := by simp [frT, List.range_succ]
theorem frT_length (M : Nat) (ep : List Nat) (k : Nat) : (frT M ep k).length = 10 * k := by
  induction k with
  | zero => rfl
  | succ k ih => rw [frT_succ, List.length_append, ih]; simp [frameT]; omega
theorem frK_succ (M k : Nat) : frK M (k + 1) = frK M k ++ [NN M k + 1, NN M k + 9] := by simp [frK, List.range_succ]
theorem frK_length (M k : Nat) : (frK M k).length = 2 * k := by
  induction k with
  | zero => rfl
  | succ k ih => rw [frK_succ, List.length_append, ih]; simp; omega
theorem frY_succ (M k : Nat) : frY M (k + 1) = frY M k ++ [NN M k + 7] := by simp [frY, List.range_succ]
theorem frP_succ (M k : Nat) : frP M (k + 1) = frP M k ++ [NN M k + 3] := by simp [frP, List.range_succ]
theorem frY_length (M k : Nat) : (frY M k).length = k := by simp [frY]
theorem frP_length (M k : Nat) : (frP M k).length = k := by simp [frP]
theorem chainsL_succ (M k : Nat) : chainsL M (k + 1) = chainsL M k ++ [NN M k + 2] := by simp [chainsL, List.range_succ, chainAt]
theorem chainsL_length (M k : Nat) : (chainsL M k).length = k + 1 := by simp [chainsL]
theorem stB_T_length (M : Nat) (ep : List Nat) (k : Nat) : (stB M ep k).T.length = NN M k := by simp [stB, secT_length, frT_length, NN]
theorem stB_zero (M : Nat) (ep : List Nat) : stB M ep 0 = ⟨secT (M + 1) ++ [(0, 0, 0), (3, (secT (M + 1)).length, 0)], secK (M + 1) ++ [(secT (M + 1)).length + 1], [], []⟩ := by
  simp [stB, frT, frK, frY, frP, secT_succ (M + 1), secK_succ (M + 1), secT_length]
theorem chainsL_zero (M : Nat) : chainsL M 0 = [(secT (M + 1)).length] := by simp [chainsL, chainAt, secT_length]
theorem nats_get {l : List Nat} {i : Nat} (h : i < l.length) : (nats l)[i]? = some (.int .i64 (l.getD i 0 : Nat)) := by simp [nats, h]

/-! what was seen -/
def seenE (M : Nat) (x : Nat × Nat × Nat) : List Nat := chainAt M x.1 :: ((evens (M + 1)).take (x.2.2 + 1)).drop x.2.1
def stC (M : Nat) (st : LSt) (j : Nat) : RSt :=
  ⟨(stB M st.ep st.ep.length).T, (stB M st.ep st.ep.length).kn ++ (st.sn.take j).flatMap (seenE M), (stB M st.ep st.ep.length).ks, (stB M st.ep st.ep.length).ps⟩
theorem stC_succ (M : Nat) (st : LSt) (j : Nat) (h : j < st.sn.length) : stC M st (j + 1) = ⟨(stC M st j).T, (stC M st j).kn ++ seenE M st.sn[j], (stC M st j).ks, (stC M st j).ps⟩ := by
  simp only [stC, List.take_succ_eq_append_getElem h, List.flatMap_append, List.flatMap_cons, List.flatMap_nil, List.append_nil, List.append_assoc]
theorem stC_zero (M : Nat) (st : LSt) : stC M st 0 = stB M st.ep st.ep.length := by simp [stC]

theorem stC_kn_length (M : Nat) (st : LSt) (hs : st.sn.length ≤ 30) (hx : ∀ x ∈ st.sn, x.2.2 ≤ M) (hM : M ≤ 6) (he : st.ep.length ≤ 6) (j : Nat) : (stC M st j).kn.length ≤ 400 := by
  have h : ∀ l : List (Nat × Nat × Nat), (∀ x ∈ l, x.2.2 ≤ M) → (l.flatMap (seenE M)).length ≤ l.length * 8 := by
    intro l
    induction l with
    | nil => intro _; simp
    | cons a l ih =>
      intro hl
      have h1 := ih (fun x hx => hl x (by simp [hx]))
      have h2 := hl a (by simp)
      simp only [List.flatMap_cons, List.length_append, List.length_cons, seenE, List.length_drop, List.length_take, evens_length]
      omega
  have h1 := h (st.sn.take j) (fun x hx' => hx x (List.mem_of_mem_take hx'))
  have h2 : (st.sn.take j).length ≤ 30 := by simp; omega
  simp only [stC, stB, List.length_append, secK_length, frK_length]
  omega

/-- A cut out of the row of even numbers. -/
theorem evens_cut {w : World} {lo hi Mq : Nat} (b c : Nat) (h1 : lo ≤ hi) (h2 : hi < Mq) (h3 : Mq ≤ c) (h4 : c ≤ maxLen) (hc : ∀ j u, (nats (evens Mq))[j]? = some u → w.cell? ⟨b, j, none⟩ = some u) :
    Sl w 1 (.slice (some ⟨b, lo, none⟩) (hi + 1 - lo) (c - lo)) (hi + 1 - lo) (nats (((evens Mq).take (hi + 1)).drop lo)) := by
  refine ⟨?_, _, _, rfl, by omega, by omega, fun _ => ⟨b, lo, rfl, fun j u hu => ?_⟩⟩
  · simp [nats, evens_length]; omega
  · refine hc (lo + j) u ?_
    rw [← hu]
    simp only [nats, List.getElem?_map, List.getElem?_drop, List.getElem?_take]
    have hj : lo + j < hi + 1 := by
      have := (List.getElem?_eq_some_iff.1 hu).1
      simp [nats, evens_length] at this
      omega
    simp [hj]

theorem Owns.sub {w : World} {l l' : List (Value × Row)} (h : Owns w l) (hp : l' <+: l) : Owns w l' :=
  ⟨fun p h' => h.1 p (hp.subset h'), h.2.sublist hp.sublist⟩
theorem one_int {v : Value} {l : List Nat} : ∀ p ∈ [(v, rowI l)], p.2.e = 3 := by simp [rowI]
theorem two_int {v v' : Value} {l l' : List Nat} : ∀ p ∈ [(v, rowI l), (v', rowI l')], p.2.e = 3 := by simp [rowI]

/-- The line in terms: terms, what is known, keys, payloads. -/
def finR (st : LSt) : RSt := ⟨(stC st.nw st st.sn.length).T, Lib.compact (srt (stC st.nw st st.sn.length).kn), (stC st.nw st st.sn.length).ks, (stC st.nw st st.sn.length).ps⟩
def runPost (w : World) (st : LSt) (e : Ending) (w' : World) : Prop :=
  ∃ vT vk vy vp, e = .returned (.agg #[vT, vk, vy, vp]) ∧ Owns w' [(vT, rowT (finR st).T), (vk, rowI (finR st).kn), (vy, rowI (finR st).ks), (vp, rowI (finR st).ps)] ∧ Below w.heap.size w w'

set_option maxRecDepth 100000 in
set_option maxHeartbeats 4000000 in
theorem run_calls {w : World} {g : Nat} {F : Nat → Prop} {st : LSt} {ve vs : Value} (h : LRep w g F st ve vs) (ok : LOk st) (hsn : ∀ x ∈ st.sn, x.1 ≤ st.ep.length ∧ x.2.1 ≤ x.2.2 ∧ x.2.2 ≤ st.nw) :
    Calls Try.prog 14 #[.pointer (some ⟨g, 0, none⟩)] w (runPost w st) := by
  obtain ⟨A, c, rfl, hnc, hcm⟩ := own_len h.ep
  obtain ⟨A', c', rfl, hnc', hcm'⟩ := own_len h.sn
  have HR := Lib.hid h
  have c2 := h.blk.cell 2
  have hlt := h.blk.lt
  have hnw := ok.nw
  have hle := ok.len
  have hls := ok.sn
  simp only [List.getElem?_toArray, List.getElem?_cons_zero, List.getElem?_cons_succ] at c2
  clear h
  generalize hE : st.ep.length = E at *
  generalize hS : st.sn.length = S at *
  have HES := Lib.hid (And.intro hE hS)
  clear hE hS
  generalize hM : st.nw = M at *
  have HM := Lib.hid hM
  have HKL := Lib.hid (fun j (_ : j ≤ j) => stC_kn_length M st (by rw [HES.out.2]; exact hls) (fun x hx => (hsn x hx).2.2) hnw (by rw [HES.out.1]; exact hle) j)
  clear hM
  obtain ⟨W, hW⟩ : ∃ W, W = w.alloc (.cells #[.slice none 0 0, .slice none 0 0, .slice none 0 0, .slice none 0 0] 40) := ⟨_, rfl⟩
  have HW := Lib.hid hW
  have HB : Hid (Below w.heap.size w W) := Lib.hid (by rw [hW]; exact (Below.refl _ _).alloc (Nat.le_refl _) _)
  clear hW
  go_enter Try.func14, Try.ntmps14
  go_wp2_with fail
  go_loopw [4, 15] (fun v i wr => ∃ (k : Nat) (vT vk : Value), k ≤ M + 1 ∧ i = .int .i64 (k : Int) ∧ RunMid W wr (w.heap.size + 1) ⟨secT k, secK k, [], []⟩ vT vk (.slice none 0 0) (.slice none 0 0) [(v, rowI (evens k))]) (fun _ i _ => M + 1 - (intOf i).toNat)
  case atStart => exact ⟨0, _, _, by omega, rfl, by rw [HW.out]; exact RunMid.start w _⟩
  case round =>
    obtain ⟨k, vT, vk, hk, rfl, hm⟩ := hrel
    have H1 := Lib.hid hm
    clear hm
    by_cases hkt : k < M + 1
    · have hc : decide ((k : Int) < (M : Int) + 1) = true := by simp; omega
      go_wp2_with fail
      refine (secret_calls H1.out.rep one_int (by simp [secT_length]; omega) (by simp [secK_length]; omega)).mono ?_
      rintro e w1 ⟨rfl, vT1, vk1, h1, hc1, hf1, hf2⟩
      have m1 := H1.out.step h1 (hc1.mono (fun i hi => hi.imp id (fun g => g.imp id .inl))) hf1 hf2 (Fresh.refl _ _) (Fresh.refl _ _)
      have ho1 : w1.ownsRow 0 3 1 u4 k (nats (evens k)) := by simpa [rowI, evens_length] using Owns.mid (l1 := [_, _, _, _]) m1.rep.rows
      have M1 := Lib.hid m1
      clear h1 hc1 hf1 hf2 m1
      have s1 := M1.out.bel.size
      go_wp2_with (refine list_app ty_ints rfl (.tmp 17) (.tmp 19) rfl (by rfl) (own_heap (ho1.alloc _) (by rfl)) w1.heap.size 1 1 3 #[.int .i64 _] (by rfl) (by exact heap_alloc_new w1 _) rfl (by simp [Value.oneCell']) (by decide) (by unfold maxLen; omega) (by omega) (by simp) ?_; intro g' cap w2 hown hgr hat hlt')
      go_roundw
      case rel =>
        refine ⟨k + 1, vT1, vk1, by omega, by go_num, ?_⟩
        have := RunMid.more (m1 := []) (m2 := []) (r' := rowI (evens (k + 1))) M1.out rfl (M1.out.bel.alloc s1 _) (by simp [rowI]) hgr (by simpa [rowI, evens_succ, nats_snoc, evens_length, secT_length] using hown) hat
        simpa [secT_succ, secK_succ, secT_length] using this
      case measure => simp [intOf]; omega
    · obtain rfl : k = M + 1 := by omega
      have hc : decide (((M + 1 : Nat) : Int) < (M : Int) + 1) = false := by simp
      go_wp2_with fail
      refine (secret_calls H1.out.rep one_int (by simp [secT_length]; omega) (by simp [secK_length]; omega)).mono ?_
      rintro e w1 ⟨rfl, vT1, vk1, h1, hc1, hf1, hf2⟩
      have m1 := H1.out.step h1 (hc1.mono (fun i hi => hi.imp id (fun g => g.imp id .inl))) hf1 hf2 (Fresh.refl _ _) (Fresh.refl _ _)
      have m2 := m1.new [(secT (M + 1)).length] (by simp)
      have M2 := Lib.hid m2
      have M1 := Lib.hid m1
      clear h1 hc1 hf1 hf2 m1 m2
      have hr := HR.out.below (below_trans HB.out M1.out.bel)
      have c0 := hr.blk.cell 0
      have lr := hr.blk.lt
      simp only [List.getElem?_toArray, List.getElem?_cons_zero, List.getElem?_cons_succ] at c0
      clear hr
      go_wp2_with fail
      have L1 := HR.out.below (below_trans HB.out M1.out.bel)
      go_loopw [5, 29] (fun v i wr => ∃ (k : Nat) (vT vk vy vp : Value), k ≤ E ∧ i = .int .i64 (k : Int) ∧ RunMid W wr (w.heap.size + 1) (stB M st.ep k) vT vk vy vp [(u4, rowI (evens (M + 1))), (v, rowI (chainsL M k))]) (fun _ i _ => E - (intOf i).toNat)
      case atStart => exact ⟨0, vT1, vk1, _, _, by omega, rfl, by rw [stB_zero, chainsL_zero]; exact M2.out⟩
      case round =>
        obtain ⟨k, vT, vk, vy, vp, hk, rfl, hm⟩ := hrel
        have H2 := Lib.hid hm
        clear hm
        by_cases hkt : k < E
        · have hle' := HR.out.below (below_trans HB.out H2.out.bel)
          obtain ⟨gb, cc, hv, _, _, _, hglt, hcell⟩ := own_at (n := E) (by have := hle'.ep; rw [HES.out.1] at this; exact this) (by omega)
          injection hv with hv1 hv2 hv3
          subst hv1
          clear hv2 hv3
          have e0 := hcell k _ (nats_get (by rw [HES.out.1]; exact hkt))
          clear hcell hle'
          generalize hX : st.ep.getD k 0 = X at *
          have HX := Lib.hid hX
          clear hX
          have hXM : X ≤ M := by
            have := HX.out; rw [← this, List.getD, List.getElem?_eq_getElem (by rw [HES.out.1]; exact hkt)]
            rw [← HM.out]
            exact ok.eps _ (List.getElem_mem _)
          have hch := H2.out.rep.rows.1 (u5, rowI (chainsL M k)) (by simp)
          have hev := H2.out.rep.rows.1 (u4, rowI (evens (M + 1))) (by simp)
          simp only [rowI, chainsL_length, evens_length] at hch hev
          generalize hk1 : k + 1 = K1 at hch
          generalize hm1 : M + 1 = Mq at hev
          have i0 : k < K1 := by omega
          have i1 : X < Mq := by omega
          have HK1 := Lib.hid (And.intro hk1 hm1)
          obtain ⟨gc, cch, hv1, _, _, _, hgc, hcc⟩ := own_at hch (by omega)
          obtain ⟨ge, cev, hv2, _, _, _, hge, hce⟩ := own_at hev (by omega)
          subst hv1
          subst hv2
          have e1 := hcc k _ (nats_get (by rw [chainsL_length]; omega))
          have e2 := hce X _ (nats_get (by rw [evens_length]; exact i1))
          have hg1 : (chainsL M k).getD k 0 = chainAt M k := by simp [chainsL]
          have hg2 : (evens Mq).getD X 0 = 2 * X := by simp [evens, List.getElem?_range i1]
          rw [hg1] at e1
          rw [hg2] at e2
          clear hg1 hg2 hcc hce hch hev hk1 hm1
          obtain ⟨q, hq⟩ : ∃ q, q = 2 * X := ⟨_, rfl⟩
          rw [← hq] at e2
          have HQ := Lib.hid hq
          clear hq
          go_wp2_with fail
          refine wp_region_I [⟨4, [9], ⟨gc, k, none⟩, .int .i64 (chainAt M k : Int)⟩, ⟨8, [9], ⟨ge, X, none⟩, .int .i64 (q : Int)⟩] (by kernel_rfl) ?_
          refine wpAnyI_takes (by kernel_rfl) (fun _ _ _ _ _ h => h) [0,1,2,3,4,5,6,7,8] 4 _ _ _ (by kernel_rfl) (SH_cons (fun _ => e1) (SH_cons (fun _ => e2) SH_nil)) ?_
          intro K hK
          repeat
            (refine takeW_cons (oi := ?_) (v := ?_) ?_ ?_ ?_ ?_
             rotate_left 2
             · (simp only [List.getElem?_toArray, List.getElem?_cons_zero, List.getElem?_cons_succ]; rfl)
             · rfl
             · (intro w' hw'; (try (have hc : w'.cell? _ = some _ := hw'; clear hw')); go_simp; (try with_reducible rfl))
             try simp only [Act.put, List.setIfInBounds_toArray, List.set_cons_zero, List.set_cons_succ])
          refine takeW_nil (hK.out _ ?_)
          clear hK K
          refine wpAnyI_run (i := 9) (o := ?_) (by kernel_rfl) ?_ (fun K hK => ?_)
          rotate_left 1
          · (simp only [List.getElem?_toArray, List.getElem?_cons_zero, List.getElem?_cons_succ]; rfl)
          go_wp2_with fail
          refine (frame_calls (H2.out.rep.drewN 1) two_int (by rw [stB_T_length]; unfold NN; omega) (by simp [stB, secK_length, frK_length]; omega) (by simp [stB, frY_length]; omega) (by simp [stB, frP_length]; omega) (chainAt M k) q).mono ?_
          rintro e w3 ⟨rfl, vT3, vk3, vy3, vp3, h3, hc3, f1, f2, f3, f4⟩
          have m3 := (H2.out.drewN 1).step h3 hc3 f1 f2 f3 f4
          have e3 : (⟨(stB M st.ep k).T ++ frameT (stB M st.ep k).T.length (chainAt M k) q, (stB M st.ep k).kn ++ [(stB M st.ep k).T.length + 1, (stB M st.ep k).T.length + 9], (stB M st.ep k).ks ++ [(stB M st.ep k).T.length + 7], (stB M st.ep k).ps ++ [(stB M st.ep k).T.length + 3]⟩ : RSt) = stB M st.ep (k + 1) := by
            rw [stB_T_length, HQ.out, ← HX.out]; simp [stB, frT_succ, frK_succ, frY_succ, frP_succ]
          rw [e3] at m3
          rw [stB_T_length]
          have M3 := Lib.hid m3
          clear h3 hc3 f1 f2 f3 f4 m3 e3
          go_wp2_with fail
          refine hK.out _ _ (SH_cons (fun h => by cases h) (SH_cons (fun h => by cases h) SH_nil)) ?_
          clear hK K
          refine wpAnyI_run (i := 10) (o := ?_) (by kernel_rfl) ?_ (fun K hK => ?_)
          rotate_left 1
          · (simp only [List.getElem?_toArray, List.getElem?_cons_zero, List.getElem?_cons_succ]; rfl)
          go_wp2_with fail
          refine hK.out _ _ (SH_cons (fun h => by cases h) (SH_cons (fun h => by cases h) SH_nil)) ?_
          clear hK K
          have hch3 := M3.out.rep.rows.1 (.slice (some ⟨gc, 0, none⟩) K1 cch, rowI (chainsL M k)) (by simp)
          simp only [rowI, chainsL_length] at hch3
          rw [HK1.out.1] at hch3
          have s3 := M3.out.bel.size
          have hK7 : K1 ≤ 7 := by have := HK1.out.1; omega
          refine wpAnyI_run (i := 11) (o := ?_) (by kernel_rfl) ?_ (fun K hK => ?_)
          rotate_left 1
          · (simp only [List.getElem?_toArray, List.getElem?_cons_zero, List.getElem?_cons_succ]; rfl)
          go_wp2_with (refine list_app ty_ints rfl (.tmp 34) (.tmp 44) rfl (by rfl) (own_heap (hch3.alloc _) (by rfl)) w3.heap.size 1 1 3 #[.int .i64 _] (by rfl) (by exact heap_alloc_new w3 _) rfl (by simp [Value.oneCell']) (by decide) (by unfold maxLen; omega) (by omega) (by simp) ?_; intro g' cap w4 hown hgr hat hlt')
          have m4 := RunMid.more (m1 := [(_, rowI (evens (M + 1)))]) (m2 := []) (r' := rowI (chainsL M (k + 1))) M3.out rfl (M3.out.bel.alloc s3 _) (by simp [rowI]) hgr (by simpa [rowI, chainsL_succ, nats_snoc, chainsL_length, ← HK1.out.1] using hown) hat
          have M4 := Lib.hid m4
          clear m4 hown hgr hch3
          refine hK.out _ _ (SH_cons (fun h => by cases h) (SH_cons (fun h => by cases h) SH_nil)) ?_
          clear hK K
          refine wpAnyI_takes (by kernel_rfl) (fun _ _ _ _ _ h => h) [12] 0 _ _ _ (by kernel_rfl) (SH_cons (fun h => by cases h) (SH_cons (fun h => by cases h) SH_nil)) ?_
          intro K hK
          repeat
            (refine takeW_cons (oi := ?_) (v := ?_) ?_ ?_ ?_ ?_
             rotate_left 2
             · (simp only [List.getElem?_toArray, List.getElem?_cons_zero, List.getElem?_cons_succ]; rfl)
             · rfl
             · (intro w' hw'; (try (have hc : w'.cell? _ = some _ := hw'; clear hw')); go_simp; (try with_reducible rfl))
             try simp only [Act.put, List.setIfInBounds_toArray, List.set_cons_zero, List.set_cons_succ])
          refine takeW_nil (hK.out _ ?_)
          clear hK K
          refine wpAnyI_done (by kernel_rfl) ?_ _
          go_wp2_with fail
          go_roundw
          case rel => exact ⟨k + 1, vT3, vk3, vy3, vp3, by omega, by go_num, by obtain ⟨q1, q2⟩ := HK1.out; subst q1; subst q2; exact M4.out⟩
          case measure => simp [intOf]; omega
        · obtain rfl : k = E := by omega
          have hc : decide ((k : Int) < (k : Int)) = false := by simp
          have hr3 := HR.out.below (below_trans HB.out H2.out.bel)
          have c3 := hr3.blk.cell 3
          have lr3 := hr3.blk.lt
          simp only [List.getElem?_toArray, List.getElem?_cons_zero, List.getElem?_cons_succ] at c3
          clear hr3
          go_wp2_with fail
          go_loopw [52] (fun i wr => ∃ (j : Nat) (vk' : Value), j ≤ S ∧ i = .int .i64 (j : Int) ∧ RunMid W wr (w.heap.size + 1) (stC M st j) vT vk' vy vp [(u4, rowI (evens (M + 1))), (u5, rowI (chainsL M k))]) (fun i _ => S - (intOf i).toNat)
          case atStart => exact ⟨0, vk, by omega, rfl, by rw [stC_zero, HES.out.1]; exact H2.out⟩
          case round =>
            have KE := Lib.hid HES.out.1
            clear H2 c3 lr3 c0 lr c2 hlt
            obtain ⟨j, vk', hj, rfl, hm⟩ := hrel
            have H3 := Lib.hid hm
            clear hm
            by_cases hjt : j < S
            · have hle' := HR.out.below (below_trans HB.out H3.out.bel)
              obtain ⟨gs, cs, hv, _, _, _, hglt, hcell⟩ := own_at (n := S) (by have := hle'.sn; rw [HES.out.2] at this; exact this) (by omega)
              injection hv with hv1 hv2 hv3
              subst hv1
              clear hv2 hv3
              have hjs : j < st.sn.length := by rw [HES.out.2]; exact hjt
              obtain ⟨s0, s1, s2⟩ := snv_at st.sn j hjs
              have c0 := hcell _ _ s0
              have c1 := hcell _ _ s1
              have c2 := hcell _ _ s2
              clear hcell hle' s0 s1 s2
              have hx := hsn _ (List.getElem_mem hjs)
              generalize hxx : st.sn[j] = x at *
              obtain ⟨x1, x2, x3⟩ := x
              simp only at hx c0 c1 c2
              have HX := Lib.hid hxx
              clear hxx
              go_wp2_with fail
              have bS := Blk.new wr 62 #[.int .i64 (x1 : Int), .int .i64 (x2 : Int), .int .i64 (x3 : Int)]
              have m4 := H3.out.alloc (.cells #[.int .i64 (x1 : Int), .int .i64 (x2 : Int), .int .i64 (x3 : Int)] 62)
              generalize wr.alloc (.cells #[.int .i64 (x1 : Int), .int .i64 (x2 : Int), .int .i64 (x3 : Int)] 62) = wb at *
              generalize wr.heap.size = sb at *
              have hch := m4.rep.rows.1 (u5, rowI (chainsL M k)) (by simp)
              simp only [rowI, chainsL_length] at hch
              obtain ⟨gc, cch, hv1, _, _, _, hgc, hcc⟩ := own_at hch (by omega)
              have e1 := hcc x1 _ (nats_get (by rw [chainsL_length]; omega))
              have hg1 : (chainsL M k).getD x1 0 = chainAt M x1 := by simp [chainsL, List.getElem?_range (show x1 < k + 1 by omega)]
              rw [hg1] at e1
              have d0 := bS.cell 0
              have d1 := m4.rep.blk.cell 1
              simp only [List.getElem?_toArray, List.getElem?_cons_zero, List.getElem?_cons_succ] at d0 d1
              have lt1 := m4.rep.blk.lt
              have hkn : wb.ownsRow 0 3 1 vk' (stC M st j).kn.length (nats (stC M st j).kn) := Owns.mid (l1 := [_]) m4.rep.rows
              have HKN := Lib.hid hkn
              have HV1 := Lib.hid hv1
              have M4 := Lib.hid m4
              have HBS := Lib.hid bS
              obtain ⟨K1, hK1⟩ : ∃ K1, K1 = k + 1 := ⟨_, rfl⟩
              rw [← hK1] at hv1
              have i1 : x1 < K1 := by omega
              have HK1 := Lib.hid hK1
              subst hv1
              clear hch hcc hg1 bS m4 hkn hK1
              refine wp_region_I [⟨1, [8, 10], ⟨w.heap.size + 1, 1, none⟩, vk'⟩, ⟨4, [10], ⟨sb, 0, none⟩, .int .i64 (x1 : Int)⟩, ⟨6, [7, 10], ⟨gc, x1, none⟩, .int .i64 (chainAt M x1 : Int)⟩] (by kernel_rfl) ?_
              refine wpAnyI_takes (by kernel_rfl) (fun _ _ _ _ _ h => h) [0,1,2,3,4,5,6] 4 _ _ _ (by kernel_rfl) (SH_cons (fun _ => d1) (SH_cons (fun _ => d0) (SH_cons (fun _ => e1) SH_nil))) ?_
              intro K hK
              repeat
                (refine takeW_cons (oi := ?_) (v := ?_) ?_ ?_ ?_ ?_
                 rotate_left 2
                 · (simp only [List.getElem?_toArray, List.getElem?_cons_zero, List.getElem?_cons_succ]; rfl)
                 · rfl
                 · (intro w' hw'; (try (have hc : w'.cell? _ = some _ := hw'; clear hw')); go_simp; (try with_reducible rfl))
                 try simp only [Act.put, List.setIfInBounds_toArray, List.set_cons_zero, List.set_cons_succ])
              refine takeW_nil (hK.out _ ?_)
              clear hK K
              have hA : ∀ (o : Obj) (i : Nat), (wb.alloc o).cell? ⟨w.heap.size + 1, i, none⟩ = wb.cell? ⟨w.heap.size + 1, i, none⟩ := fun o i => World.cell?_alloc_lt wb o _ lt1
              have hB : ∀ (o : Obj) (i : Nat), (wb.alloc o).cell? ⟨sb, i, none⟩ = wb.cell? ⟨sb, i, none⟩ := fun o i => World.cell?_alloc_lt wb o _ HBS.out.lt
              have sz4 := M4.out.bel.size
              have hkl : (stC M st j).kn.length ≤ 2000 := by have := HKL.out j (Nat.le_refl _); omega
              refine wpAnyI_run (i := 7) (o := ?_) (by kernel_rfl) ?_ (fun K hK => ?_)
              rotate_left 1
              · (simp only [List.getElem?_toArray, List.getElem?_cons_zero, List.getElem?_cons_succ]; rfl)
              go_wp2_with fail
              refine hK.out _ _ (SH_cons (fun _ => (hA _ _).trans d1) (SH_cons (fun _ => (hB _ _).trans d0) (SH_cons (fun h => by cases h) SH_nil))) ?_
              clear hK K
              refine wpAnyI_run (i := 8) (o := ?_) (by kernel_rfl) ?_ (fun K hK => ?_)
              rotate_left 1
              · (simp only [List.getElem?_toArray, List.getElem?_cons_zero, List.getElem?_cons_succ]; rfl)
              go_wp2_with (refine list_app ty_ints rfl (.tmp 57) (.tmp 63) rfl (by rfl) (own_heap (HKN.out.alloc _) (by rfl)) wb.heap.size 1 1 3 #[.int .i64 _] (by rfl) (by exact heap_alloc_new wb _) rfl (by simp [Value.oneCell']) (by decide) (by unfold maxLen; omega) (by omega) (by simp) ?_; intro g' cap w5 hown hgr hat hlt')
              obtain ⟨b5, m5⟩ := RunMid.kn ((M4.out.alloc _).drewN 1) two_int [chainAt M x1] (by simpa [rowI, nats] using hown) hgr (hat.imp (fun h => by rw [h]; rfl) (fun h => by rw [h]; rfl))
              have hbs5 := Blk.grown ((HBS.out.alloc _).drewN 1) hgr (HBS.out.own_ne HKN.out (by simp [rowI]))
              have k5 := b5.cell 1
              have f5 := b5.frozen 1
              have d5 := hbs5.cell 0
              simp only [List.getElem?_toArray, List.getElem?_cons_zero, List.getElem?_cons_succ] at k5 d5
              refine hK.out _ _ (SH_cons (fun h => by cases h) (SH_cons (fun _ => d5) (SH_cons (fun h => by cases h) SH_nil))) ?_
              clear hK K
              refine wpAnyI_takes (by kernel_rfl) (fun _ _ _ _ _ h => h) [9] 1 _ _ _ (by kernel_rfl) (SH_cons (fun h => by cases h) (SH_cons (fun _ => d5) (SH_cons (fun h => by cases h) SH_nil))) ?_
              intro K hK
              repeat
                (refine takeW_cons (oi := ?_) (v := ?_) ?_ ?_ ?_ ?_
                 rotate_left 2
                 · (simp only [List.getElem?_toArray, List.getElem?_cons_zero, List.getElem?_cons_succ]; rfl)
                 · rfl
                 · (intro w' hw'; (try (have hc : w'.cell? _ = some _ := hw'; clear hw')); go_simp; (try with_reducible rfl))
                 try simp only [Act.put, List.setIfInBounds_toArray, List.set_cons_zero, List.set_cons_succ])
              refine takeW_nil (hK.out _ ?_)
              clear hK K
              refine wpAnyI_run (i := 10) (o := ?_) (by kernel_rfl) ?_ (fun K hK => ?_)
              rotate_left 1
              · (simp only [List.getElem?_toArray, List.getElem?_cons_zero, List.getElem?_cons_succ]; rfl)
              go_wp2_with fail
              refine hK.out _ _ (SH_cons (fun h => by cases h) (SH_cons (fun h => by cases h) (SH_cons (fun h => by cases h) SH_nil))) ?_
              clear hK K
              refine wpAnyI_done (by kernel_rfl) ?_ _
              have bs6 := hbs5.far (p := ⟨w.heap.size + 1, 1, none⟩) (hbs5.ne_ b5 (by decide)) (.slice (some ⟨g', 0, none⟩) ((stC M st j).kn.length + 1) cap)
              clear b5 hbs5 k5 f5 hgr hat hown d5
              generalize w5.setCell ⟨w.heap.size + 1, 1, none⟩ (.slice (some ⟨g', 0, none⟩) ((stC M st j).kn.length + 1) cap) = w6 at *
              generalize Value.slice (some ⟨g', 0, none⟩) ((stC M st j).kn.length + 1) cap = vk6 at *
              have d1 := m5.rep.blk.cell 1
              have e2 := bs6.cell 1
              have e3 := bs6.cell 2
              have lt6 := m5.rep.blk.lt
              simp only [List.getElem?_toArray, List.getElem?_cons_zero, List.getElem?_cons_succ] at d1 e2 e3
              have hev := m5.rep.rows.1 (u4, rowI (evens (M + 1))) (by simp)
              simp only [rowI, evens_length] at hev
              obtain ⟨ge, cev, hv4, hv4c, hv4m, _, hge, hce⟩ := own_at hev (by omega)
              have HV4 := Lib.hid hv4
              have HCE := Lib.hid hce
              have M5 := Lib.hid m5
              have B6 := Lib.hid bs6
              subst hv4
              clear m5 bs6 hev hce
              obtain ⟨Mq, hMq⟩ : ∃ Mq, Mq = M + 1 := ⟨_, rfl⟩
              rw [← hMq] at hv4c ⊢
              have HMq := Lib.hid hMq
              have q1 : x2 ≤ x3 + 1 := by omega
              have q2 : x3 + 1 ≤ Mq := by omega
              clear hMq
              go_wp2_with fail
              refine wp_region_I [⟨1, [9, 11], ⟨w.heap.size + 1, 1, none⟩, vk6⟩, ⟨4, [11], ⟨sb, 1, none⟩, .int .i64 (x2 : Int)⟩, ⟨6, [11], ⟨sb, 2, none⟩, .int .i64 (x3 : Int)⟩] (by kernel_rfl) ?_
              have hSl := evens_cut (lo := x2) (hi := x3) (Mq := Mq) ge cev (by omega) (by omega) hv4c hv4m (fun j u hu => HCE.out j u (by rw [← HMq.out]; exact hu))
              have HSl := Lib.hid hSl
              clear hSl
              refine wpAnyI_takes (by kernel_rfl) (fun _ _ _ _ _ h => h) [0,1,2,3,4,5,6,7] 4 _ _ _ (by kernel_rfl) (SH_cons (fun _ => d1) (SH_cons (fun _ => e2) (SH_cons (fun _ => e3) SH_nil))) ?_
              intro K hK
              repeat
                (refine takeW_cons (oi := ?_) (v := ?_) ?_ ?_ ?_ ?_
                 rotate_left 2
                 · (simp only [List.getElem?_toArray, List.getElem?_cons_zero, List.getElem?_cons_succ]; rfl)
                 · rfl
                 · (intro w' hw'; (try (have hc : w'.cell? _ = some _ := hw'; clear hw')); go_simp; (try with_reducible rfl))
                 try simp only [Act.put, List.setIfInBounds_toArray, List.set_cons_zero, List.set_cons_succ])
              refine takeW_nil (hK.out _ ?_)
              clear hK K
              refine wpAnyI_run (i := 8) (o := ?_) (by kernel_rfl) ?_ (fun K hK => ?_)
              rotate_left 1
              · (simp only [List.getElem?_toArray, List.getElem?_cons_zero, List.getElem?_cons_succ]; rfl)
              go_wp2_with fail
              refine hK.out _ _ (SH_cons (fun _ => d1) (SH_cons (fun _ => e2) (SH_cons (fun _ => e3) SH_nil))) ?_
              clear hK K
              refine wpAnyI_run (i := 9) (o := ?_) (by kernel_rfl) ?_ (fun K hK => ?_)
              rotate_left 1
              · (simp only [List.getElem?_toArray, List.getElem?_cons_zero, List.getElem?_cons_succ]; rfl)
              have hkn6 : w6.ownsRow 0 3 1 vk6 ((stC M st j).kn.length + 1) (nats ((stC M st j).kn ++ [chainAt M x1])) := by have := Owns.mid (l1 := [_]) M5.out.rep.rows; simpa [rowI] using this
              have sz6 := M5.out.bel.size
              go_wp2_with (refine list_app_sl ty_ints rfl (.tmp 67) (.tmp 74) rfl (by rfl) (own_heap hkn6 (by rfl)) (by rfl) (HSl.out.drewN 1) (nats_one _) (by unfold maxLen; omega) (by omega) (by simp) ?_; intro v7 w7 hown hgr hat; obtain ⟨A7, c7, hv7, _, _⟩ := own_len hown; subst hv7)
              have hl7 : (((evens Mq).take (x3 + 1)).drop x2).length = x3 + 1 - x2 := by simp [evens_length]; omega
              obtain ⟨b7, m7⟩ := RunMid.kn (M5.out.drewN 1) two_int (((evens Mq).take (x3 + 1)).drop x2) (by rw [hl7]; simpa [nats] using hown) hgr hat
              have b8 := Blk.grown (B6.out.drewN 1) hgr (B6.out.own_ne hkn6 (by decide))
              have e7 := b8.cell 1
              have e8 := b8.cell 2
              simp only [List.getElem?_toArray, List.getElem?_cons_zero, List.getElem?_cons_succ] at e7 e8
              have k7 := b7.cell 1
              have f7 := b7.frozen 1
              simp only [List.getElem?_toArray, List.getElem?_cons_zero, List.getElem?_cons_succ] at k7
              refine hK.out _ _ (SH_cons (fun h => by cases h) (SH_cons (fun _ => e7) (SH_cons (fun _ => e8) SH_nil))) ?_
              clear hK K
              refine wpAnyI_takes (by kernel_rfl) (fun _ _ _ _ _ h => h) [10] 1 _ _ _ (by kernel_rfl) (SH_cons (fun h => by cases h) (SH_cons (fun _ => e7) (SH_cons (fun _ => e8) SH_nil))) ?_
              intro K hK
              repeat
                (refine takeW_cons (oi := ?_) (v := ?_) ?_ ?_ ?_ ?_
                 rotate_left 2
                 · (simp only [List.getElem?_toArray, List.getElem?_cons_zero, List.getElem?_cons_succ]; rfl)
                 · rfl
                 · (intro w' hw'; (try (have hc : w'.cell? _ = some _ := hw'; clear hw')); go_simp; (try with_reducible rfl))
                 try simp only [Act.put, List.setIfInBounds_toArray, List.set_cons_zero, List.set_cons_succ])
              refine takeW_nil (hK.out _ ?_)
              clear hK K
              refine wpAnyI_run (i := 11) (o := ?_) (by kernel_rfl) ?_ (fun K hK => ?_)
              rotate_left 1
              · (simp only [List.getElem?_toArray, List.getElem?_cons_zero, List.getElem?_cons_succ]; rfl)
              go_wp2_with fail
              refine hK.out _ _ (SH_cons (fun h => by cases h) (SH_cons (fun h => by cases h) (SH_cons (fun h => by cases h) SH_nil))) ?_
              clear hK K
              refine wpAnyI_done (by kernel_rfl) ?_ _
              go_wp2_with fail
              have hMq := HMq.out
              have hK1 := HK1.out
              subst hMq
              subst hK1
              go_roundw
              case rel =>
                refine ⟨j + 1, .slice A7 ((stC M st j).kn.length + 1 + (x3 + 1 - x2)) c7, by omega, by go_num, ?_⟩
                rw [stC_succ M st j hjs, HX.out]
                simpa [seenE] using m7
              case measure => simp [intOf]; omega
            · obtain rfl : j = S := by omega
              have hc : decide ((j : Int) < (j : Int)) = false := by simp
              have b9 := H3.out.rep.blk
              have k9 := b9.cell 1
              have l9 := b9.lt
              simp only [List.getElem?_toArray, List.getElem?_cons_zero, List.getElem?_cons_succ] at k9
              clear b9
              go_wp2_with fail
              have m3 := H3.out
              have o3 : wr.ownsRow 0 3 1 vk' (stC M st j).kn.length (nats (stC M st j).kn) := Owns.mid (l1 := [_]) m3.rep.rows
              have kl := HKL.out j (Nat.le_refl _)
              refine (sort_calls o3 (by omega)).mono ?_
              rintro e w4 ⟨rfl, o4, g4⟩
              obtain ⟨-, m4, -⟩ := RunMid.knTo m3 two_int (srt (stC M st j).kn) (by rw [srt_length]; exact o4) g4 (.inl rfl)
              have M4 := Lib.hid (m4 rfl)
              have b4 := M4.out.rep.blk
              have c4 := b4.cell 1
              have l4 := b4.lt
              simp only [List.getElem?_toArray, List.getElem?_cons_zero, List.getElem?_cons_succ] at c4
              clear m3 o3 o4 g4 m4 b4
              go_wp2_with fail
              have o4 : w4.ownsRow 0 3 1 vk' (srt (stC M st j).kn).length (nats (srt (stC M st j).kn)) := Owns.mid (l1 := [_]) M4.out.rep.rows
              refine (compact_calls o4 (by rw [srt_length]; omega)).mono ?_
              rintro e w5 ⟨v5, rfl, o5, g5, e5⟩
              obtain ⟨b5, -, m5⟩ := RunMid.knTo M4.out two_int _ o5 g5 (.inl e5)
              obtain ⟨A5, cc5, hv5, _, _⟩ := own_len o5
              have M5 := Lib.hid m5
              have k5 := b5.cell 1
              have f5 := b5.frozen 1
              have l5 := b5.lt
              simp only [List.getElem?_toArray, List.getElem?_cons_zero, List.getElem?_cons_succ] at k5
              subst hv5
              have bw := Blk.below (g := w.heap.size) (B := W.heap.size) (t := 40) (cs := #[.slice none 0 0, .slice none 0 0, .slice none 0 0, .slice none 0 0]) (by rw [HW.out]; exact Blk.new w _ _) (M4.out.bel.grown g5 M4.out.bel.size (M4.out.low (vk', rowI (srt (stC M st j).kn)) (by simp))) (by rw [HW.out]; simp)
              have q0 := b5.cell 0
              have q2 := b5.cell 2
              have q3 := b5.cell 3
              have lq := bw.lt
              have p0 := bw.cell 0
              have p1 := bw.cell 1
              have p2 := bw.cell 2
              have p3 := bw.cell 3
              have r0 := bw.frozen 0
              have r1 := bw.frozen 1
              have r2 := bw.frozen 2
              have r3 := bw.frozen 3
              simp only [List.getElem?_toArray, List.getElem?_cons_zero, List.getElem?_cons_succ] at q0 q2 q3 p0 p1 p2 p3
              clear o4 o5 g5 m5 b5
              have oa := M5.out.rep.rows.1 (vT, rowT (stC M st j).T) (by simp)
              have ob := M5.out.rep.rows.1 (vy, rowI (stC M st j).ks) (by simp)
              have oc := M5.out.rep.rows.1 (vp, rowI (stC M st j).ps) (by simp)
              simp only [rowT, rowI] at oa ob oc
              obtain ⟨Aa, ca, ha, _, _⟩ := own_len oa
              obtain ⟨Ab, cb, hb, _, _⟩ := own_len ob
              obtain ⟨Ac, cc, hc', _, _⟩ := own_len oc
              clear oa ob oc
              subst ha
              subst hb
              subst hc'
              go_wp2_with fail
              have rws := M5.out.rep.rows
              have bl := below_trans HB.out M5.out.bel
              have eS : stC M st j = stC st.nw st st.sn.length := by rw [HM.out, HES.out.2]
              have bw6 := bw.far (p := ⟨w.heap.size + 1, 1, none⟩) (by simp) (.slice A5 (Lib.compact (srt (stC M st j).kn)).length cc5)
              have bw7 := bw6.set_ 0 (.slice Aa (stC M st j).T.length ca)
              have bw8 := bw7.set_ 1 (.slice A5 (Lib.compact (srt (stC M st j).kn)).length cc5)
              have bw9 := bw8.set_ 2 (.slice Ab (stC M st j).ks.length cb)
              have bwz := bw9.set_ 3 (.slice Ac (stC M st j).ps.length cc)
              have ne := rows_ne (st := ⟨(stC M st j).T, Lib.compact (srt (stC M st j).kn), (stC M st j).ks, (stC M st j).ps⟩) (more := [(u4, rowI (evens (M + 1))), (u5, rowI (chainsL M k))]) (vT := .slice Aa (stC M st j).T.length ca) (vk := .slice A5 (Lib.compact (srt (stC M st j).kn)).length cc5) (vy := .slice Ab (stC M st j).ks.length cb) (vp := .slice Ac (stC M st j).ps.length cc) two_int rfl
              have rz := (((rws.setCell bw6 ne 0 (.slice Aa (stC M st j).T.length ca)).setCell bw7 ne 1 (.slice A5 (Lib.compact (srt (stC M st j).kn)).length cc5)).setCell bw8 ne 2 (.slice Ab (stC M st j).ks.length cb)).setCell bw9 ne 3 (.slice Ac (stC M st j).ps.length cc)
              have blz := (((bl.setCell (p := ⟨w.heap.size, 0, none⟩) (Nat.le_refl _) (.slice Aa (stC M st j).T.length ca)).setCell (p := ⟨w.heap.size, 1, none⟩) (Nat.le_refl _) (.slice A5 (Lib.compact (srt (stC M st j).kn)).length cc5)).setCell (p := ⟨w.heap.size, 2, none⟩) (Nat.le_refl _) (.slice Ab (stC M st j).ks.length cb)).setCell (p := ⟨w.heap.size, 3, none⟩) (Nat.le_refl _) (.slice Ac (stC M st j).ps.length cc)
              clear bw6 bw7 bw8 bw9 ne rws bl
              generalize ((((w5.setCell ⟨w.heap.size + 1, 1, none⟩ (.slice A5 (Lib.compact (srt (stC M st j).kn)).length cc5)).setCell ⟨w.heap.size, 0, none⟩ (.slice Aa (stC M st j).T.length ca)).setCell ⟨w.heap.size, 1, none⟩ (.slice A5 (Lib.compact (srt (stC M st j).kn)).length cc5)).setCell ⟨w.heap.size, 2, none⟩ (.slice Ab (stC M st j).ks.length cb)).setCell ⟨w.heap.size, 3, none⟩ (.slice Ac (stC M st j).ps.length cc) = wz at *
              simp only [List.setIfInBounds_toArray, List.set_cons_zero, List.set_cons_succ] at bwz
              have z0 := bwz.cell 0
              have z1 := bwz.cell 1
              have z2 := bwz.cell 2
              have z3 := bwz.cell 3
              simp only [List.getElem?_toArray, List.getElem?_cons_zero, List.getElem?_cons_succ] at z0 z1 z2 z3
              have hres : Try.f14.results = #[.cell 2 40] := by rfl
              have hld : (loadVar 40 ⟨w.heap.size, 0, none⟩).run Try.prog wz = .ok (.agg #[.slice Aa (stC M st j).T.length ca, .slice A5 (Lib.compact (srt (stC M st j).kn)).length cc5, .slice Ab (stC M st j).ks.length cb, .slice Ac (stC M st j).ps.length cc]) wz := by
                go_simp
              (try simp only [Exit.inBlock, Exit.then])
              refine bodyPost_ret (v := .agg #[.slice Aa (stC M st j).T.length ca, .slice A5 (Lib.compact (srt (stC M st j).kn)).length cc5, .slice Ab (stC M st j).ks.length cb, .slice Ac (stC M st j).ps.length cc]) (by simp [results, hres, hld, asAddr]) rfl ?_
              refine ⟨_, _, _, _, rfl, ?_, blz⟩
              have h4 := Owns.sub (l' := [_, _, _, _]) rz (List.prefix_append _ _)
              unfold finR
              rw [← eS]
              exact h4
end Go.Proofs.Ytfflidaodnhpbaa.Led
