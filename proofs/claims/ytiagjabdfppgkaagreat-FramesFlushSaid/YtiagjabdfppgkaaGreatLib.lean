/- What the words of the calculus' statements ask: lemmas that give it. Worlds by their blocks. -/
import Derived.Test.YtiagjabdfppgkaaGreatVcCode
import Derived.Deep.AppendSrc
import Derived.Laws.MakeOwn
import Derived.Laws.BytesArg
import Derived.Laws.BytesString
set_option linter.unusedVariables false
set_option linter.unusedSimpArgs false
namespace Go.Vc
open Go

/-! ### Forks, loops, joins, numbers -/
theorem br_mk {b : Bool} {x y : Prop} (h1 : b = true → x) (h2 : b = false → y) : br b x y := by
  cases b with
  | true => exact h1 rfl
  | false => exact h2 rfl
theorem br_dec {p : Prop} [Decidable p] {x y : Prop} (h1 : p → x) (h2 : ¬ p → y) : br (decide p) x y :=
  br_mk (fun h => h1 (of_decide_eq_true h)) (fun h => h2 (of_decide_eq_false h))
theorem br_not {b : Bool} {x y : Prop} (h1 : b = false → x) (h2 : b = true → y) : br (!b) x y := by
  cases b with
  | true => exact h2 rfl
  | false => exact h1 rfl
theorem br_ndec {p : Prop} [Decidable p] {x y : Prop} (h1 : ¬ p → x) (h2 : p → y) : br (!decide p) x y :=
  br_not (fun h => h1 (of_decide_eq_false h)) (fun h => h2 (of_decide_eq_true h))
theorem br_true {x y : Prop} (h : x) : br true x y := h
theorem br_false {x y : Prop} (h : y) : br false x y := h
theorem onP_mk {p : Option Addr} {a : Addr} {k : Addr → Prop} (h : p = some a) (hk : k a) : onP p k := by subst h; exact hk

theorem LoopP.mk {St : Type} {body : St → World → (St → World → Prop) → Prop} {s : St} {w : World} (I : Nat → St → World → Prop) (n : Nat) (h0 : I n s w)
    (h : ∀ n s w next, I n s w → (∀ m s' w', m < n → I m s' w' → next s' w') → body s w next) : LoopP body s w :=
  ⟨⟨I, ⟨n, h0⟩, fun n s w hI => h n s w _ hI fun m s' w' hlt hI' => ⟨m, hlt, hI'⟩⟩⟩
theorem JoinP.mk {St : Type} {R : St → World → Prop} {X : (St → World → Prop) → Prop} (J : St → World → Prop) (hR : ∀ s w, J s w → R s w) (hX : ∀ R' : St → World → Prop, (∀ s w, J s w → R' s w) → X R') : JoinP R X :=
  ⟨hX R hR⟩
theorem callV {P : Program} {f : FuncId} {args : List Value} {w : World} {R R' : Ending → World → Prop} (h : Calls P f args.toArray w R) (hr : ∀ e w', R e w' → R' e w') : CallV P f args w R' :=
  ⟨Calls.mono h hr⟩

theorem inR64 {z : Int} : inR .i64 z ↔ -9223372036854775808 ≤ z ∧ z ≤ 9223372036854775807 := by
  simp [inR, IntKind.min, IntKind.max, IntKind.signed, IntKind.bits]
theorem inR8 {z : Int} : inR .u8 z ↔ 0 ≤ z ∧ z ≤ 255 := by
  simp [inR, IntKind.min, IntKind.max, IntKind.signed, IntKind.bits]
theorem wrap64_id {z : Int} (h : -9223372036854775808 ≤ z ∧ z ≤ 9223372036854775807) : IntKind.i64.wrap z = z := wrap_inR (inR64.2 h)
theorem wrap8_id {z : Int} (h : 0 ≤ z ∧ z ≤ 255) : IntKind.u8.wrap z = z := wrap_inR (inR8.2 h)

/-! ### Worlds -/
/-- nothing that was there has turned but the blocks of S -/
def Chg (S : List Nat) (w w' : World) : Prop :=
  w'.os = w.os ∧ w'.tape = w.tape ∧ w'.output = w.output ∧ w.heap.size ≤ w'.heap.size ∧ ∀ k, k < w.heap.size → k ∉ S → w'.heap[k]? = w.heap[k]?

theorem Chg.refl (S : List Nat) (w : World) : Chg S w w := ⟨rfl, rfl, rfl, Nat.le_refl _, fun _ _ _ => rfl⟩
theorem Chg.size {S : List Nat} {w w' : World} (h : Chg S w w') : w.heap.size ≤ w'.heap.size := h.2.2.2.1
theorem Chg.trans {S T U : List Nat} {a b c : World} (h : Chg S a b) (h' : Chg T b c) (hS : ∀ k ∈ S, k ∈ U) (hT : ∀ k ∈ T, k ∈ U ∨ a.heap.size ≤ k) : Chg U a c := by
  refine ⟨h'.1.trans h.1, h'.2.1.trans h.2.1, h'.2.2.1.trans h.2.2.1, Nat.le_trans h.size h'.size, fun k hk hu => ?_⟩
  have h1 := h.2.2.2.2 k hk (fun hs => hu (hS k hs))
  have h2 := h'.2.2.2.2 k (Nat.lt_of_lt_of_le hk h.size) (fun ht => by
    rcases hT k ht with h3 | h3
    · exact hu h3
    · omega)
  exact h2.trans h1
/-- one step more, of new memory alone -/
theorem Chg.ext {S : List Nat} {a b c : World} (h : Chg S a b) (h' : Chg [] b c) : Chg S a c := h.trans h' (fun k hk => hk) (fun k hk => by cases hk)
/-- one step more, that turns what is new since -/
theorem Chg.own {S : List Nat} {a b c : World} {g : Nat} (h : Chg S a b) (h' : Chg [g] b c) (hg : a.heap.size ≤ g ∨ g ∈ S) : Chg S a c :=
  h.trans h' (fun k hk => hk) (fun k hk => by
    rw [List.mem_singleton] at hk; subst hk
    exact hg.symm)
theorem Chg.more {S T : List Nat} {a b : World} (h : Chg S a b) (hs : ∀ k ∈ S, k ∈ T) : Chg T a b := ⟨h.1, h.2.1, h.2.2.1, h.size, fun k hk ht => h.2.2.2.2 k hk fun h' => ht (hs k h')⟩
theorem Chg.block {S : List Nat} {w w' : World} (h : Chg S w w') {k : Nat} {o : Obj} (hk : w.heap[k]? = some o) (hs : k ∉ S) : w'.heap[k]? = some o := by
  rw [h.2.2.2.2 k (Array.getElem?_eq_some_iff.1 hk).1 hs]; exact hk
theorem Chg.cell {S : List Nat} {w w' : World} (h : Chg S w w') {a : Addr} {v : Value} (hk : w.cell? a = some v) (hs : a.block ∉ S) : w'.cell? a = some v := by
  have hlt := World.block_lt_of_cell? w a hk
  rw [World.cell?_of_block (h.2.2.2.2 _ hlt hs)]; exact hk
theorem Chg.drew {S : List Nat} {a b : World} (h : Chg S a b) : Chg S a b.drew := h

theorem alloc_old (w : World) (o : Obj) (k : Nat) (h : k < w.heap.size) : (w.alloc o).heap[k]? = w.heap[k]? := by
  show (w.heap.push o)[k]? = _
  rw [Array.getElem?_push, if_neg (by omega)]
theorem alloc_new (w : World) (o : Obj) : (w.alloc o).heap[w.heap.size]? = some o := by
  show (w.heap.push o)[w.heap.size]? = _
  simp
theorem New.chg {w w1 : World} {o : Obj} {b : Nat} (h : New w o b w1) : Chg [] w w1 := by
  obtain ⟨rfl, rfl⟩ := h
  exact ⟨rfl, rfl, rfl, by simp, fun k hk _ => alloc_old w o k hk⟩
theorem New.blk {w w1 : World} {o : Obj} {b : Nat} (h : New w o b w1) : w1.heap[b]? = some o := by
  obtain ⟨rfl, rfl⟩ := h
  exact alloc_new w o
theorem New.lt {w w1 : World} {o : Obj} {b : Nat} (h : New w o b w1) : b < w1.heap.size := (Array.getElem?_eq_some_iff.1 h.blk).1

/-- a block of cells, none of them frozen -/
def Blk (w : World) (b : Nat) (cs : List Value) (T : TypeId) : Prop := w.heap[b]? = some (.cells cs.toArray T (0, 0))
theorem New.cells {w w1 : World} {cs : List Value} {T : TypeId} {b : Nat} (h : New w (.cells cs.toArray T) b w1) : Blk w1 b cs T := h.blk
theorem Blk.chg {w w' : World} {b : Nat} {cs : List Value} {T : TypeId} {S : List Nat} (h : Blk w b cs T) (hc : Chg S w w') (hs : b ∉ S) : Blk w' b cs T := hc.block h hs
theorem Blk.lt {w : World} {b : Nat} {cs : List Value} {T : TypeId} (h : Blk w b cs T) : b < w.heap.size := (Array.getElem?_eq_some_iff.1 h).1
theorem Blk.cell {w : World} {b : Nat} {cs : List Value} {T : TypeId} (h : Blk w b cs T) {o : Nat} {v : Value} (hv : cs[o]? = some v) : w.cell? ⟨b, o, none⟩ = some v := by
  have h' : w.heap[b]? = some (.cells cs.toArray T (0, 0)) := h
  simp [World.cell?, h', hv]

/-! ### Loads -/
def aggB (P : Program) (t : TypeId) : Option Bool := match P.underlying t with
  | some (.struct _) | some (.array _ _) => some true
  | some _ => some false
  | none => none
theorem run_isAgg {P : Program} {t : TypeId} {b : Bool} (h : aggB P t = some b) (w : World) : (isAgg t).run P w = .ok b w := by
  unfold aggB at h
  cases hu : P.underlying t with
  | none => rw [hu] at h; cases h
  | some d =>
    rw [hu] at h
    simp only [isAgg, Sem.run_bind, run_und hu, Result.andThen_ok]
    cases d <;> cases h <;> rfl
theorem ld_cell {P : Program} {t : TypeId} {w : World} {a : Addr} {v : Value} (hu : aggB P t = some false) (h : w.cell? a = some v) : Ld P t w a v := by
  simp only [Ld, loadVar, Sem.run_bind, run_isAgg hu, Result.andThen_ok, Bool.false_eq_true, if_false, run_load, h]
theorem ld_agg {P : Program} {t : TypeId} {w : World} {a : Addr} {vs : List Value} (hu : aggB P t = some true) (hs : sizeV P t = some vs.length) (h : ∀ j v, vs[j]? = some v → w.cell? (a.add j) = some v) : Ld P t w a (.agg vs.toArray) := by
  simp only [Ld, loadVar, Sem.run_bind, run_isAgg hu, Result.andThen_ok, if_true, run_size hs, Sem.run_map, Sem.run_bind, run_loadCells_list w a vs h, Sem.run_pure]
theorem Blk.ld {P : Program} {t : TypeId} {w : World} {b : Nat} {cs : List Value} {T : TypeId} (h : Blk w b cs T) {o : Nat} {v : Value} (hu : aggB P t = some false) (hv : cs[o]? = some v) : Ld P t w ⟨b, o, none⟩ v :=
  ld_cell hu (h.cell hv)
theorem add_lit (b o j : Nat) : (⟨b, o, none⟩ : Addr).add j = ⟨b, o + j, none⟩ := by
  unfold Addr.add; split <;> simp_all
theorem Blk.ldA {P : Program} {t : TypeId} {w : World} {b : Nat} {cs : List Value} {T : TypeId} (h : Blk w b cs T) {o : Nat} {vs : List Value} (hu : aggB P t = some true) (hs : sizeV P t = some vs.length)
    (hv : (cs.drop o).take vs.length = vs) : Ld P t w ⟨b, o, none⟩ (.agg vs.toArray) := by
  refine ld_agg hu hs fun j v hj => ?_
  rw [add_lit]
  refine h.cell ?_
  rw [← hv] at hj
  rw [List.getElem?_take] at hj
  split at hj
  · simpa using hj
  · cases hj

/-! ### Stores -/
/-- a block put -/
def setB (w : World) (b : Nat) (o : Obj) : World := { w with heap := w.heap.setIfInBounds b o }
theorem setB_chg (w : World) (b : Nat) (o : Obj) : Chg [b] w (setB w b o) :=
  ⟨rfl, rfl, rfl, by simp [setB], fun k hk hs => by
    simp only [setB, Array.getElem?_setIfInBounds]
    rw [if_neg (by simpa using Ne.symm (by simpa using hs))]⟩
theorem setB_at {w : World} {b : Nat} {o : Obj} (h : b < w.heap.size) : (setB w b o).heap[b]? = some o := by
  simp [setB, h]
theorem setCell_setB {w : World} {b : Nat} {cs : List Value} {T : TypeId} {fz : Nat × Nat} (h : w.heap[b]? = some (.cells cs.toArray T fz)) (o : Nat) (v : Value) :
    w.setCell ⟨b, o, none⟩ v = setB w b (.cells (cs.set o v).toArray T fz) := by
  simp only [World.setCell, setB]
  congr 1
  apply Array.ext_getElem?
  intro k
  rw [Array.getElem?_modify, Array.getElem?_setIfInBounds]
  split
  · rename_i hk; subst hk
    rw [if_pos (Array.getElem?_eq_some_iff.1 h).1, h]
    simp
  · rfl
theorem setB_setB (w : World) (b : Nat) (o o' : Obj) : setB (setB w b o) b o' = setB w b o' := by
  simp only [setB]
  congr 1
  apply Array.ext_getElem?
  intro k
  simp only [Array.getElem?_setIfInBounds]
  split
  · simp
  · rfl
theorem run_storeCells_blk {P : Program} {b : Nat} {T : TypeId} {fz : Nat × Nat} : ∀ (vs : List Value) (w : World) (cs : List Value) (a : Addr) (o i : Nat), a.add i = ⟨b, o, none⟩ → (∀ j, a.add (i + j) = ⟨b, o + j, none⟩) →
    w.heap[b]? = some (.cells cs.toArray T fz) → o + vs.length ≤ cs.length → (∀ k, o ≤ k → k < o + vs.length → (decide (fz.1 ≤ k) && decide (k < fz.2)) = false) → (∀ u ∈ vs, u.oneCell' = true) →
    (storeCells a vs i).run P w = .ok () (if vs = [] then w else setB w b (.cells (over vs o cs).toArray T fz))
  | [], w, cs, a, o, i, ha, haj, hb, hl, hf, h1 => by simp [storeCells]
  | v :: r, w, cs, a, o, i, ha, haj, hb, hl, hf, h1 => by
    simp only [List.length_cons] at hl hf
    simp only [storeCells, Sem.run_bind]
    have hlt : o < cs.length := by omega
    have hcell : w.cell? ⟨b, o, none⟩ = some cs[o] := by simp [World.cell?, hb, hlt]
    have hfr : w.frozen? ⟨b, o, none⟩ = false := by
      have := hf o (Nat.le_refl _) (by omega)
      obtain ⟨f1, f2⟩ := fz
      simpa [World.frozen?, hb] using this
    have hst : (store (a.add i) v).run P w = .ok () (w.setCell ⟨b, o, none⟩ v) := by
      rw [ha, run_store P w _ v _ (h1 v (List.mem_cons_self ..))]
      simp [hcell, hfr]
    rw [hst]
    simp only [Result.andThen_ok]
    have hb2 : (w.setCell ⟨b, o, none⟩ v).heap[b]? = some (.cells (cs.set o v).toArray T fz) := by
      rw [setCell_setB hb]; exact setB_at (Array.getElem?_eq_some_iff.1 hb).1
    rw [run_storeCells_blk r _ (cs.set o v) a (o + 1) (i + 1) (haj 1) (fun j => by rw [show i + 1 + j = i + (1 + j) by omega, haj, show o + (1 + j) = o + 1 + j by omega]) hb2 (by simp; omega) (fun k h1' h2' => hf k (by omega) (by omega)) (fun u hu => h1 u (List.mem_cons_of_mem _ hu))]
    rw [setCell_setB hb, if_neg (List.cons_ne_nil _ _), over_cons v r o cs hlt]
    split
    · rename_i hr; subst hr; simp [over_nil]
    · rw [setB_setB]

/-- a variable in a block of one's own is written -/
theorem Blk.st {P : Program} {t : TypeId} {w : World} {b : Nat} {cs : List Value} {T : TypeId} (h : Blk w b cs T) {o : Nat} {v : Value} (hs : sizeV P t = some v.cells.size) (hv : v.cells.toList.all (·.oneCell') = true) (hl : o + v.cells.size ≤ cs.length) :
    ∃ w1, St P t w ⟨b, o, none⟩ v w1 ∧ Blk w1 b (over v.cells.toList o cs) T ∧ Chg [b] w w1 := by
  have hrun := run_storeCells_blk (P := P) (b := b) (T := T) (fz := (0, 0)) v.cells.toList w cs ⟨b, o, none⟩ o 0 rfl (fun j => by simp [add_lit]) h (by simpa using hl) (fun k _ _ => by simp) (fun u hu => List.all_eq_true.1 hv u hu)
  have e : (storeVar t ⟨b, o, none⟩ v).run P w = (storeCells ⟨b, o, none⟩ v.cells.toList).run P w := by
    simp only [storeVar, Sem.run_bind, run_size hs, Result.andThen_ok]
    rw [if_neg (by simp)]
  refine ⟨_, e.trans hrun, ?_, ?_⟩
  · split
    · rename_i hn; rw [hn, over_nil]; exact h
    · exact setB_at h.lt
  · split
    · exact Chg.refl _ _
    · exact setB_chg _ _ _

/-! ### Slices that are one's own -/
/-- no cell below n is frozen -/
def Thaw (fz : Nat × Nat) (n : Nat) : Prop := ∀ k, k < n → (decide (fz.1 ≤ k) && decide (k < fz.2)) = false
theorem Thaw.zero (n : Nat) : Thaw (0, 0) n := fun k _ => by simp
theorem Thaw.behind (n m : Nat) : Thaw (n, m) n := fun k hk => by
  have : ¬ n ≤ k := by omega
  simp [this]
/-- a slice value owns its cells: nil, or the head of a row in a block from base on, not frozen -/
def Own (w : World) (base : Nat) (e : TypeId) (sz : Nat) (a : Option Addr) (n c : Nat) (xs : List Value) : Prop :=
  xs.length = n * sz ∧ ((a = none ∧ n = 0 ∧ c = 0) ∨ ∃ g cur fz, a = some ⟨g, 0, none⟩ ∧ base ≤ g ∧ w.heap[g]? = some (.cells cur e fz) ∧ Thaw fz cur.size ∧ n ≤ c ∧ c ≤ maxLen ∧ cur.size = c * sz ∧ cur.toList.take (n * sz) = xs)
/-- the blocks of a slice value -/
def blks (a : Option Addr) : List Nat := match a with
  | some a => [a.block]
  | none => []
theorem Own.nil (w : World) (base : Nat) (e : TypeId) (sz : Nat) : Own w base e sz none 0 0 [] := ⟨by simp, .inl ⟨rfl, rfl, rfl⟩⟩
theorem Own.len {w : World} {base : Nat} {e : TypeId} {sz : Nat} {a : Option Addr} {n c : Nat} {xs : List Value} (h : Own w base e sz a n c xs) : xs.length = n * sz := h.1
theorem Own.le {w : World} {base : Nat} {e : TypeId} {sz : Nat} {a : Option Addr} {n c : Nat} {xs : List Value} (h : Own w base e sz a n c xs) : n ≤ c ∧ c ≤ maxLen := by
  rcases h.2 with ⟨_, rfl, rfl⟩ | ⟨g, cur, _, _, _, _, _, h1, h2, _⟩
  · exact ⟨Nat.le_refl _, by simp [maxLen]⟩
  · exact ⟨h1, h2⟩
theorem Own.chg {w w' : World} {base : Nat} {e : TypeId} {sz : Nat} {a : Option Addr} {n c : Nat} {xs : List Value} {S : List Nat} (h : Own w base e sz a n c xs) (hc : Chg S w w') (hs : ∀ k ∈ blks a, k ∉ S) : Own w' base e sz a n c xs := by
  refine ⟨h.1, ?_⟩
  rcases h.2 with hn | ⟨g, cur, fz, rfl, hb, hg, rest⟩
  · exact .inl hn
  · exact .inr ⟨g, cur, fz, rfl, hb, hc.block hg (hs g (by simp [blks])), rest⟩
theorem Own.mem {w : World} {base : Nat} {e : TypeId} {sz : Nat} {a : Option Addr} {n c : Nat} {xs : List Value} (h : Own w base e sz a n c xs) : ∀ k ∈ blks a, base ≤ k ∧ k < w.heap.size := by
  intro k hk
  rcases h.2 with ⟨rfl, _⟩ | ⟨g, cur, fz, rfl, hb, hg, rest⟩
  · simp [blks] at hk
  · simp [blks] at hk; subst hk
    exact ⟨hb, (Array.getElem?_eq_some_iff.1 hg).1⟩
/-- its cells -/
def Cells (w : World) (a : Option Addr) (vs : List Value) : Prop := ∀ j v, vs[j]? = some v → ∃ ad, a = some ad ∧ w.cell? (ad.add j) = some v
theorem Own.cells {w : World} {base : Nat} {e : TypeId} {sz : Nat} {a : Option Addr} {n c : Nat} {xs : List Value} (h : Own w base e sz a n c xs) : Cells w a xs := by
  intro j v hj
  rcases h.2 with ⟨rfl, rfl, rfl⟩ | ⟨g, cur, fz, rfl, hb, hg, hf, h1, h2, h3, h4⟩
  · have : xs = [] := List.eq_nil_of_length_eq_zero (by simpa using h.1)
    subst this; simp at hj
  · refine ⟨_, rfl, ?_⟩
    rw [add_lit]
    rw [← h4, List.getElem?_take] at hj
    split at hj
    · simp [World.cell?, hg]; simpa using hj
    · cases hj
theorem Cells.chg {w w' : World} {a : Option Addr} {vs : List Value} {S : List Nat} (h : Cells w a vs) (hc : Chg S w w') (hs : ∀ k ∈ blks a, k ∉ S) : Cells w' a vs := by
  intro j v hj
  obtain ⟨ad, rfl, hcell⟩ := h j v hj
  exact ⟨ad, rfl, hc.cell hcell (by
    have : (ad.add j).block = ad.block := by unfold Addr.add; split <;> rfl
    rw [this]; exact hs _ (by simp [blks]))⟩
theorem Blk.cells {w : World} {b : Nat} {cs : List Value} {T : TypeId} (h : Blk w b cs T) : Cells w (some ⟨b, 0, none⟩) cs :=
  fun j v hj => ⟨_, rfl, by rw [add_lit]; simpa using h.cell hj⟩

/-- a type of slices, its elements' row of the table -/
structure Elt (P : Program) (t e : TypeId) (sz by_ : Nat) : Prop where
  und : P.underlying t = some (.slice e)
  row : ∃ i z, P.info? e = some i ∧ i.zero = some z ∧ i.size = sz ∧ i.bytes = by_ ∧ z.cells.size = sz
def eltB (P : Program) (t e : TypeId) (sz by_ : Nat) : Bool :=
  match P.underlying t with
  | some (.slice e') => Nat.beq e' e && (match P.info? e with
    | some i => match i.zero with
      | some z => Nat.beq i.size sz && Nat.beq i.bytes by_ && Nat.beq z.cells.size sz
      | none => false
    | none => false)
  | _ => false
theorem elt_of {P : Program} {t e : TypeId} {sz by_ : Nat} (h : eltB P t e sz by_ = true) : Elt P t e sz by_ := by
  unfold eltB at h
  split at h
  · rename_i e' hu
    simp only [Bool.and_eq_true] at h
    obtain ⟨h1, h2⟩ := h
    have := Nat.eq_of_beq_eq_true h1; subst this
    refine ⟨hu, ?_⟩
    split at h2
    · rename_i i hi
      split at h2
      · rename_i z hz
        simp only [Bool.and_eq_true] at h2
        exact ⟨i, z, hi, hz, Nat.eq_of_beq_eq_true h2.1.1, Nat.eq_of_beq_eq_true h2.1.2, Nat.eq_of_beq_eq_true h2.2⟩
      · cases h2
    · cases h2
  · cases h

theorem over_get : ∀ (l : List Value) (o : Nat) (cs : List Value), o + l.length ≤ cs.length → ∀ k, (over l o cs)[k]? = if o ≤ k ∧ k < o + l.length then l[k - o]? else cs[k]?
  | [], o, cs, h, k => by
    rw [over_nil, if_neg]
    simp only [List.length_nil]; omega
  | y :: r, o, cs, h, k => by
    simp only [List.length_cons] at h ⊢
    rw [over_cons y r o cs (by omega), over_get r (o + 1) _ (by simp; omega) k]
    by_cases hk : o = k
    · subst hk
      rw [if_neg (by omega), if_pos (by omega)]
      rw [List.getElem?_set_self (by omega)]
      simp
    · by_cases hk2 : o + 1 ≤ k ∧ k < o + 1 + r.length
      · rw [if_pos hk2, if_pos (by omega), show k - o = (k - (o + 1)) + 1 by omega]
        simp
      · rw [if_neg hk2, if_neg (by omega), List.getElem?_set]
        rw [if_neg hk]
theorem over_take (l : List Value) (o : Nat) (cs : List Value) (h : o + l.length ≤ cs.length) : (over l o cs).take (o + l.length) = cs.take o ++ l := by
  apply List.ext_getElem?
  intro k
  rw [List.getElem?_take, over_get l o cs h, List.getElem?_append, List.getElem?_take, List.length_take, show min o cs.length = o by omega]
  by_cases h1 : k < o
  · rw [if_pos (by omega), if_neg (by omega), if_pos h1, if_pos h1]
  · by_cases h2 : k < o + l.length
    · rw [if_pos h2, if_pos (by omega), if_neg h1]
    · rw [if_neg h2, if_neg h1, List.getElem?_eq_none (by omega)]

theorem setCells_over {b : Nat} {T : TypeId} {fz : Nat × Nat} : ∀ (vs : List Value) (w : World) (cs : List Value) (o : Nat), w.heap[b]? = some (.cells cs.toArray T fz) → o + vs.length ≤ cs.length →
    (w.setCells b o vs).heap[b]? = some (.cells (over vs o cs).toArray T fz) ∧ Chg [b] w (w.setCells b o vs)
  | [], w, cs, o, h, hl => by simp [World.setCells, over_nil, h, Chg.refl]
  | v :: r, w, cs, o, h, hl => by
    simp only [List.length_cons] at hl
    simp only [World.setCells]
    have hlt := (Array.getElem?_eq_some_iff.1 h).1
    have h2 : (w.setCell ⟨b, o, none⟩ v).heap[b]? = some (.cells (cs.set o v).toArray T fz) := by
      rw [setCell_setB h]; exact setB_at hlt
    obtain ⟨h3, h4⟩ := setCells_over r _ (cs.set o v) (o + 1) h2 (by simp; omega)
    rw [over_cons v r o cs (by omega)]
    refine ⟨h3, ?_⟩
    have h5 : Chg [b] w (w.setCell ⟨b, o, none⟩ v) := by rw [setCell_setB h]; exact setB_chg _ _ _
    exact h5.trans h4 (fun k hk => hk) (fun k hk => .inl hk)

/-- append to a slice of one's own -/
theorem app_own {P : Program} {t tx e ty : TypeId} {sz by_ : Nat} (T : Elt P t e sz by_) (hsz : 0 < sz) {w : World} {base : Nat} {a : Option Addr} {n c : Nat} {xs : List Value} (hown : Own w base e sz a n c xs) {x : Value} {m : Nat} {news : List Value}
    (hx : Src P sz tx x m news w) (h63 : n + m ≤ maxLen) (hby : (n + m) * by_ ≤ 140737488355328) (hbase : base ≤ w.heap.size) :
    ∃ a' c' w1, App P #[t, tx] ty w (.slice a n c) x (.slice a' (n + m) c') w1 ∧ Own w1 base e sz a' (n + m) c' (xs ++ news) ∧ Chg (blks a) w w1 ∧ ∀ k ∈ blks a', k ∈ blks a ∨ w.heap.size ≤ k := by
  obtain ⟨hu, i, z, hi, hz, rfl, rfl, hzs⟩ := T
  have hsmall : n + m ≤ 9223372036854775807 := by simp only [maxLen] at h63; omega
  have hlen : (xs ++ news).length = (n + m) * i.size := by rw [List.length_append, hown.1, hx.newsLen, Nat.add_mul]
  have grow : ∀ (hold : (Builtin.firstCells i.size n (.slice a n c)).run P w.drew = .ok xs.toArray w.drew), c < n + m →
      ∃ a' c' w1, App P #[t, tx] ty w (.slice a n c) x (.slice a' (n + m) c') w1 ∧ Own w1 base e i.size a' (n + m) c' (xs ++ news) ∧ Chg (blks a) w w1 ∧ ∀ k ∈ blks a', k ∈ blks a ∨ w.heap.size ≤ k := by
    intro hold hg
    have hr := run_append_grow_src (P := P) w t tx ty e i z hu hi hz a n c xs hold x m news hx hg (by omega) (growslice_fits hg hby)
    have hge := grownCap_ge w (n + m) c e
    have hcm : grownCap w (n + m) c e ≤ maxLen := grownCap_le_maxLen w (n + m) c e h63
    refine ⟨_, _, _, hr, ⟨hlen, .inr ⟨w.heap.size, _, _, rfl, hbase, alloc_new w.drew _, Thaw.zero _, hge, hcm, ?_, ?_⟩⟩, ?_, ?_⟩
    · simp only [Array.size_append, List.size_toArray, size_zeroCells, hzs, hlen, ← Nat.add_mul]
      congr 1; omega
    · rw [← hlen, Array.toList_append]
      exact List.take_left' rfl
    · exact ⟨rfl, rfl, rfl, by simp, fun k hk _ => alloc_old w.drew _ k hk⟩
    · intro k hk; simp [blks] at hk; subst hk; exact .inr (Nat.le_refl _)
  rcases hown.2 with ⟨rfl, rfl, rfl⟩ | ⟨g, cur, fz, rfl, hbg, hg, hf, hnc, hcm, hcs, htake⟩
  · have hxs : xs = [] := List.eq_nil_of_length_eq_zero (by simpa using hown.1)
    subst hxs
    by_cases hm : m = 0
    · subst hm
      have hn : news = [] := List.eq_nil_of_length_eq_zero (by simpa using hx.newsLen)
      subst hn
      refine ⟨none, 0, w, ?_, Own.nil w base e i.size, Chg.refl _ _, by simp [blks]⟩
      have hl := hx.len w
      have hcl := hx.cells
      rcases hx.kind with ⟨e', hk⟩ | hk <;> simp [App, Builtin.append_, run_und hu, run_und hk, sizeOf, typeInfo, hi, hl, hcl]
    · exact grow (run_firstCells_none _ _ _ _ _) (by omega)
  · by_cases hroom : n + m ≤ c
    · have hfit : n * i.size + news.length ≤ cur.size := by rw [hx.newsLen, hcs, ← Nat.add_mul]; exact Nat.mul_le_mul_right _ hroom
      have hcell : ∀ j, j < news.length → (w.cell? ⟨g, 0 + n * i.size + j, none⟩).isSome = true := by
        intro j hj
        have : 0 + n * i.size + j < cur.size := by omega
        simp [World.cell?, hg]; omega
      have hr := run_append_room_src (P := P) w t tx ty e i hu hi g 0 n c x m news hx hroom hcell (fun j hj => by
        have := hf (0 + n * i.size + j) (by omega)
        obtain ⟨f1, f2⟩ := fz
        simpa [World.frozen?, hg] using this)
      have hcur : w.heap[g]? = some (.cells cur.toList.toArray e fz) := by simpa using hg
      obtain ⟨h3, h4⟩ := setCells_over news w cur.toList (0 + n * i.size) hcur (by simp; omega)
      refine ⟨_, _, _, hr, ⟨hlen, .inr ⟨g, _, fz, rfl, hbg, h3, ?_, hroom, hcm, ?_, ?_⟩⟩, h4, fun k hk => .inl hk⟩
      · intro k hk
        refine hf k ?_
        rw [List.size_toArray, over_length _ _ _ (by rw [show cur.toList.length = cur.size from Array.length_toList]; omega), Array.length_toList] at hk
        exact hk
      · rw [List.size_toArray, over_length _ _ _ (by rw [show cur.toList.length = cur.size from Array.length_toList]; omega), Array.length_toList, hcs]
      · rw [← hlen]
        have := over_take news (0 + n * i.size) cur.toList (by rw [show cur.toList.length = cur.size from Array.length_toList]; omega)
        rw [show (xs ++ news).length = 0 + n * i.size + news.length by rw [hlen, Nat.add_mul, hx.newsLen]; omega]
        simp only [List.toList_toArray]
        rw [this, Nat.zero_add, htake]
    · refine grow ?_ (by omega)
      refine run_firstCells_some _ _ _ _ _ _ xs hown.1 fun j v hj => ?_
      obtain ⟨ad, had, hcell⟩ := hown.cells j v hj
      cases had
      simpa using hcell
end Go.Vc
