/- Part 3 of 6 of the proof of journalRaw_holds: for every input, from every world that may be reached. -/
import Derived.WalkKit
import Derived.RangeFuncSeq
import Derived.KernelRfl
import Derived.RangeFuncLeaves
import Derived.Test.YtdeebigmpffnbaaGreatChecked
import Derived.Deep.AppendSrc
import Derived.Laws.MakeOwn
import Derived.Laws.BytesArg
import Derived.Laws.BytesString
import Derived.Laws.IdiomStrings
import Derived.Maps.RangeRun
import Derived.Shelf.SlIter.Nil
import Derived.Shelf.SlIterI.Nil
import Derived.Shelf.SortM.Plain
import Derived.Shelf.SortM.SortNone
import Derived.Shelf.SlMaps.Clone
import Derived.StringKeys
import Derived.Laws.Pointers
import Derived.Sort.Walk0
import Derived.Lib.SliceRun
import Derived.Test.YtdeebigmpffnbaaGreatRows
import Derived.ProofKit
import Derived.Laws.StructEq
import Derived.ChangeKeysEq
import Derived.WideKeyRuns
import Derived.Test.YtdeebigmpffnbaaGreatPra1
import Derived.Test.YtdeebigmpffnbaaGreatPra2
set_option linter.unusedVariables false
set_option linter.unusedSimpArgs false
set_option maxRecDepth 100000
namespace Go.Vc
open Go
theorem br_mk {b : Bool} {x y : Prop} (h1 : b = true → x) (h2 : b = false → y) : br b x y := by
 cases b with
 | true => exact h1 rfl
 | false => exact h2 rfl
theorem br_dec {p : Prop} [Decidable p] {x y : Prop} (h1 : p → x) (h2 : ¬ p → y) : br (decide p) x y :=
 br_mk (fun h => h1 (of_decide_eq_true h)) (fun h => h2 (of_decide_eq_false h))
theorem br_not {b : Bool} {x y : Prop} (h1 : b = false → x) (h2 : b = true → y) : br (!b) x y := by
 cases b with
 | true => exact h2 rfl
 | false => exact h1 rfl
theorem br_ndec {p : Prop} [Decidable p] {x y : Prop} (h1 : ¬ p → x) (h2 : p → y) : br (!decide p) x y :=
 br_not (fun h => h1 (of_decide_eq_false h)) (fun h => h2 (of_decide_eq_true h))
theorem br_true {x y : Prop} (h : x) : br true x y := h
theorem br_false {x y : Prop} (h : y) : br false x y := h
theorem onP_mk {p : Option Addr} {a : Addr} {k : Addr → Prop} (h : p = some a) (hk : k a) : onP p k := by subst h; exact hk
theorem LoopP.mk {St : Type} {body : St → World → (St → World → Prop) → Prop} {s : St} {w : World} (I : Nat → St → World → Prop) (n : Nat) (h0 : I n s w)
  (h : ∀ n s w next,I n s w → (∀ m s' w',m < n → I m s' w' → next s' w') → body s w next) : LoopP body s w :=
 ⟨⟨I,⟨n,h0⟩,fun n s w hI => h n s w _ hI fun m s' w' hlt hI' => ⟨m,hlt,hI'⟩⟩⟩
theorem JoinP.mk {St : Type} {R : St → World → Prop} {X : (St → World → Prop) → Prop} (J : St → World → Prop) (hR : ∀ s w,J s w → R s w) (hX : ∀ R' : St → World → Prop,(∀ s w,J s w → R' s w) → X R') : JoinP R X :=
 ⟨hX R hR⟩
theorem callV {P : Program} {f : FuncId} {args : List Value} {w : World} {R R' : Ending → World → Prop} (h : Calls P f args.toArray w R) (hr : ∀ e w',R e w' → R' e w') : CallV P f args w R' :=
 ⟨Calls.mono h hr⟩
theorem inR64 {z : Int} : inR .i64 z ↔ -9223372036854775808 ≤ z ∧ z ≤ 9223372036854775807 := by
 simp [inR,IntKind.min,IntKind.max,IntKind.signed,IntKind.bits]
theorem inR8 {z : Int} : inR .u8 z ↔ 0 ≤ z ∧ z ≤ 255 := by
 simp [inR,IntKind.min,IntKind.max,IntKind.signed,IntKind.bits]
theorem wrap64_id {z : Int} (h : -9223372036854775808 ≤ z ∧ z ≤ 9223372036854775807) : IntKind.i64.wrap z = z := wrap_inR (inR64.2 h)
def Chg (S : List Nat) (w w' : World) : Prop :=
 w'.os = w.os ∧ w'.tape = w.tape ∧ w'.output = w.output ∧ w.heap.size ≤ w'.heap.size ∧ ∀ k,k < w.heap.size → k ∉ S → w'.heap[k]? = w.heap[k]?
theorem Chg.refl (S : List Nat) (w : World) : Chg S w w := ⟨rfl,rfl,rfl,Nat.le_refl _,fun _ _ _ => rfl⟩
theorem Chg.size {S : List Nat} {w w' : World} (h : Chg S w w') : w.heap.size ≤ w'.heap.size := h.2.2.2.1
theorem Chg.trans {S T U : List Nat} {a b c : World} (h : Chg S a b) (h' : Chg T b c) (hS : ∀ k ∈ S,k ∈ U) (hT : ∀ k ∈ T,k ∈ U ∨ a.heap.size ≤ k) : Chg U a c := by
 refine ⟨h'.1.trans h.1,h'.2.1.trans h.2.1,h'.2.2.1.trans h.2.2.1,Nat.le_trans h.size h'.size,fun k hk hu => ?_⟩
 have h1 := h.2.2.2.2 k hk (fun hs => hu (hS k hs))
 have h2 := h'.2.2.2.2 k (Nat.lt_of_lt_of_le hk h.size) (fun ht => by
  rcases hT k ht with h3 | h3
  ·exact hu h3
  ·omega)
 exact h2.trans h1
theorem Chg.ext {S : List Nat} {a b c : World} (h : Chg S a b) (h' : Chg [] b c) : Chg S a c := h.trans h' (fun k hk => hk) (fun k hk => by cases hk)
theorem Chg.block {S : List Nat} {w w' : World} (h : Chg S w w') {k : Nat} {o : Obj} (hk : w.heap[k]? = some o) (hs : k ∉ S) : w'.heap[k]? = some o := by
 rw [h.2.2.2.2 k (Array.getElem?_eq_some_iff.1 hk).1 hs]; exact hk
theorem Chg.cell {S : List Nat} {w w' : World} (h : Chg S w w') {a : Addr} {v : Value} (hk : w.cell? a = some v) (hs : a.block ∉ S) : w'.cell? a = some v := by
 have hlt := World.block_lt_of_cell? w a hk
 rw [World.cell?_of_block (h.2.2.2.2 _ hlt hs)]; exact hk
theorem Chg.drew {S : List Nat} {a b : World} (h : Chg S a b) : Chg S a b.drew := h
theorem alloc_old (w : World) (o : Obj) (k : Nat) (h : k < w.heap.size) : (w.alloc o).heap[k]? = w.heap[k]? := by
 show (w.heap.push o)[k]? = _
 rw [Array.getElem?_push,if_neg (by omega)]
theorem alloc_new (w : World) (o : Obj) : (w.alloc o).heap[w.heap.size]? = some o := by
 show (w.heap.push o)[w.heap.size]? = _
 simp
theorem New.chg {w w1 : World} {o : Obj} {b : Nat} (h : New w o b w1) : Chg [] w w1 := by
 obtain ⟨rfl,rfl⟩ := h
 exact ⟨rfl,rfl,rfl,by simp,fun k hk _ => alloc_old w o k hk⟩
theorem New.blk {w w1 : World} {o : Obj} {b : Nat} (h : New w o b w1) : w1.heap[b]? = some o := by
 obtain ⟨rfl,rfl⟩ := h
 exact alloc_new w o
def Blk (w : World) (b : Nat) (cs : List Value) (T : TypeId) : Prop := w.heap[b]? = some (.cells cs.toArray T (0,0))
theorem New.cells {w w1 : World} {cs : List Value} {T : TypeId} {b : Nat} (h : New w (.cells cs.toArray T) b w1) : Blk w1 b cs T := h.blk
theorem Blk.chg {w w' : World} {b : Nat} {cs : List Value} {T : TypeId} {S : List Nat} (h : Blk w b cs T) (hc : Chg S w w') (hs : b ∉ S) : Blk w' b cs T := hc.block h hs
theorem Blk.lt {w : World} {b : Nat} {cs : List Value} {T : TypeId} (h : Blk w b cs T) : b < w.heap.size := (Array.getElem?_eq_some_iff.1 h).1
theorem Blk.cell {w : World} {b : Nat} {cs : List Value} {T : TypeId} (h : Blk w b cs T) {o : Nat} {v : Value} (hv : cs[o]? = some v) : w.cell? ⟨b,o,none⟩ = some v := by
 have h' : w.heap[b]? = some (.cells cs.toArray T (0,0)) := h
 simp [World.cell?,h',hv]
def aggB (P : Program) (t : TypeId) : Option Bool := match P.underlying t with
 | some (.struct _) | some (.array _ _) => some true
 | some _ => some false
 | none => none
theorem run_isAgg {P : Program} {t : TypeId} {b : Bool} (h : aggB P t = some b) (w : World) : (isAgg t).run P w = .ok b w := by
 unfold aggB at h
 cases hu : P.underlying t with
 | none => rw [hu] at h; cases h
 | some d =>
  rw [hu] at h
  simp only [isAgg,Sem.run_bind,run_und hu,Result.andThen_ok]
  cases d <;> cases h <;> rfl
theorem ld_cell {P : Program} {t : TypeId} {w : World} {a : Addr} {v : Value} (hu : aggB P t = some false) (h : w.cell? a = some v) : Ld P t w a v := by
 simp only [Ld,loadVar,Sem.run_bind,run_isAgg hu,Result.andThen_ok,Bool.false_eq_true,if_false,run_load,h]
theorem ld_agg {P : Program} {t : TypeId} {w : World} {a : Addr} {vs : List Value} (hu : aggB P t = some true) (hs : sizeV P t = some vs.length) (h : ∀ j v,vs[j]? = some v → w.cell? (a.add j) = some v) : Ld P t w a (.agg vs.toArray) := by
 simp only [Ld,loadVar,Sem.run_bind,run_isAgg hu,Result.andThen_ok,if_true,run_size hs,Sem.run_map,Sem.run_bind,run_loadCells_list w a vs h,Sem.run_pure]
theorem Blk.ld {P : Program} {t : TypeId} {w : World} {b : Nat} {cs : List Value} {T : TypeId} (h : Blk w b cs T) {o : Nat} {v : Value} (hu : aggB P t = some false) (hv : cs[o]? = some v) : Ld P t w ⟨b,o,none⟩ v :=
 ld_cell hu (h.cell hv)
theorem add_lit (b o j : Nat) : (⟨b,o,none⟩ : Addr).add j = ⟨b,o + j,none⟩ := by
 unfold Addr.add; split <;> simp_all
theorem Blk.ldA {P : Program} {t : TypeId} {w : World} {b : Nat} {cs : List Value} {T : TypeId} (h : Blk w b cs T) {o : Nat} {vs : List Value} (hu : aggB P t = some true) (hs : sizeV P t = some vs.length)
  (hv : (cs.drop o).take vs.length = vs) : Ld P t w ⟨b,o,none⟩ (.agg vs.toArray) := by
 refine ld_agg hu hs fun j v hj => ?_
 rw [add_lit]
 refine h.cell ?_
 rw [← hv] at hj
 rw [List.getElem?_take] at hj
 split at hj
 ·simpa using hj
 ·cases hj
def setB (w : World) (b : Nat) (o : Obj) : World := { w with heap := w.heap.setIfInBounds b o }
theorem setB_chg (w : World) (b : Nat) (o : Obj) : Chg [b] w (setB w b o) :=
 ⟨rfl,rfl,rfl,by simp [setB],fun k hk hs => by
  simp only [setB,Array.getElem?_setIfInBounds]
  rw [if_neg (by simpa using Ne.symm (by simpa using hs))]⟩
theorem setB_at {w : World} {b : Nat} {o : Obj} (h : b < w.heap.size) : (setB w b o).heap[b]? = some o := by
 simp [setB,h]
theorem setCell_setB {w : World} {b : Nat} {cs : List Value} {T : TypeId} {fz : Nat × Nat} (h : w.heap[b]? = some (.cells cs.toArray T fz)) (o : Nat) (v : Value) :
  w.setCell ⟨b,o,none⟩ v = setB w b (.cells (cs.set o v).toArray T fz) := by
 simp only [World.setCell,setB]
 congr 1
 apply Array.ext_getElem?
 intro k
 rw [Array.getElem?_modify,Array.getElem?_setIfInBounds]
 split
 ·rename_i hk; subst hk
  rw [if_pos (Array.getElem?_eq_some_iff.1 h).1,h]
  simp
 ·rfl
theorem setB_setB (w : World) (b : Nat) (o o' : Obj) : setB (setB w b o) b o' = setB w b o' := by
 simp only [setB]
 congr 1
 apply Array.ext_getElem?
 intro k
 simp only [Array.getElem?_setIfInBounds]
 split
 ·simp
 ·rfl
theorem run_storeCells_blk {P : Program} {b : Nat} {T : TypeId} {fz : Nat × Nat} : ∀ (vs : List Value) (w : World) (cs : List Value) (a : Addr) (o i : Nat),a.add i = ⟨b,o,none⟩ → (∀ j,a.add (i + j) = ⟨b,o + j,none⟩) →
  w.heap[b]? = some (.cells cs.toArray T fz) → o + vs.length ≤ cs.length → (∀ k,o ≤ k → k < o + vs.length → (decide (fz.1 ≤ k) && decide (k < fz.2)) = false) → (∀ u ∈ vs,u.oneCell' = true) →
  (storeCells a vs i).run P w = .ok () (if vs = [] then w else setB w b (.cells (over vs o cs).toArray T fz))
 | [],w,cs,a,o,i,ha,haj,hb,hl,hf,h1 => by simp [storeCells]
 | v :: r,w,cs,a,o,i,ha,haj,hb,hl,hf,h1 => by
  simp only [List.length_cons] at hl hf
  simp only [storeCells,Sem.run_bind]
  have hlt : o < cs.length := by omega
  have hcell : w.cell? ⟨b,o,none⟩ = some cs[o] := by simp [World.cell?,hb,hlt]
  have hfr : w.frozen? ⟨b,o,none⟩ = false := by
   have := hf o (Nat.le_refl _) (by omega)
   obtain ⟨f1,f2⟩ := fz
   simpa [World.frozen?,hb] using this
  have hst : (store (a.add i) v).run P w = .ok () (w.setCell ⟨b,o,none⟩ v) := by
   rw [ha,run_store P w _ v _ (h1 v (List.mem_cons_self ..))]
   simp [hcell,hfr]
  rw [hst]
  simp only [Result.andThen_ok]
  have hb2 : (w.setCell ⟨b,o,none⟩ v).heap[b]? = some (.cells (cs.set o v).toArray T fz) := by
   rw [setCell_setB hb]; exact setB_at (Array.getElem?_eq_some_iff.1 hb).1
  rw [run_storeCells_blk r _ (cs.set o v) a (o + 1) (i + 1) (haj 1) (fun j => by rw [show i + 1 + j = i + (1 + j) by omega,haj,show o + (1 + j) = o + 1 + j by omega]) hb2 (by simp; omega) (fun k h1' h2' => hf k (by omega) (by omega)) (fun u hu => h1 u (List.mem_cons_of_mem _ hu))]
  rw [setCell_setB hb,if_neg (List.cons_ne_nil _ _),over_cons v r o cs hlt]
  split
  ·rename_i hr; subst hr; simp [over_nil]
  ·rw [setB_setB]
theorem Blk.st {P : Program} {t : TypeId} {w : World} {b : Nat} {cs : List Value} {T : TypeId} (h : Blk w b cs T) {o : Nat} {v : Value} (hs : sizeV P t = some v.cells.size) (hv : v.cells.toList.all (·.oneCell') = true) (hl : o + v.cells.size ≤ cs.length) :
  ∃ w1,St P t w ⟨b,o,none⟩ v w1 ∧ Blk w1 b (over v.cells.toList o cs) T ∧ Chg [b] w w1 := by
 have hrun := run_storeCells_blk (P := P) (b := b) (T := T) (fz := (0,0)) v.cells.toList w cs ⟨b,o,none⟩ o 0 rfl (fun j => by simp [add_lit]) h (by simpa using hl) (fun k _ _ => by simp) (fun u hu => List.all_eq_true.1 hv u hu)
 have e : (storeVar t ⟨b,o,none⟩ v).run P w = (storeCells ⟨b,o,none⟩ v.cells.toList).run P w := by
  simp only [storeVar,Sem.run_bind,run_size hs,Result.andThen_ok]
  rw [if_neg (by simp)]
 refine ⟨_,e.trans hrun,?_,?_⟩
 ·split
  ·rename_i hn; rw [hn,over_nil]; exact h
  ·exact setB_at h.lt
 ·split
  ·exact Chg.refl _ _
  ·exact setB_chg _ _ _
def Thaw (fz : Nat × Nat) (n : Nat) : Prop := ∀ k,k < n → (decide (fz.1 ≤ k) && decide (k < fz.2)) = false
theorem Thaw.zero (n : Nat) : Thaw (0,0) n := fun k _ => by simp
theorem Thaw.behind (n m : Nat) : Thaw (n,m) n := fun k hk => by
 have : ¬ n ≤ k := by omega
 simp [this]
def Own (w : World) (base : Nat) (e : TypeId) (sz : Nat) (a : Option Addr) (n c : Nat) (xs : List Value) : Prop :=
 xs.length = n * sz ∧ ((a = none ∧ n = 0 ∧ c = 0) ∨ ∃ g cur fz,a = some ⟨g,0,none⟩ ∧ base ≤ g ∧ w.heap[g]? = some (.cells cur e fz) ∧ Thaw fz cur.size ∧ n ≤ c ∧ c ≤ maxLen ∧ c * sz ≤ cur.size ∧ cur.toList.take (n * sz) = xs)
def blks (a : Option Addr) : List Nat := match a with
 | some a => [a.block]
 | none => []
theorem Own.nil (w : World) (base : Nat) (e : TypeId) (sz : Nat) : Own w base e sz none 0 0 [] := ⟨by simp,.inl ⟨rfl,rfl,rfl⟩⟩
theorem Own.le {w : World} {base : Nat} {e : TypeId} {sz : Nat} {a : Option Addr} {n c : Nat} {xs : List Value} (h : Own w base e sz a n c xs) : n ≤ c ∧ c ≤ maxLen := by
 rcases h.2 with ⟨_,rfl,rfl⟩ | ⟨g,cur,_,_,_,_,_,h1,h2,_⟩
 ·exact ⟨Nat.le_refl _,by simp [maxLen]⟩
 ·exact ⟨h1,h2⟩
theorem Own.chg {w w' : World} {base : Nat} {e : TypeId} {sz : Nat} {a : Option Addr} {n c : Nat} {xs : List Value} {S : List Nat} (h : Own w base e sz a n c xs) (hc : Chg S w w') (hs : ∀ k ∈ blks a,k ∉ S) : Own w' base e sz a n c xs := by
 refine ⟨h.1,?_⟩
 rcases h.2 with hn | ⟨g,cur,fz,rfl,hb,hg,rest⟩
 ·exact .inl hn
 ·exact .inr ⟨g,cur,fz,rfl,hb,hc.block hg (hs g (by simp [blks])),rest⟩
theorem Own.mem {w : World} {base : Nat} {e : TypeId} {sz : Nat} {a : Option Addr} {n c : Nat} {xs : List Value} (h : Own w base e sz a n c xs) : ∀ k ∈ blks a,base ≤ k ∧ k < w.heap.size := by
 intro k hk
 rcases h.2 with ⟨rfl,_⟩ | ⟨g,cur,fz,rfl,hb,hg,rest⟩
 ·simp [blks] at hk
 ·simp [blks] at hk; subst hk
  exact ⟨hb,(Array.getElem?_eq_some_iff.1 hg).1⟩
theorem Own.front {w : World} {base : Nat} {e : TypeId} {sz : Nat} {a : Option Addr} {n c F : Nat} {xs : List Value} (h : Own w base e sz a n c xs) (hF : F ≤ n) : Own w base e sz a F F (xs.take (F * sz)) := by
 have hm : F * sz ≤ n * sz := Nat.mul_le_mul_right _ hF
 refine ⟨by rw [List.length_take,h.1]; omega,?_⟩
 rcases h.2 with ⟨rfl,rfl,rfl⟩ | ⟨g,cur,fz,rfl,hb,hg,hf,h1,h2,h3,h4⟩
 ·exact .inl ⟨rfl,by omega,by omega⟩
 ·exact .inr ⟨g,cur,fz,rfl,hb,hg,hf,Nat.le_refl _,by omega,Nat.le_trans (Nat.mul_le_mul_right _ (by omega : F ≤ c)) h3,by rw [← h4,List.take_take,Nat.min_eq_left hm]⟩
def Cells (w : World) (a : Option Addr) (vs : List Value) : Prop := ∀ j v,vs[j]? = some v → ∃ ad,a = some ad ∧ w.cell? (ad.add j) = some v
theorem Own.cells {w : World} {base : Nat} {e : TypeId} {sz : Nat} {a : Option Addr} {n c : Nat} {xs : List Value} (h : Own w base e sz a n c xs) : Cells w a xs := by
 intro j v hj
 rcases h.2 with ⟨rfl,rfl,rfl⟩ | ⟨g,cur,fz,rfl,hb,hg,hf,h1,h2,h3,h4⟩
 ·have : xs = [] := List.eq_nil_of_length_eq_zero (by simpa using h.1)
  subst this; simp at hj
 ·refine ⟨_,rfl,?_⟩
  rw [add_lit]
  rw [← h4,List.getElem?_take] at hj
  split at hj
  ·simp [World.cell?,hg]; simpa using hj
  ·cases hj
theorem Cells.chg {w w' : World} {a : Option Addr} {vs : List Value} {S : List Nat} (h : Cells w a vs) (hc : Chg S w w') (hs : ∀ k ∈ blks a,k ∉ S) : Cells w' a vs := by
 intro j v hj
 obtain ⟨ad,rfl,hcell⟩ := h j v hj
 exact ⟨ad,rfl,hc.cell hcell (by
  have : (ad.add j).block = ad.block := by unfold Addr.add; split <;> rfl
  rw [this]; exact hs _ (by simp [blks]))⟩
theorem Blk.cells {w : World} {b : Nat} {cs : List Value} {T : TypeId} (h : Blk w b cs T) : Cells w (some ⟨b,0,none⟩) cs :=
 fun j v hj => ⟨_,rfl,by rw [add_lit]; simpa using h.cell hj⟩
structure Elt (P : Program) (t e : TypeId) (sz by_ : Nat) : Prop where
 und : P.underlying t = some (.slice e)
 row : ∃ i z,P.info? e = some i ∧ i.zero = some z ∧ i.size = sz ∧ i.bytes = by_ ∧ z.cells.size = sz
def eltB (P : Program) (t e : TypeId) (sz by_ : Nat) : Bool :=
 match P.underlying t with
 | some (.slice e') => Nat.beq e' e && (match P.info? e with
  | some i => match i.zero with
   | some z => Nat.beq i.size sz && Nat.beq i.bytes by_ && Nat.beq z.cells.size sz
   | none => false
  | none => false)
 | _ => false
theorem elt_of {P : Program} {t e : TypeId} {sz by_ : Nat} (h : eltB P t e sz by_ = true) : Elt P t e sz by_ := by
 unfold eltB at h
 split at h
 ·rename_i e' hu
  simp only [Bool.and_eq_true] at h
  obtain ⟨h1,h2⟩ := h
  have := Nat.eq_of_beq_eq_true h1; subst this
  refine ⟨hu,?_⟩
  split at h2
  ·rename_i i hi
   split at h2
   ·rename_i z hz
    simp only [Bool.and_eq_true] at h2
    exact ⟨i,z,hi,hz,Nat.eq_of_beq_eq_true h2.1.1,Nat.eq_of_beq_eq_true h2.1.2,Nat.eq_of_beq_eq_true h2.2⟩
   ·cases h2
  ·cases h2
 ·cases h
theorem over_get : ∀ (l : List Value) (o : Nat) (cs : List Value),o + l.length ≤ cs.length → ∀ k,(over l o cs)[k]? = if o ≤ k ∧ k < o + l.length then l[k - o]? else cs[k]?
 | [],o,cs,h,k => by
  rw [over_nil,if_neg]
  simp only [List.length_nil]; omega
 | y :: r,o,cs,h,k => by
  simp only [List.length_cons] at h ⊢
  rw [over_cons y r o cs (by omega),over_get r (o + 1) _ (by simp; omega) k]
  by_cases hk : o = k
  ·subst hk
   rw [if_neg (by omega),if_pos (by omega)]
   rw [List.getElem?_set_self (by omega)]
   simp
  ·by_cases hk2 : o + 1 ≤ k ∧ k < o + 1 + r.length
   ·rw [if_pos hk2,if_pos (by omega),show k - o = (k - (o + 1)) + 1 by omega]
    simp
   ·rw [if_neg hk2,if_neg (by omega),List.getElem?_set]
    rw [if_neg hk]
theorem over_take (l : List Value) (o : Nat) (cs : List Value) (h : o + l.length ≤ cs.length) : (over l o cs).take (o + l.length) = cs.take o ++ l := by
 apply List.ext_getElem?
 intro k
 rw [List.getElem?_take,over_get l o cs h,List.getElem?_append,List.getElem?_take,List.length_take,show min o cs.length = o by omega]
 by_cases h1 : k < o
 ·rw [if_pos (by omega),if_neg (by omega),if_pos h1,if_pos h1]
 ·by_cases h2 : k < o + l.length
  ·rw [if_pos h2,if_pos (by omega),if_neg h1]
  ·rw [if_neg h2,if_neg h1,List.getElem?_eq_none (by omega)]
theorem setCells_over {b : Nat} {T : TypeId} {fz : Nat × Nat} : ∀ (vs : List Value) (w : World) (cs : List Value) (o : Nat),w.heap[b]? = some (.cells cs.toArray T fz) → o + vs.length ≤ cs.length →
  (w.setCells b o vs).heap[b]? = some (.cells (over vs o cs).toArray T fz) ∧ Chg [b] w (w.setCells b o vs)
 | [],w,cs,o,h,hl => by simp [World.setCells,over_nil,h,Chg.refl]
 | v :: r,w,cs,o,h,hl => by
  simp only [List.length_cons] at hl
  simp only [World.setCells]
  have hlt := (Array.getElem?_eq_some_iff.1 h).1
  have h2 : (w.setCell ⟨b,o,none⟩ v).heap[b]? = some (.cells (cs.set o v).toArray T fz) := by
   rw [setCell_setB h]; exact setB_at hlt
  obtain ⟨h3,h4⟩ := setCells_over r _ (cs.set o v) (o + 1) h2 (by simp; omega)
  rw [over_cons v r o cs (by omega)]
  refine ⟨h3,?_⟩
  have h5 : Chg [b] w (w.setCell ⟨b,o,none⟩ v) := by rw [setCell_setB h]; exact setB_chg _ _ _
  exact h5.trans h4 (fun k hk => hk) (fun k hk => .inl hk)
theorem app_own {P : Program} {t tx e ty : TypeId} {sz by_ : Nat} (T : Elt P t e sz by_) (hsz : 0 < sz) {w : World} {base : Nat} {a : Option Addr} {n c : Nat} {xs : List Value} (hown : Own w base e sz a n c xs) {x : Value} {m : Nat} {news : List Value}
  (hx : Src P sz tx x m news w) (h63 : n + m ≤ maxLen) (hby : (n + m) * by_ ≤ 140737488355328) (hbase : base ≤ w.heap.size) :
  ∃ a' c' w1,App P #[t,tx] ty w (.slice a n c) x (.slice a' (n + m) c') w1 ∧ Own w1 base e sz a' (n + m) c' (xs ++ news) ∧ Chg (blks a) w w1 ∧ ∀ k ∈ blks a',k ∈ blks a ∨ w.heap.size ≤ k := by
 obtain ⟨hu,i,z,hi,hz,rfl,rfl,hzs⟩ := T
 have hsmall : n + m ≤ 9223372036854775807 := by simp only [maxLen] at h63; omega
 have hlen : (xs ++ news).length = (n + m) * i.size := by rw [List.length_append,hown.1,hx.newsLen,Nat.add_mul]
 have grow : ∀ (hold : (Builtin.firstCells i.size n (.slice a n c)).run P w.drew = .ok xs.toArray w.drew),c < n + m →
   ∃ a' c' w1,App P #[t,tx] ty w (.slice a n c) x (.slice a' (n + m) c') w1 ∧ Own w1 base e i.size a' (n + m) c' (xs ++ news) ∧ Chg (blks a) w w1 ∧ ∀ k ∈ blks a',k ∈ blks a ∨ w.heap.size ≤ k := by
  intro hold hg
  have hr := run_append_grow_src (P := P) w t tx ty e i z hu hi hz a n c xs hold x m news hx hg (by omega) (growslice_fits hg hby)
  have hge := grownCap_ge w (n + m) c e
  have hcm : grownCap w (n + m) c e ≤ maxLen := grownCap_le_maxLen w (n + m) c e h63
  refine ⟨_,_,_,hr,⟨hlen,.inr ⟨w.heap.size,_,_,rfl,hbase,alloc_new w.drew _,Thaw.zero _,hge,hcm,?_,?_⟩⟩,?_,?_⟩
  ·refine Nat.le_of_eq (Eq.symm ?_)
   simp only [Array.size_append,List.size_toArray,size_zeroCells,hzs,hlen,← Nat.add_mul]
   congr 1; omega
  ·rw [← hlen,Array.toList_append]
   exact List.take_left' rfl
  ·exact ⟨rfl,rfl,rfl,by simp,fun k hk _ => alloc_old w.drew _ k hk⟩
  ·intro k hk; simp [blks] at hk; subst hk; exact .inr (Nat.le_refl _)
 rcases hown.2 with ⟨rfl,rfl,rfl⟩ | ⟨g,cur,fz,rfl,hbg,hg,hf,hnc,hcm,hcs,htake⟩
 ·have hxs : xs = [] := List.eq_nil_of_length_eq_zero (by simpa using hown.1)
  subst hxs
  by_cases hm : m = 0
  ·subst hm
   have hn : news = [] := List.eq_nil_of_length_eq_zero (by simpa using hx.newsLen)
   subst hn
   refine ⟨none,0,w,?_,Own.nil w base e i.size,Chg.refl _ _,by simp [blks]⟩
   have hl := hx.len w
   have hcl := hx.cells
   rcases hx.kind with ⟨e',hk⟩ | hk <;> simp [App,Builtin.append_,run_und hu,run_und hk,sizeOf,typeInfo,hi,hl,hcl]
  ·exact grow (run_firstCells_none _ _ _ _ _) (by omega)
 ·by_cases hroom : n + m ≤ c
  ·have hfit : n * i.size + news.length ≤ cur.size := by rw [hx.newsLen,← Nat.add_mul]; exact Nat.le_trans (Nat.mul_le_mul_right _ hroom) hcs
   have hcell : ∀ j,j < news.length → (w.cell? ⟨g,0 + n * i.size + j,none⟩).isSome = true := by
    intro j hj
    have : 0 + n * i.size + j < cur.size := by omega
    simp [World.cell?,hg]; omega
   have hr := run_append_room_src (P := P) w t tx ty e i hu hi g 0 n c x m news hx hroom hcell (fun j hj => by
    have := hf (0 + n * i.size + j) (by omega)
    obtain ⟨f1,f2⟩ := fz
    simpa [World.frozen?,hg] using this)
   have hcur : w.heap[g]? = some (.cells cur.toList.toArray e fz) := by simpa using hg
   obtain ⟨h3,h4⟩ := setCells_over news w cur.toList (0 + n * i.size) hcur (by simp; omega)
   refine ⟨_,_,_,hr,⟨hlen,.inr ⟨g,_,fz,rfl,hbg,h3,?_,hroom,hcm,?_,?_⟩⟩,h4,fun k hk => .inl hk⟩
   ·intro k hk
    refine hf k ?_
    rw [List.size_toArray,over_length _ _ _ (by rw [show cur.toList.length = cur.size from Array.length_toList]; omega),Array.length_toList] at hk
    exact hk
   ·rw [List.size_toArray,over_length _ _ _ (by rw [show cur.toList.length = cur.size from Array.length_toList]; omega),Array.length_toList]; exact hcs
   ·rw [← hlen]
    have := over_take news (0 + n * i.size) cur.toList (by rw [show cur.toList.length = cur.size from Array.length_toList]; omega)
    rw [show (xs ++ news).length = 0 + n * i.size + news.length by rw [hlen,Nat.add_mul,hx.newsLen]; omega]
    simp only [List.toList_toArray]
    rw [this,Nat.zero_add,htake]
  ·refine grow ?_ (by omega)
   refine run_firstCells_some _ _ _ _ _ _ xs hown.1 fun j v hj => ?_
   obtain ⟨ad,had,hcell⟩ := hown.cells j v hj
   cases had
   simpa using hcell
end Go.Vc
namespace Go.Vc
open Go
structure KeyT (K : Type) [DecidableEq K] where
 kd : TypeDesc
 enc : K → Value
 same : ∀ a b,Instr.sameNow kd (enc a) (enc b) = some (decide (a = b))
 bits : ∀ a,Instr.sameBits 10000 (enc a) (enc a) = true
 plain : ∀ P t empty w,P.underlying t = some kd → ∀ a,(Instr.checkKey empty (9999 + 1) t (enc a)).run P w = .ok () w
theorem plain_key {P : Program} {t : TypeId} {D : TypeDesc} (h : P.underlying t = some D) (hd : (∃ k,D = .int k) ∨ D = .string) (empty : Bool) (d : Nat) (w : World) (v : Value) : (Instr.checkKey empty (d + 1) t v).run P w = .ok () w := by
 rcases hd with ⟨k,rfl⟩ | rfl <;> simp only [Instr.checkKey,Sem.run_bind,run_und h,Result.andThen_ok,Sem.run_pure]
def intKey (k : IntKind) : KeyT Int where
 kd := .int k
 enc := .int k
 same := fun a b => by simp only [Instr.sameNow,if_true]; rfl
 bits := fun a => by simp [Instr.sameBits]
 plain := fun P t empty w h a => plain_key h (.inl ⟨k,rfl⟩) empty 9999 w _
theorem beq_bytes (a b : ByteArray) : (a == b) = decide (a = b) := by
 obtain ⟨a⟩ := a
 obtain ⟨b⟩ := b
 rw [Bool.eq_iff_iff,decide_eq_true_iff,ByteArray.mk.injEq]
 show (a == b) = true ↔ a = b
 exact beq_iff_eq
def strKey : KeyT ByteArray where
 kd := .string
 enc := .string
 same := fun a b => by simp only [Instr.sameNow,beq_bytes]
 bits := fun a => by simp [Instr.sameBits,beq_bytes]
 plain := fun P t empty w h a => plain_key h (.inr rfl) empty 9999 w _
section
variable {K : Type} [DecidableEq K] (kt : KeyT K)
def aget (l : List (K × Value)) (k : K) : Option Value := match l with
 | [] => none
 | (x,v) :: r => if k = x then some v else aget r k
def aput (l : List (K × Value)) (k : K) (v : Value) : List (K × Value) := match l with
 | [] => [(k,v)]
 | (x,u) :: r => if k = x then (x,v) :: r else (x,u) :: aput r k v
def adel (l : List (K × Value)) (k : K) : List (K × Value) := match l with
 | [] => []
 | (x,u) :: r => if k = x then r else (x,u) :: adel r k
def Reads (es : List MapEntry) (al : List (K × Value)) : Prop := es.map (fun e => (e.key,e.val)) = al.map fun p => (kt.enc p.1,p.2)
def MapAt (w : World) (b : Nat) (al : List (K × Value)) : Prop :=
 ∃ es clock,w.heap[b]? = some (.map es clock) ∧ Reads kt es.toList al ∧ (es.toList.map (·.born)).Nodup ∧ ∀ e ∈ es.toList,e.born < clock
variable {kt}
theorem MapAt.chg {w w' : World} {b : Nat} {al : List (K × Value)} {S : List Nat} (h : MapAt kt w b al) (hc : Chg S w w') (hs : b ∉ S) : MapAt kt w' b al := by
 obtain ⟨es,clock,h1,h2⟩ := h
 exact ⟨es,clock,hc.block h1 hs,h2⟩
theorem MapAt.lt {w : World} {b : Nat} {al : List (K × Value)} (h : MapAt kt w b al) : b < w.heap.size := by
 obtain ⟨es,clock,h1,h2⟩ := h
 exact (Array.getElem?_eq_some_iff.1 h1).1
theorem MapAt.new {w w1 : World} {b : Nat} (h : New w (.map #[] 0) b w1) : MapAt kt w1 b [] := ⟨#[],0,h.blk,rfl,by simp,by simp⟩
theorem find_now : ∀ {es : List MapEntry} {al : List (K × Value)} (i : Nat) (k : K),Reads kt es al →
  (aget al k = none ∧ Instr.findNow kt.kd (kt.enc k) es i = some none) ∨
  ∃ j v e,aget al k = some v ∧ Instr.findNow kt.kd (kt.enc k) es i = some (some (i + j,v)) ∧ es[j]? = some e ∧ e.key = kt.enc k ∧ e.val = v ∧
   (∀ v',Reads kt (es.modify j fun e => { e with key := kt.enc k,val := v' }) (aput al k v')) ∧ Reads kt (es.eraseIdx j) (adel al k)
 | [],al,i,k,h => by
  have : al = [] := by cases al with
   | nil => rfl
   | cons p r => simp [Reads] at h
  subst this
  exact .inl ⟨rfl,rfl⟩
 | e :: es,al,i,k,h => by
  cases al with
  | nil => simp [Reads] at h
  | cons p al =>
   obtain ⟨x,u⟩ := p
   simp only [Reads,List.map_cons,List.cons.injEq,Prod.mk.injEq] at h
   obtain ⟨⟨hk,hv⟩,h⟩ := h
   simp only [Instr.findNow,hk,kt.same,aget,aput,adel]
   by_cases hkx : k = x
   ·subst hkx
    right
    refine ⟨0,u,e,by simp,by simp [hv],by simp,hk,hv,fun v' => ?_,?_⟩
    ·simp only [if_true,Reads,List.modify_zero_cons,List.map_cons,hk]
     rw [h]
    ·simp only [if_true,List.eraseIdx_cons_zero,Reads]; exact h
   ·simp only [hkx,decide_false,if_false]
    rcases find_now (i + 1) k h with ⟨h1,h2⟩ | ⟨j,v,e',h1,h2,h3,h4,h5,h6,h7⟩
    ·exact .inl ⟨h1,h2⟩
    ·right
     refine ⟨j + 1,v,e',h1,by rw [h2]; congr 3; omega,by simpa using h3,h4,h5,fun v' => ?_,?_⟩
     ·have := h6 v'
      simp only [Reads,List.modify_succ_cons,List.map_cons,hk,hv] at this ⊢
      rw [this]
     ·simp only [Reads,List.eraseIdx_cons_succ,List.map_cons,hk,hv] at h7 ⊢
      rw [h7]
theorem reads_push {es : List MapEntry} {al : List (K × Value)} (h : Reads kt es al) {k : K} (hn : aget al k = none) (v : Value) (c : Nat) : Reads kt (es ++ [{ key := kt.enc k,val := v,born := c }]) (aput al k v) := by
 have : ∀ (al : List (K × Value)),aget al k = none → aput al k v = al ++ [(k,v)] := by
  intro al
  induction al with
  | nil => intro _; rfl
  | cons p r ih =>
   obtain ⟨x,u⟩ := p
   intro hn
   simp only [aget] at hn
   split at hn
   ·cases hn
   ·rename_i hne
    simp only [aput,if_neg hne,ih hn,List.cons_append]
 rw [this al hn]
 simp only [Reads,List.map_append,List.map_cons,List.map_nil] at h ⊢
 rw [h]
theorem run_findKey {P : Program} {w : World} {t : TypeId} {es : List MapEntry} {al : List (K × Value)} {k : K} {r : Option (Nat × Value)} (hu : P.underlying t = some kt.kd) (h : Instr.findNow kt.kd (kt.enc k) es 0 = some r) :
  (Instr.findKey t (kt.enc k) es).run P w = .ok r w := by
 simp only [Instr.findKey,Sem.run_bind,run_und hu,Result.andThen_ok,h,Sem.run_pure]
theorem run_getObj_map {P : Program} {w : World} {b : Nat} {es : Array MapEntry} {c : Nat} (h : w.heap[b]? = some (.map es c)) : (getObj b).run P w = .ok (.map es c) w := by
 simp only [getObj,Sem.run,h]
theorem run_setObj_map {P : Program} {w : World} {b : Nat} {es : Array MapEntry} {c : Nat} (h : w.heap[b]? = some (.map es c)) (o : Obj) : (setObj b o).run P w = .ok () (setB w b o) := by
 simp only [setObj,Sem.run,h]; rfl
structure MapT (P : Program) (kt : KeyT K) (t kT eT : TypeId) (z : Value) : Prop where
 und : P.underlying t = some (.map kT eT)
 key : P.underlying kT = some kt.kd
 zero : zeroOf P eT = some z
theorem lk_map {P : Program} {t kT eT : TypeId} {z : Value} (T : MapT P kt t kT eT z) {w : World} {b : Nat} {al : List (K × Value)} (h : MapAt kt w b al) (k : K) :
  Lk P t false w (.map (some b)) (kt.enc k) ((aget al k).getD z) ∧ Lk P t true w (.map (some b)) (kt.enc k) (.tuple #[(aget al k).getD z,.bool (aget al k).isSome]) := by
 obtain ⟨es,clock,h1,h2,h3⟩ := h
 have hck : ∀ e,(Instr.checkKey e 10000 kT (kt.enc k)).run P w = .ok () w := fun e => kt.plain P kT e w T.key k
 rcases find_now 0 k h2 with ⟨g1,g2⟩ | ⟨j,v,e,g1,g2,-⟩
 ·simp only [Lk,Instr.lookup,Sem.run_bind,run_und T.und,Result.andThen_ok,run_getObj_map h1,Sem.run_pure,hck,run_findKey T.key g2 (al := al),Sem.run_map,run_zero T.zero,g1]
  constructor <;> rfl
 ·simp only [Lk,Instr.lookup,Sem.run_bind,run_und T.und,Result.andThen_ok,run_getObj_map h1,Sem.run_pure,hck,run_findKey T.key g2 (al := al),g1]
  constructor <;> rfl
theorem born_modify {es : List MapEntry} {j : Nat} {k v : Value} : (es.modify j fun e => { e with key := k,val := v }).map (·.born) = es.map (·.born) := by
 apply List.ext_getElem?
 intro i
 simp only [List.getElem?_map,List.getElem?_modify]
 cases es[i]? with
 | none => rfl
 | some e => simp only [Option.map_some,Functor.map]; split <;> rfl
theorem mup_map {P : Program} {t kT eT : TypeId} {z : Value} (T : MapT P kt t kT eT z) {w : World} {b : Nat} {al : List (K × Value)} (h : MapAt kt w b al) (k : K) (v : Value) :
  ∃ w1,MUp P t w (.map (some b)) (kt.enc k) v w1 ∧ MapAt kt w1 b (aput al k v) ∧ Chg [b] w w1 := by
 obtain ⟨es,clock,h1,h2,h3,h4⟩ := h
 have hck : ∀ e,(Instr.checkKey e 10000 kT (kt.enc k)).run P w = .ok () w := fun e => kt.plain P kT e w T.key k
 have hlt := (Array.getElem?_eq_some_iff.1 h1).1
 rcases find_now 0 k h2 with ⟨g1,g2⟩ | ⟨j,u,e,g1,g2,g3,g4,g5,g6,-⟩
 ·refine ⟨setB w b (.map (es.push { key := kt.enc k,val := v,born := clock }) (clock + 1)),?_,⟨_,_,setB_at hlt,?_,?_,?_⟩,setB_chg _ _ _⟩
  ·simp only [MUp,Instr.mapUpdate,Sem.run_bind,run_und T.und,Result.andThen_ok,run_getObj_map h1,hck,run_findKey T.key g2 (al := al),run_setObj_map h1]
  ·rw [Array.toList_push]; exact reads_push h2 g1 v clock
  ·rw [Array.toList_push,List.map_append,List.nodup_append]
   refine ⟨h3,by simp,?_⟩
   intro a ha c hc
   simp at hc; subst hc
   obtain ⟨e,he,rfl⟩ := List.mem_map.1 ha
   exact Nat.ne_of_lt (h4 e he)
  ·intro e he
   rw [Array.toList_push] at he
   rcases List.mem_append.1 he with he | he
   ·exact Nat.lt_succ_of_lt (h4 e he)
   ·simp at he; subst he; exact Nat.lt_succ_self _
 ·have hj : es[j]? = some e := by simpa using g3
  refine ⟨setB w b (.map (es.modify j fun e => { e with key := kt.enc k,val := v }) clock),?_,⟨_,_,setB_at hlt,?_,?_,?_⟩,setB_chg _ _ _⟩
  ·rw [Nat.zero_add] at g2
   have hstay : (Instr.keyThatStays (kt.enc k) (kt.enc k)).run P w = .ok (kt.enc k) w := by
    simp [Instr.keyThatStays,kt.bits]
   simp only [MUp,Instr.mapUpdate,Sem.run_bind,run_und T.und,Result.andThen_ok,run_getObj_map h1,hck,run_findKey T.key g2 (al := al),hj,Option.map_some,Option.getD_some,g4,hstay,run_setObj_map h1]
  ·rw [Array.toList_modify]; exact g6 v
  ·rw [Array.toList_modify,born_modify]; exact h3
  ·intro e' he'
   have : e'.born ∈ (es.modify j fun e => { e with key := kt.enc k,val := v }).toList.map (·.born) := List.mem_map.2 ⟨e',he',rfl⟩
   rw [Array.toList_modify,born_modify] at this
   obtain ⟨e2,he2,e3⟩ := List.mem_map.1 this
   rw [← e3]; exact h4 e2 he2
theorem erase_list (es : Array MapEntry) (j : Nat) : (es.eraseIdxIfInBounds j).toList = es.toList.eraseIdx j := by
 rw [Array.eraseIdxIfInBounds]
 split
 ·simp
 ·rw [List.eraseIdx_of_length_le (by simpa using (by omega : es.size ≤ j))]
theorem del_map {P : Program} {ts : Array TypeId} {ty t kT eT : TypeId} {z : Value} (T : MapT P kt t kT eT z) (hts : ts[0]? = some t) {w : World} {b : Nat} {al : List (K × Value)} (h : MapAt kt w b al) (k : K) :
  ∃ w1,Del P ts ty w (.map (some b)) (kt.enc k) w1 ∧ MapAt kt w1 b (adel al k) ∧ Chg [b] w w1 := by
 obtain ⟨es,clock,h1,h2,h3,h4⟩ := h
 have hck : ∀ e,(Instr.checkKey e 10000 kT (kt.enc k)).run P w = .ok () w := fun e => kt.plain P kT e w T.key k
 have hlt := (Array.getElem?_eq_some_iff.1 h1).1
 rcases find_now 0 k h2 with ⟨g1,g2⟩ | ⟨j,u,e,g1,g2,g3,g4,g5,-,g7⟩
 ·have hsame : ∀ (al : List (K × Value)),aget al k = none → adel al k = al := by
   intro al
   induction al with
   | nil => intro _; rfl
   | cons p r ih =>
    obtain ⟨x,u⟩ := p
    intro hn
    simp only [aget] at hn
    split at hn
    ·cases hn
    ·rename_i hne
     simp only [adel,if_neg hne,ih hn]
  refine ⟨setB w b (.map es clock),?_,⟨_,_,setB_at hlt,by rw [hsame al g1]; exact h2,h3,h4⟩,setB_chg _ _ _⟩
  simp only [Del,Builtin.delete_,hts,List.getElem?_toArray,List.getElem?_cons_zero,List.getElem?_cons_succ,Sem.run_bind,run_und T.und,Result.andThen_ok,run_getObj_map h1,hck,run_findKey T.key g2 (al := al),run_setObj_map h1,Sem.run_pure]
 ·refine ⟨setB w b (.map (es.eraseIdxIfInBounds j) clock),?_,⟨_,_,setB_at hlt,?_,?_,?_⟩,setB_chg _ _ _⟩
  ·rw [Nat.zero_add] at g2
   simp only [Del,Builtin.delete_,hts,List.getElem?_toArray,List.getElem?_cons_zero,List.getElem?_cons_succ,Sem.run_bind,run_und T.und,Result.andThen_ok,run_getObj_map h1,hck,run_findKey T.key g2 (al := al),run_setObj_map h1,Sem.run_pure]
  ·rw [erase_list]; exact g7
  ·rw [erase_list]; exact h3.sublist ((List.eraseIdx_sublist ..).map _)
  ·intro e' he'
   rw [erase_list] at he'
   exact h4 e' ((List.eraseIdx_sublist ..).subset he')
end
end Go.Vc
namespace Go.Vc
open Go
inductive Asn where
 | blk (b : Nat) (cs : List Value) (T : TypeId)
 | own (e : TypeId) (sz : Nat) (a : Option Addr) (n c : Nat) (xs : List Value)
 | imap (b : Nat) (k : IntKind) (al : List (Int × Value))
 | smap (b : Nat) (al : List (ByteArray × Value))
 | any (foot : List Nat) (p : World → Prop)
def Asn.foot : Asn → List Nat
 | .blk b _ _ => [b]
 | .own _ _ a _ _ _ => blks a
 | .imap b _ _ => [b]
 | .smap b _ => [b]
 | .any f _ => f
def Asn.ok : Asn → World → Prop
 | .blk b cs T,w => Blk w b cs T
 | .own e sz a n c xs,w => Own w 0 e sz a n c xs
 | .imap b k al,w => MapAt (intKey k) w b al
 | .smap b al,w => MapAt strKey w b al
 | .any f p,w => (∀ k ∈ f,k < w.heap.size) ∧ ∀ w',(∀ k ∈ f,w'.heap[k]? = w.heap[k]?) → p w'
theorem Asn.ok_lt {a : Asn} {w : World} (h : a.ok w) : ∀ k ∈ a.foot,k < w.heap.size := by
 intro k hk
 cases a with
 | blk b cs T => simp only [Asn.foot,List.mem_singleton] at hk; subst hk; exact Blk.lt h
 | own e sz a n c xs => exact (Own.mem (show Own w 0 e sz a n c xs from h) k hk).2
 | imap b kd al => simp only [Asn.foot,List.mem_singleton] at hk; subst hk; exact MapAt.lt h
 | smap b al => simp only [Asn.foot,List.mem_singleton] at hk; subst hk; exact MapAt.lt h
 | any f p => exact h.1 k hk
theorem lt_of_eq {w w' : World} {k : Nat} (h : k < w.heap.size) (e : w'.heap[k]? = w.heap[k]?) : k < w'.heap.size := by
 rw [Array.getElem?_eq_getElem h] at e
 exact (Array.getElem?_eq_some_iff.1 e).1
theorem Asn.ok_of {a : Asn} {w w' : World} (h : a.ok w) (e : ∀ k ∈ a.foot,w'.heap[k]? = w.heap[k]?) : a.ok w' := by
 cases a with
 | blk b cs T => exact (e b (by simp [Asn.foot])).trans h
 | own el sz a n c xs =>
  refine ⟨h.1,?_⟩
  rcases h.2 with hn | ⟨g,cur,fz,rfl,hb,hg,rest⟩
  ·exact .inl hn
  ·exact .inr ⟨g,cur,fz,rfl,hb,(e g (by simp [Asn.foot,blks])).trans hg,rest⟩
 | imap b kd al =>
  obtain ⟨es,clock,h1,h2⟩ := h
  exact ⟨es,clock,(e b (by simp [Asn.foot])).trans h1,h2⟩
 | smap b al =>
  obtain ⟨es,clock,h1,h2⟩ := h
  exact ⟨es,clock,(e b (by simp [Asn.foot])).trans h1,h2⟩
 | any f p => exact ⟨fun k hk => lt_of_eq (h.1 k hk) (e k hk),fun w2 h2 => h.2 w2 fun k hk => (h2 k hk).trans (e k hk)⟩
structure Hp (B : List Nat) (w0 w : World) (L : List Asn) : Prop where
 chg : Chg B w0 w
 ok : ∀ a ∈ L,a.ok w
 own : ∀ a ∈ L,∀ k ∈ a.foot,k ∈ B ∨ w0.heap.size ≤ k
 sep : L.Pairwise fun a b => ∀ k ∈ a.foot,k ∉ b.foot
theorem Hp.start (w : World) : Hp [] w w [] := ⟨Chg.refl _ _,by simp,by simp,.nil⟩
theorem Hp.start1 {w : World} {a : Asn} (h : a.ok w) : Hp a.foot w w [a] := ⟨Chg.refl _ _,by simpa using h,by simp; intro k hk; exact .inl hk,by simp⟩
section
variable {B S : List Nat} {w0 w w' : World} {L L1 L2 M : List Asn} {a a' x y z u v p q : Asn}
theorem Hp.use (H : Hp B w0 w (L1 ++ L2)) (H' : Hp S w w' M) (hS : ∀ k ∈ S,∃ a ∈ L1,k ∈ a.foot) : Hp B w0 w' (M ++ L2) := by
 have hB : ∀ k ∈ S,k ∈ B ∨ w0.heap.size ≤ k := fun k hk => by
  obtain ⟨a,ha,hf⟩ := hS k hk
  exact H.own a (List.mem_append_left _ ha) k hf
 have hsep := List.pairwise_append.1 H.sep
 have hnS : ∀ b ∈ L2,∀ k ∈ b.foot,k ∉ S := fun b hb k hk hs => by
  obtain ⟨a,ha,hf⟩ := hS k hs
  exact hsep.2.2 a ha b hb k hf hk
 refine ⟨H.chg.trans H'.chg (fun k hk => hk) hB,?_,?_,?_⟩
 ·intro b hb
  rcases List.mem_append.1 hb with hb | hb
  ·exact H'.ok b hb
  ·have hok := H.ok b (List.mem_append_right _ hb)
   exact Asn.ok_of hok fun k hk => H'.chg.2.2.2.2 k (Asn.ok_lt hok k hk) (hnS b hb k hk)
 ·intro b hb k hk
  rcases List.mem_append.1 hb with hb | hb
  ·rcases H'.own b hb k hk with h | h
   ·exact hB k h
   ·exact .inr (Nat.le_trans H.chg.size h)
  ·exact H.own b (List.mem_append_right _ hb) k hk
 ·refine List.pairwise_append.2 ⟨H'.sep,hsep.2.1,fun b hb d hd k hk hkd => ?_⟩
  rcases H'.own b hb k hk with h | h
  ·exact hnS d hd k hkd h
  ·have := Asn.ok_lt (H.ok d (List.mem_append_right _ hd)) k hkd
   omega
theorem Hp.ext (H : Hp B w0 w L) (H' : Hp [] w w' M) : Hp B w0 w' (M ++ L) := Hp.use (L1 := []) H H' (by simp)
theorem Hp.ext0 (H : Hp B w0 w L) (H' : Hp [] w w' []) : Hp B w0 w' L := Hp.use (L1 := []) H H' (by simp)
theorem Hp.ext1 (H : Hp B w0 w L) (H' : Hp [] w w' [x]) : Hp B w0 w' (x :: L) := Hp.use (L1 := []) H H' (by simp)
theorem Hp.use1 (H : Hp B w0 w (a :: L)) (H' : Hp a.foot w w' M) : Hp B w0 w' (M ++ L) := Hp.use (L1 := [a]) H H' (by simp)
theorem Hp.use11 (H : Hp B w0 w (a :: L)) (H' : Hp a.foot w w' [x]) : Hp B w0 w' (x :: L) := Hp.use (L1 := [a]) H H' (by simp)
theorem Hp.chg0 (H : Hp B w0 w L) (h : Chg [] w w') : Hp B w0 w' L := H.ext0 ⟨h,by simp,by simp,.nil⟩
theorem Hp.set (H : Hp B w0 w (a :: L)) (h : Chg a.foot w w') (hok : a'.ok w') (hf : ∀ k ∈ a'.foot,k ∈ a.foot ∨ w.heap.size ≤ k) : Hp B w0 w' (a' :: L) :=
 H.use11 ⟨h,by simpa using hok,by simpa using hf,by simp⟩
theorem Hp.add (H : Hp B w0 w L) (h : Chg [] w w') (hok : a'.ok w') (hf : ∀ k ∈ a'.foot,w.heap.size ≤ k) : Hp B w0 w' (a' :: L) :=
 H.ext1 ⟨h,by simpa using hok,by simp; intro k hk; exact hf k hk,by simp⟩
theorem Hp.perm (H : Hp B w0 w L) (h : L.Perm M) : Hp B w0 w M :=
 ⟨H.chg,fun a ha => H.ok a (h.mem_iff.2 ha),fun a ha => H.own a (h.mem_iff.2 ha),(h.pairwise_iff (fun h1 k hk hk' => h1 k hk' hk)).1 H.sep⟩
theorem Hp.drop (H : Hp B w0 w (a :: L)) : Hp B w0 w L := ⟨H.chg,fun b hb => H.ok b (.tail _ hb),fun b hb => H.own b (.tail _ hb),(List.pairwise_cons.1 H.sep).2⟩
theorem Hp.drop1 (H : Hp B w0 w (x :: a :: L)) : Hp B w0 w (x :: L) := (H.perm (.swap a x L)).drop
theorem Hp.done (H : Hp B w0 w L) : Hp B w0 w [] := ⟨H.chg,by simp,by simp,.nil⟩
theorem Hp.done1 (H : Hp B w0 w (x :: L)) : Hp B w0 w [x] := ⟨H.chg,fun b hb => H.ok b (by simp at hb; simp [hb]),fun b hb => H.own b (by simp at hb; simp [hb]),by simp⟩
theorem Hp.pull1 (H : Hp B w0 w (x :: a :: L)) : Hp B w0 w (a :: x :: L) := H.perm (.swap a x L)
theorem Hp.pull2 (H : Hp B w0 w (x :: y :: a :: L)) : Hp B w0 w (a :: x :: y :: L) := H.perm (((List.Perm.swap a y L).cons x).trans (.swap a x _))
theorem perm_pull (L1 : List Asn) (a : Asn) (L : List Asn) : (L1 ++ a :: L).Perm (a :: (L1 ++ L)) := List.perm_middle
theorem Hp.pull3 (H : Hp B w0 w (x :: y :: z :: a :: L)) : Hp B w0 w (a :: x :: y :: z :: L) := H.perm (perm_pull [x,y,z] a L)
theorem Hp.pull4 (H : Hp B w0 w (x :: y :: z :: u :: a :: L)) : Hp B w0 w (a :: x :: y :: z :: u :: L) := H.perm (perm_pull [x,y,z,u] a L)
theorem Hp.pull5 (H : Hp B w0 w (x :: y :: z :: u :: v :: a :: L)) : Hp B w0 w (a :: x :: y :: z :: u :: v :: L) := H.perm (perm_pull [x,y,z,u,v] a L)
theorem Hp.pull6 (H : Hp B w0 w (x :: y :: z :: u :: v :: p :: a :: L)) : Hp B w0 w (a :: x :: y :: z :: u :: v :: p :: L) := H.perm (perm_pull [x,y,z,u,v,p] a L)
theorem Hp.del1 (H : Hp B w0 w (x :: a :: L)) : Hp B w0 w (x :: L) := (H.pull1).drop
theorem Hp.del2 (H : Hp B w0 w (x :: y :: a :: L)) : Hp B w0 w (x :: y :: L) := (H.pull2).drop
theorem Hp.del4 (H : Hp B w0 w (x :: y :: z :: u :: a :: L)) : Hp B w0 w (x :: y :: z :: u :: L) := (H.pull4).drop
end
structure Eqw (w w' : World) : Prop where
 heap : w'.heap = w.heap
 os : w'.os = w.os
 tape : w'.tape = w.tape
 output : w'.output = w.output
theorem Eqw.chg {w w' : World} (e : Eqw w w') : Chg [] w w' := ⟨e.os,e.tape,e.output,by rw [e.heap]; exact Nat.le_refl _,fun k _ _ => by rw [e.heap]⟩
theorem Hp.go {B : List Nat} {w0 w w' : World} {L : List Asn} (H : Hp B w0 w L) (e : Eqw w w') : Hp B w0 w' L := H.chg0 e.chg
theorem Hp.drew {B : List Nat} {w0 w : World} {L : List Asn} (H : Hp B w0 w L) : Hp B w0 w.drew L := H.go ⟨rfl,rfl,rfl,rfl⟩
structure Scl (P : Program) (t : TypeId) : Prop where
 agg : aggB P t = some false
 size : sizeV P t = some 1
structure Agg (P : Program) (t : TypeId) (n : Nat) : Prop where
 agg : aggB P t = some true
 size : sizeV P t = some n
def sclB (P : Program) (t : TypeId) : Bool := match aggB P t,sizeV P t with
 | some false,some 1 => true
 | _,_ => false
def sagB (P : Program) (t n : Nat) : Bool := match aggB P t,sizeV P t with
 | some true,some m => Nat.beq m n
 | _,_ => false
theorem scl_of {P : Program} {t : TypeId} (h : sclB P t = true) : Scl P t := by
 unfold sclB at h
 split at h
 ·exact ⟨by assumption,by assumption⟩
 ·cases h
theorem agg_of {P : Program} {t n : Nat} (h : sagB P t n = true) : Agg P t n := by
 unfold sagB at h
 split at h
 ·rename_i h1 h2
  have := Nat.eq_of_beq_eq_true h; subst this
  exact ⟨h1,h2⟩
 ·cases h
section
variable {P : Program} {B : List Nat} {w0 w w' : World} {L : List Asn} {b o n : Nat} {cs : List Value} {T t : TypeId}
theorem Hp.new (H : Hp B w0 w L) (e : Eqw w w') {w1 : World} (h : New w' (.cells cs.toArray T) b w1) : Hp B w0 w1 (.blk b cs T :: L) :=
 (H.go e).add h.chg h.cells (by simp [Asn.foot]; exact h.num ▸ Nat.le_refl _)
theorem Hp.newI (H : Hp B w0 w L) (e : Eqw w w') {w1 : World} (k : IntKind) (h : New w' (.map #[] 0) b w1) : Hp B w0 w1 (.imap b k [] :: L) :=
 (H.go e).add h.chg (MapAt.new h) (by simp [Asn.foot]; exact h.num ▸ Nat.le_refl _)
theorem Hp.newS (H : Hp B w0 w L) (e : Eqw w w') {w1 : World} (h : New w' (.map #[] 0) b w1) : Hp B w0 w1 (.smap b [] :: L) :=
 (H.go e).add h.chg (MapAt.new h) (by simp [Asn.foot]; exact h.num ▸ Nat.le_refl _)
theorem Hp.blk (H : Hp B w0 w L) (m : Asn.blk b cs T ∈ L) : Blk w b cs T := H.ok _ m
theorem Hp.ownA {e : TypeId} {sz : Nat} {a : Option Addr} {n c : Nat} {xs : List Value} (H : Hp B w0 w L) (m : Asn.own e sz a n c xs ∈ L) : Own w 0 e sz a n c xs := H.ok _ m
theorem Hp.ld (H : Hp B w0 w L) (e : Eqw w w') (S : Scl P t) (m : Asn.blk b cs T ∈ L) {v : Value} (hv : cs[o]? = some v) : Ld P t w' ⟨b,o,none⟩ v :=
 Blk.ld ((H.go e).blk m) S.agg hv
theorem Hp.ldA (H : Hp B w0 w L) (e : Eqw w w') (S : Agg P t n) (m : Asn.blk b cs T ∈ L) {vs : List Value} (hv : (cs.drop o).take n = vs) (hl : vs.length = n) : Ld P t w' ⟨b,o,none⟩ (.agg vs.toArray) := by
 subst hl
 exact Blk.ldA ((H.go e).blk m) S.agg S.size hv
theorem Hp.st (H : Hp B w0 w (.blk b cs T :: L)) (e : Eqw w w') (S : Scl P t) {v : Value} {G : World → Prop} (hv : v.cells = #[v]) (h1 : v.oneCell' = true) (ho : o < cs.length) {cs' : List Value} (hc : cs.set o v = cs')
  (k : ∀ w1,Hp B w0 w1 (.blk b cs' T :: L) → G w1) : ∃ w1,St P t w' ⟨b,o,none⟩ v w1 ∧ G w1 := by
 obtain ⟨w1,h1,h2,h3⟩ := Blk.st (P := P) (t := t) ((H.go e).blk (.head _)) (o := o) (v := v) (by rw [hv]; exact S.size) (by rw [hv]; simpa using h1) (by rw [hv]; exact ho)
 refine ⟨w1,h1,k w1 ((H.go e).set h3 ?_ (fun k hk => .inl hk))⟩
 rw [hv] at h2
 rw [← hc]
 have e2 : over #[v].toList o cs = cs.set o v := by
  rw [show #[v].toList = [v] from rfl,over_cons v [] o cs ho,over_nil]
 rw [e2] at h2; exact h2
theorem Hp.stA (H : Hp B w0 w (.blk b cs T :: L)) (e : Eqw w w') (S : Agg P t n) {vs : List Value} {G : World → Prop} (hn : vs.length = n) (h1 : vs.all (·.oneCell') = true) (ho : o + n ≤ cs.length) {cs' : List Value} (hc : over vs o cs = cs')
  (k : ∀ w1,Hp B w0 w1 (.blk b cs' T :: L) → G w1) : ∃ w1,St P t w' ⟨b,o,none⟩ (.agg vs.toArray) w1 ∧ G w1 := by
 subst hn
 obtain ⟨w1,h1,h2,h3⟩ := Blk.st (P := P) (t := t) ((H.go e).blk (.head _)) (o := o) (v := .agg vs.toArray) (by simpa [Value.cells] using S.size) (by simpa [Value.cells] using h1) (by simpa [Value.cells] using ho)
 refine ⟨w1,h1,k w1 ((H.go e).set h3 ?_ (fun k hk => .inl hk))⟩
 rw [← hc]; exact h2
variable {tx ty e : TypeId} {sz by_ : Nat} {a : Option Addr} {c m : Nat} {xs news : List Value} {x : Value} {G : Option Addr → Nat → Nat → World → Prop}
theorem Hp.app (T : Elt P t e sz by_) (hsz : 0 < sz) (H : Hp B w0 w (.own e sz a n c xs :: L)) (eq : Eqw w w') (hx : Src P sz tx x m news w') (h63 : n + m ≤ maxLen) (hby : (n + m) * by_ ≤ 140737488355328)
  (k : ∀ a' c' w1,Hp B w0 w1 (.own e sz a' (n + m) c' (xs ++ news) :: L) → G a' (n + m) c' w1) :
  ∃ a' n' c' w1,App P #[t,tx] ty w' (.slice a n c) x (.slice a' n' c') w1 ∧ G a' n' c' w1 := by
 have hown : Own w' 0 e sz a n c xs := (H.go eq).ok _ (.head _)
 obtain ⟨a',c',w1,h1,h2,h3,h4⟩ := app_own (P := P) (ty := ty) T hsz hown hx h63 hby (Nat.zero_le _)
 exact ⟨a',_,c',w1,h1,k a' c' w1 ((H.go eq).set h3 h2 h4)⟩
end
theorem Blk.src {P : Program} {w : World} {b : Nat} {cs : List Value} {T tx e' : TypeId} {sz n c : Nat} (hk : P.underlying tx = some (.slice e')) (h : Blk w b cs T) (hl : cs.length = n * sz) (h1 : cs.all (·.oneCell') = true) : Src P sz tx (.slice (some ⟨b,0,none⟩) n c) n cs w :=
 Src.ofSlice w hk ⟨b,0,none⟩ n c cs hl (fun j u hj => by rw [add_lit]; exact h.cell (by simpa using hj)) (fun u hu => List.all_eq_true.1 h1 u hu)
theorem Cells.src {P : Program} {w : World} {a : Option Addr} {cs : List Value} {tx e' : TypeId} {sz n c : Nat} (hk : P.underlying tx = some (.slice e')) (h : Cells w a cs) (hl : cs.length = n * sz) (h1 : ∀ u ∈ cs,u.oneCell' = true) (h0 : a = none → n = 0) : Src P sz tx (.slice a n c) n cs w := by
 cases a with
 | none =>
  have := h0 rfl; subst this
  have : cs = [] := List.eq_nil_of_length_eq_zero (by simpa using hl)
  subst this
  exact Src.ofNil w hk c
 | some ad => exact Src.ofSlice w hk ad n c cs hl (fun j u hj => by obtain ⟨ad',e1,e2⟩ := h j u hj; cases e1; exact e2) h1
section
variable {P : Program} {B : List Nat} {w0 w w' : World} {L : List Asn}
theorem Hp.s2b {src dst e : TypeId} {s : ByteArray} (H : Hp B w0 w L) (eq : Eqw w w') (hs : P.underlying src = some .string) (hd : P.underlying dst = some (.slice e)) (he : P.underlying e = some (.int .u8)) (hl : s.size ≤ maxLen)
  {G : Option Addr → Nat → Nat → World → Prop} (k : ∀ a c w1,Hp B w0 w1 (.own e 1 a s.size c (byteCells s) :: L) → G a s.size c w1) :
  ∃ a n c w1,S2B P src dst w' (.string s) (.slice a n c) w1 ∧ G a n c w1 := by
 refine ⟨_,_,_,_,run_bytes_of_string w' src dst e s hs hd he,k _ _ _ ((H.go eq).add ?_ ?_ ?_)⟩
 ·exact ⟨rfl,rfl,rfl,by simp,fun k hk _ => alloc_old w'.drew _ k hk⟩
 ·refine ⟨by rw [byteCells_length,Nat.mul_one],.inr ⟨_,_,_,rfl,Nat.zero_le _,alloc_new w'.drew _,Thaw.behind _ _,grownCap_ge _ _ _ _,grownCap_le_maxLen _ _ _ _ hl,?_,?_⟩⟩
  ·have := grownCap_ge w' s.size 0 e
   simp only [bytesRow,Array.size_append,Array.size_map,Array.size_replicate,Nat.mul_one]
   have e2 : s.data.size = s.size := rfl
   omega
  ·have e2 : (byteCells s).length = s.size := byteCells_length s
   rw [Nat.mul_one,bytesRow,Array.toList_append,Array.toList_map,← e2]
   exact List.take_left' rfl
 ·intro k hk; simp [Asn.foot,blks] at hk; subst hk; exact Nat.le_refl _
theorem b2s {src dst e : TypeId} {a : Option Addr} {n c : Nat} {s : ByteArray} (hs : P.underlying src = some (.slice e)) (he : P.underlying e = some (.int .u8)) (hd : P.underlying dst = some .string) (hc : Cells w a (byteCells s)) (hn : n = s.size) :
  B2S P src dst w (.slice a n c) (.string s) := by
 subst hn
 cases a with
 | none =>
  have : byteCells s = [] := by
   cases h : byteCells s with
   | nil => rfl
   | cons v r => obtain ⟨ad,e1,_⟩ := hc 0 v (by rw [h]; rfl); cases e1
  have h0 : s = ByteArray.empty := by
   have h1 : s.data.toList = [] := by simpa [byteCells] using this
   obtain ⟨d⟩ := s
   have : d = #[] := by apply Array.ext'; simpa using h1
   subst this; rfl
  subst h0
  exact run_convert_bytes_nil w src e hs he _ _ dst hd
 | some ad =>
  have := run_convert_bytes_back w src dst e ad c s.data.toList hs he hd (fun j hj => by
   have h1 : (byteCells s)[j]? = some (.int .u8 (s.data.toList[j].toNat : Int)) := by
    simp [byteCells,List.getElem?_map,List.getElem?_eq_getElem hj]
   obtain ⟨ad',e1,e2⟩ := hc j _ h1
   cases e1; exact e2)
  rw [show (s.data.toList.toArray) = s.data by simp] at this
  simpa [B2S,Array.length_toList] using this
theorem Hp.mkS {t e : TypeId} {sz by_ : Nat} {kl kc : IntKind} {n : Int} (T : Elt P t e sz by_) (H : Hp B w0 w L) (eq : Eqw w w') (h0 : 0 ≤ n) (hl : n.toNat ≤ maxLen) (hby : (by_ : Int) * n ≤ 281474976710656) {z : Value} (hz : zeroOf P e = some z)
  {G : Option Addr → Nat → Nat → World → Prop} (k : ∀ a w1,Hp B w0 w1 (.own e sz a n.toNat n.toNat (madeCells z.cells (n.toNat * sz)).toList :: L) → G a n.toNat n.toNat w1) :
  ∃ a l c w1,MkS P t w' (.int kl n) (.int kc n) (.slice a l c) w1 ∧ G a l c w1 := by
 obtain ⟨hu,i,z',hi,hz',rfl,rfl,hzs⟩ := T
 have hzz : z' = z := by
  simp only [zeroOf,hi,hz',Option.some.injEq] at hz; exact hz
 subst hzz
 refine ⟨_,_,_,_,run_make w' t e i z' hu hi hz' kl kc n n h0 (Int.le_refl _) hby (by simp only [maxLen] at hl; omega),k _ _ ((H.go eq).add ?_ ?_ ?_)⟩
 ·exact ⟨rfl,rfl,rfl,by simp,fun k hk _ => alloc_old w' _ k hk⟩
 ·refine ⟨by rw [Array.length_toList,size_madeCells],.inr ⟨_,_,_,rfl,Nat.zero_le _,alloc_new w' _,Thaw.zero _,Nat.le_refl _,hl,Nat.le_of_eq (size_madeCells _ _).symm,?_⟩⟩
  rw [List.take_of_length_le]
  rw [Array.length_toList,size_madeCells]; exact Nat.le_refl _
 ·intro k hk; simp [Asn.foot,blks] at hk; subst hk; exact Nat.le_refl _
end
section
variable {P : Program} {B : List Nat} {w0 w w' : World} {L : List Asn} {t kT eT : TypeId} {z v : Value} {b : Nat}
theorem Hp.lkI {k : IntKind} {al : List (Int × Value)} (T : MapT P (intKey k) t kT eT z) (H : Hp B w0 w L) (e : Eqw w w') (m : Asn.imap b k al ∈ L) {x : Int} (hv : (aget al x).getD z = v) : Lk P t false w' (.map (some b)) (.int k x) v := by
 subst hv; exact (lk_map T ((H.go e).ok _ m) x).1
theorem Hp.lkIok {k : IntKind} {al : List (Int × Value)} (T : MapT P (intKey k) t kT eT z) (H : Hp B w0 w L) (e : Eqw w w') (m : Asn.imap b k al ∈ L) {x : Int} {o : Bool} (hv : (aget al x).getD z = v) (ho : (aget al x).isSome = o) : Lk P t true w' (.map (some b)) (.int k x) (.tuple #[v,.bool o]) := by
 subst hv; subst ho; exact (lk_map T ((H.go e).ok _ m) x).2
theorem Hp.lkSok {al : List (ByteArray × Value)} (T : MapT P strKey t kT eT z) (H : Hp B w0 w L) (e : Eqw w w') (m : Asn.smap b al ∈ L) {x : ByteArray} {o : Bool} (hv : (aget al x).getD z = v) (ho : (aget al x).isSome = o) : Lk P t true w' (.map (some b)) (.string x) (.tuple #[v,.bool o]) := by
 subst hv; subst ho; exact (lk_map T ((H.go e).ok _ m) x).2
theorem Hp.mupI {k : IntKind} {al : List (Int × Value)} (T : MapT P (intKey k) t kT eT z) (H : Hp B w0 w (.imap b k al :: L)) (e : Eqw w w') {x : Int} {G : World → Prop}
  (kk : ∀ w1,Hp B w0 w1 (.imap b k (aput al x v) :: L) → G w1) : ∃ w1,MUp P t w' (.map (some b)) (.int k x) v w1 ∧ G w1 := by
 obtain ⟨w1,h1,h2,h3⟩ := mup_map T ((H.go e).ok _ (.head _)) x v
 exact ⟨w1,h1,kk w1 ((H.go e).set h3 h2 fun k hk => .inl hk)⟩
theorem Hp.mupS {al : List (ByteArray × Value)} (T : MapT P strKey t kT eT z) (H : Hp B w0 w (.smap b al :: L)) (e : Eqw w w') {x : ByteArray} {G : World → Prop}
  (kk : ∀ w1,Hp B w0 w1 (.smap b (aput al x v) :: L) → G w1) : ∃ w1,MUp P t w' (.map (some b)) (.string x) v w1 ∧ G w1 := by
 obtain ⟨w1,h1,h2,h3⟩ := mup_map T ((H.go e).ok _ (.head _)) x v
 exact ⟨w1,h1,kk w1 ((H.go e).set h3 h2 fun k hk => .inl hk)⟩
end
theorem Hp.front {B : List Nat} {w0 w : World} {L : List Asn} {e : TypeId} {sz : Nat} {a : Option Addr} {n c F : Nat} {xs : List Value} (H : Hp B w0 w (.own e sz a n c xs :: L)) (hF : F ≤ n) : Hp B w0 w (.own e sz a F F (xs.take (F * sz)) :: L) :=
 H.set (Chg.refl _ _) (Own.front (H.ok _ (.head _)) hF) (fun k hk => .inl hk)
theorem Own.nil' (e : TypeId) (sz : Nat) (w : World) : (Asn.own e sz none 0 0 []).ok w := Own.nil w 0 e sz
theorem Hp.nilS {B : List Nat} {w0 w : World} {L : List Asn} (H : Hp B w0 w L) (e : TypeId) (sz : Nat) : Hp B w0 w (.own e sz none 0 0 [] :: L) :=
 H.add (Chg.refl _ _) (Own.nil' e sz w) (by simp [Asn.foot,blks])
end Go.Vc
namespace Go.Vc
open Go
def bt (n : Int) (k : Nat) : UInt8 := UInt8.ofNat ((n / 2 ^ (8 * k)) % 256).toNat
def be (n : Int) : Nat → List UInt8
 | 0 => []
 | k + 1 => bt n k :: be n k
theorem be_length (n : Int) (k : Nat) : (be n k).length = k := by
 induction k with
 | zero => rfl
 | succ k ih => simp [be,ih]
def bcells (l : List UInt8) : List Value := l.map fun b => Value.int .u8 (b.toNat : Int)
def sv (l : List UInt8) : Value := .string ⟨l.toArray⟩
theorem bcells_append (a b : List UInt8) : bcells (a ++ b) = bcells a ++ bcells b := by simp [bcells]
theorem bcells_length (a : List UInt8) : (bcells a).length = a.length := by simp [bcells]
theorem byteCells_mk (l : List UInt8) : byteCells ⟨l.toArray⟩ = bcells l := by simp [byteCells,bcells]
theorem byteCells_eq (s : ByteArray) : byteCells s = bcells s.data.toList := rfl
theorem wrap8_mod (x : Int) : IntKind.u8.wrap x = x % 256 := by
 simp [IntKind.wrap,IntKind.signed,IntKind.bits]
theorem bt_toNat (n : Int) (k : Nat) : ((bt n k).toNat : Int) = (n / 2 ^ (8 * k)) % 256 := by
 have h0 : 0 ≤ (n / 2 ^ (8 * k)) % 256 := Int.emod_nonneg _ (by omega)
 have h1 : (n / 2 ^ (8 * k)) % 256 < 256 := Int.emod_lt_of_pos _ (by omega)
 rw [bt]
 have : (UInt8.ofNat ((n / 2 ^ (8 * k)) % 256).toNat).toNat = ((n / 2 ^ (8 * k)) % 256).toNat := by
  rw [UInt8.toNat_ofNat']
  exact Nat.mod_eq_of_lt (by omega)
 rw [this]; omega
theorem shr_byte (i : Int) (m : Nat) (h : m < 8) (j : Int) (hj : j = m) : IntKind.u8.wrap (Int.fdiv i ((2 : Int) ^ min (Int.toNat ((8 : Int) * j)) (IntKind.bits IntKind.i64))) = ((bt i m).toNat : Int) := by
 subst hj
 rw [wrap8_mod,bt_toNat]
 have e1 : Int.toNat ((8 : Int) * (m : Int)) = 8 * m := by omega
 have e2 : min (8 * m) (IntKind.bits IntKind.i64) = 8 * m := by simp only [IntKind.bits]; omega
 rw [e1,e2,Int.fdiv_eq_ediv_of_nonneg _ (Int.le_of_lt (Int.pow_pos (by omega)))]
theorem add_add (a : Addr) (i j : Nat) : (a.add i).add j = a.add (i + j) := by
 obtain ⟨b,o,s⟩ := a
 by_cases hi : i = 0 <;> by_cases hj : j = 0 <;> simp [Addr.add,hi,hj,Nat.add_assoc]
theorem Cells.slA {w : World} {a : Option Addr} {xs : List Value} (h : Cells w a xs) {c i : Nat} (hc : xs.length ≤ c) : Cells w (slA a c i 1) (xs.drop i) := by
 intro j v hj
 rw [List.getElem?_drop] at hj
 obtain ⟨ad,rfl,hcell⟩ := h _ v hj
 have hlt := (List.getElem?_eq_some_iff.1 hj).1
 unfold Go.Vc.slA
 rw [if_neg (by omega)]
 exact ⟨_,rfl,by rw [add_add,Nat.mul_one]; exact hcell⟩
theorem Cells.take {w : World} {a : Option Addr} {xs : List Value} (h : Cells w a xs) (i : Nat) : Cells w a (xs.take i) := by
 intro j v hj
 rw [List.getElem?_take] at hj
 split at hj
 ·exact h j v hj
 ·cases hj
theorem bcells_one (l : List UInt8) : ∀ u ∈ bcells l,u.oneCell' = true := by
 intro u hu
 obtain ⟨_,_,rfl⟩ := List.mem_map.1 hu
 rfl
end Go.Vc
namespace Go.Vc
open Go
theorem over_len (l : List Value) (o : Nat) (cs : List Value) (h : o + l.length ≤ cs.length) : (over l o cs).length = cs.length := over_length _ _ _ h
theorem over_take_in (l : List Value) (o : Nat) (cs : List Value) (n : Nat) (h : o + l.length ≤ n) (hn : n ≤ cs.length) : (over l o cs).take n = over l o (cs.take n) := by
 apply List.ext_getElem?
 intro k
 have h1 : o + l.length ≤ (cs.take n).length := by rw [List.length_take]; omega
 rw [List.getElem?_take,over_get l o cs (by omega),over_get l o (cs.take n) h1,List.getElem?_take]
 by_cases h2 : k < n
 ·rw [if_pos h2,if_pos h2]
 ·rw [if_neg h2,if_neg h2,if_neg (by omega)]
theorem Own.st {P : Program} {t : TypeId} {w : World} {e : TypeId} {sz : Nat} {a : Option Addr} {n c : Nat} {xs : List Value} (h : Own w 0 e sz a n c xs) {ad : Addr} (ha : a = some ad) {o : Nat} {v : Value} (hs : sizeV P t = some v.cells.size) (hv : v.cells.toList.all (·.oneCell') = true) (hl : o + v.cells.size ≤ xs.length) :
  ∃ w1,St P t w (ad.add o) v w1 ∧ Own w1 0 e sz a n c (over v.cells.toList o xs) ∧ Chg (blks a) w w1 := by
 have hlen := h.1
 rcases h.2 with ⟨rfl,_⟩ | ⟨g,cur,fz,rfl,hb,hg,hf,hnc,hcm,hcs,ht⟩
 ·cases ha
 cases ha
 have hnm : n * sz ≤ c * sz := Nat.mul_le_mul_right _ hnc
 have hcur : w.heap[g]? = some (.cells cur.toList.toArray e fz) := by simpa using hg
 have hcl : cur.toList.length = cur.size := Array.length_toList
 have hvl : v.cells.toList.length = v.cells.size := Array.length_toList
 have hrun := run_storeCells_blk (P := P) (b := g) (T := e) (fz := fz) v.cells.toList w cur.toList ⟨g,o,none⟩ o 0 rfl (fun j => by simp [add_lit]) hcur (by omega) (fun k h1 h2 => hf k (by omega)) (fun u hu => List.all_eq_true.1 hv u hu)
 have e1 : (storeVar t ((⟨g,0,none⟩ : Addr).add o) v).run P w = (storeCells ⟨g,o,none⟩ v.cells.toList).run P w := by
  rw [add_lit,Nat.zero_add]
  simp only [storeVar,Sem.run_bind,run_size hs,Result.andThen_ok]
  rw [if_neg (by simp)]
 refine ⟨_,e1.trans hrun,?_,?_⟩
 ·split
  ·rename_i hn; rw [hn,over_nil]; exact h
  ·refine ⟨by rw [over_len _ _ _ (by omega)]; exact hlen,.inr ⟨g,_,fz,rfl,hb,setB_at (Array.getElem?_eq_some_iff.1 hg).1,?_,hnc,hcm,?_,?_⟩⟩
   ·rw [List.size_toArray,over_len _ _ _ (by omega),hcl]; exact hf
   ·rw [List.size_toArray,over_len _ _ _ (by omega),hcl]; exact hcs
   ·simp only [List.toList_toArray]
    rw [over_take_in _ _ _ _ (by omega) (by omega),ht]
 ·split
  ·exact Chg.refl _ _
  ·exact setB_chg _ _ _
theorem Own.at {w : World} {e : TypeId} {sz : Nat} {a : Option Addr} {n c : Nat} {xs : List Value} (h : Own w 0 e sz a n c xs) {j : Nat} (hj : j < xs.length) : ∃ ad,a = some ad ∧ w.cell? (ad.add j) = some xs[j] :=
 h.cells j _ (List.getElem?_eq_getElem hj)
theorem Cells.ldA {P : Program} {w : World} {a : Option Addr} {xs : List Value} (h : Cells w a xs) {t : TypeId} {n : Nat} (T : Agg P t n) {ad : Addr} (ha : a = some ad) {o : Nat} {vs : List Value} (hv : (xs.drop o).take n = vs) (hl : vs.length = n) : Ld P t w (ad.add o) (.agg vs.toArray) := by
 subst hl ha
 refine ld_agg T.agg T.size fun j v hj => ?_
 rw [add_add]
 obtain ⟨ad',e1,e2⟩ := h (o + j) v (by
  rw [← hv,List.getElem?_take] at hj
  split at hj
  ·simpa using hj
  ·cases hj)
 cases e1; exact e2
theorem Cells.ld {P : Program} {w : World} {a : Option Addr} {xs : List Value} (h : Cells w a xs) {t : TypeId} (T : Scl P t) {ad : Addr} (ha : a = some ad) {o : Nat} {v : Value} (hv : xs[o]? = some v) : Ld P t w (ad.add o) v := by
 subst ha
 obtain ⟨ad',e1,e2⟩ := h o v hv
 cases e1; exact ld_cell T.agg e2
theorem Cells.some {w : World} {a : Option Addr} {xs : List Value} (h : Cells w a xs) (hx : xs ≠ []) : ∃ ad,a = some ad := by
 cases xs with
 | nil => exact absurd rfl hx
 | cons v r => obtain ⟨ad,e,_⟩ := h 0 v rfl; exact ⟨ad,e⟩
section
variable {P : Program} {B : List Nat} {w0 w w' : World} {L : List Asn} {e t : TypeId} {sz : Nat} {a : Option Addr} {n c o : Nat} {xs : List Value} {v : Value}
theorem Hp.stO (H : Hp B w0 w (.own e sz a n c xs :: L)) (eq : Eqw w w') {ad : Addr} (ha : a = some ad) (hs : sizeV P t = some v.cells.size) (hv : v.cells.toList.all (·.oneCell') = true) (hl : o + v.cells.size ≤ xs.length) {xs' : List Value} (hx : over v.cells.toList o xs = xs') {G : World → Prop}
  (k : ∀ w1,Hp B w0 w1 (.own e sz a n c xs' :: L) → G w1) : ∃ w1,St P t w' (ad.add o) v w1 ∧ G w1 := by
 obtain ⟨w1,h1,h2,h3⟩ := Own.st (P := P) (t := t) ((H.go eq).ok _ (.head _)) ha hs hv hl
 rw [hx] at h2
 exact ⟨w1,h1,k w1 ((H.go eq).set h3 h2 fun k hk => .inl hk)⟩
end
theorem over1 (v : Value) (o : Nat) (xs : List Value) (h : o < xs.length) : over [v] o xs = xs.set o v := by
 rw [over_cons v [] o xs h,over_nil]
section
variable {P : Program} {B : List Nat} {w0 w w' : World} {L : List Asn} {e t : TypeId} {sz : Nat} {a : Option Addr} {n c o : Nat} {xs : List Value} {v : Value}
theorem Hp.stO1 (H : Hp B w0 w (.own e sz a n c xs :: L)) (eq : Eqw w w') (T : Scl P t) {ad : Addr} (ha : a = some ad) (hv : v.cells = #[v]) (h1 : v.oneCell' = true) (hl : o < xs.length) {G : World → Prop}
  (k : ∀ w1,Hp B w0 w1 (.own e sz a n c (xs.set o v) :: L) → G w1) : ∃ w1,St P t w' (ad.add o) v w1 ∧ G w1 :=
 Hp.stO H eq ha (by rw [hv]; exact T.size) (by rw [hv]; simpa using h1) (by rw [hv]; exact hl) (by rw [hv]; exact over1 v o xs hl) k
end
def objA (l : Nat) (o : Obj) : Asn := .any [l] fun w => w.heap[l]? = some o
theorem objA_ok {l : Nat} {o : Obj} {w : World} (h : w.heap[l]? = some o) : (objA l o).ok w :=
 ⟨fun k hk => by rw [List.mem_singleton] at hk; subst hk; exact (Array.getElem?_eq_some_iff.1 h).1,fun w' he => (he l (by simp)).trans h⟩
section
variable {P : Program} {B : List Nat} {w0 w w' w1 : World} {L : List Asn} {l : Nat} {o o' : Obj}
theorem Hp.obj (H : Hp B w0 w L) (m : objA l o ∈ L) : w.heap[l]? = some o := (H.ok _ m).2 w fun _ _ => rfl
theorem Hp.newO (H : Hp B w0 w L) (e : Eqw w w') (h : New w' o l w1) : Hp B w0 w1 (objA l o :: L) :=
 (H.go e).add h.chg (objA_ok h.blk) (by intro k hk; simp [objA,Asn.foot] at hk; subst hk; exact h.num ▸ Nat.le_refl _)
theorem Hp.putO (H : Hp B w0 w (objA l o :: L)) : Hp B w0 (w.putObj l o') (objA l o' :: L) := by
 have hl : l < w.heap.size := (Array.getElem?_eq_some_iff.1 (H.obj (.head _))).1
 exact H.set (setB_chg w l o') (objA_ok (World.putObj_heap_same hl)) (fun k hk => .inl hk)
theorem Hp.shut (H : Hp B w0 w (objA l (.deferred (some [])) :: L)) {G : World → Prop} (k : ∀ w1,Hp B w0 w1 L → G w1) : ∃ w1,ShutD w l w1 ∧ G w1 :=
 ⟨_,⟨H.obj (.head _),rfl⟩,k _ (H.putO (o' := .deferred none)).drop⟩
end
theorem callX {P : Program} {fv : Value} {args : List Value} {w : World} {R R' : Ending → World → Prop} (h : CallX P fv args w R) (hr : ∀ e w',R e w' → R' e w') : CallX P fv args w R' := callX_mono hr h
end Go.Vc
namespace Go.Vc
open Go
def leftL (es : Array MapEntry) (seen : Array Nat) : List MapEntry := es.toList.filter fun e => !seen.contains e.born
theorem leftL_start (es : Array MapEntry) : leftL es #[] = es.toList := by
 simp [leftL]
theorem filter_ne : ∀ {l : List MapEntry} {e : MapEntry},e ∈ l → (l.map (·.born)).Nodup → l.Perm (e :: l.filter fun x => !decide (x.born = e.born))
 | x :: r,e,h,hn => by
  simp only [List.map_cons,List.nodup_cons] at hn
  rw [List.filter_cons]
  by_cases hx : x.born = e.born
  ·have hxe : x = e := by
    rcases List.mem_cons.1 h with rfl | h
    ·rfl
    ·exact absurd (hx ▸ List.mem_map.2 ⟨e,h,rfl⟩) hn.1
   subst hxe
   simp only [decide_true,Bool.not_true,Bool.false_eq_true,if_false]
   refine List.Perm.cons _ ?_
   rw [List.filter_eq_self.2]
   intro y hy
   have : y.born ≠ x.born := fun e => hn.1 (e ▸ List.mem_map.2 ⟨y,hy,rfl⟩)
   simp [this]
  ·have hr : e ∈ r := by
    rcases List.mem_cons.1 h with rfl | h
    ·exact absurd rfl hx
    ·exact h
   simp only [hx,decide_false,Bool.not_false,if_true]
   exact ((filter_ne hr hn.2).cons x).trans (.swap _ _ _)
theorem leftL_push {es : Array MapEntry} {seen : Array Nat} {e : MapEntry} (hn : (es.toList.map (·.born)).Nodup) (he : e ∈ leftL es seen) : (leftL es seen).Perm (e :: leftL es (seen.push e.born)) := by
 have hn2 : ((leftL es seen).map (·.born)).Nodup := hn.sublist ((List.filter_sublist ..).map _)
 refine (filter_ne he hn2).trans ?_
 refine List.Perm.cons _ (List.Perm.of_eq ?_)
 simp only [leftL,List.filter_filter]
 congr 1
 funext x
 simp only [Array.contains_push,Bool.not_or]
 rw [Bool.and_comm]
 congr 1
theorem leftOf_list (es : Array MapEntry) (seen : Array Nat) : (leftOf es seen).toList = leftL es seen := by simp [leftOf,leftL]
section
variable {P : Program} {B : List Nat} {w0 w w' : World} {L : List Asn} {t kT eT : TypeId} {b it clock : Nat} {es : Array MapEntry} {seen : Array Nat} {ty : TypeId}
theorem Hp.rng (H : Hp B w0 w L) (eq : Eqw w w') (hu : P.underlying t = some (.map kT eT)) (hb : w.heap[b]? = some (.map es clock)) {G : Option Addr → World → Prop}
  (k : ∀ it w1,Hp B w0 w1 (objA it (.mapIter (some b) clock #[] clock) :: L) → G (some ⟨it,0,none⟩) w1) : ∃ (p : Option Addr) (w1 : World),Rng P t w' (.map (some b)) (.pointer p) w1 ∧ G p w1 := by
 have hb' : w'.heap[b]? = some (.map es clock) := by rw [eq.heap]; exact hb
 refine ⟨some ⟨w'.heap.size,0,none⟩,w'.alloc (.mapIter (some b) clock #[] clock),?_,k _ _ (H.newO eq ⟨rfl,rfl⟩)⟩
 simp only [Rng,Instr.range,Sem.run_bind,run_und hu,Result.andThen_ok,run_getObj_map hb',Sem.run_pure]
 rfl
theorem Hp.nxt (H : Hp B w0 w (objA it (.mapIter (some b) clock seen clock) :: L)) (eq : Eqw w w') (hb : w.heap[b]? = some (.map es clock)) (hold : ∀ e ∈ es.toList,e.born < clock) (hn : (es.toList.map (·.born)).Nodup)
  {G0 : World → Prop} {G1 : Value → Value → World → Prop}
  (k0 : leftL es seen = [] → G0 w')
  (k1 : ∀ (e : MapEntry) (w1 : World),e ∈ es.toList → (leftL es seen).Perm (e :: leftL es (seen.push e.born)) → Hp B w0 w1 (objA it (.mapIter (some b) clock (seen.push e.born) clock) :: L) →
   (Instr.entry (.pointer (some ⟨it,0,none⟩))).run P w1 = .ok (.tuple #[e.key,e.val]) w1 → G1 e.key e.val w1) :
  (∃ w1,Nxt P false ty w' (.pointer (some ⟨it,0,none⟩)) (.tuple #[.bool false]) w1 ∧ G0 w1) ∨ (∃ (k v : Value) (w1 : World),Nxt P false ty w' (.pointer (some ⟨it,0,none⟩)) (.tuple #[.bool true,k,v]) w1 ∧ G1 k v w1) := by
 have H1 := H.go eq
 have hi : w'.heap[it]? = some (.mapIter (some b) clock seen clock) := H1.obj (.head _)
 have hb' : w'.heap[b]? = some (.map es clock) := by rw [eq.heap]; exact hb
 rcases run_next_at (P := P) w' ty it b clock clock seen es clock hi hb' hold (Nat.le_refl _) with ⟨h1,h2⟩ | ⟨e,he,w1,hw,h2⟩
 ·refine .inl ⟨w',h2,k0 ?_⟩
  rw [← leftOf_list]
  exact List.eq_nil_of_length_eq_zero (by simpa using h1)
 ·rw [leftOf_list] at he
  have hmem : e ∈ es.toList := (List.mem_filter.1 he).1
  have e1 : Eqw w' w1 := by rcases hw with rfl | rfl <;> exact ⟨rfl,rfl,rfl,rfl⟩
  have H2 := H1.go e1
  have hne : it ≠ b := by
   rintro rfl
   rw [hb'] at hi; cases hi
  have H3 : Hp B w0 (setB w1 it (.mapIter (some b) clock (seen.push e.born) clock)) (objA it (.mapIter (some b) clock (seen.push e.born) clock) :: L) := H2.putO (o' := .mapIter (some b) clock (seen.push e.born) clock)
  have hset : ChangeMaps.setBlock w1 it (.mapIter (some b) clock (seen.push e.born) clock) = setB w1 it (.mapIter (some b) clock (seen.push e.born) clock) := rfl
  rw [hset] at h2
  refine .inr ⟨_,_,_,h2,k1 e _ hmem (leftL_push hn he) H3 ?_⟩
  refine run_entry_at (P := P) _ it b clock seen es clock e (H3.obj (.head _)) ?_ hmem hn
  have : (setB w1 it (.mapIter (some b) clock (seen.push e.born) clock)).heap[b]? = w1.heap[b]? := by
   have hc := setB_chg w1 it (.mapIter (some b) clock (seen.push e.born) clock)
   have hlt : b < w1.heap.size := by rw [e1.heap]; exact (Array.getElem?_eq_some_iff.1 hb').1
   exact hc.2.2.2.2 b hlt (by simpa using fun h => hne h.symm)
  rw [this,e1.heap]; exact hb'
end
section
variable {P : Program} {B : List Nat} {w0 w w' : World} {L : List Asn} {e t : TypeId} {sz n c o m : Nat} {a : Option Addr} {xs : List Value} {v : Value}
theorem Hp.ldO (H : Hp B w0 w L) (eq : Eqw w w') (S : Scl P t) (mm : Asn.own e sz a n c xs ∈ L) (ho : xs[o]? = some v) : ∃ ad,a = some ad ∧ Ld P t w' (ad.add o) v := by
 have hc := ((H.go eq).ownA mm).cells
 obtain ⟨ad,ha,_⟩ := hc o v ho
 exact ⟨ad,ha,hc.ld S ha ho⟩
theorem Hp.ldOA (H : Hp B w0 w L) (eq : Eqw w w') (S : Agg P t m) (hm : 0 < m) (mm : Asn.own e sz a n c xs ∈ L) {vs : List Value} (ho : (xs.drop o).take m = vs) (hl : vs.length = m) : ∃ ad,a = some ad ∧ Ld P t w' (ad.add o) (.agg vs.toArray) := by
 have hc := ((H.go eq).ownA mm).cells
 have hx : xs ≠ [] := by
  rintro rfl
  rw [List.drop_nil,List.take_nil] at ho
  subst ho; simp at hl; omega
 obtain ⟨ad,ha⟩ := hc.some hx
 exact ⟨ad,ha,hc.ldA S ha ho hl⟩
end
end Go.Vc
namespace Go.Proofs.YtdeebigmpffnbaaGreat
open Go Go.Vc Go.Proofs Go.RowKit Go.Maps Go.Sort Go.Shelf
def keysIR : Ren := { f := fun | 7 => 104 | 10 => 134 | n => n,t := fun | 23 => 77 | 26 => 3 | 3 => 4 | 28 => 108 | 0 => 0 | 27 => 107 | 33 => 152 | 4 => 4 | n => n,g := fun n => n }
theorem keysIL : SlLaysZI.n7 Tryz.prog keysIR := { mixed := by kernel_rfl, f7 := ⟨"maps.Keys[map[int]bool,int,bool]", of_decide_eq_true (by kernel_rfl), Tryz.func104.trans (congrArg some (by kernel_rfl))⟩, f10 := ⟨"maps.Keys[map[int]bool,int,bool]$1", of_decide_eq_true (by kernel_rfl), Tryz.func134.trans (congrArg some (by kernel_rfl))⟩, t0 := Tryz.underlying0, a0 := Tryz.isAgg0, z0 := Tryz.sizeOf0, v0 := Tryz.zeroValue0, t4 := Tryz.underlying4, a4 := Tryz.isAgg4, z4 := Tryz.sizeOf4, v4 := Tryz.zeroValue4, t23 := Tryz.underlying77, a23 := Tryz.isAgg77, z23 := Tryz.sizeOf77, v23 := Tryz.zeroValue77, t26 := Tryz.underlying3, a26 := Tryz.isAgg3, z26 := Tryz.sizeOf3, v26 := Tryz.zeroValue3, t27 := Tryz.underlying107, a27 := Tryz.isAgg107, z27 := Tryz.sizeOf107, v27 := Tryz.zeroValue107, t28 := Tryz.underlying108, a28 := Tryz.isAgg108, z28 := Tryz.sizeOf108, v28 := Tryz.zeroValue108, t33 := Tryz.underlying152, a33 := Tryz.isAgg152, z33 := Tryz.sizeOf152, v33 := Tryz.zeroValue152 }
def keysNR : Ren := { f := fun | 7 => 49 | 10 => 86 | n => n,t := fun | 23 => 86 | 26 => 3 | 3 => 3 | 28 => 108 | 0 => 0 | 27 => 107 | 33 => 152 | 4 => 4 | n => n,g := fun n => n }
theorem keysNL : SlLaysZI.n7 Tryz.prog keysNR := { mixed := by kernel_rfl, f7 := ⟨"maps.Keys[map[int]int,int,int]", of_decide_eq_true (by kernel_rfl), Tryz.func49.trans (congrArg some (by kernel_rfl))⟩, f10 := ⟨"maps.Keys[map[int]int,int,int]$1", of_decide_eq_true (by kernel_rfl), Tryz.func86.trans (congrArg some (by kernel_rfl))⟩, t0 := Tryz.underlying0, a0 := Tryz.isAgg0, z0 := Tryz.sizeOf0, v0 := Tryz.zeroValue0, t4 := Tryz.underlying4, a4 := Tryz.isAgg4, z4 := Tryz.sizeOf4, v4 := Tryz.zeroValue4, t23 := Tryz.underlying86, a23 := Tryz.isAgg86, z23 := Tryz.sizeOf86, v23 := Tryz.zeroValue86, t26 := Tryz.underlying3, a26 := Tryz.isAgg3, z26 := Tryz.sizeOf3, v26 := Tryz.zeroValue3, t27 := Tryz.underlying107, a27 := Tryz.isAgg107, z27 := Tryz.sizeOf107, v27 := Tryz.zeroValue107, t28 := Tryz.underlying108, a28 := Tryz.isAgg108, z28 := Tryz.sizeOf108, v28 := Tryz.zeroValue108, t33 := Tryz.underlying152, a33 := Tryz.isAgg152, z33 := Tryz.sizeOf152, v33 := Tryz.zeroValue152 }
def sortedIR : Ren := { f := fun | 6 => 48 | 8 => 84 | 9 => 85 | 11 => 121 | 13 => 123 | 12 => 122 | 23 => 147 | 24 => 148 | 14 => 138 | 15 => 139 | 16 => 140 | 17 => 141 | 18 => 142 | 19 => 143 | 20 => 144 | 21 => 145 | 22 => 146 | 25 => 149 | 26 => 150 | 27 => 151 | 28 => 152 | 29 => 153 | 30 => 154 | 31 => 155 | n => n,t := fun | 26 => 3 | 28 => 108 | 24 => 30 | 0 => 0 | 3 => 3 | 37 => 195 | 48 => 204 | 50 => 127 | 4 => 4 | 40 => 210 | 39 => 209 | 45 => 126 | 5 => 5 | 9 => 9 | 51 => 218 | 55 => 222 | 57 => 224 | 58 => 140 | 33 => 152 | n => n,g := fun n => n }
theorem sortedIL : SlLaysZI.n6 Tryz.prog sortedIR := { mixed := by kernel_rfl, f6 := ⟨"slices.Sorted[int]", of_decide_eq_true (by kernel_rfl), Tryz.func48.trans (congrArg some (by kernel_rfl))⟩, f8 := ⟨"slices.Collect[int]", of_decide_eq_true (by kernel_rfl), Tryz.func84.trans (congrArg some (by kernel_rfl))⟩, f11 := ⟨"slices.AppendSeq[[]int,int]", of_decide_eq_true (by kernel_rfl), Tryz.func121.trans (congrArg some (by kernel_rfl))⟩, i26 := by kernel_rfl, t0 := Tryz.underlying0, a0 := Tryz.isAgg0, z0 := Tryz.sizeOf0, v0 := Tryz.zeroValue0, t24 := Tryz.underlying30, a24 := Tryz.isAgg30, z24 := Tryz.sizeOf30, v24 := Tryz.zeroValue30, t26 := Tryz.underlying3, a26 := Tryz.isAgg3, z26 := Tryz.sizeOf3, v26 := Tryz.zeroValue3, t28 := Tryz.underlying108, a28 := Tryz.isAgg108, z28 := Tryz.sizeOf108, v28 := Tryz.zeroValue108 }
def sortIR : Ren := { f := fun | 5 => 85 | 8 => 123 | 7 => 122 | 19 => 147 | 20 => 148 | 10 => 138 | 11 => 139 | 12 => 140 | 13 => 141 | 14 => 142 | 15 => 143 | 16 => 144 | 17 => 145 | 18 => 146 | 30 => 149 | 31 => 150 | 32 => 151 | 33 => 152 | 34 => 153 | 35 => 154 | 40 => 155 | n => n,t := fun | 23 => 30 | 25 => 3 | 3 => 3 | 32 => 195 | 22 => 30 | 0 => 0 | 44 => 204 | 46 => 127 | 4 => 4 | 36 => 210 | 35 => 209 | 41 => 126 | 5 => 5 | 9 => 9 | 53 => 218 | 57 => 222 | 63 => 224 | 64 => 140 | n => n,g := fun n => n }
theorem sortIL : SlLaysM.n5 Tryz.prog sortIR := { mixed := by kernel_rfl, f5 := ⟨"slices.Sort[[]int,int]", of_decide_eq_true (by kernel_rfl), Tryz.func85.trans (congrArg some (by kernel_rfl))⟩, f7 := ⟨"slices.pdqsortOrdered[int]", of_decide_eq_true (by kernel_rfl), Tryz.func122.trans (congrArg some (by kernel_rfl))⟩, f10 := ⟨"slices.insertionSortOrdered[int]", of_decide_eq_true (by kernel_rfl), Tryz.func138.trans (congrArg some (by kernel_rfl))⟩, f11 := ⟨"slices.heapSortOrdered[int]", of_decide_eq_true (by kernel_rfl), Tryz.func139.trans (congrArg some (by kernel_rfl))⟩, f12 := ⟨"slices.breakPatternsOrdered[int]", of_decide_eq_true (by kernel_rfl), Tryz.func140.trans (congrArg some (by kernel_rfl))⟩, f13 := ⟨"slices.choosePivotOrdered[int]", of_decide_eq_true (by kernel_rfl), Tryz.func141.trans (congrArg some (by kernel_rfl))⟩, f14 := ⟨"slices.reverseRangeOrdered[int]", of_decide_eq_true (by kernel_rfl), Tryz.func142.trans (congrArg some (by kernel_rfl))⟩, f15 := ⟨"slices.partialInsertionSortOrdered[int]", of_decide_eq_true (by kernel_rfl), Tryz.func143.trans (congrArg some (by kernel_rfl))⟩, f16 := ⟨"cmp.Less[int]", of_decide_eq_true (by kernel_rfl), Tryz.func144.trans (congrArg some (by kernel_rfl))⟩, f17 := ⟨"slices.partitionEqualOrdered[int]", of_decide_eq_true (by kernel_rfl), Tryz.func145.trans (congrArg some (by kernel_rfl))⟩, f18 := ⟨"slices.partitionOrdered[int]", of_decide_eq_true (by kernel_rfl), Tryz.func146.trans (congrArg some (by kernel_rfl))⟩, f30 := ⟨"slices.siftDownOrdered[int]", of_decide_eq_true (by kernel_rfl), Tryz.func149.trans (congrArg some (by kernel_rfl))⟩, f33 := ⟨"slices.medianAdjacentOrdered[int]", of_decide_eq_true (by kernel_rfl), Tryz.func152.trans (congrArg some (by kernel_rfl))⟩, f34 := ⟨"slices.medianOrdered[int]", of_decide_eq_true (by kernel_rfl), Tryz.func153.trans (congrArg some (by kernel_rfl))⟩, f35 := ⟨"cmp.isNaN[int]", of_decide_eq_true (by kernel_rfl), Tryz.func154.trans (congrArg some (by kernel_rfl))⟩, f40 := ⟨"slices.order2Ordered[int]", of_decide_eq_true (by kernel_rfl), Tryz.func155.trans (congrArg some (by kernel_rfl))⟩, f8 := Tryz.func123.trans (congrArg some (by kernel_rfl)), f19 := Tryz.func147.trans (congrArg some (by kernel_rfl)), f20 := Tryz.func148.trans (congrArg some (by kernel_rfl)), f31 := Tryz.func150.trans (congrArg some (by kernel_rfl)), f32 := Tryz.func151.trans (congrArg some (by kernel_rfl)), t0 := Tryz.underlying0, a0 := Tryz.isAgg0, z0 := Tryz.sizeOf0, v0 := Tryz.zeroValue0, t3 := Tryz.underlying3, a3 := Tryz.isAgg3, z3 := Tryz.sizeOf3, v3 := Tryz.zeroValue3, t4 := Tryz.underlying4, a4 := Tryz.isAgg4, z4 := Tryz.sizeOf4, v4 := Tryz.zeroValue4, t5 := Tryz.underlying5, a5 := Tryz.isAgg5, z5 := Tryz.sizeOf5, v5 := Tryz.zeroValue5, t9 := Tryz.underlying9, a9 := Tryz.isAgg9, z9 := Tryz.sizeOf9, v9 := Tryz.zeroValue9, t22 := Tryz.underlying30, a22 := Tryz.isAgg30, z22 := Tryz.sizeOf30, v22 := Tryz.zeroValue30, t23 := Tryz.underlying30, a23 := Tryz.isAgg30, z23 := Tryz.sizeOf30, v23 := Tryz.zeroValue30, t25 := Tryz.underlying3, a25 := Tryz.isAgg3, z25 := Tryz.sizeOf3, v25 := Tryz.zeroValue3, t32 := Tryz.underlying195, a32 := Tryz.isAgg195, z32 := Tryz.sizeOf195, v32 := Tryz.zeroValue195, t35 := Tryz.underlying209, a35 := Tryz.isAgg209, z35 := Tryz.sizeOf209, v35 := Tryz.zeroValue209, t36 := Tryz.underlying210, a36 := Tryz.isAgg210, z36 := Tryz.sizeOf210, v36 := Tryz.zeroValue210, t41 := Tryz.underlying126, a41 := Tryz.isAgg126, z41 := Tryz.sizeOf126, v41 := Tryz.zeroValue126, t44 := Tryz.underlying204, a44 := Tryz.isAgg204, z44 := Tryz.sizeOf204, v44 := Tryz.zeroValue204, t46 := Tryz.underlying127, a46 := Tryz.isAgg127, z46 := Tryz.sizeOf127, v46 := Tryz.zeroValue127, t53 := Tryz.underlying218, a53 := Tryz.isAgg218, z53 := Tryz.sizeOf218, v53 := Tryz.zeroValue218, t57 := Tryz.underlying222, a57 := Tryz.isAgg222, z57 := Tryz.sizeOf222, v57 := Tryz.zeroValue222, t63 := Tryz.underlying224, a63 := Tryz.isAgg224, z63 := Tryz.sizeOf224, v63 := Tryz.zeroValue224, t64 := Tryz.underlying140, a64 := Tryz.isAgg140, z64 := Tryz.sizeOf140, v64 := Tryz.zeroValue140 }
def mclR : Ren := { f := fun | 5 => 64 | 7 => 105 | n => n,t := fun | 23 => 67 | 25 => 9 | 3 => 3 | 4 => 4 | 20 => 20 | n => n,g := fun n => n }
theorem mclL : SlLaysW.n5 Tryz.prog mclR := { mixed := by kernel_rfl, f5 := ⟨"maps.Clone[map[string]int,string,int]", of_decide_eq_true (by kernel_rfl), Tryz.func64.trans (congrArg some (by kernel_rfl))⟩, f7 := Tryz.func105.trans (congrArg some (by kernel_rfl)), t4 := Tryz.underlying4, a4 := Tryz.isAgg4, z4 := Tryz.sizeOf4, v4 := Tryz.zeroValue4, t20 := Tryz.underlying20, a20 := Tryz.isAgg20, z20 := Tryz.sizeOf20, v20 := Tryz.zeroValue20, t23 := Tryz.underlying67, a23 := Tryz.isAgg67, z23 := Tryz.sizeOf67, v23 := Tryz.zeroValue67 }
end Go.Proofs.YtdeebigmpffnbaaGreat
namespace Go.Proofs.YtdeebigmpffnbaaGreat
open Go Go.Vc Go.Proofs Go.RowKit Go.Maps Go.Sort Go.Shelf
theorem chg_below {w w' : World} (h : Below w.heap.size w w') : Chg [] w w' := ⟨h.os,h.tape,h.output,h.size,fun k hk _ => h.block k hk⟩
theorem hp_row {w w' : World} {e : TypeId} {v : Value} {n : Nat} {xs : List Value} (hb : Below w.heap.size w w') (h : w'.ownsRow w.heap.size e 1 v n xs) :
  ∃ a c,v = .slice a n c ∧ Hp [] w w' [.own e 1 a n c xs] := by
 obtain ⟨h1,⟨rfl,rfl⟩ | ⟨g,cap,cur,rfl,h2,h3,h4,h5,h6,h7⟩⟩ := h
 ·refine ⟨none,0,rfl,chg_below hb,?_,by simp [Asn.foot,blks],by simp⟩
  intro a ha
  rw [List.mem_singleton] at ha; subst ha
  exact ⟨h1,.inl ⟨rfl,rfl,rfl⟩⟩
 ·refine ⟨some ⟨g,0,none⟩,cap,rfl,chg_below hb,?_,?_,by simp⟩
  ·intro a ha
   rw [List.mem_singleton] at ha; subst ha
   exact ⟨h1,.inr ⟨g,cur,(0,0),rfl,Nat.zero_le _,h3,Thaw.zero _,h4,h5,Nat.le_of_eq h6.symm,h7⟩⟩
  ·intro a ha k hk
   rw [List.mem_singleton] at ha; subst ha
   simp [Asn.foot,blks] at hk; subst hk
   exact .inr h2
theorem keysI_spec (mb : Option Nat) (w : World) : Calls Tryz.prog 104 #[.map mb] w fun e w' =>
  ∃ q,e = .returned (.func (.func 134) #[] #[.pointer (some ⟨q,0,none⟩)]) ∧ Hp [] w w' [.blk q [.map mb] 77] := by
 refine Calls.mono (callsIn_wide.1 (AnyZI.keys_in keysIL Fence.wide 5 trivial rfl mb w)) ?_
 rintro e w' ⟨rfl,rfl⟩
 exact ⟨_,rfl,(Hp.start w).new (w' := w) ⟨rfl,rfl,rfl,rfl⟩ ⟨rfl,rfl⟩⟩
section
variable {K : Type} [DecidableEq K] {kt : KeyT K}
def RR : Value → Option (DataW Unit × List MemPlace) := fun _ => some (.nil,[])
theorem owns_of {P : Program} {k : TypeId} {w : World} {b : Nat} {al : List (K × Value)} (h : MapAt kt w b al) (hn : (al.map (·.1)).Nodup) (hl : al.length ≤ maxLen) (enc : K → Lit) (inj : ∀ x y,kt.enc x = kt.enc y → x = y)
  (hk : ∀ p ∈ al,keyOf P k (kt.enc p.1) = some (enc p.1)) :
  ∃ D : DataW Unit,w.ownsMap P k RR b al.length D ∧ Maps.size D = al.length ∧ ∃ l : List (Lit × DataW Unit),D = .map l ∧ l.Perm (al.map fun p => (enc p.1,DataW.nil)) := by
 obtain ⟨es,clock,h1,h2,h3,h4⟩ := h
 have hlen : es.size = al.length := by
  have := congrArg List.length h2
  simpa using this
 have hrd : ∀ x ∈ es.toList,∃ p ∈ al,x.key = kt.enc p.1 := by
  intro x hx
  have : (x.key,x.val) ∈ al.map fun p => (kt.enc p.1,p.2) := h2 ▸ List.mem_map.2 ⟨x,hx,rfl⟩
  obtain ⟨p,hp,e⟩ := List.mem_map.1 this
  exact ⟨p,hp,(congrArg Prod.fst e).symm⟩
 have hmap : es.toList.map (WideElems.rg P k RR) = al.map fun p => (enc p.1,DataW.nil) := by
  have e1 : es.toList.map (·.key) = al.map fun p => kt.enc p.1 := by
   have := congrArg (List.map Prod.fst) h2
   simpa [List.map_map,Function.comp_def] using this
  have e2 : ∀ (l : List MapEntry) (al : List (K × Value)),(∀ p ∈ al,keyOf P k (kt.enc p.1) = some (enc p.1)) → l.map (·.key) = (al.map fun p => kt.enc p.1) → l.map (WideElems.rg P k RR) = al.map fun p => (enc p.1,(DataW.nil : DataW Unit)) := by
   intro l
   induction l with
   | nil => intro al _ h; cases al with
    | nil => rfl
    | cons _ _ => cases h
   | cons x r ih =>
    intro al hk h
    cases al with
    | nil => cases h
    | cons p al =>
     simp only [List.map_cons,List.cons.injEq] at h ⊢
     refine ⟨?_,ih al (fun p hp => hk p (.tail _ hp)) h.2⟩
     simp only [WideElems.rg,WideElems.rd,h.1,hk p (.head _)]
     rfl
  exact e2 _ _ hk e1
 refine ⟨_,⟨es,clock,h1,⟨by rw [hlen]; exact hl,⟨h4,h3,?_⟩,?_⟩,by rw [hlen]; exact Nat.le_refl _,rfl⟩,?_,_,rfl,?_⟩
 ·have e1 : es.toList.map (·.key) = (al.map (·.1)).map kt.enc := by
   have := congrArg (List.map Prod.fst) h2
   simpa [List.map_map,Function.comp_def] using this
  rw [e1]
  exact List.pairwise_map.2 (hn.imp fun hne he => hne (inj _ _ he))
 ·intro x hx
  obtain ⟨p,hp,e⟩ := hrd x hx
  exact ⟨(enc p.1,.nil),by simp only [WideElems.rd,e,hk p hp]; rfl⟩
 ·rw [hmap]
  have := (WideShapes.sorted_perm (al.map fun p => (enc p.1,(DataW.nil : DataW Unit)))).length_eq
  simpa [Maps.size] using this
 ·rw [hmap]; exact WideShapes.sorted_perm _
end
theorem sortsI (m : Nat) : AnyZI.SortsIn Tryz.prog sortedIR Fence.wide m :=
 ⟨fun blk off cap ss W hH hblk hsz => callsIn_wide.2 (AnyM.slices_Sort_int sortIL blk off cap ss W hH hblk hsz),
  fun p cap W => callsIn_wide.2 (AnyM.slices_Sort_int_none sortIL p cap W)⟩
set_option maxHeartbeats 1000000 in
theorem sortedI_spec (q b : Nat) (al : List (Int × Value)) (w : World) (hq : Blk w q [.map (some b)] 77) (hm : MapAt (intKey .i64) w b al) (l : List Int) (hp : l.Perm (al.map (·.1)))
  (hl : l.Pairwise fun x y => x < y) (hs : ∀ x ∈ l,-9223372036854775808 ≤ x ∧ x ≤ 9223372036854775807) (hmax : al.length * 8 ≤ 140737488355328) :
  Calls Tryz.prog 48 #[.func (.func 134) #[] #[.pointer (some ⟨q,0,none⟩)]] w fun e w' =>
   ∃ a c,e = .returned (.slice a l.length c) ∧ Hp [] w w' [.own 3 1 a l.length c (l.map (.int .i64))] := by
 have hnd : (al.map (·.1)).Nodup := hp.nodup_iff.1 (hl.imp fun h e => by omega)
 have hll : al.length ≤ maxLen := by simp only [maxLen]; omega
 obtain ⟨D,h1,h2,dl,rfl,h3⟩ := owns_of (P := Tryz.prog) (k := 3) hm hnd hll (fun s => .int .i64 s) (fun x y h => by injection h) (fun p hpm => keyOf_int_mk (by kernel_rfl) (by
  have := hs _ (hp.mem_iff.2 (List.mem_map.2 ⟨p,hpm,rfl⟩))
  simp only [Lit.wf,Bool.and_eq_true,decide_eq_true_eq]
  exact inR64.2 this))
 have hqlt := hq.lt
 have hseq : SeqGives Fence.wide 2 Tryz.prog 134 #[.pointer (some ⟨q,0,none⟩)] encZ (fun ss => ss.Perm (intKeys (.map dl))) (Maps.size (.map dl)) w :=
  AnyZI.keys_gives (ρ := keysIR) { keysIL with } Fence.wide _ trivial rfl (by omega) q b al.length (.map dl) w hqlt (hq.cell rfl) h1
 have cS := AnyZI.sorted_in sortedIL Fence.wide 5 trivial trivial trivial trivial rfl (by omega) (sortsI _) (enters_of Tryz.func85 (by kernel_rfl) rfl) 134 #[.pointer (some ⟨q,0,none⟩)] trivial (enters_of Tryz.func134 (by kernel_rfl) rfl) _ _ (by rw [h2]; exact hll) (by rw [h2]; exact hmax) w hseq
 change CallsIn _ _ Tryz.prog 48 _ _ _ at cS
 refine Calls.mono (callsIn_wide.1 cS) ?_
 rintro e w' ⟨v,ss,rfl,hS,hrow,hnil,hb⟩
 have hperm : ss.Perm l := by
  refine hS.trans ?_
  have e1 : intKeys (.map dl) = dl.map fun p => Go.intOf p.1 := rfl
  rw [e1]
  refine (h3.map _).trans ?_
  rw [List.map_map]
  have e2 : ((fun p : Lit × DataW Unit => Go.intOf p.1) ∘ fun p : Int × Value => (Lit.int IntKind.i64 p.1,DataW.nil)) = (·.1) := rfl
  rw [e2]
  exact hp.symm
 have hsort : ss.mergeSort (fun x y => decide (x ≤ y)) = l := by
  have tr : ∀ a b c : Int,decide (a ≤ b) = true → decide (b ≤ c) = true → decide (a ≤ c) = true := fun a b c h1 h2 => by simp only [decide_eq_true_eq] at *; omega
  have to : ∀ a b : Int,(decide (a ≤ b) || decide (b ≤ a)) = true := fun a b => by simp only [Bool.or_eq_true,decide_eq_true_eq]; omega
  refine List.Perm.eq_of_pairwise (le := fun a b => decide (a ≤ b) = true) (fun a b _ _ h1 h2 => ?_) (List.pairwise_mergeSort tr to ss) (hl.imp fun h => ?_) ((List.mergeSort_perm ss _).trans hperm)
  ·simp only [decide_eq_true_eq] at h1 h2; omega
  ·rw [decide_eq_true_eq]; omega
 have hlen : ss.length = l.length := hperm.length_eq
 rw [hsort,hlen] at hrow
 obtain ⟨a,c,rfl,H⟩ := hp_row hb hrow
 exact ⟨a,c,rfl,H⟩
theorem mclone_spec (b : Nat) (al : List (ByteArray × Value)) (w : World) (hm : MapAt strKey w b al) :
  Calls Tryz.prog 64 #[.map (some b)] w fun e w' => ∃ b',e = .returned (.map (some b')) ∧ Hp [] w w' [.smap b' al] := by
 obtain ⟨es,clock,h1,h2⟩ := hm
 refine Calls.mono (AnyW.maps_Clone mclL b es clock w h1) ?_
 rintro e w' ⟨rfl,rfl⟩
 refine ⟨_,rfl,(Hp.start w).add ⟨rfl,rfl,rfl,by simp,fun k hk _ => alloc_old w _ k hk⟩ (a' := .smap w.heap.size al) ⟨es,clock,alloc_new w _,h2⟩ ?_⟩
 intro k hk
 simp [Asn.foot] at hk; subst hk; exact Nat.le_refl _
end Go.Proofs.YtdeebigmpffnbaaGreat
namespace Go.Vc
open Go
def valN (l : List UInt8) : Nat := l.foldl (fun n x => n * 256 + x.toNat) 0
def num (l : List UInt8) : Int := IntKind.i64.wrap (valN l : Int)
theorem wrap64_def (x : Int) : IntKind.i64.wrap x = if x % 18446744073709551616 ≥ 9223372036854775808 then x % 18446744073709551616 - 18446744073709551616 else x % 18446744073709551616 := by
 simp [IntKind.wrap,IntKind.signed,IntKind.bits]
theorem wrap64_cong {x y : Int} (h : x % 18446744073709551616 = y % 18446744073709551616) : IntKind.i64.wrap x = IntKind.i64.wrap y := by
 rw [wrap64_def,wrap64_def,h]
theorem wrap64_mod (x : Int) : IntKind.i64.wrap x % 18446744073709551616 = x % 18446744073709551616 := by
 rw [wrap64_def]; split <;> omega
theorem ofInt_cong {x y : Int} (h : x % 18446744073709551616 = y % 18446744073709551616) : BitVec.ofInt 64 x = BitVec.ofInt 64 y := by
 apply BitVec.eq_of_toNat_eq
 rw [BitVec.toNat_ofInt,BitVec.toNat_ofInt]
 have : (((2 ^ 64 : Nat) : Int)) = 18446744073709551616 := by decide
 rw [this,h]
theorem or_byte (v y : Nat) (hy : y < 256) : Vc.bits .or .i64 (IntKind.i64.wrap (IntKind.i64.wrap (v : Int) * 2 ^ min (Int.toNat 8) (IntKind.bits .i64))) (IntKind.i64.wrap (y : Int)) = IntKind.i64.wrap ((v * 256 + y : Nat) : Int) := by
 have e1 : (2 : Int) ^ min (Int.toNat 8) (IntKind.bits .i64) = 256 := by decide
 rw [e1]
 show IntKind.i64.wrap ((BitVec.ofInt 64 (IntKind.i64.wrap (IntKind.i64.wrap (v : Int) * 256)) ||| BitVec.ofInt 64 (IntKind.i64.wrap (y : Int))).toNat : Int) = _
 have e2 : BitVec.ofInt 64 (IntKind.i64.wrap (IntKind.i64.wrap (v : Int) * 256)) = BitVec.ofInt 64 (((v % 2 ^ 56) * 256 : Nat) : Int) := by
  apply ofInt_cong
  rw [wrap64_mod]
  have := wrap64_mod (v : Int)
  omega
 have e3 : BitVec.ofInt 64 (IntKind.i64.wrap (y : Int)) = BitVec.ofInt 64 (y : Int) := ofInt_cong (wrap64_mod _)
 rw [e2,e3]
 apply wrap64_cong
 rw [BitVec.toNat_or,BitVec.toNat_ofInt,BitVec.toNat_ofInt]
 have h1 : ((((v % 2 ^ 56) * 256 : Nat) : Int) % ((2 ^ 64 : Nat) : Int)).toNat = (v % 2 ^ 56) <<< 8 := by
  rw [Nat.shiftLeft_eq]; omega
 have h2 : ((y : Int) % ((2 ^ 64 : Nat) : Int)).toNat = y := by omega
 rw [h1,h2,← Nat.shiftLeft_add_eq_or_of_lt (by omega),Nat.shiftLeft_eq]
 omega
theorem valN_snoc (l : List UInt8) (x : UInt8) : valN (l ++ [x]) = valN l * 256 + x.toNat := by simp [valN,List.foldl_append]
theorem valN_lt (l : List UInt8) : valN l < 256 ^ l.length := by
 have : ∀ (l : List UInt8) (a : Nat),l.foldl (fun n x => n * 256 + x.toNat) a < (a + 1) * 256 ^ l.length := by
  intro l
  induction l with
  | nil => intro a; simp
  | cons x r ih =>
   intro a
   have h1 := ih (a * 256 + x.toNat)
   have h2 := x.toNat_lt
   rw [List.foldl_cons,List.length_cons,Nat.pow_succ]
   have h3 : (a * 256 + x.toNat + 1) * 256 ^ r.length ≤ ((a + 1) * 256) * 256 ^ r.length := Nat.mul_le_mul_right _ (by omega)
   have h4 : (a + 1) * (256 ^ r.length * 256) = ((a + 1) * 256) * 256 ^ r.length := by rw [Nat.mul_comm (256 ^ r.length) 256,Nat.mul_assoc]
   omega
 simpa [valN] using this l 0
theorem valN_be (n : Int) (h0 : 0 ≤ n) : ∀ k,valN (be n k) = n.toNat % 256 ^ k := by
 have aux : ∀ k (a : Nat),(be n k).foldl (fun n x => n * 256 + x.toNat) a = a * 256 ^ k + n.toNat % 256 ^ k := by
  intro k
  induction k with
  | zero => intro a; simp [be,Nat.mod_one]
  | succ k ih =>
   intro a
   have h1 : (bt n k).toNat = n.toNat / 256 ^ k % 256 := by
    have h2 := bt_toNat n k
    have h3 : (2 : Int) ^ (8 * k) = ((256 ^ k : Nat) : Int) := by
     rw [Int.pow_mul]; simp
    rw [h3] at h2
    have h4 : n / ((256 ^ k : Nat) : Int) = ((n.toNat / 256 ^ k : Nat) : Int) := by
     rw [Int.natCast_ediv,Int.toNat_of_nonneg h0]
    rw [h4] at h2
    omega
   rw [be,List.foldl_cons,ih,h1,Nat.pow_succ]
   have h5 : n.toNat % (256 ^ k * 256) = n.toNat % 256 ^ k + 256 ^ k * (n.toNat / 256 ^ k % 256) := Nat.mod_mul
   rw [h5,Nat.add_mul,Nat.mul_assoc,Nat.mul_comm 256 (256 ^ k),Nat.mul_comm (n.toNat / 256 ^ k % 256)]
   omega
 intro k
 simpa [valN] using aux k 0
theorem valN_be' {n : Int} {k : Nat} (h0 : 0 ≤ n) (h1 : n < 256 ^ k) : (valN (be n k) : Int) = n := by
 rw [valN_be n h0,Nat.mod_eq_of_lt]
 ·omega
 ·have : ((256 ^ k : Nat) : Int) = 256 ^ k := by simp
  omega
theorem num_be {n : Int} {k : Nat} (h0 : 0 ≤ n) (h1 : n < 256 ^ k) (h2 : n < 9223372036854775808) : num (be n k) = n := by
 rw [num,valN_be' h0 h1,wrap64_def,if_neg (by omega)]
 omega
theorem take_left {α : Type} (a b : List α) (n : Nat) (h : a.length = n) : (a ++ b).take n = a := by subst h; simp
theorem drop_left {α : Type} (a b : List α) (n : Nat) (h : a.length = n) : (a ++ b).drop n = b := by subst h; simp
theorem ext_mk (l : List UInt8) (i j : Nat) : (ByteArray.mk l.toArray).extract i j = ⟨((l.take j).drop i).toArray⟩ := by
 apply ByteArray.ext
 apply Array.ext'
 rw [ByteArray.data_extract,Array.toList_extract,List.extract_eq_take_drop]
 simp only [List.drop_take]
theorem valN_take_succ (l : List UInt8) (k : Nat) (h : k < l.length) : valN (l.take (k + 1)) = valN (l.take k) * 256 + l[k].toNat := by
 rw [List.take_succ_eq_append_getElem h,valN_snoc]
theorem valN_mono (l : List UInt8) (k : Nat) : valN (l.take k) ≤ valN l := by
 have aux : ∀ (r : List UInt8) (a : Nat),a ≤ r.foldl (fun n x => n * 256 + x.toNat) a := by
  intro r
  induction r with
  | nil => intro a; exact Nat.le_refl _
  | cons x r ih => intro a; exact Nat.le_trans (m := a * 256 + x.toNat) (by omega) (ih (a * 256 + x.toNat))
 have : valN l = (l.drop k).foldl (fun n x => n * 256 + x.toNat) (valN (l.take k)) := by rw [valN,valN,← List.foldl_append,List.take_append_drop]
 rw [this]; exact aux _ _
theorem wrapByte (x : UInt8) : IntKind.i64.wrap (x.toNat : Int) = (x.toNat : Int) := wrap64_id (by have := x.toNat_lt; omega)
theorem mk_size (x : List UInt8) : (ByteArray.mk x.toArray).size = x.length := by simp [ByteArray.size]
theorem or_byte2 (v y : Nat) (hv : v < 36028797018963968) (hy : y < 256) : Vc.bits .or .i64 ((v : Int) * 2 ^ min (Int.toNat 8) (IntKind.bits .i64)) (IntKind.i64.wrap (y : Int)) = ((v * 256 + y : Nat) : Int) := by
 have h := or_byte v y hy
 have e1 : (2 : Int) ^ min (Int.toNat 8) (IntKind.bits .i64) = 256 := by decide
 rw [e1] at h ⊢
 rw [wrap64_id (z := (v : Int)) (by omega),wrap64_id (z := (v : Int) * 256) (by omega),wrap64_id (z := ((v * 256 + y : Nat) : Int)) (by omega)] at h
 exact h
theorem nope {p : Prop} [Decidable p] (h : ¬ p) : Ending.returned (Value.bool false) = .returned (.bool (decide p)) := by rw [decide_eq_false h]
end Go.Vc
namespace Go.Vc
open Go
section
variable {P : Program} {w : World} {b : Nat} {cs : List Value} {T e : TypeId} {o n c m : Nat}
theorem storeBlk (h : Blk w b cs T) (vs : List Value) (one : ∀ u ∈ vs,u.oneCell' = true) (hfit : o + vs.length ≤ cs.length) : ∃ w1,(storeCells ⟨b,o,none⟩ vs).run P w = .ok () w1 ∧ Blk w1 b (over vs o cs) T ∧ Chg [b] w w1 := by
 have hrun := run_storeCells_blk (P := P) (b := b) (T := T) (fz := (0,0)) vs w cs ⟨b,o,none⟩ o 0 rfl (fun j => by simp [add_lit]) h hfit (fun k _ _ => by simp) one
 refine ⟨_,hrun,?_,?_⟩
 ·split
  ·rename_i hn; rw [hn,over_nil]; exact h
  ·exact setB_at h.lt
 ·split
  ·exact Chg.refl _ _
  ·exact setB_chg _ _ _
theorem Blk.cpy {dT tx ty : TypeId} {x : Value} {news : List Value} (h : Blk w b cs T) (hd : P.underlying dT = some (.slice e)) (hs : sizeV P e = some 1) (hx : Src P 1 tx x m news w) (hmn : m ≤ n) (hfit : o + m ≤ cs.length) :
  ∃ w1,Cpy P #[dT,tx] ty w (.slice (some ⟨b,o,none⟩) n c) x (.int .i64 (m : Int)) w1 ∧ Blk w1 b (over news o cs) T ∧ Chg [b] w w1 := by
 have hl := hx.newsLen
 obtain ⟨w1,h1,h2,h3⟩ := storeBlk (P := P) (o := o) h news hx.one (by omega)
 refine ⟨w1,?_,h2,h3⟩
 have hmin : Nat.min m n = m := Nat.min_eq_left hmn
 have hz : (sizeOf e).run P w = .ok 1 w := run_size hs w
 have hc := hx.cells
 simp only [Cpy,Builtin.copy_]
 simp [run_und hd,hx.len w,hmin,hz,hc,h1,goInt]
theorem Blk.clr {dT ty : TypeId} {z : Value} (h : Blk w b cs T) (hd : P.underlying dT = some (.slice e)) (hz : zeroOf P e = some z) (hz1 : z.cells = #[z]) (hone : z.oneCell' = true) (hfit : o + n ≤ cs.length) :
  ∃ w1,Clr P #[dT] ty w (.slice (some ⟨b,o,none⟩) n c) w1 ∧ Blk w1 b (over (List.replicate n z) o cs) T ∧ Chg [b] w w1 := by
 cases n with
 | zero =>
  refine ⟨w,?_,by rw [List.replicate_zero,over_nil]; exact h,Chg.refl _ _⟩
  simp only [Clr,Builtin.clear_]
  simp [run_und hd]
 | succ n =>
  obtain ⟨w1,h1,h2,h3⟩ := storeBlk (P := P) (o := o) h (List.replicate (n + 1) z) (fun u hu => by rw [List.eq_of_mem_replicate hu]; exact hone) (by simpa using hfit)
  refine ⟨w1,?_,h2,h3⟩
  have hzv : (zeroValue e).run P w = .ok z w := run_zero hz w
  have hcell : (Builtin.zeroCells z.cells (n + 1)).toList = List.replicate (n + 1) z := by
   rw [hz1]
   apply List.ext_getElem?
   intro k
   simp only [Builtin.zeroCells,List.size_toArray,List.length_cons,List.length_nil,Array.toList_map,Array.toList_range,List.getElem?_map,List.getElem?_replicate]
   by_cases hk : k < n + 1
   ·rw [if_pos hk,List.getElem?_range (by omega)]
    simp [Nat.mod_one]
   ·rw [if_neg hk,List.getElem?_eq_none (by rw [List.length_range]; omega)]; rfl
  simp only [Clr,Builtin.clear_]
  simp [run_und hd,hzv,hcell,h1]
end
section
variable {P : Program} {B : List Nat} {w0 w w' : World} {L : List Asn} {b : Nat} {cs : List Value} {T e : TypeId} {o n c m : Nat}
theorem Hp.cpy {dT tx ty : TypeId} {x : Value} {news : List Value} (H : Hp B w0 w (.blk b cs T :: L)) (eq : Eqw w w') (hd : P.underlying dT = some (.slice e)) (hs : sizeV P e = some 1) (hx : Src P 1 tx x m news w') (hmn : m ≤ n) (hfit : o + m ≤ cs.length) {G : Int → World → Prop}
  (k : ∀ w1,Hp B w0 w1 (.blk b (over news o cs) T :: L) → G (m : Int) w1) : ∃ (i : Int) (w1 : World),Cpy P #[dT,tx] ty w' (.slice (some ⟨b,o,none⟩) n c) x (.int .i64 i) w1 ∧ G i w1 := by
 obtain ⟨w1,h1,h2,h3⟩ := Blk.cpy (P := P) (o := o) (n := n) (c := c) (ty := ty) ((H.go eq).blk (.head _)) hd hs hx hmn hfit
 exact ⟨_,w1,h1,k w1 ((H.go eq).set h3 h2 fun k hk => .inl hk)⟩
theorem Hp.clr {dT ty : TypeId} {z : Value} (H : Hp B w0 w (.blk b cs T :: L)) (eq : Eqw w w') (hd : P.underlying dT = some (.slice e)) (hz : zeroOf P e = some z) (hz1 : z.cells = #[z]) (hone : z.oneCell' = true) (hfit : o + n ≤ cs.length) {G : World → Prop}
  (k : ∀ w1,Hp B w0 w1 (.blk b (over (List.replicate n z) o cs) T :: L) → G w1) : ∃ (w1 : World),Clr P #[dT] ty w' (.slice (some ⟨b,o,none⟩) n c) w1 ∧ G w1 := by
 obtain ⟨w1,h1,h2,h3⟩ := Blk.clr (P := P) (o := o) (n := n) (c := c) (ty := ty) ((H.go eq).blk (.head _)) hd hz hz1 hone hfit
 exact ⟨w1,h1,k w1 ((H.go eq).set h3 h2 fun k hk => .inl hk)⟩
end
section
variable {x : Asn} {L L1 L' : List Asn} {a b c d e f g h i j k : Asn}
theorem perm_step (h : L.Perm (x :: L1)) (h2 : L1.Perm L') : L.Perm (x :: L') := h.trans (h2.cons x)
theorem perm_p0 : (a :: L).Perm (a :: L) := .refl _
theorem perm_p1 : (a :: b :: L).Perm (b :: a :: L) := perm_pull [a] b L
theorem perm_p2 : (a :: b :: c :: L).Perm (c :: a :: b :: L) := perm_pull [a,b] c L
theorem perm_p3 : (a :: b :: c :: d :: L).Perm (d :: a :: b :: c :: L) := perm_pull [a,b,c] d L
theorem perm_p4 : (a :: b :: c :: d :: e :: L).Perm (e :: a :: b :: c :: d :: L) := perm_pull [a,b,c,d] e L
theorem perm_p5 : (a :: b :: c :: d :: e :: f :: L).Perm (f :: a :: b :: c :: d :: e :: L) := perm_pull [a,b,c,d,e] f L
theorem perm_p6 : (a :: b :: c :: d :: e :: f :: g :: L).Perm (g :: a :: b :: c :: d :: e :: f :: L) := perm_pull [a,b,c,d,e,f] g L
end
theorem over_app (v a x c : List Value) (h : v.length = x.length) : over v a.length (a ++ (x ++ c)) = a ++ (v ++ c) := by
 apply List.ext_getElem?
 intro k
 rw [over_get _ _ _ (by simp [h])]
 by_cases h1 : k < a.length
 ·rw [if_neg (by omega),List.getElem?_append_left h1,List.getElem?_append_left h1]
 ·by_cases h2 : k < a.length + v.length
  ·rw [if_pos (by omega),List.getElem?_append_right (by omega),List.getElem?_append_left (by omega)]
  ·rw [if_neg (by omega),List.getElem?_append_right (by omega),List.getElem?_append_right (by omega),List.getElem?_append_right (by omega),List.getElem?_append_right (by omega),h]
theorem eqv_ptrE {P : Program} {t : TypeId} {p : Option Addr} {x y : Operand} {w : World} (h : P.underlying t = some (.pointer (P.pointee t))) : Eqv P .eql t x y w (.pointer p) (.pointer none) p.isNone := by
 have := run_eql_pointer_nil (P := P) (w := w) t p h
 simp only [Eqv,Sem.run_bind,eqGuard]
 simp [this]
theorem eqv_ptrN {P : Program} {t : TypeId} {p : Option Addr} {x y : Operand} {w : World} (h : P.underlying t = some (.pointer (P.pointee t))) : Eqv P .neq t x y w (.pointer p) (.pointer none) (!p.isNone) := by
 have := run_neq_pointer_nil (P := P) (w := w) t p h
 simp only [Eqv,Sem.run_bind,eqGuard]
 simp [this]
section
variable {B : List Nat} {w0 w w' : World} {L : List Asn} {x y x' y' : Asn}
end
theorem Hp.takeL {B : List Nat} {w0 w : World} {L R : List Asn} (H : Hp B w0 w (L ++ R)) : Hp B w0 w L :=
 ⟨H.chg,fun b hb => H.ok b (List.mem_append_left _ hb),fun b hb => H.own b (List.mem_append_left _ hb),(List.pairwise_append.1 H.sep).1⟩
end Go.Vc
namespace Go.Vc
open Go
def KApart {K : Type} (al : List (K × Value)) : Prop := (al.map (·.1)).Nodup
theorem KApart.perm {K : Type} {al bl : List (K × Value)} (h : KApart al) (p : al.Perm bl) : KApart bl := (p.map _).nodup_iff.1 h
section
variable {K : Type} [DecidableEq K]
theorem aget_mem : ∀ {al : List (K × Value)},KApart al → ∀ {k : K} {v : Value},aget al k = some v ↔ (k,v) ∈ al
 | [],h,k,v => by simp [aget]
 | (x,u) :: r,h,k,v => by
  simp only [KApart,List.map_cons,List.nodup_cons] at h
  simp only [aget,List.mem_cons,Prod.mk.injEq]
  by_cases e : k = x
  ·subst e
   rw [if_pos rfl]
   refine ⟨fun h2 => .inl ⟨rfl,(Option.some.inj h2).symm⟩,fun h2 => ?_⟩
   rcases h2 with ⟨_,rfl⟩ | h2
   ·rfl
   ·exact absurd (List.mem_map.2 ⟨_,h2,rfl⟩) h.1
  ·rw [if_neg e,aget_mem (al := r) h.2]
   exact ⟨.inr,fun h2 => h2.elim (fun h3 => absurd h3.1 e) id⟩
theorem aget_none : ∀ {al : List (K × Value)} {k : K},aget al k = none ↔ k ∉ al.map (·.1)
 | [],k => by simp [aget]
 | (x,u) :: r,k => by
  simp only [aget,List.map_cons,List.mem_cons,not_or]
  by_cases e : k = x
  ·rw [if_pos e]; simp [e]
  ·rw [if_neg e,aget_none (al := r)]; simp [e]
theorem aget_perm {al bl : List (K × Value)} (h : KApart al) (p : al.Perm bl) (k : K) : aget al k = aget bl k := by
 cases e : aget al k with
 | none => exact (aget_none.2 fun hm => aget_none.1 e ((p.map _).mem_iff.2 hm)).symm
 | some v => exact ((aget_mem (h.perm p)).2 (p.mem_iff.1 ((aget_mem h).1 e))).symm
def acut (al : List (K × Value)) (k : K) : List (K × Value) := al.filter fun p => !decide (p.1 = k)
theorem acut_none : ∀ {al : List (K × Value)} {k : K},k ∉ al.map (·.1) → acut al k = al := by
 intro al k h
 refine List.filter_eq_self.2 fun p hp => ?_
 have : p.1 ≠ k := fun e => h (List.mem_map.2 ⟨p,hp,e⟩)
 simp [this]
theorem adel_cut : ∀ {al : List (K × Value)},KApart al → ∀ (k : K),adel al k = acut al k
 | [],h,k => rfl
 | (x,u) :: r,h,k => by
  simp only [KApart,List.map_cons,List.nodup_cons] at h
  simp only [adel,acut,List.filter_cons]
  by_cases e : k = x
  ·subst e
   rw [if_pos rfl]
   simp only [decide_true,Bool.not_true,Bool.false_eq_true,if_false]
   exact (acut_none h.1).symm
  ·have e' : x ≠ k := fun h => e h.symm
   rw [if_neg e]
   simp only [e',decide_false,Bool.not_false,if_true,adel_cut (al := r) h.2 k,acut]
theorem aput_perm : ∀ {al : List (K × Value)},KApart al → ∀ (k : K) (v : Value),(aput al k v).Perm ((k,v) :: acut al k)
 | [],h,k,v => .refl _
 | (x,u) :: r,h,k,v => by
  simp only [KApart,List.map_cons,List.nodup_cons] at h
  simp only [aput,acut,List.filter_cons]
  by_cases e : k = x
  ·subst e
   rw [if_pos rfl]
   simp only [decide_true,Bool.not_true,Bool.false_eq_true,if_false]
   have := acut_none h.1
   rw [acut] at this
   rw [this]
  ·have e' : x ≠ k := fun h => e h.symm
   rw [if_neg e]
   simp only [e',decide_false,Bool.not_false,if_true]
   exact ((aput_perm (al := r) h.2 k v).cons _).trans (.swap _ _ _)
theorem acut_perm {al bl : List (K × Value)} (p : al.Perm bl) (k : K) : (acut al k).Perm (acut bl k) := p.filter _
end
structure Std (w : World) (L : List Asn) : Prop where
 ok : ∀ a ∈ L,a.ok w
 sep : L.Pairwise fun a b => ∀ k ∈ a.foot,k ∉ b.foot
def feet (L : List Asn) : List Nat := L.flatMap Asn.foot
theorem mem_feet {L : List Asn} {k : Nat} : k ∈ feet L ↔ ∃ a ∈ L,k ∈ a.foot := by simp [feet]
section
variable {B : List Nat} {w0 w w' : World} {L L1 L2 M R : List Asn}
theorem Hp.startL (h : Std w L) : Hp (feet L) w w L := ⟨Chg.refl _ _,h.ok,fun a ha k hk => .inl (mem_feet.2 ⟨a,ha,hk⟩),h.sep⟩
theorem Hp.std (H : Hp B w0 w L) : Std w L := ⟨H.ok,H.sep⟩
theorem Hp.std1 (H : Hp B w0 w (L1 ++ L2)) : Std w L1 := H.takeL.std
theorem Hp.useL (H : Hp B w0 w (L1 ++ L2)) (H' : Hp (feet L1) w w' M) : Hp B w0 w' (M ++ L2) := Hp.use H H' fun k hk => mem_feet.1 hk
theorem Hp.useAll (H : Hp B w0 w L) (H' : Hp (feet L) w w' M) : Hp B w0 w' M := by
 have h : Hp B w0 w (L ++ []) := by rw [List.append_nil]; exact H
 have := h.useL H'
 rwa [List.append_nil] at this
end
end Go.Vc
namespace Go.Vault
open Go Go.Vc
structure Fl where
 now : List (List UInt8)
 firm : List (List UInt8)
 since : List Nat
def Fl.none : Fl := ⟨[],[],[]⟩
structure Nm where
 name : ByteArray
 file : Nat
inductive Ch where
 | create (n : ByteArray) (k : Nat)
 | rename (a b : ByteArray) (k : Nat)
 | remove (n : ByteArray)
structure Dk where
 room : Nat
 files : List Fl
 firm : List Nm
 chs : List Ch
 armed : Nat
 denied : Nat
 dead : Bool
def nget : List Nm → ByteArray → Option Nat
 | [],_ => none
 | p :: r,n => if p.name = n then some p.file else nget r n
def without (l : List Nm) (n : ByteArray) : List Nm := l.filter fun p => !decide (p.name = n)
def nameLe (a b : ByteArray) : Bool := Op.bytesLess a.data.toList b.data.toList || decide (a = b)
def ins (n : Nm) : List Nm → List Nm
 | [] => [n]
 | p :: r => if nameLe p.name n.name then p :: ins n r else n :: p :: r
def with_ (l : List Nm) (n : Nm) : List Nm := ins n (without l n.name)
def Ch.on (l : List Nm) : Ch → List Nm
 | .create n k => with_ l ⟨n,k⟩
 | .rename a b k => with_ (without l a) ⟨b,k⟩
 | .remove n => without l n
def ons (l : List Nm) (cs : List Ch) : List Nm := cs.foldl Ch.on l
def Dk.names (d : Dk) : List Nm := ons d.firm d.chs
def Dk.find (d : Dk) (n : ByteArray) : Option Nat := nget d.names n
def Dk.file (d : Dk) (k : Nat) : Fl := d.files.getD k Fl.none
def Dk.len (d : Dk) (k : Nat) : Nat := (d.file k).now.length
def Dk.size (d : Dk) (n : ByteArray) : Int := match d.find n with
 | some k => d.len k
 | none => -1
def Dk.used (d : Dk) : Nat := (d.names.map fun p => d.len p.file).sum
def Dk.new (room : Int) : Dk := ⟨(min (max room 0) 65536).toNat,[],[],[],0,0,false⟩
def right (n : ByteArray) : Bool := decide (1 ≤ n.size) && decide (n.size ≤ 60)
def Dk.dies (d : Dk) : Dk := if 0 < d.armed then { d with armed := d.armed - 1,dead := decide (d.armed - 1 = 0) } else d
def Dk.code (d : Dk) : Int := if d.dead then 93 else 0
def Dk.denies (d : Dk) : Dk := { d with denied := d.denied - 1 }
def Dk.refused (d : Dk) : Bool := decide (d.denied = 1)
def Dk.change (d : Dk) (c : Ch) : Dk := { d with chs := d.chs ++ [c] }
def Dk.put (d : Dk) (k : Nat) (f : Fl) : Dk := { d with files := d.files.set k f }
def zsec : List UInt8 := List.replicate 512 0
def pad (b : List UInt8) : List UInt8 := b ++ List.replicate (512 - b.length) 0
def addN (n : Nat) : List Nat → List Nat
 | [] => [n]
 | x :: r => if n < x then n :: x :: r else if n = x then x :: r else x :: addN n r
def Fl.write (f : Fl) (n : Nat) (b : List UInt8) : Fl :=
 { f with now := (if n = f.now.length then f.now ++ [pad b] else f.now.set n (pad b)),since := addN n f.since }
def Fl.sync (f : Fl) : Fl := ⟨f.now,f.now,[]⟩
def Dk.create (d : Dk) (n : ByteArray) : Dk × Int :=
 if d.dead then (d,93) else if !right n then (d,92) else
 let d1 := (Dk.change { d with files := d.files ++ [Fl.none] } (.create n d.files.length)).dies
 (d1,d1.code)
def Dk.rename (d : Dk) (a b : ByteArray) : Dk × Int :=
 if d.dead then (d,93) else match d.find a with
 | none => (d,90)
 | some k => if !right b then (d,92) else if a = b then (d,0) else
  let d1 := (d.change (.rename a b k)).dies
  (d1,d1.code)
def Dk.write (d : Dk) (n : ByteArray) (i : Int) (b : List UInt8) : Dk × Int :=
 if d.dead then (d,93) else match d.find n with
 | none => (d,90)
 | some k =>
  if i < 0 ∨ d.len k < i ∨ 512 < b.length then (d,91) else
  if i = d.len k ∧ d.room ≤ d.used then (d,94) else
  if d.refused then (d.denies,95) else
  let d1 := (d.denies.put k ((d.file k).write i.toNat b)).dies
  (d1,d1.code)
def Dk.read (d : Dk) (n : ByteArray) (i : Int) : List UInt8 × Int :=
 if d.dead then ([],93) else match d.find n with
 | none => ([],90)
 | some k => if i < 0 ∨ d.len k ≤ i then ([],91) else ((d.file k).now.getD i.toNat [],0)
def Dk.sync (d : Dk) (n : ByteArray) : Dk × Int :=
 if d.dead then (d,93) else match d.find n with
 | none => (d,90)
 | some k =>
  if d.refused then (d.denies,95) else
  let d1 := d.denies.dies
  if d1.dead then (d1,93) else (d1.put k (d.file k).sync,0)
def Dk.syncNames (d : Dk) : Dk × Int :=
 if d.dead then (d,93) else
 let d1 := d.dies
 if d1.dead then (d1,93) else ({ d1 with firm := d.names,chs := [] },0)
def pick (p : Int) : Nat := (min (max p 0) 512).toNat
def fill (l : List (List UInt8)) (n : Nat) : List (List UInt8) := l ++ List.replicate (n + 1 - l.length) zsec
def mend (now l : List (List UInt8)) (n p : Nat) : List (List UInt8) :=
 if p = 0 then l else (fill l n).set n ((now.getD n []).take p ++ ((fill l n).getD n []).drop p)
def foundL (now : List (List UInt8)) : List Nat → List Int → List (List UInt8) → List (List UInt8)
 | [],_,l => l
 | n :: r,ps,l => foundL now r ps.tail (mend now l n (pick (ps.headD 0)))
def Fl.found (f : Fl) (ps : List Int) : Fl :=
 let l := foundL f.now f.since ps f.firm
 ⟨l,l,[]⟩
def foundF : List Fl → List Int → List Fl
 | [],_ => []
 | f :: r,ps => f.found ps :: foundF r (ps.drop f.since.length)
def Dk.crash (d : Dk) (names : Int) (ps : List Int) : Dk :=
 ⟨d.room,foundF d.files ps,ons d.firm (d.chs.take (min (max names 0) d.chs.length).toNat),[],0,0,false⟩
structure Fl.Ok (f : Fl) : Prop where
 now : ∀ s ∈ f.now,s.length = 512
 firm : ∀ s ∈ f.firm,s.length = 512
 since : f.since.Pairwise (· < ·)
 below : ∀ n ∈ f.since,n < f.now.length
 len : f.firm.length ≤ f.now.length
def Nm.Ok (m : Nat) (p : Nm) : Prop := p.file < m ∧ p.name.size ≤ 60
def canRemove : Prop := False
def Ch.Ok (m : Nat) : Ch → Prop
 | .create n k => (Nm.mk n k).Ok m
 | .rename _ b k => (Nm.mk b k).Ok m
 | .remove _ => canRemove
def Rising (l : List Nm) : Prop := l.Pairwise fun a b => a.name.data.toList < b.name.data.toList
structure Dk.Ok (d : Dk) : Prop where
 room : d.room ≤ 65536
 files : ∀ f ∈ d.files,f.Ok
 firm : ∀ p ∈ d.firm,p.Ok d.files.length
 chs : ∀ c ∈ d.chs,c.Ok d.files.length
 rise : Rising d.firm
 armed : (d.armed : Int) ≤ 9223372036854775807
 denied : (d.denied : Int) ≤ 9223372036854775807
structure Dk.Few (d : Dk) (N : Nat) : Prop where
 files : d.files.length ≤ N
 now : ∀ f ∈ d.files,f.now.length ≤ N
 firm : d.firm.length ≤ N
 chs : d.chs.length ≤ N
def ltN (a b : Nm) : Prop := a.name.data.toList < b.name.data.toList
theorem nameLe_iff {a b : ByteArray} : nameLe a b = true ↔ a.data.toList ≤ b.data.toList := by
 rw [nameLe,Proofs.bytesLess_eq,Bool.or_eq_true,decide_eq_true_eq,decide_eq_true_eq]
 constructor
 ·rintro (h | rfl)
  ·exact List.le_of_lt h
  ·exact List.le_refl _
 ·intro h
  rcases List.le_iff_lt_or_eq.1 h with h | h
  ·exact .inl h
  ·obtain ⟨a⟩ := a
   obtain ⟨b⟩ := b
   exact .inr (congrArg ByteArray.mk (Array.ext' h))
theorem ltN_of {a b : ByteArray} (h : nameLe a b = false) : b.data.toList < a.data.toList := by
 have : ¬ a.data.toList ≤ b.data.toList := fun h2 => by rw [nameLe_iff.2 h2] at h; cases h
 exact List.not_le.1 this
theorem ltN_ne {a b : Nm} (h : ltN a b) : a.name ≠ b.name := fun e => by
 rw [ltN,e] at h; exact List.lt_irrefl _ h
theorem name_eq {a b : ByteArray} (h : a.data.toList = b.data.toList) : a = b := by
 obtain ⟨a⟩ := a
 obtain ⟨b⟩ := b
 exact congrArg ByteArray.mk (Array.ext' h)
theorem ins_perm (n : Nm) : ∀ l,(ins n l).Perm (n :: l)
 | [] => .refl _
 | p :: r => by
  simp only [ins]
  split
  ·exact ((ins_perm n r).cons p).trans (.swap n p r)
  ·exact .refl _
theorem with_perm (l : List Nm) (n : Nm) : (with_ l n).Perm (n :: without l n.name) := ins_perm n _
theorem rising_without {l : List Nm} (h : Rising l) (n : ByteArray) : Rising (without l n) := h.filter _
theorem rising_ins {n : Nm} : ∀ {l : List Nm},Rising l → (∀ p ∈ l,p.name ≠ n.name) → Rising (ins n l)
 | [],h,hn => by simp [ins,Rising]
 | p :: r,h,hn => by
  simp only [ins]
  have hp := List.pairwise_cons.1 h
  split
  ·rename_i h1
   refine List.pairwise_cons.2 ⟨fun q hq => ?_,rising_ins hp.2 fun q hq => hn q (.tail _ hq)⟩
   rcases List.mem_cons.1 ((ins_perm n r).mem_iff.1 hq) with rfl | hq
   ·rcases List.le_iff_lt_or_eq.1 (nameLe_iff.1 h1) with h2 | h2
    ·exact h2
    ·exact absurd (name_eq h2) (hn p (.head _))
   ·exact hp.1 q hq
  ·rename_i h1
   have h2 := ltN_of (Bool.eq_false_iff.2 h1)
   exact List.pairwise_cons.2 ⟨fun q hq => by
    rcases List.mem_cons.1 hq with rfl | hq
    ·exact h2
    ·exact List.lt_trans h2 (hp.1 q hq),h⟩
theorem rising_with {l : List Nm} (h : Rising l) (n : Nm) : Rising (with_ l n) :=
 rising_ins (rising_without h _) fun p hp => by simpa using (List.mem_filter.1 hp).2
theorem Ch.rising {l : List Nm} (h : Rising l) : ∀ c : Ch,Rising (c.on l)
 | .create n k => rising_with h _
 | .rename a b k => rising_with (rising_without h _) _
 | .remove n => rising_without h _
theorem rising_ons : ∀ (cs : List Ch) {l : List Nm},Rising l → Rising (ons l cs)
 | [],l,h => h
 | c :: r,l,h => rising_ons r (c.rising h)
theorem Dk.Ok.names {d : Dk} (h : d.Ok) : Rising d.names := rising_ons _ h.rise
theorem without_len (l : List Nm) (n : ByteArray) : (without l n).length ≤ l.length := List.length_filter_le ..
theorem with_len (l : List Nm) (n : Nm) : (with_ l n).length ≤ l.length + 1 := by
 have := (with_perm l n).length_eq
 have h2 := without_len l n.name
 simp only [List.length_cons] at this
 omega
theorem Ch.len (l : List Nm) : ∀ c : Ch,(c.on l).length ≤ l.length + 1
 | .create n k => with_len _ _
 | .rename a b k => by
  have h1 := with_len (without l a) ⟨b,k⟩
  have h2 := without_len l a
  show (with_ (without l a) ⟨b,k⟩).length ≤ _
  omega
 | .remove n => by
  have := without_len l n
  show (without l n).length ≤ _
  omega
theorem with_file {l : List Nm} {n : Nm} {m : Nat} (h : ∀ p ∈ l,p.Ok m) (hn : n.Ok m) : ∀ p ∈ with_ l n,p.Ok m := fun p hp => by
 rcases List.mem_cons.1 ((with_perm l n).mem_iff.1 hp) with rfl | hp
 ·exact hn
 ·exact h p (List.mem_filter.1 hp).1
theorem without_file {l : List Nm} {n : ByteArray} {m : Nat} (h : ∀ p ∈ l,p.Ok m) : ∀ p ∈ without l n,p.Ok m := fun p hp => h p (List.mem_filter.1 hp).1
theorem Ch.file {l : List Nm} {m : Nat} (h : ∀ p ∈ l,p.Ok m) : ∀ c : Ch,c.Ok m → ∀ p ∈ c.on l,p.Ok m
 | .create n k,hc => with_file h hc
 | .rename a b k,hc => with_file (without_file h) hc
 | .remove n,hc => without_file h
theorem ons_file {m : Nat} : ∀ (cs : List Ch) {l : List Nm},(∀ p ∈ l,p.Ok m) → (∀ c ∈ cs,c.Ok m) → ∀ p ∈ ons l cs,p.Ok m
 | [],l,h,hc => h
 | c :: r,l,h,hc => ons_file r (c.file h (hc c (.head _))) fun x hx => hc x (.tail _ hx)
theorem Dk.Ok.nms {d : Dk} (h : d.Ok) : ∀ p ∈ d.names,p.Ok d.files.length := ons_file _ h.firm h.chs
theorem Dk.Ok.file {d : Dk} (h : d.Ok) : ∀ p ∈ d.names,p.file < d.files.length := fun p hp => (h.nms p hp).1
theorem Nm.Ok.mono {m m' : Nat} {p : Nm} (h : p.Ok m) (hm : m ≤ m') : p.Ok m' := ⟨Nat.lt_of_lt_of_le h.1 hm,h.2⟩
theorem Ch.Ok.mono {m m' : Nat} {c : Ch} (h : c.Ok m) (hm : m ≤ m') : c.Ok m' := by
 cases c with
 | create n k => exact Nm.Ok.mono h hm
 | rename a b k => exact Nm.Ok.mono h hm
 | remove n => exact h
theorem nget_mem : ∀ {l : List Nm} {n : ByteArray} {k : Nat},nget l n = some k → ∃ p ∈ l,p.name = n ∧ p.file = k
 | p :: r,n,k,h => by
  simp only [nget] at h
  split at h
  ·rename_i e; exact ⟨p,.head _,e,Option.some.inj h⟩
  ·obtain ⟨q,hq,h2⟩ := nget_mem h; exact ⟨q,.tail _ hq,h2⟩
theorem Dk.Ok.find {d : Dk} (h : d.Ok) {n : ByteArray} {k : Nat} (hk : d.find n = some k) : k < d.files.length := by
 obtain ⟨p,hp,_,rfl⟩ := nget_mem hk
 exact h.file p hp
def nvl (l : List Nm) : List (ByteArray × Value) := l.map fun p => (p.name,.int .i64 (p.file : Int))
theorem nvl_apart {l : List Nm} (h : Rising l) : KApart (nvl l) := by
 have e : (nvl l).map (·.1) = l.map (·.name) := by simp [nvl,Function.comp_def]
 rw [KApart,e]
 exact List.pairwise_map.2 (h.imp fun h => ltN_ne h)
theorem nvl_get : ∀ (l : List Nm) (n : ByteArray),aget (nvl l) n = (nget l n).map fun k => .int .i64 (k : Int)
 | [],n => rfl
 | p :: r,n => by
  simp only [nvl,List.map_cons,aget,nget]
  by_cases e : p.name = n
  ·rw [if_pos e.symm,if_pos e]; rfl
  ·rw [if_neg (fun h => e h.symm),if_neg e]; exact nvl_get r n
theorem nvl_without (l : List Nm) (n : ByteArray) : nvl (without l n) = acut (nvl l) n := by
 simp only [nvl,without,acut,List.filter_map]; rfl
theorem nvl_put {l : List Nm} (h : Rising l) {al : List (ByteArray × Value)} (p : al.Perm (nvl l)) (n : Nm) : (aput al n.name (.int .i64 (n.file : Int))).Perm (nvl (with_ l n)) := by
 have ha : KApart al := (nvl_apart h).perm p.symm
 refine (aput_perm ha _ _).trans ?_
 refine List.Perm.trans ?_ ((with_perm l n).map _).symm
 simp only [List.map_cons]
 refine List.Perm.cons _ ?_
 have := acut_perm p n.name
 rw [← nvl_without] at this
 exact this
theorem nvl_del {l : List Nm} (h : Rising l) {al : List (ByteArray × Value)} (p : al.Perm (nvl l)) (n : ByteArray) : (adel al n).Perm (nvl (without l n)) := by
 have ha : KApart al := (nvl_apart h).perm p.symm
 rw [adel_cut ha,nvl_without]
 exact acut_perm p n
theorem nget_perm {l : List Nm} (h : Rising l) {al : List (ByteArray × Value)} (p : al.Perm (nvl l)) (n : ByteArray) : aget al n = (nget l n).map fun k => .int .i64 (k : Int) := by
 rw [← nvl_get]
 exact aget_perm ((nvl_apart h).perm p.symm) p n
end Go.Vault
namespace Go.Proofs.YtdeebigmpffnbaaGreat
open Go Go.Vc Go.Vault
theorem sclInt : Scl Tryz.prog 3 := scl_of (by kernel_rfl)
theorem sclBool : Scl Tryz.prog 4 := scl_of (by kernel_rfl)
theorem sclStr : Scl Tryz.prog 9 := scl_of (by kernel_rfl)
theorem sclMSI : Scl Tryz.prog 67 := scl_of (by kernel_rfl)
theorem sclSF : Scl Tryz.prog 68 := scl_of (by kernel_rfl)
theorem sclPF : Scl Tryz.prog 76 := scl_of (by kernel_rfl)
theorem sclSS : Scl Tryz.prog 78 := scl_of (by kernel_rfl)
theorem sclMIB : Scl Tryz.prog 77 := scl_of (by kernel_rfl)
theorem sclSC : Scl Tryz.prog 69 := scl_of (by kernel_rfl)
theorem sclC : Scl Tryz.prog 125 := scl_of (by kernel_rfl)
theorem aggSec : Agg Tryz.prog 85 512 := agg_of (by kernel_rfl)
theorem eltPF : Elt Tryz.prog 68 76 1 8 := elt_of (by kernel_rfl)
theorem eltSec : Elt Tryz.prog 78 85 512 512 := elt_of (by kernel_rfl)
theorem eltC : Elt Tryz.prog 69 125 1 8 := elt_of (by kernel_rfl)
theorem undSPF : Tryz.prog.underlying 68 = some (.slice 76) := by kernel_rfl
theorem undSC : Tryz.prog.underlying 69 = some (.slice 125) := by kernel_rfl
theorem undSS : Tryz.prog.underlying 78 = some (.slice 85) := by kernel_rfl
theorem undMSI : Tryz.prog.underlying 67 = some (.map 9 3) := by kernel_rfl
theorem undPF : Tryz.prog.underlying 76 = some (.pointer (Tryz.prog.pointee 76)) := by kernel_rfl
theorem mapSI : MapT Tryz.prog strKey 67 9 3 (.int .i64 0) := ⟨by kernel_rfl,by kernel_rfl,by kernel_rfl⟩
theorem mapIB : MapT Tryz.prog (intKey .i64) 77 3 4 (.bool false) := ⟨by kernel_rfl,by kernel_rfl,by kernel_rfl⟩
structure FW where
 b : Nat
 an : Option Addr
 cn : Nat
 af : Option Addr
 cf : Nat
 bm : Nat
 al : List (Int × Value)
def secs (l : List (List UInt8)) : List Value := bcells l.flatten
def flL (x : FW) (f : Fl) : List Asn := [.blk x.b [.slice x.an f.now.length x.cn,.slice x.af f.firm.length x.cf,.map (some x.bm)] 80,
 .own 85 512 x.an f.now.length x.cn (secs f.now),.own 85 512 x.af f.firm.length x.cf (secs f.firm),.imap x.bm .i64 x.al]
structure CW where
 n : Nat
 k : Nat
 t : Nat
def chV (x : CW) : Ch → Value
 | .create _ _ => .func (.func 32) #[] #[.pointer (some ⟨x.k,0,none⟩),.pointer (some ⟨x.n,0,none⟩)]
 | .rename _ _ _ => .func (.func 136) #[] #[.pointer (some ⟨x.n,0,none⟩),.pointer (some ⟨x.k,0,none⟩),.pointer (some ⟨x.t,0,none⟩)]
 | .remove _ => .bool false
def chL (x : CW) : Ch → List Asn
 | .create n k => [.blk x.k [.int .i64 (k : Int)] 3,.blk x.n [.string n] 9]
 | .rename a b k => [.blk x.n [.string a] 9,.blk x.k [.int .i64 (k : Int)] 3,.blk x.t [.string b] 9]
 | .remove n => [.blk x.n [.string n] 9]
structure DW where
 b : Nat
 fa : Option Addr
 fc : Nat
 fs : List FW
 mn : Nat
 na : List (ByteArray × Value)
 mf : Nat
 fi : List (ByteArray × Value)
 ca : Option Addr
 cc : Nat
 cs : List CW
def filesL (xs : List FW) (fs : List Fl) : List Asn := (List.zipWith flL xs fs).flatten
def chsL (xs : List CW) (cs : List Ch) : List Asn := (List.zipWith chL xs cs).flatten
def ptrs (xs : List FW) : List Value := xs.map fun f => .pointer (some ⟨f.b,0,none⟩)
def chVs (xs : List CW) (cs : List Ch) : List Value := List.zipWith chV xs cs
def dkR (x : DW) (d : Dk) : List Asn := filesL x.fs d.files ++ chsL x.cs d.chs
def dkL (x : DW) (d : Dk) : List Asn :=
 .blk x.b [.int .i64 (d.room : Int),.slice x.fa d.files.length x.fc,.map (some x.mn),.map (some x.mf),.slice x.ca d.chs.length x.cc,.int .i64 (d.armed : Int),.int .i64 (d.denied : Int),.bool d.dead] 71 ::
 .own 76 1 x.fa d.files.length x.fc (ptrs x.fs) :: .smap x.mn x.na :: .smap x.mf x.fi :: .own 125 1 x.ca d.chs.length x.cc (chVs x.cs d.chs) :: dkR x d
structure DW.Ok (x : DW) (d : Dk) : Prop where
 dk : d.Ok
 fl : x.fs.length = d.files.length
 cl : x.cs.length = d.chs.length
 keys : ∀ (k : Nat) (f : FW) (g : Fl),x.fs[k]? = some f → d.files[k]? = some g → (f.al.map (·.1)).Perm (g.since.map fun n : Nat => (n : Int))
 na : x.na.Perm (nvl d.names)
 fi : x.fi.Perm (nvl d.firm)
theorem zipL_get {α β : Type} (g : α → β → List Asn) : ∀ {xs : List α} {ys : List β} {k : Nat} {x : α} {y : β},xs[k]? = some x → ys[k]? = some y →
  (List.zipWith g xs ys).flatten.Perm (g x y ++ (List.zipWith g (xs.eraseIdx k) (ys.eraseIdx k)).flatten)
 | [],_,_,_,_,h,_ => by simp at h
 | _ :: _,[],_,_,_,_,h => by simp at h
 | x0 :: xs,y0 :: ys,0,x,y,h,h' => by
  simp at h h'; subst h h'
  exact .refl _
 | x0 :: xs,y0 :: ys,k + 1,x,y,h,h' => by
  simp only [List.getElem?_cons_succ] at h h'
  have ih := zipL_get g h h'
  simp only [List.eraseIdx_cons_succ,List.zipWith_cons_cons,List.flatten_cons]
  refine (ih.append_left _).trans ?_
  rw [← List.append_assoc,← List.append_assoc]
  exact List.perm_append_comm.append_right _
theorem filesL_get {xs : List FW} {fs : List Fl} {k : Nat} {x : FW} {f : Fl} (h : xs[k]? = some x) (h' : fs[k]? = some f) : (filesL xs fs).Perm (flL x f ++ filesL (xs.eraseIdx k) (fs.eraseIdx k)) := zipL_get flL h h'
theorem filesL_set {xs : List FW} {fs : List Fl} {k : Nat} (x : FW) (f : Fl) (h : k < xs.length) (h' : k < fs.length) : (filesL (xs.set k x) (fs.set k f)).Perm (flL x f ++ filesL (xs.eraseIdx k) (fs.eraseIdx k)) := by
 have h1 : (xs.set k x)[k]? = some x := by rw [List.getElem?_set_self h]
 have h2 : (fs.set k f)[k]? = some f := by rw [List.getElem?_set_self h']
 have := filesL_get h1 h2
 rwa [List.eraseIdx_set_eq,List.eraseIdx_set_eq] at this
theorem ptrs_get {xs : List FW} {k : Nat} {x : FW} (h : xs[k]? = some x) : (ptrs xs)[k]? = some (.pointer (some ⟨x.b,0,none⟩)) := by
 simp [ptrs,h]
def fptr (x : DW) (o : Option Nat) : Option Addr := o.bind fun k => (x.fs[k]?).map fun f => ⟨f.b,0,none⟩
theorem DW.Ok.at {x : DW} {d : Dk} (h : x.Ok d) {k : Nat} (hk : k < d.files.length) : ∃ f g,x.fs[k]? = some f ∧ d.files[k]? = some g ∧ d.file k = g := by
 have hk2 : k < x.fs.length := by rw [h.fl]; exact hk
 refine ⟨_,_,List.getElem?_eq_getElem hk2,List.getElem?_eq_getElem hk,?_⟩
 simp [Dk.file,hk]
theorem fptr_at {x : DW} {k : Nat} {f : FW} (h : x.fs[k]? = some f) : fptr x (some k) = some ⟨f.b,0,none⟩ := by simp [fptr,h]
section
variable {w : World} {b : Nat} {cs : List Value}
theorem dead_spec (x : DW) (d : Dk) (w : World) (st : Std w (dkL x d)) : Calls Tryz.prog 66 #[.pointer (some ⟨x.b,0,none⟩)] w fun e w' => e = .returned (.bool d.dead) ∧ Hp [] w w' [] := by
 apply dead.ok; unfold dead.vc
 have H := Hp.startL st
 simp only [dkL] at H
 refine onP_mk rfl ?_
 (repeat (first | ((repeat apply Exists.intro); first | refine ⟨H.ld (by exact ⟨rfl,rfl,rfl,rfl⟩) (by first | exact sclInt | exact sclBool | exact sclStr | exact sclMSI | exact sclSF | exact sclPF | exact sclSS | exact sclMIB | exact sclSC | exact sclC) (by repeat first | exact .head _ | refine .tail _ ?_) rfl,?_⟩) | (intro _ _ hn; replace H := H.new (by exact ⟨rfl,rfl,rfl,rfl⟩) hn; clear hn) | ((first | (apply Hp.st; (case H => first | exact H | exact H.pull1 | exact H.pull2 | exact H.pull3 | exact H.pull4 | exact H.pull5 | exact H.pull6 | exact H.pull7); (case e => exact ⟨rfl,rfl,rfl,rfl⟩); (case S => exact (by first | exact sclInt | exact sclBool | exact sclStr | exact sclMSI | exact sclSF | exact sclPF | exact sclSS | exact sclMIB | exact sclSC | exact sclC)); (case hv => exact rfl); (case h1 => exact rfl); (case ho => exact Nat.le_of_ble_eq_true rfl); (case hc => exact rfl))); clear H; intro _ H; (try simp only [over,List.set_cons_zero,List.set_cons_succ] at H))))
 exact ⟨rfl,Hp.start w⟩
theorem dies_spec (x : DW) (d : Dk) (ha : (d.armed : Int) ≤ 9223372036854775807) (w : World) (st : Std w (dkL x d)) : Calls Tryz.prog 65 #[.pointer (some ⟨x.b,0,none⟩)] w fun e w' => e = .returned (.bool d.dies.dead) ∧ Hp (feet (dkL x d)) w w' (dkL x d.dies) := by
 apply dies.ok; unfold dies.vc
 have H := Hp.startL st
 generalize hB : feet (dkL x d) = B at H ⊢
 simp only [dkL] at H
 refine onP_mk rfl ?_
 (repeat (first | ((repeat apply Exists.intro); first | refine ⟨H.ld (by exact ⟨rfl,rfl,rfl,rfl⟩) (by first | exact sclInt | exact sclBool | exact sclStr | exact sclMSI | exact sclSF | exact sclPF | exact sclSS | exact sclMIB | exact sclSC | exact sclC) (by repeat first | exact .head _ | refine .tail _ ?_) rfl,?_⟩) | (intro _ _ hn; replace H := H.new (by exact ⟨rfl,rfl,rfl,rfl⟩) hn; clear hn) | ((first | (apply Hp.st; (case H => first | exact H | exact H.pull1 | exact H.pull2 | exact H.pull3 | exact H.pull4 | exact H.pull5 | exact H.pull6 | exact H.pull7); (case e => exact ⟨rfl,rfl,rfl,rfl⟩); (case S => exact (by first | exact sclInt | exact sclBool | exact sclStr | exact sclMSI | exact sclSF | exact sclPF | exact sclSS | exact sclMIB | exact sclSC | exact sclC)); (case hv => exact rfl); (case h1 => exact rfl); (case ho => exact Nat.le_of_ble_eq_true rfl); (case hc => exact rfl))); clear H; intro _ H; (try simp only [over,List.set_cons_zero,List.set_cons_succ] at H))))
 refine br_dec (fun h => ?_) (fun h => ?_)
 ·have e1 : d.dies = { d with armed := d.armed - 1,dead := decide (d.armed - 1 = 0) } := if_pos (by omega)
  have e2 : (d.armed : Int) - 1 = ((d.armed - 1 : Nat) : Int) := by omega
  rw [e1]
  refine onP_mk rfl ?_
  (repeat (first | ((repeat apply Exists.intro); first | refine ⟨H.ld (by exact ⟨rfl,rfl,rfl,rfl⟩) (by first | exact sclInt | exact sclBool | exact sclStr | exact sclMSI | exact sclSF | exact sclPF | exact sclSS | exact sclMIB | exact sclSC | exact sclC) (by repeat first | exact .head _ | refine .tail _ ?_) rfl,?_⟩) | (intro _ _ hn; replace H := H.new (by exact ⟨rfl,rfl,rfl,rfl⟩) hn; clear hn) | ((first | (apply Hp.st; (case H => first | exact H | exact H.pull1 | exact H.pull2 | exact H.pull3 | exact H.pull4 | exact H.pull5 | exact H.pull6 | exact H.pull7); (case e => exact ⟨rfl,rfl,rfl,rfl⟩); (case S => exact (by first | exact sclInt | exact sclBool | exact sclStr | exact sclMSI | exact sclSF | exact sclPF | exact sclSS | exact sclMIB | exact sclSC | exact sclC)); (case hv => exact rfl); (case h1 => exact rfl); (case ho => exact Nat.le_of_ble_eq_true rfl); (case hc => exact rfl))); clear H; intro _ H; (try simp only [over,List.set_cons_zero,List.set_cons_succ] at H))))
  refine ⟨inR64.2 (by omega),?_⟩
  refine onP_mk rfl ?_
  rw [e2]
  ((first | (apply Hp.st; (case H => first | exact H | exact H.pull1 | exact H.pull2 | exact H.pull3 | exact H.pull4 | exact H.pull5 | exact H.pull6 | exact H.pull7); (case e => exact ⟨rfl,rfl,rfl,rfl⟩); (case S => exact (by first | exact sclInt | exact sclBool | exact sclStr | exact sclMSI | exact sclSF | exact sclPF | exact sclSS | exact sclMIB | exact sclSC | exact sclC)); (case hv => exact rfl); (case h1 => exact rfl); (case ho => exact Nat.le_of_ble_eq_true rfl); (case hc => exact rfl))); clear H; intro _ H; (try simp only [over,List.set_cons_zero,List.set_cons_succ] at H))
  refine onP_mk rfl ?_
  ((repeat apply Exists.intro); first | refine ⟨H.ld (by exact ⟨rfl,rfl,rfl,rfl⟩) (by first | exact sclInt | exact sclBool | exact sclStr | exact sclMSI | exact sclSF | exact sclPF | exact sclSS | exact sclMIB | exact sclSC | exact sclC) (by repeat first | exact .head _ | refine .tail _ ?_) rfl,?_⟩)
  refine onP_mk rfl ?_
  ((first | (apply Hp.st; (case H => first | exact H | exact H.pull1 | exact H.pull2 | exact H.pull3 | exact H.pull4 | exact H.pull5 | exact H.pull6 | exact H.pull7); (case e => exact ⟨rfl,rfl,rfl,rfl⟩); (case S => exact (by first | exact sclInt | exact sclBool | exact sclStr | exact sclMSI | exact sclSF | exact sclPF | exact sclSS | exact sclMIB | exact sclSC | exact sclC)); (case hv => exact rfl); (case h1 => exact rfl); (case ho => exact Nat.le_of_ble_eq_true rfl); (case hc => exact rfl))); clear H; intro _ H; (try simp only [over,List.set_cons_zero,List.set_cons_succ] at H))
  refine onP_mk rfl ?_
  ((repeat apply Exists.intro); first | refine ⟨H.ld (by exact ⟨rfl,rfl,rfl,rfl⟩) (by first | exact sclInt | exact sclBool | exact sclStr | exact sclMSI | exact sclSF | exact sclPF | exact sclSS | exact sclMIB | exact sclSC | exact sclC) (by repeat first | exact .head _ | refine .tail _ ?_) rfl,?_⟩)
  have e3 : decide (((d.armed - 1 : Nat) : Int) = 0) = decide (d.armed - 1 = 0) := by
   congr 1; exact propext (by omega)
  rw [e3] at H ⊢
  exact ⟨rfl,H⟩
 ·have e1 : d.dies = d := if_neg (by omega)
  rw [e1]
  refine onP_mk rfl ?_
  ((repeat apply Exists.intro); first | refine ⟨H.ld (by exact ⟨rfl,rfl,rfl,rfl⟩) (by first | exact sclInt | exact sclBool | exact sclStr | exact sclMSI | exact sclSF | exact sclPF | exact sclSS | exact sclMIB | exact sclSC | exact sclC) (by repeat first | exact .head _ | refine .tail _ ?_) rfl,?_⟩)
  exact ⟨rfl,H⟩
theorem done_spec (x : DW) (d : Dk) (ha : (d.armed : Int) ≤ 9223372036854775807) (w : World) (st : Std w (dkL x d)) : Calls Tryz.prog 36 #[.pointer (some ⟨x.b,0,none⟩)] w fun e w' => e = .returned (.int .i64 d.dies.code) ∧ Hp (feet (dkL x d)) w w' (dkL x d.dies) := by
 apply done.ok; unfold done.vc
 refine callV (dies_spec x d ha w st) ?_
 rintro e w' ⟨rfl,H⟩
 refine ⟨_,rfl,?_⟩
 refine br_mk (fun h => ⟨?_,H⟩) (fun h => ⟨?_,H⟩) <;> simp [Dk.code,h]
theorem denies_spec (x : DW) (d : Dk) (ha : (d.denied : Int) ≤ 9223372036854775807) (w : World) (st : Std w (dkL x d)) : Calls Tryz.prog 35 #[.pointer (some ⟨x.b,0,none⟩)] w fun e w' => e = .returned (.bool d.refused) ∧ Hp (feet (dkL x d)) w w' (dkL x d.denies) := by
 apply denies.ok; unfold denies.vc
 have H := Hp.startL st
 generalize hB : feet (dkL x d) = B at H ⊢
 simp only [dkL] at H
 refine onP_mk rfl ?_
 (repeat (first | ((repeat apply Exists.intro); first | refine ⟨H.ld (by exact ⟨rfl,rfl,rfl,rfl⟩) (by first | exact sclInt | exact sclBool | exact sclStr | exact sclMSI | exact sclSF | exact sclPF | exact sclSS | exact sclMIB | exact sclSC | exact sclC) (by repeat first | exact .head _ | refine .tail _ ?_) rfl,?_⟩) | (intro _ _ hn; replace H := H.new (by exact ⟨rfl,rfl,rfl,rfl⟩) hn; clear hn) | ((first | (apply Hp.st; (case H => first | exact H | exact H.pull1 | exact H.pull2 | exact H.pull3 | exact H.pull4 | exact H.pull5 | exact H.pull6 | exact H.pull7); (case e => exact ⟨rfl,rfl,rfl,rfl⟩); (case S => exact (by first | exact sclInt | exact sclBool | exact sclStr | exact sclMSI | exact sclSF | exact sclPF | exact sclSS | exact sclMIB | exact sclSC | exact sclC)); (case hv => exact rfl); (case h1 => exact rfl); (case ho => exact Nat.le_of_ble_eq_true rfl); (case hc => exact rfl))); clear H; intro _ H; (try simp only [over,List.set_cons_zero,List.set_cons_succ] at H))))
 refine br_dec (fun h => ?_) (fun h => ?_)
 ·have e1 : d.denies = d := by
   have : d.denied = 0 := by omega
   obtain ⟨_,_,_,_,_,_,_⟩ := d
   simp only [Dk.denies] at this ⊢
   rw [this]
  have e2 : d.refused = false := by simp only [Dk.refused,decide_eq_false_iff_not]; omega
  rw [e1,e2]
  exact ⟨rfl,H⟩
 ·have e2 : (d.denied : Int) - 1 = ((d.denied - 1 : Nat) : Int) := by omega
  refine onP_mk rfl ?_
  (repeat (first | ((repeat apply Exists.intro); first | refine ⟨H.ld (by exact ⟨rfl,rfl,rfl,rfl⟩) (by first | exact sclInt | exact sclBool | exact sclStr | exact sclMSI | exact sclSF | exact sclPF | exact sclSS | exact sclMIB | exact sclSC | exact sclC) (by repeat first | exact .head _ | refine .tail _ ?_) rfl,?_⟩) | (intro _ _ hn; replace H := H.new (by exact ⟨rfl,rfl,rfl,rfl⟩) hn; clear hn) | ((first | (apply Hp.st; (case H => first | exact H | exact H.pull1 | exact H.pull2 | exact H.pull3 | exact H.pull4 | exact H.pull5 | exact H.pull6 | exact H.pull7); (case e => exact ⟨rfl,rfl,rfl,rfl⟩); (case S => exact (by first | exact sclInt | exact sclBool | exact sclStr | exact sclMSI | exact sclSF | exact sclPF | exact sclSS | exact sclMIB | exact sclSC | exact sclC)); (case hv => exact rfl); (case h1 => exact rfl); (case ho => exact Nat.le_of_ble_eq_true rfl); (case hc => exact rfl))); clear H; intro _ H; (try simp only [over,List.set_cons_zero,List.set_cons_succ] at H))))
  refine ⟨inR64.2 (by omega),?_⟩
  refine onP_mk rfl ?_
  rw [e2]
  ((first | (apply Hp.st; (case H => first | exact H | exact H.pull1 | exact H.pull2 | exact H.pull3 | exact H.pull4 | exact H.pull5 | exact H.pull6 | exact H.pull7); (case e => exact ⟨rfl,rfl,rfl,rfl⟩); (case S => exact (by first | exact sclInt | exact sclBool | exact sclStr | exact sclMSI | exact sclSF | exact sclPF | exact sclSS | exact sclMIB | exact sclSC | exact sclC)); (case hv => exact rfl); (case h1 => exact rfl); (case ho => exact Nat.le_of_ble_eq_true rfl); (case hc => exact rfl))); clear H; intro _ H; (try simp only [over,List.set_cons_zero,List.set_cons_succ] at H))
  refine onP_mk rfl ?_
  ((repeat apply Exists.intro); first | refine ⟨H.ld (by exact ⟨rfl,rfl,rfl,rfl⟩) (by first | exact sclInt | exact sclBool | exact sclStr | exact sclMSI | exact sclSF | exact sclPF | exact sclSS | exact sclMIB | exact sclSC | exact sclC) (by repeat first | exact .head _ | refine .tail _ ?_) rfl,?_⟩)
  have e3 : decide (((d.denied - 1 : Nat) : Int) = 0) = d.refused := by
   rw [Dk.refused]; congr 1; exact propext (by omega)
  rw [e3]
  exact ⟨rfl,H⟩
end
theorem right_spec (n : ByteArray) (w : World) : Calls Tryz.prog 30 #[.string n] w fun e w' => e = .returned (.bool (Vault.right n)) ∧ Hp [] w w' [] := by
 apply right.ok; unfold right.vc
 have hz : n = ByteArray.mk #[] ↔ n.size = 0 := by
  constructor
  ·rintro rfl; rfl
  ·intro h
   obtain ⟨a⟩ := n
   have : a.size = 0 := h
   exact congrArg ByteArray.mk (Array.eq_empty_of_size_eq_zero this)
 refine br_ndec (fun h => ?_) (fun h => ?_)
 ·have h1 : n.size ≠ 0 := fun e => h (hz.2 e)
  refine ⟨?_,Hp.start w⟩
  have e2 : decide ((n.size : Int) ≤ 60) = decide (n.size ≤ 60) := by congr 1; exact propext (by omega)
  have e1 : Vault.right n = decide (n.size ≤ 60) := by simp [Vault.right,Nat.one_le_iff_ne_zero,h1]
  rw [e1,← e2]
 ·have h1 : n.size = 0 := hz.1 h
  exact ⟨by simp [Vault.right,h1],Hp.start w⟩
theorem find_spec (x : DW) (d : Dk) (hok : x.Ok d) (n : ByteArray) (w : World) (st : Std w (dkL x d)) : Calls Tryz.prog 33 #[.pointer (some ⟨x.b,0,none⟩),.string n] w fun e w' => e = .returned (.pointer (fptr x (d.find n))) ∧ Hp [] w w' [] := by
 apply find.ok; unfold find.vc
 have H := Hp.startL st
 simp only [dkL] at H
 refine onP_mk rfl ?_
 ((repeat apply Exists.intro); first | refine ⟨H.ld (by exact ⟨rfl,rfl,rfl,rfl⟩) (by first | exact sclInt | exact sclBool | exact sclStr | exact sclMSI | exact sclSF | exact sclPF | exact sclSS | exact sclMIB | exact sclSC | exact sclC) (by repeat first | exact .head _ | refine .tail _ ?_) rfl,?_⟩)
 have hg := nget_perm hok.dk.names hok.na n
 have hf : nget d.names n = d.find n := rfl
 rw [hf] at hg
 cases hk : d.find n with
 | none =>
  rw [hk] at hg
  refine ⟨0,false,H.lkSok mapSI (by exact ⟨rfl,rfl,rfl,rfl⟩) (by repeat first | exact .head _ | refine .tail _ ?_) (by simp [hg]) (by simp [hg]),?_⟩
  exact br_not (fun _ => ⟨rfl,Hp.start w⟩) (fun h => by cases h)
 | some k =>
  rw [hk] at hg
  have hlt := hok.dk.find hk
  obtain ⟨f,g,h1,h2,h3⟩ := hok.at hlt
  refine ⟨(k : Int),true,H.lkSok mapSI (by exact ⟨rfl,rfl,rfl,rfl⟩) (by repeat first | exact .head _ | refine .tail _ ?_) (by simp [hg]) (by simp [hg]),?_⟩
  refine br_not (fun h => by cases h) (fun _ => ?_)
  refine onP_mk rfl ?_
  ((repeat apply Exists.intro); first | refine ⟨H.ld (by exact ⟨rfl,rfl,rfl,rfl⟩) (by first | exact sclInt | exact sclBool | exact sclStr | exact sclMSI | exact sclSF | exact sclPF | exact sclSS | exact sclMIB | exact sclSC | exact sclC) (by repeat first | exact .head _ | refine .tail _ ?_) rfl,?_⟩)
  obtain ⟨ad,ha,hl⟩ := H.ldO (P := Tryz.prog) (w' := w) (t := 76) (o := Int.toNat (k : Int) * 1) (by exact ⟨rfl,rfl,rfl,rfl⟩) sclPF (.tail _ (.head _)) (by rw [Int.toNat_natCast,Nat.mul_one]; exact ptrs_get h1)
  refine onP_mk ha ⟨⟨by omega,by omega⟩,_,hl,?_⟩
  rw [fptr_at h1]
  exact ⟨rfl,Hp.start w⟩
theorem size_spec (x : DW) (d : Dk) (hok : x.Ok d) (n : ByteArray) (w : World) (st : Std w (dkL x d)) : Calls Tryz.prog 67 #[.pointer (some ⟨x.b,0,none⟩),.string n] w fun e w' => e = .returned (.int .i64 (d.size n)) ∧ Hp [] w w' [] := by
 apply size.ok; unfold size.vc
 refine callV (find_spec x d hok n w st) ?_
 rintro e w' ⟨rfl,H'⟩
 have H := (Hp.startL st).ext0 H'
 refine ⟨_,rfl,?_⟩
 cases hk : d.find n with
 | none =>
  refine ⟨_,eqv_ptrE undPF,?_⟩
  refine br_mk (fun _ => ⟨by simp [Dk.size,hk],H'⟩) (fun h => by cases h)
 | some k =>
  obtain ⟨f,g,h1,h2,h3⟩ := hok.at (hok.dk.find hk)
  rw [fptr_at h1]
  refine ⟨_,eqv_ptrE undPF,?_⟩
  refine br_mk (fun h => by cases h) (fun _ => ?_)
  refine onP_mk rfl ?_
  have m1 : Asn.blk f.b [.slice f.an g.now.length f.cn,.slice f.af g.firm.length f.cf,.map (some f.bm)] 80 ∈ dkL x d := by
   simp only [dkL,dkR]
   repeat refine List.mem_cons_of_mem _ ?_
   exact List.mem_append_left _ ((filesL_get h1 h2).mem_iff.2 (List.mem_append_left _ (.head _)))
  refine ⟨_,_,_,H.ld (by exact ⟨rfl,rfl,rfl,rfl⟩) sclSS m1 rfl,?_⟩
  refine ⟨?_,H'⟩
  rw [Dk.size,hk]
  simp only [Dk.len,h3]
end Go.Proofs.YtdeebigmpffnbaaGreat
namespace Go.Proofs.YtdeebigmpffnbaaGreat
open Go Go.Vc Go.Vault
def evL (d : Dk) (e : MapEntry) : Nat := match e.val with
 | .int _ k => d.len k.toNat
 | _ => 0
theorem sum_perm {l l' : List Nat} (h : l.Perm l') : l.sum = l'.sum := h.sum_nat
theorem used_spec (x : DW) (d : Dk) (hok : x.Ok d) (hu : (d.used : Int) ≤ 9223372036854775807) (w : World) (st : Std w (dkL x d)) : Calls Tryz.prog 34 #[.pointer (some ⟨x.b,0,none⟩)] w fun e w' => e = .returned (.int .i64 (d.used : Int)) ∧ Hp [] w w' [] := by
 apply used.ok; unfold used.vc
 have H0 := Hp.startL st
 have hm : MapAt strKey w x.mn x.na := H0.ok (.smap x.mn x.na) (by simp [dkL])
 obtain ⟨es,clock,hb,hr,hn,ho⟩ := hm
 have hbl := (Array.getElem?_eq_some_iff.1 hb).1
 have hvals : es.toList.map (·.val) = x.na.map (·.2) := by
  have := congrArg (List.map Prod.snd) hr
  simpa [List.map_map,Function.comp_def] using this
 have hval : ∀ e ∈ es.toList,∃ k : Nat,e.val = .int .i64 (k : Int) ∧ k < d.files.length := by
  intro e he
  have h1 : e.val ∈ x.na.map (·.2) := hvals ▸ List.mem_map.2 ⟨e,he,rfl⟩
  obtain ⟨p,hp,hp2⟩ := List.mem_map.1 h1
  obtain ⟨q,hq,rfl⟩ := List.mem_map.1 (hok.na.mem_iff.1 hp)
  exact ⟨q.file,hp2.symm,hok.dk.file q hq⟩
 have htot : (es.toList.map (evL d)).sum = d.used := by
  have e1 : es.toList.map (evL d) = (es.toList.map (·.val)).map fun v => match v with | .int _ k => d.len k.toNat | _ => 0 := by
   rw [List.map_map]; rfl
  rw [e1,hvals,sum_perm ((hok.na.map _).map _)]
  simp only [nvl,List.map_map,Dk.used]
  congr 1
 have K0 := Hp.start w
 have hat : ∀ {w' : World} {L : List Asn},Hp [] w w' L → w'.heap[x.mn]? = some (.map es clock) := fun K => by rw [K.chg.2.2.2.2 x.mn hbl (by simp)]; exact hb
 simp only [dkL] at H0
 refine onP_mk rfl ?_
 replace st := st
 have H := H0
 ((repeat apply Exists.intro); first | refine ⟨H.ld (by exact ⟨rfl,rfl,rfl,rfl⟩) (by first | exact sclInt | exact sclBool | exact sclStr | exact sclMSI | exact sclSF | exact sclPF | exact sclSS | exact sclMIB | exact sclSC | exact sclC) (by repeat first | exact .head _ | refine .tail _ ?_) rfl,?_⟩)
 clear H
 refine K0.rng (by exact ⟨rfl,rfl,rfl,rfl⟩) undMSI hb ?_
 intro it w1 K
 refine LoopP.mk (fun (m : Nat) (s : Int) (w' : World) => ∃ (seen : Array Nat) (L : List Asn),m = (leftL es seen).length ∧ s + (((leftL es seen).map (evL d)).sum : Int) = d.used ∧ 0 ≤ s ∧ Hp [] w w' (objA it (.mapIter (some x.mn) clock seen clock) :: L)) (leftL es #[]).length ⟨#[],_,rfl,by rw [leftL_start,htot]; omega,by omega,K⟩ ?_
 clear K w1
 rintro m s w1 next ⟨seen,L,rfl,hs,hs0,K⟩ hnext
 refine K.nxt (by exact ⟨rfl,rfl,rfl,rfl⟩) (hat K) ho hn ?_ ?_
 ·intro h0
  rw [h0] at hs
  simp at hs
  rw [hs]
  exact ⟨rfl,K.done⟩
 ·intro e w2 he hp K2 hent
  obtain ⟨k,hk,hlt⟩ := hval e he
  obtain ⟨f,g,h1,h2,h3⟩ := hok.at hlt
  rw [hk] at hent
  have hsum := sum_perm (hp.map (evL d))
  simp only [List.map_cons,List.sum_cons] at hsum
  have hek : evL d e = g.now.length := by
   rw [evL,hk]
   simp only [Int.toNat_natCast,Dk.len,h3]
  rw [hek] at hsum
  have hlen : (leftL es (seen.push e.born)).length < (leftL es seen).length := by
   have := hp.length_eq
   simp only [List.length_cons] at this
   omega
  have H := H0.ext K2.done
  rw [List.nil_append] at H
  refine ⟨_,(k : Int),_,hent,?_⟩
  refine onP_mk rfl ?_
  ((repeat apply Exists.intro); first | refine ⟨H.ld (by exact ⟨rfl,rfl,rfl,rfl⟩) (by first | exact sclInt | exact sclBool | exact sclStr | exact sclMSI | exact sclSF | exact sclPF | exact sclSS | exact sclMIB | exact sclSC | exact sclC) (by repeat first | exact .head _ | refine .tail _ ?_) rfl,?_⟩)
  obtain ⟨ad,ha,hl⟩ := H.ldO (P := Tryz.prog) (w' := w2) (t := 76) (o := Int.toNat (k : Int) * 1) (by exact ⟨rfl,rfl,rfl,rfl⟩) sclPF (.tail _ (.head _)) (by rw [Int.toNat_natCast,Nat.mul_one]; exact ptrs_get h1)
  refine onP_mk ha ⟨⟨by omega,by omega⟩,_,hl,?_⟩
  refine onP_mk rfl ?_
  have m1 : Asn.blk f.b [.slice f.an g.now.length f.cn,.slice f.af g.firm.length f.cf,.map (some f.bm)] 80 ∈ dkR x d := by
   simp only [dkR]
   exact List.mem_append_left _ ((filesL_get h1 h2).mem_iff.2 (List.mem_append_left _ (.head _)))
  refine ⟨_,_,_,H.ld (by exact ⟨rfl,rfl,rfl,rfl⟩) sclSS (.tail _ (.tail _ (.tail _ (.tail _ (.tail _ m1))))) rfl,?_⟩
  refine ⟨inR64.2 (by omega),?_⟩
  exact hnext _ _ _ hlen ⟨_,_,rfl,by omega,by omega,K2⟩
theorem callX_fn {P : Program} {g : FuncId} {fn : Func} {c : Code} {fi ca : Array Value} {args : List Value} {w : World} {R : Ending → World → Prop} (h : P.funcs[g]? = some fn) (hb : fn.body = some c) (hc : CallV P g (fi.toList ++ args ++ ca.toList) w R) : CallX P (.func (.func g) fi ca) args w R := by
 unfold CallX; simp only [h,hb]; exact hc
theorem Hp.del {P : Program} {B : List Nat} {w0 w w' : World} {L : List Asn} {t kT eT : TypeId} {z : Value} {b : Nat} {al : List (ByteArray × Value)} (T : MapT P strKey t kT eT z) {ts : Array TypeId} {ty : TypeId} (hts : ts[0]? = some t) (H : Hp B w0 w (.smap b al :: L)) (e : Eqw w w') {x : ByteArray} {G : World → Prop}
  (kk : ∀ w1,Hp B w0 w1 (.smap b (adel al x) :: L) → G w1) : ∃ w1,Del P ts ty w' (.map (some b)) (.string x) w1 ∧ G w1 := by
 obtain ⟨w1,h1,h2,h3⟩ := del_map (ty := ty) T hts ((H.go e).ok _ (.head _)) x
 exact ⟨w1,h1,kk w1 ((H.go e).set h3 h2 fun k hk => .inl hk)⟩
def onA (al : List (ByteArray × Value)) : Ch → List (ByteArray × Value)
 | .create n k => aput al n (.int .i64 (k : Int))
 | .rename a b k => aput (adel al a) b (.int .i64 (k : Int))
 | .remove n => adel al n
theorem onA_perm {l : List Nm} (h : Rising l) {al : List (ByteArray × Value)} (p : al.Perm (nvl l)) : ∀ c : Ch,(onA al c).Perm (nvl (c.on l))
 | .create n k => nvl_put h p ⟨n,k⟩
 | .rename a b k => nvl_put (rising_without h a) (nvl_del h p a) ⟨b,k⟩
 | .remove n => nvl_del h p n
theorem createC_spec (x : CW) (n : ByteArray) (k : Nat) (b : Nat) (al : List (ByteArray × Value)) (w : World) (st : Std w (.smap b al :: chL x (.create n k))) : Calls Tryz.prog 32 #[.map (some b),.pointer (some ⟨x.k,0,none⟩),.pointer (some ⟨x.n,0,none⟩)] w fun e w' =>
  e = .returned (.tuple #[]) ∧ Hp (feet (.smap b al :: chL x (.create n k))) w w' (.smap b (onA al (.create n k)) :: chL x (.create n k)) := by
 apply createC.ok; unfold createC.vc
 have H := Hp.startL st
 generalize hB : feet (.smap b al :: chL x (.create n k)) = B at H ⊢
 simp only [chL] at H
 refine ⟨_,onP_mk rfl (H.ld (by exact ⟨rfl,rfl,rfl,rfl⟩) sclStr (.tail _ (.tail _ (.head _))) rfl),?_⟩
 refine ⟨_,onP_mk rfl (H.ld (by exact ⟨rfl,rfl,rfl,rfl⟩) sclInt (.tail _ (.head _)) rfl),?_⟩
 refine Hp.mupS mapSI H (by exact ⟨rfl,rfl,rfl,rfl⟩) ?_
 intro w1 H
 exact ⟨rfl,H⟩
theorem renameC_spec (x : CW) (n m : ByteArray) (k : Nat) (b : Nat) (al : List (ByteArray × Value)) (w : World) (st : Std w (.smap b al :: chL x (.rename n m k))) : Calls Tryz.prog 136 #[.map (some b),.pointer (some ⟨x.n,0,none⟩),.pointer (some ⟨x.k,0,none⟩),.pointer (some ⟨x.t,0,none⟩)] w fun e w' =>
  e = .returned (.tuple #[]) ∧ Hp (feet (.smap b al :: chL x (.rename n m k))) w w' (.smap b (onA al (.rename n m k)) :: chL x (.rename n m k)) := by
 apply renameC.ok; unfold renameC.vc
 have H := Hp.startL st
 generalize hB : feet (.smap b al :: chL x (.rename n m k)) = B at H ⊢
 simp only [chL] at H
 refine ⟨_,onP_mk rfl (H.ld (by exact ⟨rfl,rfl,rfl,rfl⟩) sclStr (.tail _ (.head _)) rfl),?_⟩
 refine Hp.del mapSI rfl H (by exact ⟨rfl,rfl,rfl,rfl⟩) ?_
 clear H; intro w1 H
 refine ⟨_,onP_mk rfl (H.ld (by exact ⟨rfl,rfl,rfl,rfl⟩) sclStr (.tail _ (.tail _ (.tail _ (.head _)))) rfl),?_⟩
 refine ⟨_,onP_mk rfl (H.ld (by exact ⟨rfl,rfl,rfl,rfl⟩) sclInt (.tail _ (.tail _ (.head _))) rfl),?_⟩
 refine Hp.mupS mapSI H (by exact ⟨rfl,rfl,rfl,rfl⟩) ?_
 clear H; intro w1 H
 exact ⟨rfl,H⟩
theorem chX_spec (x : CW) (c : Ch) {m : Nat} (hc : c.Ok m) (b : Nat) (al : List (ByteArray × Value)) (w : World) (st : Std w (.smap b al :: chL x c)) : CallX Tryz.prog (chV x c) [.map (some b)] w fun e w' =>
  e = .returned (.tuple #[]) ∧ Hp (feet (.smap b al :: chL x c)) w w' (.smap b (onA al c) :: chL x c) := by
 cases c with
 | create n k => exact callX_fn Tryz.func32 rfl (callV (createC_spec x n k b al w st) fun _ _ h => h)
 | rename n m k => exact callX_fn Tryz.func136 rfl (callV (renameC_spec x n m k b al w st) fun _ _ h => h)
 | remove n => exact hc.elim
theorem Dk.change_names (d : Dk) (c : Ch) : (d.change c).names = c.on d.names := by simp [Dk.change,Dk.names,ons]
theorem chsL_snoc {xs : List CW} {cs : List Ch} (h : xs.length = cs.length) (x : CW) (c : Ch) : chsL (xs ++ [x]) (cs ++ [c]) = chsL xs cs ++ chL x c := by
 simp [chsL,List.zipWith_append h]
theorem chVs_snoc {xs : List CW} {cs : List Ch} (h : xs.length = cs.length) (x : CW) (c : Ch) : chVs (xs ++ [x]) (cs ++ [c]) = chVs xs cs ++ [chV x c] := by
 simp [chVs,List.zipWith_append h]
theorem perm_c {a b c d e : Asn} {R C : List Asn} : (a :: b :: c :: d :: e :: (R ++ C)).Perm ((c :: C) ++ (a :: b :: d :: e :: R)) := by
 refine (perm_pull [a,b] c _).trans ?_
 refine List.Perm.cons _ ?_
 exact (List.perm_append_comm (l₁ := a :: b :: d :: e :: R) (l₂ := C))
theorem _root_.Go.Vault.Dk.Ok.dies {d : Dk} (h : d.Ok) : d.dies.Ok := by
 unfold Dk.dies
 split
 ·exact ⟨h.room,h.files,h.firm,h.chs,h.rise,by have := h.armed; show (((d.armed - 1 : Nat)) : Int) ≤ _; omega,h.denied⟩
 ·exact h
theorem _root_.Go.Vault.Dk.Ok.denies {d : Dk} (h : d.Ok) : d.denies.Ok := ⟨h.room,h.files,h.firm,h.chs,h.rise,h.armed,by have := h.denied; show (((d.denied - 1 : Nat)) : Int) ≤ _; omega⟩
theorem _root_.Go.Vault.Dk.Ok.change {d : Dk} (h : d.Ok) {c : Ch} (hc : c.Ok d.files.length) : (d.change c).Ok :=
 ⟨h.room,h.files,h.firm,fun e he => by
  rcases List.mem_append.1 he with he | he
  ·exact h.chs e he
  ·rw [List.mem_singleton.1 he]; exact hc,h.rise,h.armed,h.denied⟩
theorem dies_eq (d : Dk) : ∃ a b,d.dies = { d with armed := a,dead := b } := by
 unfold Dk.dies
 split
 ·exact ⟨_,_,rfl⟩
 ·exact ⟨_,_,rfl⟩
theorem DW.Ok.dies {x : DW} {d : Dk} (h : x.Ok d) : x.Ok d.dies := by
 have h2 := h.dk.dies
 obtain ⟨a,b,e⟩ := dies_eq d
 rw [e] at h2 ⊢
 exact ⟨h2,h.fl,h.cl,h.keys,h.na,h.fi⟩
theorem DW.Ok.denies {x : DW} {d : Dk} (h : x.Ok d) : x.Ok d.denies := ⟨h.dk.denies,h.fl,h.cl,h.keys,h.na,h.fi⟩
theorem DW.Ok.change {x : DW} {d : Dk} (h : x.Ok d) {c : Ch} (hc : c.Ok d.files.length) (cw : CW) (ca : Option Addr) (cc : Nat) : ({ x with na := onA x.na c,ca := ca,cc := cc,cs := x.cs ++ [cw] } : DW).Ok (d.change c) :=
 ⟨h.dk.change hc,h.fl,by simp [Dk.change,h.cl],h.keys,by rw [Dk.change_names]; exact onA_perm h.dk.names h.na c,h.fi⟩
set_option maxHeartbeats 400000 in
theorem drenameC_spec (x : DW) (d : Dk) (hok : x.Ok d) (hl : d.chs.length ≤ 1073741824) (cw : CW) (n : ByteArray) (k : Nat) (hc : Ch.Ok d.files.length (.create n k)) (w : World) (st : Std w (dkL x d ++ chL cw (.create n k))) :
  Calls Tryz.prog 31 #[.pointer (some ⟨x.b,0,none⟩),chV cw (.create n k)] w fun e w' => e = .returned (.int .i64 (d.change (.create n k)).dies.code) ∧ ∃ x',x'.b = x.b ∧ x'.Ok (d.change (.create n k)).dies ∧ Hp (feet (dkL x d ++ chL cw (.create n k))) w w' (dkL x' (d.change (.create n k)).dies) := by
 apply drenameC.ok (some ⟨x.b,0,none⟩) (some ⟨cw.k,0,none⟩) (some ⟨cw.n,0,none⟩); unfold drenameC.vc
 have H := Hp.startL st
 generalize hB : feet (dkL x d ++ chL cw (.create n k)) = B at H ⊢
 simp only [dkL,List.cons_append] at H
 refine onP_mk rfl ?_
 ((repeat apply Exists.intro); first | refine ⟨H.ld (by exact ⟨rfl,rfl,rfl,rfl⟩) (by first | exact sclInt | exact sclBool | exact sclStr | exact sclMSI | exact sclSF | exact sclPF | exact sclSS | exact sclMIB | exact sclSC | exact sclC) (by repeat first | exact .head _ | refine .tail _ ?_) rfl,?_⟩)
 replace H := H.perm perm_c
 refine callV (createC_spec cw n k x.mn x.na w H.std1) ?_
 rintro e w1 ⟨rfl,H'⟩; replace H := H.useL H'; clear H'
 refine ⟨rfl,?_⟩
 replace H := H.perm perm_c.symm
 refine onP_mk rfl ?_
 ((repeat apply Exists.intro); first | refine ⟨H.ld (by exact ⟨rfl,rfl,rfl,rfl⟩) (by first | exact sclInt | exact sclBool | exact sclStr | exact sclMSI | exact sclSF | exact sclPF | exact sclSS | exact sclMIB | exact sclSC | exact sclC) (by repeat first | exact .head _ | refine .tail _ ?_) rfl,?_⟩)
 intro b w2 hn
 replace H := H.new (by exact ⟨rfl,rfl,rfl,rfl⟩) hn; clear hn
 refine Hp.app eltC (by omega) H.pull5 (by exact ⟨rfl,rfl,rfl,rfl⟩) (Blk.src undSC ((H.go (w' := w2.drew) (by exact ⟨rfl,rfl,rfl,rfl⟩)).blk (.head _)) rfl rfl) (by simp only [maxLen]; omega) (by omega) ?_
 clear H
 intro a' c' w3 H
 replace H := H.drop1
 refine onP_mk rfl ?_
 ((first | (apply Hp.st; (case H => first | exact H | exact H.pull1 | exact H.pull2 | exact H.pull3 | exact H.pull4 | exact H.pull5 | exact H.pull6 | exact H.pull7); (case e => exact ⟨rfl,rfl,rfl,rfl⟩); (case S => exact (by first | exact sclInt | exact sclBool | exact sclStr | exact sclMSI | exact sclSF | exact sclPF | exact sclSS | exact sclMIB | exact sclSC | exact sclC)); (case hv => exact rfl); (case h1 => exact rfl); (case ho => exact Nat.le_of_ble_eq_true rfl); (case hc => exact rfl))); clear H; intro _ H; (try simp only [over,List.set_cons_zero,List.set_cons_succ] at H))
 rename_i w4
 have hok' := hok.change hc cw a' c'
 have e1 : dkL { x with na := onA x.na (.create n k),ca := a',cc := c',cs := x.cs ++ [cw] } (d.change (.create n k)) =
   .blk x.b [.int .i64 (d.room : Int),.slice x.fa d.files.length x.fc,.map (some x.mn),.map (some x.mf),.slice a' (d.chs.length + 1) c',.int .i64 (d.armed : Int),.int .i64 (d.denied : Int),.bool d.dead] 71 ::
   .own 76 1 x.fa d.files.length x.fc (ptrs x.fs) :: .smap x.mn (onA x.na (.create n k)) :: .smap x.mf x.fi :: .own 125 1 a' (d.chs.length + 1) c' (chVs x.cs d.chs ++ [chV cw (.create n k)]) :: (dkR x d ++ chL cw (.create n k)) := by
  simp only [dkL,dkR,Dk.change,chsL_snoc hok.cl,chVs_snoc hok.cl,List.length_append,List.length_cons,List.length_nil,List.append_assoc]
 have H4 : Hp B w w4 (dkL { x with na := onA x.na (.create n k),ca := a',cc := c',cs := x.cs ++ [cw] } (d.change (.create n k))) := by
  rw [e1]
  ((try dsimp only [List.cons_append,List.nil_append]); (try dsimp only [List.cons_append,List.nil_append] at H); refine Hp.perm H ?_; (repeat (apply perm_step; (focus first | exact perm_p0 | exact perm_p1 | exact perm_p2 | exact perm_p3 | exact perm_p4 | exact perm_p5 | exact perm_p6 | exact perm_p7 | exact perm_p8 | exact perm_p9))); exact List.Perm.refl _)
 obtain ⟨y,hy,hyb⟩ : ∃ y : DW,y = { x with na := onA x.na (.create n k),ca := a',cc := c',cs := x.cs ++ [cw] } ∧ y.b = x.b := ⟨_,rfl,rfl⟩
 rw [← hy] at hok' H4
 have hd := done_spec y _ hok'.dk.armed w4 H4.std
 rw [hyb] at hd
 refine callV hd ?_
 rintro e w5 ⟨rfl,H'⟩
 exact ⟨_,rfl,rfl,y,hyb,hok'.dies,H4.useAll H'⟩
set_option maxHeartbeats 400000 in
theorem drenameR_spec (x : DW) (d : Dk) (hok : x.Ok d) (hl : d.chs.length ≤ 1073741824) (cw : CW) (n m : ByteArray) (k : Nat) (hc : Ch.Ok d.files.length (.rename n m k)) (w : World) (st : Std w (dkL x d ++ chL cw (.rename n m k))) :
  Calls Tryz.prog 31 #[.pointer (some ⟨x.b,0,none⟩),chV cw (.rename n m k)] w fun e w' => e = .returned (.int .i64 (d.change (.rename n m k)).dies.code) ∧ ∃ x',x'.b = x.b ∧ x'.Ok (d.change (.rename n m k)).dies ∧ Hp (feet (dkL x d ++ chL cw (.rename n m k))) w w' (dkL x' (d.change (.rename n m k)).dies) := by
 apply drenameR.ok (some ⟨x.b,0,none⟩) (some ⟨cw.n,0,none⟩) (some ⟨cw.k,0,none⟩) (some ⟨cw.t,0,none⟩); unfold drenameR.vc
 have H := Hp.startL st
 generalize hB : feet (dkL x d ++ chL cw (.rename n m k)) = B at H ⊢
 simp only [dkL,List.cons_append] at H
 refine onP_mk rfl ?_
 ((repeat apply Exists.intro); first | refine ⟨H.ld (by exact ⟨rfl,rfl,rfl,rfl⟩) (by first | exact sclInt | exact sclBool | exact sclStr | exact sclMSI | exact sclSF | exact sclPF | exact sclSS | exact sclMIB | exact sclSC | exact sclC) (by repeat first | exact .head _ | refine .tail _ ?_) rfl,?_⟩)
 replace H := H.perm perm_c
 refine callV (renameC_spec cw n m k x.mn x.na w H.std1) ?_
 rintro e w1 ⟨rfl,H'⟩; replace H := H.useL H'; clear H'
 refine ⟨rfl,?_⟩
 replace H := H.perm perm_c.symm
 refine onP_mk rfl ?_
 ((repeat apply Exists.intro); first | refine ⟨H.ld (by exact ⟨rfl,rfl,rfl,rfl⟩) (by first | exact sclInt | exact sclBool | exact sclStr | exact sclMSI | exact sclSF | exact sclPF | exact sclSS | exact sclMIB | exact sclSC | exact sclC) (by repeat first | exact .head _ | refine .tail _ ?_) rfl,?_⟩)
 intro b w2 hn
 replace H := H.new (by exact ⟨rfl,rfl,rfl,rfl⟩) hn; clear hn
 refine Hp.app eltC (by omega) H.pull5 (by exact ⟨rfl,rfl,rfl,rfl⟩) (Blk.src undSC ((H.go (w' := w2.drew) (by exact ⟨rfl,rfl,rfl,rfl⟩)).blk (.head _)) rfl rfl) (by simp only [maxLen]; omega) (by omega) ?_
 clear H
 intro a' c' w3 H
 replace H := H.drop1
 refine onP_mk rfl ?_
 ((first | (apply Hp.st; (case H => first | exact H | exact H.pull1 | exact H.pull2 | exact H.pull3 | exact H.pull4 | exact H.pull5 | exact H.pull6 | exact H.pull7); (case e => exact ⟨rfl,rfl,rfl,rfl⟩); (case S => exact (by first | exact sclInt | exact sclBool | exact sclStr | exact sclMSI | exact sclSF | exact sclPF | exact sclSS | exact sclMIB | exact sclSC | exact sclC)); (case hv => exact rfl); (case h1 => exact rfl); (case ho => exact Nat.le_of_ble_eq_true rfl); (case hc => exact rfl))); clear H; intro _ H; (try simp only [over,List.set_cons_zero,List.set_cons_succ] at H))
 rename_i w4
 have hok' := hok.change hc cw a' c'
 have e1 : dkL { x with na := onA x.na (.rename n m k),ca := a',cc := c',cs := x.cs ++ [cw] } (d.change (.rename n m k)) =
   .blk x.b [.int .i64 (d.room : Int),.slice x.fa d.files.length x.fc,.map (some x.mn),.map (some x.mf),.slice a' (d.chs.length + 1) c',.int .i64 (d.armed : Int),.int .i64 (d.denied : Int),.bool d.dead] 71 ::
   .own 76 1 x.fa d.files.length x.fc (ptrs x.fs) :: .smap x.mn (onA x.na (.rename n m k)) :: .smap x.mf x.fi :: .own 125 1 a' (d.chs.length + 1) c' (chVs x.cs d.chs ++ [chV cw (.rename n m k)]) :: (dkR x d ++ chL cw (.rename n m k)) := by
  simp only [dkL,dkR,Dk.change,chsL_snoc hok.cl,chVs_snoc hok.cl,List.length_append,List.length_cons,List.length_nil,List.append_assoc]
 have H4 : Hp B w w4 (dkL { x with na := onA x.na (.rename n m k),ca := a',cc := c',cs := x.cs ++ [cw] } (d.change (.rename n m k))) := by
  rw [e1]
  ((try dsimp only [List.cons_append,List.nil_append]); (try dsimp only [List.cons_append,List.nil_append] at H); refine Hp.perm H ?_; (repeat (apply perm_step; (focus first | exact perm_p0 | exact perm_p1 | exact perm_p2 | exact perm_p3 | exact perm_p4 | exact perm_p5 | exact perm_p6 | exact perm_p7 | exact perm_p8 | exact perm_p9))); exact List.Perm.refl _)
 obtain ⟨y,hy,hyb⟩ : ∃ y : DW,y = { x with na := onA x.na (.rename n m k),ca := a',cc := c',cs := x.cs ++ [cw] } ∧ y.b = x.b := ⟨_,rfl,rfl⟩
 rw [← hy] at hok' H4
 have hd := done_spec y _ hok'.dk.armed w4 H4.std
 rw [hyb] at hd
 refine callV hd ?_
 rintro e w5 ⟨rfl,H'⟩
 exact ⟨_,rfl,rfl,y,hyb,hok'.dies,H4.useAll H'⟩
end Go.Proofs.YtdeebigmpffnbaaGreat
namespace Go.Proofs.YtdeebigmpffnbaaGreat
open Go Go.Vc Go.Vault
theorem dkL_eq (x : DW) (d : Dk) : dkL x d =
 .blk x.b [.int .i64 (d.room : Int),.slice x.fa d.files.length x.fc,.map (some x.mn),.map (some x.mf),.slice x.ca d.chs.length x.cc,.int .i64 (d.armed : Int),.int .i64 (d.denied : Int),.bool d.dead] 71 ::
 .own 76 1 x.fa d.files.length x.fc (ptrs x.fs) :: .smap x.mn x.na :: .smap x.mf x.fi :: .own 125 1 x.ca d.chs.length x.cc (chVs x.cs d.chs) :: dkR x d := rfl
def DkPost (x : DW) (d : Dk) (w : World) (v : Value) (d' : Dk) (e : Ending) (w' : World) : Prop :=
 e = .returned v ∧ ∃ x',x'.b = x.b ∧ x'.Ok d' ∧ Hp (feet (dkL x d)) w w' (dkL x' d')
theorem Fl.none_ok : Fl.none.Ok := ⟨by simp [Fl.none],by simp [Fl.none],by simp [Fl.none],by simp [Fl.none],by simp [Fl.none]⟩
theorem filesL_snoc {xs : List FW} {fs : List Fl} (h : xs.length = fs.length) (x : FW) (f : Fl) : filesL (xs ++ [x]) (fs ++ [f]) = filesL xs fs ++ flL x f := by
 simp [filesL,List.zipWith_append h]
theorem ptrs_snoc (xs : List FW) (x : FW) : ptrs (xs ++ [x]) = ptrs xs ++ [.pointer (some ⟨x.b,0,none⟩)] := by simp [ptrs]
theorem dkR_file {x : DW} {d : Dk} (hok : x.Ok d) (f : FW) (g : Fl) (a : Option Addr) (c : Nat) : (dkR { x with fa := a,fc := c,fs := x.fs ++ [f] } { d with files := d.files ++ [g] }).Perm (flL f g ++ dkR x d) := by
 simp only [dkR,filesL_snoc hok.fl]
 rw [← List.append_assoc]
 exact List.perm_append_comm.append_right _
theorem DW.Ok.file {x : DW} {d : Dk} (h : x.Ok d) (f : FW) (g : Fl) (hg : g.Ok) (hk : (f.al.map (·.1)).Perm (g.since.map fun n : Nat => (n : Int))) (a : Option Addr) (c : Nat) : ({ x with fa := a,fc := c,fs := x.fs ++ [f] } : DW).Ok { d with files := d.files ++ [g] } := by
 have hl : d.files.length ≤ (d.files ++ [g]).length := by simp
 refine ⟨⟨h.dk.room,fun e he => ?_,fun p hp => (h.dk.firm p hp).mono hl,fun c hc => (h.dk.chs c hc).mono hl,h.dk.rise,h.dk.armed,h.dk.denied⟩,by simp [h.fl],h.cl,?_,h.na,h.fi⟩
 ·rcases List.mem_append.1 he with he | he
  ·exact h.dk.files e he
  ·rw [List.mem_singleton.1 he]; exact hg
 ·intro k f' g' h1 h2
  show (f'.al.map (·.1)).Perm (g'.since.map fun n : Nat => (n : Int))
  by_cases hkl : k < x.fs.length
  ·rw [List.getElem?_append_left hkl] at h1
   rw [List.getElem?_append_left (by rw [← h.fl]; exact hkl)] at h2
   exact h.keys k f' g' h1 h2
  ·have hk2 : k = x.fs.length := by
    have := (List.getElem?_eq_some_iff.1 h1).1
    simp at this; omega
   subst hk2
   rw [List.getElem?_append_right (by omega)] at h1
   rw [List.getElem?_append_right (by rw [h.fl]; omega)] at h2
   simp [h.fl] at h1 h2
   subst h1 h2
   exact hk
set_option maxHeartbeats 1000000 in
theorem create_spec (x : DW) (d : Dk) (hok : x.Ok d) (hl : d.chs.length ≤ 1073741824) (hf : d.files.length ≤ 1073741824) (n : ByteArray) (w : World) (st : Std w (dkL x d)) :
  Calls Tryz.prog 9 #[.pointer (some ⟨x.b,0,none⟩),.string n] w (DkPost x d w (.int .i64 (d.create n).2) (d.create n).1) := by
 apply create.ok; unfold create.vc DkPost
 have H := Hp.startL st
 generalize hB : feet (dkL x d) = B at H ⊢
 have hdk := dkL_eq x d
 simp only [dkL] at H
 (intro _ _ hn; replace H := H.new (by exact ⟨rfl,rfl,rfl,rfl⟩) hn; clear hn)
 rename_i b w1
 refine onP_mk rfl ?_
 ((repeat apply Exists.intro); first | refine ⟨H.ld (by exact ⟨rfl,rfl,rfl,rfl⟩) (by first | exact sclInt | exact sclBool | exact sclStr | exact sclMSI | exact sclSF | exact sclPF | exact sclSS | exact sclMIB | exact sclSC | exact sclC) (by repeat first | exact .head _ | refine .tail _ ?_) rfl,?_⟩)
 refine br_mk (fun h => ?_) (fun h => ?_)
 ·have e1 : d.create n = (d,93) := by simp [Dk.create,h]
  rw [e1]
  exact ⟨rfl,x,rfl,hok,by rw [hdk]; exact H.drop⟩
 ·((repeat apply Exists.intro); first | refine ⟨H.ld (by exact ⟨rfl,rfl,rfl,rfl⟩) (by first | exact sclInt | exact sclBool | exact sclStr | exact sclMSI | exact sclSF | exact sclPF | exact sclSS | exact sclMIB | exact sclSC | exact sclC) (by repeat first | exact .head _ | refine .tail _ ?_) rfl,?_⟩)
  refine callV (right_spec n _) ?_
  rintro e w2 ⟨rfl,H'⟩; replace H := H.ext0 H'; clear H'
  refine ⟨_,rfl,?_⟩
  refine br_not (fun h2 => ?_) (fun h2 => ?_)
  ·have e1 : d.create n = (d,92) := by simp [Dk.create,h,h2]
   rw [e1]
   exact ⟨rfl,x,rfl,hok,by rw [hdk]; exact H.drop⟩
  have e1 : d.create n = ((Dk.change { d with files := d.files ++ [Fl.none] } (.create n d.files.length)).dies,(Dk.change { d with files := d.files ++ [Fl.none] } (.create n d.files.length)).dies.code) := by simp [Dk.create,h,h2]
  rw [e1]
  refine onP_mk rfl ?_
  ((repeat apply Exists.intro); first | refine ⟨H.ld (by exact ⟨rfl,rfl,rfl,rfl⟩) (by first | exact sclInt | exact sclBool | exact sclStr | exact sclMSI | exact sclSF | exact sclPF | exact sclSS | exact sclMIB | exact sclSC | exact sclC) (by repeat first | exact .head _ | refine .tail _ ?_) rfl,?_⟩)
  intro b3 w3 hn; replace H := H.new (by exact ⟨rfl,rfl,rfl,rfl⟩) hn; clear hn
  ((first | (apply Hp.st; (case H => first | exact H | exact H.pull1 | exact H.pull2 | exact H.pull3 | exact H.pull4 | exact H.pull5 | exact H.pull6 | exact H.pull7); (case e => exact ⟨rfl,rfl,rfl,rfl⟩); (case S => exact (by first | exact sclInt | exact sclBool | exact sclStr | exact sclMSI | exact sclSF | exact sclPF | exact sclSS | exact sclMIB | exact sclSC | exact sclC)); (case hv => exact rfl); (case h1 => exact rfl); (case ho => exact Nat.le_of_ble_eq_true rfl); (case hc => exact rfl))); clear H; intro _ H; (try simp only [over,List.set_cons_zero,List.set_cons_succ] at H))
  refine onP_mk rfl ?_
  ((repeat apply Exists.intro); first | refine ⟨H.ld (by exact ⟨rfl,rfl,rfl,rfl⟩) (by first | exact sclInt | exact sclBool | exact sclStr | exact sclMSI | exact sclSF | exact sclPF | exact sclSS | exact sclMIB | exact sclSC | exact sclC) (by repeat first | exact .head _ | refine .tail _ ?_) rfl,?_⟩)
  intro b4 w5 hn; replace H := H.newI (by exact ⟨rfl,rfl,rfl,rfl⟩) .i64 hn; clear hn
  intro b5 w6 hn; replace H := H.new (by exact ⟨rfl,rfl,rfl,rfl⟩) hn; clear hn
  intro b6 w7 hn; replace H := H.new (by exact ⟨rfl,rfl,rfl,rfl⟩) hn; clear hn
  refine Hp.app eltPF (by omega) H.pull6 (by exact ⟨rfl,rfl,rfl,rfl⟩) (Blk.src undSPF ((H.go (w' := w7.drew) (by exact ⟨rfl,rfl,rfl,rfl⟩)).blk (.head _)) rfl rfl) (by simp only [maxLen]; omega) (by omega) ?_
  clear H
  intro a' c' w8 H
  replace H := H.drop1
  refine onP_mk rfl ?_
  ((first | (apply Hp.st; (case H => first | exact H | exact H.pull1 | exact H.pull2 | exact H.pull3 | exact H.pull4 | exact H.pull5 | exact H.pull6 | exact H.pull7); (case e => exact ⟨rfl,rfl,rfl,rfl⟩); (case S => exact (by first | exact sclInt | exact sclBool | exact sclStr | exact sclMSI | exact sclSF | exact sclPF | exact sclSS | exact sclMIB | exact sclSC | exact sclC)); (case hv => exact rfl); (case h1 => exact rfl); (case ho => exact Nat.le_of_ble_eq_true rfl); (case hc => exact rfl))); clear H; intro _ H; (try simp only [over,List.set_cons_zero,List.set_cons_succ] at H))
  rename_i w9
  replace H := (H.nilS 85 512).nilS 85 512
  obtain ⟨f,hf0⟩ : ∃ f : FW,f = ⟨b5,none,0,none,0,b4,[]⟩ := ⟨_,rfl⟩
  obtain ⟨y,hy,hyb⟩ : ∃ y : DW,y = { x with fa := a',fc := c',fs := x.fs ++ [f] } ∧ y.b = x.b := ⟨_,rfl,rfl⟩
  have hok' := hok.file f Fl.none Fl.none_ok (by rw [hf0]; exact .refl _) a' c'
  have e2 : (dkL y { d with files := d.files ++ [Fl.none] }).Perm (.blk x.b [.int .i64 (d.room : Int),.slice a' (d.files.length + 1) c',.map (some x.mn),.map (some x.mf),.slice x.ca d.chs.length x.cc,.int .i64 (d.armed : Int),.int .i64 (d.denied : Int),.bool d.dead] 71 ::
    .own 76 1 a' (d.files.length + 1) c' (ptrs x.fs ++ [.pointer (some ⟨b5,0,none⟩)]) :: .smap x.mn x.na :: .smap x.mf x.fi :: .own 125 1 x.ca d.chs.length x.cc (chVs x.cs d.chs) ::
    .blk b5 [.slice none 0 0,.slice none 0 0,.map (some b4)] 80 :: .own 85 512 none 0 0 [] :: .own 85 512 none 0 0 [] :: .imap b4 .i64 [] :: dkR x d) := by
   have := dkR_file hok f Fl.none a' c'
   rw [hf0] at this
   subst hy
   rw [hf0]
   simp only [dkL,List.length_append,List.length_cons,List.length_nil,ptrs_snoc]
   exact ((((this.cons _).cons _).cons _).cons _).cons _
  rw [← hy] at hok'
  have H4 : Hp B w w9 (dkL y { d with files := d.files ++ [Fl.none] } ++ chL ⟨b,b3,0⟩ (.create n d.files.length)) := by
   refine Hp.perm ?_ (e2.append_right _).symm
   have e3 : ∀ R : List Asn,(Asn.blk b3 [.int .i64 (d.files.length : Int)] 3 :: .blk b [.string n] 9 :: R).Perm (R ++ chL ⟨b,b3,0⟩ (.create n d.files.length)) := fun R => List.perm_append_comm (l₁ := [Asn.blk b3 [.int .i64 (d.files.length : Int)] 3,.blk b [.string n] 9]) (l₂ := R)
   refine Hp.perm ?_ (e3 _)
   ((try dsimp only [List.cons_append,List.nil_append]); (try dsimp only [List.cons_append,List.nil_append] at H); refine Hp.perm H ?_; (repeat (apply perm_step; (focus first | exact perm_p0 | exact perm_p1 | exact perm_p2 | exact perm_p3 | exact perm_p4 | exact perm_p5 | exact perm_p6 | exact perm_p7 | exact perm_p8 | exact perm_p9))); exact List.Perm.refl _)
  have hr : n.size ≤ 60 := by
   have : Vault.right n = true := h2
   simp only [Vault.right,Bool.and_eq_true,decide_eq_true_eq] at this
   exact this.2
  have hd := drenameC_spec y _ hok' hl ⟨b,b3,0⟩ n d.files.length ⟨by simp,hr⟩ w9 H4.std
  rw [hyb] at hd
  refine callV hd ?_
  rintro e w10 ⟨rfl,y',h3,h4,H'⟩
  exact ⟨_,rfl,rfl,y',h3,h4,H4.useAll H'⟩
set_option maxHeartbeats 1000000 in
theorem rename_spec (x : DW) (d : Dk) (hok : x.Ok d) (hl : d.chs.length ≤ 1073741824) (n m : ByteArray) (w : World) (st : Std w (dkL x d)) :
  Calls Tryz.prog 110 #[.pointer (some ⟨x.b,0,none⟩),.string n,.string m] w (DkPost x d w (.int .i64 (d.rename n m).2) (d.rename n m).1) := by
 apply rename.ok; unfold rename.vc DkPost
 have H := Hp.startL st
 generalize hB : feet (dkL x d) = B at H ⊢
 have hdk := dkL_eq x d
 simp only [dkL] at H
 intro b w1 hn; replace H := H.new (by exact ⟨rfl,rfl,rfl,rfl⟩) hn; clear hn
 intro b1 w2 hn; replace H := H.new (by exact ⟨rfl,rfl,rfl,rfl⟩) hn; clear hn
 replace H := H.drew
 refine onP_mk rfl ?_
 ((repeat apply Exists.intro); first | refine ⟨H.ld (by exact ⟨rfl,rfl,rfl,rfl⟩) (by first | exact sclInt | exact sclBool | exact sclStr | exact sclMSI | exact sclSF | exact sclPF | exact sclSS | exact sclMIB | exact sclSC | exact sclC) (by repeat first | exact .head _ | refine .tail _ ?_) rfl,?_⟩)
 ((repeat apply Exists.intro); first | refine ⟨H.ld (by exact ⟨rfl,rfl,rfl,rfl⟩) (by first | exact sclInt | exact sclBool | exact sclStr | exact sclMSI | exact sclSF | exact sclPF | exact sclSS | exact sclMIB | exact sclSC | exact sclC) (by repeat first | exact .head _ | refine .tail _ ?_) rfl,?_⟩)
 have hg := nget_perm hok.dk.names hok.na n
 have hf : nget d.names n = d.find n := rfl
 rw [hf] at hg
 obtain ⟨k,o,hk,ho,hv⟩ : ∃ (k : Nat) (o : Bool),(aget x.na n).getD (.int .i64 0) = .int .i64 (k : Int) ∧ (aget x.na n).isSome = o ∧ (o = true ∧ d.find n = some k ∨ o = false ∧ d.find n = none) := by
  cases hk : d.find n with
  | none => exact ⟨0,false,by rw [hg,hk]; rfl,by rw [hg,hk]; rfl,.inr ⟨rfl,rfl⟩⟩
  | some k => exact ⟨k,true,by rw [hg,hk]; rfl,by rw [hg,hk]; rfl,.inl ⟨rfl,rfl⟩⟩
 refine ⟨(k : Int),o,H.lkSok mapSI (by exact ⟨rfl,rfl,rfl,rfl⟩) (by repeat first | exact .head _ | refine .tail _ ?_) hk ho,?_⟩
 intro b3 w3 hn; replace H := H.new (by exact ⟨rfl,rfl,rfl,rfl⟩) hn; clear hn
 refine ⟨H.lkSok mapSI (by exact ⟨rfl,rfl,rfl,rfl⟩) (by repeat first | exact .head _ | refine .tail _ ?_) hk ho,H.ld (by exact ⟨rfl,rfl,rfl,rfl⟩) sclStr (by repeat first | exact .head _ | refine .tail _ ?_) rfl,H.ld (by exact ⟨rfl,rfl,rfl,rfl⟩) sclMSI (by repeat first | exact .head _ | refine .tail _ ?_) rfl,?_⟩
 ((first | (apply Hp.st; (case H => first | exact H | exact H.pull1 | exact H.pull2 | exact H.pull3 | exact H.pull4 | exact H.pull5 | exact H.pull6 | exact H.pull7); (case e => exact ⟨rfl,rfl,rfl,rfl⟩); (case S => exact (by first | exact sclInt | exact sclBool | exact sclStr | exact sclMSI | exact sclSF | exact sclPF | exact sclSS | exact sclMIB | exact sclSC | exact sclC)); (case hv => exact rfl); (case h1 => exact rfl); (case ho => exact Nat.le_of_ble_eq_true rfl); (case hc => exact rfl))); clear H; intro _ H; (try simp only [over,List.set_cons_zero,List.set_cons_succ] at H))
 refine onP_mk rfl ?_
 ((repeat apply Exists.intro); first | refine ⟨H.ld (by exact ⟨rfl,rfl,rfl,rfl⟩) (by first | exact sclInt | exact sclBool | exact sclStr | exact sclMSI | exact sclSF | exact sclPF | exact sclSS | exact sclMIB | exact sclSC | exact sclC) (by repeat first | exact .head _ | refine .tail _ ?_) rfl,?_⟩)
 refine br_mk (fun h => ?_) (fun h => ?_)
 ·have e1 : d.rename n m = (d,93) := by simp [Dk.rename,h]
  rw [e1]
  exact ⟨rfl,x,rfl,hok,by rw [hdk]; exact H.drop.drop.drop⟩
 rcases hv with ⟨rfl,hfd⟩ | ⟨rfl,hfd⟩
 ·refine br_not (fun h => by cases h) (fun _ => ?_)
  ((repeat apply Exists.intro); first | refine ⟨H.ld (by exact ⟨rfl,rfl,rfl,rfl⟩) (by first | exact sclInt | exact sclBool | exact sclStr | exact sclMSI | exact sclSF | exact sclPF | exact sclSS | exact sclMIB | exact sclSC | exact sclC) (by repeat first | exact .head _ | refine .tail _ ?_) rfl,?_⟩)
  refine callV (right_spec m _) ?_
  rintro e w4 ⟨rfl,H'⟩; replace H := H.ext0 H'; clear H'
  refine ⟨_,rfl,?_⟩
  refine br_not (fun h2 => ?_) (fun h2 => ?_)
  ·have e1 : d.rename n m = (d,92) := by simp [Dk.rename,h,hfd,h2]
   rw [e1]
   exact ⟨rfl,x,rfl,hok,by rw [hdk]; exact H.drop.drop.drop⟩
  ((repeat apply Exists.intro); first | refine ⟨H.ld (by exact ⟨rfl,rfl,rfl,rfl⟩) (by first | exact sclInt | exact sclBool | exact sclStr | exact sclMSI | exact sclSF | exact sclPF | exact sclSS | exact sclMIB | exact sclSC | exact sclC) (by repeat first | exact .head _ | refine .tail _ ?_) rfl,?_⟩)
  ((repeat apply Exists.intro); first | refine ⟨H.ld (by exact ⟨rfl,rfl,rfl,rfl⟩) (by first | exact sclInt | exact sclBool | exact sclStr | exact sclMSI | exact sclSF | exact sclPF | exact sclSS | exact sclMIB | exact sclSC | exact sclC) (by repeat first | exact .head _ | refine .tail _ ?_) rfl,?_⟩)
  refine br_dec (fun h3 => ?_) (fun h3 => ?_)
  ·have e1 : d.rename n m = (d,0) := by subst h3; simp [Dk.rename,h,hfd,h2]
   rw [e1]
   exact ⟨rfl,x,rfl,hok,by rw [hdk]; exact H.drop.drop.drop⟩
  have e1 : d.rename n m = ((d.change (.rename n m k)).dies,(d.change (.rename n m k)).dies.code) := by simp [Dk.rename,h,hfd,h2,h3]
  rw [e1]
  have H4 : Hp B w w4 (dkL x d ++ chL ⟨b,b3,b1⟩ (.rename n m k)) := by
   have e3 : ∀ R : List Asn,(Asn.blk b [.string n] 9 :: .blk b3 [.int .i64 (k : Int)] 3 :: .blk b1 [.string m] 9 :: R).Perm (R ++ chL ⟨b,b3,b1⟩ (.rename n m k)) := fun R => List.perm_append_comm (l₁ := [Asn.blk b [.string n] 9,.blk b3 [.int .i64 (k : Int)] 3,.blk b1 [.string m] 9]) (l₂ := R)
   refine Hp.perm ?_ (e3 _)
   rw [hdk]
   ((try dsimp only [List.cons_append,List.nil_append]); (try dsimp only [List.cons_append,List.nil_append] at H); refine Hp.perm H ?_; (repeat (apply perm_step; (focus first | exact perm_p0 | exact perm_p1 | exact perm_p2 | exact perm_p3 | exact perm_p4 | exact perm_p5 | exact perm_p6 | exact perm_p7 | exact perm_p8 | exact perm_p9))); exact List.Perm.refl _)
  have hr : m.size ≤ 60 := by
   have : Vault.right m = true := h2
   simp only [Vault.right,Bool.and_eq_true,decide_eq_true_eq] at this
   exact this.2
  have hd := drenameR_spec x d hok hl ⟨b,b3,b1⟩ n m k ⟨hok.dk.find hfd,hr⟩ w4 H4.std
  refine callV hd ?_
  rintro e w10 ⟨rfl,y',h3,h4,H'⟩
  exact ⟨_,rfl,rfl,y',h3,h4,H4.useAll H'⟩
 ·refine br_not (fun _ => ?_) (fun h => by cases h)
  have e1 : d.rename n m = (d,90) := by simp [Dk.rename,h,hfd]
  rw [e1]
  exact ⟨rfl,x,rfl,hok,by rw [hdk]; exact H.drop.drop.drop⟩
set_option maxHeartbeats 1000000 in
theorem syncNames_spec (x : DW) (d : Dk) (hok : x.Ok d) (w : World) (st : Std w (dkL x d)) :
  Calls Tryz.prog 52 #[.pointer (some ⟨x.b,0,none⟩)] w (DkPost x d w (.int .i64 d.syncNames.2) d.syncNames.1) := by
 apply syncNames.ok; unfold syncNames.vc DkPost
 have H := Hp.startL st
 generalize hB : feet (dkL x d) = B at H ⊢
 have hdk := dkL_eq x d
 simp only [dkL] at H
 refine onP_mk rfl ?_
 ((repeat apply Exists.intro); first | refine ⟨H.ld (by exact ⟨rfl,rfl,rfl,rfl⟩) (by first | exact sclInt | exact sclBool | exact sclStr | exact sclMSI | exact sclSF | exact sclPF | exact sclSS | exact sclMIB | exact sclSC | exact sclC) (by repeat first | exact .head _ | refine .tail _ ?_) rfl,?_⟩)
 refine br_mk (fun h => ?_) (fun h => ?_)
 ·have e1 : d.syncNames = (d,93) := by simp [Dk.syncNames,h]
  rw [e1]
  exact ⟨rfl,x,rfl,hok,by rw [hdk]; exact H⟩
 rw [← hdk] at H
 refine callV (dies_spec x d hok.dk.armed w H.std) ?_
 rintro e w1 ⟨rfl,H'⟩; replace H := H.useAll H'; clear H'
 refine ⟨_,rfl,?_⟩
 have hok' := hok.dies
 refine br_mk (fun h2 => ?_) (fun h2 => ?_)
 ·have e1 : d.syncNames = (d.dies,93) := by simp [Dk.syncNames,h,h2]
  rw [e1]
  exact ⟨rfl,x,rfl,hok',H⟩
 have e1 : d.syncNames = ({ d.dies with firm := d.names,chs := [] },0) := by simp [Dk.syncNames,h,h2]
 rw [e1]
 have hnm : d.dies.names = d.names := by
  obtain ⟨a,b,e⟩ := dies_eq d
  rw [e]; rfl
 rw [← hnm]
 generalize d.dies = q at H hok' ⊢
 simp only [dkL] at H
 refine onP_mk rfl ?_
 ((repeat apply Exists.intro); first | refine ⟨H.ld (by exact ⟨rfl,rfl,rfl,rfl⟩) (by first | exact sclInt | exact sclBool | exact sclStr | exact sclMSI | exact sclSF | exact sclPF | exact sclSS | exact sclMIB | exact sclSC | exact sclC) (by repeat first | exact .head _ | refine .tail _ ?_) rfl,?_⟩)
 refine callV (mclone_spec x.mn x.na w1 (H.ok (.smap x.mn x.na) (by repeat first | exact .head _ | refine .tail _ ?_))) ?_
 rintro e w2 ⟨b',rfl,H'⟩; replace H := H.ext H'; clear H'
 refine ⟨_,rfl,?_⟩
 simp only [List.cons_append,List.nil_append] at H
 refine onP_mk rfl ?_
 ((first | (apply Hp.st; (case H => first | exact H | exact H.pull1 | exact H.pull2 | exact H.pull3 | exact H.pull4 | exact H.pull5 | exact H.pull6 | exact H.pull7); (case e => exact ⟨rfl,rfl,rfl,rfl⟩); (case S => exact (by first | exact sclInt | exact sclBool | exact sclStr | exact sclMSI | exact sclSF | exact sclPF | exact sclSS | exact sclMIB | exact sclSC | exact sclC)); (case hv => exact rfl); (case h1 => exact rfl); (case ho => exact Nat.le_of_ble_eq_true rfl); (case hc => exact rfl))); clear H; intro _ H; (try simp only [over,List.set_cons_zero,List.set_cons_succ] at H))
 refine onP_mk rfl ?_
 ((first | (apply Hp.st; (case H => first | exact H | exact H.pull1 | exact H.pull2 | exact H.pull3 | exact H.pull4 | exact H.pull5 | exact H.pull6 | exact H.pull7); (case e => exact ⟨rfl,rfl,rfl,rfl⟩); (case S => exact (by first | exact sclInt | exact sclBool | exact sclStr | exact sclMSI | exact sclSF | exact sclPF | exact sclSS | exact sclMIB | exact sclSC | exact sclC)); (case hv => exact rfl); (case h1 => exact rfl); (case ho => exact Nat.le_of_ble_eq_true rfl); (case hc => exact rfl))); clear H; intro _ H; (try simp only [over,List.set_cons_zero,List.set_cons_succ] at H))
 rename_i w5
 refine ⟨rfl,{ x with mf := b',fi := x.na,ca := none,cc := 0,cs := [] },rfl,⟨⟨hok'.dk.room,hok'.dk.files,hok'.dk.nms,by simp,hok'.dk.names,hok'.dk.armed,hok'.dk.denied⟩,hok'.fl,rfl,hok'.keys,hok'.na,hok'.na⟩,?_⟩
 replace H := H.nilS 125 1
 simp only [dkL,dkR,chVs,chsL,List.zipWith_nil_left,List.flatten_nil,List.append_nil,List.length_nil]
 have H3 : Hp B w w5 ((.blk x.b [.int .i64 (q.room : Int),.slice x.fa q.files.length x.fc,.map (some x.mn),.map (some b'),.slice none 0 0,.int .i64 (q.armed : Int),.int .i64 (q.denied : Int),.bool q.dead] 71 ::
  .own 76 1 x.fa q.files.length x.fc (ptrs x.fs) :: .smap x.mn x.na :: .smap b' x.na :: .own 125 1 none 0 0 [] :: filesL x.fs q.files) ++ ([.smap x.mf x.fi,.own 125 1 x.ca q.chs.length x.cc (chVs x.cs q.chs)] ++ chsL x.cs q.chs)) := by
  have e4 : ∀ (A F C : List Asn),(A ++ (F ++ C)).Perm (F ++ (A ++ C)) := fun A F C => by
   rw [← List.append_assoc,← List.append_assoc]
   exact List.perm_append_comm.append_right _
  rw [List.cons_append,List.cons_append,List.cons_append,List.cons_append,List.cons_append]
  refine Hp.perm (L := Asn.blk x.b _ 71 :: .own 76 1 x.fa q.files.length x.fc (ptrs x.fs) :: .smap x.mn x.na :: .smap b' x.na :: .own 125 1 none 0 0 [] :: ([.smap x.mf x.fi,.own 125 1 x.ca q.chs.length x.cc (chVs x.cs q.chs)] ++ (filesL x.fs q.files ++ chsL x.cs q.chs))) ?_ (List.Perm.cons _ (List.Perm.cons _ (List.Perm.cons _ (List.Perm.cons _ (List.Perm.cons _ (e4 _ _ _))))))
  ((try dsimp only [List.cons_append,List.nil_append]); (try dsimp only [List.cons_append,List.nil_append] at H); refine Hp.perm H ?_; (repeat (apply perm_step; (focus first | exact perm_p0 | exact perm_p1 | exact perm_p2 | exact perm_p3 | exact perm_p4 | exact perm_p5 | exact perm_p6 | exact perm_p7 | exact perm_p8 | exact perm_p9))); exact List.Perm.refl _)
 exact H3.takeL
end Go.Proofs.YtdeebigmpffnbaaGreat
namespace Go.Vc
open Go
section
variable {K : Type} [DecidableEq K] {kt : KeyT K}
theorem findIdx_at {es : Array MapEntry} {j : Nat} {e : MapEntry} (hn : (es.toList.map (·.born)).Nodup) (hj : es[j]? = some e) : es.findIdx? (fun x => (x.born : Int) == (e.born : Int)) = some j := by
 rw [Array.findIdx?_eq_some_iff_getElem]
 obtain ⟨hlt,he⟩ := Array.getElem?_eq_some_iff.1 hj
 refine ⟨hlt,by simp [he],fun i hi => ?_⟩
 have hne : es[i].born ≠ e.born := by
  intro h
  have h1 : (es.toList.map (·.born))[i]'(by simp; omega) = (es.toList.map (·.born))[j]'(by simp; omega) := by simp [h,he]
  have h2 := List.pairwise_iff_getElem.1 hn i j (by simp; omega) (by simp; omega) hi
  exact h2 h1
 simp; omega
theorem run_asInt {P : Program} (k : IntKind) (i : Int) (w : World) : (asInt (.int k i)).run P w = .ok i w := rfl
theorem men_map {P : Program} {t kT eT : TypeId} {z : Value} (T : MapT P kt t kT eT z) {w : World} {b : Nat} {al : List (K × Value)} (h : MapAt kt w b al) (k : K) (v : Value) :
  ∃ (u : Value) (i : Int) (w1 w2 : World),MEn P t w (.map (some b)) (kt.enc k) (.tuple #[u,.int .i64 i]) w1 ∧ ESt P t w1 (.map (some b)) (.int .i64 i) v w2 ∧ MapAt kt w2 b (aput al k v) ∧ Chg [b] w w2 := by
 obtain ⟨es,clock,h1,h2,h3,h4⟩ := h
 have hck : ∀ e,(Instr.checkKey e 10000 kT (kt.enc k)).run P w = .ok () w := fun e => kt.plain P kT e w T.key k
 have hlt := (Array.getElem?_eq_some_iff.1 h1).1
 rcases find_now 0 k h2 with ⟨g1,g2⟩ | ⟨j,u,e,g1,g2,g3,g4,g5,g6,-⟩
 ·obtain ⟨es1,hes1⟩ : ∃ es1,es1 = es.push { key := kt.enc k,val := z,born := clock } := ⟨_,rfl⟩
  have hb1 : (setB w b (.map es1 (clock + 1))).heap[b]? = some (.map es1 (clock + 1)) := setB_at hlt
  have hn1 : (es1.toList.map (·.born)).Nodup := by
   rw [hes1,Array.toList_push,List.map_append,List.nodup_append]
   refine ⟨h3,by simp,?_⟩
   intro a ha c hc
   simp at hc; subst hc
   obtain ⟨e,he,rfl⟩ := List.mem_map.1 ha
   exact Nat.ne_of_lt (h4 e he)
  have hat : es1[es.size]? = some { key := kt.enc k,val := z,born := clock } := by rw [hes1]; simp
  have hfi := findIdx_at hn1 hat
  have hmod : es1.modify es.size (fun e => { e with val := v }) = es.push { key := kt.enc k,val := v,born := clock } := by
   apply Array.ext_getElem?
   intro i
   rw [Array.getElem?_modify,hes1,Array.getElem?_push,Array.getElem?_push]
   by_cases hi : i = es.size
   ·subst hi; simp
   ·rw [if_neg (fun h => hi h.symm),if_neg hi,if_neg hi]
  refine ⟨z,clock,setB w b (.map es1 (clock + 1)),setB (setB w b (.map es1 (clock + 1))) b (.map (es.push { key := kt.enc k,val := v,born := clock }) (clock + 1)),?_,?_,?_,?_⟩
  ·simp only [MEn,Instr.mapEntry,Sem.run_bind,run_und T.und,Result.andThen_ok,run_getObj_map h1,hck,run_findKey T.key g2 (al := al),run_zero T.zero,run_setObj_map h1,Sem.run_pure,← hes1]
   rfl
  ·simp only [ESt,Instr.entryStore,Sem.run_bind,Sem.run_pure,Result.andThen_ok,run_getObj_map hb1,run_asInt]
   rw [show es1.findIdx? (fun e => (e.born : Int) == (clock : Int)) = some es.size from hfi]
   simp only [run_setObj_map hb1,hmod]
  ·rw [setB_setB]
   refine ⟨_,_,setB_at hlt,?_,?_,?_⟩
   ·rw [Array.toList_push]; exact reads_push h2 g1 v clock
   ·rw [Array.toList_push,List.map_append,List.nodup_append]
    refine ⟨h3,by simp,?_⟩
    intro a ha c hc
    simp at hc; subst hc
    obtain ⟨e,he,rfl⟩ := List.mem_map.1 ha
    exact Nat.ne_of_lt (h4 e he)
   ·intro e he
    rw [Array.toList_push] at he
    rcases List.mem_append.1 he with he | he
    ·exact Nat.lt_succ_of_lt (h4 e he)
    ·simp at he; subst he; exact Nat.lt_succ_self _
  ·rw [setB_setB]; exact setB_chg _ _ _
 ·have hj : es[j]? = some e := by simpa using g3
  rw [Nat.zero_add] at g2
  obtain ⟨es1,hes1⟩ : ∃ es1,es1 = es.modify j fun e => { e with key := kt.enc k } := ⟨_,rfl⟩
  have hb1 : (setB w b (.map es1 clock)).heap[b]? = some (.map es1 clock) := setB_at hlt
  have hborn : es1.toList.map (·.born) = es.toList.map (·.born) := by
   rw [hes1,Array.toList_modify]
   apply List.ext_getElem?
   intro i
   simp only [List.getElem?_map,List.getElem?_modify]
   cases es.toList[i]? with
   | none => rfl
   | some e => simp only [Option.map_some,Functor.map]; split <;> rfl
  have hn1 : (es1.toList.map (·.born)).Nodup := by rw [hborn]; exact h3
  have hat : es1[j]? = some { e with key := kt.enc k } := by rw [hes1,Array.getElem?_modify,if_pos rfl,hj]; rfl
  have hfi := findIdx_at hn1 hat
  have hmod : es1.modify j (fun e => { e with val := v }) = es.modify j fun e => { e with key := kt.enc k,val := v } := by
   apply Array.ext_getElem?
   intro i
   rw [Array.getElem?_modify,hes1,Array.getElem?_modify,Array.getElem?_modify]
   split
   ·cases es[i]? <;> rfl
   ·rfl
  have hstay : (Instr.keyThatStays (kt.enc k) (kt.enc k)).run P w = .ok (kt.enc k) w := by
   simp [Instr.keyThatStays,kt.bits]
  refine ⟨u,e.born,setB w b (.map es1 clock),setB (setB w b (.map es1 clock)) b (.map (es.modify j fun e => { e with key := kt.enc k,val := v }) clock),?_,?_,?_,?_⟩
  ·simp only [MEn,Instr.mapEntry,Sem.run_bind,run_und T.und,Result.andThen_ok,run_getObj_map h1,hck,run_findKey T.key g2 (al := al),hj,Option.map_some,Option.getD_some,g4,hstay,run_setObj_map h1,Sem.run_pure,← hes1]
   rfl
  ·simp only [ESt,Instr.entryStore,Sem.run_bind,Sem.run_pure,Result.andThen_ok,run_getObj_map hb1,run_asInt]
   rw [show es1.findIdx? (fun x => (x.born : Int) == (e.born : Int)) = some j from hfi]
   simp only [run_setObj_map hb1,hmod]
  ·rw [setB_setB]
   refine ⟨_,_,setB_at hlt,?_,?_,?_⟩
   ·rw [Array.toList_modify]; exact g6 v
   ·rw [Array.toList_modify,born_modify]; exact h3
   ·intro e' he'
    have : e'.born ∈ (es.modify j fun e => { e with key := kt.enc k,val := v }).toList.map (·.born) := List.mem_map.2 ⟨e',he',rfl⟩
    rw [Array.toList_modify,born_modify] at this
    obtain ⟨e2,he2,e3⟩ := List.mem_map.1 this
    rw [← e3]; exact h4 e2 he2
  ·rw [setB_setB]; exact setB_chg _ _ _
theorem clr_map {P : Program} {t kT eT : TypeId} {z : Value} (T : MapT P kt t kT eT z) {ts : Array TypeId} (hts : ts[0]? = some t) {ty : TypeId} {w : World} {b : Nat} {al : List (K × Value)} (h : MapAt kt w b al) :
  ∃ w1,Clr P ts ty w (.map (some b)) w1 ∧ MapAt kt w1 b [] ∧ Chg [b] w w1 := by
 obtain ⟨es,clock,h1,h2,h3,h4⟩ := h
 have hlt := (Array.getElem?_eq_some_iff.1 h1).1
 refine ⟨setB w b (.map #[] clock),?_,⟨#[],clock,setB_at hlt,rfl,by simp,by simp⟩,setB_chg _ _ _⟩
 simp only [Clr,Builtin.clear_,hts,List.getElem?_toArray,List.getElem?_cons_zero,Sem.run_bind,run_und T.und,Result.andThen_ok,run_getObj_map h1,run_setObj_map h1,Sem.run_pure]
end
section
variable {P : Program} {B : List Nat} {w0 w w' : World} {L : List Asn} {t kT eT : TypeId} {z v : Value} {b : Nat}
theorem Hp.menI {k : IntKind} {al : List (Int × Value)} (T : MapT P (intKey k) t kT eT z) (H : Hp B w0 w (.imap b k al :: L)) (e : Eqw w w') {x : Int} {G : World → Prop}
  (kk : ∀ w1,Hp B w0 w1 (.imap b k (aput al x v) :: L) → G w1) : ∃ (u : Value) (i : Int) (w1 : World),MEn P t w' (.map (some b)) (.int k x) (.tuple #[u,.int .i64 i]) w1 ∧ ∃ w2,ESt P t w1 (.map (some b)) (.int .i64 i) v w2 ∧ G w2 := by
 obtain ⟨u,i,w1,w2,h1,h2,h3,h4⟩ := men_map T ((H.go e).ok _ (.head _)) x v
 exact ⟨u,i,w1,h1,w2,h2,kk w2 ((H.go e).set h4 h3 fun k hk => .inl hk)⟩
theorem Hp.clrI {k : IntKind} {al : List (Int × Value)} (T : MapT P (intKey k) t kT eT z) {ts : Array TypeId} (hts : ts[0]? = some t) {ty : TypeId} (H : Hp B w0 w (.imap b k al :: L)) (e : Eqw w w') {G : World → Prop}
  (kk : ∀ w1,Hp B w0 w1 (.imap b k [] :: L) → G w1) : ∃ w1,Clr P ts ty w' (.map (some b)) w1 ∧ G w1 := by
 obtain ⟨w1,h1,h2,h3⟩ := clr_map (ty := ty) T hts ((H.go e).ok _ (.head _))
 exact ⟨w1,h1,kk w1 ((H.go e).set h3 h2 fun k hk => .inl hk)⟩
theorem Hp.reown {cs : List Value} {T : TypeId} (H : Hp B w0 w (.blk b cs T :: L)) (sz n : Nat) (hl : cs.length = n * sz) (hn : n ≤ maxLen) : Hp B w0 w (.own T sz (some ⟨b,0,none⟩) n n cs :: L) :=
 H.set (Chg.refl _ _) ⟨hl,.inr ⟨b,cs.toArray,(0,0),rfl,Nat.zero_le _,H.blk (.head _),Thaw.zero _,Nat.le_refl _,hn,by simpa using Nat.le_of_eq hl.symm,by simp [← hl]⟩⟩ (fun k hk => .inl hk)
end
theorem eqv_slcE {P : Program} {t e : TypeId} {a : Option Addr} {n c n' c' : Nat} {x y : Operand} {w : World} (h : P.underlying t = some (.slice e)) : Eqv P .eql t x y w (.slice a n c) (.slice none n' c') a.isNone := by
 have := Go.Lib.run_eql_slice_nil (P := P) w t e a n c n' c' h
 simp only [Eqv,Sem.run_bind,eqGuard]
 simp [this]
theorem over_all (vs cs : List Value) (h : vs.length = cs.length) : over vs 0 cs = vs := by
 apply List.ext_getElem?
 intro k
 rw [over_get vs 0 cs (by omega)]
 by_cases hk : k < vs.length
 ·rw [if_pos (by omega)]; simp
 ·rw [if_neg (by omega),List.getElem?_eq_none (by omega),List.getElem?_eq_none (by omega)]
end Go.Vc
namespace Go.Proofs.YtdeebigmpffnbaaGreat
open Go Go.Vc Go.Vault
theorem new_spec (room : Int) (w : World) : Calls Tryz.prog 7 #[.int .i64 room] w fun e w' => ∃ x : DW,e = .returned (.pointer (some ⟨x.b,0,none⟩)) ∧ x.Ok (Dk.new room) ∧ Hp [] w w' (dkL x (Dk.new room)) := by
 apply new.ok; unfold new.vc
 have H := Hp.start w
 intro b w1 hn; replace H := H.newS (by exact ⟨rfl,rfl,rfl,rfl⟩) hn; clear hn
 intro b1 w2 hn; replace H := H.newS (by exact ⟨rfl,rfl,rfl,rfl⟩) hn; clear hn
 intro b2 w3 hn; replace H := H.new (by exact ⟨rfl,rfl,rfl,rfl⟩) hn; clear hn
 have e1 : min (max room 0) 65536 = ((Dk.new room).room : Int) := by simp only [Dk.new]; omega
 rw [e1] at H
 refine ⟨⟨b2,none,0,[],b,[],b1,[],none,0,[]⟩,rfl,⟨⟨by simp only [Dk.new]; omega,by simp [Dk.new],by simp [Dk.new],by simp [Dk.new],by simp [Dk.new,Rising],by simp [Dk.new],by simp [Dk.new]⟩,rfl,rfl,by simp,by simp [Dk.new,nvl,Dk.names,ons],by simp [Dk.new,nvl]⟩,?_⟩
 replace H := (H.nilS 76 1).nilS 125 1
 rw [dkL_eq]
 simp only [dkR,filesL,chsL,ptrs,chVs,List.zipWith_nil_left,List.flatten_nil,List.append_nil,List.map_nil]
 simp only [Dk.new] at H ⊢
 ((try dsimp only [List.cons_append,List.nil_append]); (try dsimp only [List.cons_append,List.nil_append] at H); refine Hp.perm H ?_; (repeat (apply perm_step; (focus first | exact perm_p0 | exact perm_p1 | exact perm_p2 | exact perm_p3 | exact perm_p4 | exact perm_p5 | exact perm_p6 | exact perm_p7 | exact perm_p8 | exact perm_p9))); exact List.Perm.refl _)
theorem secs_len {l : List (List UInt8)} (h : ∀ s ∈ l,s.length = 512) : (secs l).length = l.length * 512 := by
 induction l with
 | nil => rfl
 | cons s r ih =>
  have h1 := h s (.head _)
  have h2 := ih fun s hs => h s (.tail _ hs)
  simp only [secs,List.flatten_cons,bcells_length,List.length_append,List.length_cons] at h2 ⊢
  omega
theorem secs_cons (s : List UInt8) (r : List (List UInt8)) : secs (s :: r) = bcells s ++ secs r := by simp [secs,bcells_append]
theorem secs_append (a b : List (List UInt8)) : secs (a ++ b) = secs a ++ secs b := by simp [secs,bcells_append]
theorem secs_one (s : List UInt8) : secs [s] = bcells s := by simp [secs]
theorem secs_ones (l : List (List UInt8)) : (secs l).all (·.oneCell') = true := by
 simp only [secs,bcells,List.all_map,List.all_eq_true]
 intro b hb; rfl
theorem secs_at {l : List (List UInt8)} (h : ∀ s ∈ l,s.length = 512) : ∀ {k : Nat} {s : List UInt8},l[k]? = some s → ((secs l).drop (k * 512)).take 512 = bcells s := by
 induction l with
 | nil => intro k s hk; simp at hk
 | cons s0 r ih =>
  intro k s hk
  have h1 := h s0 (.head _)
  rw [secs_cons]
  cases k with
  | zero =>
   simp at hk; subst hk
   rw [Nat.zero_mul,List.drop_zero,List.take_left' (by rw [bcells_length,h1])]
  | succ k =>
   rw [List.getElem?_cons_succ] at hk
   have e1 : (k + 1) * 512 = (bcells s0).length + k * 512 := by rw [bcells_length,h1]; omega
   rw [e1,List.drop_append,List.drop_eq_nil_of_le (by omega),List.nil_append,Nat.add_sub_cancel_left]
   exact ih (fun s hs => h s (.tail _ hs)) hk
theorem secs_set {l : List (List UInt8)} (h : ∀ s ∈ l,s.length = 512) : ∀ {k : Nat} {s : List UInt8},s.length = 512 → k < l.length → over (bcells s) (k * 512) (secs l) = secs (l.set k s) := by
 intro k s hs hk
 have e1 : l = l.take k ++ (l[k] :: l.drop (k + 1)) := by rw [List.getElem_cons_drop,List.take_append_drop]
 have e2 : l.set k s = l.take k ++ (s :: l.drop (k + 1)) := by rw [List.set_eq_take_append_cons_drop,if_pos hk]
 have h1 : (secs (l.take k)).length = k * 512 := by
  rw [secs_len fun s hs => h s (List.mem_of_mem_take hs),List.length_take]
  congr 1; omega
 rw [e2]
 conv => lhs; rw [e1]
 rw [secs_append,secs_append,secs_cons,secs_cons,← h1]
 exact over_app _ _ _ _ (by rw [bcells_length,bcells_length,hs,h _ (List.getElem_mem hk)])
theorem zlSec : zl Tryz.prog 85 = bcells zsec := by kernel_rfl
theorem buildNil : BuildS Tryz.prog 78 0 [] 85 [] := by
 unfold BuildS; kernel_rfl
theorem cloneS_spec (a : Option Addr) (n c : Nat) (xs : List Value) (w : World) (h : (Asn.own 85 512 a n c xs).ok w) (h1 : xs.all (·.oneCell') = true) (hn : n ≤ 1073741824) :
  Calls Tryz.prog 103 #[.slice a n c] w fun e w' => ∃ a' c',e = .returned (.slice a' n c') ∧ Hp [] w w' [.own 85 512 a' n c' xs] := by
 have hO : Own w 0 85 512 a n c xs := h
 apply cloneS.ok; unfold cloneS.vc
 refine ⟨_,eqv_slcE undSS,?_⟩
 refine br_mk (fun hnone => ?_) (fun hs => ?_)
 ·have ha : a = none := by simpa using hnone
  subst ha
  rcases hO.2 with ⟨_,rfl,rfl⟩ | ⟨g,_,_,hg,_⟩
  ·have hx : xs = [] := List.eq_nil_of_length_eq_zero (by simpa using hO.1)
   subst hx
   exact ⟨none,0,rfl,(Hp.start w).nilS _ _⟩
  ·cases hg
 ·have K := Hp.start w
  refine ⟨_,_,buildNil,?_⟩
  intro b w1 hw
  have hc := hw.chg
  replace K := K.new (by exact ⟨rfl,rfl,rfl,rfl⟩) hw
  replace K := K.reown 512 0 rfl (by simp)
  have hO1 : Own w1 0 85 512 a n c xs := hO.chg hc (by simp)
  refine Hp.app eltSec (by omega) K (by exact ⟨rfl,rfl,rfl,rfl⟩) (Cells.src undSS hO1.cells hO.1 (fun u hu => List.all_eq_true.1 h1 u hu) (by rintro rfl; simp at hs)) (by simp only [maxLen]; omega) (by omega) ?_
  intro a' c' w2 K
  simp only [List.nil_append,Nat.zero_add] at K ⊢
  exact ⟨_,_,rfl,K⟩
def dkB (x : DW) (d : Dk) (k : Nat) : List Asn :=
 .blk x.b [.int .i64 (d.room : Int),.slice x.fa d.files.length x.fc,.map (some x.mn),.map (some x.mf),.slice x.ca d.chs.length x.cc,.int .i64 (d.armed : Int),.int .i64 (d.denied : Int),.bool d.dead] 71 ::
 .own 76 1 x.fa d.files.length x.fc (ptrs x.fs) :: .smap x.mn x.na :: .smap x.mf x.fi :: .own 125 1 x.ca d.chs.length x.cc (chVs x.cs d.chs) :: (filesL (x.fs.eraseIdx k) (d.files.eraseIdx k) ++ chsL x.cs d.chs)
theorem perm_swap3 (A L X : List Asn) : (A ++ (L ++ X)).Perm (L ++ (A ++ X)) := by
 rw [← List.append_assoc,← List.append_assoc]
 exact List.perm_append_comm.append_right _
theorem perm_f5 {a b c d e : Asn} {F F' C : List Asn} {L : List Asn} (h : F.Perm (L ++ F')) : (a :: b :: c :: d :: e :: (F ++ C)).Perm (L ++ (a :: b :: c :: d :: e :: (F' ++ C))) := by
 have h1 : (a :: b :: c :: d :: e :: (F ++ C)).Perm ([a,b,c,d,e] ++ (L ++ (F' ++ C))) := by
  rw [← List.append_assoc L]
  exact (h.append_right C).append_left [a,b,c,d,e]
 refine h1.trans ?_
 exact perm_swap3 [a,b,c,d,e] L (F' ++ C)
theorem dk_open {x : DW} {d : Dk} {k : Nat} {f : FW} {g : Fl} (h1 : x.fs[k]? = some f) (h2 : d.files[k]? = some g) : (dkL x d).Perm (flL f g ++ dkB x d k) := perm_f5 (filesL_get h1 h2)
def putX (x : DW) (k : Nat) (f : FW) : DW := { x with fs := x.fs.set k f }
theorem ptrs_set {xs : List FW} {k : Nat} {f f' : FW} (h : xs[k]? = some f) (hb : f'.b = f.b) : ptrs (xs.set k f') = ptrs xs := by
 apply List.ext_getElem?
 intro i
 simp only [ptrs,List.getElem?_map,List.getElem?_set]
 split
 ·rename_i e
  subst e
  split
  ·rw [h,Option.map_some,Option.map_some,hb]
  ·rename_i h2
   rw [List.getElem?_eq_none (by omega)] at h; cases h
 ·rfl
theorem dk_shut {x : DW} {d : Dk} {k : Nat} {f f' : FW} {g g' : Fl} (h1 : x.fs[k]? = some f) (h2 : d.files[k]? = some g) (hb : f'.b = f.b) : (dkL (putX x k f') (d.put k g')).Perm (flL f' g' ++ dkB x d k) := by
 have hk1 := (List.getElem?_eq_some_iff.1 h1).1
 have hk2 := (List.getElem?_eq_some_iff.1 h2).1
 have := perm_f5 (a := .blk x.b [.int .i64 (d.room : Int),.slice x.fa d.files.length x.fc,.map (some x.mn),.map (some x.mf),.slice x.ca d.chs.length x.cc,.int .i64 (d.armed : Int),.int .i64 (d.denied : Int),.bool d.dead] 71)
  (b := .own 76 1 x.fa d.files.length x.fc (ptrs x.fs)) (c := .smap x.mn x.na) (d := .smap x.mf x.fi) (e := .own 125 1 x.ca d.chs.length x.cc (chVs x.cs d.chs)) (C := chsL x.cs d.chs) (filesL_set f' g' hk1 hk2)
 rw [dkL_eq]
 simp only [putX,Dk.put,List.length_set,ptrs_set h1 hb,dkR]
 exact this
theorem DW.Ok.put {x : DW} {d : Dk} (h : x.Ok d) {k : Nat} {f' : FW} {g' : Fl} (hg : g'.Ok) (hk : (f'.al.map (·.1)).Perm (g'.since.map fun n : Nat => (n : Int))) : (putX x k f').Ok (d.put k g') := by
 refine ⟨⟨h.dk.room,fun e he => ?_,fun p hp => ?_,fun c hc => ?_,h.dk.rise,h.dk.armed,h.dk.denied⟩,by simp [putX,Dk.put,h.fl],h.cl,?_,h.na,h.fi⟩
 ·rcases List.mem_or_eq_of_mem_set he with he | rfl
  ·exact h.dk.files e he
  ·exact hg
 ·have := h.dk.firm p hp
  simpa [Dk.put] using this
 ·have := h.dk.chs c hc
  simpa [Dk.put] using this
 ·intro i f2 g2 h1 h2
  simp only [putX,Dk.put,List.getElem?_set] at h1 h2
  split at h1
  ·rename_i e
   subst e
   rw [if_pos rfl] at h2
   split at h1
   ·split at h2
    ·cases h1; cases h2; exact hk
    ·cases h2
   ·cases h1
  ·rename_i e
   rw [if_neg e] at h2
   exact h.keys i f2 g2 h1 h2
theorem fileOk {x : DW} {d : Dk} (h : x.Ok d) {k : Nat} {g : Fl} (h2 : d.files[k]? = some g) : g.Ok := h.dk.files g (List.mem_of_getElem? h2)
set_option maxHeartbeats 1000000 in
theorem read_spec (x : DW) (d : Dk) (hok : x.Ok d) (n : ByteArray) (i : Int) (w : World) (st : Std w (dkL x d)) :
  Calls Tryz.prog 107 #[.pointer (some ⟨x.b,0,none⟩),.string n,.int .i64 i] w fun e w' => ∃ a c,e = .returned (.tuple #[.slice a (d.read n i).1.length c,.int .i64 (d.read n i).2]) ∧ Hp [] w w' [.own 85 1 a (d.read n i).1.length c (bcells (d.read n i).1)] := by
 apply read.ok; unfold read.vc
 refine callV (find_spec x d hok n w st) ?_
 rintro e w1 ⟨rfl,K⟩
 have H := (Hp.startL st).ext K
 rw [List.nil_append] at H
 have hnil : ∀ c : Int,d.read n i = ([],c) → ∃ a c',Ending.returned (.tuple #[.slice none 0 0,.int .i64 c]) = .returned (.tuple #[.slice a (d.read n i).1.length c',.int .i64 (d.read n i).2]) ∧ Hp [] w w1 [.own 85 1 a (d.read n i).1.length c' (bcells (d.read n i).1)] := by
  intro c h
  rw [h]
  exact ⟨none,0,rfl,K.nilS _ _⟩
 refine ⟨_,rfl,?_⟩
 simp only [dkL] at H
 refine onP_mk rfl ?_
 ((repeat apply Exists.intro); first | refine ⟨H.ld (by exact ⟨rfl,rfl,rfl,rfl⟩) (by first | exact sclInt | exact sclBool | exact sclStr | exact sclMSI | exact sclSF | exact sclPF | exact sclSS | exact sclMIB | exact sclSC | exact sclC) (by repeat first | exact .head _ | refine .tail _ ?_) rfl,?_⟩)
 refine br_mk (fun h => hnil _ (by simp [Dk.read,h])) (fun h => ?_)
 cases hk : d.find n with
 | none =>
  refine ⟨_,eqv_ptrE undPF,?_⟩
  refine br_mk (fun _ => hnil _ (by simp [Dk.read,h,hk])) (fun h => by cases h)
 | some k =>
  obtain ⟨f,g,h1,h2,h3⟩ := hok.at (hok.dk.find hk)
  have hg := fileOk hok h2
  rw [fptr_at h1]
  refine ⟨_,eqv_ptrE undPF,?_⟩
  refine br_mk (fun h => by cases h) (fun _ => ?_)
  have hlen : d.len k = g.now.length := by rw [Dk.len,h3]
  refine br_dec (fun h4 => hnil _ (by simp [Dk.read,h,hk,h4])) (fun h4 => ?_)
  replace H := ((Hp.startL st).ext K).perm (dk_open h1 h2)
  simp only [flL,List.cons_append,List.nil_append] at H
  refine onP_mk rfl ?_
  ((repeat apply Exists.intro); first | refine ⟨H.ld (by exact ⟨rfl,rfl,rfl,rfl⟩) (by first | exact sclInt | exact sclBool | exact sclStr | exact sclMSI | exact sclSF | exact sclPF | exact sclSS | exact sclMIB | exact sclSC | exact sclC) (by repeat first | exact .head _ | refine .tail _ ?_) rfl,?_⟩)
  refine br_dec (fun h5 => hnil _ (by simp [Dk.read,h,hk,hlen,h5])) (fun h5 => ?_)
  have hrd : d.read n i = (g.now.getD i.toNat [],0) := by
   have : ¬ (i < 0 ∨ (d.len k : Int) ≤ i) := by rw [hlen]; omega
   simp only [Dk.read,h,hk,h3,Bool.false_eq_true,if_false,if_neg this]
  refine onP_mk rfl ?_
  ((repeat apply Exists.intro); first | refine ⟨H.ld (by exact ⟨rfl,rfl,rfl,rfl⟩) (by first | exact sclInt | exact sclBool | exact sclStr | exact sclMSI | exact sclSF | exact sclPF | exact sclSS | exact sclMIB | exact sclSC | exact sclC) (by repeat first | exact .head _ | refine .tail _ ?_) rfl,?_⟩)
  have hi : i.toNat < g.now.length := by omega
  have hgd : g.now.getD i.toNat [] = g.now[i.toNat] := by simp [hi]
  have hs := hg.now _ (List.getElem_mem hi)
  obtain ⟨ad,ha,hl⟩ := H.ldOA (P := Tryz.prog) (w' := w1) (o := i.toNat * 512) (by exact ⟨rfl,rfl,rfl,rfl⟩) aggSec (by omega) (.tail _ (.head _)) (secs_at hg.now (List.getElem?_eq_getElem hi)) (by rw [bcells_length,hs])
  refine onP_mk ha ⟨⟨by omega,by omega⟩,_,hl,?_⟩
  rw [zlSec]
  intro b w2 hn; replace K := K.new (by exact ⟨rfl,rfl,rfl,rfl⟩) hn; clear hn
  refine Hp.stA K (by exact ⟨rfl,rfl,rfl,rfl⟩) aggSec (by rw [bcells_length,hs]) (by simp [bcells]; intros; rfl) (by simp [bcells,zsec]) (over_all _ _ (by rw [bcells_length,hs]; simp [bcells,zsec])) ?_
  clear K
  intro w3 K
  rw [hrd,hgd]
  refine ⟨some ⟨b,0,none⟩,512,by rw [hs],?_⟩
  have := K.reown 1 512 (by rw [bcells_length,hs]) (by simp [maxLen])
  rw [hs]
  exact this
set_option maxHeartbeats 1000000 in
theorem sync_spec (x : DW) (d : Dk) (hok : x.Ok d) {N : Nat} (few : d.Few N) (hN : N ≤ 1073741824) (n : ByteArray) (w : World) (st : Std w (dkL x d)) :
  Calls Tryz.prog 94 #[.pointer (some ⟨x.b,0,none⟩),.string n] w (DkPost x d w (.int .i64 (d.sync n).2) (d.sync n).1) := by
 apply sync.ok; unfold sync.vc DkPost
 refine callV (find_spec x d hok n w st) ?_
 rintro e w1 ⟨rfl,K⟩
 have H := (Hp.startL st).ext0 K
 clear K
 generalize hB : feet (dkL x d) = B at H ⊢
 have hdk := dkL_eq x d
 refine ⟨_,rfl,?_⟩
 rw [hdk] at H
 refine onP_mk rfl ?_
 ((repeat apply Exists.intro); first | refine ⟨H.ld (by exact ⟨rfl,rfl,rfl,rfl⟩) (by first | exact sclInt | exact sclBool | exact sclStr | exact sclMSI | exact sclSF | exact sclPF | exact sclSS | exact sclMIB | exact sclSC | exact sclC) (by repeat first | exact .head _ | refine .tail _ ?_) rfl,?_⟩)
 rw [← hdk] at H
 refine br_mk (fun h => ?_) (fun h => ?_)
 ·have e1 : d.sync n = (d,93) := by simp [Dk.sync,h]
  rw [e1]
  exact ⟨rfl,x,rfl,hok,H⟩
 cases hk : d.find n with
 | none =>
  refine ⟨_,eqv_ptrE undPF,?_⟩
  refine br_mk (fun _ => ?_) (fun h => by cases h)
  have e1 : d.sync n = (d,90) := by simp [Dk.sync,h,hk]
  rw [e1]
  exact ⟨rfl,x,rfl,hok,H⟩
 | some k =>
  obtain ⟨f,g,h1,h2,h3⟩ := hok.at (hok.dk.find hk)
  have hg := fileOk hok h2
  rw [fptr_at h1]
  refine ⟨_,eqv_ptrE undPF,?_⟩
  refine br_mk (fun h => by cases h) (fun _ => ?_)
  refine callV (denies_spec x d hok.dk.denied w1 H.std) ?_
  rintro e w2 ⟨rfl,H'⟩; replace H := H.useAll H'; clear H'
  refine ⟨_,rfl,?_⟩
  refine br_mk (fun h4 => ?_) (fun h4 => ?_)
  ·have e1 : d.sync n = (d.denies,95) := by simp [Dk.sync,h,hk,h4]
   rw [e1]
   exact ⟨rfl,x,rfl,hok.denies,H⟩
  refine callV (dies_spec x d.denies hok.denies.dk.armed w2 H.std) ?_
  rintro e w3 ⟨rfl,H'⟩; replace H := H.useAll H'; clear H'
  refine ⟨_,rfl,?_⟩
  refine br_mk (fun h5 => ?_) (fun h5 => ?_)
  ·have e1 : d.sync n = (d.denies.dies,93) := by simp [Dk.sync,h,hk,h4,h5]
   rw [e1]
   exact ⟨rfl,x,rfl,hok.denies.dies,H⟩
  have e1 : d.sync n = (d.denies.dies.put k g.sync,0) := by simp [Dk.sync,h,hk,h4,h5,h3]
  rw [e1]
  have hq2 : d.denies.dies.files[k]? = some g := by
   obtain ⟨a,b,e⟩ := dies_eq d.denies
   rw [e]; exact h2
  have hok' := hok.denies.dies
  generalize d.denies.dies = q at H hq2 hok' ⊢
  replace H := H.perm (dk_open h1 hq2)
  simp only [flL,List.cons_append,List.nil_append] at H
  refine onP_mk rfl ?_
  ((repeat apply Exists.intro); first | refine ⟨H.ld (by exact ⟨rfl,rfl,rfl,rfl⟩) (by first | exact sclInt | exact sclBool | exact sclStr | exact sclMSI | exact sclSF | exact sclPF | exact sclSS | exact sclMIB | exact sclSC | exact sclC) (by repeat first | exact .head _ | refine .tail _ ?_) rfl,?_⟩)
  have hnow : g.now.length ≤ N := few.now g (List.mem_of_getElem? h2)
  refine callV (cloneS_spec f.an g.now.length f.cn (secs g.now) w3 (H.ok _ (.tail _ (.head _))) (secs_ones _) (by omega)) ?_
  rintro e w4 ⟨a',c',rfl,H'⟩; replace H := H.ext H'; clear H'
  simp only [List.cons_append,List.nil_append] at H
  refine ⟨_,_,_,rfl,?_⟩
  refine onP_mk rfl ?_
  ((first | (apply Hp.st; (case H => first | exact H | exact H.pull1 | exact H.pull2 | exact H.pull3 | exact H.pull4 | exact H.pull5 | exact H.pull6 | exact H.pull7); (case e => exact ⟨rfl,rfl,rfl,rfl⟩); (case S => exact (by first | exact sclInt | exact sclBool | exact sclStr | exact sclMSI | exact sclSF | exact sclPF | exact sclSS | exact sclMIB | exact sclSC | exact sclC)); (case hv => exact rfl); (case h1 => exact rfl); (case ho => exact Nat.le_of_ble_eq_true rfl); (case hc => exact rfl))); clear H; intro _ H; (try simp only [over,List.set_cons_zero,List.set_cons_succ] at H))
  rename_i w5
  refine onP_mk rfl ?_
  ((repeat apply Exists.intro); first | refine ⟨H.ld (by exact ⟨rfl,rfl,rfl,rfl⟩) (by first | exact sclInt | exact sclBool | exact sclStr | exact sclMSI | exact sclSF | exact sclPF | exact sclSS | exact sclMIB | exact sclSC | exact sclC) (by repeat first | exact .head _ | refine .tail _ ?_) rfl,?_⟩)
  refine Hp.clrI mapIB rfl H.pull4 (by exact ⟨rfl,rfl,rfl,rfl⟩) ?_
  clear H; intro w6 H
  refine ⟨rfl,putX x k { f with af := a',cf := c',al := [] },rfl,hok'.put ⟨hg.now,hg.now,by simp [Fl.sync],by simp [Fl.sync],Nat.le_refl _⟩ (.refl _),?_⟩
  have hp := dk_shut (f' := { f with af := a',cf := c',al := [] }) (g' := g.sync) h1 hq2 rfl
  refine Hp.perm (L := flL { f with af := a',cf := c',al := [] } g.sync ++ dkB x q k) ?_ hp.symm
  simp only [flL,Fl.sync,List.cons_append,List.nil_append]
  have H2 : Hp B w w6 (.own 85 512 f.af g.firm.length f.cf (secs g.firm) :: .blk f.b [.slice f.an g.now.length f.cn,.slice a' g.now.length c',.map (some f.bm)] 80 :: .own 85 512 f.an g.now.length f.cn (secs g.now) :: .own 85 512 a' g.now.length c' (secs g.now) :: .imap f.bm .i64 [] :: dkB x q k) := by
   ((try dsimp only [List.cons_append,List.nil_append]); (try dsimp only [List.cons_append,List.nil_append] at H); refine Hp.perm H ?_; (repeat (apply perm_step; (focus first | exact perm_p0 | exact perm_p1 | exact perm_p2 | exact perm_p3 | exact perm_p4 | exact perm_p5 | exact perm_p6 | exact perm_p7 | exact perm_p8 | exact perm_p9))); exact List.Perm.refl _)
  exact H2.drop
end Go.Proofs.YtdeebigmpffnbaaGreat
namespace Go.Proofs.YtdeebigmpffnbaaGreat
open Go Go.Vc Go.Vault
theorem buildOne {P : Program} {t e : TypeId} {sz by_ : Nat} (T : Elt P t e sz by_) (h0 : 0 < sz) (hs : sz ≤ 16777216) {cs : List Value} (hl : cs.length = sz) : BuildS P t 1 [(0,.agg cs.toArray)] e cs := by
 obtain ⟨hu,i,z,hi,hz,rfl,rfl,hzs⟩ := T
 have h1 : ¬ (z.cells.size ≠ i.size ∨ i.size = 0 ∨ 1 * i.size > 16777216) := by omega
 simp only [BuildS,buildSL,hu,hi,hz,Bool.or_eq_true,decide_eq_true_eq,bne_iff_ne]
 rw [if_neg (by simp [hzs]; omega)]
 have e0 : (Value.agg cs.toArray).cells = cs.toArray := rfl
 simp only [fillL,repL,e0,List.append_nil,Nat.zero_mul,Array.length_toList]
 rw [if_neg (by simp [hl,hzs])]
 simp only
 rw [over_all _ _ (by simp [hl,hzs])]
theorem undSU8 : Tryz.prog.underlying 29 = some (.slice 5) := by kernel_rfl
theorem sclU8 : Scl Tryz.prog 5 := scl_of (by kernel_rfl)
theorem over_pad {b : List UInt8} (h : b.length ≤ 512) : over (bcells b) 0 (bcells zsec) = bcells (pad b) := by
 have e1 : bcells zsec = [] ++ (bcells (List.replicate b.length 0) ++ bcells (List.replicate (512 - b.length) 0)) := by
  rw [List.nil_append,← bcells_append,List.replicate_append_replicate,zsec]
  congr 2; omega
 rw [e1]
 have := over_app (bcells b) [] (bcells (List.replicate b.length 0)) (bcells (List.replicate (512 - b.length) 0)) (by simp [bcells])
 rw [List.length_nil] at this
 rw [this,List.nil_append,← bcells_append]; rfl
theorem pad_len {b : List UInt8} (h : b.length ≤ 512) : (pad b).length = 512 := by simp only [pad,List.length_append,List.length_replicate]; omega
theorem addN_perm : ∀ (n : Nat) (l : List Nat),l.Pairwise (· < ·) → (addN n l).Perm (n :: l.filter fun x => !decide (x = n))
 | n,[],_ => .refl _
 | n,x :: r,h => by
  have hp := List.pairwise_cons.1 h
  have hgt : ∀ y ∈ r,x < y := hp.1
  simp only [addN]
  split
  ·rename_i h1
   rw [List.filter_eq_self.2]
   intro y hy
   have : n < y := by
    rcases List.mem_cons.1 hy with rfl | hy
    ·exact h1
    ·have := hgt y hy; omega
   have h2 : y ≠ n := by omega
   simp [h2]
  ·split
   ·rename_i h2
    subst h2
    rw [List.filter_cons]
    simp only [decide_true,Bool.not_true,Bool.false_eq_true,if_false]
    rw [List.filter_eq_self.2]
    intro y hy
    have := hgt y hy
    have h2 : y ≠ n := by omega
    simp [h2]
   ·rename_i h1 h2
    rw [List.filter_cons]
    have h3 : x ≠ n := fun e => h2 e.symm
    simp only [h3,decide_false,Bool.not_false,if_true]
    exact ((addN_perm n r hp.2).cons x).trans (.swap _ _ _)
theorem mem_addN {n m : Nat} : ∀ {l : List Nat},m ∈ addN n l ↔ m = n ∨ m ∈ l
 | [] => by simp [addN]
 | x :: r => by
  simp only [addN]
  split
  ·simp
  ·split
   ·rename_i h; subst h; simp
   ·simp only [List.mem_cons,mem_addN (l := r)]
    constructor
    ·rintro (h | h | h) <;> simp [h]
    ·rintro (h | h | h) <;> simp [h]
theorem addN_sorted (n : Nat) : ∀ (l : List Nat),l.Pairwise (· < ·) → (addN n l).Pairwise (· < ·)
 | [],_ => by simp [addN]
 | x :: r,h => by
  have hp := List.pairwise_cons.1 h
  simp only [addN]
  split
  ·rename_i h1
   refine List.pairwise_cons.2 ⟨fun y hy => ?_,h⟩
   rcases List.mem_cons.1 hy with rfl | hy
   ·exact h1
   ·have := hp.1 y hy; omega
  ·split
   ·exact h
   ·rename_i h1 h2
    refine List.pairwise_cons.2 ⟨fun y hy => ?_,addN_sorted n r hp.2⟩
    rcases mem_addN.1 hy with rfl | hy
    ·omega
    ·exact hp.1 y hy
theorem _root_.Go.Vault.Fl.Ok.write {f : Fl} (h : f.Ok) {n : Nat} (hn : n ≤ f.now.length) {b : List UInt8} (hb : b.length ≤ 512) : (f.write n b).Ok := by
 have hl : (f.write n b).now.length = if n = f.now.length then f.now.length + 1 else f.now.length := by
  simp only [Fl.write]; split <;> simp
 refine ⟨?_,h.firm,addN_sorted n _ h.since,?_,?_⟩
 ·intro s hs
  simp only [Fl.write] at hs
  split at hs
  ·rcases List.mem_append.1 hs with hs | hs
   ·exact h.now s hs
   ·rw [List.mem_singleton.1 hs]; exact pad_len hb
  ·rcases List.mem_or_eq_of_mem_set hs with hs | rfl
   ·exact h.now s hs
   ·exact pad_len hb
 ·intro m hm
  rw [hl]
  rcases mem_addN.1 hm with rfl | hm
  ·split <;> omega
  ·have := h.below m hm
   split <;> omega
 ·have := h.len
  show f.firm.length ≤ _
  rw [hl]; split <;> omega
theorem put_keys {al : List (Int × Value)} {l : List Nat} (hs : l.Pairwise (· < ·)) (hp : (al.map (·.1)).Perm (l.map fun n : Nat => (n : Int))) (n : Nat) : ((aput al (n : Int) (.bool true)).map (·.1)).Perm ((addN n l).map fun n : Nat => (n : Int)) := by
 have hnd : KApart al := by
  rw [KApart,hp.nodup_iff]
  exact List.pairwise_map.2 (hs.imp fun h e => by omega)
 refine ((aput_perm hnd _ _).map _).trans ?_
 refine List.Perm.trans ?_ ((addN_perm n l hs).map _).symm
 simp only [List.map_cons]
 refine List.Perm.cons _ ?_
 have e1 : (acut al (n : Int)).map (·.1) = (al.map (·.1)).filter fun x => !decide (x = (n : Int)) := by
  simp only [acut,List.filter_map]; rfl
 have e2 : (l.filter fun x => !decide (x = n)).map (fun n : Nat => (n : Int)) = (l.map fun n : Nat => (n : Int)).filter fun x => !decide (x = (n : Int)) := by
  rw [List.filter_map]
  congr 1
  apply List.filter_congr
  intro x _
  simp [Function.comp_def]
  exact ⟨fun h => by omega,fun h => by omega⟩
 rw [e1,e2]
 exact hp.filter _
set_option maxHeartbeats 4000000 in
theorem write_spec (x : DW) (d : Dk) (hok : x.Ok d) {N : Nat} (few : d.Few N) (hN : N ≤ 1073741824) (hu : (d.used : Int) ≤ 9223372036854775807) (n : ByteArray) (i : Int) (ba : Option Addr) (bc : Nat) (b : List UInt8) (w : World) (st : Std w (dkL x d))
  (hc : ∀ W,Chg (feet (dkL x d)) w W → Cells W ba (bcells b)) (h0 : ba = none → b.length = 0) :
  Calls Tryz.prog 10 #[.pointer (some ⟨x.b,0,none⟩),.string n,.int .i64 i,.slice ba b.length bc] w (DkPost x d w (.int .i64 (d.write n i b).2) (d.write n i b).1) := by
 apply write.ok; unfold write.vc DkPost
 refine callV (find_spec x d hok n w st) ?_
 rintro e w1 ⟨rfl,K⟩
 have H := (Hp.startL st).ext0 K
 clear K
 generalize hB : feet (dkL x d) = B at H hc ⊢
 have hdk := dkL_eq x d
 refine ⟨_,rfl,?_⟩
 rw [hdk] at H
 refine onP_mk rfl ?_
 ((repeat apply Exists.intro); first | refine ⟨H.ld (by exact ⟨rfl,rfl,rfl,rfl⟩) (by first | exact sclInt | exact sclBool | exact sclStr | exact sclMSI | exact sclSF | exact sclPF | exact sclSS | exact sclMIB | exact sclSC | exact sclC) (by repeat first | exact .head _ | refine .tail _ ?_) rfl,?_⟩)
 rw [← hdk] at H
 refine br_mk (fun h => ?_) (fun h => ?_)
 ·have e1 : d.write n i b = (d,93) := by simp [Dk.write,h]
  rw [e1]
  exact ⟨rfl,x,rfl,hok,H⟩
 cases hk : d.find n with
 | none =>
  refine ⟨_,eqv_ptrE undPF,?_⟩
  refine br_mk (fun _ => ?_) (fun h => by cases h)
  have e1 : d.write n i b = (d,90) := by simp [Dk.write,h,hk]
  rw [e1]
  exact ⟨rfl,x,rfl,hok,H⟩
 | some k =>
  obtain ⟨f,g,h1,h2,h3⟩ := hok.at (hok.dk.find hk)
  have hg := fileOk hok h2
  have hlen : d.len k = g.now.length := by rw [Dk.len,h3]
  have hnow : g.now.length ≤ N := few.now g (List.mem_of_getElem? h2)
  rw [fptr_at h1]
  refine ⟨_,eqv_ptrE undPF,?_⟩
  refine br_mk (fun h => by cases h) (fun _ => ?_)
  have hplace : ∀ w',(i < 0 ∨ (g.now.length : Int) < i ∨ 512 < b.length) → Hp B w w' (dkL x d) → Ending.returned (.int .i64 91) = .returned (.int .i64 (d.write n i b).2) ∧ ∃ x',x'.b = x.b ∧ x'.Ok (d.write n i b).1 ∧ Hp B w w' (dkL x' (d.write n i b).1) := by
   intro w' hp H
   have e1 : d.write n i b = (d,91) := by
    simp only [Dk.write,h,hk,hlen,Bool.false_eq_true,if_false,if_pos hp]
   rw [e1]
   exact ⟨rfl,x,rfl,hok,H⟩
  refine br_dec (fun h4 => hplace _ (.inl h4) H) (fun h4 => ?_)
  have hop := dk_open h1 h2
  have m1 : Asn.blk f.b [.slice f.an g.now.length f.cn,.slice f.af g.firm.length f.cf,.map (some f.bm)] 80 ∈ dkL x d := hop.mem_iff.2 (List.mem_append_left _ (.head _))
  refine onP_mk rfl ?_
  refine ⟨_,_,_,H.ld (by exact ⟨rfl,rfl,rfl,rfl⟩) sclSS m1 rfl,?_⟩
  refine br_dec (fun h5 => hplace _ (.inr (.inl h5)) H) (fun h5 => ?_)
  refine br_dec (fun h6 => hplace _ (.inr (.inr (by omega))) H) (fun h6 => ?_)
  replace H := H.drew
  refine onP_mk rfl ?_
  refine ⟨_,_,_,H.ld (by exact ⟨rfl,rfl,rfl,rfl⟩) sclSS m1 rfl,?_⟩
  have hnp : ¬ (i < 0 ∨ (d.len k : Int) < i ∨ 512 < b.length) := by rw [hlen]; omega
  have hiN : (i.toNat : Int) = i := by omega
  have hb512 : b.length ≤ 512 := by omega
  have last : ∀ (w6 : World) (y : DW) (q : Dk),y.b = x.b → y.Ok q → Hp B w w6 (dkL y q) → d.write n i b = (q.dies,q.dies.code) →
    CallV Tryz.prog 36 [.pointer (some ⟨x.b,0,none⟩)] w6 fun e w' => ∃ j,e = .returned (.int .i64 j) ∧ Ending.returned (.int .i64 j) = .returned (.int .i64 (d.write n i b).2) ∧ ∃ x',x'.b = x.b ∧ x'.Ok (d.write n i b).1 ∧ Hp B w w' (dkL x' (d.write n i b).1) := by
   intro w6 y q hy hyok H e1
   have hds := done_spec y q hyok.dk.armed w6 H.std
   rw [hy] at hds
   refine callV hds ?_
   rintro e w7 ⟨rfl,H'⟩
   rw [e1]
   exact ⟨_,rfl,rfl,y,hy,hyok.dies,H.useAll H'⟩
  refine br_dec (fun h7 => ?_) (fun h7 => ?_)
  ·-- a sector more
   rw [hdk] at H
   refine onP_mk rfl ?_
   ((repeat apply Exists.intro); first | refine ⟨H.ld (by exact ⟨rfl,rfl,rfl,rfl⟩) (by first | exact sclInt | exact sclBool | exact sclStr | exact sclMSI | exact sclSF | exact sclPF | exact sclSS | exact sclMIB | exact sclSC | exact sclC) (by repeat first | exact .head _ | refine .tail _ ?_) rfl,?_⟩)
   rw [← hdk] at H
   refine callV (used_spec x d hok hu _ H.std) ?_
   rintro e w2 ⟨rfl,H'⟩; replace H := H.ext0 H'; clear H'
   refine ⟨_,rfl,?_⟩
   rw [hdk] at H
   refine ⟨H.ld (by exact ⟨rfl,rfl,rfl,rfl⟩) sclInt (.head _) rfl,?_⟩
   rw [← hdk] at H
   refine br_dec (fun h8 => ?_) (fun h8 => ?_)
   ·have e1 : d.write n i b = (d,94) := by
     simp only [Dk.write,h,hk,Bool.false_eq_true,if_false,if_neg hnp]
     rw [if_pos ⟨by rw [hlen]; exact h7,by omega⟩]
    rw [e1]
    exact ⟨rfl,x,rfl,hok,H⟩
   have hnf : ¬ (i = (d.len k : Int) ∧ d.room ≤ d.used) := by omega
   refine callV (denies_spec x d hok.dk.denied w2 H.std) ?_
   rintro e w3 ⟨rfl,H'⟩; replace H := H.useAll H'; clear H'
   refine ⟨_,rfl,?_⟩
   refine br_mk (fun h9 => ?_) (fun h9 => ?_)
   ·have e1 : d.write n i b = (d.denies,95) := by
     simp only [Dk.write,h,hk,Bool.false_eq_true,if_false,if_neg hnp,if_neg hnf,h9,if_true]
    rw [e1]
    exact ⟨rfl,x,rfl,hok.denies,H⟩
   have e1 : d.write n i b = ((d.denies.put k (g.write i.toNat b)).dies,(d.denies.put k (g.write i.toNat b)).dies.code) := by
    simp only [Dk.write,h,hk,Bool.false_eq_true,if_false,if_neg hnp,if_neg hnf,h9,h3]
   have hok' := hok.denies
   have hq2 : d.denies.files[k]? = some g := h2
   have hqf := hok'.dk
   generalize d.denies = q at H e1 hok' hq2 hqf
   replace H := H.perm (dk_open h1 hq2)
   simp only [flL,List.cons_append,List.nil_append] at H
   rw [zlSec]
   intro bb w4 hn; replace H := H.new (by exact ⟨rfl,rfl,rfl,rfl⟩) hn; clear hn
   have hc4 : Cells w4 ba (bcells b) := hc w4 H.chg
   refine Hp.cpy H (by exact ⟨rfl,rfl,rfl,rfl⟩) undSU8 sclU8.size (Cells.src undSU8 hc4 (by rw [bcells_length,Nat.mul_one]) (by intro u hu; obtain ⟨_,_,rfl⟩ := List.mem_map.1 hu; rfl) h0) hb512 (by simp [bcells,zsec]; omega) ?_
   clear H; intro w5 H
   rw [over_pad hb512] at H
   refine onP_mk rfl ?_
   ((repeat apply Exists.intro); first | refine ⟨H.ld (by exact ⟨rfl,rfl,rfl,rfl⟩) (by first | exact sclInt | exact sclBool | exact sclStr | exact sclMSI | exact sclSF | exact sclPF | exact sclSS | exact sclMIB | exact sclSC | exact sclC) (by repeat first | exact .head _ | refine .tail _ ?_) rfl,?_⟩)
   refine br_dec (fun _ => ?_) (fun h => absurd h7 h)
   replace H := H.drew
   refine onP_mk rfl ?_
   ((repeat apply Exists.intro); first | refine ⟨H.ld (by exact ⟨rfl,rfl,rfl,rfl⟩) (by first | exact sclInt | exact sclBool | exact sclStr | exact sclMSI | exact sclSF | exact sclPF | exact sclSS | exact sclMIB | exact sclSC | exact sclC) (by repeat first | exact .head _ | refine .tail _ ?_) rfl,?_⟩)
   have hpl : (bcells (pad b)).length = 512 := by rw [bcells_length,pad_len hb512]
   refine ⟨_,H.ldA (by exact ⟨rfl,rfl,rfl,rfl⟩) aggSec (.head _) (by rw [List.drop_zero,List.take_of_length_le (by omega)]) hpl,?_⟩
   refine ⟨_,_,buildOne eltSec (by omega) (by omega) hpl,?_⟩
   intro b1 w6 hn; replace H := H.new (by exact ⟨rfl,rfl,rfl,rfl⟩) hn; clear hn
   refine ⟨H.ld (by exact ⟨rfl,rfl,rfl,rfl⟩) sclSS (.tail _ (.tail _ (.head _))) rfl,?_⟩
   refine Hp.app eltSec (by omega) H.pull3 (by exact ⟨rfl,rfl,rfl,rfl⟩) (Blk.src undSS ((H.go (w' := w6.drew) (by exact ⟨rfl,rfl,rfl,rfl⟩)).blk (.head _)) (by rw [hpl]) (by simp [bcells]; intros; rfl)) (by simp only [maxLen]; omega) (by omega) ?_
   clear H; intro a' c' w7 H
   replace H := H.drop1
   refine onP_mk rfl ?_
   ((first | (apply Hp.st; (case H => first | exact H | exact H.pull1 | exact H.pull2 | exact H.pull3 | exact H.pull4 | exact H.pull5 | exact H.pull6 | exact H.pull7); (case e => exact ⟨rfl,rfl,rfl,rfl⟩); (case S => exact (by first | exact sclInt | exact sclBool | exact sclStr | exact sclMSI | exact sclSF | exact sclPF | exact sclSS | exact sclMIB | exact sclSC | exact sclC)); (case hv => exact rfl); (case h1 => exact rfl); (case ho => exact Nat.le_of_ble_eq_true rfl); (case hc => exact rfl))); clear H; intro _ H; (try simp only [over,List.set_cons_zero,List.set_cons_succ] at H))
   rename_i w8
   replace H := H.drew
   refine onP_mk rfl ?_
   ((repeat apply Exists.intro); first | refine ⟨H.ld (by exact ⟨rfl,rfl,rfl,rfl⟩) (by first | exact sclInt | exact sclBool | exact sclStr | exact sclMSI | exact sclSF | exact sclPF | exact sclSS | exact sclMIB | exact sclSC | exact sclC) (by repeat first | exact .head _ | refine .tail _ ?_) rfl,?_⟩)
   refine onP_mk rfl ?_
   ((repeat apply Exists.intro); first | refine ⟨H.ld (by exact ⟨rfl,rfl,rfl,rfl⟩) (by first | exact sclInt | exact sclBool | exact sclStr | exact sclMSI | exact sclSF | exact sclPF | exact sclSS | exact sclMIB | exact sclSC | exact sclC) (by repeat first | exact .head _ | refine .tail _ ?_) rfl,?_⟩)
   refine ⟨_,H.ldA (by exact ⟨rfl,rfl,rfl,rfl⟩) aggSec (.tail _ (.tail _ (.head _))) (by rw [List.drop_zero,List.take_of_length_le (by omega)]) hpl,?_⟩
   have hne : a' ≠ none := by
    rintro rfl
    have hO : Own w8.drew 0 85 512 none (g.now.length + 1) c' (secs g.now ++ bcells (pad b)) := H.ok _ (.tail _ (.head _))
    rcases hO.2 with ⟨_,h,_⟩ | ⟨_,_,_,h,_⟩
    ·omega
    ·cases h
   obtain ⟨ad,had⟩ := Option.ne_none_iff_exists'.1 hne
   refine onP_mk had ⟨⟨by omega,by omega⟩,?_⟩
   have hx1 : secs g.now ++ bcells (pad b) = secs (g.now ++ [pad b]) := by rw [secs_append,secs_one]
   have hok1 : ∀ s ∈ g.now ++ [pad b],s.length = 512 := fun s hs => by
    rcases List.mem_append.1 hs with hs | hs
    ·exact hg.now s hs
    ·rw [List.mem_singleton.1 hs]; exact pad_len hb512
   have hset : (g.now ++ [pad b]).set i.toNat (pad b) = g.now ++ [pad b] := by
    have : i.toNat = g.now.length := by omega
    rw [this,List.set_append_right _ _ (Nat.le_refl _),Nat.sub_self]; rfl
   rw [hx1] at H
   refine Hp.stO H.pull1 (by exact ⟨rfl,rfl,rfl,rfl⟩) had (by rw [aggSec.size]; simp [Value.cells,hpl]) (by simp [Value.cells,bcells]; intros; rfl) (by simp only [Value.cells,List.size_toArray,hpl]; rw [secs_len hok1,List.length_append,List.length_singleton]; omega)
    (by simp only [Value.cells]; exact (secs_set hok1 (pad_len hb512) (by rw [List.length_append,List.length_singleton]; omega)).trans (by rw [hset])) ?_
   clear H; intro w9 H
   rw [← hiN]
   refine Hp.menI mapIB H.pull4 (by exact ⟨rfl,rfl,rfl,rfl⟩) ?_
   clear H; intro w10 H
   rw [hiN]
   refine last w10 (putX x k { f with an := a',cn := c',al := aput f.al (i.toNat : Int) (.bool true) }) (q.put k (g.write i.toNat b)) rfl (hok'.put (hg.write (by omega) hb512) (put_keys hg.since (hok'.keys k f g h1 hq2) i.toNat)) ?_ e1
   have hp := dk_shut (f' := { f with an := a',cn := c',al := aput f.al (i.toNat : Int) (.bool true) }) (g' := g.write i.toNat b) h1 hq2 rfl
   refine Hp.perm ?_ hp.symm
   have hw : (g.write i.toNat b).now = g.now ++ [pad b] := by simp only [Fl.write]; rw [if_pos (by omega)]
   simp only [flL,hw,List.length_append,List.length_singleton,List.cons_append,List.nil_append]
   have H2 : Hp B w w10 (.blk bb (bcells (pad b)) 85 :: .blk f.b [.slice a' (g.now.length + 1) c',.slice f.af g.firm.length f.cf,.map (some f.bm)] 80 :: .own 85 512 a' (g.now.length + 1) c' (secs (g.now ++ [pad b])) :: .own 85 512 f.af g.firm.length f.cf (secs g.firm) :: .imap f.bm .i64 (aput f.al (i.toNat : Int) (.bool true)) :: dkB x q k) := by
    ((try dsimp only [List.cons_append,List.nil_append]); (try dsimp only [List.cons_append,List.nil_append] at H); refine Hp.perm H ?_; (repeat (apply perm_step; (focus first | exact perm_p0 | exact perm_p1 | exact perm_p2 | exact perm_p3 | exact perm_p4 | exact perm_p5 | exact perm_p6 | exact perm_p7 | exact perm_p8 | exact perm_p9))); exact List.Perm.refl _)
   exact H2.drop
  ·-- a sector that is there
   have hnf : ¬ (i = (d.len k : Int) ∧ d.room ≤ d.used) := by rw [hlen]; omega
   refine callV (denies_spec x d hok.dk.denied _ H.std) ?_
   rintro e w3 ⟨rfl,H'⟩; replace H := H.useAll H'; clear H'
   refine ⟨_,rfl,?_⟩
   refine br_mk (fun h9 => ?_) (fun h9 => ?_)
   ·have e1 : d.write n i b = (d.denies,95) := by
     simp only [Dk.write,h,hk,Bool.false_eq_true,if_false,if_neg hnp,if_neg hnf,h9,if_true]
    rw [e1]
    exact ⟨rfl,x,rfl,hok.denies,H⟩
   have e1 : d.write n i b = ((d.denies.put k (g.write i.toNat b)).dies,(d.denies.put k (g.write i.toNat b)).dies.code) := by
    simp only [Dk.write,h,hk,Bool.false_eq_true,if_false,if_neg hnp,if_neg hnf,h9,h3]
   have hok' := hok.denies
   have hq2 : d.denies.files[k]? = some g := h2
   generalize d.denies = q at H e1 hok' hq2
   replace H := H.perm (dk_open h1 hq2)
   simp only [flL,List.cons_append,List.nil_append] at H
   rw [zlSec]
   intro bb w4 hn; replace H := H.new (by exact ⟨rfl,rfl,rfl,rfl⟩) hn; clear hn
   have hc4 : Cells w4 ba (bcells b) := hc w4 H.chg
   refine Hp.cpy H (by exact ⟨rfl,rfl,rfl,rfl⟩) undSU8 sclU8.size (Cells.src undSU8 hc4 (by rw [bcells_length,Nat.mul_one]) (by intro u hu; obtain ⟨_,_,rfl⟩ := List.mem_map.1 hu; rfl) h0) hb512 (by simp [bcells,zsec]; omega) ?_
   clear H; intro w5 H
   rw [over_pad hb512] at H
   refine onP_mk rfl ?_
   ((repeat apply Exists.intro); first | refine ⟨H.ld (by exact ⟨rfl,rfl,rfl,rfl⟩) (by first | exact sclInt | exact sclBool | exact sclStr | exact sclMSI | exact sclSF | exact sclPF | exact sclSS | exact sclMIB | exact sclSC | exact sclC) (by repeat first | exact .head _ | refine .tail _ ?_) rfl,?_⟩)
   refine br_dec (fun h => absurd h h7) (fun _ => ?_)
   replace H := H.drew
   refine onP_mk rfl ?_
   ((repeat apply Exists.intro); first | refine ⟨H.ld (by exact ⟨rfl,rfl,rfl,rfl⟩) (by first | exact sclInt | exact sclBool | exact sclStr | exact sclMSI | exact sclSF | exact sclPF | exact sclSS | exact sclMIB | exact sclSC | exact sclC) (by repeat first | exact .head _ | refine .tail _ ?_) rfl,?_⟩)
   refine onP_mk rfl ?_
   ((repeat apply Exists.intro); first | refine ⟨H.ld (by exact ⟨rfl,rfl,rfl,rfl⟩) (by first | exact sclInt | exact sclBool | exact sclStr | exact sclMSI | exact sclSF | exact sclPF | exact sclSS | exact sclMIB | exact sclSC | exact sclC) (by repeat first | exact .head _ | refine .tail _ ?_) rfl,?_⟩)
   have hpl : (bcells (pad b)).length = 512 := by rw [bcells_length,pad_len hb512]
   refine ⟨_,H.ldA (by exact ⟨rfl,rfl,rfl,rfl⟩) aggSec (.head _) (by rw [List.drop_zero,List.take_of_length_le (by omega)]) hpl,?_⟩
   have hne : f.an ≠ none := by
    intro hn0
    have hO : Own w5.drew 0 85 512 f.an g.now.length f.cn (secs g.now) := H.ok _ (.tail _ (.tail _ (.head _)))
    rw [hn0] at hO
    rcases hO.2 with ⟨_,h,_⟩ | ⟨_,_,_,h,_⟩
    ·omega
    ·cases h
   obtain ⟨ad,had⟩ := Option.ne_none_iff_exists'.1 hne
   refine onP_mk had ⟨⟨by omega,by omega⟩,?_⟩
   refine Hp.stO H.pull2 (by exact ⟨rfl,rfl,rfl,rfl⟩) had (by rw [aggSec.size]; simp [Value.cells,hpl]) (by simp [Value.cells,bcells]; intros; rfl) (by simp only [Value.cells,List.size_toArray,hpl]; rw [secs_len hg.now]; omega)
    (by simp only [Value.cells]; exact secs_set hg.now (pad_len hb512) (by omega)) ?_
   clear H; intro w9 H
   rw [← hiN]
   refine Hp.menI mapIB H.pull4 (by exact ⟨rfl,rfl,rfl,rfl⟩) ?_
   clear H; intro w10 H
   rw [hiN]
   refine last w10 (putX x k { f with al := aput f.al (i.toNat : Int) (.bool true) }) (q.put k (g.write i.toNat b)) rfl (hok'.put (hg.write (by omega) hb512) (put_keys hg.since (hok'.keys k f g h1 hq2) i.toNat)) ?_ e1
   have hp := dk_shut (f' := { f with al := aput f.al (i.toNat : Int) (.bool true) }) (g' := g.write i.toNat b) h1 hq2 rfl
   refine Hp.perm ?_ hp.symm
   have hw : (g.write i.toNat b).now = g.now.set i.toNat (pad b) := by simp only [Fl.write]; rw [if_neg (by omega)]
   simp only [flL,hw,List.length_set,List.cons_append,List.nil_append]
   have H2 : Hp B w w10 (.blk bb (bcells (pad b)) 85 :: .blk f.b [.slice f.an g.now.length f.cn,.slice f.af g.firm.length f.cf,.map (some f.bm)] 80 :: .own 85 512 f.an g.now.length f.cn (secs (g.now.set i.toNat (pad b))) :: .own 85 512 f.af g.firm.length f.cf (secs g.firm) :: .imap f.bm .i64 (aput f.al (i.toNat : Int) (.bool true)) :: dkB x q k) := by
    ((try dsimp only [List.cons_append,List.nil_append]); (try dsimp only [List.cons_append,List.nil_append] at H); refine Hp.perm H ?_; (repeat (apply perm_step; (focus first | exact perm_p0 | exact perm_p1 | exact perm_p2 | exact perm_p3 | exact perm_p4 | exact perm_p5 | exact perm_p6 | exact perm_p7 | exact perm_p8 | exact perm_p9))); exact List.Perm.refl _)
   exact H2.drop
end Go.Proofs.YtdeebigmpffnbaaGreat
namespace Go.Proofs.YtdeebigmpffnbaaGreat
open Go Go.Vc Go.Vault
theorem sclSI : Scl Tryz.prog 30 := scl_of (by kernel_rfl)
theorem Own.stC {P : Program} {w : World} {e : TypeId} {sz : Nat} {a : Option Addr} {n c : Nat} {xs : List Value} (h : Own w 0 e sz a n c xs) {ad : Addr} (ha : a = some ad) {o : Nat} {vs : List Value} (hv : vs.all (·.oneCell') = true) (hl : o + vs.length ≤ xs.length) :
  ∃ w1,(storeCells (ad.add o) vs).run P w = .ok () w1 ∧ Own w1 0 e sz a n c (over vs o xs) ∧ Chg (blks a) w w1 := by
 have hlen := h.1
 rcases h.2 with ⟨rfl,_⟩ | ⟨g,cur,fz,rfl,hb,hg,hf,hnc,hcm,hcs,ht⟩
 ·cases ha
 cases ha
 have hnm : n * sz ≤ c * sz := Nat.mul_le_mul_right _ hnc
 have hcur : w.heap[g]? = some (.cells cur.toList.toArray e fz) := by simpa using hg
 have hcl : cur.toList.length = cur.size := Array.length_toList
 have hrun := run_storeCells_blk (P := P) (b := g) (T := e) (fz := fz) vs w cur.toList ⟨g,o,none⟩ o 0 rfl (fun j => by simp [add_lit]) hcur (by omega) (fun k h1 h2 => hf k (by omega)) (fun u hu => List.all_eq_true.1 hv u hu)
 have e1 : (storeCells ((⟨g,0,none⟩ : Addr).add o) vs).run P w = (storeCells ⟨g,o,none⟩ vs).run P w := by rw [add_lit,Nat.zero_add]
 refine ⟨_,e1.trans hrun,?_,?_⟩
 ·split
  ·rename_i hn; rw [hn,over_nil]; exact h
  ·refine ⟨by rw [over_len _ _ _ (by omega)]; exact hlen,.inr ⟨g,_,fz,rfl,hb,setB_at (Array.getElem?_eq_some_iff.1 hg).1,?_,hnc,hcm,?_,?_⟩⟩
   ·rw [List.size_toArray,over_len _ _ _ (by omega),hcl]; exact hf
   ·rw [List.size_toArray,over_len _ _ _ (by omega),hcl]; exact hcs
   ·simp only [List.toList_toArray]
    rw [over_take_in _ _ _ _ (by omega) (by omega),ht]
 ·split
  ·exact Chg.refl _ _
  ·exact setB_chg _ _ _
theorem Hp.cpyP {P : Program} {B : List Nat} {w0 w w' : World} {L : List Asn} {e eT dT tx ty : TypeId} {sz : Nat} {a : Option Addr} {n c o m dc sn sc : Nat} {xs news : List Value} {ad sa : Addr} (H : Hp B w0 w (.own e sz a n c xs :: L)) (eq : Eqw w w') (hd : P.underlying dT = some (.slice eT)) (hs : sizeV P eT = some 1)
  (ha : a = some ad) (hsrc : ∀ j u,news[j]? = some u → w'.cell? (sa.add j) = some u) (hl : news.length = m) (h1 : news.all (·.oneCell') = true) (hm : m ≤ sn) (hfit : o + m ≤ xs.length) {G : Int → World → Prop}
  (k : ∀ w1,Hp B w0 w1 (.own e sz a n c (over news o xs) :: L) → G (m : Int) w1) : ∃ (i : Int) (w1 : World),Cpy P #[dT,tx] ty w' (.slice (some (ad.add o)) m dc) (.slice (some sa) sn sc) (.int .i64 i) w1 ∧ G i w1 := by
 have hO : Own w' 0 e sz a n c xs := (H.go eq).ok _ (.head _)
 obtain ⟨w1,h2,h3,h4⟩ := Own.stC (P := P) hO ha h1 (o := o) (by omega)
 refine ⟨(m : Int),w1,?_,k w1 ((H.go eq).set h4 h3 fun k hk => .inl hk)⟩
 have hz : (sizeOf eT).run P w' = .ok 1 w' := run_size hs w'
 have hmin : Nat.min sn m = m := Nat.min_eq_right hm
 have hlen : (Builtin.lenOf (.slice (some sa) sn sc)).run P w' = .ok sn w' := rfl
 have hc := run_firstCells_some (P := P) w' 1 m sa sn sc news (by omega) hsrc
 simp only [Cpy,Builtin.copy_]
 simp [run_und hd,hlen,hmin,hz,hc,h2,goInt]
theorem secs_part {l : List (List UInt8)} (h : ∀ s ∈ l,s.length = 512) {k : Nat} {x : List UInt8} (hx : x.length ≤ 512) (hk : k < l.length) : over (bcells x) (k * 512) (secs l) = secs (l.set k (x ++ (l.getD k []).drop x.length)) := by
 have hgd : l.getD k [] = l[k] := by simp [hk]
 have e1 : l = l.take k ++ (l[k] :: l.drop (k + 1)) := by rw [List.getElem_cons_drop,List.take_append_drop]
 have e2 : l.set k (x ++ (l.getD k []).drop x.length) = l.take k ++ ((x ++ l[k].drop x.length) :: l.drop (k + 1)) := by rw [hgd,List.set_eq_take_append_cons_drop,if_pos hk]
 have h1 : (secs (l.take k)).length = k * 512 := by
  rw [secs_len fun s hs => h s (List.mem_of_mem_take hs),List.length_take]
  congr 1; omega
 have h2 := h _ (List.getElem_mem hk)
 rw [e2]
 conv => lhs; rw [e1]
 rw [secs_append,secs_append,secs_cons,secs_cons,← h1]
 have e3 : bcells l[k] = bcells (l[k].take x.length) ++ bcells (l[k].drop x.length) := by rw [← bcells_append,List.take_append_drop]
 rw [e3,bcells_append,List.append_assoc,List.append_assoc]
 exact over_app _ _ _ _ (by rw [bcells_length,bcells_length,List.length_take]; omega)
def ints (l : List Int) : List Value := l.map (.int .i64)
theorem ints_drop (l : List Int) (i : Nat) : (ints l).drop i = ints (l.drop i) := by simp [ints]
theorem add_block (ad : Addr) (i : Nat) : (ad.add i).block = ad.block := by unfold Addr.add; split <;> rfl
theorem bcells_ones (l : List UInt8) : (bcells l).all (·.oneCell') = true := by
 simp only [bcells,List.all_map,List.all_eq_true]; intro b hb; rfl
theorem slA_blk {a : Option Addr} {c i : Nat} : ∀ k ∈ blks (slA a c i 1),k ∈ blks a := by
 unfold slA
 intro k hk
 split at hk
 ·exact hk
 ·cases a with
  | none => exact hk
  | some ad =>
   have h := add_block ad (i * 1)
   simp only [Option.map_some,blks,List.mem_singleton] at hk ⊢
   rw [hk,h]
theorem crashC_spec (q : Nat) (a : Option Addr) (c : Nat) (ps : List Int) (w : World) (hq : Blk w q [.slice a ps.length c] 30) (hc : Cells w a (ints ps)) (hl : ps.length ≤ c) :
  Calls Tryz.prog 62 #[.pointer (some ⟨q,0,none⟩)] w fun e w' => e = .returned (.int .i64 (ps.headD 0)) ∧ ∃ a' c',Hp [q] w w' [.blk q [.slice a' ps.tail.length c'] 30] ∧ (∀ W,Cells W a (ints ps) → Cells W a' (ints ps.tail)) ∧ (∀ k ∈ blks a',k ∈ blks a) ∧ ps.tail.length ≤ c' := by
 apply crashC.ok; unfold crashC.vc
 have H : Hp [q] w w [.blk q [.slice a ps.length c] 30] := Hp.start1 (a := .blk q [.slice a ps.length c] 30) hq
 refine ⟨_,_,_,onP_mk rfl (H.ld (by exact ⟨rfl,rfl,rfl,rfl⟩) sclSI (.head _) rfl),?_⟩
 cases ps with
 | nil => exact br_dec (fun _ => ⟨rfl,a,c,H,fun _ h => h,fun k hk => hk,Nat.zero_le _⟩) (fun h => absurd rfl h)
 | cons p r =>
  refine br_dec (fun h => by simp at h; omega) (fun _ => ?_)
  refine ⟨_,_,_,onP_mk rfl (H.ld (by exact ⟨rfl,rfl,rfl,rfl⟩) sclSI (.head _) rfl),?_⟩
  obtain ⟨ad,ha,hcell⟩ := hc 0 (.int .i64 p) rfl
  have h0 : ad.add 0 = ad := by
   unfold Addr.add; split <;> simp_all
  rw [h0] at hcell
  refine onP_mk ha ⟨⟨by omega,by simp only [List.length_cons]; omega⟩,p,ld_cell sclInt.agg hcell,?_⟩
  refine ⟨_,_,_,onP_mk rfl (H.ld (by exact ⟨rfl,rfl,rfl,rfl⟩) sclSI (.head _) rfl),?_⟩
  refine ⟨⟨by omega,by simp only [List.length_cons]; omega⟩,?_⟩
  refine onP_mk rfl ?_
  refine Hp.st H (by exact ⟨rfl,rfl,rfl,rfl⟩) sclSI rfl rfl (by simp) rfl ?_
  clear H; intro w1 H
  refine ⟨rfl,slA a c 1 1,c - 1,?_,?_,slA_blk,by simp only [List.length_cons,List.tail_cons] at hl ⊢; omega⟩
  ·have e1 : (p :: r).length - Int.toNat 1 = (p :: r).tail.length := by simp
   rw [e1] at H
   exact H
  ·intro W hW
   have := hW.slA (c := c) (i := 1) (by simpa [ints] using hl)
   rwa [ints_drop] at this
theorem bigSec : bigL Tryz.prog 85 [] = bcells zsec := by kernel_rfl
theorem fill_len (L : List (List UInt8)) (n : Nat) : (fill L n).length = max L.length (n + 1) := by simp only [fill,List.length_append,List.length_replicate]; omega
theorem fill_ok {L : List (List UInt8)} (h : ∀ s ∈ L,s.length = 512) (n : Nat) : ∀ s ∈ fill L n,s.length = 512 := fun s hs => by
 rcases List.mem_append.1 hs with hs | hs
 ·exact h s hs
 ·rw [List.eq_of_mem_replicate hs]; simp [zsec]
theorem mend_ok {now L : List (List UInt8)} (hn : ∀ s ∈ now,s.length = 512) (h : ∀ s ∈ L,s.length = 512) {n p : Nat} (hp : p ≤ 512) (hlt : n < now.length) : (∀ s ∈ mend now L n p,s.length = 512) ∧ (L.length ≤ now.length → (mend now L n p).length ≤ now.length) ∧ L.length ≤ (mend now L n p).length := by
 unfold mend
 split
 ·exact ⟨h,fun h => h,Nat.le_refl _⟩
 ·refine ⟨fun s hs => ?_,fun h2 => ?_,?_⟩
  ·rcases List.mem_or_eq_of_mem_set hs with hs | rfl
   ·exact fill_ok h n s hs
   ·have h1 := hn _ (List.getElem_mem hlt)
    have h2 : n < (fill L n).length := by rw [fill_len]; omega
    have h3 := fill_ok h n _ (List.getElem_mem h2)
    simp only [List.getD_eq_getElem?_getD,List.getElem?_eq_getElem hlt,List.getElem?_eq_getElem h2,Option.getD_some,List.length_append,List.length_take,List.length_drop,h1,h3]
    omega
  ·rw [List.length_set,fill_len]; omega
  ·rw [List.length_set,fill_len]; omega
theorem foundL_ok {now : List (List UInt8)} (hn : ∀ s ∈ now,s.length = 512) : ∀ (ns : List Nat) (ps : List Int) (L : List (List UInt8)),(∀ n ∈ ns,n < now.length) → (∀ s ∈ L,s.length = 512) → L.length ≤ now.length → (∀ s ∈ foundL now ns ps L,s.length = 512) ∧ (foundL now ns ps L).length ≤ now.length
 | [],ps,L,h1,h2,h3 => ⟨h2,h3⟩
 | n :: r,ps,L,h1,h2,h3 => by
  obtain ⟨h4,h5,_⟩ := mend_ok hn h2 (n := n) (p := pick (ps.headD 0)) (by simp only [pick]; omega) (h1 n (.head _))
  exact foundL_ok hn r _ _ (fun m hm => h1 m (.tail _ hm)) h4 (h5 h3)
theorem found_ok {g : Fl} (h : g.Ok) (ps : List Int) : (g.found ps).Ok ∧ (g.found ps).now.length ≤ g.now.length := by
 obtain ⟨h1,h2⟩ := foundL_ok h.now g.since ps g.firm h.below h.firm h.len
 exact ⟨⟨h1,h1,by simp [Fl.found],by simp [Fl.found],Nat.le_refl _⟩,h2⟩
set_option maxHeartbeats 4000000 in
theorem found_spec (f : FW) (g : Fl) (hg : g.Ok) (hk : (f.al.map (·.1)).Perm (g.since.map fun n : Nat => (n : Int))) (hN : g.now.length ≤ 1073741824) (q : Nat) (pa : Option Addr) (pc : Nat) (ps : List Int) (w : World) (st : Std w (flL f g ++ [.blk q [.slice pa ps.length pc] 30]))
  (hc : ∀ W,Chg (feet (flL f g ++ [.blk q [.slice pa ps.length pc] 30])) w W → Cells W pa (ints ps)) (hl : ps.length ≤ pc) :
  Calls Tryz.prog 63 #[.pointer (some ⟨f.b,0,none⟩),.func (.func 62) #[] #[.pointer (some ⟨q,0,none⟩)]] w fun e w' => ∃ (f' : FW) (a' : Option Addr) (c' : Nat),e = .returned (.pointer (some ⟨f'.b,0,none⟩)) ∧ f'.al = [] ∧
   Hp (feet (flL f g ++ [.blk q [.slice pa ps.length pc] 30])) w w' (flL f' (g.found ps) ++ (flL f g ++ [.blk q [.slice a' (ps.drop g.since.length).length c'] 30])) ∧ (∀ W,Cells W pa (ints ps) → Cells W a' (ints (ps.drop g.since.length))) ∧ (∀ k ∈ blks a',k ∈ blks pa) ∧ (ps.drop g.since.length).length ≤ c' := by
 apply found.ok; unfold found.vc
 have H := Hp.startL st
 generalize hB : feet (flL f g ++ [.blk q [.slice pa ps.length pc] 30]) = B at H hc ⊢
 simp only [flL,List.cons_append,List.nil_append] at H
 refine onP_mk rfl ?_
 ((repeat apply Exists.intro); first | refine ⟨H.ld (by exact ⟨rfl,rfl,rfl,rfl⟩) (by first | exact sclInt | exact sclBool | exact sclStr | exact sclMSI | exact sclSF | exact sclPF | exact sclSS | exact sclMIB | exact sclSC | exact sclC | exact sclSI) (by repeat first | exact .head _ | refine .tail _ ?_) rfl,?_⟩)
 refine callV (cloneS_spec f.af g.firm.length f.cf (secs g.firm) w (H.ok _ (.tail _ (.tail _ (.head _)))) (secs_ones _) (by have := hg.len; omega)) ?_
 rintro e w1 ⟨a0,c0,rfl,H'⟩; replace H := H.ext H'; clear H'
 simp only [List.cons_append,List.nil_append] at H
 refine ⟨_,_,_,rfl,?_⟩
 refine onP_mk rfl ?_
 ((repeat apply Exists.intro); first | refine ⟨H.ld (by exact ⟨rfl,rfl,rfl,rfl⟩) (by first | exact sclInt | exact sclBool | exact sclStr | exact sclMSI | exact sclSF | exact sclPF | exact sclSS | exact sclMIB | exact sclSC | exact sclC | exact sclSI) (by repeat first | exact .head _ | refine .tail _ ?_) rfl,?_⟩)
 refine callV (keysI_spec (some f.bm) w1) ?_
 rintro e w2 ⟨b2,rfl,H'⟩; replace H := H.ext H'; clear H'
 simp only [List.cons_append,List.nil_append] at H
 refine ⟨_,rfl,?_⟩
 have hkl := hk.length_eq
 simp only [List.length_map] at hkl
 have hsl : g.since.length ≤ g.now.length := by
  have : ∀ (l : List Nat) (lo N : Nat),l.Pairwise (· < ·) → (∀ n ∈ l,lo ≤ n ∧ n < N) → lo ≤ N → l.length ≤ N - lo := by
   intro l
   induction l with
   | nil => intro lo N _ _ _; simp
   | cons x r ih =>
    intro lo N hs hb hlo
    have hp := List.pairwise_cons.1 hs
    have hx := hb x (.head _)
    have := ih (x + 1) N hp.2 (fun n hn => ⟨hp.1 n hn,(hb n (.tail _ hn)).2⟩) (by omega)
    simp only [List.length_cons]; omega
  have := this g.since 0 g.now.length hg.since (fun n hn => ⟨Nat.zero_le _,hg.below n hn⟩) (Nat.zero_le _)
  omega
 have hs := sortedI_spec b2 f.bm f.al w2 (H.ok _ (.head _)) (H.ok (.imap f.bm .i64 f.al) (by repeat first | exact .head _ | refine .tail _ ?_)) (g.since.map fun n : Nat => (n : Int)) hk.symm (List.pairwise_map.2 (hg.since.imp fun h => by omega)) (fun n hn => by
  obtain ⟨m,hm,rfl⟩ := List.mem_map.1 hn
  have := hg.below m hm
  omega) (by omega)
 refine callV hs ?_
 rintro e w3 ⟨a3,c3,rfl,H'⟩; replace H := H.ext H'; clear H'
 simp only [List.cons_append,List.nil_append,List.length_map] at H ⊢
 replace H := H.del1
 refine ⟨a3,_,c3,rfl,?_⟩
 obtain ⟨FF,hFF⟩ : ∃ FF : List Asn,FF = [.blk f.b [.slice f.an g.now.length f.cn,.slice f.af g.firm.length f.cf,.map (some f.bm)] 80,.own 85 512 f.an g.now.length f.cn (secs g.now),.own 85 512 f.af g.firm.length f.cf (secs g.firm),.imap f.bm .i64 f.al] := ⟨_,rfl⟩
 have mF1 : Asn.blk f.b [.slice f.an g.now.length f.cn,.slice f.af g.firm.length f.cf,.map (some f.bm)] 80 ∈ FF := by rw [hFF]; exact .head _
 have mF2 : Asn.own 85 512 f.an g.now.length f.cn (secs g.now) ∈ FF := by rw [hFF]; exact .tail _ (.head _)
 refine LoopP.mk (fun (m : Nat) (s : (Option Addr × Nat × Nat) × Int) (w' : World) => ∃ (k : Nat) (L : List (List UInt8)) (a : Option Addr) (c : Nat) (a' : Option Addr) (c' : Nat),m = g.since.length - k ∧ k ≤ g.since.length ∧ s = ((a,L.length,c),(k : Int)) ∧ (∀ s ∈ L,s.length = 512) ∧ L.length ≤ g.now.length ∧
   foundL g.now (g.since.drop k) (ps.drop k) L = foundL g.now g.since ps g.firm ∧
   Hp B w w' (.own 85 512 a L.length c (secs L) :: .blk q [.slice a' (ps.drop k).length c'] 30 :: .own 3 1 a3 g.since.length c3 ((g.since.map fun n : Nat => (n : Int)).map (.int .i64)) :: FF) ∧
   (∀ W,Cells W pa (ints ps) → Cells W a' (ints (ps.drop k))) ∧ (∀ j ∈ blks a',j ∈ blks pa) ∧ (ps.drop k).length ≤ c') g.since.length ⟨0,g.firm,a0,c0,pa,pc,by omega,by omega,rfl,hg.firm,hg.len,rfl,?_,fun _ h => h,fun _ h => h,hl⟩ ?_
 ·rw [hFF]
  ((try dsimp only [List.cons_append,List.nil_append]); (try dsimp only [List.cons_append,List.nil_append] at H); refine Hp.perm H ?_; (repeat (apply perm_step; (focus first | exact perm_p0 | exact perm_p1 | exact perm_p2 | exact perm_p3 | exact perm_p4 | exact perm_p5 | exact perm_p6 | exact perm_p7 | exact perm_p8 | exact perm_p9))); exact List.Perm.refl _)
 clear H
 rintro m s w4 next ⟨k,L,a,c,a',c',rfl,hkl2,rfl,hL,hLn,hfd,H,hcc,hbb,hll⟩ hnext
 dsimp only
 refine br_dec (fun h => ?_) (fun h => ?_)
 ·have hk2 : k < g.since.length := by omega
  obtain ⟨n,hn⟩ : ∃ n,g.since[k]? = some n := ⟨_,List.getElem?_eq_getElem hk2⟩
  have hnb := hg.below n (List.mem_of_getElem? hn)
  have hdrop : g.since.drop k = n :: g.since.drop (k + 1) := by
   rw [List.drop_eq_getElem_cons hk2]
   rw [List.getElem?_eq_getElem hk2] at hn
   rw [Option.some.inj hn]
  obtain ⟨ad,ha,hld⟩ := H.ldO (P := Tryz.prog) (w' := w4) (t := 3) (o := Int.toNat (k : Int) * 1) (v := .int .i64 (n : Int)) (by exact ⟨rfl,rfl,rfl,rfl⟩) sclInt (.tail _ (.tail _ (.head _))) (by rw [Int.toNat_natCast,Nat.mul_one]; simp [hn])
  refine onP_mk ha ⟨⟨by omega,by omega⟩,_,hld,?_⟩
  have hq4 : Blk w4 q [.slice a' (ps.drop k).length c'] 30 := H.ok _ (.tail _ (.head _))
  have hcc4 : Cells w4 a' (ints (ps.drop k)) := hcc w4 (hc w4 H.chg)
  refine callX_fn Tryz.func62 rfl (callV (crashC_spec q a' c' (ps.drop k) w4 hq4 hcc4 hll) ?_)
  rintro e w5 ⟨rfl,a5,c5,H',hc5,hb5,hl5⟩
  replace H := H.pull1.use11 H'; clear H'
  have htail : (ps.drop k).tail = ps.drop (k + 1) := by rw [List.tail_drop]
  rw [htail] at H hc5 hl5
  have hc5' : ∀ W,Cells W pa (ints ps) → Cells W a5 (ints (ps.drop (k + 1))) := fun W hW => hc5 W (hcc W hW)
  have hb5' : ∀ j ∈ blks a5,j ∈ blks pa := fun j hj => hbb j (hb5 j hj)
  have hfd2 : foundL g.now (g.since.drop (k + 1)) (ps.drop (k + 1)) (mend g.now L n (pick ((ps.drop k).headD 0))) = foundL g.now g.since ps g.firm := by
   rw [← hfd,hdrop,foundL,htail]
  refine ⟨_,rfl,?_⟩
  generalize hp : (ps.drop k).headD 0 = p at hfd2 ⊢
  refine br_dec (fun h0 => ?_) (fun h0 => ?_)
  ·have hp0 : pick p = 0 := by simp only [pick]; omega
   rw [hp0,mend,if_pos rfl] at hfd2
   refine ⟨inR64.2 (by omega),?_⟩
   exact hnext (g.since.length - (k + 1)) _ _ (by omega) ⟨k + 1,L,a,c,a5,c5,rfl,by omega,by simp,hL,hLn,hfd2,H.pull1,hc5',hb5',hl5⟩
  ·have hp0 : pick p ≠ 0 := by simp only [pick]; omega
   have hp512 : pick p ≤ 512 := by simp only [pick]; omega
   have hpi : min (max p 0) 512 = (pick p : Int) := by simp only [pick]; omega
   rw [hpi]
   refine LoopP.mk (fun (m : Nat) (s : Option Addr × Nat × Nat) (w' : World) => ∃ (j : Nat) (a : Option Addr) (c : Nat),m = n + 1 - (L.length + j) ∧ (j = 0 ∨ L.length + j ≤ n + 1) ∧ s = (a,L.length + j,c) ∧
    Hp B w w' (.own 85 512 a (L.length + j) c (secs (L ++ List.replicate j zsec)) :: .blk q [.slice a5 (ps.drop (k + 1)).length c5] 30 :: .own 3 1 a3 g.since.length c3 ((g.since.map fun n : Nat => (n : Int)).map (.int .i64)) :: FF)) (n + 1 - (L.length + 0)) ⟨0,a,c,rfl,.inl rfl,rfl,by rw [List.replicate_zero,List.append_nil]; exact H.pull1⟩ ?_
   clear H w5
   rintro m s w5 next2 ⟨j,a,c,rfl,hj,rfl,H⟩ hnext2
   dsimp only
   refine br_dec (fun h1 => ?_) (fun h1 => ?_)
   ·rw [bigSec]
    have hzl : (bcells zsec).length = 512 := by simp [bcells,zsec]
    refine ⟨_,_,buildOne eltSec (by omega) (by omega) hzl,?_⟩
    intro b1 w6 hn; replace H := H.new (by exact ⟨rfl,rfl,rfl,rfl⟩) hn; clear hn
    refine Hp.app eltSec (by omega) H.pull1 (by exact ⟨rfl,rfl,rfl,rfl⟩) (Blk.src undSS ((H.go (w' := w6.drew) (by exact ⟨rfl,rfl,rfl,rfl⟩)).blk (.head _)) (by rw [hzl]) (by simp [bcells]; intros; rfl)) (by simp only [maxLen]; omega) (by omega) ?_
    clear H; intro a7 c7 w7 H
    replace H := H.drop1
    refine hnext2 (n + 1 - (L.length + (j + 1))) _ _ (by omega) ⟨j + 1,a7,c7,rfl,.inr (by omega),rfl,?_⟩
    have e1 : secs (L ++ List.replicate j zsec) ++ bcells zsec = secs (L ++ List.replicate (j + 1) zsec) := by
     rw [List.replicate_succ',← List.append_assoc,secs_append (L ++ List.replicate j zsec),secs_one]
    rw [e1] at H
    exact H
   ·have hfl : L ++ List.replicate j zsec = fill L n := by
     rw [fill]; congr 2; omega
    have hlen : (fill L n).length = L.length + j := by rw [← hfl]; simp
    rw [hfl,← hlen] at H
    rw [← hlen]
    rw [← hlen] at h1
    have hfo := fill_ok hL n
    have hnl : n < (fill L n).length := by omega
    have hne : a ≠ none := by
     rintro rfl
     have hO : Own w5 0 85 512 none (fill L n).length c (secs (fill L n)) := H.ok _ (.head _)
     rcases hO.2 with ⟨_,h,_⟩ | ⟨_,_,_,h,_⟩
     ·omega
     ·cases h
    obtain ⟨ad,had⟩ := Option.ne_none_iff_exists'.1 hne
    refine onP_mk had ⟨⟨by omega,by omega⟩,⟨by omega,by omega⟩,?_⟩
    replace H := H.drew
    refine onP_mk rfl ?_
    refine ⟨_,_,_,H.ld (by exact ⟨rfl,rfl,rfl,rfl⟩) sclSS (.tail _ (.tail _ (.tail _ mF1))) rfl,?_⟩
    have hcN : Cells w5.drew f.an (secs g.now) := (H.ownA (.tail _ (.tail _ (.tail _ mF2)))).cells
    have hsn := hg.now _ (List.getElem_mem hnb)
    obtain ⟨an,han⟩ := hcN.some (by
     intro h
     have := congrArg List.length h
     rw [secs_len hg.now] at this
     simp at this; omega)
    refine onP_mk han ⟨⟨by omega,by omega⟩,?_⟩
    rw [Int.toNat_natCast,Int.toNat_natCast]
    have hgd : g.now.getD n [] = g.now[n] := by simp [hnb]
    have hxl : (g.now[n].take (pick p)).length = pick p := by rw [List.length_take]; omega
    refine Hp.cpyP H (by exact ⟨rfl,rfl,rfl,rfl⟩) undSU8 sclU8.size had (news := bcells (g.now[n].take (pick p))) ?_ (by rw [bcells_length,hxl]) (bcells_ones _) hp512 (by rw [secs_len hfo]; omega) ?_
    ·intro i u hi
     have h2 := secs_at hg.now (List.getElem?_eq_getElem hnb)
     have h3 : (secs g.now)[n * 512 + i]? = some u := by
      have h4 : (bcells g.now[n])[i]? = some u := by
       have e1 : bcells (g.now[n].take (pick p)) = (bcells g.now[n]).take (pick p) := by simp [bcells,List.map_take]
       rw [e1,List.getElem?_take] at hi
       split at hi
       ·exact hi
       ·cases hi
      rw [← h2,List.getElem?_take] at h4
      split at h4
      ·rwa [List.getElem?_drop] at h4
      ·cases h4
     obtain ⟨ad',e1,e2⟩ := hcN _ u h3
     rw [han] at e1; cases e1
     rw [add_add]; exact e2
    clear H; intro w6 H
    rw [secs_part hfo (by rw [hxl]; exact hp512) hnl,hxl] at H
    have hm : mend g.now L n (pick p) = (fill L n).set n (g.now[n].take (pick p) ++ ((fill L n).getD n []).drop (pick p)) := by
     rw [mend,if_neg hp0,hgd]
    rw [← hm] at H
    have hml : (mend g.now L n (pick p)).length = (fill L n).length := by rw [hm,List.length_set]
    rw [← hml] at H ⊢
    obtain ⟨hm1,hm2,_⟩ := mend_ok hg.now hL (n := n) (p := pick p) hp512 hnb
    refine ⟨inR64.2 (by omega),?_⟩
    exact hnext (g.since.length - (k + 1)) _ _ (by omega) ⟨k + 1,mend g.now L n (pick p),a,c,a5,c5,rfl,by omega,by simp,hm1,hm2 hLn,hfd2,H,hc5',hb5',hl5⟩
 ·have hk3 : k = g.since.length := by omega
  subst hk3
  have hfd3 : L = foundL g.now g.since ps g.firm := by rw [← hfd,List.drop_length]; rfl
  have hLf : L = (g.found ps).now := hfd3
  refine callV (cloneS_spec a L.length c (secs L) w4 (H.ok _ (.head _)) (secs_ones _) (by omega)) ?_
  rintro e w5 ⟨a6,c6,rfl,H'⟩; replace H := H.ext H'; clear H'
  simp only [List.cons_append,List.nil_append] at H
  refine ⟨_,_,_,rfl,?_⟩
  intro b7 w7 hn; replace H := H.newI (by exact ⟨rfl,rfl,rfl,rfl⟩) .i64 hn; clear hn
  intro b8 w8 hn; replace H := H.new (by exact ⟨rfl,rfl,rfl,rfl⟩) hn; clear hn
  refine ⟨⟨b8,a6,c6,a,c,b7,[]⟩,a',c',rfl,rfl,?_,hcc,hbb,hll⟩
  have e1 : flL ⟨b8,a6,c6,a,c,b7,[]⟩ (g.found ps) = [.blk b8 [.slice a6 L.length c6,.slice a L.length c,.map (some b7)] 80,.own 85 512 a6 L.length c6 (secs L),.own 85 512 a L.length c (secs L),.imap b7 .i64 []] := by
   rw [hfd3]; rfl
  rw [e1]
  rw [hFF] at H
  have H2 : Hp B w w8 (.own 3 1 a3 g.since.length c3 ((g.since.map fun n : Nat => (n : Int)).map (.int .i64)) :: ([.blk b8 [.slice a6 L.length c6,.slice a L.length c,.map (some b7)] 80,.own 85 512 a6 L.length c6 (secs L),.own 85 512 a L.length c (secs L),.imap b7 .i64 []] ++ (flL f g ++ [.blk q [.slice a' (ps.drop g.since.length).length c'] 30]))) := by
   simp only [flL,List.cons_append,List.nil_append]
   ((try dsimp only [List.cons_append,List.nil_append]); (try dsimp only [List.cons_append,List.nil_append] at H); refine Hp.perm H ?_; (repeat (apply perm_step; (focus first | exact perm_p0 | exact perm_p1 | exact perm_p2 | exact perm_p3 | exact perm_p4 | exact perm_p5 | exact perm_p6 | exact perm_p7 | exact perm_p8 | exact perm_p9))); exact List.Perm.refl _)
  exact H2.drop
end Go.Proofs.YtdeebigmpffnbaaGreat
