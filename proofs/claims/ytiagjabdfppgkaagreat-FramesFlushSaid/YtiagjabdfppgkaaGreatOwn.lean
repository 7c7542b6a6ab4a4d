/- Slices of one's own: a store at a place, a load. -/
import Derived.Test.YtiagjabdfppgkaaGreatBytes
set_option linter.unusedVariables false
set_option linter.unusedSimpArgs false
namespace Go.Vc
open Go

theorem over_len (l : List Value) (o : Nat) (cs : List Value) (h : o + l.length ≤ cs.length) : (over l o cs).length = cs.length := over_length _ _ _ h
theorem over_take_in (l : List Value) (o : Nat) (cs : List Value) (n : Nat) (h : o + l.length ≤ n) (hn : n ≤ cs.length) : (over l o cs).take n = over l o (cs.take n) := by
  apply List.ext_getElem?
  intro k
  have h1 : o + l.length ≤ (cs.take n).length := by rw [List.length_take]; omega
  rw [List.getElem?_take, over_get l o cs (by omega), over_get l o (cs.take n) h1, List.getElem?_take]
  by_cases h2 : k < n
  · rw [if_pos h2, if_pos h2]
  · rw [if_neg h2, if_neg h2, if_neg (by omega)]
theorem Own.st {P : Program} {t : TypeId} {w : World} {e : TypeId} {sz : Nat} {a : Option Addr} {n c : Nat} {xs : List Value} (h : Own w 0 e sz a n c xs) {ad : Addr} (ha : a = some ad) {o : Nat} {v : Value} (hs : sizeV P t = some v.cells.size) (hv : v.cells.toList.all (·.oneCell') = true) (hl : o + v.cells.size ≤ xs.length) :
    ∃ w1, St P t w (ad.add o) v w1 ∧ Own w1 0 e sz a n c (over v.cells.toList o xs) ∧ Chg (blks a) w w1 := by
  have hlen := h.1
  rcases h.2 with ⟨rfl, _⟩ | ⟨g, cur, fz, rfl, hb, hg, hf, hnc, hcm, hcs, ht⟩
  · cases ha
  cases ha
  have hnm : n * sz ≤ c * sz := Nat.mul_le_mul_right _ hnc
  have hcur : w.heap[g]? = some (.cells cur.toList.toArray e fz) := by simpa using hg
  have hcl : cur.toList.length = cur.size := Array.length_toList
  have hvl : v.cells.toList.length = v.cells.size := Array.length_toList
  have hrun := run_storeCells_blk (P := P) (b := g) (T := e) (fz := fz) v.cells.toList w cur.toList ⟨g, o, none⟩ o 0 rfl (fun j => by simp [add_lit]) hcur (by omega) (fun k h1 h2 => hf k (by omega)) (fun u hu => List.all_eq_true.1 hv u hu)
  have e1 : (storeVar t ((⟨g, 0, none⟩ : Addr).add o) v).run P w = (storeCells ⟨g, o, none⟩ v.cells.toList).run P w := by
    rw [add_lit, Nat.zero_add]
    simp only [storeVar, Sem.run_bind, run_size hs, Result.andThen_ok]
    rw [if_neg (by simp)]
  refine ⟨_, e1.trans hrun, ?_, ?_⟩
  · split
    · rename_i hn; rw [hn, over_nil]; exact h
    · refine ⟨by rw [over_len _ _ _ (by omega)]; exact hlen, .inr ⟨g, _, fz, rfl, hb, setB_at (Array.getElem?_eq_some_iff.1 hg).1, ?_, hnc, hcm, ?_, ?_⟩⟩
      · rw [List.size_toArray, over_len _ _ _ (by omega), hcl]; exact hf
      · rw [List.size_toArray, over_len _ _ _ (by omega), hcl]; exact hcs
      · simp only [List.toList_toArray]
        rw [over_take_in _ _ _ _ (by omega) (by omega), ht]
  · split
    · exact Chg.refl _ _
    · exact setB_chg _ _ _
theorem Own.at {w : World} {e : TypeId} {sz : Nat} {a : Option Addr} {n c : Nat} {xs : List Value} (h : Own w 0 e sz a n c xs) {j : Nat} (hj : j < xs.length) : ∃ ad, a = some ad ∧ w.cell? (ad.add j) = some xs[j] :=
  h.cells j _ (List.getElem?_eq_getElem hj)
theorem ld_at {P : Program} {w : World} {t : TypeId} (T : Scl P t) {ad : Addr} {v : Value} (h : w.cell? ad = some v) : Ld P t w ad v := ld_cell T.agg h
/-- a part of a row of cells, as an aggregate -/
theorem Cells.ldA {P : Program} {w : World} {a : Option Addr} {xs : List Value} (h : Cells w a xs) {t : TypeId} {n : Nat} (T : Agg P t n) {ad : Addr} (ha : a = some ad) {o : Nat} {vs : List Value} (hv : (xs.drop o).take n = vs) (hl : vs.length = n) : Ld P t w (ad.add o) (.agg vs.toArray) := by
  subst hl ha
  refine ld_agg T.agg T.size fun j v hj => ?_
  rw [add_add]
  obtain ⟨ad', e1, e2⟩ := h (o + j) v (by
    rw [← hv, List.getElem?_take] at hj
    split at hj
    · simpa using hj
    · cases hj)
  cases e1; exact e2
theorem Cells.ld {P : Program} {w : World} {a : Option Addr} {xs : List Value} (h : Cells w a xs) {t : TypeId} (T : Scl P t) {ad : Addr} (ha : a = some ad) {o : Nat} {v : Value} (hv : xs[o]? = some v) : Ld P t w (ad.add o) v := by
  subst ha
  obtain ⟨ad', e1, e2⟩ := h o v hv
  cases e1; exact ld_cell T.agg e2
theorem Cells.some {w : World} {a : Option Addr} {xs : List Value} (h : Cells w a xs) (hx : xs ≠ []) : ∃ ad, a = some ad := by
  cases xs with
  | nil => exact absurd rfl hx
  | cons v r => obtain ⟨ad, e, _⟩ := h 0 v rfl; exact ⟨ad, e⟩

section
variable {P : Program} {B : List Nat} {w0 w w' : World} {L : List Asn} {e t : TypeId} {sz : Nat} {a : Option Addr} {n c o : Nat} {xs : List Value} {v : Value}
theorem Hp.stO (H : Hp B w0 w (.own e sz a n c xs :: L)) (eq : Eqw w w') {ad : Addr} (ha : a = some ad) (hs : sizeV P t = some v.cells.size) (hv : v.cells.toList.all (·.oneCell') = true) (hl : o + v.cells.size ≤ xs.length) {xs' : List Value} (hx : over v.cells.toList o xs = xs') {G : World → Prop}
    (k : ∀ w1, Hp B w0 w1 (.own e sz a n c xs' :: L) → G w1) : ∃ w1, St P t w' (ad.add o) v w1 ∧ G w1 := by
  obtain ⟨w1, h1, h2, h3⟩ := Own.st (P := P) (t := t) ((H.go eq).ok _ (.head _)) ha hs hv hl
  rw [hx] at h2
  exact ⟨w1, h1, k w1 ((H.go eq).set h3 h2 fun k hk => .inl hk)⟩
end
theorem over1 (v : Value) (o : Nat) (xs : List Value) (h : o < xs.length) : over [v] o xs = xs.set o v := by
  rw [over_cons v [] o xs h, over_nil]
section
variable {P : Program} {B : List Nat} {w0 w w' : World} {L : List Asn} {e t : TypeId} {sz : Nat} {a : Option Addr} {n c o : Nat} {xs : List Value} {v : Value}
theorem Hp.stO1 (H : Hp B w0 w (.own e sz a n c xs :: L)) (eq : Eqw w w') (T : Scl P t) {ad : Addr} (ha : a = some ad) (hv : v.cells = #[v]) (h1 : v.oneCell' = true) (hl : o < xs.length) {G : World → Prop}
    (k : ∀ w1, Hp B w0 w1 (.own e sz a n c (xs.set o v) :: L) → G w1) : ∃ w1, St P t w' (ad.add o) v w1 ∧ G w1 :=
  Hp.stO H eq ha (by rw [hv]; exact T.size) (by rw [hv]; simpa using h1) (by rw [hv]; exact hl) (by rw [hv]; exact over1 v o xs hl) k
end
/-! ### Objects; ranges over functions -/
def objA (l : Nat) (o : Obj) : Asn := .any [l] fun w => w.heap[l]? = some o
theorem objA_ok {l : Nat} {o : Obj} {w : World} (h : w.heap[l]? = some o) : (objA l o).ok w :=
  ⟨fun k hk => by rw [List.mem_singleton] at hk; subst hk; exact (Array.getElem?_eq_some_iff.1 h).1, fun w' he => (he l (by simp)).trans h⟩
section
variable {P : Program} {B : List Nat} {w0 w w' w1 : World} {L : List Asn} {l : Nat} {o o' : Obj}
theorem Hp.obj (H : Hp B w0 w L) (m : objA l o ∈ L) : w.heap[l]? = some o := (H.ok _ m).2 w fun _ _ => rfl
theorem Hp.newO (H : Hp B w0 w L) (e : Eqw w w') (h : New w' o l w1) : Hp B w0 w1 (objA l o :: L) :=
  (H.go e).add h.chg (objA_ok h.blk) (by intro k hk; simp [objA, Asn.foot] at hk; subst hk; exact h.num ▸ Nat.le_refl _)
theorem Hp.putO (H : Hp B w0 w (objA l o :: L)) : Hp B w0 (w.putObj l o') (objA l o' :: L) := by
  have hl : l < w.heap.size := (Array.getElem?_eq_some_iff.1 (H.obj (.head _))).1
  exact H.set (setB_chg w l o') (objA_ok (World.putObj_heap_same hl)) (fun k hk => .inl hk)
/-- shut a block of deferred calls -/
theorem Hp.shut (H : Hp B w0 w (objA l (.deferred (some [])) :: L)) {G : World → Prop} (k : ∀ w1, Hp B w0 w1 L → G w1) : ∃ w1, ShutD w l w1 ∧ G w1 :=
  ⟨_, ⟨H.obj (.head _), rfl⟩, k _ (H.putO (o' := .deferred none)).drop⟩
end
theorem callX {P : Program} {fv : Value} {args : List Value} {w : World} {R R' : Ending → World → Prop} (h : CallX P fv args w R) (hr : ∀ e w', R e w' → R' e w') : CallX P fv args w R' := callX_mono hr h
end Go.Vc
