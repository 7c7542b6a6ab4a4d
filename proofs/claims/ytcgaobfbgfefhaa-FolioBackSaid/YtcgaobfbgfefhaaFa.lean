/- Folio: types; what a record is; 'named', 'element', 'Right'. -/
import Derived.Test.YtcgaobfbgfefhaaBytes
import Derived.Test.YtcgaobfbgfefhaaFns
set_option linter.unusedVariables false
set_option linter.unusedSimpArgs false
namespace Go.Proofs.Ytcgaobfbgfefhaa
open Go Go.Vc
theorem scl3 : Scl Go.Proofs.Try.prog 3 := scl_of (by kernel_rfl)
theorem scl9 : Scl Go.Proofs.Try.prog 9 := scl_of (by kernel_rfl)
theorem scl32 : Scl Go.Proofs.Try.prog 32 := scl_of (by kernel_rfl)
theorem scl22 : Scl Go.Proofs.Try.prog 22 := scl_of (by kernel_rfl)
theorem scl53 : Scl Go.Proofs.Try.prog 53 := scl_of (by kernel_rfl)
theorem scl26 : Scl Go.Proofs.Try.prog 26 := scl_of (by kernel_rfl)
theorem scl4 : Scl Go.Proofs.Try.prog 4 := scl_of (by kernel_rfl)
theorem scl5 : Scl Go.Proofs.Try.prog 5 := scl_of (by kernel_rfl)
theorem agg34 : Agg Go.Proofs.Try.prog 34 8 := agg_of (by kernel_rfl)
theorem agg24 : Agg Go.Proofs.Try.prog 24 8 := agg_of (by kernel_rfl)
theorem agg31 : Agg Go.Proofs.Try.prog 31 2 := agg_of (by kernel_rfl)
theorem agg57 : Agg Go.Proofs.Try.prog 57 2 := agg_of (by kernel_rfl)
theorem agg58 : Agg Go.Proofs.Try.prog 58 2 := agg_of (by kernel_rfl)
theorem agg52 : Agg Go.Proofs.Try.prog 52 2 := agg_of (by kernel_rfl)
theorem elt53 : Elt Go.Proofs.Try.prog 53 5 1 1 := elt_of (by kernel_rfl)
theorem elt26 : Elt Go.Proofs.Try.prog 26 9 1 16 := elt_of (by kernel_rfl)
theorem elt32 : Elt Go.Proofs.Try.prog 32 58 2 24 := elt_of (by kernel_rfl)
theorem elt22 : Elt Go.Proofs.Try.prog 22 52 2 24 := elt_of (by kernel_rfl)
theorem und9 : Go.Proofs.Try.prog.underlying 9 = some .string := by kernel_rfl
theorem und53 : Go.Proofs.Try.prog.underlying 53 = some (.slice 5) := by kernel_rfl
theorem und5 : Go.Proofs.Try.prog.underlying 5 = some (.int .u8) := by kernel_rfl

/-- a record -/
structure Rec where
  id : Int
  parent : Int
  kind : Int
  name : Int
  frm : Int
  to : Int
  text : ByteArray
  attrs : List (Int × ByteArray)

def attrCell (p : Int × ByteArray) : List Value := [.int .i64 p.1, .string p.2]
def attrCells (l : List (Int × ByteArray)) : List Value := l.flatMap attrCell
/-- a slice that reads as attributes -/
structure AtS (w : World) (a : Option Addr) (n : Nat) (l : List (Int × ByteArray)) : Prop where
  len : n = l.length
  cells : Cells w a (attrCells l)
theorem AtS.chg {w w' : World} {a : Option Addr} {n : Nat} {l : List (Int × ByteArray)} {B : List Nat} (h : AtS w a n l) (hc : Chg B w w') (hs : ∀ k ∈ blks a, k ∉ B) : AtS w' a n l := ⟨h.len, h.cells.chg hc hs⟩

def named1 (n : Int) : Prop := 1 ≤ n ∧ n ≤ 4000
instance (n : Int) : Decidable (named1 n) := by unfold named1; infer_instance
def elemP (r : Rec) : Prop := (∀ p ∈ r.attrs, named1 p.1 ∧ p.2.size ≤ 1500) ∧ (r.attrs.map (·.1)).Nodup ∧ named1 r.name ∧ r.text = ⟨#[]⟩ ∧ r.attrs.length ≤ 20
instance (r : Rec) : Decidable (elemP r) := by unfold elemP; infer_instance
def rightP (r : Rec) : Prop := 1 ≤ r.id ∧ r.id ≤ 2147483647 ∧ 0 ≤ r.parent ∧ r.parent ≤ 2147483647 ∧ 0 ≤ r.frm ∧ r.frm < r.to ∧ r.to ≤ 4611686018427387904 ∧ ((r.kind = 1 ∧ elemP r) ∨ (r.kind = 2 ∧ r.name = 0 ∧ r.attrs = [] ∧ r.text.size ≤ 1500))
instance (r : Rec) : Decidable (rightP r) := by unfold rightP; infer_instance

/-- the value of a record -/
def Rec.val (r : Rec) (a : Option Addr) (n c : Nat) : Value := .agg #[.int .i64 r.id, .int .i64 r.parent, .int .i64 r.kind, .int .i64 r.name, .int .i64 r.frm, .int .i64 r.to, .string r.text, .slice a n c]

theorem nope {p : Prop} [Decidable p] (h : ¬ p) : Ending.returned (Value.bool false) = .returned (.bool (decide p)) := by rw [decide_eq_false h]
theorem named_spec (n : Int) (w : World) : Calls Go.Proofs.Try.prog 32 #[.int .i64 n] w fun e w' => e = .returned (.bool (decide (named1 n))) ∧ Hp [] w w' [] := by
  apply named.ok
  unfold named.vc
  refine br_dec (fun h => ?_) (fun h => ?_)
  · exact ⟨by simp [named1, h], Hp.start w⟩
  · exact ⟨by simp [named1, h], Hp.start w⟩

theorem flat_get : ∀ (l : List (Int × ByteArray)) (k j : Nat) (p : Int × ByteArray) (v : Value), l[k]? = some p → (attrCell p)[j]? = some v → (attrCells l)[k * 2 + j]? = some v
  | x :: r, 0, j, p, v, hk, hj => by
    simp only [List.getElem?_cons_zero, Option.some.injEq] at hk; subst hk
    simp only [attrCells, List.flatMap_cons, Nat.zero_mul, Nat.zero_add]
    rw [List.getElem?_append_left (List.getElem?_eq_some_iff.1 hj).1]; exact hj
  | x :: r, k + 1, j, p, v, hk, hj => by
    simp only [List.getElem?_cons_succ] at hk
    have := flat_get r k j p v hk hj
    simp only [attrCells, List.flatMap_cons] at this ⊢
    rw [List.getElem?_append_right (by simp only [attrCell, List.length_cons, List.length_nil]; omega)]
    rw [show (k + 1) * 2 + j - (attrCell x).length = k * 2 + j by simp only [attrCell, List.length_cons, List.length_nil]; omega]
    exact this
theorem AtS.ld {w : World} {a : Option Addr} {n : Nat} {l : List (Int × ByteArray)} (h : AtS w a n l) {t : TypeId} (ht : Agg Go.Proofs.Try.prog t 2) {k : Nat} {p : Int × ByteArray} (hk : l[k]? = some p) {ad : Addr} (ha : a = some ad) :
    Ld Go.Proofs.Try.prog t w (ad.add (k * 2)) (.agg #[.int .i64 p.1, .string p.2]) := by
  subst ha
  refine ld_agg (vs := attrCell p) ht.agg ht.size fun j v hj => ?_
  obtain ⟨ad', e1, e2⟩ := h.cells (k * 2 + j) v (flat_get l k j p v hk hj)
  cases e1
  rw [add_add]; exact e2
theorem AtS.some {w : World} {a : Option Addr} {n : Nat} {l : List (Int × ByteArray)} (h : AtS w a n l) {k : Nat} (hk : k < l.length) : ∃ ad, a = some ad := by
  obtain ⟨ad, e1, _⟩ := h.cells (k * 2) _ (flat_get l k 0 _ _ (List.getElem?_eq_getElem hk) rfl)
  exact ⟨ad, e1⟩

def elemUp (l : List (Int × ByteArray)) : Prop := (∀ p ∈ l, named1 p.1 ∧ p.2.size ≤ 1500) ∧ (l.map (·.1)).Nodup
theorem aget_put (l : List (Int × Value)) (k x : Int) (v : Value) : aget (aput l k v) x = if x = k then some v else aget l x := by
  induction l with
  | nil => simp [aput, aget]
  | cons p r ih =>
    obtain ⟨y, u⟩ := p
    simp only [aput]
    by_cases h : k = y
    · subst h
      simp only [if_true, aget]
      by_cases hx : x = k <;> simp [hx]
    · simp only [if_neg h, aget, ih]
      by_cases hx : x = y
      · subst hx; simp [Ne.symm h]
      · simp [hx]
theorem mapT70 : MapT Go.Proofs.Try.prog (intKey .i64) 70 3 3 (.int .i64 0) := ⟨by kernel_rfl, by kernel_rfl, by kernel_rfl⟩
theorem elem_spec (r : Rec) (a : Option Addr) (n c : Nat) (w : World) (hA : AtS w a n r.attrs) (hn : n ≤ maxLen) :
    Calls Go.Proofs.Try.prog 26 #[r.val a n c] w fun e w' => e = .returned (.bool (decide (elemP r))) ∧ Hp [] w w' [] := by
  apply element.ok
  unfold element.vc
  have H := Hp.start w
  (first | ((repeat apply Exists.intro); first | refine ⟨H.ld (by exact ⟨rfl, rfl, rfl, rfl⟩) (by first | exact scl3 | exact scl9 | exact scl32 | exact scl22 | exact scl53 | exact scl26 | exact scl4 | exact scl5) (by repeat first | exact .head _ | refine .tail _ ?_) rfl, ?_⟩ | refine ⟨H.ldA (by exact ⟨rfl, rfl, rfl, rfl⟩) (by first | exact agg34 | exact agg24 | exact agg31 | exact agg57 | exact agg58 | exact agg52) (by repeat first | exact .head _ | refine .tail _ ?_) rfl rfl, ?_⟩) | (intro _ _ hn; replace H := H.new (by exact ⟨rfl, rfl, rfl, rfl⟩) hn; clear hn) | ((first | (apply Hp.st; (case H => first | exact H | exact H.pull1 | exact H.pull2 | exact H.pull3 | exact H.pull4 | exact H.pull5 | exact H.pull6 | exact H.pull7); (case e => exact ⟨rfl, rfl, rfl, rfl⟩); (case S => exact (by first | exact scl3 | exact scl9 | exact scl32 | exact scl22 | exact scl53 | exact scl26 | exact scl4 | exact scl5)); (case hv => exact rfl); (case h1 => exact rfl); (case ho => exact Nat.le_of_ble_eq_true rfl); (case hc => exact rfl)) | (apply Hp.stA; (case H => first | exact H | exact H.pull1 | exact H.pull2 | exact H.pull3 | exact H.pull4 | exact H.pull5 | exact H.pull6 | exact H.pull7); (case e => exact ⟨rfl, rfl, rfl, rfl⟩); (case S => exact (by first | exact agg34 | exact agg24 | exact agg31 | exact agg57 | exact agg58 | exact agg52)); (case hn => exact rfl); (case h1 => exact rfl); (case ho => exact Nat.le_of_ble_eq_true rfl); (case hc => exact rfl))); clear H; intro _ H; (try simp only [over, List.set_cons_zero, List.set_cons_succ] at H)))
  intro _ b2 hn2
  replace H := H.newI (by exact ⟨rfl, rfl, rfl, rfl⟩) .i64 hn2
  clear hn2
  (repeat (first | ((repeat apply Exists.intro); first | refine ⟨H.ld (by exact ⟨rfl, rfl, rfl, rfl⟩) (by first | exact scl3 | exact scl9 | exact scl32 | exact scl22 | exact scl53 | exact scl26 | exact scl4 | exact scl5) (by repeat first | exact .head _ | refine .tail _ ?_) rfl, ?_⟩ | refine ⟨H.ldA (by exact ⟨rfl, rfl, rfl, rfl⟩) (by first | exact agg34 | exact agg24 | exact agg31 | exact agg57 | exact agg58 | exact agg52) (by repeat first | exact .head _ | refine .tail _ ?_) rfl rfl, ?_⟩) | (intro _ _ hn; replace H := H.new (by exact ⟨rfl, rfl, rfl, rfl⟩) hn; clear hn) | ((first | (apply Hp.st; (case H => first | exact H | exact H.pull1 | exact H.pull2 | exact H.pull3 | exact H.pull4 | exact H.pull5 | exact H.pull6 | exact H.pull7); (case e => exact ⟨rfl, rfl, rfl, rfl⟩); (case S => exact (by first | exact scl3 | exact scl9 | exact scl32 | exact scl22 | exact scl53 | exact scl26 | exact scl4 | exact scl5)); (case hv => exact rfl); (case h1 => exact rfl); (case ho => exact Nat.le_of_ble_eq_true rfl); (case hc => exact rfl)) | (apply Hp.stA; (case H => first | exact H | exact H.pull1 | exact H.pull2 | exact H.pull3 | exact H.pull4 | exact H.pull5 | exact H.pull6 | exact H.pull7); (case e => exact ⟨rfl, rfl, rfl, rfl⟩); (case S => exact (by first | exact agg34 | exact agg24 | exact agg31 | exact agg57 | exact agg58 | exact agg52)); (case hn => exact rfl); (case h1 => exact rfl); (case ho => exact Nat.le_of_ble_eq_true rfl); (case hc => exact rfl))); clear H; intro _ H; (try simp only [over, List.set_cons_zero, List.set_cons_succ] at H))))
  rename_i b _ _
  have hlen := hA.len
  have hmax : maxLen ≤ 9223372036854775807 := by simp [maxLen]
  refine LoopP.mk (fun m s w' => ∃ k al, m = n - k ∧ s = (k : Int) ∧ k ≤ n ∧ elemUp (r.attrs.take k) ∧ (∀ x, aget al x = if x ∈ (r.attrs.take k).map (·.1) then some (.int .i64 1) else none) ∧
    Hp [] w w' [.imap _ .i64 al, .blk b [.int .i64 r.id, .int .i64 r.parent, .int .i64 r.kind, .int .i64 r.name, .int .i64 r.frm, .int .i64 r.to, .string r.text, .slice a n c] 34]) n ⟨0, [], rfl, rfl, Nat.zero_le _, by simp [elemUp], by simp [aget], H⟩ ?_
  clear H
  rintro m s w' next ⟨k, al, rfl, rfl, hk, hup, hal, H⟩ hnext
  refine br_dec (fun h => ?_) (fun h => ?_)
  · have hkl : k < r.attrs.length := by omega
    have hAw := hA.chg H.chg (by simp)
    obtain ⟨ad, had⟩ := hA.some hkl
    have hp : r.attrs[k]? = some r.attrs[k] := List.getElem?_eq_getElem hkl
    refine onP_mk had ⟨⟨by omega, h⟩, _, _, hAw.ld agg58 hp had, ?_⟩
    (repeat (first | ((repeat apply Exists.intro); first | refine ⟨H.ld (by exact ⟨rfl, rfl, rfl, rfl⟩) (by first | exact scl3 | exact scl9 | exact scl32 | exact scl22 | exact scl53 | exact scl26 | exact scl4 | exact scl5) (by repeat first | exact .head _ | refine .tail _ ?_) rfl, ?_⟩ | refine ⟨H.ldA (by exact ⟨rfl, rfl, rfl, rfl⟩) (by first | exact agg34 | exact agg24 | exact agg31 | exact agg57 | exact agg58 | exact agg52) (by repeat first | exact .head _ | refine .tail _ ?_) rfl rfl, ?_⟩) | (intro _ _ hn; replace H := H.new (by exact ⟨rfl, rfl, rfl, rfl⟩) hn; clear hn) | ((first | (apply Hp.st; (case H => first | exact H | exact H.pull1 | exact H.pull2 | exact H.pull3 | exact H.pull4 | exact H.pull5 | exact H.pull6 | exact H.pull7); (case e => exact ⟨rfl, rfl, rfl, rfl⟩); (case S => exact (by first | exact scl3 | exact scl9 | exact scl32 | exact scl22 | exact scl53 | exact scl26 | exact scl4 | exact scl5)); (case hv => exact rfl); (case h1 => exact rfl); (case ho => exact Nat.le_of_ble_eq_true rfl); (case hc => exact rfl)) | (apply Hp.stA; (case H => first | exact H | exact H.pull1 | exact H.pull2 | exact H.pull3 | exact H.pull4 | exact H.pull5 | exact H.pull6 | exact H.pull7); (case e => exact ⟨rfl, rfl, rfl, rfl⟩); (case S => exact (by first | exact agg34 | exact agg24 | exact agg31 | exact agg57 | exact agg58 | exact agg52)); (case hn => exact rfl); (case h1 => exact rfl); (case ho => exact Nat.le_of_ble_eq_true rfl); (case hc => exact rfl))); clear H; intro _ H; (try simp only [over, List.set_cons_zero, List.set_cons_succ] at H))))
    refine callV (named_spec _ _) ?_
    rintro e w2 ⟨rfl, H'⟩
    replace H := H.ext0 H'
    refine ⟨_, rfl, br_ndec (fun h1 => ⟨nope fun hh => h1 (hh.1 _ (List.getElem_mem hkl)).1, H.done⟩) (fun h1 => ?_)⟩
    (repeat (first | ((repeat apply Exists.intro); first | refine ⟨H.ld (by exact ⟨rfl, rfl, rfl, rfl⟩) (by first | exact scl3 | exact scl9 | exact scl32 | exact scl22 | exact scl53 | exact scl26 | exact scl4 | exact scl5) (by repeat first | exact .head _ | refine .tail _ ?_) rfl, ?_⟩ | refine ⟨H.ldA (by exact ⟨rfl, rfl, rfl, rfl⟩) (by first | exact agg34 | exact agg24 | exact agg31 | exact agg57 | exact agg58 | exact agg52) (by repeat first | exact .head _ | refine .tail _ ?_) rfl rfl, ?_⟩) | (intro _ _ hn; replace H := H.new (by exact ⟨rfl, rfl, rfl, rfl⟩) hn; clear hn) | ((first | (apply Hp.st; (case H => first | exact H | exact H.pull1 | exact H.pull2 | exact H.pull3 | exact H.pull4 | exact H.pull5 | exact H.pull6 | exact H.pull7); (case e => exact ⟨rfl, rfl, rfl, rfl⟩); (case S => exact (by first | exact scl3 | exact scl9 | exact scl32 | exact scl22 | exact scl53 | exact scl26 | exact scl4 | exact scl5)); (case hv => exact rfl); (case h1 => exact rfl); (case ho => exact Nat.le_of_ble_eq_true rfl); (case hc => exact rfl)) | (apply Hp.stA; (case H => first | exact H | exact H.pull1 | exact H.pull2 | exact H.pull3 | exact H.pull4 | exact H.pull5 | exact H.pull6 | exact H.pull7); (case e => exact ⟨rfl, rfl, rfl, rfl⟩); (case S => exact (by first | exact agg34 | exact agg24 | exact agg31 | exact agg57 | exact agg58 | exact agg52)); (case hn => exact rfl); (case h1 => exact rfl); (case ho => exact Nat.le_of_ble_eq_true rfl); (case hc => exact rfl))); clear H; intro _ H; (try simp only [over, List.set_cons_zero, List.set_cons_succ] at H))))
    by_cases hm : r.attrs[k].1 ∈ (r.attrs.take k).map (·.1)
    · refine ⟨1, H.lkI mapT70 (by exact ⟨rfl, rfl, rfl, rfl⟩) (by repeat first | exact .head _ | refine .tail _ ?_) (by rw [hal, if_pos hm]; rfl), br_dec (fun h2 => ⟨nope fun hh => ?_, H.done⟩) (fun h2 => absurd h2 (by omega))⟩
      have h3 := hh.2.1
      rw [← List.take_append_drop k r.attrs, List.map_append, List.drop_eq_getElem_cons hkl, List.map_cons, List.nodup_append] at h3
      exact h3.2.2 _ hm _ (List.mem_cons_self ..) rfl
    refine ⟨0, H.lkI mapT70 (by exact ⟨rfl, rfl, rfl, rfl⟩) (by repeat first | exact .head _ | refine .tail _ ?_) (by rw [hal, if_neg hm]; rfl), br_dec (fun h2 => absurd h2 (by omega)) (fun h2 => ?_)⟩
    (repeat (first | ((repeat apply Exists.intro); first | refine ⟨H.ld (by exact ⟨rfl, rfl, rfl, rfl⟩) (by first | exact scl3 | exact scl9 | exact scl32 | exact scl22 | exact scl53 | exact scl26 | exact scl4 | exact scl5) (by repeat first | exact .head _ | refine .tail _ ?_) rfl, ?_⟩ | refine ⟨H.ldA (by exact ⟨rfl, rfl, rfl, rfl⟩) (by first | exact agg34 | exact agg24 | exact agg31 | exact agg57 | exact agg58 | exact agg52) (by repeat first | exact .head _ | refine .tail _ ?_) rfl rfl, ?_⟩) | (intro _ _ hn; replace H := H.new (by exact ⟨rfl, rfl, rfl, rfl⟩) hn; clear hn) | ((first | (apply Hp.st; (case H => first | exact H | exact H.pull1 | exact H.pull2 | exact H.pull3 | exact H.pull4 | exact H.pull5 | exact H.pull6 | exact H.pull7); (case e => exact ⟨rfl, rfl, rfl, rfl⟩); (case S => exact (by first | exact scl3 | exact scl9 | exact scl32 | exact scl22 | exact scl53 | exact scl26 | exact scl4 | exact scl5)); (case hv => exact rfl); (case h1 => exact rfl); (case ho => exact Nat.le_of_ble_eq_true rfl); (case hc => exact rfl)) | (apply Hp.stA; (case H => first | exact H | exact H.pull1 | exact H.pull2 | exact H.pull3 | exact H.pull4 | exact H.pull5 | exact H.pull6 | exact H.pull7); (case e => exact ⟨rfl, rfl, rfl, rfl⟩); (case S => exact (by first | exact agg34 | exact agg24 | exact agg31 | exact agg57 | exact agg58 | exact agg52)); (case hn => exact rfl); (case h1 => exact rfl); (case ho => exact Nat.le_of_ble_eq_true rfl); (case hc => exact rfl))); clear H; intro _ H; (try simp only [over, List.set_cons_zero, List.set_cons_succ] at H))))
    refine br_dec (fun h3 => ⟨nope fun hh => ?_, H.done⟩) (fun h3 => ?_)
    · have := (hh.1 _ (List.getElem_mem hkl)).2; omega
    (repeat (first | ((repeat apply Exists.intro); first | refine ⟨H.ld (by exact ⟨rfl, rfl, rfl, rfl⟩) (by first | exact scl3 | exact scl9 | exact scl32 | exact scl22 | exact scl53 | exact scl26 | exact scl4 | exact scl5) (by repeat first | exact .head _ | refine .tail _ ?_) rfl, ?_⟩ | refine ⟨H.ldA (by exact ⟨rfl, rfl, rfl, rfl⟩) (by first | exact agg34 | exact agg24 | exact agg31 | exact agg57 | exact agg58 | exact agg52) (by repeat first | exact .head _ | refine .tail _ ?_) rfl rfl, ?_⟩) | (intro _ _ hn; replace H := H.new (by exact ⟨rfl, rfl, rfl, rfl⟩) hn; clear hn) | ((first | (apply Hp.st; (case H => first | exact H | exact H.pull1 | exact H.pull2 | exact H.pull3 | exact H.pull4 | exact H.pull5 | exact H.pull6 | exact H.pull7); (case e => exact ⟨rfl, rfl, rfl, rfl⟩); (case S => exact (by first | exact scl3 | exact scl9 | exact scl32 | exact scl22 | exact scl53 | exact scl26 | exact scl4 | exact scl5)); (case hv => exact rfl); (case h1 => exact rfl); (case ho => exact Nat.le_of_ble_eq_true rfl); (case hc => exact rfl)) | (apply Hp.stA; (case H => first | exact H | exact H.pull1 | exact H.pull2 | exact H.pull3 | exact H.pull4 | exact H.pull5 | exact H.pull6 | exact H.pull7); (case e => exact ⟨rfl, rfl, rfl, rfl⟩); (case S => exact (by first | exact agg34 | exact agg24 | exact agg31 | exact agg57 | exact agg58 | exact agg52)); (case hn => exact rfl); (case h1 => exact rfl); (case ho => exact Nat.le_of_ble_eq_true rfl); (case hc => exact rfl))); clear H; intro _ H; (try simp only [over, List.set_cons_zero, List.set_cons_succ] at H))))
    refine ⟨0, H.lkI mapT70 (by exact ⟨rfl, rfl, rfl, rfl⟩) (by repeat first | exact .head _ | refine .tail _ ?_) (by rw [hal, if_neg hm]; rfl), inR64.2 (by omega), Hp.mupI mapT70 H.pull1 (by exact ⟨rfl, rfl, rfl, rfl⟩) ?_⟩
    clear H
    intro w5 H
    refine ⟨inR64.2 (by omega), hnext (n - (k + 1)) _ _ (by omega) ⟨k + 1, _, rfl, by simp, by omega, ?_, ?_, H.drop1⟩⟩
    · rw [List.take_succ_eq_append_getElem hkl]
      refine ⟨fun p hp => ?_, ?_⟩
      · rcases List.mem_append.1 hp with hp | hp
        · exact hup.1 p hp
        · rw [List.mem_singleton] at hp; subst hp
          exact ⟨h1, by omega⟩
      · rw [List.map_append, List.nodup_append]
        refine ⟨hup.2, by simp, fun x hx y hy => ?_⟩
        simp at hy; subst hy
        intro he; subst he; exact hm hx
    · intro x
      rw [aget_put, hal, List.take_succ_eq_append_getElem hkl, List.map_append, List.map_cons, List.map_nil]
      by_cases hx : x = r.attrs[k].1
      · subst hx; simp
      · rw [if_neg hx]
        simp only [List.mem_append, List.mem_singleton, hx, or_false]
  · have hkn : k = n := by omega
    subst hkn
    rw [hlen, List.take_length] at hup
    (repeat (first | ((repeat apply Exists.intro); first | refine ⟨H.ld (by exact ⟨rfl, rfl, rfl, rfl⟩) (by first | exact scl3 | exact scl9 | exact scl32 | exact scl22 | exact scl53 | exact scl26 | exact scl4 | exact scl5) (by repeat first | exact .head _ | refine .tail _ ?_) rfl, ?_⟩ | refine ⟨H.ldA (by exact ⟨rfl, rfl, rfl, rfl⟩) (by first | exact agg34 | exact agg24 | exact agg31 | exact agg57 | exact agg58 | exact agg52) (by repeat first | exact .head _ | refine .tail _ ?_) rfl rfl, ?_⟩) | (intro _ _ hn; replace H := H.new (by exact ⟨rfl, rfl, rfl, rfl⟩) hn; clear hn) | ((first | (apply Hp.st; (case H => first | exact H | exact H.pull1 | exact H.pull2 | exact H.pull3 | exact H.pull4 | exact H.pull5 | exact H.pull6 | exact H.pull7); (case e => exact ⟨rfl, rfl, rfl, rfl⟩); (case S => exact (by first | exact scl3 | exact scl9 | exact scl32 | exact scl22 | exact scl53 | exact scl26 | exact scl4 | exact scl5)); (case hv => exact rfl); (case h1 => exact rfl); (case ho => exact Nat.le_of_ble_eq_true rfl); (case hc => exact rfl)) | (apply Hp.stA; (case H => first | exact H | exact H.pull1 | exact H.pull2 | exact H.pull3 | exact H.pull4 | exact H.pull5 | exact H.pull6 | exact H.pull7); (case e => exact ⟨rfl, rfl, rfl, rfl⟩); (case S => exact (by first | exact agg34 | exact agg24 | exact agg31 | exact agg57 | exact agg58 | exact agg52)); (case hn => exact rfl); (case h1 => exact rfl); (case ho => exact Nat.le_of_ble_eq_true rfl); (case hc => exact rfl))); clear H; intro _ H; (try simp only [over, List.set_cons_zero, List.set_cons_succ] at H))))
    refine callV (named_spec _ _) ?_
    rintro e w2 ⟨rfl, H'⟩
    replace H := H.ext0 H'
    refine ⟨_, rfl, br_dec (fun h1 => ?_) (fun h1 => ⟨nope fun hh => h1 hh.2.2.1, H.done⟩)⟩
    (repeat (first | ((repeat apply Exists.intro); first | refine ⟨H.ld (by exact ⟨rfl, rfl, rfl, rfl⟩) (by first | exact scl3 | exact scl9 | exact scl32 | exact scl22 | exact scl53 | exact scl26 | exact scl4 | exact scl5) (by repeat first | exact .head _ | refine .tail _ ?_) rfl, ?_⟩ | refine ⟨H.ldA (by exact ⟨rfl, rfl, rfl, rfl⟩) (by first | exact agg34 | exact agg24 | exact agg31 | exact agg57 | exact agg58 | exact agg52) (by repeat first | exact .head _ | refine .tail _ ?_) rfl rfl, ?_⟩) | (intro _ _ hn; replace H := H.new (by exact ⟨rfl, rfl, rfl, rfl⟩) hn; clear hn) | ((first | (apply Hp.st; (case H => first | exact H | exact H.pull1 | exact H.pull2 | exact H.pull3 | exact H.pull4 | exact H.pull5 | exact H.pull6 | exact H.pull7); (case e => exact ⟨rfl, rfl, rfl, rfl⟩); (case S => exact (by first | exact scl3 | exact scl9 | exact scl32 | exact scl22 | exact scl53 | exact scl26 | exact scl4 | exact scl5)); (case hv => exact rfl); (case h1 => exact rfl); (case ho => exact Nat.le_of_ble_eq_true rfl); (case hc => exact rfl)) | (apply Hp.stA; (case H => first | exact H | exact H.pull1 | exact H.pull2 | exact H.pull3 | exact H.pull4 | exact H.pull5 | exact H.pull6 | exact H.pull7); (case e => exact ⟨rfl, rfl, rfl, rfl⟩); (case S => exact (by first | exact agg34 | exact agg24 | exact agg31 | exact agg57 | exact agg58 | exact agg52)); (case hn => exact rfl); (case h1 => exact rfl); (case ho => exact Nat.le_of_ble_eq_true rfl); (case hc => exact rfl))); clear H; intro _ H; (try simp only [over, List.set_cons_zero, List.set_cons_succ] at H))))
    refine br_dec (fun h2 => ?_) (fun h2 => ⟨nope fun hh => h2 hh.2.2.2.1, H.done⟩)
    (repeat (first | ((repeat apply Exists.intro); first | refine ⟨H.ld (by exact ⟨rfl, rfl, rfl, rfl⟩) (by first | exact scl3 | exact scl9 | exact scl32 | exact scl22 | exact scl53 | exact scl26 | exact scl4 | exact scl5) (by repeat first | exact .head _ | refine .tail _ ?_) rfl, ?_⟩ | refine ⟨H.ldA (by exact ⟨rfl, rfl, rfl, rfl⟩) (by first | exact agg34 | exact agg24 | exact agg31 | exact agg57 | exact agg58 | exact agg52) (by repeat first | exact .head _ | refine .tail _ ?_) rfl rfl, ?_⟩) | (intro _ _ hn; replace H := H.new (by exact ⟨rfl, rfl, rfl, rfl⟩) hn; clear hn) | ((first | (apply Hp.st; (case H => first | exact H | exact H.pull1 | exact H.pull2 | exact H.pull3 | exact H.pull4 | exact H.pull5 | exact H.pull6 | exact H.pull7); (case e => exact ⟨rfl, rfl, rfl, rfl⟩); (case S => exact (by first | exact scl3 | exact scl9 | exact scl32 | exact scl22 | exact scl53 | exact scl26 | exact scl4 | exact scl5)); (case hv => exact rfl); (case h1 => exact rfl); (case ho => exact Nat.le_of_ble_eq_true rfl); (case hc => exact rfl)) | (apply Hp.stA; (case H => first | exact H | exact H.pull1 | exact H.pull2 | exact H.pull3 | exact H.pull4 | exact H.pull5 | exact H.pull6 | exact H.pull7); (case e => exact ⟨rfl, rfl, rfl, rfl⟩); (case S => exact (by first | exact agg34 | exact agg24 | exact agg31 | exact agg57 | exact agg58 | exact agg52)); (case hn => exact rfl); (case h1 => exact rfl); (case ho => exact Nat.le_of_ble_eq_true rfl); (case hc => exact rfl))); clear H; intro _ H; (try simp only [over, List.set_cons_zero, List.set_cons_succ] at H))))
    refine ⟨?_, H.done⟩
    congr 2
    rw [decide_eq_decide]
    exact ⟨fun h3 => ⟨hup.1, hup.2, h1, h2, by omega⟩, fun h3 => by have := h3.2.2.2.2; omega⟩
theorem right_spec (r : Rec) (a : Option Addr) (n c : Nat) (w : World) (hA : AtS w a n r.attrs) (hn : n ≤ maxLen) :
    Calls Go.Proofs.Try.prog 14 #[r.val a n c] w fun e w' => e = .returned (.bool (decide (rightP r))) ∧ Hp [] w w' [] := by
  apply right.ok
  unfold right.vc
  have H := Hp.start w
  (repeat (first | ((repeat apply Exists.intro); first | refine ⟨H.ld (by exact ⟨rfl, rfl, rfl, rfl⟩) (by first | exact scl3 | exact scl9 | exact scl32 | exact scl22 | exact scl53 | exact scl26 | exact scl4 | exact scl5) (by repeat first | exact .head _ | refine .tail _ ?_) rfl, ?_⟩ | refine ⟨H.ldA (by exact ⟨rfl, rfl, rfl, rfl⟩) (by first | exact agg34 | exact agg24 | exact agg31 | exact agg57 | exact agg58 | exact agg52) (by repeat first | exact .head _ | refine .tail _ ?_) rfl rfl, ?_⟩) | (intro _ _ hn; replace H := H.new (by exact ⟨rfl, rfl, rfl, rfl⟩) hn; clear hn) | ((first | (apply Hp.st; (case H => first | exact H | exact H.pull1 | exact H.pull2 | exact H.pull3 | exact H.pull4 | exact H.pull5 | exact H.pull6 | exact H.pull7); (case e => exact ⟨rfl, rfl, rfl, rfl⟩); (case S => exact (by first | exact scl3 | exact scl9 | exact scl32 | exact scl22 | exact scl53 | exact scl26 | exact scl4 | exact scl5)); (case hv => exact rfl); (case h1 => exact rfl); (case ho => exact Nat.le_of_ble_eq_true rfl); (case hc => exact rfl)) | (apply Hp.stA; (case H => first | exact H | exact H.pull1 | exact H.pull2 | exact H.pull3 | exact H.pull4 | exact H.pull5 | exact H.pull6 | exact H.pull7); (case e => exact ⟨rfl, rfl, rfl, rfl⟩); (case S => exact (by first | exact agg34 | exact agg24 | exact agg31 | exact agg57 | exact agg58 | exact agg52)); (case hn => exact rfl); (case h1 => exact rfl); (case ho => exact Nat.le_of_ble_eq_true rfl); (case hc => exact rfl))); clear H; intro _ H; (try simp only [over, List.set_cons_zero, List.set_cons_succ] at H))))
  refine br_dec (fun h1 => ⟨nope fun h => by obtain ⟨_, _, _, _, _, _, _, _⟩ := h; omega, H.done⟩) (fun h1 => ?_)
  (repeat (first | ((repeat apply Exists.intro); first | refine ⟨H.ld (by exact ⟨rfl, rfl, rfl, rfl⟩) (by first | exact scl3 | exact scl9 | exact scl32 | exact scl22 | exact scl53 | exact scl26 | exact scl4 | exact scl5) (by repeat first | exact .head _ | refine .tail _ ?_) rfl, ?_⟩ | refine ⟨H.ldA (by exact ⟨rfl, rfl, rfl, rfl⟩) (by first | exact agg34 | exact agg24 | exact agg31 | exact agg57 | exact agg58 | exact agg52) (by repeat first | exact .head _ | refine .tail _ ?_) rfl rfl, ?_⟩) | (intro _ _ hn; replace H := H.new (by exact ⟨rfl, rfl, rfl, rfl⟩) hn; clear hn) | ((first | (apply Hp.st; (case H => first | exact H | exact H.pull1 | exact H.pull2 | exact H.pull3 | exact H.pull4 | exact H.pull5 | exact H.pull6 | exact H.pull7); (case e => exact ⟨rfl, rfl, rfl, rfl⟩); (case S => exact (by first | exact scl3 | exact scl9 | exact scl32 | exact scl22 | exact scl53 | exact scl26 | exact scl4 | exact scl5)); (case hv => exact rfl); (case h1 => exact rfl); (case ho => exact Nat.le_of_ble_eq_true rfl); (case hc => exact rfl)) | (apply Hp.stA; (case H => first | exact H | exact H.pull1 | exact H.pull2 | exact H.pull3 | exact H.pull4 | exact H.pull5 | exact H.pull6 | exact H.pull7); (case e => exact ⟨rfl, rfl, rfl, rfl⟩); (case S => exact (by first | exact agg34 | exact agg24 | exact agg31 | exact agg57 | exact agg58 | exact agg52)); (case hn => exact rfl); (case h1 => exact rfl); (case ho => exact Nat.le_of_ble_eq_true rfl); (case hc => exact rfl))); clear H; intro _ H; (try simp only [over, List.set_cons_zero, List.set_cons_succ] at H))))
  refine br_dec (fun h2 => ⟨nope fun h => by obtain ⟨_, _, _, _, _, _, _, _⟩ := h; omega, H.done⟩) (fun h2 => ?_)
  (repeat (first | ((repeat apply Exists.intro); first | refine ⟨H.ld (by exact ⟨rfl, rfl, rfl, rfl⟩) (by first | exact scl3 | exact scl9 | exact scl32 | exact scl22 | exact scl53 | exact scl26 | exact scl4 | exact scl5) (by repeat first | exact .head _ | refine .tail _ ?_) rfl, ?_⟩ | refine ⟨H.ldA (by exact ⟨rfl, rfl, rfl, rfl⟩) (by first | exact agg34 | exact agg24 | exact agg31 | exact agg57 | exact agg58 | exact agg52) (by repeat first | exact .head _ | refine .tail _ ?_) rfl rfl, ?_⟩) | (intro _ _ hn; replace H := H.new (by exact ⟨rfl, rfl, rfl, rfl⟩) hn; clear hn) | ((first | (apply Hp.st; (case H => first | exact H | exact H.pull1 | exact H.pull2 | exact H.pull3 | exact H.pull4 | exact H.pull5 | exact H.pull6 | exact H.pull7); (case e => exact ⟨rfl, rfl, rfl, rfl⟩); (case S => exact (by first | exact scl3 | exact scl9 | exact scl32 | exact scl22 | exact scl53 | exact scl26 | exact scl4 | exact scl5)); (case hv => exact rfl); (case h1 => exact rfl); (case ho => exact Nat.le_of_ble_eq_true rfl); (case hc => exact rfl)) | (apply Hp.stA; (case H => first | exact H | exact H.pull1 | exact H.pull2 | exact H.pull3 | exact H.pull4 | exact H.pull5 | exact H.pull6 | exact H.pull7); (case e => exact ⟨rfl, rfl, rfl, rfl⟩); (case S => exact (by first | exact agg34 | exact agg24 | exact agg31 | exact agg57 | exact agg58 | exact agg52)); (case hn => exact rfl); (case h1 => exact rfl); (case ho => exact Nat.le_of_ble_eq_true rfl); (case hc => exact rfl))); clear H; intro _ H; (try simp only [over, List.set_cons_zero, List.set_cons_succ] at H))))
  refine br_dec (fun h3 => ⟨nope fun h => by obtain ⟨_, _, _, _, _, _, _, _⟩ := h; omega, H.done⟩) (fun h3 => ?_)
  (repeat (first | ((repeat apply Exists.intro); first | refine ⟨H.ld (by exact ⟨rfl, rfl, rfl, rfl⟩) (by first | exact scl3 | exact scl9 | exact scl32 | exact scl22 | exact scl53 | exact scl26 | exact scl4 | exact scl5) (by repeat first | exact .head _ | refine .tail _ ?_) rfl, ?_⟩ | refine ⟨H.ldA (by exact ⟨rfl, rfl, rfl, rfl⟩) (by first | exact agg34 | exact agg24 | exact agg31 | exact agg57 | exact agg58 | exact agg52) (by repeat first | exact .head _ | refine .tail _ ?_) rfl rfl, ?_⟩) | (intro _ _ hn; replace H := H.new (by exact ⟨rfl, rfl, rfl, rfl⟩) hn; clear hn) | ((first | (apply Hp.st; (case H => first | exact H | exact H.pull1 | exact H.pull2 | exact H.pull3 | exact H.pull4 | exact H.pull5 | exact H.pull6 | exact H.pull7); (case e => exact ⟨rfl, rfl, rfl, rfl⟩); (case S => exact (by first | exact scl3 | exact scl9 | exact scl32 | exact scl22 | exact scl53 | exact scl26 | exact scl4 | exact scl5)); (case hv => exact rfl); (case h1 => exact rfl); (case ho => exact Nat.le_of_ble_eq_true rfl); (case hc => exact rfl)) | (apply Hp.stA; (case H => first | exact H | exact H.pull1 | exact H.pull2 | exact H.pull3 | exact H.pull4 | exact H.pull5 | exact H.pull6 | exact H.pull7); (case e => exact ⟨rfl, rfl, rfl, rfl⟩); (case S => exact (by first | exact agg34 | exact agg24 | exact agg31 | exact agg57 | exact agg58 | exact agg52)); (case hn => exact rfl); (case h1 => exact rfl); (case ho => exact Nat.le_of_ble_eq_true rfl); (case hc => exact rfl))); clear H; intro _ H; (try simp only [over, List.set_cons_zero, List.set_cons_succ] at H))))
  refine br_dec (fun h4 => ⟨nope fun h => by obtain ⟨_, _, _, _, _, _, _, _⟩ := h; omega, H.done⟩) (fun h4 => ?_)
  (repeat (first | ((repeat apply Exists.intro); first | refine ⟨H.ld (by exact ⟨rfl, rfl, rfl, rfl⟩) (by first | exact scl3 | exact scl9 | exact scl32 | exact scl22 | exact scl53 | exact scl26 | exact scl4 | exact scl5) (by repeat first | exact .head _ | refine .tail _ ?_) rfl, ?_⟩ | refine ⟨H.ldA (by exact ⟨rfl, rfl, rfl, rfl⟩) (by first | exact agg34 | exact agg24 | exact agg31 | exact agg57 | exact agg58 | exact agg52) (by repeat first | exact .head _ | refine .tail _ ?_) rfl rfl, ?_⟩) | (intro _ _ hn; replace H := H.new (by exact ⟨rfl, rfl, rfl, rfl⟩) hn; clear hn) | ((first | (apply Hp.st; (case H => first | exact H | exact H.pull1 | exact H.pull2 | exact H.pull3 | exact H.pull4 | exact H.pull5 | exact H.pull6 | exact H.pull7); (case e => exact ⟨rfl, rfl, rfl, rfl⟩); (case S => exact (by first | exact scl3 | exact scl9 | exact scl32 | exact scl22 | exact scl53 | exact scl26 | exact scl4 | exact scl5)); (case hv => exact rfl); (case h1 => exact rfl); (case ho => exact Nat.le_of_ble_eq_true rfl); (case hc => exact rfl)) | (apply Hp.stA; (case H => first | exact H | exact H.pull1 | exact H.pull2 | exact H.pull3 | exact H.pull4 | exact H.pull5 | exact H.pull6 | exact H.pull7); (case e => exact ⟨rfl, rfl, rfl, rfl⟩); (case S => exact (by first | exact agg34 | exact agg24 | exact agg31 | exact agg57 | exact agg58 | exact agg52)); (case hn => exact rfl); (case h1 => exact rfl); (case ho => exact Nat.le_of_ble_eq_true rfl); (case hc => exact rfl))); clear H; intro _ H; (try simp only [over, List.set_cons_zero, List.set_cons_succ] at H))))
  refine br_dec (fun h5 => ⟨nope fun h => by obtain ⟨_, _, _, _, _, _, _, _⟩ := h; omega, H.done⟩) (fun h5 => ?_)
  (repeat (first | ((repeat apply Exists.intro); first | refine ⟨H.ld (by exact ⟨rfl, rfl, rfl, rfl⟩) (by first | exact scl3 | exact scl9 | exact scl32 | exact scl22 | exact scl53 | exact scl26 | exact scl4 | exact scl5) (by repeat first | exact .head _ | refine .tail _ ?_) rfl, ?_⟩ | refine ⟨H.ldA (by exact ⟨rfl, rfl, rfl, rfl⟩) (by first | exact agg34 | exact agg24 | exact agg31 | exact agg57 | exact agg58 | exact agg52) (by repeat first | exact .head _ | refine .tail _ ?_) rfl rfl, ?_⟩) | (intro _ _ hn; replace H := H.new (by exact ⟨rfl, rfl, rfl, rfl⟩) hn; clear hn) | ((first | (apply Hp.st; (case H => first | exact H | exact H.pull1 | exact H.pull2 | exact H.pull3 | exact H.pull4 | exact H.pull5 | exact H.pull6 | exact H.pull7); (case e => exact ⟨rfl, rfl, rfl, rfl⟩); (case S => exact (by first | exact scl3 | exact scl9 | exact scl32 | exact scl22 | exact scl53 | exact scl26 | exact scl4 | exact scl5)); (case hv => exact rfl); (case h1 => exact rfl); (case ho => exact Nat.le_of_ble_eq_true rfl); (case hc => exact rfl)) | (apply Hp.stA; (case H => first | exact H | exact H.pull1 | exact H.pull2 | exact H.pull3 | exact H.pull4 | exact H.pull5 | exact H.pull6 | exact H.pull7); (case e => exact ⟨rfl, rfl, rfl, rfl⟩); (case S => exact (by first | exact agg34 | exact agg24 | exact agg31 | exact agg57 | exact agg58 | exact agg52)); (case hn => exact rfl); (case h1 => exact rfl); (case ho => exact Nat.le_of_ble_eq_true rfl); (case hc => exact rfl))); clear H; intro _ H; (try simp only [over, List.set_cons_zero, List.set_cons_succ] at H))))
  refine br_dec (fun h6 => ⟨nope fun h => by obtain ⟨_, _, _, _, _, _, _, _⟩ := h; omega, H.done⟩) (fun h6 => ?_)
  (repeat (first | ((repeat apply Exists.intro); first | refine ⟨H.ld (by exact ⟨rfl, rfl, rfl, rfl⟩) (by first | exact scl3 | exact scl9 | exact scl32 | exact scl22 | exact scl53 | exact scl26 | exact scl4 | exact scl5) (by repeat first | exact .head _ | refine .tail _ ?_) rfl, ?_⟩ | refine ⟨H.ldA (by exact ⟨rfl, rfl, rfl, rfl⟩) (by first | exact agg34 | exact agg24 | exact agg31 | exact agg57 | exact agg58 | exact agg52) (by repeat first | exact .head _ | refine .tail _ ?_) rfl rfl, ?_⟩) | (intro _ _ hn; replace H := H.new (by exact ⟨rfl, rfl, rfl, rfl⟩) hn; clear hn) | ((first | (apply Hp.st; (case H => first | exact H | exact H.pull1 | exact H.pull2 | exact H.pull3 | exact H.pull4 | exact H.pull5 | exact H.pull6 | exact H.pull7); (case e => exact ⟨rfl, rfl, rfl, rfl⟩); (case S => exact (by first | exact scl3 | exact scl9 | exact scl32 | exact scl22 | exact scl53 | exact scl26 | exact scl4 | exact scl5)); (case hv => exact rfl); (case h1 => exact rfl); (case ho => exact Nat.le_of_ble_eq_true rfl); (case hc => exact rfl)) | (apply Hp.stA; (case H => first | exact H | exact H.pull1 | exact H.pull2 | exact H.pull3 | exact H.pull4 | exact H.pull5 | exact H.pull6 | exact H.pull7); (case e => exact ⟨rfl, rfl, rfl, rfl⟩); (case S => exact (by first | exact agg34 | exact agg24 | exact agg31 | exact agg57 | exact agg58 | exact agg52)); (case hn => exact rfl); (case h1 => exact rfl); (case ho => exact Nat.le_of_ble_eq_true rfl); (case hc => exact rfl))); clear H; intro _ H; (try simp only [over, List.set_cons_zero, List.set_cons_succ] at H))))
  refine br_dec (fun h7 => ⟨nope fun h => by obtain ⟨_, _, _, _, _, _, _, _⟩ := h; omega, H.done⟩) (fun h7 => ?_)
  (repeat (first | ((repeat apply Exists.intro); first | refine ⟨H.ld (by exact ⟨rfl, rfl, rfl, rfl⟩) (by first | exact scl3 | exact scl9 | exact scl32 | exact scl22 | exact scl53 | exact scl26 | exact scl4 | exact scl5) (by repeat first | exact .head _ | refine .tail _ ?_) rfl, ?_⟩ | refine ⟨H.ldA (by exact ⟨rfl, rfl, rfl, rfl⟩) (by first | exact agg34 | exact agg24 | exact agg31 | exact agg57 | exact agg58 | exact agg52) (by repeat first | exact .head _ | refine .tail _ ?_) rfl rfl, ?_⟩) | (intro _ _ hn; replace H := H.new (by exact ⟨rfl, rfl, rfl, rfl⟩) hn; clear hn) | ((first | (apply Hp.st; (case H => first | exact H | exact H.pull1 | exact H.pull2 | exact H.pull3 | exact H.pull4 | exact H.pull5 | exact H.pull6 | exact H.pull7); (case e => exact ⟨rfl, rfl, rfl, rfl⟩); (case S => exact (by first | exact scl3 | exact scl9 | exact scl32 | exact scl22 | exact scl53 | exact scl26 | exact scl4 | exact scl5)); (case hv => exact rfl); (case h1 => exact rfl); (case ho => exact Nat.le_of_ble_eq_true rfl); (case hc => exact rfl)) | (apply Hp.stA; (case H => first | exact H | exact H.pull1 | exact H.pull2 | exact H.pull3 | exact H.pull4 | exact H.pull5 | exact H.pull6 | exact H.pull7); (case e => exact ⟨rfl, rfl, rfl, rfl⟩); (case S => exact (by first | exact agg34 | exact agg24 | exact agg31 | exact agg57 | exact agg58 | exact agg52)); (case hn => exact rfl); (case h1 => exact rfl); (case ho => exact Nat.le_of_ble_eq_true rfl); (case hc => exact rfl))); clear H; intro _ H; (try simp only [over, List.set_cons_zero, List.set_cons_succ] at H))))
  have hb : ∀ X : Prop, (rightP r ↔ X) ↔ (((r.kind = 1 ∧ elemP r) ∨ (r.kind = 2 ∧ r.name = 0 ∧ r.attrs = [] ∧ r.text.size ≤ 1500)) ↔ X) := fun X => by
    unfold rightP
    constructor
    · intro h; rw [← h]; constructor
      · intro h; exact ⟨by omega, by omega, by omega, by omega, by omega, by omega, by omega, h⟩
      · intro h; exact h.2.2.2.2.2.2.2
    · intro h; rw [← h]; constructor
      · intro h; exact h.2.2.2.2.2.2.2
      · intro h; exact ⟨by omega, by omega, by omega, by omega, by omega, by omega, by omega, h⟩
  refine br_dec (fun h8 => ?_) (fun h8 => br_dec (fun h9 => ?_) (fun h9 => ?_))
  · (repeat (first | ((repeat apply Exists.intro); first | refine ⟨H.ld (by exact ⟨rfl, rfl, rfl, rfl⟩) (by first | exact scl3 | exact scl9 | exact scl32 | exact scl22 | exact scl53 | exact scl26 | exact scl4 | exact scl5) (by repeat first | exact .head _ | refine .tail _ ?_) rfl, ?_⟩ | refine ⟨H.ldA (by exact ⟨rfl, rfl, rfl, rfl⟩) (by first | exact agg34 | exact agg24 | exact agg31 | exact agg57 | exact agg58 | exact agg52) (by repeat first | exact .head _ | refine .tail _ ?_) rfl rfl, ?_⟩) | (intro _ _ hn; replace H := H.new (by exact ⟨rfl, rfl, rfl, rfl⟩) hn; clear hn) | ((first | (apply Hp.st; (case H => first | exact H | exact H.pull1 | exact H.pull2 | exact H.pull3 | exact H.pull4 | exact H.pull5 | exact H.pull6 | exact H.pull7); (case e => exact ⟨rfl, rfl, rfl, rfl⟩); (case S => exact (by first | exact scl3 | exact scl9 | exact scl32 | exact scl22 | exact scl53 | exact scl26 | exact scl4 | exact scl5)); (case hv => exact rfl); (case h1 => exact rfl); (case ho => exact Nat.le_of_ble_eq_true rfl); (case hc => exact rfl)) | (apply Hp.stA; (case H => first | exact H | exact H.pull1 | exact H.pull2 | exact H.pull3 | exact H.pull4 | exact H.pull5 | exact H.pull6 | exact H.pull7); (case e => exact ⟨rfl, rfl, rfl, rfl⟩); (case S => exact (by first | exact agg34 | exact agg24 | exact agg31 | exact agg57 | exact agg58 | exact agg52)); (case hn => exact rfl); (case h1 => exact rfl); (case ho => exact Nat.le_of_ble_eq_true rfl); (case hc => exact rfl))); clear H; intro _ H; (try simp only [over, List.set_cons_zero, List.set_cons_succ] at H))))
    refine callV (elem_spec r a n c _ (hA.chg H.chg (by simp)) hn) ?_
    rintro e w' ⟨rfl, H'⟩
    refine ⟨_, rfl, ?_, (H.ext0 H').done⟩
    congr 2
    rw [decide_eq_decide, Iff.comm, hb]
    simp [h8]
  · (repeat (first | ((repeat apply Exists.intro); first | refine ⟨H.ld (by exact ⟨rfl, rfl, rfl, rfl⟩) (by first | exact scl3 | exact scl9 | exact scl32 | exact scl22 | exact scl53 | exact scl26 | exact scl4 | exact scl5) (by repeat first | exact .head _ | refine .tail _ ?_) rfl, ?_⟩ | refine ⟨H.ldA (by exact ⟨rfl, rfl, rfl, rfl⟩) (by first | exact agg34 | exact agg24 | exact agg31 | exact agg57 | exact agg58 | exact agg52) (by repeat first | exact .head _ | refine .tail _ ?_) rfl rfl, ?_⟩) | (intro _ _ hn; replace H := H.new (by exact ⟨rfl, rfl, rfl, rfl⟩) hn; clear hn) | ((first | (apply Hp.st; (case H => first | exact H | exact H.pull1 | exact H.pull2 | exact H.pull3 | exact H.pull4 | exact H.pull5 | exact H.pull6 | exact H.pull7); (case e => exact ⟨rfl, rfl, rfl, rfl⟩); (case S => exact (by first | exact scl3 | exact scl9 | exact scl32 | exact scl22 | exact scl53 | exact scl26 | exact scl4 | exact scl5)); (case hv => exact rfl); (case h1 => exact rfl); (case ho => exact Nat.le_of_ble_eq_true rfl); (case hc => exact rfl)) | (apply Hp.stA; (case H => first | exact H | exact H.pull1 | exact H.pull2 | exact H.pull3 | exact H.pull4 | exact H.pull5 | exact H.pull6 | exact H.pull7); (case e => exact ⟨rfl, rfl, rfl, rfl⟩); (case S => exact (by first | exact agg34 | exact agg24 | exact agg31 | exact agg57 | exact agg58 | exact agg52)); (case hn => exact rfl); (case h1 => exact rfl); (case ho => exact Nat.le_of_ble_eq_true rfl); (case hc => exact rfl))); clear H; intro _ H; (try simp only [over, List.set_cons_zero, List.set_cons_succ] at H))))
    refine br_dec (fun h10 => ?_) (fun h10 => ⟨?_, H.done⟩)
    · (repeat (first | ((repeat apply Exists.intro); first | refine ⟨H.ld (by exact ⟨rfl, rfl, rfl, rfl⟩) (by first | exact scl3 | exact scl9 | exact scl32 | exact scl22 | exact scl53 | exact scl26 | exact scl4 | exact scl5) (by repeat first | exact .head _ | refine .tail _ ?_) rfl, ?_⟩ | refine ⟨H.ldA (by exact ⟨rfl, rfl, rfl, rfl⟩) (by first | exact agg34 | exact agg24 | exact agg31 | exact agg57 | exact agg58 | exact agg52) (by repeat first | exact .head _ | refine .tail _ ?_) rfl rfl, ?_⟩) | (intro _ _ hn; replace H := H.new (by exact ⟨rfl, rfl, rfl, rfl⟩) hn; clear hn) | ((first | (apply Hp.st; (case H => first | exact H | exact H.pull1 | exact H.pull2 | exact H.pull3 | exact H.pull4 | exact H.pull5 | exact H.pull6 | exact H.pull7); (case e => exact ⟨rfl, rfl, rfl, rfl⟩); (case S => exact (by first | exact scl3 | exact scl9 | exact scl32 | exact scl22 | exact scl53 | exact scl26 | exact scl4 | exact scl5)); (case hv => exact rfl); (case h1 => exact rfl); (case ho => exact Nat.le_of_ble_eq_true rfl); (case hc => exact rfl)) | (apply Hp.stA; (case H => first | exact H | exact H.pull1 | exact H.pull2 | exact H.pull3 | exact H.pull4 | exact H.pull5 | exact H.pull6 | exact H.pull7); (case e => exact ⟨rfl, rfl, rfl, rfl⟩); (case S => exact (by first | exact agg34 | exact agg24 | exact agg31 | exact agg57 | exact agg58 | exact agg52)); (case hn => exact rfl); (case h1 => exact rfl); (case ho => exact Nat.le_of_ble_eq_true rfl); (case hc => exact rfl))); clear H; intro _ H; (try simp only [over, List.set_cons_zero, List.set_cons_succ] at H))))
      refine br_dec (fun h11 => ?_) (fun h11 => ⟨?_, H.done⟩)
      · (repeat (first | ((repeat apply Exists.intro); first | refine ⟨H.ld (by exact ⟨rfl, rfl, rfl, rfl⟩) (by first | exact scl3 | exact scl9 | exact scl32 | exact scl22 | exact scl53 | exact scl26 | exact scl4 | exact scl5) (by repeat first | exact .head _ | refine .tail _ ?_) rfl, ?_⟩ | refine ⟨H.ldA (by exact ⟨rfl, rfl, rfl, rfl⟩) (by first | exact agg34 | exact agg24 | exact agg31 | exact agg57 | exact agg58 | exact agg52) (by repeat first | exact .head _ | refine .tail _ ?_) rfl rfl, ?_⟩) | (intro _ _ hn; replace H := H.new (by exact ⟨rfl, rfl, rfl, rfl⟩) hn; clear hn) | ((first | (apply Hp.st; (case H => first | exact H | exact H.pull1 | exact H.pull2 | exact H.pull3 | exact H.pull4 | exact H.pull5 | exact H.pull6 | exact H.pull7); (case e => exact ⟨rfl, rfl, rfl, rfl⟩); (case S => exact (by first | exact scl3 | exact scl9 | exact scl32 | exact scl22 | exact scl53 | exact scl26 | exact scl4 | exact scl5)); (case hv => exact rfl); (case h1 => exact rfl); (case ho => exact Nat.le_of_ble_eq_true rfl); (case hc => exact rfl)) | (apply Hp.stA; (case H => first | exact H | exact H.pull1 | exact H.pull2 | exact H.pull3 | exact H.pull4 | exact H.pull5 | exact H.pull6 | exact H.pull7); (case e => exact ⟨rfl, rfl, rfl, rfl⟩); (case S => exact (by first | exact agg34 | exact agg24 | exact agg31 | exact agg57 | exact agg58 | exact agg52)); (case hn => exact rfl); (case h1 => exact rfl); (case ho => exact Nat.le_of_ble_eq_true rfl); (case hc => exact rfl))); clear H; intro _ H; (try simp only [over, List.set_cons_zero, List.set_cons_succ] at H))))
        refine ⟨?_, H.done⟩
        have h12 : r.attrs = [] := List.eq_nil_of_length_eq_zero (by have := hA.len; omega)
        congr 2
        rw [decide_eq_decide, Iff.comm, hb]
        simp [h9, h10, h12]; omega
      · have h12 : r.attrs ≠ [] := fun h => h11 (by have := hA.len; rw [h] at this; simp [this])
        congr 2
        rw [eq_comm, decide_eq_false_iff_not]
        have := (hb False).2 (by simp [h9, h12])
        exact this.1
    · congr 2
      rw [eq_comm, decide_eq_false_iff_not]
      have := (hb False).2 (by simp [h9, h10])
      exact this.1
  · refine ⟨?_, H.done⟩
    congr 2
    rw [eq_comm, decide_eq_false_iff_not]
    have := (hb False).2 (by simp [h8, h9])
    exact this.1
end Go.Proofs.Ytcgaobfbgfefhaa
