/- Folio: bytes of numbers; 'lay'. -/
import Derived.Test.YtcgaobfbgfefhaaFa
set_option linter.unusedVariables false
set_option linter.unusedSimpArgs false
namespace Go.Proofs.Ytcgaobfbgfefhaa
open Go Go.Vc

/-- fields: numbers, and how many bytes each has -/
def fldCells (l : List (Int × Nat)) : List Value := l.flatMap fun f => [.int .i64 f.1, .int .i64 (f.2 : Int)]
def laid (l : List (Int × Nat)) : List UInt8 := l.flatMap fun f => be f.1 f.2
theorem fld_get : ∀ (l : List (Int × Nat)) (k j : Nat) (p : Int × Nat) (v : Value), l[k]? = some p → ([Value.int .i64 p.1, Value.int .i64 (p.2 : Int)] : List Value)[j]? = some v → (fldCells l)[k * 2 + j]? = some v
  | x :: r, 0, j, p, v, hk, hj => by
    simp only [List.getElem?_cons_zero, Option.some.injEq] at hk; subst hk
    simp only [fldCells, List.flatMap_cons, Nat.zero_mul, Nat.zero_add]
    rw [List.getElem?_append_left (List.getElem?_eq_some_iff.1 hj).1]; exact hj
  | x :: r, k + 1, j, p, v, hk, hj => by
    simp only [List.getElem?_cons_succ] at hk
    have := fld_get r k j p v hk hj
    simp only [fldCells, List.flatMap_cons] at this ⊢
    rw [List.getElem?_append_right (by simp only [List.length_cons, List.length_nil]; omega)]
    rw [show (k + 1) * 2 + j - ([Value.int .i64 x.1, Value.int .i64 (x.2 : Int)] : List Value).length = k * 2 + j by simp only [List.length_cons, List.length_nil]; omega]
    exact this
theorem fld_ld {w : World} {ad : Addr} {l : List (Int × Nat)} (h : Cells w (some ad) (fldCells l)) {t : TypeId} (ht : Agg Go.Proofs.Try.prog t 2) {k : Nat} {p : Int × Nat} (hk : l[k]? = some p) :
    Ld Go.Proofs.Try.prog t w (ad.add (k * 2)) (.agg #[.int .i64 p.1, .int .i64 (p.2 : Int)]) := by
  refine ld_agg (vs := [.int .i64 p.1, .int .i64 (p.2 : Int)]) ht.agg ht.size fun j v hj => ?_
  obtain ⟨ad', e1, e2⟩ := h (k * 2 + j) v (fld_get l k j p v hk hj)
  cases e1
  rw [add_add]; exact e2

theorem lay_spec (a : Option Addr) (n c : Nat) (bs : List UInt8) (ad : Addr) (lc : Nat) (l : List (Int × Nat)) (hl8 : ∀ f ∈ l, f.2 ≤ 8) (w : World)
    (hown : (Asn.own 5 1 a n c (bcells bs)).ok w) (hn : n = bs.length) (hF : Cells w (some ad) (fldCells l)) (hsep : ad.block ∉ blks a) (hlen : l.length ≤ 1000000) (hbig : (bs ++ laid l).length ≤ 140737488355328) :
    Calls Go.Proofs.Try.prog 24 #[.slice a n c, .slice (some ad) l.length lc] w fun e w' => ∃ a' c', e = .returned (.slice a' (bs ++ laid l).length c') ∧ Hp (blks a) w w' [.own 5 1 a' (bs ++ laid l).length c' (bcells (bs ++ laid l))] := by
  apply lay.ok
  unfold lay.vc
  have H := Hp.start1 hown
  have hmax : maxLen = 9223372036854775807 := by simp [maxLen]
  refine LoopP.mk (fun m s w' => ∃ k a' n' c' X, m = l.length - k ∧ s = ((a', n', c'), (k : Int)) ∧ k ≤ l.length ∧ X ++ laid (l.drop k) = bs ++ laid l ∧ n' = X.length ∧
    Hp (blks a) w w' [.own 5 1 a' n' c' (bcells X)]) l.length ⟨0, a, n, c, bs, rfl, rfl, Nat.zero_le _, rfl, hn, H⟩ ?_
  clear H
  rintro m s w' next ⟨k, a', n', c', X, rfl, rfl, hk, hX, rfl, H⟩ hnext
  dsimp only
  refine br_dec (fun h => ?_) (fun h => ?_)
  · have hkl : k < l.length := by simpa using h
    have hp : l[k]? = some l[k] := List.getElem?_eq_getElem hkl
    have hFw := hF.chg H.chg (by simpa [blks] using hsep)
    refine onP_mk rfl ⟨⟨by simp, h⟩, _, _, fld_ld hFw agg57 hp, ?_⟩
    (repeat (first | ((repeat apply Exists.intro); first | refine ⟨H.ld (by exact ⟨rfl, rfl, rfl, rfl⟩) (by first | exact scl3 | exact scl9 | exact scl32 | exact scl22 | exact scl53 | exact scl26 | exact scl4 | exact scl5) (by repeat first | exact .head _ | refine .tail _ ?_) rfl, ?_⟩ | refine ⟨H.ldA (by exact ⟨rfl, rfl, rfl, rfl⟩) (by first | exact agg34 | exact agg24 | exact agg31 | exact agg57 | exact agg58 | exact agg52) (by repeat first | exact .head _ | refine .tail _ ?_) rfl rfl, ?_⟩) | (intro _ _ hn; replace H := H.new (by exact ⟨rfl, rfl, rfl, rfl⟩) hn; clear hn) | ((first | (apply Hp.st; (case H => first | exact H | exact H.pull1 | exact H.pull2 | exact H.pull3 | exact H.pull4 | exact H.pull5 | exact H.pull6 | exact H.pull7); (case e => exact ⟨rfl, rfl, rfl, rfl⟩); (case S => exact (by first | exact scl3 | exact scl9 | exact scl32 | exact scl22 | exact scl53 | exact scl26 | exact scl4 | exact scl5)); (case hv => exact rfl); (case h1 => exact rfl); (case ho => exact Nat.le_of_ble_eq_true rfl); (case hc => exact rfl)) | (apply Hp.stA; (case H => first | exact H | exact H.pull1 | exact H.pull2 | exact H.pull3 | exact H.pull4 | exact H.pull5 | exact H.pull6 | exact H.pull7); (case e => exact ⟨rfl, rfl, rfl, rfl⟩); (case S => exact (by first | exact agg34 | exact agg24 | exact agg31 | exact agg57 | exact agg58 | exact agg52)); (case hn => exact rfl); (case h1 => exact rfl); (case ho => exact Nat.le_of_ble_eq_true rfl); (case hc => exact rfl))); clear H; intro _ H; (try simp only [over, List.set_cons_zero, List.set_cons_succ] at H))))
    have h8 := hl8 _ (List.getElem_mem hkl)
    refine ⟨inR64.2 (by omega), ?_⟩
    rename_i b _ _
    rw [List.drop_eq_getElem_cons hkl, laid, List.flatMap_cons, ← laid] at hX
    refine LoopP.mk (fun m s w' => ∃ a' n' c' X, m ≤ l[k].2 ∧ s = ((a', n', c'), (m : Int) - 1) ∧ X ++ (be l[k].1 m ++ laid (l.drop (k + 1))) = bs ++ laid l ∧ n' = X.length ∧
      Hp (blks a) w w' [.own 5 1 a' n' c' (bcells X), .blk b [.int .i64 l[k].1, .int .i64 (l[k].2 : Int)] 57]) l[k].2 ⟨a', _, c', X, Nat.le_refl _, rfl, hX, rfl, H.pull1⟩ ?_
    clear H
    rintro m s w2 next2 ⟨a2, n2, c2, X2, hm, rfl, hX2, rfl, H⟩ hnext2
    dsimp only
    refine br_dec (fun h2 => ?_) (fun h2 => ?_)
    · cases m with
      | zero => simp at h2
      | succ m =>
        (repeat (first | ((repeat apply Exists.intro); first | refine ⟨H.ld (by exact ⟨rfl, rfl, rfl, rfl⟩) (by first | exact scl3 | exact scl9 | exact scl32 | exact scl22 | exact scl53 | exact scl26 | exact scl4 | exact scl5) (by repeat first | exact .head _ | refine .tail _ ?_) rfl, ?_⟩ | refine ⟨H.ldA (by exact ⟨rfl, rfl, rfl, rfl⟩) (by first | exact agg34 | exact agg24 | exact agg31 | exact agg57 | exact agg58 | exact agg52) (by repeat first | exact .head _ | refine .tail _ ?_) rfl rfl, ?_⟩) | (intro _ _ hn; replace H := H.new (by exact ⟨rfl, rfl, rfl, rfl⟩) hn; clear hn) | ((first | (apply Hp.st; (case H => first | exact H | exact H.pull1 | exact H.pull2 | exact H.pull3 | exact H.pull4 | exact H.pull5 | exact H.pull6 | exact H.pull7); (case e => exact ⟨rfl, rfl, rfl, rfl⟩); (case S => exact (by first | exact scl3 | exact scl9 | exact scl32 | exact scl22 | exact scl53 | exact scl26 | exact scl4 | exact scl5)); (case hv => exact rfl); (case h1 => exact rfl); (case ho => exact Nat.le_of_ble_eq_true rfl); (case hc => exact rfl)) | (apply Hp.stA; (case H => first | exact H | exact H.pull1 | exact H.pull2 | exact H.pull3 | exact H.pull4 | exact H.pull5 | exact H.pull6 | exact H.pull7); (case e => exact ⟨rfl, rfl, rfl, rfl⟩); (case S => exact (by first | exact agg34 | exact agg24 | exact agg31 | exact agg57 | exact agg58 | exact agg52)); (case hn => exact rfl); (case h1 => exact rfl); (case ho => exact Nat.le_of_ble_eq_true rfl); (case hc => exact rfl))); clear H; intro _ H; (try simp only [over, List.set_cons_zero, List.set_cons_succ] at H))))
        have hL : (X2 ++ (be l[k].1 (m + 1) ++ laid (l.drop (k + 1)))).length = (bs ++ laid l).length := by rw [hX2]
        simp only [List.length_append, be_length] at hL hbig
        refine ⟨inR64.2 (by omega), by omega, ?_⟩
        intro b2 w3 hn3
        rw [shr_byte _ m (by omega) _ (by omega)] at hn3
        replace H := H.new (by exact ⟨rfl, rfl, rfl, rfl⟩) hn3
        clear hn3
        refine Hp.app elt53 (by omega) H.pull1 (by exact ⟨rfl, rfl, rfl, rfl⟩) (Blk.src und53 (H.blk (.head _)) rfl rfl) (by omega) (by omega) ?_
        clear H
        intro a3 c3 w4 H
        refine ⟨inR64.2 (by omega), hnext2 m _ _ (by omega) ⟨a3, X2.length + 1, c3, X2 ++ [bt l[k].1 m], by omega, ?_, ?_, by simp, ?_⟩⟩
        · simp only [Prod.mk.injEq, true_and]; omega
        · rw [← hX2, be]; simp
        · rw [bcells_append]; exact H.drop1
    · have hm0 : m = 0 := by omega
      subst hm0
      simp only [be, List.nil_append] at hX2
      refine ⟨inR64.2 (by omega), hnext (l.length - (k + 1)) _ _ (by omega) ⟨k + 1, a2, _, c2, X2, rfl, ?_, by omega, hX2, rfl, H.done1⟩⟩
      simp
  · have hkl : k = l.length := by omega
    subst hkl
    simp only [List.drop_length, laid, List.flatMap_nil, List.append_nil] at hX
    rw [← laid] at hX
    subst hX
    exact ⟨a', c', rfl, H⟩
end Go.Proofs.Ytcgaobfbgfefhaa
