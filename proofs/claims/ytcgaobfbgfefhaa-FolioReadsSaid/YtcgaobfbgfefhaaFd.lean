/- Folio: a record cut in pieces: 'Encode'. -/
import Derived.Test.YtcgaobfbgfefhaaFc
set_option linter.unusedVariables false
set_option linter.unusedSimpArgs false
namespace Go.Proofs.Ytcgaobfbgfefhaa
open Go Go.Vc

def manyOf (n : Nat) : Nat := (n + 899) / 900
def headB (id : Int) (k many : Nat) : List UInt8 := laid [(id, 4), ((k : Int), 1), ((many : Int), 1)]
def pieceB (r : Rec) (k : Nat) : List UInt8 := headB r.id k (manyOf (wholeB r).length) ++ ((wholeB r).drop (900 * k)).take 900
def pieces (r : Rec) : List (List UInt8) := (List.range (manyOf (wholeB r).length)).map (pieceB r)
def out (r : Rec) : List (List UInt8) := if rightP r then pieces r else []
def errOf (p : Prop) [Decidable p] : Int := if p then 0 else 160
theorem tdiv_many (l : Nat) : Int.tdiv ((l : Int) + 900 - 1) 900 = ((manyOf l : Nat) : Int) := by
  rw [Int.tdiv_eq_ediv_of_nonneg (by omega)]
  unfold manyOf
  omega
theorem pieces_length (r : Rec) : (pieces r).length = manyOf (wholeB r).length := by simp [pieces]

theorem flat_len (l : List (Int × ByteArray)) (h : ∀ p ∈ l, p.2.size ≤ 1500) : (attrsB l).length ≤ 1504 * l.length := by
  induction l with
  | nil => simp [attrsB]
  | cons p r ih =>
    have h1 := ih fun q hq => h q (.tail _ hq)
    have h2 := h p (.head _)
    simp only [attrsB, List.flatMap_cons, List.length_append, be_length, Array.length_toList, List.length_cons] at h1 ⊢
    have : p.2.data.size = p.2.size := rfl
    omega
theorem whole_len (r : Rec) : (wholeB r).length = 30 + r.text.size + (attrsB r.attrs).length := by
  have h30 : (frontB r).length = 29 := by simp [frontB, laid, be_length]
  simp only [wholeB, List.length_append, be_length, Array.length_toList, h30]
  have : r.text.data.size = r.text.size := rfl
  omega
theorem whole_small {r : Rec} (h : rightP r) : 30 ≤ (wholeB r).length ∧ (wholeB r).length ≤ 30110 ∧ r.attrs.length ≤ 20 := by
  rw [whole_len]
  rcases h.2.2.2.2.2.2.2 with ⟨_, h1, _, _, h2, h3⟩ | ⟨_, _, h1, h2⟩
  · have := flat_len r.attrs fun p hp => (h1 p hp).2
    rw [h2, show (ByteArray.mk #[]).size = 0 from rfl]
    omega
  · rw [h1]; simp [attrsB]; omega

theorem encode_spec (r : Rec) (a : Option Addr) (n c : Nat) (w : World) (hA : AtS w a n r.attrs) (hn : n ≤ maxLen) :
    Calls Go.Proofs.Try.prog 11 #[r.val a n c] w fun e w' => ∃ a' c', e = .returned (.tuple #[.slice a' (out r).length c', .int .i64 (errOf (rightP r))]) ∧ Hp [] w w' [.own 9 1 a' (out r).length c' ((out r).map sv)] := by
  apply encode.ok
  unfold encode.vc
  have H := Hp.start w
  have hmax : maxLen = 9223372036854775807 := by simp [maxLen]
  (repeat (first | ((repeat apply Exists.intro); first | refine ⟨H.ld (by exact ⟨rfl, rfl, rfl, rfl⟩) (by first | exact scl3 | exact scl9 | exact scl32 | exact scl22 | exact scl53 | exact scl26 | exact scl4 | exact scl5) (by repeat first | exact .head _ | refine .tail _ ?_) rfl, ?_⟩ | refine ⟨H.ldA (by exact ⟨rfl, rfl, rfl, rfl⟩) (by first | exact agg34 | exact agg24 | exact agg31 | exact agg57 | exact agg58 | exact agg52) (by repeat first | exact .head _ | refine .tail _ ?_) rfl rfl, ?_⟩) | (intro _ _ hn; replace H := H.new (by exact ⟨rfl, rfl, rfl, rfl⟩) hn; clear hn) | ((first | (apply Hp.st; (case H => first | exact H | exact H.pull1 | exact H.pull2 | exact H.pull3 | exact H.pull4 | exact H.pull5 | exact H.pull6 | exact H.pull7); (case e => exact ⟨rfl, rfl, rfl, rfl⟩); (case S => exact (by first | exact scl3 | exact scl9 | exact scl32 | exact scl22 | exact scl53 | exact scl26 | exact scl4 | exact scl5)); (case hv => exact rfl); (case h1 => exact rfl); (case ho => exact Nat.le_of_ble_eq_true rfl); (case hc => exact rfl)) | (apply Hp.stA; (case H => first | exact H | exact H.pull1 | exact H.pull2 | exact H.pull3 | exact H.pull4 | exact H.pull5 | exact H.pull6 | exact H.pull7); (case e => exact ⟨rfl, rfl, rfl, rfl⟩); (case S => exact (by first | exact agg34 | exact agg24 | exact agg31 | exact agg57 | exact agg58 | exact agg52)); (case hn => exact rfl); (case h1 => exact rfl); (case ho => exact Nat.le_of_ble_eq_true rfl); (case hc => exact rfl))); clear H; intro _ H; (try simp only [over, List.set_cons_zero, List.set_cons_succ] at H))))
  refine callV (right_spec r a n c _ (hA.chg H.chg (by simp)) hn) ?_
  rintro e w' ⟨rfl, H'⟩
  replace H := H.ext0 H'
  refine ⟨_, rfl, br_ndec (fun h => ⟨none, 0, ?_, ?_⟩) (fun h => ?_)⟩
  · simp [out, h, errOf]
  · simpa [out, h] using (H.done.nilS 9 1)
  obtain ⟨hw1, hw2, hw3⟩ := whole_small h
  have hlen := hA.len
  have hout : out r = pieces r := by rw [out, if_pos h]
  have herr : errOf (rightP r) = 0 := by rw [errOf, if_pos h]
  have hpl := pieces_length r
  rw [hout, herr]
  (repeat (first | ((repeat apply Exists.intro); first | refine ⟨H.ld (by exact ⟨rfl, rfl, rfl, rfl⟩) (by first | exact scl3 | exact scl9 | exact scl32 | exact scl22 | exact scl53 | exact scl26 | exact scl4 | exact scl5) (by repeat first | exact .head _ | refine .tail _ ?_) rfl, ?_⟩ | refine ⟨H.ldA (by exact ⟨rfl, rfl, rfl, rfl⟩) (by first | exact agg34 | exact agg24 | exact agg31 | exact agg57 | exact agg58 | exact agg52) (by repeat first | exact .head _ | refine .tail _ ?_) rfl rfl, ?_⟩) | (intro _ _ hn; replace H := H.new (by exact ⟨rfl, rfl, rfl, rfl⟩) hn; clear hn) | ((first | (apply Hp.st; (case H => first | exact H | exact H.pull1 | exact H.pull2 | exact H.pull3 | exact H.pull4 | exact H.pull5 | exact H.pull6 | exact H.pull7); (case e => exact ⟨rfl, rfl, rfl, rfl⟩); (case S => exact (by first | exact scl3 | exact scl9 | exact scl32 | exact scl22 | exact scl53 | exact scl26 | exact scl4 | exact scl5)); (case hv => exact rfl); (case h1 => exact rfl); (case ho => exact Nat.le_of_ble_eq_true rfl); (case hc => exact rfl)) | (apply Hp.stA; (case H => first | exact H | exact H.pull1 | exact H.pull2 | exact H.pull3 | exact H.pull4 | exact H.pull5 | exact H.pull6 | exact H.pull7); (case e => exact ⟨rfl, rfl, rfl, rfl⟩); (case S => exact (by first | exact agg34 | exact agg24 | exact agg31 | exact agg57 | exact agg58 | exact agg52)); (case hn => exact rfl); (case h1 => exact rfl); (case ho => exact Nat.le_of_ble_eq_true rfl); (case hc => exact rfl))); clear H; intro _ H; (try simp only [over, List.set_cons_zero, List.set_cons_succ] at H))))
  refine callV (whole_spec r a n c _ (hA.chg H.chg (by simp)) (by omega) (by omega)) ?_
  rintro e w2 ⟨a1, c1, rfl, H'⟩
  replace H := H.ext1 H'
  clear H'
  have hm : manyOf (wholeB r).length ≤ 34 := by unfold manyOf; omega
  refine ⟨_, _, _, rfl, inR64.2 (by omega), inR64.2 (by omega), by omega, ?_⟩
  rw [tdiv_many]
  refine ⟨inR64.2 (by omega), ?_⟩
  rename_i b _
  refine LoopP.mk (fun m s w' => ∃ k a' c', m = manyOf (wholeB r).length - k ∧ s = ((a', k, c'), (k : Int)) ∧ k ≤ manyOf (wholeB r).length ∧
      Hp [] w w' [.own 9 1 a' k c' (((pieces r).take k).map sv), .own 5 1 a1 (wholeB r).length c1 (bcells (wholeB r)), .blk b [.int .i64 r.id, .int .i64 r.parent, .int .i64 r.kind, .int .i64 r.name, .int .i64 r.frm, .int .i64 r.to, .string r.text, .slice a n c] 34]) (manyOf (wholeB r).length) ⟨0, none, 0, rfl, rfl, Nat.zero_le _, by simpa using H.nilS 9 1⟩ ?_
  clear H
  rintro m s w' next ⟨k, a', c', rfl, rfl, hk, H⟩ hnext
  dsimp only
  refine br_dec (fun h1 => ?_) (fun h1 => ?_)
  · have hkm : k < manyOf (wholeB r).length := by omega
    have hk9 : 900 * k < (wholeB r).length := by unfold manyOf at hkm; omega
    (repeat (first | ((repeat apply Exists.intro); first | refine ⟨H.ld (by exact ⟨rfl, rfl, rfl, rfl⟩) (by first | exact scl3 | exact scl9 | exact scl32 | exact scl22 | exact scl53 | exact scl26 | exact scl4 | exact scl5) (by repeat first | exact .head _ | refine .tail _ ?_) rfl, ?_⟩ | refine ⟨H.ldA (by exact ⟨rfl, rfl, rfl, rfl⟩) (by first | exact agg34 | exact agg24 | exact agg31 | exact agg57 | exact agg58 | exact agg52) (by repeat first | exact .head _ | refine .tail _ ?_) rfl rfl, ?_⟩) | (intro _ _ hn; replace H := H.new (by exact ⟨rfl, rfl, rfl, rfl⟩) hn; clear hn) | ((first | (apply Hp.st; (case H => first | exact H | exact H.pull1 | exact H.pull2 | exact H.pull3 | exact H.pull4 | exact H.pull5 | exact H.pull6 | exact H.pull7); (case e => exact ⟨rfl, rfl, rfl, rfl⟩); (case S => exact (by first | exact scl3 | exact scl9 | exact scl32 | exact scl22 | exact scl53 | exact scl26 | exact scl4 | exact scl5)); (case hv => exact rfl); (case h1 => exact rfl); (case ho => exact Nat.le_of_ble_eq_true rfl); (case hc => exact rfl)) | (apply Hp.stA; (case H => first | exact H | exact H.pull1 | exact H.pull2 | exact H.pull3 | exact H.pull4 | exact H.pull5 | exact H.pull6 | exact H.pull7); (case e => exact ⟨rfl, rfl, rfl, rfl⟩); (case S => exact (by first | exact agg34 | exact agg24 | exact agg31 | exact agg57 | exact agg58 | exact agg52)); (case hn => exact rfl); (case h1 => exact rfl); (case ho => exact Nat.le_of_ble_eq_true rfl); (case hc => exact rfl))); clear H; intro _ H; (try simp only [over, List.set_cons_zero, List.set_cons_succ] at H))))
    refine callV (lay_hp (bs := []) [(r.id, 4), ((k : Int), 1), ((manyOf (wholeB r).length : Int), 1)] (H.nilS 5 1) (by repeat first | exact .head _ | refine .tail _ ?_) (by simp) rfl (by simp) (by simp [laid, be_length])) ?_
    clear H
    rintro e w4 ⟨a4, c4, rfl, H⟩
    rw [List.nil_append, ← headB] at H ⊢
    have hl6 : (headB r.id k (manyOf (wholeB r).length)).length = 6 := by simp [headB, laid, be_length]
    have hown : Own w4 0 5 1 a1 (wholeB r).length c1 (bcells (wholeB r)) := H.ownA (by repeat first | exact .head _ | refine .tail _ ?_)
    have hc1 := hown.le
    have hbl := bcells_length (wholeB r)
    have en : Int.toNat ((k : Int) * 900) = 900 * k := by omega
    have em : Int.toNat (min ((wholeB r).length : Int) (((k : Int) + 1) * 900)) = min (wholeB r).length (900 * k + 900) := by omega
    refine ⟨_, _, _, rfl, inR64.2 (by omega), inR64.2 (by omega), inR64.2 (by omega), ⟨by omega, by omega, by omega⟩, ?_⟩
    rw [en, em]
    have hcl := ((hown.cells.slA (c := c1) (i := 900 * k) (by omega)).take 900)
    rw [← bcells_drop, ← bcells_take] at hcl
    have hpl2 : (((wholeB r).drop (900 * k)).take 900).length = min (wholeB r).length (900 * k + 900) - 900 * k := by simp only [List.length_take, List.length_drop]; omega
    refine Hp.app elt53 (by omega) H (by exact ⟨rfl, rfl, rfl, rfl⟩) (Cells.src und53 hcl (by rw [bcells_length, hpl2, Nat.mul_one]) (bcells_one _) ?_) (by omega) (by omega) ?_
    · intro h0
      have : a1 = none := by
        unfold slA at h0
        split at h0
        · exact h0
        · simpa using h0
      exact absurd this (Own.pos hown (by omega))
    clear H
    intro a5 c5 w5 H
    rw [← bcells_append, ← pieceB] at H
    have hpB : (pieceB r k).length = (headB r.id k (manyOf (wholeB r).length)).length + (min (wholeB r).length (900 * k + 900) - 900 * k) := by rw [pieceB, List.length_append, hpl2]
    rw [← hpB] at H ⊢
    refine ⟨⟨(pieceB r k).toArray⟩, b2s und53 und5 und9 (by rw [byteCells_mk]; exact Own.cells (H.ok _ (.head _))) (by simp [ByteArray.size]), ?_⟩
    (repeat (first | ((repeat apply Exists.intro); first | refine ⟨H.ld (by exact ⟨rfl, rfl, rfl, rfl⟩) (by first | exact scl3 | exact scl9 | exact scl32 | exact scl22 | exact scl53 | exact scl26 | exact scl4 | exact scl5) (by repeat first | exact .head _ | refine .tail _ ?_) rfl, ?_⟩ | refine ⟨H.ldA (by exact ⟨rfl, rfl, rfl, rfl⟩) (by first | exact agg34 | exact agg24 | exact agg31 | exact agg57 | exact agg58 | exact agg52) (by repeat first | exact .head _ | refine .tail _ ?_) rfl rfl, ?_⟩) | (intro _ _ hn; replace H := H.new (by exact ⟨rfl, rfl, rfl, rfl⟩) hn; clear hn) | ((first | (apply Hp.st; (case H => first | exact H | exact H.pull1 | exact H.pull2 | exact H.pull3 | exact H.pull4 | exact H.pull5 | exact H.pull6 | exact H.pull7); (case e => exact ⟨rfl, rfl, rfl, rfl⟩); (case S => exact (by first | exact scl3 | exact scl9 | exact scl32 | exact scl22 | exact scl53 | exact scl26 | exact scl4 | exact scl5)); (case hv => exact rfl); (case h1 => exact rfl); (case ho => exact Nat.le_of_ble_eq_true rfl); (case hc => exact rfl)) | (apply Hp.stA; (case H => first | exact H | exact H.pull1 | exact H.pull2 | exact H.pull3 | exact H.pull4 | exact H.pull5 | exact H.pull6 | exact H.pull7); (case e => exact ⟨rfl, rfl, rfl, rfl⟩); (case S => exact (by first | exact agg34 | exact agg24 | exact agg31 | exact agg57 | exact agg58 | exact agg52)); (case hn => exact rfl); (case h1 => exact rfl); (case ho => exact Nat.le_of_ble_eq_true rfl); (case hc => exact rfl))); clear H; intro _ H; (try simp only [over, List.set_cons_zero, List.set_cons_succ] at H))))
    refine Hp.app elt26 (by omega) H.pull3 (by exact ⟨rfl, rfl, rfl, rfl⟩) (Blk.src (P := Go.Proofs.Try.prog) (show Go.Proofs.Try.prog.underlying 26 = some (.slice 9) by kernel_rfl) (H.blk (.head _)) rfl rfl) (by omega) (by omega) ?_
    clear H
    intro a6 c6 w6 H
    refine ⟨inR64.2 (by omega), hnext (manyOf (wholeB r).length - (k + 1)) _ _ (by omega) ⟨k + 1, a6, c6, rfl, rfl, by omega, ?_⟩⟩
    have ep : ((pieces r).take (k + 1)).map sv = ((pieces r).take k).map sv ++ [.string ⟨(pieceB r k).toArray⟩] := by
      rw [List.take_succ_eq_append_getElem (by omega), List.map_append]
      simp [pieces, sv]
    rw [ep]
    exact H.del1.del1.del1
  · have hkm : k = manyOf (wholeB r).length := by omega
    subst hkm
    rw [← hpl, List.take_length] at H
    rw [← hpl]
    exact ⟨a', c', rfl, H.done1⟩
end Go.Proofs.Ytcgaobfbgfefhaa
