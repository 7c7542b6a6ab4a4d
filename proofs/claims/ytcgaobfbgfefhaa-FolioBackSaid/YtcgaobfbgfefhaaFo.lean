/- Folio: 'alive'; what the laws ask. -/
import Derived.Test.YtcgaobfbgfefhaaFi
import Derived.Test.YtcgaobfbgfefhaaFn
set_option linter.unusedVariables false
set_option linter.unusedSimpArgs false
namespace Go.Proofs.Ytcgaobfbgfefhaa
open Go Go.Vc

def z0 : Rec := ⟨0, 0, 0, 0, 0, 0, ⟨#[]⟩, []⟩
theorem AtS.own {w : World} {a : Option Addr} {n c : Nat} {e : TypeId} {l : List (Int × ByteArray)} (h : Own w 0 e 2 a n c (attrCells l)) (hn : n = l.length) : AtS w a n l := ⟨hn, h.cells⟩
theorem decode_u (l : List (List UInt8)) (a : Option Addr) (n c : Nat) (w : World) (hS : StrS w a n l) (hn : n ≤ maxLen) :
    Calls Go.Proofs.Try.prog 17 #[.slice a n c] w fun e w' => ∃ (q : Rec) (a' : Option Addr) (c' : Nat) (er : Int), e = .returned (.tuple #[q.val a' q.attrs.length c', .int .i64 er]) ∧ ((decR l q ∧ er = 0) ∨ ((¬ ∃ r, decR l r) ∧ q = z0 ∧ er = 160)) ∧ Hp [] w w' [.own 58 2 a' q.attrs.length c' (attrCells q.attrs)] := by
  refine Calls.mono (decode_spec l a n c w hS hn) ?_
  rintro e w' (⟨r, a', c', h1, rfl, H⟩ | ⟨h1, rfl, H⟩)
  · exact ⟨r, a', c', 0, rfl, .inl ⟨h1, rfl⟩, H⟩
  · exact ⟨z0, none, 0, 160, rfl, .inr ⟨h1, rfl, rfl⟩, H.nilS 58 2⟩
theorem rdecode_u (l : List (List UInt8)) (a : Option Addr) (n c : Nat) (w : World) (hS : StrS w a n l) (hn : n ≤ 60) (hbig : ∀ s ∈ l, s.length ≤ 140737488355328) :
    Calls Go.Proofs.Try.prog 18 #[.slice a n c] w fun e w' => ∃ (q : Rec) (a' : Option Addr) (c' : Nat) (er : Int), e = .returned (.tuple #[q.val a' q.attrs.length c', .int .i64 er]) ∧ ((decR l q ∧ er = 0) ∨ ((¬ ∃ r, decR l r) ∧ q = z0 ∧ er = 160)) ∧ Hp [] w w' [.own 52 2 a' q.attrs.length c' (attrCells q.attrs)] := by
  refine Calls.mono (rdecode_spec l a n c w hS hn hbig) ?_
  rintro e w' (⟨r, a', c', h1, rfl, H⟩ | ⟨h1, rfl, H⟩)
  · exact ⟨r, a', c', 0, rfl, .inl ⟨h1, rfl⟩, H⟩
  · exact ⟨z0, none, 0, 160, rfl, .inr ⟨h1, rfl, rfl⟩, H.nilS 52 2⟩
theorem dec_len {l : List (List UInt8)} {q : Rec} {er : Int} (h : (decR l q ∧ er = 0) ∨ ((¬ ∃ r, decR l r) ∧ q = z0 ∧ er = 160)) : q.attrs.length ≤ 20 := by
  rcases h with ⟨h, _⟩ | ⟨_, rfl, _⟩
  · exact (whole_small h.1).2.2
  · simp [z0]
theorem dec_same {l : List (List UInt8)} {q q' : Rec} {er er' : Int} (h : (decR l q ∧ er = 0) ∨ ((¬ ∃ r, decR l r) ∧ q = z0 ∧ er = 160)) (h' : (decR l q' ∧ er' = 0) ∨ ((¬ ∃ r, decR l r) ∧ q' = z0 ∧ er' = 160)) : q = q' ∧ er = er' := by
  rcases h with ⟨h, rfl⟩ | ⟨h, rfl, rfl⟩ <;> rcases h' with ⟨h', rfl⟩ | ⟨h', rfl, rfl⟩
  · exact ⟨decR_one h h', rfl⟩
  · exact absurd ⟨_, h⟩ h'
  · exact absurd ⟨_, h'⟩ h
  · exact ⟨rfl, rfl⟩
theorem out_strS {w : World} {a : Option Addr} {c : Nat} {l : List (List UInt8)} (h : Own w 0 9 1 a l.length c (l.map sv)) : StrS w a l.length l := ⟨rfl, h.cells⟩

def r1 : Rec := ⟨1, 0, 1, 2, 3, 9, ⟨#[]⟩, []⟩
theorem r1_right : rightP r1 := ⟨by decide, by decide, by decide, by decide, by decide, by decide, by decide, .inl ⟨rfl, by simp [r1], by simp [r1], ⟨by decide, by decide⟩, rfl, by simp [r1]⟩⟩
theorem r1_len : (wholeB r1).length = 30 := by rw [whole_len]; rfl
theorem r1_pieces : (out r1).length = 1 ∧ ∀ s, (out r1)[0]? = some s → s.length = 36 := by
  have h : out r1 = pieces r1 := by rw [out, if_pos r1_right]
  rw [h, pieces_length, r1_len]
  refine ⟨rfl, ?_⟩
  intro s hs
  have : s = pieceB r1 0 := by
    have hm : manyOf (wholeB r1).length = 1 := by rw [r1_len]; rfl
    simp [pieces, hm] at hs; exact hs.symm
  rw [this, piece_len, r1_len]; rfl
theorem r1_dec : decR (out r1) r1 := ⟨r1_right, by rw [out, if_pos r1_right]⟩

theorem alive_spec (w : World) : Calls Go.Proofs.Try.prog 10 #[] w fun e w' => e = .returned (.bool true) ∧ Hp [] w w' [] := by
  apply alive.ok
  unfold alive.vc
  have H := Hp.start w
  have hmax : maxLen = 9223372036854775807 := by simp [maxLen]
  (repeat (first | ((repeat apply Exists.intro); first | refine ⟨H.ld (by exact ⟨rfl, rfl, rfl, rfl⟩) (by first | exact scl3 | exact scl9 | exact scl22 | exact scl32) (by repeat first | exact .head _ | refine .tail _ ?_) rfl, ?_⟩ | refine ⟨H.ldA (by exact ⟨rfl, rfl, rfl, rfl⟩) (by first | exact agg24 | exact agg34 | exact agg52) (by repeat first | exact .head _ | refine .tail _ ?_) rfl rfl, ?_⟩) | (intro _ _ hn; replace H := H.new (by exact ⟨rfl, rfl, rfl, rfl⟩) hn; clear hn) | ((first | (apply Hp.st; (case H => first | exact H | exact H.pull1 | exact H.pull2 | exact H.pull3 | exact H.pull4 | exact H.pull5 | exact H.pull6 | exact H.pull7); (case e => exact ⟨rfl, rfl, rfl, rfl⟩); (case S => exact (by first | exact scl3 | exact scl9 | exact scl22 | exact scl32)); (case hv => exact rfl); (case h1 => exact rfl); (case ho => exact Nat.le_of_ble_eq_true rfl); (case hc => exact rfl)) | (apply Hp.stA; (case H => first | exact H | exact H.pull1 | exact H.pull2 | exact H.pull3 | exact H.pull4 | exact H.pull5 | exact H.pull6 | exact H.pull7); (case e => exact ⟨rfl, rfl, rfl, rfl⟩); (case S => exact (by first | exact agg24 | exact agg34 | exact agg52)); (case hn => exact rfl); (case h1 => exact rfl); (case ho => exact Nat.le_of_ble_eq_true rfl); (case hc => exact rfl))); clear H; intro _ H; (try simp only [over, List.set_cons_zero, List.set_cons_succ] at H))))
  refine callV (own_spec r1 none 0 0 _ ⟨rfl, by intro j v hj; simp [r1, attrCells] at hj⟩ (by omega)) ?_
  rintro e w2 ⟨a1, c1, rfl, H'⟩; replace H := H.ext1 H'; clear H'
  refine ⟨_, _, _, _, _, _, _, _, _, _, rfl, ?_⟩
  refine callV (encode_spec r1 a1 0 c1 _ (AtS.own (H.ownA (.head _)) rfl) (by omega)) ?_
  rintro e w3 ⟨a2, c2, rfl, H'⟩; replace H := H.ext1 H'; clear H'
  refine ⟨_, _, _, _, rfl, ?_⟩
  have hS := out_strS (H.ownA (.head _))
  refine callV (decode_u (out r1) a2 _ c2 _ hS (by rw [r1_pieces.1]; omega)) ?_
  rintro e w4 ⟨q, a3, c3, er, rfl, hq, H'⟩; replace H := H.ext1 H'; clear H'
  have hq1 : q = r1 ∧ er = 0 := by
    rcases hq with ⟨h1, h2⟩ | ⟨h1, _⟩
    · exact ⟨decR_one h1 r1_dec, h2⟩
    · exact absurd ⟨_, r1_dec⟩ h1
  obtain ⟨rfl, rfl⟩ := hq1
  refine ⟨_, _, _, _, _, _, _, _, _, _, _, rfl, ?_⟩
  (repeat (first | ((repeat apply Exists.intro); first | refine ⟨H.ld (by exact ⟨rfl, rfl, rfl, rfl⟩) (by first | exact scl3 | exact scl9 | exact scl22 | exact scl32) (by repeat first | exact .head _ | refine .tail _ ?_) rfl, ?_⟩ | refine ⟨H.ldA (by exact ⟨rfl, rfl, rfl, rfl⟩) (by first | exact agg24 | exact agg34 | exact agg52) (by repeat first | exact .head _ | refine .tail _ ?_) rfl rfl, ?_⟩) | (intro _ _ hn; replace H := H.new (by exact ⟨rfl, rfl, rfl, rfl⟩) hn; clear hn) | ((first | (apply Hp.st; (case H => first | exact H | exact H.pull1 | exact H.pull2 | exact H.pull3 | exact H.pull4 | exact H.pull5 | exact H.pull6 | exact H.pull7); (case e => exact ⟨rfl, rfl, rfl, rfl⟩); (case S => exact (by first | exact scl3 | exact scl9 | exact scl22 | exact scl32)); (case hv => exact rfl); (case h1 => exact rfl); (case ho => exact Nat.le_of_ble_eq_true rfl); (case hc => exact rfl)) | (apply Hp.stA; (case H => first | exact H | exact H.pull1 | exact H.pull2 | exact H.pull3 | exact H.pull4 | exact H.pull5 | exact H.pull6 | exact H.pull7); (case e => exact ⟨rfl, rfl, rfl, rfl⟩); (case S => exact (by first | exact agg24 | exact agg34 | exact agg52)); (case hn => exact rfl); (case h1 => exact rfl); (case ho => exact Nat.le_of_ble_eq_true rfl); (case hc => exact rfl))); clear H; intro _ H; (try simp only [over, List.set_cons_zero, List.set_cons_succ] at H))))
  have hr0 : errOf (rightP r1) = 0 := by rw [errOf, if_pos r1_right]
  refine br_dec (fun _ => br_dec (fun hl => ?_) (fun hl => absurd (by rw [r1_pieces.1]; rfl) hl)) (fun h => absurd hr0 h)
  have h0 : (out r1)[0]? = some (out r1)[0] := List.getElem?_eq_getElem (by rw [r1_pieces.1]; omega)
  replace H := H.drew
  have hS := out_strS (H.ownA (.tail _ (.tail _ (.head _))))
  obtain ⟨ad, had, _⟩ := hS.ld h0
  refine onP_mk had ⟨⟨by omega, by omega⟩, _, hS.ld0 h0 had, ?_⟩
  rw [mk_size]
  refine br_dec (fun _ => br_dec (fun _ => ?_) (fun h => absurd rfl h)) (fun h => absurd (by rw [r1_pieces.2 _ h0]; rfl) h)
  (repeat (first | ((repeat apply Exists.intro); first | refine ⟨H.ld (by exact ⟨rfl, rfl, rfl, rfl⟩) (by first | exact scl3 | exact scl9 | exact scl22 | exact scl32) (by repeat first | exact .head _ | refine .tail _ ?_) rfl, ?_⟩ | refine ⟨H.ldA (by exact ⟨rfl, rfl, rfl, rfl⟩) (by first | exact agg24 | exact agg34 | exact agg52) (by repeat first | exact .head _ | refine .tail _ ?_) rfl rfl, ?_⟩) | (intro _ _ hn; replace H := H.new (by exact ⟨rfl, rfl, rfl, rfl⟩) hn; clear hn) | ((first | (apply Hp.st; (case H => first | exact H | exact H.pull1 | exact H.pull2 | exact H.pull3 | exact H.pull4 | exact H.pull5 | exact H.pull6 | exact H.pull7); (case e => exact ⟨rfl, rfl, rfl, rfl⟩); (case S => exact (by first | exact scl3 | exact scl9 | exact scl22 | exact scl32)); (case hv => exact rfl); (case h1 => exact rfl); (case ho => exact Nat.le_of_ble_eq_true rfl); (case hc => exact rfl)) | (apply Hp.stA; (case H => first | exact H | exact H.pull1 | exact H.pull2 | exact H.pull3 | exact H.pull4 | exact H.pull5 | exact H.pull6 | exact H.pull7); (case e => exact ⟨rfl, rfl, rfl, rfl⟩); (case S => exact (by first | exact agg24 | exact agg34 | exact agg52)); (case hn => exact rfl); (case h1 => exact rfl); (case ho => exact Nat.le_of_ble_eq_true rfl); (case hc => exact rfl))); clear H; intro _ H; (try simp only [over, List.set_cons_zero, List.set_cons_succ] at H))))
  refine callV (plain_spec r1 a3 0 c3 _ (AtS.own (H.ownA (by repeat first | exact .head _ | refine .tail _ ?_)) rfl) (by omega)) ?_
  rintro e w5 ⟨a4, c4, rfl, H'⟩; replace H := H.ext1 H'; clear H'
  refine ⟨_, _, _, _, _, _, _, _, _, _, rfl, ?_⟩
  (repeat (first | ((repeat apply Exists.intro); first | refine ⟨H.ld (by exact ⟨rfl, rfl, rfl, rfl⟩) (by first | exact scl3 | exact scl9 | exact scl22 | exact scl32) (by repeat first | exact .head _ | refine .tail _ ?_) rfl, ?_⟩ | refine ⟨H.ldA (by exact ⟨rfl, rfl, rfl, rfl⟩) (by first | exact agg24 | exact agg34 | exact agg52) (by repeat first | exact .head _ | refine .tail _ ?_) rfl rfl, ?_⟩) | (intro _ _ hn; replace H := H.new (by exact ⟨rfl, rfl, rfl, rfl⟩) hn; clear hn) | ((first | (apply Hp.st; (case H => first | exact H | exact H.pull1 | exact H.pull2 | exact H.pull3 | exact H.pull4 | exact H.pull5 | exact H.pull6 | exact H.pull7); (case e => exact ⟨rfl, rfl, rfl, rfl⟩); (case S => exact (by first | exact scl3 | exact scl9 | exact scl22 | exact scl32)); (case hv => exact rfl); (case h1 => exact rfl); (case ho => exact Nat.le_of_ble_eq_true rfl); (case hc => exact rfl)) | (apply Hp.stA; (case H => first | exact H | exact H.pull1 | exact H.pull2 | exact H.pull3 | exact H.pull4 | exact H.pull5 | exact H.pull6 | exact H.pull7); (case e => exact ⟨rfl, rfl, rfl, rfl⟩); (case S => exact (by first | exact agg24 | exact agg34 | exact agg52)); (case hn => exact rfl); (case h1 => exact rfl); (case ho => exact Nat.le_of_ble_eq_true rfl); (case hc => exact rfl))); clear H; intro _ H; (try simp only [over, List.set_cons_zero, List.set_cons_succ] at H))))
  refine callV (rsame_spec r1 r1 a4 none 0 c4 0 0 _ (AtS.own (H.ownA (.head _)) rfl) ⟨rfl, by intro j v hj; simp [r1, attrCells] at hj⟩ (by omega)) ?_
  rintro e w6 ⟨⟨rfl, _⟩ | ⟨rfl, h⟩, H'⟩
  · exact ⟨_, rfl, rfl, (H.ext0 H').done⟩
  · exact absurd rfl h
end Go.Proofs.Ytcgaobfbgfefhaa
