/- Folio: the plain law: pieces put together are the record that was cut. -/
import Derived.Test.YtcgaobfbgfefhaaFf
set_option linter.unusedVariables false
set_option linter.unusedSimpArgs false
namespace Go.Proofs.Ytcgaobfbgfefhaa
open Go Go.Vc

/-! ### Numbers of bytes, back -/
theorem valN_be (n : Int) (h0 : 0 ≤ n) : ∀ k, valN (be n k) = n.toNat % 256 ^ k := by
  have aux : ∀ k (a : Nat), (be n k).foldl (fun n x => n * 256 + x.toNat) a = a * 256 ^ k + n.toNat % 256 ^ k := by
    intro k
    induction k with
    | zero => intro a; simp [be, Nat.mod_one]
    | succ k ih =>
      intro a
      have h1 : (bt n k).toNat = n.toNat / 256 ^ k % 256 := by
        have h2 := bt_toNat n k
        have h3 : (2 : Int) ^ (8 * k) = ((256 ^ k : Nat) : Int) := by
          rw [Int.pow_mul]; simp
        rw [h3] at h2
        have h4 : n / ((256 ^ k : Nat) : Int) = ((n.toNat / 256 ^ k : Nat) : Int) := by
          rw [Int.natCast_ediv, Int.toNat_of_nonneg h0]
        rw [h4] at h2
        omega
      rw [be, List.foldl_cons, ih, h1, Nat.pow_succ]
      have h5 : n.toNat % (256 ^ k * 256) = n.toNat % 256 ^ k + 256 ^ k * (n.toNat / 256 ^ k % 256) := Nat.mod_mul
      rw [h5, Nat.add_mul, Nat.mul_assoc, Nat.mul_comm 256 (256 ^ k), Nat.mul_comm (n.toNat / 256 ^ k % 256)]
      omega
  intro k
  simpa [valN] using aux k 0
theorem valN_be' {n : Int} {k : Nat} (h0 : 0 ≤ n) (h1 : n < 256 ^ k) : (valN (be n k) : Int) = n := by
  rw [valN_be n h0, Nat.mod_eq_of_lt]
  · omega
  · have : ((256 ^ k : Nat) : Int) = 256 ^ k := by simp
    omega
theorem num_be {n : Int} {k : Nat} (h0 : 0 ≤ n) (h1 : n < 256 ^ k) (h2 : n < 9223372036854775808) : num (be n k) = n := by
  rw [num, valN_be' h0 h1, wrap64_def, if_neg (by omega)]
  omega

/-! ### Pieces -/
def fid (l : List (List UInt8)) : Nat := match l with
  | [] => 0
  | s :: _ => match headF s with
    | none => 0
    | some (a, _, _) => a
def good (l : List (List UInt8)) : Prop := ∀ k s, l[k]? = some s → headF s = some (fid l, k, l.length)
def joinB (l : List (List UInt8)) : List UInt8 := l.flatMap (·.drop 6)

theorem take_left {α : Type} (a b : List α) (n : Nat) (h : a.length = n) : (a ++ b).take n = a := by subst h; simp
theorem drop_left {α : Type} (a b : List α) (n : Nat) (h : a.length = n) : (a ++ b).drop n = b := by subst h; simp
theorem chunks {α : Type} (l : List α) (m : Nat) : (List.range m).flatMap (fun k => (l.drop (900 * k)).take 900) = l.take (900 * m) := by
  induction m with
  | zero => simp
  | succ m ih =>
    rw [List.range_succ, List.flatMap_append, ih]
    simp only [List.flatMap_cons, List.flatMap_nil, List.append_nil]
    rw [show 900 * (m + 1) = 900 * m + 900 by omega, List.take_add]
theorem head_len (id : Int) (k m : Nat) : (headB id k m).length = 6 := by simp [headB, laid, be_length]
theorem piece_drop (r : Rec) (k : Nat) : (pieceB r k).drop 6 = ((wholeB r).drop (900 * k)).take 900 := drop_left _ _ 6 (head_len _ _ _)
theorem join_pieces (r : Rec) : joinB (pieces r) = wholeB r := by
  rw [joinB, pieces, List.flatMap_map]
  have : (fun k => (pieceB r k).drop 6) = fun k => ((wholeB r).drop (900 * k)).take 900 := funext fun k => piece_drop r k
  rw [this, chunks]
  exact List.take_of_length_le (by unfold manyOf; omega)
theorem piece_len (r : Rec) (k : Nat) : (pieceB r k).length = 6 + min 900 ((wholeB r).length - 900 * k) := by
  rw [pieceB, List.length_append, head_len, List.length_take, List.length_drop]
theorem head_piece {r : Rec} (h : rightP r) {k : Nat} (hk : k < manyOf (wholeB r).length) : headF (pieceB r k) = some (r.id.toNat, k, manyOf (wholeB r).length) := by
  obtain ⟨h1, h2, h3⟩ := whole_small h
  have hm : manyOf (wholeB r).length ≤ 34 := by unfold manyOf; omega
  have hid := h.1
  have hid2 := h.2.1
  have hl := piece_len r k
  have e : pieceB r k = be r.id 4 ++ (be (k : Int) 1 ++ (be (manyOf (wholeB r).length : Int) 1 ++ ((wholeB r).drop (900 * k)).take 900)) := by
    rw [pieceB, headB]; simp [laid]
  have e4 : (pieceB r k).take 4 = be r.id 4 := by rw [e]; exact take_left _ _ 4 (be_length _ _)
  have d4 : (pieceB r k).drop 4 = be (k : Int) 1 ++ (be (manyOf (wholeB r).length : Int) 1 ++ ((wholeB r).drop (900 * k)).take 900) := by rw [e]; exact drop_left _ _ 4 (be_length _ _)
  have d5 : (pieceB r k).drop 5 = be (manyOf (wholeB r).length : Int) 1 ++ ((wholeB r).drop (900 * k)).take 900 := by
    rw [show 5 = 4 + 1 from rfl, ← List.drop_drop, d4]; exact drop_left _ _ 1 (be_length _ _)
  have v4 : (valN (be r.id 4) : Int) = r.id := valN_be' (by omega) (by omega)
  have v1 : (valN (be (k : Int) 1) : Int) = k := valN_be' (by omega) (by omega)
  have v2 : (valN (be (manyOf (wholeB r).length : Int) 1) : Int) = manyOf (wholeB r).length := valN_be' (by omega) (by omega)
  have t1 : ((pieceB r k).drop 4).take 1 = be (k : Int) 1 := by rw [d4]; exact take_left _ _ 1 (be_length _ _)
  have t2 : ((pieceB r k).drop 5).take 1 = be (manyOf (wholeB r).length : Int) 1 := by rw [d5]; exact take_left _ _ 1 (be_length _ _)
  rw [headF, if_neg (by omega), e4, t1, t2, if_neg (by omega)]
  simp only [Option.some.injEq, Prod.mk.injEq]
  omega
theorem good_pieces {r : Rec} (h : rightP r) : good (pieces r) := by
  obtain ⟨h1, h2, h3⟩ := whole_small h
  have hm : 0 < manyOf (wholeB r).length := by unfold manyOf; omega
  have hf : fid (pieces r) = r.id.toNat := by
    have h0 : (pieces r)[0]? = some (pieceB r 0) := by simp [pieces, hm]
    cases hp : pieces r with
    | nil => rw [hp] at h0; cases h0
    | cons s t =>
      rw [hp] at h0; simp at h0; subst h0
      simp only [fid, head_piece h hm]
  intro k s hs
  rw [pieces_length, hf]
  have hk : k < manyOf (wholeB r).length := by
    have := (List.getElem?_eq_some_iff.1 hs).1
    rwa [pieces_length] at this
  have : s = pieceB r k := by
    simp [pieces, hk] at hs; exact hs.symm
  subst this
  exact head_piece h hk

/-! ### What the reader reads -/
theorem tk_left {a b : List UInt8} {n : Nat} (h : a.length = n) : tk (a ++ b) n = a := by
  rw [tk, if_pos (by simp; omega)]; exact take_left _ _ n h
theorem dr_left {a b : List UInt8} {n : Nat} (h : a.length = n) : dr (a ++ b) n = b := by
  rw [dr, if_pos (by simp; omega)]; exact drop_left _ _ n h
theorem nl_left {a b : List UInt8} {n : Nat} (h : a.length = n) : decide ((a ++ b).length < n) = false := by
  rw [decide_eq_false_iff_not]; simp; omega

def parseA : Nat → List UInt8 → List (Int × ByteArray) × List UInt8 × Bool
  | 0, b => ([], b, false)
  | n + 1, b =>
    let len := (num (tk (dr b 2) 2)).toNat
    let r := parseA n (dr (dr (dr b 2) 2) len)
    ((num (tk b 2), ⟨(tk (dr (dr b 2) 2) len).toArray⟩) :: r.1, r.2.1, ((decide (b.length < 2) || decide ((dr b 2).length < 2)) || decide ((dr (dr b 2) 2).length < len)) || r.2.2)

theorem parseA_back : ∀ (l : List (Int × ByteArray)) (rest : List UInt8), (∀ p ∈ l, named1 p.1 ∧ p.2.size ≤ 1500) → parseA l.length (attrsB l ++ rest) = (l, rest, false)
  | [], rest, h => rfl
  | p :: r, rest, h => by
    obtain ⟨⟨h1, h2⟩, h3⟩ := h p (.head _)
    have ih := parseA_back r rest fun q hq => h q (.tail _ hq)
    have e : attrsB (p :: r) ++ rest = be p.1 2 ++ (be (p.2.size : Int) 2 ++ (p.2.data.toList ++ (attrsB r ++ rest))) := by simp [attrsB]
    have hs : p.2.data.toList.length = p.2.size := Array.length_toList
    have hl2 : ∀ n : Int, (be n 2).length = 2 := fun n => be_length n 2
    have n1 : num (be p.1 2) = p.1 := num_be (by omega) (by omega) (by omega)
    have n2 : num (be (p.2.size : Int) 2) = (p.2.size : Int) := num_be (by omega) (by omega) (by omega)
    rw [List.length_cons, e]
    simp only [parseA, tk_left (hl2 _), dr_left (hl2 _), nl_left (hl2 _), n1, n2, Int.toNat_natCast, tk_left hs, dr_left hs, nl_left hs, ih]
    rfl

/-- what is read, in the reader's order -/
structure Parsed where
  r : Rec
  rest : List UInt8
  short : Bool
def lens (l : List Nat) (b : List UInt8) : List UInt8 := l.foldl dr b
def shorts (l : List Nat) (b : List UInt8) : Bool := match l with
  | [] => false
  | n :: r => decide (b.length < n) || shorts r (dr b n)
def textN (b : List UInt8) : Nat := (num (tk (lens [4, 4, 8, 8, 1, 2] b) 2)).toNat
def attrsN (b : List UInt8) : Nat := (num (tk (lens [4, 4, 8, 8, 1, 2, 2, textN b] b) 1)).toNat
def parse (b : List UInt8) : Parsed :=
  let A := parseA (attrsN b) (lens [4, 4, 8, 8, 1, 2, 2, textN b, 1] b)
  { r := { id := num (tk b 4), parent := num (tk (lens [4] b) 4), frm := num (tk (lens [4, 4] b) 8), to := num (tk (lens [4, 4, 8] b) 8), kind := num (tk (lens [4, 4, 8, 8] b) 1), name := num (tk (lens [4, 4, 8, 8, 1] b) 2), text := ⟨(tk (lens [4, 4, 8, 8, 1, 2, 2] b) (textN b)).toArray⟩, attrs := A.1 }
    rest := A.2.1
    short := shorts [4, 4, 8, 8, 1, 2, 2, textN b, 1] b || A.2.2 }

theorem parse_whole {r : Rec} (h : rightP r) : parse (wholeB r) = ⟨r, [], false⟩ := by
  have hw := whole_small h
  obtain ⟨h1, h2, h3, h4, h5, h6, h7, h8⟩ := h
  have e : wholeB r = be r.id 4 ++ (be r.parent 4 ++ (be r.frm 8 ++ (be r.to 8 ++ (be r.kind 1 ++ (be r.name 2 ++ (be (r.text.size : Int) 2 ++ (r.text.data.toList ++ (be (r.attrs.length : Int) 1 ++ (attrsB r.attrs ++ []))))))))) := by
    simp [wholeB, frontB, laid]
  have hk : 0 ≤ r.kind ∧ r.kind < 256 ∧ 0 ≤ r.name ∧ r.name < 65536 ∧ r.text.size ≤ 1500 ∧ ∀ p ∈ r.attrs, named1 p.1 ∧ p.2.size ≤ 1500 := by
    rcases h8 with ⟨k1, a1, _, a2, a3, _⟩ | ⟨k1, a1, a2, a3⟩
    · refine ⟨by omega, by omega, ?_, ?_, ?_, a1⟩
      · have := a2.1; omega
      · have := a2.2; omega
      · rw [a3]; simp [ByteArray.size]
    · refine ⟨by omega, by omega, by omega, by omega, a3, ?_⟩
      rw [a2]; simp
  obtain ⟨k1, k2, k3, k4, k5, k6⟩ := hk
  have hs : r.text.data.toList.length = r.text.size := Array.length_toList
  have l1 : ∀ n : Int, (be n 1).length = 1 := fun n => be_length n 1
  have l2 : ∀ n : Int, (be n 2).length = 2 := fun n => be_length n 2
  have l4 : ∀ n : Int, (be n 4).length = 4 := fun n => be_length n 4
  have l8 : ∀ n : Int, (be n 8).length = 8 := fun n => be_length n 8
  have n1 : num (be r.id 4) = r.id := num_be (by omega) (by omega) (by omega)
  have n2 : num (be r.parent 4) = r.parent := num_be (by omega) (by omega) (by omega)
  have n3 : num (be r.frm 8) = r.frm := num_be (by omega) (by omega) (by omega)
  have n4 : num (be r.to 8) = r.to := num_be (by omega) (by omega) (by omega)
  have n5 : num (be r.kind 1) = r.kind := num_be (by omega) (by omega) (by omega)
  have n6 : num (be r.name 2) = r.name := num_be (by omega) (by omega) (by omega)
  have n7 : num (be (r.text.size : Int) 2) = (r.text.size : Int) := num_be (by omega) (by omega) (by omega)
  have n8 : num (be (r.attrs.length : Int) 1) = (r.attrs.length : Int) := num_be (by omega) (by omega) (by omega)
  have t : textN (wholeB r) = r.text.size := by
    rw [e]
    simp only [textN, lens, List.foldl_cons, List.foldl_nil, dr_left (l4 _), dr_left (l8 _), dr_left (l1 _), dr_left (l2 _), tk_left (l2 _), n7, Int.toNat_natCast]
  have at_ : attrsN (wholeB r) = r.attrs.length := by
    rw [attrsN, t, e]
    simp only [lens, List.foldl_cons, List.foldl_nil, dr_left (l4 _), dr_left (l8 _), dr_left (l1 _), dr_left (l2 _), tk_left (l1 _), dr_left hs, n8, Int.toNat_natCast]
  rw [parse, t, at_, e]
  simp only [shorts, lens, List.foldl_cons, List.foldl_nil, dr_left (l4 _), dr_left (l8 _), dr_left (l1 _), dr_left (l2 _), dr_left hs, tk_left (l4 _), tk_left (l8 _), tk_left (l1 _), tk_left (l2 _), tk_left hs,
    nl_left (l4 _), nl_left (l8 _), nl_left (l1 _), nl_left (l2 _), nl_left hs, n1, n2, n3, n4, n5, n6, parseA_back r.attrs [] k6]
  rfl

/-- the record whose pieces they are -/
def decR (l : List (List UInt8)) (r : Rec) : Prop := rightP r ∧ pieces r = l
theorem decR_join {l : List (List UInt8)} {r : Rec} (h : decR l r) : good l ∧ joinB l = wholeB r ∧ 30 ≤ (joinB l).length ∧ parse (joinB l) = ⟨r, [], false⟩ := by
  obtain ⟨h1, rfl⟩ := h
  rw [join_pieces]
  exact ⟨good_pieces h1, rfl, (whole_small h1).1, parse_whole h1⟩
theorem decR_one {l : List (List UInt8)} {r r' : Rec} (h : decR l r) (h' : decR l r') : r = r' := by
  have h1 := (decR_join h).2.2.2
  rw [(decR_join h').2.2.2] at h1
  exact (congrArg Parsed.r h1).symm
end Go.Proofs.Ytcgaobfbgfefhaa
