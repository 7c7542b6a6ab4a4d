/- Folio: the reference's 'Decode'. -/
import Derived.Test.YtcgaobfbgfefhaaFl
set_option linter.unusedVariables false
set_option linter.unusedSimpArgs false
namespace Go.Proofs.Ytcgaobfbgfefhaa
open Go Go.Vc

theorem t4 : Int.toNat 4 = 4 := rfl
theorem t6 : Int.toNat 6 = 6 := rfl
theorem t8 : Int.toNat 8 = 8 := rfl
theorem t16 : Int.toNat 16 = 16 := rfl
theorem t24 : Int.toNat 24 = 24 := rfl
theorem t25 : Int.toNat 25 = 25 := rfl
theorem t27 : Int.toNat 27 = 27 := rfl
theorem t29 : Int.toNat 29 = 29 := rfl
theorem valN_small (x : List UInt8) (h : x.length ≤ 7) : valN x < 9223372036854775808 := by
  have h1 := valN_lt x
  have h2 : 256 ^ x.length ≤ 256 ^ 7 := Nat.pow_le_pow_right (by omega) h
  omega
theorem valN_cons (x : UInt8) (l : List UInt8) : valN (x :: l) = x.toNat * 256 ^ l.length + valN l := by
  have aux : ∀ (l : List UInt8) (a : Nat), l.foldl (fun n x => n * 256 + x.toNat) a = a * 256 ^ l.length + valN l := by
    intro l
    induction l with
    | nil => intro a; simp [valN]
    | cons y r ih =>
      intro a
      have e1 : valN (y :: r) = y.toNat * 256 ^ r.length + valN r := by
        show r.foldl (fun n x => n * 256 + x.toNat) (0 * 256 + y.toNat) = _
        rw [ih]; simp
      rw [List.foldl_cons, ih, e1, List.length_cons, Nat.pow_succ, Nat.add_mul, Nat.mul_assoc, Nat.mul_comm 256]
      omega
  rw [valN, List.foldl_cons, aux]
  simp
/-- eight bytes of which the first is small -/
theorem valN_eight (x : List UInt8) (h8 : x.length = 8) (h : Op.bytesLess (x.take 1) [128] = true) : valN x < 9223372036854775808 := by
  cases x with
  | nil => cases h8
  | cons y r =>
    have h1 := valN_lt r
    have hr : r.length = 7 := by simpa using h8
    rw [hr] at h1
    have hy : y.toNat < 128 := by
      simp only [List.take_succ_cons, List.take_zero, Op.bytesLess] at h
      by_cases hlt : y < 128
      · exact hlt
      · simp [hlt, Op.bytesLess] at h
    rw [valN_cons, hr]
    omega
theorem whole_parts {r : Rec} (h : rightP r) : ∃ rest, wholeB r = be r.id 4 ++ (be r.parent 4 ++ (be r.frm 8 ++ (be r.to 8 ++ (be r.kind 1 ++ (be r.name 2 ++ (be (r.text.size : Int) 2 ++ rest)))))) ∧ rest = r.text.data.toList ++ (be (r.attrs.length : Int) 1 ++ attrsB r.attrs) := by
  refine ⟨_, ?_, rfl⟩
  simp [wholeB, frontB, laid]
theorem less_be {n : Int} (h0 : 0 ≤ n) (h1 : n ≤ 4611686018427387904) (l : List UInt8) : Op.bytesLess ((be n 8 ++ l).take 1) [128] = true := by
  have : bt n 7 < 128 := by
    rw [UInt8.lt_iff_toNat_lt]
    have h2 := bt_toNat n 7
    have h3 : n / 2 ^ (8 * 7) ≤ 64 := by omega
    have h4 : 0 ≤ n / 2 ^ (8 * 7) := by omega
    have : (128 : UInt8).toNat = 128 := rfl
    omega
  simp [be, Op.bytesLess, this]
theorem part_eq (s : List UInt8) (i n : Nat) : partL s i n = (s.drop i).take n := by
  rw [partL, List.drop_take]; congr 1; omega

theorem whole_bits {r : Rec} (h : rightP r) {s : List UInt8} (hs : s = wholeB r) : (valN (s.take 4) : Int) = r.id ∧ (valN ((s.take 8).drop 4) : Int) = r.parent ∧ (valN ((s.take 16).drop 8) : Int) = r.frm ∧ (valN ((s.take 24).drop 16) : Int) = r.to ∧ (valN ((s.take 25).drop 24) : Int) = r.kind ∧ (valN ((s.take 27).drop 25) : Int) = r.name ∧
    (valN ((s.take 29).drop 27) : Int) = r.text.size ∧ s.drop 29 = r.text.data.toList ++ (be (r.attrs.length : Int) 1 ++ attrsB r.attrs) ∧ Op.bytesLess ((s.drop 8).take 1) [128] = true ∧ Op.bytesLess ((s.drop 16).take 1) [128] = true := by
  have hw := whole_small h
  obtain ⟨rest, e, er⟩ := whole_parts h
  obtain ⟨g1, g2, g3, g4, g5, g6, g7, g8⟩ := h
  have hk : 0 ≤ r.kind ∧ r.kind < 256 ∧ 0 ≤ r.name ∧ r.name < 65536 ∧ r.text.size ≤ 1500 := by
    rcases g8 with ⟨k1, a1, _, a2, a3, _⟩ | ⟨k1, a1, a2, a3⟩
    · refine ⟨by omega, by omega, ?_, ?_, ?_⟩
      · have := a2.1; omega
      · have := a2.2; omega
      · rw [a3]; simp [ByteArray.size]
    · exact ⟨by omega, by omega, by omega, by omega, a3⟩
  obtain ⟨k1, k2, k3, k4, k5⟩ := hk
  rw [← hs] at e
  have l1 : ∀ n : Int, (be n 1).length = 1 := fun n => be_length n 1
  have l2 : ∀ n : Int, (be n 2).length = 2 := fun n => be_length n 2
  have l4 : ∀ n : Int, (be n 4).length = 4 := fun n => be_length n 4
  have l8 : ∀ n : Int, (be n 8).length = 8 := fun n => be_length n 8
  have d4 : s.drop 4 = be r.parent 4 ++ (be r.frm 8 ++ (be r.to 8 ++ (be r.kind 1 ++ (be r.name 2 ++ (be (r.text.size : Int) 2 ++ rest))))) := by rw [e]; exact drop_left _ _ 4 (l4 _)
  have d8 : s.drop 8 = be r.frm 8 ++ (be r.to 8 ++ (be r.kind 1 ++ (be r.name 2 ++ (be (r.text.size : Int) 2 ++ rest)))) := by rw [show 8 = 4 + 4 from rfl, ← List.drop_drop, d4]; exact drop_left _ _ 4 (l4 _)
  have d16 : s.drop 16 = be r.to 8 ++ (be r.kind 1 ++ (be r.name 2 ++ (be (r.text.size : Int) 2 ++ rest))) := by rw [show 16 = 8 + 8 from rfl, ← List.drop_drop, d8]; exact drop_left _ _ 8 (l8 _)
  have d24 : s.drop 24 = be r.kind 1 ++ (be r.name 2 ++ (be (r.text.size : Int) 2 ++ rest)) := by rw [show 24 = 16 + 8 from rfl, ← List.drop_drop, d16]; exact drop_left _ _ 8 (l8 _)
  have d25 : s.drop 25 = be r.name 2 ++ (be (r.text.size : Int) 2 ++ rest) := by rw [show 25 = 24 + 1 from rfl, ← List.drop_drop, d24]; exact drop_left _ _ 1 (l1 _)
  have d27 : s.drop 27 = be (r.text.size : Int) 2 ++ rest := by rw [show 27 = 25 + 2 from rfl, ← List.drop_drop, d25]; exact drop_left _ _ 2 (l2 _)
  have d29 : s.drop 29 = rest := by rw [show 29 = 27 + 2 from rfl, ← List.drop_drop, d27]; exact drop_left _ _ 2 (l2 _)
  have dt : ∀ i j, (s.take j).drop i = (s.drop i).take (j - i) := fun i j => List.drop_take ..
  simp only [dt, d4, d8, d16, d24, d25, d27, d29]
  refine ⟨?_, ?_, ?_, ?_, ?_, ?_, ?_, er, less_be (by omega) (by omega) _, less_be (by omega) (by omega) _⟩
  · rw [e, take_left _ _ 4 (l4 _)]; exact valN_be' (by omega) (by omega)
  · rw [take_left _ _ 4 (l4 _)]; exact valN_be' (by omega) (by omega)
  · rw [take_left _ _ 8 (l8 _)]; exact valN_be' (by omega) (by omega)
  · rw [take_left _ _ 8 (l8 _)]; exact valN_be' (by omega) (by omega)
  · rw [take_left _ _ 1 (l1 _)]; exact valN_be' (by omega) (by omega)
  · rw [take_left _ _ 2 (l2 _)]; exact valN_be' (by omega) (by omega)
  · rw [take_left _ _ 2 (l2 _)]; exact valN_be' (by omega) (by omega)
theorem attrsB_zero {l : List (Int × ByteArray)} (h : (attrsB l).length = 0) : l = [] := by
  cases l with
  | nil => rfl
  | cons p r => simp [attrsB, be_length] at h
theorem len_take_attrs (l : List (Int × ByteArray)) (k : Nat) : (attrsB l).length = (attrsB (l.take k)).length + (attrsB (l.drop k)).length := by
  rw [← List.length_append, attrsB, attrsB, attrsB, ← List.flatMap_append, List.take_append_drop]
end Go.Proofs.Ytcgaobfbgfefhaa
