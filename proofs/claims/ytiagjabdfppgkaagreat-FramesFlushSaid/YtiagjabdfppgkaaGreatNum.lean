/- Numbers of bytes, strings of bytes, lists: plain lemmas. -/
import Derived.Test.YtiagjabdfppgkaaGreatOwn
set_option linter.unusedVariables false
set_option linter.unusedSimpArgs false
namespace Go.Vc
open Go

def valN (l : List UInt8) : Nat := l.foldl (fun n x => n * 256 + x.toNat) 0
def num (l : List UInt8) : Int := IntKind.i64.wrap (valN l : Int)
theorem wrap64_def (x : Int) : IntKind.i64.wrap x = if x % 18446744073709551616 ≥ 9223372036854775808 then x % 18446744073709551616 - 18446744073709551616 else x % 18446744073709551616 := by
  simp [IntKind.wrap, IntKind.signed, IntKind.bits]
theorem wrap64_cong {x y : Int} (h : x % 18446744073709551616 = y % 18446744073709551616) : IntKind.i64.wrap x = IntKind.i64.wrap y := by
  rw [wrap64_def, wrap64_def, h]
theorem wrap64_mod (x : Int) : IntKind.i64.wrap x % 18446744073709551616 = x % 18446744073709551616 := by
  rw [wrap64_def]; split <;> omega
theorem ofInt_cong {x y : Int} (h : x % 18446744073709551616 = y % 18446744073709551616) : BitVec.ofInt 64 x = BitVec.ofInt 64 y := by
  apply BitVec.eq_of_toNat_eq
  rw [BitVec.toNat_ofInt, BitVec.toNat_ofInt]
  have : (((2 ^ 64 : Nat) : Int)) = 18446744073709551616 := by decide
  rw [this, h]
theorem or_byte (v y : Nat) (hy : y < 256) : Vc.bits .or .i64 (IntKind.i64.wrap (IntKind.i64.wrap (v : Int) * 2 ^ min (Int.toNat 8) (IntKind.bits .i64))) (IntKind.i64.wrap (y : Int)) = IntKind.i64.wrap ((v * 256 + y : Nat) : Int) := by
  have e1 : (2 : Int) ^ min (Int.toNat 8) (IntKind.bits .i64) = 256 := by decide
  rw [e1]
  show IntKind.i64.wrap ((BitVec.ofInt 64 (IntKind.i64.wrap (IntKind.i64.wrap (v : Int) * 256)) ||| BitVec.ofInt 64 (IntKind.i64.wrap (y : Int))).toNat : Int) = _
  have e2 : BitVec.ofInt 64 (IntKind.i64.wrap (IntKind.i64.wrap (v : Int) * 256)) = BitVec.ofInt 64 (((v % 2 ^ 56) * 256 : Nat) : Int) := by
    apply ofInt_cong
    rw [wrap64_mod]
    have := wrap64_mod (v : Int)
    omega
  have e3 : BitVec.ofInt 64 (IntKind.i64.wrap (y : Int)) = BitVec.ofInt 64 (y : Int) := ofInt_cong (wrap64_mod _)
  rw [e2, e3]
  apply wrap64_cong
  rw [BitVec.toNat_or, BitVec.toNat_ofInt, BitVec.toNat_ofInt]
  have h1 : ((((v % 2 ^ 56) * 256 : Nat) : Int) % ((2 ^ 64 : Nat) : Int)).toNat = (v % 2 ^ 56) <<< 8 := by
    rw [Nat.shiftLeft_eq]; omega
  have h2 : ((y : Int) % ((2 ^ 64 : Nat) : Int)).toNat = y := by omega
  rw [h1, h2, ← Nat.shiftLeft_add_eq_or_of_lt (by omega), Nat.shiftLeft_eq]
  omega
theorem valN_snoc (l : List UInt8) (x : UInt8) : valN (l ++ [x]) = valN l * 256 + x.toNat := by simp [valN, List.foldl_append]
theorem valN_lt (l : List UInt8) : valN l < 256 ^ l.length := by
  have : ∀ (l : List UInt8) (a : Nat), l.foldl (fun n x => n * 256 + x.toNat) a < (a + 1) * 256 ^ l.length := by
    intro l
    induction l with
    | nil => intro a; simp
    | cons x r ih =>
      intro a
      have h1 := ih (a * 256 + x.toNat)
      have h2 := x.toNat_lt
      rw [List.foldl_cons, List.length_cons, Nat.pow_succ]
      have h3 : (a * 256 + x.toNat + 1) * 256 ^ r.length ≤ ((a + 1) * 256) * 256 ^ r.length := Nat.mul_le_mul_right _ (by omega)
      have h4 : (a + 1) * (256 ^ r.length * 256) = ((a + 1) * 256) * 256 ^ r.length := by rw [Nat.mul_comm (256 ^ r.length) 256, Nat.mul_assoc]
      omega
  simpa [valN] using this l 0
theorem num_small {l : List UInt8} (h : l.length ≤ 7) : num l = (valN l : Int) := by
  have h1 := valN_lt l
  have h2 : 256 ^ l.length ≤ 256 ^ 7 := Nat.pow_le_pow_right (by omega) h
  rw [num, wrap64_def, if_neg (by omega)]
  omega
theorem valN_be (n : Int) (h0 : 0 ≤ n) : ∀ k, valN (be n k) = n.toNat % 256 ^ k := by
  have aux : ∀ k (a : Nat), (be n k).foldl (fun n x => n * 256 + x.toNat) a = a * 256 ^ k + n.toNat % 256 ^ k := by
    intro k
    induction k with
    | zero => intro a; simp [be, Nat.mod_one]
    | succ k ih =>
      intro a
      have h1 : (bt n k).toNat = n.toNat / 256 ^ k % 256 := by
        have h2 := bt_toNat n k
        have h3 : (2 : Int) ^ (8 * k) = ((256 ^ k : Nat) : Int) := by
          rw [Int.pow_mul]; simp
        rw [h3] at h2
        have h4 : n / ((256 ^ k : Nat) : Int) = ((n.toNat / 256 ^ k : Nat) : Int) := by
          rw [Int.natCast_ediv, Int.toNat_of_nonneg h0]
        rw [h4] at h2
        omega
      rw [be, List.foldl_cons, ih, h1, Nat.pow_succ]
      have h5 : n.toNat % (256 ^ k * 256) = n.toNat % 256 ^ k + 256 ^ k * (n.toNat / 256 ^ k % 256) := Nat.mod_mul
      rw [h5, Nat.add_mul, Nat.mul_assoc, Nat.mul_comm 256 (256 ^ k), Nat.mul_comm (n.toNat / 256 ^ k % 256)]
      omega
  intro k
  simpa [valN] using aux k 0
theorem valN_be' {n : Int} {k : Nat} (h0 : 0 ≤ n) (h1 : n < 256 ^ k) : (valN (be n k) : Int) = n := by
  rw [valN_be n h0, Nat.mod_eq_of_lt]
  · omega
  · have : ((256 ^ k : Nat) : Int) = 256 ^ k := by simp
    omega
theorem num_be {n : Int} {k : Nat} (h0 : 0 ≤ n) (h1 : n < 256 ^ k) (h2 : n < 9223372036854775808) : num (be n k) = n := by
  rw [num, valN_be' h0 h1, wrap64_def, if_neg (by omega)]
  omega
theorem take_left {α : Type} (a b : List α) (n : Nat) (h : a.length = n) : (a ++ b).take n = a := by subst h; simp
theorem drop_left {α : Type} (a b : List α) (n : Nat) (h : a.length = n) : (a ++ b).drop n = b := by subst h; simp
theorem ext_mk (l : List UInt8) (i j : Nat) : (ByteArray.mk l.toArray).extract i j = ⟨((l.take j).drop i).toArray⟩ := by
  apply ByteArray.ext
  apply Array.ext'
  rw [ByteArray.data_extract, Array.toList_extract, List.extract_eq_take_drop]
  simp only [List.drop_take]
theorem mk_inj {x y : List UInt8} : (ByteArray.mk x.toArray = ByteArray.mk y.toArray) ↔ x = y := by
  constructor
  · intro h; have := congrArg (fun b : ByteArray => b.data.toList) h; simpa using this
  · rintro rfl; rfl
theorem sb_get (l : List UInt8) (i : Nat) (h : i < l.length) : sb ⟨l.toArray⟩ (i : Int) = (l[i].toNat : Int) := by
  simp [sb, List.getElem?_eq_getElem h]
theorem valN_take_succ (l : List UInt8) (k : Nat) (h : k < l.length) : valN (l.take (k + 1)) = valN (l.take k) * 256 + l[k].toNat := by
  rw [List.take_succ_eq_append_getElem h, valN_snoc]
theorem valN_mono (l : List UInt8) (k : Nat) : valN (l.take k) ≤ valN l := by
  have aux : ∀ (r : List UInt8) (a : Nat), a ≤ r.foldl (fun n x => n * 256 + x.toNat) a := by
    intro r
    induction r with
    | nil => intro a; exact Nat.le_refl _
    | cons x r ih => intro a; exact Nat.le_trans (m := a * 256 + x.toNat) (by omega) (ih (a * 256 + x.toNat))
  have : valN l = (l.drop k).foldl (fun n x => n * 256 + x.toNat) (valN (l.take k)) := by rw [valN, valN, ← List.foldl_append, List.take_append_drop]
  rw [this]; exact aux _ _
theorem wrapByte (x : UInt8) : IntKind.i64.wrap (x.toNat : Int) = (x.toNat : Int) := wrap64_id (by have := x.toNat_lt; omega)
theorem mk_append (x y : List UInt8) : (ByteArray.mk x.toArray) ++ (ByteArray.mk y.toArray) = ⟨(x ++ y).toArray⟩ := by
  apply ByteArray.ext
  rw [ByteArray.data_append]
  simp
theorem mk_size (x : List UInt8) : (ByteArray.mk x.toArray).size = x.length := by simp [ByteArray.size]
theorem mk_self (s : ByteArray) : s = ⟨s.data.toList.toArray⟩ := by simp
theorem valN_cons (x : UInt8) (l : List UInt8) : valN (x :: l) = x.toNat * 256 ^ l.length + valN l := by
  have aux : ∀ (l : List UInt8) (a : Nat), l.foldl (fun n x => n * 256 + x.toNat) a = a * 256 ^ l.length + valN l := by
    intro l
    induction l with
    | nil => intro a; simp [valN]
    | cons y r ih =>
      intro a
      have e1 : valN (y :: r) = y.toNat * 256 ^ r.length + valN r := by
        show r.foldl (fun n x => n * 256 + x.toNat) (0 * 256 + y.toNat) = _
        rw [ih]; simp
      rw [List.foldl_cons, ih, e1, List.length_cons, Nat.pow_succ, Nat.add_mul, Nat.mul_assoc, Nat.mul_comm 256]
      omega
  rw [valN, List.foldl_cons, aux]
  simp
theorem or_byte2 (v y : Nat) (hv : v < 36028797018963968) (hy : y < 256) : Vc.bits .or .i64 ((v : Int) * 2 ^ min (Int.toNat 8) (IntKind.bits .i64)) (IntKind.i64.wrap (y : Int)) = ((v * 256 + y : Nat) : Int) := by
  have h := or_byte v y hy
  have e1 : (2 : Int) ^ min (Int.toNat 8) (IntKind.bits .i64) = 256 := by decide
  rw [e1] at h ⊢
  rw [wrap64_id (z := (v : Int)) (by omega), wrap64_id (z := (v : Int) * 256) (by omega), wrap64_id (z := ((v * 256 + y : Nat) : Int)) (by omega)] at h
  exact h
theorem nope {p : Prop} [Decidable p] (h : ¬ p) : Ending.returned (Value.bool false) = .returned (.bool (decide p)) := by rw [decide_eq_false h]
end Go.Vc
