/- Bytes of numbers, strings as bytes, parts of slices. -/
import Derived.Test.YtiagjabdfppgkaaGreatHp
set_option linter.unusedVariables false
set_option linter.unusedSimpArgs false
namespace Go.Vc
open Go

def bt (n : Int) (k : Nat) : UInt8 := UInt8.ofNat ((n / 2 ^ (8 * k)) % 256).toNat
def be (n : Int) : Nat → List UInt8
  | 0 => []
  | k + 1 => bt n k :: be n k
theorem be_length (n : Int) (k : Nat) : (be n k).length = k := by
  induction k with
  | zero => rfl
  | succ k ih => simp [be, ih]
def bcells (l : List UInt8) : List Value := l.map fun b => Value.int .u8 (b.toNat : Int)
def sv (l : List UInt8) : Value := .string ⟨l.toArray⟩
theorem bcells_append (a b : List UInt8) : bcells (a ++ b) = bcells a ++ bcells b := by simp [bcells]
theorem bcells_length (a : List UInt8) : (bcells a).length = a.length := by simp [bcells]
theorem byteCells_mk (l : List UInt8) : byteCells ⟨l.toArray⟩ = bcells l := by simp [byteCells, bcells]
theorem byteCells_eq (s : ByteArray) : byteCells s = bcells s.data.toList := rfl
theorem wrap8_mod (x : Int) : IntKind.u8.wrap x = x % 256 := by
  simp [IntKind.wrap, IntKind.signed, IntKind.bits]
theorem bt_toNat (n : Int) (k : Nat) : ((bt n k).toNat : Int) = (n / 2 ^ (8 * k)) % 256 := by
  have h0 : 0 ≤ (n / 2 ^ (8 * k)) % 256 := Int.emod_nonneg _ (by omega)
  have h1 : (n / 2 ^ (8 * k)) % 256 < 256 := Int.emod_lt_of_pos _ (by omega)
  rw [bt]
  have : (UInt8.ofNat ((n / 2 ^ (8 * k)) % 256).toNat).toNat = ((n / 2 ^ (8 * k)) % 256).toNat := by
    rw [UInt8.toNat_ofNat']
    exact Nat.mod_eq_of_lt (by omega)
  rw [this]; omega

theorem shr_byte (i : Int) (m : Nat) (h : m < 8) (j : Int) (hj : j = m) : IntKind.u8.wrap (Int.fdiv i ((2 : Int) ^ min (Int.toNat ((8 : Int) * j)) (IntKind.bits IntKind.i64))) = ((bt i m).toNat : Int) := by
  subst hj
  rw [wrap8_mod, bt_toNat]
  have e1 : Int.toNat ((8 : Int) * (m : Int)) = 8 * m := by omega
  have e2 : min (8 * m) (IntKind.bits IntKind.i64) = 8 * m := by simp only [IntKind.bits]; omega
  rw [e1, e2, Int.fdiv_eq_ediv_of_nonneg _ (Int.le_of_lt (Int.pow_pos (by omega)))]

theorem add_add (a : Addr) (i j : Nat) : (a.add i).add j = a.add (i + j) := by
  obtain ⟨b, o, s⟩ := a
  by_cases hi : i = 0 <;> by_cases hj : j = 0 <;> simp [Addr.add, hi, hj, Nat.add_assoc]
theorem Cells.slA {w : World} {a : Option Addr} {xs : List Value} (h : Cells w a xs) {c i : Nat} (hc : xs.length ≤ c) : Cells w (slA a c i 1) (xs.drop i) := by
  intro j v hj
  rw [List.getElem?_drop] at hj
  obtain ⟨ad, rfl, hcell⟩ := h _ v hj
  have hlt := (List.getElem?_eq_some_iff.1 hj).1
  unfold Go.Vc.slA
  rw [if_neg (by omega)]
  exact ⟨_, rfl, by rw [add_add, Nat.mul_one]; exact hcell⟩
theorem Cells.take {w : World} {a : Option Addr} {xs : List Value} (h : Cells w a xs) (i : Nat) : Cells w a (xs.take i) := by
  intro j v hj
  rw [List.getElem?_take] at hj
  split at hj
  · exact h j v hj
  · cases hj
theorem bcells_one (l : List UInt8) : ∀ u ∈ bcells l, u.oneCell' = true := by
  intro u hu
  obtain ⟨_, _, rfl⟩ := List.mem_map.1 hu
  rfl
theorem bcells_drop (l : List UInt8) (n : Nat) : bcells (l.drop n) = (bcells l).drop n := by simp [bcells, List.map_drop]
theorem bcells_take (l : List UInt8) (n : Nat) : bcells (l.take n) = (bcells l).take n := by simp [bcells, List.map_take]
theorem Own.pos {w : World} {e : TypeId} {sz : Nat} {a : Option Addr} {n c : Nat} {xs : List Value} (h : Own w 0 e sz a n c xs) (hn : n ≠ 0) : a ≠ none := by
  rcases h.2 with ⟨_, h2, _⟩ | ⟨g, cur, fz, rfl, _⟩
  · exact absurd h2 hn
  · simp

end Go.Vc
