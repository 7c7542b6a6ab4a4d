/- Folio: the reference: 'number', 'value', 'part', 'Right', 'Head', 'SamePieces', 'Same'. -/
import Derived.Test.YtcgaobfbgfefhaaFh
import Derived.Test.YtcgaobfbgfefhaaOwn
set_option linter.unusedVariables false
set_option linter.unusedSimpArgs false
namespace Go.Proofs.Ytcgaobfbgfefhaa
open Go Go.Vc

theorem be_succ_snoc (n : Int) (k : Nat) : be n (k + 1) = bt n k :: be n k := rfl
theorem bt_div (n : Int) (k : Nat) (h : 0 ≤ n) : ((bt n k).toNat : Int) = (n / 256 ^ k) % 256 := by
  rw [bt_toNat, show (2 : Int) ^ (8 * k) = 256 ^ k by rw [Int.pow_mul]; rfl]
theorem size5 : sizeV Go.Proofs.Try.prog 5 = some 1 := scl5.size
theorem zero5 : zeroOf Go.Proofs.Try.prog 5 = some (.int .u8 0) := by kernel_rfl

theorem made_zeros (n : Nat) : (madeCells (Value.int .u8 0).cells (n * 1)).toList = List.replicate n (Value.int .u8 0) := by
  apply List.ext_getElem?
  intro k
  rw [Nat.mul_one]
  by_cases hk : k < n
  · have : (madeCells (Value.int .u8 0).cells n).toList.length = n := by rw [Array.length_toList, size_madeCells]
    rw [List.getElem?_eq_getElem (by omega), List.getElem?_replicate, if_pos hk]
    simp [madeCells, Value.cells, Nat.mod_one]
  · rw [List.getElem?_eq_none (by rw [Array.length_toList, size_madeCells]; omega), List.getElem?_replicate, if_neg hk]

theorem rnumber_spec (n : Int) (long : Nat) (h0 : 0 ≤ n) (hn : n ≤ 9223372036854775807) (hl : long ≤ 8) (w : World) :
    Calls Go.Proofs.Try.prog 25 #[.int .i64 n, .int .i64 (long : Int)] w fun e w' => e = .returned (.string ⟨(be n long).toArray⟩) ∧ Hp [] w w' [] := by
  apply rnumber.ok
  unfold rnumber.vc
  have H := Hp.start w
  have hmax : maxLen = 9223372036854775807 := by simp [maxLen]
  refine Hp.mkS elt53 H (by exact ⟨rfl, rfl, rfl, rfl⟩) (by omega) (by omega) (by omega) zero5 ?_
  clear H
  intro a w1 H
  rw [Int.toNat_natCast, made_zeros] at H
  rw [Int.toNat_natCast]
  refine ⟨inR64.2 (by omega), ?_⟩
  refine LoopP.mk (fun m s w' => ∃ k : Nat, m = k ∧ s = (n / 256 ^ (long - k), (k : Int) - 1) ∧ k ≤ long ∧
    Hp [] w w' [.own 5 1 a long long (List.replicate k (Value.int .u8 0) ++ bcells (be n (long - k)))]) long ⟨long, rfl, by simp, Nat.le_refl _, by simpa [be, bcells] using H⟩ ?_
  clear H
  rintro m s w' next ⟨k, rfl, rfl, hk, H⟩ hnext
  dsimp only
  have hq0 : 0 ≤ n / 256 ^ (long - m) := Int.ediv_nonneg h0 (Int.le_of_lt (Int.pow_pos (by omega)))
  have hqn : n / 256 ^ (long - m) ≤ n := Int.ediv_le_self _ h0
  have hlen : (List.replicate m (Value.int .u8 0) ++ bcells (be n (long - m))).length = long := by
    rw [List.length_append, List.length_replicate, bcells_length, be_length]; omega
  refine br_dec (fun h1 => ?_) (fun h1 => ?_)
  · have hm : m - 1 + 1 = m := by omega
    obtain ⟨ad, had, _⟩ := (H.ownA (.head _)).at (j := m - 1) (by omega)
    refine ⟨by omega, onP_mk had ⟨⟨by omega, by omega⟩, ?_⟩⟩
    rw [show Int.toNat ((m : Int) - 1) * 1 = m - 1 by omega]
    refine Hp.stO1 H (by exact ⟨rfl, rfl, rfl, rfl⟩) scl5 had rfl rfl (by rw [hlen]; omega) ?_
    clear H
    intro w2 H
    have et : Int.tdiv (n / 256 ^ (long - m)) 256 = n / 256 ^ (long - (m - 1)) := by
      rw [Int.tdiv_eq_ediv_of_nonneg hq0, Int.ediv_ediv_of_nonneg (Int.le_of_lt (Int.pow_pos (by omega))), show long - (m - 1) = (long - m) + 1 by omega, Int.pow_succ]
    have eb : IntKind.u8.wrap (Int.tmod (n / 256 ^ (long - m)) 256) = ((bt n (long - m)).toNat : Int) := by
      rw [wrap8_mod, bt_div n _ h0, Int.tmod_eq_emod_of_nonneg hq0, Int.emod_emod]
    rw [et]
    rw [eb] at H
    refine ⟨by omega, inR64.2 ?_, inR64.2 (by omega), hnext (m - 1) _ _ (by omega) ⟨m - 1, rfl, ?_, by omega, ?_⟩⟩
    · have h2 : 0 ≤ n / 256 ^ (long - (m - 1)) := Int.ediv_nonneg h0 (Int.le_of_lt (Int.pow_pos (by omega)))
      have h3 : n / 256 ^ (long - (m - 1)) ≤ n := Int.ediv_le_self _ h0
      omega
    · rw [Prod.mk.injEq]; exact ⟨rfl, by omega⟩
    · rw [show long - (m - 1) = (long - m) + 1 by omega, be_succ_snoc]
      have : (List.replicate m (Value.int .u8 0) ++ bcells (be n (long - m))).set (m - 1) (Value.int .u8 ((bt n (long - m)).toNat : Int)) = List.replicate (m - 1) (Value.int .u8 0) ++ bcells (bt n (long - m) :: be n (long - m)) := by
        rw [← hm, List.replicate_succ', List.append_assoc, Nat.add_sub_cancel, List.set_append, List.length_replicate, if_neg (by omega), Nat.sub_self, hm]
        rfl
      rw [this] at H; exact H
  · have hm : m = 0 := by omega
    subst hm
    simp only [List.replicate_zero, List.nil_append, Nat.sub_zero] at H
    exact ⟨_, b2s und53 und5 und9 (by rw [byteCells_mk]; exact (H.ownA (.head _)).cells) (by simp [ByteArray.size, be_length]), rfl, H.done⟩

theorem sb_get (l : List UInt8) (i : Nat) (h : i < l.length) : sb ⟨l.toArray⟩ (i : Int) = (l[i].toNat : Int) := by
  simp [sb, List.getElem?_eq_getElem h]
theorem valN_take_succ (l : List UInt8) (k : Nat) (h : k < l.length) : valN (l.take (k + 1)) = valN (l.take k) * 256 + l[k].toNat := by
  rw [List.take_succ_eq_append_getElem h, valN_snoc]
theorem valN_mono (l : List UInt8) (k : Nat) : valN (l.take k) ≤ valN l := by
  have aux : ∀ (r : List UInt8) (a : Nat), a ≤ r.foldl (fun n x => n * 256 + x.toNat) a := by
    intro r
    induction r with
    | nil => intro a; exact Nat.le_refl _
    | cons x r ih => intro a; exact Nat.le_trans (m := a * 256 + x.toNat) (by omega) (ih (a * 256 + x.toNat))
  have : valN l = (l.drop k).foldl (fun n x => n * 256 + x.toNat) (valN (l.take k)) := by rw [valN, valN, ← List.foldl_append, List.take_append_drop]
  rw [this]; exact aux _ _
theorem wrapByte (x : UInt8) : IntKind.i64.wrap (x.toNat : Int) = (x.toNat : Int) := wrap64_id (by have := x.toNat_lt; omega)

theorem value_spec (l : List UInt8) (hv : valN l < 9223372036854775808) (hl : l.length ≤ 9223372036854775806) (w : World) :
    Calls Go.Proofs.Try.prog 31 #[.string ⟨l.toArray⟩] w fun e w' => e = .returned (.int .i64 (valN l : Int)) ∧ Hp [] w w' [] := by
  apply value.ok
  unfold value.vc
  have hsz : (ByteArray.mk l.toArray).size = l.length := by simp [ByteArray.size]
  rw [hsz]
  refine LoopP.mk (fun m s w' => ∃ k : Nat, m = l.length - k ∧ s = ((valN (l.take k) : Int), (k : Int)) ∧ k ≤ l.length ∧ Hp [] w w' []) l.length ⟨0, rfl, by simp [valN], Nat.zero_le _, Hp.start w⟩ ?_
  rintro m s w' next ⟨k, rfl, rfl, hk, H⟩ hnext
  dsimp only
  refine br_dec (fun h1 => ?_) (fun h1 => ?_)
  · have hkl : k < l.length := by omega
    have h2 := valN_mono l (k + 1)
    have h3 := valN_take_succ l k hkl
    have h4 := l[k].toNat_lt
    rw [sb_get l k hkl, wrapByte]
    refine ⟨inR64.2 (by omega), ⟨by omega, h1⟩, inR64.2 (by omega), inR64.2 (by omega), hnext (l.length - (k + 1)) _ _ (by omega) ⟨k + 1, rfl, ?_, by omega, H⟩⟩
    rw [h3]; simp
  · have hkl : k = l.length := by omega
    subst hkl
    rw [List.take_length]
    exact ⟨rfl, H⟩

def partL (l : List UInt8) (at_ long : Nat) : List UInt8 := (l.take (at_ + long)).drop at_
theorem part_spec (l : List UInt8) (at_ long : Nat) (h : at_ + long ≤ 9223372036854775807) (w : World) :
    Calls Go.Proofs.Try.prog 30 #[.string ⟨l.toArray⟩, .int .i64 (at_ : Int), .int .i64 (long : Int)] w fun e w' => e = .returned (.string ⟨(partL l at_ long).toArray⟩) ∧ Hp [] w w' [] := by
  apply part.ok
  unfold part.vc
  have hsz : (ByteArray.mk l.toArray).size = l.length := by simp [ByteArray.size]
  rw [hsz]
  refine ⟨inR64.2 (by omega), ⟨by omega, by omega, by omega⟩, ?_, Hp.start w⟩
  rw [ext_mk]
  congr 4
  have e1 : Int.toNat (min (at_ : Int) (l.length : Int)) = min at_ l.length := by omega
  have e2 : Int.toNat (min ((at_ : Int) + (long : Int)) (l.length : Int)) = min (at_ + long) l.length := by omega
  rw [e1, e2, partL]
  apply List.ext_getElem?
  intro i
  rw [List.getElem?_drop, List.getElem?_drop, List.getElem?_take, List.getElem?_take]
  by_cases h1 : at_ ≤ l.length
  · rw [Nat.min_eq_left h1]
    by_cases h2 : at_ + i < l.length
    · by_cases h3 : at_ + i < at_ + long
      · rw [if_pos h3, if_pos (by omega)]
      · rw [if_neg h3, if_neg (by omega)]
    · rw [List.getElem?_eq_none (l := l) (by omega)]; simp
  · rw [List.getElem?_eq_none (l := l) (i := at_ + i) (by omega), List.getElem?_eq_none (l := l) (i := min at_ l.length + i) (by omega)]; simp

theorem rhead_spec (s : ByteArray) (w : World) : Calls Go.Proofs.Try.prog 22 #[.string s] w fun e w' => e = .returned (headV (headF s.data.toList)) ∧ Hp [] w w' [] := by
  obtain ⟨l, rfl⟩ : ∃ l : List UInt8, s = ⟨l.toArray⟩ := ⟨s.data.toList, by simp⟩
  have H := Hp.start w
  have hsz : (ByteArray.mk l.toArray).size = l.length := by simp [ByteArray.size]
  apply rhead.ok
  unfold rhead.vc
  have hdl : (ByteArray.mk l.toArray).data.toList = l := by simp
  rw [hsz, hdl]
  refine br_dec (fun h1 => ⟨by rw [headF, if_pos (by omega)]; rfl, H⟩) (fun h1 => br_dec (fun h2 => ⟨by rw [headF, if_pos (by omega)]; rfl, H⟩) (fun h2 => ?_))
  have en : ¬ (l.length < 6 ∨ 906 < l.length) := by omega
  have h4 : (l.take 4).length ≤ 4 := by rw [List.length_take]; omega
  have hv4 := valN_lt (l.take 4)
  have hp4 : 256 ^ (l.take 4).length ≤ 256 ^ 4 := Nat.pow_le_pow_right (by omega) h4
  have ee : (ByteArray.mk l.toArray).extract 0 (Int.toNat 4) = ⟨(l.take 4).toArray⟩ := by rw [ext_mk]; rfl
  have one : ∀ k, (hk : k < l.length) → valN ((l.drop k).take 1) = l[k].toNat := by
    intro k hk
    rw [List.drop_eq_getElem_cons hk]
    show 0 * 256 + l[k].toNat = _
    omega
  have b4 : sb ⟨l.toArray⟩ 4 = (l[4].toNat : Int) := sb_get l 4 (by omega)
  have b5 : sb ⟨l.toArray⟩ 5 = (l[5].toNat : Int) := sb_get l 5 (by omega)
  rw [ee, b4, b5, wrapByte, wrapByte]
  refine ⟨⟨by omega, by omega⟩, callV (value_spec (l.take 4) (by omega) (by omega) w) ?_⟩
  rintro e w' ⟨rfl, H'⟩
  refine ⟨_, rfl, ?_⟩
  have hh : headF l = if valN (l.take 4) < 1 ∨ 2147483647 < valN (l.take 4) ∨ l[5].toNat ≤ l[4].toNat then none else some (valN (l.take 4), l[4].toNat, l[5].toNat) := by
    rw [headF, if_neg en, one 4 (by omega), one 5 (by omega)]
  refine br_dec (fun h3 => ⟨by rw [hh, if_pos (by omega)]; rfl, H'.drew⟩) (fun h3 => br_dec (fun h5 => ⟨by rw [hh, if_pos (by omega)]; rfl, H'.drew⟩) (fun h5 => ⟨⟨by omega, by omega⟩, ⟨by omega, by omega⟩,
    br_dec (fun h6 => ⟨by rw [hh, if_pos (by omega)]; rfl, H'.drew⟩) (fun h6 => ⟨⟨by omega, by omega⟩, ⟨by omega, by omega⟩, by rw [hh, if_neg (by omega)]; rfl, H'.drew.drew⟩)⟩))

theorem same_pieces_spec (l m : List (List UInt8)) (a b : Option Addr) (n n2 c c2 : Nat) (w : World) (hS : StrS w a n l) (hT : StrS w b n2 m) (hn : n ≤ maxLen) :
    Calls Go.Proofs.Try.prog 16 #[.slice a n c, .slice b n2 c2] w fun e w' => e = .returned (.bool (decide (l = m))) ∧ Hp [] w w' [] := by
  have H := Hp.start w
  have hmax : maxLen = 9223372036854775807 := by simp [maxLen]
  have hlen := hS.len
  have hlen2 := hT.len
  apply samePieces.ok
  unfold samePieces.vc
  refine br_ndec (fun h => ⟨nope fun hh => h (by rw [hlen, hlen2, hh]), H⟩) (fun h => ?_)
  refine LoopP.mk (fun q s w' => ∃ k, q = n - k ∧ s = (k : Int) ∧ k ≤ n ∧ l.take k = m.take k ∧ Hp [] w w' []) n ⟨0, rfl, rfl, Nat.zero_le _, by simp, H⟩ ?_
  clear H
  rintro q s w' next ⟨k, rfl, rfl, hk, he, H⟩ hnext
  refine br_dec (fun h1 => ?_) (fun h1 => ?_)
  · have hq1 : l[k]? = some l[k] := List.getElem?_eq_getElem (by omega)
    have hq2 : m[k]? = some m[k] := List.getElem?_eq_getElem (by omega)
    obtain ⟨ad, had, hld⟩ := (hS.chg H.drew.chg (by simp)).ld hq1
    obtain ⟨ad2, had2, hld2⟩ := (hT.chg H.drew.chg (by simp)).ld hq2
    refine onP_mk had ⟨⟨by omega, h1⟩, _, hld, onP_mk had2 ⟨⟨by omega, by omega⟩, _, hld2, br_ndec (fun hne => ⟨nope fun hh => ?_, H.drew⟩) (fun heq => ?_)⟩⟩
    · subst hh; exact hne rfl
    · rw [mk_inj] at heq
      refine ⟨inR64.2 (by omega), hnext (n - (k + 1)) _ _ (by omega) ⟨k + 1, rfl, by simp, by omega, ?_, H.drew⟩⟩
      rw [List.take_succ_eq_append_getElem (by omega), List.take_succ_eq_append_getElem (by omega), he, heq]
  · have hkn : k = n := by omega
    subst hkn
    rw [hlen, List.take_length] at he
    have e2 : l = m := by rw [he, show l.length = m.length by omega, List.take_length]
    exact ⟨by simp [e2], H⟩
end Go.Proofs.Ytcgaobfbgfefhaa
