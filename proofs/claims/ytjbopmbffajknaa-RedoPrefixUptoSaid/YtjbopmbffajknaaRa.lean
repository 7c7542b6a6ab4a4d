/- Redo: numbers laid and taken, records framed. -/
import Derived.Test.YtjbopmbffajknaaUg
import Derived.Test.YtjbopmbffajknaaRm
set_option linter.unusedVariables false
set_option linter.unusedSimpArgs false
set_option maxRecDepth 100000
namespace Go.Proofs.Ytjbopmbffajknaa
open Go Go.Vc Go.Vault Go.Redo

theorem sclU64 : Scl Go.Proofs.Try.prog 77 := scl_of (by kernel_rfl)
theorem sclDP : Scl Go.Proofs.Try.prog 23 := scl_of (by kernel_rfl)
theorem sclBS : Scl Go.Proofs.Try.prog 28 := scl_of (by kernel_rfl)
theorem sclTS : Scl Go.Proofs.Try.prog 49 := scl_of (by kernel_rfl)
theorem sclEr : Scl Go.Proofs.Try.prog 26 := scl_of (by kernel_rfl)
theorem aggNo : Agg Go.Proofs.Try.prog 112 8 := agg_of (by kernel_rfl)
theorem eltU8 : Elt Go.Proofs.Try.prog 28 5 1 1 := elt_of (by kernel_rfl)
theorem eltT : Elt Go.Proofs.Try.prog 49 9 1 16 := elt_of (by kernel_rfl)
theorem undST : Go.Proofs.Try.prog.underlying 49 = some (.slice 9) := by kernel_rfl
theorem undStr : Go.Proofs.Try.prog.underlying 9 = some .string := by kernel_rfl

theorem set_last {cs : List Value} {i : Nat} (h : i < cs.length) (v : Value) : (cs.take (i + 1)).set i v = cs.take i ++ [v] := by
  rw [List.take_succ_eq_append_getElem h, List.set_append, if_neg (by rw [List.length_take]; omega), List.length_take, Nat.min_eq_left (by omega), Nat.sub_self]
  rfl
theorem be_gt (n : Int) : ∀ (m k : Nat), k < m → (be n m)[k]? = some (bt n (m - 1 - k))
  | 0, k, h => by omega
  | m + 1, 0, _ => rfl
  | m + 1, k + 1, h => by
    rw [be, List.getElem?_cons_succ, be_gt n m k (by omega)]
    congr 2; omega
theorem be_dropS (n : Int) (m k : Nat) (h : k < m) : (be n m).drop (m - (k + 1)) = bt n k :: (be n m).drop (m - k) := by
  have hl := be_length n m
  have hk : m - (k + 1) < (be n m).length := by omega
  rw [List.drop_eq_getElem_cons hk, show m - (k + 1) + 1 = m - k by omega]
  have := be_gt n m (m - (k + 1)) (by omega)
  rw [List.getElem?_eq_getElem hk] at this
  rw [Option.some.inj this]
  congr 2; omega
theorem shr_b64 (i : Int) (m : Nat) (h : m < 8) (j : Int) (hj : j = m) : IntKind.u8.wrap (Int.fdiv i ((2 : Int) ^ min (Int.toNat ((8 : Int) * j)) (IntKind.bits IntKind.u64))) = ((bt i m).toNat : Int) := shr_byte i m h j hj
theorem shr_b32 (i : Int) (m : Nat) (h : m < 4) (j : Int) (hj : j = m) : IntKind.u8.wrap (Int.fdiv i ((2 : Int) ^ min (Int.toNat ((8 : Int) * j)) (IntKind.bits IntKind.u32))) = ((bt i m).toNat : Int) := by
  subst hj
  rw [wrap8_mod, bt_toNat]
  have e1 : Int.toNat ((8 : Int) * (m : Int)) = 8 * m := by omega
  have e2 : min (8 * m) (IntKind.bits IntKind.u32) = 8 * m := by simp only [IntKind.bits]; omega
  rw [e1, e2, Int.fdiv_eq_ediv_of_nonneg _ (Int.le_of_lt (Int.pow_pos (by omega)))]
theorem lay64_spec (b o m c : Nat) (T : TypeId) (cs : List Value) (n : Int) (h : o + m ≤ cs.length) (hm : m ≤ 8) (w : World) (hb : Blk w b cs T) :
    Calls Go.Proofs.Try.prog 61 #[.slice (some ⟨b, o, none⟩) m c, .int .u64 n] w fun e w' => e = .returned (.tuple #[]) ∧ Hp [b] w w' [.blk b (cs.take o ++ (bcells (be n m) ++ cs.drop (o + m))) T] := by
  apply lay64.ok; unfold lay64.vc
  have H : Hp [b] w w [.blk b cs T] := Hp.start1 (a := .blk b cs T) hb
  refine LoopP.mk (fun q s w' => ∃ k : Nat, q = m - k ∧ k ≤ m ∧ s = (k : Int) ∧ Hp [b] w w' [.blk b (cs.take (o + (m - k)) ++ (bcells ((be n m).drop (m - k)) ++ cs.drop (o + m))) T]) m ⟨0, rfl, by omega, rfl, by
    rw [Nat.sub_zero, List.drop_eq_nil_of_le (by rw [be_length]; exact Nat.le_refl _)]
    simpa [bcells] using H⟩ ?_
  clear H
  rintro q s w' next ⟨k, rfl, hk, rfl, H⟩ hnext
  refine br_dec (fun h3 => ?_) (fun h3 => ?_)
  · have hkm : k < m := by omega
    refine ⟨inR64.2 (by omega), inR64.2 (by omega), inR64.2 (by omega), by omega, onP_mk rfl ⟨⟨by omega, by omega⟩, ?_⟩⟩
    have e1 : Int.toNat ((m : Int) - 1 - (k : Int)) * 1 = m - (k + 1) := by omega
    rw [e1, add_lit, shr_b64 n k (by omega) _ rfl]
    have e2 : o + (m - k) = o + (m - (k + 1)) + 1 := by omega
    have hlt : o + (m - (k + 1)) < (cs.take (o + (m - k))).length := by rw [List.length_take]; omega
    refine Hp.st H (by exact ⟨rfl, rfl, rfl, rfl⟩) sclU8 rfl rfl (by rw [List.length_append]; omega) (cs' := cs.take (o + (m - (k + 1))) ++ (bcells ((be n m).drop (m - (k + 1))) ++ cs.drop (o + m))) ?_ ?_
    · rw [List.set_append, if_pos hlt, e2, set_last (by omega), List.append_assoc, be_dropS n m k hkm]
      rfl
    clear H
    intro w1 H
    exact ⟨inR64.2 (by omega), hnext (m - (k + 1)) _ _ (by omega) ⟨k + 1, rfl, by omega, by omega, H⟩⟩
  · have hkm : k = m := by omega
    subst hkm
    simp only [Nat.sub_self, Nat.add_zero, List.drop_zero] at H
    exact ⟨rfl, H⟩
theorem lay32_spec (b o m c : Nat) (T : TypeId) (cs : List Value) (n : Int) (h : o + m ≤ cs.length) (hm : m ≤ 4) (w : World) (hb : Blk w b cs T) :
    Calls Go.Proofs.Try.prog 60 #[.slice (some ⟨b, o, none⟩) m c, .int .u32 n] w fun e w' => e = .returned (.tuple #[]) ∧ Hp [b] w w' [.blk b (cs.take o ++ (bcells (be n m) ++ cs.drop (o + m))) T] := by
  apply lay32.ok; unfold lay32.vc
  have H : Hp [b] w w [.blk b cs T] := Hp.start1 (a := .blk b cs T) hb
  refine LoopP.mk (fun q s w' => ∃ k : Nat, q = m - k ∧ k ≤ m ∧ s = (k : Int) ∧ Hp [b] w w' [.blk b (cs.take (o + (m - k)) ++ (bcells ((be n m).drop (m - k)) ++ cs.drop (o + m))) T]) m ⟨0, rfl, by omega, rfl, by
    rw [Nat.sub_zero, List.drop_eq_nil_of_le (by rw [be_length]; exact Nat.le_refl _)]
    simpa [bcells] using H⟩ ?_
  clear H
  rintro q s w' next ⟨k, rfl, hk, rfl, H⟩ hnext
  refine br_dec (fun h3 => ?_) (fun h3 => ?_)
  · have hkm : k < m := by omega
    refine ⟨inR64.2 (by omega), inR64.2 (by omega), inR64.2 (by omega), by omega, onP_mk rfl ⟨⟨by omega, by omega⟩, ?_⟩⟩
    have e1 : Int.toNat ((m : Int) - 1 - (k : Int)) * 1 = m - (k + 1) := by omega
    rw [e1, add_lit, shr_b32 n k (by omega) _ rfl]
    have e2 : o + (m - k) = o + (m - (k + 1)) + 1 := by omega
    have hlt : o + (m - (k + 1)) < (cs.take (o + (m - k))).length := by rw [List.length_take]; omega
    refine Hp.st H (by exact ⟨rfl, rfl, rfl, rfl⟩) sclU8 rfl rfl (by rw [List.length_append]; omega) (cs' := cs.take (o + (m - (k + 1))) ++ (bcells ((be n m).drop (m - (k + 1))) ++ cs.drop (o + m))) ?_ ?_
    · rw [List.set_append, if_pos hlt, e2, set_last (by omega), List.append_assoc, be_dropS n m k hkm]
      rfl
    clear H
    intro w1 H
    exact ⟨inR64.2 (by omega), hnext (m - (k + 1)) _ _ (by omega) ⟨k + 1, rfl, by omega, by omega, H⟩⟩
  · have hkm : k = m := by omega
    subst hkm
    simp only [Nat.sub_self, Nat.add_zero, List.drop_zero] at H
    exact ⟨rfl, H⟩
theorem or_u64 (v y : Nat) (hv : v < 72057594037927936) (hy : y < 256) : Vc.bits .or .u64 ((v : Int) * 2 ^ min (Int.toNat 8) (IntKind.bits .u64)) (IntKind.u64.wrap (y : Int)) = ((v * 256 + y : Nat) : Int) := by
  have e1 : (2 : Int) ^ min (Int.toNat 8) (IntKind.bits .u64) = 256 := by decide
  have wr : ∀ z : Int, IntKind.u64.wrap z = z % 18446744073709551616 := fun z => by simp [IntKind.wrap, IntKind.signed, IntKind.bits]
  rw [e1]
  show IntKind.u64.wrap ((BitVec.ofInt 64 ((v : Int) * 256) ||| BitVec.ofInt 64 (IntKind.u64.wrap (y : Int))).toNat : Int) = _
  rw [wr, wr, BitVec.toNat_or, BitVec.toNat_ofInt, BitVec.toNat_ofInt]
  have h1 : (((v : Int) * 256) % ((2 ^ 64 : Nat) : Int)).toNat = v <<< 8 := by
    rw [Nat.shiftLeft_eq]; omega
  have h2 : (((y : Int) % 18446744073709551616) % ((2 ^ 64 : Nat) : Int)).toNat = y := by omega
  rw [h1, h2, ← Nat.shiftLeft_add_eq_or_of_lt (show y < 2 ^ 8 by omega), Nat.shiftLeft_eq]
  omega
theorem inRU {z : Int} : inR .u64 z ↔ 0 ≤ z ∧ z ≤ 18446744073709551615 := by
  simp [inR, IntKind.min, IntKind.max, IntKind.signed, IntKind.bits]; try omega
theorem valN_lt8 {l : List UInt8} (h : l.length ≤ 7) : valN l < 72057594037927936 := Nat.lt_of_lt_of_le (valN_lt l) (by
  have : (256 : Nat) ^ l.length ≤ 256 ^ 7 := Nat.pow_le_pow_right (by omega) h
  exact this)
theorem take_spec (a : Option Addr) (bs : List UInt8) (c : Nat) (hl : bs.length ≤ 8) (w : World) (hc : Cells w a (bcells bs)) : Calls Go.Proofs.Try.prog 63 #[.slice a bs.length c] w fun e w' =>
    e = .returned (.int .u64 (valN bs : Int)) ∧ Hp [] w w' [] := by
  apply take.ok; unfold take.vc
  refine LoopP.mk (fun m s w' => ∃ k : Nat, m = bs.length - k ∧ k ≤ bs.length ∧ s = ((valN (bs.take k) : Int), (k : Int)) ∧ Hp [] w w' []) bs.length ⟨0, rfl, by omega, rfl, Hp.start w⟩ ?_
  rintro m s w' next ⟨k, rfl, hk, rfl, H⟩ hnext
  refine br_dec (fun h3 => ?_) (fun h3 => ?_)
  · have hkl : k < bs.length := by simp only at h3; omega
    have hv : (bcells bs)[k]? = some (.int .u8 (bs[k].toNat : Int)) := by simp [bcells, hkl]
    obtain ⟨ad, ha, _⟩ := hc k _ hv
    have hld := (hc.chg H.chg (by simp)).ld (P := Go.Proofs.Try.prog) sclU8 ha hv
    have hlt := valN_lt8 (l := bs.take k) (by rw [List.length_take]; omega)
    refine onP_mk ha ⟨⟨by simp only; omega, by simp only; omega⟩, _, by simp only; rw [Int.toNat_natCast, Nat.mul_one]; exact hld, by omega, inRU.2 ?_, inR64.2 (by simp only; omega), ?_⟩
    · have e1 : (2 : Int) ^ min (Int.toNat 8) (IntKind.bits .u64) = 256 := by decide
      simp only; rw [e1]; omega
    · refine hnext (bs.length - (k + 1)) _ _ (by omega) ⟨k + 1, rfl, by omega, ?_, H⟩
      simp only
      rw [or_u64 _ _ hlt (UInt8.toNat_lt _), List.take_succ_eq_append_getElem hkl, valN_snoc]
      rfl
  · have : k = bs.length := by simp only at h3; omega
    subst this
    exact ⟨by simp only [List.take_length], H⟩
theorem framed_len (b : List UInt8) (s : ByteArray) : (framed b s).length = b.length + 4 + s.size := by
  have : s.data.toList.length = s.size := Array.length_toList
  rw [framed, List.length_append, List.length_append, be_length, this]; omega
theorem framed_spec (a : Option Addr) (c : Nat) (b : List UInt8) (s : ByteArray) (hs : b.length + (s.size + 4) ≤ 1000000000) (w : World) (st : Std w [.own 5 1 a b.length c (bcells b)]) :
    Calls Go.Proofs.Try.prog 43 #[.slice a b.length c, .string s] w fun e w' => ∃ a' c', e = .returned (.slice a' (framed b s).length c') ∧ Hp (feet [.own 5 1 a b.length c (bcells b)]) w w' [.own 5 1 a' (framed b s).length c' (bcells (framed b s))] := by
  apply framed.ok; unfold framed.vc
  have H := Hp.startL st
  generalize feet [.own 5 1 a b.length c (bcells b)] = B at H ⊢
  intro b1 w1 hn; replace H := H.new (cs := [.int .u8 0, .int .u8 0, .int .u8 0, .int .u8 0]) (by exact ⟨rfl, rfl, rfl, rfl⟩) hn; clear hn
  have hw : IntKind.u32.wrap (s.size : Int) = (s.size : Int) := by simp [IntKind.wrap, IntKind.signed, IntKind.bits]; omega
  rw [hw]
  refine callV (lay32_spec b1 0 4 4 107 _ _ (by simp) (by omega) _ (H.go ⟨rfl, rfl, rfl, rfl⟩ |>.blk (.head _))) ?_
  rintro e w2 ⟨rfl, H'⟩
  replace H := H.use1 H'; clear H'
  simp only [List.take_zero, List.nil_append, List.cons_append, List.drop_succ_cons, List.drop_zero, Nat.zero_add, List.append_nil, List.drop_nil] at H
  refine ⟨rfl, ?_⟩
  refine Hp.app eltU8 (by omega) H.pull1 (by exact ⟨rfl, rfl, rfl, rfl⟩) (Blk.src (n := 4) undSU8 ((H.go ⟨rfl, rfl, rfl, rfl⟩).blk (.head _)) (by simp [bcells_length, be_length]) (bcells_ones _)) (by simp only [maxLen]; omega) (by omega) ?_
  clear H; intro a3 c3 w3 H
  refine Hp.app eltU8 (by omega) H (by exact ⟨rfl, rfl, rfl, rfl⟩) (Src.ofString _ undStr s) (by simp only [maxLen]; omega) (by omega) ?_
  clear H; intro a4 c4 w4 H
  have e1 := framed_len b s
  have e2 : bcells (framed b s) = bcells b ++ bcells (be (s.size : Int) 4) ++ byteCells s := by rw [framed, bcells_append, bcells_append, byteCells_eq, List.append_assoc]
  rw [e1, e2]
  exact ⟨a4, c4, rfl, H.done1⟩
end Go.Proofs.Ytjbopmbffajknaa
