/- Folio: the reader: 'text', 'number'; 'Head'. -/
import Derived.Test.YtcgaobfbgfefhaaFd
set_option linter.unusedVariables false
set_option linter.unusedSimpArgs false
namespace Go.Proofs.Ytcgaobfbgfefhaa
open Go Go.Vc

/-! ### Numbers of bytes -/
def valN (l : List UInt8) : Nat := l.foldl (fun n x => n * 256 + x.toNat) 0
def num (l : List UInt8) : Int := IntKind.i64.wrap (valN l : Int)
theorem wrap64_def (x : Int) : IntKind.i64.wrap x = if x % 18446744073709551616 ≥ 9223372036854775808 then x % 18446744073709551616 - 18446744073709551616 else x % 18446744073709551616 := by
  simp [IntKind.wrap, IntKind.signed, IntKind.bits]
theorem wrap64_cong {x y : Int} (h : x % 18446744073709551616 = y % 18446744073709551616) : IntKind.i64.wrap x = IntKind.i64.wrap y := by
  rw [wrap64_def, wrap64_def, h]
theorem wrap64_mod (x : Int) : IntKind.i64.wrap x % 18446744073709551616 = x % 18446744073709551616 := by
  rw [wrap64_def]; split <;> omega
theorem ofInt_cong {x y : Int} (h : x % 18446744073709551616 = y % 18446744073709551616) : BitVec.ofInt 64 x = BitVec.ofInt 64 y := by
  apply BitVec.eq_of_toNat_eq
  rw [BitVec.toNat_ofInt, BitVec.toNat_ofInt]
  have : (((2 ^ 64 : Nat) : Int)) = 18446744073709551616 := by decide
  rw [this, h]
theorem or_byte (v y : Nat) (hy : y < 256) : Vc.bits .or .i64 (IntKind.i64.wrap (IntKind.i64.wrap (v : Int) * 2 ^ min (Int.toNat 8) (IntKind.bits .i64))) (IntKind.i64.wrap (y : Int)) = IntKind.i64.wrap ((v * 256 + y : Nat) : Int) := by
  have e1 : (2 : Int) ^ min (Int.toNat 8) (IntKind.bits .i64) = 256 := by decide
  rw [e1]
  show IntKind.i64.wrap ((BitVec.ofInt 64 (IntKind.i64.wrap (IntKind.i64.wrap (v : Int) * 256)) ||| BitVec.ofInt 64 (IntKind.i64.wrap (y : Int))).toNat : Int) = _
  have e2 : BitVec.ofInt 64 (IntKind.i64.wrap (IntKind.i64.wrap (v : Int) * 256)) = BitVec.ofInt 64 (((v % 2 ^ 56) * 256 : Nat) : Int) := by
    apply ofInt_cong
    rw [wrap64_mod]
    have := wrap64_mod (v : Int)
    omega
  have e3 : BitVec.ofInt 64 (IntKind.i64.wrap (y : Int)) = BitVec.ofInt 64 (y : Int) := ofInt_cong (wrap64_mod _)
  rw [e2, e3]
  apply wrap64_cong
  rw [BitVec.toNat_or, BitVec.toNat_ofInt, BitVec.toNat_ofInt]
  have h1 : ((((v % 2 ^ 56) * 256 : Nat) : Int) % ((2 ^ 64 : Nat) : Int)).toNat = (v % 2 ^ 56) <<< 8 := by
    rw [Nat.shiftLeft_eq]; omega
  have h2 : ((y : Int) % ((2 ^ 64 : Nat) : Int)).toNat = y := by omega
  rw [h1, h2, ← Nat.shiftLeft_add_eq_or_of_lt (by omega), Nat.shiftLeft_eq]
  omega

/-! ### The reader -/
def tk (l : List UInt8) (n : Nat) : List UInt8 := if n ≤ l.length then l.take n else []
def dr (l : List UInt8) (n : Nat) : List UInt8 := if n ≤ l.length then l.drop n else []
def rdrP (b : Nat) (f : List Nat) (bs : List UInt8) (sh : Bool) (w : World) : Prop :=
  b ∉ f ∧ ∃ a c, Blk w b [.slice a bs.length c, .bool sh] 64 ∧ Cells w a (bcells bs) ∧ bs.length ≤ c ∧ ∀ k ∈ blks a, k ∈ f
def rdr (b : Nat) (f : List Nat) (bs : List UInt8) (sh : Bool) : Asn := .any (b :: f) (rdrP b f bs sh)
theorem rdr_p {b : Nat} {f : List Nat} {bs : List UInt8} {sh : Bool} {w : World} (h : (rdr b f bs sh).ok w) : rdrP b f bs sh w := h.2 w fun _ _ => rfl
theorem cells_of {w w' : World} {a : Option Addr} {vs : List Value} (h : Cells w a vs) (e : ∀ k ∈ blks a, w'.heap[k]? = w.heap[k]?) : Cells w' a vs := by
  intro j v hj
  obtain ⟨ad, rfl, hcell⟩ := h j v hj
  refine ⟨ad, rfl, ?_⟩
  have hb : (ad.add j).block = ad.block := by unfold Addr.add; split <;> rfl
  rw [World.cell?_of_block (e _ (by rw [hb]; simp [blks]))]; exact hcell
theorem rdr_ok {b : Nat} {f : List Nat} {bs : List UInt8} {sh : Bool} {w : World} (h : rdrP b f bs sh w) (hf : ∀ k ∈ f, k < w.heap.size) : (rdr b f bs sh).ok w := by
  obtain ⟨h1, a, c, h2, h3, h4, h5⟩ := h
  refine ⟨?_, ?_⟩
  · intro k hk
    rcases List.mem_cons.1 hk with rfl | hk
    · exact h2.lt
    · exact hf k hk
  · intro w' he
    exact ⟨h1, a, c, (he b (.head _)).trans h2, cells_of h3 fun k hk => he k (.tail _ (h5 k hk)), h4, h5⟩
theorem scl64 : True := trivial

theorem text_spec (b : Nat) (f : List Nat) (bs : List UInt8) (sh : Bool) (long : Nat) (w : World) (h : (rdr b f bs sh).ok w) :
    Calls Go.Proofs.Try.prog 29 #[.pointer (some ⟨b, 0, none⟩), .int .i64 long] w fun e w' => e = .returned (.string ⟨(tk bs long).toArray⟩) ∧ Hp (b :: f) w w' [rdr b f (dr bs long) (sh || decide (bs.length < long))] := by
  obtain ⟨h1, a, c, h2, h3, h4, h5⟩ := rdr_p h
  have hlt : ∀ k ∈ f, k < w.heap.size := fun k hk => h.1 k (.tail _ hk)
  have H : Hp [b] w w [.blk b [.slice a bs.length c, .bool sh] 64] := Hp.start1 (a := .blk b [.slice a bs.length c, .bool sh] 64) h2
  have fin : ∀ (w' : World) (a' : Option Addr) (c' : Nat) (bs' : List UInt8) (sh' : Bool), Hp [b] w w' [.blk b [.slice a' bs'.length c', .bool sh'] 64] → Cells w a' (bcells bs') → bs'.length ≤ c' → (∀ k ∈ blks a', k ∈ f) → Hp (b :: f) w w' [rdr b f bs' sh'] := by
    intro w' a' c' bs' sh' H' hc hl hk
    refine ⟨H'.chg.more (by simp), ?_, ?_, by simp⟩
    · intro x hx
      simp only [List.mem_singleton] at hx; subst hx
      exact rdr_ok ⟨h1, a', c', H'.blk (.head _), hc.chg H'.chg (fun k hk' he => by simp at he; subst he; exact h1 (hk _ hk')), hl, hk⟩ fun k hk => Nat.lt_of_lt_of_le (hlt k hk) H'.chg.size
    · intro x hx k hk
      simp only [List.mem_singleton] at hx; subst hx
      exact .inl hk
  apply text.ok
  unfold text.vc
  (repeat (first | ((repeat apply Exists.intro); first | refine ⟨H.ld (by exact ⟨rfl, rfl, rfl, rfl⟩) (by first | exact scl3 | exact scl9 | exact scl32 | exact scl22 | exact scl53 | exact scl26 | exact scl4 | exact scl5) (by repeat first | exact .head _ | refine .tail _ ?_) rfl, ?_⟩ | refine ⟨H.ldA (by exact ⟨rfl, rfl, rfl, rfl⟩) (by first | exact agg34 | exact agg24 | exact agg31 | exact agg57 | exact agg58 | exact agg52) (by repeat first | exact .head _ | refine .tail _ ?_) rfl rfl, ?_⟩) | (intro _ _ hn; replace H := H.new (by exact ⟨rfl, rfl, rfl, rfl⟩) hn; clear hn) | ((first | (apply Hp.st; (case H => first | exact H | exact H.pull1 | exact H.pull2 | exact H.pull3 | exact H.pull4 | exact H.pull5 | exact H.pull6 | exact H.pull7); (case e => exact ⟨rfl, rfl, rfl, rfl⟩); (case S => exact (by first | exact scl3 | exact scl9 | exact scl32 | exact scl22 | exact scl53 | exact scl26 | exact scl4 | exact scl5)); (case hv => exact rfl); (case h1 => exact rfl); (case ho => exact Nat.le_of_ble_eq_true rfl); (case hc => exact rfl)) | (apply Hp.stA; (case H => first | exact H | exact H.pull1 | exact H.pull2 | exact H.pull3 | exact H.pull4 | exact H.pull5 | exact H.pull6 | exact H.pull7); (case e => exact ⟨rfl, rfl, rfl, rfl⟩); (case S => exact (by first | exact agg34 | exact agg24 | exact agg31 | exact agg57 | exact agg58 | exact agg52)); (case hn => exact rfl); (case h1 => exact rfl); (case ho => exact Nat.le_of_ble_eq_true rfl); (case hc => exact rfl))); clear H; intro _ H; (try simp only [over, List.set_cons_zero, List.set_cons_succ] at H))))
  refine br_dec (fun hs => ?_) (fun hs => ?_)
  · (repeat (first | ((repeat apply Exists.intro); first | refine ⟨H.ld (by exact ⟨rfl, rfl, rfl, rfl⟩) (by first | exact scl3 | exact scl9 | exact scl32 | exact scl22 | exact scl53 | exact scl26 | exact scl4 | exact scl5) (by repeat first | exact .head _ | refine .tail _ ?_) rfl, ?_⟩ | refine ⟨H.ldA (by exact ⟨rfl, rfl, rfl, rfl⟩) (by first | exact agg34 | exact agg24 | exact agg31 | exact agg57 | exact agg58 | exact agg52) (by repeat first | exact .head _ | refine .tail _ ?_) rfl rfl, ?_⟩) | (intro _ _ hn; replace H := H.new (by exact ⟨rfl, rfl, rfl, rfl⟩) hn; clear hn) | ((first | (apply Hp.st; (case H => first | exact H | exact H.pull1 | exact H.pull2 | exact H.pull3 | exact H.pull4 | exact H.pull5 | exact H.pull6 | exact H.pull7); (case e => exact ⟨rfl, rfl, rfl, rfl⟩); (case S => exact (by first | exact scl3 | exact scl9 | exact scl32 | exact scl22 | exact scl53 | exact scl26 | exact scl4 | exact scl5)); (case hv => exact rfl); (case h1 => exact rfl); (case ho => exact Nat.le_of_ble_eq_true rfl); (case hc => exact rfl)) | (apply Hp.stA; (case H => first | exact H | exact H.pull1 | exact H.pull2 | exact H.pull3 | exact H.pull4 | exact H.pull5 | exact H.pull6 | exact H.pull7); (case e => exact ⟨rfl, rfl, rfl, rfl⟩); (case S => exact (by first | exact agg34 | exact agg24 | exact agg31 | exact agg57 | exact agg58 | exact agg52)); (case hn => exact rfl); (case h1 => exact rfl); (case ho => exact Nat.le_of_ble_eq_true rfl); (case hc => exact rfl))); clear H; intro _ H; (try simp only [over, List.set_cons_zero, List.set_cons_succ] at H))))
    have e1 : ¬ long ≤ bs.length := by omega
    refine ⟨by simp [tk, e1], ?_⟩
    rw [dr, if_neg e1, decide_eq_true (by omega), Bool.or_true]
    exact fin _ none 0 [] true H (by intro j v hj; simp [bcells] at hj) (by simp) (by simp [blks])
  · (repeat (first | ((repeat apply Exists.intro); first | refine ⟨H.ld (by exact ⟨rfl, rfl, rfl, rfl⟩) (by first | exact scl3 | exact scl9 | exact scl32 | exact scl22 | exact scl53 | exact scl26 | exact scl4 | exact scl5) (by repeat first | exact .head _ | refine .tail _ ?_) rfl, ?_⟩ | refine ⟨H.ldA (by exact ⟨rfl, rfl, rfl, rfl⟩) (by first | exact agg34 | exact agg24 | exact agg31 | exact agg57 | exact agg58 | exact agg52) (by repeat first | exact .head _ | refine .tail _ ?_) rfl rfl, ?_⟩) | (intro _ _ hn; replace H := H.new (by exact ⟨rfl, rfl, rfl, rfl⟩) hn; clear hn) | ((first | (apply Hp.st; (case H => first | exact H | exact H.pull1 | exact H.pull2 | exact H.pull3 | exact H.pull4 | exact H.pull5 | exact H.pull6 | exact H.pull7); (case e => exact ⟨rfl, rfl, rfl, rfl⟩); (case S => exact (by first | exact scl3 | exact scl9 | exact scl32 | exact scl22 | exact scl53 | exact scl26 | exact scl4 | exact scl5)); (case hv => exact rfl); (case h1 => exact rfl); (case ho => exact Nat.le_of_ble_eq_true rfl); (case hc => exact rfl)) | (apply Hp.stA; (case H => first | exact H | exact H.pull1 | exact H.pull2 | exact H.pull3 | exact H.pull4 | exact H.pull5 | exact H.pull6 | exact H.pull7); (case e => exact ⟨rfl, rfl, rfl, rfl⟩); (case S => exact (by first | exact agg34 | exact agg24 | exact agg31 | exact agg57 | exact agg58 | exact agg52)); (case hn => exact rfl); (case h1 => exact rfl); (case ho => exact Nat.le_of_ble_eq_true rfl); (case hc => exact rfl))); clear H; intro _ H; (try simp only [over, List.set_cons_zero, List.set_cons_succ] at H))))
    have e1 : long ≤ bs.length := by omega
    refine ⟨⟨by omega, by omega⟩, ⟨(bs.take long).toArray⟩, b2s und53 und5 und9 (by rw [byteCells_mk, bcells_take]; exact h3.take _) (by simp [ByteArray.size]; omega), onP_mk rfl ?_⟩
    (repeat (first | ((repeat apply Exists.intro); first | refine ⟨H.ld (by exact ⟨rfl, rfl, rfl, rfl⟩) (by first | exact scl3 | exact scl9 | exact scl32 | exact scl22 | exact scl53 | exact scl26 | exact scl4 | exact scl5) (by repeat first | exact .head _ | refine .tail _ ?_) rfl, ?_⟩ | refine ⟨H.ldA (by exact ⟨rfl, rfl, rfl, rfl⟩) (by first | exact agg34 | exact agg24 | exact agg31 | exact agg57 | exact agg58 | exact agg52) (by repeat first | exact .head _ | refine .tail _ ?_) rfl rfl, ?_⟩) | (intro _ _ hn; replace H := H.new (by exact ⟨rfl, rfl, rfl, rfl⟩) hn; clear hn) | ((first | (apply Hp.st; (case H => first | exact H | exact H.pull1 | exact H.pull2 | exact H.pull3 | exact H.pull4 | exact H.pull5 | exact H.pull6 | exact H.pull7); (case e => exact ⟨rfl, rfl, rfl, rfl⟩); (case S => exact (by first | exact scl3 | exact scl9 | exact scl32 | exact scl22 | exact scl53 | exact scl26 | exact scl4 | exact scl5)); (case hv => exact rfl); (case h1 => exact rfl); (case ho => exact Nat.le_of_ble_eq_true rfl); (case hc => exact rfl)) | (apply Hp.stA; (case H => first | exact H | exact H.pull1 | exact H.pull2 | exact H.pull3 | exact H.pull4 | exact H.pull5 | exact H.pull6 | exact H.pull7); (case e => exact ⟨rfl, rfl, rfl, rfl⟩); (case S => exact (by first | exact agg34 | exact agg24 | exact agg31 | exact agg57 | exact agg58 | exact agg52)); (case hn => exact rfl); (case h1 => exact rfl); (case ho => exact Nat.le_of_ble_eq_true rfl); (case hc => exact rfl))); clear H; intro _ H; (try simp only [over, List.set_cons_zero, List.set_cons_succ] at H))))
    refine ⟨⟨by omega, by omega⟩, onP_mk rfl ?_⟩
    (repeat (first | ((repeat apply Exists.intro); first | refine ⟨H.ld (by exact ⟨rfl, rfl, rfl, rfl⟩) (by first | exact scl3 | exact scl9 | exact scl32 | exact scl22 | exact scl53 | exact scl26 | exact scl4 | exact scl5) (by repeat first | exact .head _ | refine .tail _ ?_) rfl, ?_⟩ | refine ⟨H.ldA (by exact ⟨rfl, rfl, rfl, rfl⟩) (by first | exact agg34 | exact agg24 | exact agg31 | exact agg57 | exact agg58 | exact agg52) (by repeat first | exact .head _ | refine .tail _ ?_) rfl rfl, ?_⟩) | (intro _ _ hn; replace H := H.new (by exact ⟨rfl, rfl, rfl, rfl⟩) hn; clear hn) | ((first | (apply Hp.st; (case H => first | exact H | exact H.pull1 | exact H.pull2 | exact H.pull3 | exact H.pull4 | exact H.pull5 | exact H.pull6 | exact H.pull7); (case e => exact ⟨rfl, rfl, rfl, rfl⟩); (case S => exact (by first | exact scl3 | exact scl9 | exact scl32 | exact scl22 | exact scl53 | exact scl26 | exact scl4 | exact scl5)); (case hv => exact rfl); (case h1 => exact rfl); (case ho => exact Nat.le_of_ble_eq_true rfl); (case hc => exact rfl)) | (apply Hp.stA; (case H => first | exact H | exact H.pull1 | exact H.pull2 | exact H.pull3 | exact H.pull4 | exact H.pull5 | exact H.pull6 | exact H.pull7); (case e => exact ⟨rfl, rfl, rfl, rfl⟩); (case S => exact (by first | exact agg34 | exact agg24 | exact agg31 | exact agg57 | exact agg58 | exact agg52)); (case hn => exact rfl); (case h1 => exact rfl); (case ho => exact Nat.le_of_ble_eq_true rfl); (case hc => exact rfl))); clear H; intro _ H; (try simp only [over, List.set_cons_zero, List.set_cons_succ] at H))))
    refine ⟨by simp [tk, e1], ?_⟩
    rw [dr, if_pos e1, decide_eq_false (by omega), Bool.or_false]
    refine fin _ _ (c - long) (bs.drop long) sh ?_ (by rw [bcells_drop]; exact h3.slA (c := c) (i := long) (by rw [bcells_length]; exact h4)) (by simp; omega) ?_
    · simpa using H
    · intro k hk
      refine h5 k ?_
      unfold slA at hk
      split at hk
      · exact hk
      · cases a with
        | none => simp [blks] at hk
        | some ad => 
          simp only [Option.map_some, blks, List.mem_singleton] at hk ⊢
          rw [hk]
          unfold Addr.add; split <;> rfl
end Go.Proofs.Ytcgaobfbgfefhaa
