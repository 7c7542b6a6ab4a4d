/- Folio: 'Decode'. -/
import Derived.Test.YtcgaobfbgfefhaaFh
set_option linter.unusedVariables false
set_option linter.unusedSimpArgs false
namespace Go.Proofs.Ytcgaobfbgfefhaa
open Go Go.Vc

theorem toRdr {B : List Nat} {w0 w : World} {L : List Asn} {b : Nat} {a : Option Addr} {bs : List UInt8} {c : Nat} {sh : Bool} (H : Hp B w0 w (.blk b [.slice a bs.length c, .bool sh] 64 :: .own 5 1 a bs.length c (bcells bs) :: L)) : Hp B w0 w (rdr b (blks a) bs sh :: L) := by
  have hown := H.ownA (.tail _ (.head _))
  have hok : (rdr b (blks a) bs sh).ok w := by
    refine rdr_ok ⟨?_, a, c, H.blk (.head _), hown.cells, hown.le.1, fun k hk => hk⟩ fun k hk => (hown.mem k hk).2
    exact fun hb => (List.pairwise_cons.1 H.sep).1 _ (.head _) b (by simp [Asn.foot]) hb
  refine Hp.use (L1 := [_, _]) (L2 := L) H (Hp.start1 hok) fun k hk => ?_
  rcases List.mem_cons.1 hk with rfl | hk
  · exact ⟨_, .head _, by simp [Asn.foot]⟩
  · exact ⟨_, .tail _ (.head _), hk⟩
theorem und32 : Go.Proofs.Try.prog.underlying 32 = some (.slice 58) := by kernel_rfl
theorem tk_len (l : List UInt8) (n : Nat) : (tk l n).length ≤ n := by unfold tk; split <;> simp; omega
theorem num_nat {l : List UInt8} (h : l.length ≤ 7) : num l = ((num l).toNat : Int) := by rw [num_small h]; simp
theorem parse_rel {b0 b1 b2 b3 b4 b5 b6 b7 b8 : List UInt8} {T N : Nat} (hb1 : dr b0 4 = b1) (hb2 : dr b1 4 = b2) (hb3 : dr b2 8 = b3) (hb4 : dr b3 8 = b4) (hb5 : dr b4 1 = b5) (hb6 : dr b5 2 = b6) (hb7 : dr b6 2 = b7) (hT : num (tk b6 2) = (T : Int)) (hb8 : dr b7 T = b8) (hN : num (tk b8 1) = (N : Int)) :
    parse b0 = { r := { id := num (tk b0 4), parent := num (tk b1 4), frm := num (tk b2 8), to := num (tk b3 8), kind := num (tk b4 1), name := num (tk b5 2), text := ⟨(tk b7 T).toArray⟩, attrs := (parseA N (dr b8 1)).1 }, rest := (parseA N (dr b8 1)).2.1, short := shorts [4, 4, 8, 8, 1, 2, 2, T, 1] b0 || (parseA N (dr b8 1)).2.2 } := by
  have ht : textN b0 = T := by
    simp only [textN, lens, List.foldl_cons, List.foldl_nil, hb1, hb2, hb3, hb4, hb5, hb6, hT, Int.toNat_natCast]
  have hn : attrsN b0 = N := by
    simp only [attrsN, ht, lens, List.foldl_cons, List.foldl_nil, hb1, hb2, hb3, hb4, hb5, hb6, hb7, hb8, hN, Int.toNat_natCast]
  simp only [parse, ht, hn, lens, List.foldl_cons, List.foldl_nil, hb1, hb2, hb3, hb4, hb5, hb6, hb7, hb8]
set_option maxHeartbeats 4000000 in
theorem decode_spec (l : List (List UInt8)) (a : Option Addr) (n c : Nat) (w : World) (hS : StrS w a n l) (hn : n ≤ maxLen) :
    Calls Go.Proofs.Try.prog 17 #[.slice a n c] w fun e w' => (∃ r a' c', decR l r ∧ e = .returned (.tuple #[r.val a' r.attrs.length c', .int .i64 0]) ∧ Hp [] w w' [.own 58 2 a' r.attrs.length c' (attrCells r.attrs)]) ∨
      ((¬ ∃ r, decR l r) ∧ e = .returned (.tuple #[zrec, .int .i64 160]) ∧ Hp [] w w' []) := by
  have H := Hp.start w
  have hmax : maxLen = 9223372036854775807 := by simp [maxLen]
  have hlen := hS.len
  apply decode.ok
  unfold decode.vc
  (repeat (first | ((repeat apply Exists.intro); first | refine ⟨H.ld (by exact ⟨rfl, rfl, rfl, rfl⟩) (by first | exact scl3 | exact scl9 | exact scl32 | exact scl22 | exact scl53 | exact scl26 | exact scl4 | exact scl5) (by repeat first | exact .head _ | refine .tail _ ?_) rfl, ?_⟩ | refine ⟨H.ldA (by exact ⟨rfl, rfl, rfl, rfl⟩) (by first | exact agg34 | exact agg24 | exact agg31 | exact agg57 | exact agg58 | exact agg52) (by repeat first | exact .head _ | refine .tail _ ?_) rfl rfl, ?_⟩) | (intro _ _ hn; replace H := H.new (by exact ⟨rfl, rfl, rfl, rfl⟩) hn; clear hn) | ((first | (apply Hp.st; (case H => first | exact H | exact H.pull1 | exact H.pull2 | exact H.pull3 | exact H.pull4 | exact H.pull5 | exact H.pull6 | exact H.pull7); (case e => exact ⟨rfl, rfl, rfl, rfl⟩); (case S => exact (by first | exact scl3 | exact scl9 | exact scl32 | exact scl22 | exact scl53 | exact scl26 | exact scl4 | exact scl5)); (case hv => exact rfl); (case h1 => exact rfl); (case ho => exact Nat.le_of_ble_eq_true rfl); (case hc => exact rfl)) | (apply Hp.stA; (case H => first | exact H | exact H.pull1 | exact H.pull2 | exact H.pull3 | exact H.pull4 | exact H.pull5 | exact H.pull6 | exact H.pull7); (case e => exact ⟨rfl, rfl, rfl, rfl⟩); (case S => exact (by first | exact agg34 | exact agg24 | exact agg31 | exact agg57 | exact agg58 | exact agg52)); (case hn => exact rfl); (case h1 => exact rfl); (case ho => exact Nat.le_of_ble_eq_true rfl); (case hc => exact rfl))); clear H; intro _ H; (try simp only [over, List.set_cons_zero, List.set_cons_succ] at H))))
  rename_i b _
  refine callV (joined_spec l a n c _ (hS.chg H.chg (by simp)) hn) ?_
  rintro e w2 (⟨hgood, a1, c1, rfl, hj1, hj2, H'⟩ | ⟨hbad, rfl, H'⟩)
  · replace H := H.ext1 H'
    clear H'
    refine ⟨_, _, _, _, rfl, br_ndec (fun h0 => ?_) (fun h0 => ?_)⟩
    · (repeat (first | ((repeat apply Exists.intro); first | refine ⟨H.ld (by exact ⟨rfl, rfl, rfl, rfl⟩) (by first | exact scl3 | exact scl9 | exact scl32 | exact scl22 | exact scl53 | exact scl26 | exact scl4 | exact scl5) (by repeat first | exact .head _ | refine .tail _ ?_) rfl, ?_⟩ | refine ⟨H.ldA (by exact ⟨rfl, rfl, rfl, rfl⟩) (by first | exact agg34 | exact agg24 | exact agg31 | exact agg57 | exact agg58 | exact agg52) (by repeat first | exact .head _ | refine .tail _ ?_) rfl rfl, ?_⟩) | (intro _ _ hn; replace H := H.new (by exact ⟨rfl, rfl, rfl, rfl⟩) hn; clear hn) | ((first | (apply Hp.st; (case H => first | exact H | exact H.pull1 | exact H.pull2 | exact H.pull3 | exact H.pull4 | exact H.pull5 | exact H.pull6 | exact H.pull7); (case e => exact ⟨rfl, rfl, rfl, rfl⟩); (case S => exact (by first | exact scl3 | exact scl9 | exact scl32 | exact scl22 | exact scl53 | exact scl26 | exact scl4 | exact scl5)); (case hv => exact rfl); (case h1 => exact rfl); (case ho => exact Nat.le_of_ble_eq_true rfl); (case hc => exact rfl)) | (apply Hp.stA; (case H => first | exact H | exact H.pull1 | exact H.pull2 | exact H.pull3 | exact H.pull4 | exact H.pull5 | exact H.pull6 | exact H.pull7); (case e => exact ⟨rfl, rfl, rfl, rfl⟩); (case S => exact (by first | exact agg34 | exact agg24 | exact agg31 | exact agg57 | exact agg58 | exact agg52)); (case hn => exact rfl); (case h1 => exact rfl); (case ho => exact Nat.le_of_ble_eq_true rfl); (case hc => exact rfl))); clear H; intro _ H; (try simp only [over, List.set_cons_zero, List.set_cons_succ] at H))))
      refine .inr ⟨?_, rfl, H.done⟩
      rintro ⟨r, hr⟩
      have := (decR_join hr).2.2.1
      omega
    · intro b2 w3 hn3
      replace H := toRdr (H.new (by exact ⟨rfl, rfl, rfl, rfl⟩) hn3)
      clear hn3
      generalize blks a1 = f at H
      generalize hb0 : joinB l = b0 at *
      have num1 := fun (long : Nat) (h8 : long ≤ 8) (bs : List UInt8) (sh : Bool) (w : World) (h : (rdr b2 f bs sh).ok w) => number_spec b2 f bs sh long h8 w h
      refine callV (num1 4 (by omega) _ _ _ (H.ok _ (.head _))) ?_
      rintro e w4 ⟨rfl, H'⟩
      replace H := H.use11 H'
      clear H'
      generalize hb1 : dr b0 4 = b1 at H
      refine ⟨_, rfl, callV (num1 4 (by omega) _ _ _ (H.ok _ (.head _))) ?_⟩
      rintro e w5 ⟨rfl, H'⟩
      replace H := H.use11 H'
      clear H'
      generalize hb2 : dr b1 4 = b2x at H
      refine ⟨_, rfl, ?_⟩
      (repeat (first | ((repeat apply Exists.intro); first | refine ⟨H.ld (by exact ⟨rfl, rfl, rfl, rfl⟩) (by first | exact scl3 | exact scl9 | exact scl32 | exact scl22 | exact scl53 | exact scl26 | exact scl4 | exact scl5) (by repeat first | exact .head _ | refine .tail _ ?_) rfl, ?_⟩ | refine ⟨H.ldA (by exact ⟨rfl, rfl, rfl, rfl⟩) (by first | exact agg34 | exact agg24 | exact agg31 | exact agg57 | exact agg58 | exact agg52) (by repeat first | exact .head _ | refine .tail _ ?_) rfl rfl, ?_⟩) | (intro _ _ hn; replace H := H.new (by exact ⟨rfl, rfl, rfl, rfl⟩) hn; clear hn) | ((first | (apply Hp.st; (case H => first | exact H | exact H.pull1 | exact H.pull2 | exact H.pull3 | exact H.pull4 | exact H.pull5 | exact H.pull6 | exact H.pull7); (case e => exact ⟨rfl, rfl, rfl, rfl⟩); (case S => exact (by first | exact scl3 | exact scl9 | exact scl32 | exact scl22 | exact scl53 | exact scl26 | exact scl4 | exact scl5)); (case hv => exact rfl); (case h1 => exact rfl); (case ho => exact Nat.le_of_ble_eq_true rfl); (case hc => exact rfl)) | (apply Hp.stA; (case H => first | exact H | exact H.pull1 | exact H.pull2 | exact H.pull3 | exact H.pull4 | exact H.pull5 | exact H.pull6 | exact H.pull7); (case e => exact ⟨rfl, rfl, rfl, rfl⟩); (case S => exact (by first | exact agg34 | exact agg24 | exact agg31 | exact agg57 | exact agg58 | exact agg52)); (case hn => exact rfl); (case h1 => exact rfl); (case ho => exact Nat.le_of_ble_eq_true rfl); (case hc => exact rfl))); clear H; intro _ H; (try simp only [over, List.set_cons_zero, List.set_cons_succ] at H))))
      replace H := H.pull1
      rename_i b3 _ _
      refine callV (num1 8 (by omega) _ _ _ (H.ok _ (.head _))) ?_
      rintro e w6 ⟨rfl, H'⟩
      replace H := H.use11 H'
      clear H'
      generalize hb3 : dr b2x 8 = b3x at H
      refine ⟨_, rfl, callV (num1 8 (by omega) _ _ _ (H.ok _ (.head _))) ?_⟩
      rintro e w7 ⟨rfl, H'⟩
      replace H := H.use11 H'
      clear H'
      generalize hb4 : dr b3x 8 = b4 at H
      refine ⟨_, rfl, ?_⟩
      (repeat (first | ((repeat apply Exists.intro); first | refine ⟨H.ld (by exact ⟨rfl, rfl, rfl, rfl⟩) (by first | exact scl3 | exact scl9 | exact scl32 | exact scl22 | exact scl53 | exact scl26 | exact scl4 | exact scl5) (by repeat first | exact .head _ | refine .tail _ ?_) rfl, ?_⟩ | refine ⟨H.ldA (by exact ⟨rfl, rfl, rfl, rfl⟩) (by first | exact agg34 | exact agg24 | exact agg31 | exact agg57 | exact agg58 | exact agg52) (by repeat first | exact .head _ | refine .tail _ ?_) rfl rfl, ?_⟩) | (intro _ _ hn; replace H := H.new (by exact ⟨rfl, rfl, rfl, rfl⟩) hn; clear hn) | ((first | (apply Hp.st; (case H => first | exact H | exact H.pull1 | exact H.pull2 | exact H.pull3 | exact H.pull4 | exact H.pull5 | exact H.pull6 | exact H.pull7); (case e => exact ⟨rfl, rfl, rfl, rfl⟩); (case S => exact (by first | exact scl3 | exact scl9 | exact scl32 | exact scl22 | exact scl53 | exact scl26 | exact scl4 | exact scl5)); (case hv => exact rfl); (case h1 => exact rfl); (case ho => exact Nat.le_of_ble_eq_true rfl); (case hc => exact rfl)) | (apply Hp.stA; (case H => first | exact H | exact H.pull1 | exact H.pull2 | exact H.pull3 | exact H.pull4 | exact H.pull5 | exact H.pull6 | exact H.pull7); (case e => exact ⟨rfl, rfl, rfl, rfl⟩); (case S => exact (by first | exact agg34 | exact agg24 | exact agg31 | exact agg57 | exact agg58 | exact agg52)); (case hn => exact rfl); (case h1 => exact rfl); (case ho => exact Nat.le_of_ble_eq_true rfl); (case hc => exact rfl))); clear H; intro _ H; (try simp only [over, List.set_cons_zero, List.set_cons_succ] at H))))
      replace H := H.pull1
      refine callV (num1 1 (by omega) _ _ _ (H.ok _ (.head _))) ?_
      rintro e w8 ⟨rfl, H'⟩
      replace H := H.use11 H'
      clear H'
      generalize hb5 : dr b4 1 = b5 at H
      refine ⟨_, rfl, callV (num1 2 (by omega) _ _ _ (H.ok _ (.head _))) ?_⟩
      rintro e w9 ⟨rfl, H'⟩
      replace H := H.use11 H'
      clear H'
      generalize hb6 : dr b5 2 = b6 at H
      refine ⟨_, rfl, ?_⟩
      (repeat (first | ((repeat apply Exists.intro); first | refine ⟨H.ld (by exact ⟨rfl, rfl, rfl, rfl⟩) (by first | exact scl3 | exact scl9 | exact scl32 | exact scl22 | exact scl53 | exact scl26 | exact scl4 | exact scl5) (by repeat first | exact .head _ | refine .tail _ ?_) rfl, ?_⟩ | refine ⟨H.ldA (by exact ⟨rfl, rfl, rfl, rfl⟩) (by first | exact agg34 | exact agg24 | exact agg31 | exact agg57 | exact agg58 | exact agg52) (by repeat first | exact .head _ | refine .tail _ ?_) rfl rfl, ?_⟩) | (intro _ _ hn; replace H := H.new (by exact ⟨rfl, rfl, rfl, rfl⟩) hn; clear hn) | ((first | (apply Hp.st; (case H => first | exact H | exact H.pull1 | exact H.pull2 | exact H.pull3 | exact H.pull4 | exact H.pull5 | exact H.pull6 | exact H.pull7); (case e => exact ⟨rfl, rfl, rfl, rfl⟩); (case S => exact (by first | exact scl3 | exact scl9 | exact scl32 | exact scl22 | exact scl53 | exact scl26 | exact scl4 | exact scl5)); (case hv => exact rfl); (case h1 => exact rfl); (case ho => exact Nat.le_of_ble_eq_true rfl); (case hc => exact rfl)) | (apply Hp.stA; (case H => first | exact H | exact H.pull1 | exact H.pull2 | exact H.pull3 | exact H.pull4 | exact H.pull5 | exact H.pull6 | exact H.pull7); (case e => exact ⟨rfl, rfl, rfl, rfl⟩); (case S => exact (by first | exact agg34 | exact agg24 | exact agg31 | exact agg57 | exact agg58 | exact agg52)); (case hn => exact rfl); (case h1 => exact rfl); (case ho => exact Nat.le_of_ble_eq_true rfl); (case hc => exact rfl))); clear H; intro _ H; (try simp only [over, List.set_cons_zero, List.set_cons_succ] at H))))
      replace H := H.pull1
      refine callV (num1 2 (by omega) _ _ _ (H.ok _ (.head _))) ?_
      rintro e w10 ⟨rfl, H'⟩
      replace H := H.use11 H'
      clear H'
      generalize hb7 : dr b6 2 = b7 at H
      refine ⟨_, rfl, ?_⟩
      obtain ⟨T, hT⟩ : ∃ T : Nat, num (tk b6 2) = (T : Int) := ⟨_, num_nat (Nat.le_trans (tk_len _ 2) (by omega))⟩
      rw [hT]
      refine callV (text_spec b2 f _ _ _ _ (H.ok _ (.head _))) ?_
      rintro e w11 ⟨rfl, H'⟩
      replace H := H.use11 H'
      clear H'
      generalize hb8 : dr b7 T = b8 at H
      refine ⟨_, rfl, ?_⟩
      (repeat (first | ((repeat apply Exists.intro); first | refine ⟨H.ld (by exact ⟨rfl, rfl, rfl, rfl⟩) (by first | exact scl3 | exact scl9 | exact scl32 | exact scl22 | exact scl53 | exact scl26 | exact scl4 | exact scl5) (by repeat first | exact .head _ | refine .tail _ ?_) rfl, ?_⟩ | refine ⟨H.ldA (by exact ⟨rfl, rfl, rfl, rfl⟩) (by first | exact agg34 | exact agg24 | exact agg31 | exact agg57 | exact agg58 | exact agg52) (by repeat first | exact .head _ | refine .tail _ ?_) rfl rfl, ?_⟩) | (intro _ _ hn; replace H := H.new (by exact ⟨rfl, rfl, rfl, rfl⟩) hn; clear hn) | ((first | (apply Hp.st; (case H => first | exact H | exact H.pull1 | exact H.pull2 | exact H.pull3 | exact H.pull4 | exact H.pull5 | exact H.pull6 | exact H.pull7); (case e => exact ⟨rfl, rfl, rfl, rfl⟩); (case S => exact (by first | exact scl3 | exact scl9 | exact scl32 | exact scl22 | exact scl53 | exact scl26 | exact scl4 | exact scl5)); (case hv => exact rfl); (case h1 => exact rfl); (case ho => exact Nat.le_of_ble_eq_true rfl); (case hc => exact rfl)) | (apply Hp.stA; (case H => first | exact H | exact H.pull1 | exact H.pull2 | exact H.pull3 | exact H.pull4 | exact H.pull5 | exact H.pull6 | exact H.pull7); (case e => exact ⟨rfl, rfl, rfl, rfl⟩); (case S => exact (by first | exact agg34 | exact agg24 | exact agg31 | exact agg57 | exact agg58 | exact agg52)); (case hn => exact rfl); (case h1 => exact rfl); (case ho => exact Nat.le_of_ble_eq_true rfl); (case hc => exact rfl))); clear H; intro _ H; (try simp only [over, List.set_cons_zero, List.set_cons_succ] at H))))
      replace H := H.pull1
      refine callV (num1 1 (by omega) _ _ _ (H.ok _ (.head _))) ?_
      rintro e w12 ⟨rfl, H'⟩
      replace H := H.use11 H'
      clear H'
      obtain ⟨N, hN⟩ : ∃ N : Nat, num (tk b8 1) = (N : Int) := ⟨_, num_nat (Nat.le_trans (tk_len _ 1) (by omega))⟩
      refine ⟨_, rfl, ?_⟩
      rw [hN]
      have hN2 : N < 256 := by
        have h2 := num_small (Nat.le_trans (tk_len b8 1) (by omega))
        have h3 := valN_lt (tk b8 1)
        have h4 : 256 ^ (tk b8 1).length ≤ 256 ^ 1 := Nat.pow_le_pow_right (by omega) (tk_len _ 1)
        omega
      obtain ⟨p, hp⟩ : ∃ p, p = parse b0 := ⟨_, rfl⟩
      have hdec : ∀ r, decR l r → p = ⟨r, [], false⟩ := fun r hr => hp.trans ((congrArg parse hb0).symm.trans (decR_join hr).2.2.2)
      have hpar := parse_rel hb1 hb2 hb3 hb4 hb5 hb6 hb7 hT hb8 hN
      rw [← hp] at hpar
      generalize hb9 : dr b8 1 = b9 at H hpar
      replace H : ∃ sh9, sh9 = (shorts [4, 4, 8, 8, 1, 2, 2, T, 1] b0) ∧ Hp [] w w12 [rdr b2 f b9 sh9, .blk b3 [.int .i64 p.r.id, .int .i64 p.r.parent, .int .i64 p.r.kind, .int .i64 p.r.name, .int .i64 p.r.frm, .int .i64 p.r.to, .string p.r.text, .slice none 0 0] 34,
          .blk b [.int .i64 0, .int .i64 0, .int .i64 0, .int .i64 0, .int .i64 0, .int .i64 0, .string ⟨#[]⟩, .slice none 0 0] 34] := by
        refine ⟨?x, ?e, ?h⟩
        case h => rw [hpar]; exact H
        case e =>
          subst hb1 hb2 hb3 hb4 hb5 hb6 hb7 hb8
          simp only [shorts, Bool.or_assoc, Bool.false_or, Bool.or_false]
      obtain ⟨sh9, hsh9, H⟩ := H
      rw [← hsh9] at hpar
      have hpA : p.r.attrs = (parseA N b9).1 := by rw [hpar]
      have hpR : p.rest = (parseA N b9).2.1 := by rw [hpar]
      have hpS : p.short = (sh9 || (parseA N b9).2.2) := by rw [hpar]
      clear hpar
      refine LoopP.mk (fun m s w' => ∃ k A bs sh a' c', m = N - k ∧ s = (k : Int) ∧ k ≤ N ∧ A.length = k ∧ A ++ (parseA (N - k) bs).1 = p.r.attrs ∧ (parseA (N - k) bs).2.1 = p.rest ∧ (sh || (parseA (N - k) bs).2.2) = p.short ∧
        Hp [] w w' [.own 58 2 a' k c' (attrCells A), rdr b2 f bs sh, .blk b3 [.int .i64 p.r.id, .int .i64 p.r.parent, .int .i64 p.r.kind, .int .i64 p.r.name, .int .i64 p.r.frm, .int .i64 p.r.to, .string p.r.text, .slice a' k c'] 34,
          .blk b [.int .i64 0, .int .i64 0, .int .i64 0, .int .i64 0, .int .i64 0, .int .i64 0, .string ⟨#[]⟩, .slice none 0 0] 34])
        (N) ⟨0, [], _, _, none, 0, rfl, rfl, Nat.zero_le _, rfl, by rw [hpA]; rfl, by rw [hpR]; rfl, by rw [hpS]; rfl, H.nilS 58 2⟩ ?_
      clear H
      rintro m s w' next ⟨k, A, bs, sh, a', c', rfl, rfl, hk, hA, hp1, hp2, hp3, H⟩ hnext
      dsimp only
      refine br_dec (fun h => ?_) (fun h => ?_)
      · have hk1 : N - k = (N - (k + 1)) + 1 := by omega
        rw [hk1] at hp1 hp2 hp3
        simp only [parseA] at hp1 hp2 hp3
        replace H := H.pull1
        refine callV (num1 2 (by omega) _ _ _ (H.ok _ (.head _))) ?_
        rintro e w13 ⟨rfl, H'⟩
        replace H := H.use11 H'
        clear H'
        refine ⟨_, rfl, ?_⟩
        (repeat (first | ((repeat apply Exists.intro); first | refine ⟨H.ld (by exact ⟨rfl, rfl, rfl, rfl⟩) (by first | exact scl3 | exact scl9 | exact scl32 | exact scl22 | exact scl53 | exact scl26 | exact scl4 | exact scl5) (by repeat first | exact .head _ | refine .tail _ ?_) rfl, ?_⟩ | refine ⟨H.ldA (by exact ⟨rfl, rfl, rfl, rfl⟩) (by first | exact agg34 | exact agg24 | exact agg31 | exact agg57 | exact agg58 | exact agg52) (by repeat first | exact .head _ | refine .tail _ ?_) rfl rfl, ?_⟩) | (intro _ _ hn; replace H := H.new (by exact ⟨rfl, rfl, rfl, rfl⟩) hn; clear hn) | ((first | (apply Hp.st; (case H => first | exact H | exact H.pull1 | exact H.pull2 | exact H.pull3 | exact H.pull4 | exact H.pull5 | exact H.pull6 | exact H.pull7); (case e => exact ⟨rfl, rfl, rfl, rfl⟩); (case S => exact (by first | exact scl3 | exact scl9 | exact scl32 | exact scl22 | exact scl53 | exact scl26 | exact scl4 | exact scl5)); (case hv => exact rfl); (case h1 => exact rfl); (case ho => exact Nat.le_of_ble_eq_true rfl); (case hc => exact rfl)) | (apply Hp.stA; (case H => first | exact H | exact H.pull1 | exact H.pull2 | exact H.pull3 | exact H.pull4 | exact H.pull5 | exact H.pull6 | exact H.pull7); (case e => exact ⟨rfl, rfl, rfl, rfl⟩); (case S => exact (by first | exact agg34 | exact agg24 | exact agg31 | exact agg57 | exact agg58 | exact agg52)); (case hn => exact rfl); (case h1 => exact rfl); (case ho => exact Nat.le_of_ble_eq_true rfl); (case hc => exact rfl))); clear H; intro _ H; (try simp only [over, List.set_cons_zero, List.set_cons_succ] at H))))
        replace H := H.pull1
        refine callV (num1 2 (by omega) _ _ _ (H.ok _ (.head _))) ?_
        rintro e w14 ⟨rfl, H'⟩
        replace H := H.use11 H'
        clear H'
        refine ⟨_, rfl, ?_⟩
        rw [num_nat (Nat.le_trans (tk_len (dr bs 2) 2) (by omega))]
        refine callV (text_spec b2 f _ _ _ _ (H.ok _ (.head _))) ?_
        rintro e w15 ⟨rfl, H'⟩
        replace H := H.use11 H'
        clear H'
        refine ⟨_, rfl, ?_⟩
        (repeat (first | ((repeat apply Exists.intro); first | refine ⟨H.ld (by exact ⟨rfl, rfl, rfl, rfl⟩) (by first | exact scl3 | exact scl9 | exact scl32 | exact scl22 | exact scl53 | exact scl26 | exact scl4 | exact scl5) (by repeat first | exact .head _ | refine .tail _ ?_) rfl, ?_⟩ | refine ⟨H.ldA (by exact ⟨rfl, rfl, rfl, rfl⟩) (by first | exact agg34 | exact agg24 | exact agg31 | exact agg57 | exact agg58 | exact agg52) (by repeat first | exact .head _ | refine .tail _ ?_) rfl rfl, ?_⟩) | (intro _ _ hn; replace H := H.new (by exact ⟨rfl, rfl, rfl, rfl⟩) hn; clear hn) | ((first | (apply Hp.st; (case H => first | exact H | exact H.pull1 | exact H.pull2 | exact H.pull3 | exact H.pull4 | exact H.pull5 | exact H.pull6 | exact H.pull7); (case e => exact ⟨rfl, rfl, rfl, rfl⟩); (case S => exact (by first | exact scl3 | exact scl9 | exact scl32 | exact scl22 | exact scl53 | exact scl26 | exact scl4 | exact scl5)); (case hv => exact rfl); (case h1 => exact rfl); (case ho => exact Nat.le_of_ble_eq_true rfl); (case hc => exact rfl)) | (apply Hp.stA; (case H => first | exact H | exact H.pull1 | exact H.pull2 | exact H.pull3 | exact H.pull4 | exact H.pull5 | exact H.pull6 | exact H.pull7); (case e => exact ⟨rfl, rfl, rfl, rfl⟩); (case S => exact (by first | exact agg34 | exact agg24 | exact agg31 | exact agg57 | exact agg58 | exact agg52)); (case hn => exact rfl); (case h1 => exact rfl); (case ho => exact Nat.le_of_ble_eq_true rfl); (case hc => exact rfl))); clear H; intro _ H; (try simp only [over, List.set_cons_zero, List.set_cons_succ] at H))))
        refine Hp.app elt32 (by omega) H.pull3 (by exact ⟨rfl, rfl, rfl, rfl⟩) (Blk.src (P := Go.Proofs.Try.prog) und32 (H.blk (.head _)) rfl rfl) (by omega) (by omega) ?_
        clear H
        intro a6 c6 w16 H
        rw [← attrCells_snoc A (_, _)] at H
        replace H := H.pull4
        (repeat (first | ((repeat apply Exists.intro); first | refine ⟨H.ld (by exact ⟨rfl, rfl, rfl, rfl⟩) (by first | exact scl3 | exact scl9 | exact scl32 | exact scl22 | exact scl53 | exact scl26 | exact scl4 | exact scl5) (by repeat first | exact .head _ | refine .tail _ ?_) rfl, ?_⟩ | refine ⟨H.ldA (by exact ⟨rfl, rfl, rfl, rfl⟩) (by first | exact agg34 | exact agg24 | exact agg31 | exact agg57 | exact agg58 | exact agg52) (by repeat first | exact .head _ | refine .tail _ ?_) rfl rfl, ?_⟩) | (intro _ _ hn; replace H := H.new (by exact ⟨rfl, rfl, rfl, rfl⟩) hn; clear hn) | ((first | (apply Hp.st; (case H => first | exact H | exact H.pull1 | exact H.pull2 | exact H.pull3 | exact H.pull4 | exact H.pull5 | exact H.pull6 | exact H.pull7); (case e => exact ⟨rfl, rfl, rfl, rfl⟩); (case S => exact (by first | exact scl3 | exact scl9 | exact scl32 | exact scl22 | exact scl53 | exact scl26 | exact scl4 | exact scl5)); (case hv => exact rfl); (case h1 => exact rfl); (case ho => exact Nat.le_of_ble_eq_true rfl); (case hc => exact rfl)) | (apply Hp.stA; (case H => first | exact H | exact H.pull1 | exact H.pull2 | exact H.pull3 | exact H.pull4 | exact H.pull5 | exact H.pull6 | exact H.pull7); (case e => exact ⟨rfl, rfl, rfl, rfl⟩); (case S => exact (by first | exact agg34 | exact agg24 | exact agg31 | exact agg57 | exact agg58 | exact agg52)); (case hn => exact rfl); (case h1 => exact rfl); (case ho => exact Nat.le_of_ble_eq_true rfl); (case hc => exact rfl))); clear H; intro _ H; (try simp only [over, List.set_cons_zero, List.set_cons_succ] at H))))
        refine ⟨inR64.2 (by omega), hnext (N - (k + 1)) _ _ (by omega) ⟨k + 1, _, _, _, a6, c6, rfl, by simp, by omega, ?_, ?_, hp2, ?_, H.pull1.del2.del2.pull2.pull1⟩⟩
        · simp [hA]
        · rw [← hp1]; simp
        · rw [← hp3]; simp only [Bool.or_assoc]
      · have hkN : k = N := by omega
        subst hkN
        rw [Nat.sub_self] at hp1 hp2 hp3
        simp only [parseA, List.append_nil, Bool.or_false] at hp1 hp2 hp3
        (repeat (first | ((repeat apply Exists.intro); first | refine ⟨H.ld (by exact ⟨rfl, rfl, rfl, rfl⟩) (by first | exact scl3 | exact scl9 | exact scl32 | exact scl22 | exact scl53 | exact scl26 | exact scl4 | exact scl5) (by repeat first | exact .head _ | refine .tail _ ?_) rfl, ?_⟩ | refine ⟨H.ldA (by exact ⟨rfl, rfl, rfl, rfl⟩) (by first | exact agg34 | exact agg24 | exact agg31 | exact agg57 | exact agg58 | exact agg52) (by repeat first | exact .head _ | refine .tail _ ?_) rfl rfl, ?_⟩) | (intro _ _ hn; replace H := H.new (by exact ⟨rfl, rfl, rfl, rfl⟩) hn; clear hn) | ((first | (apply Hp.st; (case H => first | exact H | exact H.pull1 | exact H.pull2 | exact H.pull3 | exact H.pull4 | exact H.pull5 | exact H.pull6 | exact H.pull7); (case e => exact ⟨rfl, rfl, rfl, rfl⟩); (case S => exact (by first | exact scl3 | exact scl9 | exact scl32 | exact scl22 | exact scl53 | exact scl26 | exact scl4 | exact scl5)); (case hv => exact rfl); (case h1 => exact rfl); (case ho => exact Nat.le_of_ble_eq_true rfl); (case hc => exact rfl)) | (apply Hp.stA; (case H => first | exact H | exact H.pull1 | exact H.pull2 | exact H.pull3 | exact H.pull4 | exact H.pull5 | exact H.pull6 | exact H.pull7); (case e => exact ⟨rfl, rfl, rfl, rfl⟩); (case S => exact (by first | exact agg34 | exact agg24 | exact agg31 | exact agg57 | exact agg58 | exact agg52)); (case hn => exact rfl); (case h1 => exact rfl); (case ho => exact Nat.le_of_ble_eq_true rfl); (case hc => exact rfl))); clear H; intro _ H; (try simp only [over, List.set_cons_zero, List.set_cons_succ] at H))))
        have hAt : AtS w' a' k p.r.attrs := ⟨by rw [← hp1, hA], by rw [← hp1]; exact (H.ownA (.head _)).cells⟩
        refine callV (encode_spec p.r a' k c' _ hAt (by omega)) ?_
        rintro e w13 ⟨a7, c7, rfl, H'⟩
        replace H := H.ext1 H'
        clear H'
        refine ⟨_, _, _, _, rfl, ?_⟩
        refine JoinP.mk (fun s w' => (s = true → ¬ ∃ r, decR l r) ∧ (s = false → rightP p.r ∧ (out p.r).length = l.length) ∧
          Hp [] w w' [.own 9 1 a7 (out p.r).length c7 ((out p.r).map sv), .own 58 2 a' k c' (attrCells A), rdr b2 f bs sh, .blk b3 [.int .i64 p.r.id, .int .i64 p.r.parent, .int .i64 p.r.kind, .int .i64 p.r.name, .int .i64 p.r.frm, .int .i64 p.r.to, .string p.r.text, .slice a' k c'] 34,
          .blk b [.int .i64 0, .int .i64 0, .int .i64 0, .int .i64 0, .int .i64 0, .int .i64 0, .string ⟨#[]⟩, .slice none 0 0] 34]) ?_ ?_
        · clear H
          rintro s w' ⟨hs1, hs2, H⟩
          refine br_mk (fun hs => ?_) (fun hs => ?_)
          · (repeat (first | ((repeat apply Exists.intro); first | refine ⟨H.ld (by exact ⟨rfl, rfl, rfl, rfl⟩) (by first | exact scl3 | exact scl9 | exact scl32 | exact scl22 | exact scl53 | exact scl26 | exact scl4 | exact scl5) (by repeat first | exact .head _ | refine .tail _ ?_) rfl, ?_⟩ | refine ⟨H.ldA (by exact ⟨rfl, rfl, rfl, rfl⟩) (by first | exact agg34 | exact agg24 | exact agg31 | exact agg57 | exact agg58 | exact agg52) (by repeat first | exact .head _ | refine .tail _ ?_) rfl rfl, ?_⟩) | (intro _ _ hn; replace H := H.new (by exact ⟨rfl, rfl, rfl, rfl⟩) hn; clear hn) | ((first | (apply Hp.st; (case H => first | exact H | exact H.pull1 | exact H.pull2 | exact H.pull3 | exact H.pull4 | exact H.pull5 | exact H.pull6 | exact H.pull7); (case e => exact ⟨rfl, rfl, rfl, rfl⟩); (case S => exact (by first | exact scl3 | exact scl9 | exact scl32 | exact scl22 | exact scl53 | exact scl26 | exact scl4 | exact scl5)); (case hv => exact rfl); (case h1 => exact rfl); (case ho => exact Nat.le_of_ble_eq_true rfl); (case hc => exact rfl)) | (apply Hp.stA; (case H => first | exact H | exact H.pull1 | exact H.pull2 | exact H.pull3 | exact H.pull4 | exact H.pull5 | exact H.pull6 | exact H.pull7); (case e => exact ⟨rfl, rfl, rfl, rfl⟩); (case S => exact (by first | exact agg34 | exact agg24 | exact agg31 | exact agg57 | exact agg58 | exact agg52)); (case hn => exact rfl); (case h1 => exact rfl); (case ho => exact Nat.le_of_ble_eq_true rfl); (case hc => exact rfl))); clear H; intro _ H; (try simp only [over, List.set_cons_zero, List.set_cons_succ] at H))))
            exact .inr ⟨hs1 hs, rfl, H.done⟩
          · obtain ⟨hr1, hr2⟩ := hs2 hs
            have hout : out p.r = pieces p.r := by rw [out, if_pos hr1]
            refine LoopP.mk (fun m s w' => ∃ j, m = l.length - j ∧ s = (j : Int) ∧ j ≤ l.length ∧ (out p.r).take j = l.take j ∧
              Hp [] w w' [.own 9 1 a7 (out p.r).length c7 ((out p.r).map sv), .own 58 2 a' k c' (attrCells A), rdr b2 f bs sh, .blk b3 [.int .i64 p.r.id, .int .i64 p.r.parent, .int .i64 p.r.kind, .int .i64 p.r.name, .int .i64 p.r.frm, .int .i64 p.r.to, .string p.r.text, .slice a' k c'] 34,
              .blk b [.int .i64 0, .int .i64 0, .int .i64 0, .int .i64 0, .int .i64 0, .int .i64 0, .string ⟨#[]⟩, .slice none 0 0] 34]) l.length ⟨0, rfl, rfl, Nat.zero_le _, by simp, H⟩ ?_
            clear H
            rintro m s w' next ⟨j, rfl, rfl, hj, hje, H⟩ hnext
            refine br_dec (fun h1 => ?_) (fun h1 => ?_)
            · have hjl : j < l.length := by omega
              have hq1 : (out p.r)[j]? = some (out p.r)[j] := List.getElem?_eq_getElem (by omega)
              have hq2 : l[j]? = some l[j] := List.getElem?_eq_getElem hjl
              have hO : StrS w'.drew a7 (out p.r).length (out p.r) := ⟨rfl, (H.drew.ownA (.head _)).cells⟩
              obtain ⟨ad7, had7, hld7⟩ := hO.ld hq1
              obtain ⟨ad, had, hld⟩ := (hS.chg H.drew.chg (by simp)).ld hq2
              refine onP_mk had7 ⟨⟨by omega, by omega⟩, _, hld7, onP_mk had ⟨⟨by omega, by omega⟩, _, hld, br_ndec (fun hne => ?_) (fun heq => ?_)⟩⟩
              · replace H := H.drew
                (repeat (first | ((repeat apply Exists.intro); first | refine ⟨H.ld (by exact ⟨rfl, rfl, rfl, rfl⟩) (by first | exact scl3 | exact scl9 | exact scl32 | exact scl22 | exact scl53 | exact scl26 | exact scl4 | exact scl5) (by repeat first | exact .head _ | refine .tail _ ?_) rfl, ?_⟩ | refine ⟨H.ldA (by exact ⟨rfl, rfl, rfl, rfl⟩) (by first | exact agg34 | exact agg24 | exact agg31 | exact agg57 | exact agg58 | exact agg52) (by repeat first | exact .head _ | refine .tail _ ?_) rfl rfl, ?_⟩) | (intro _ _ hn; replace H := H.new (by exact ⟨rfl, rfl, rfl, rfl⟩) hn; clear hn) | ((first | (apply Hp.st; (case H => first | exact H | exact H.pull1 | exact H.pull2 | exact H.pull3 | exact H.pull4 | exact H.pull5 | exact H.pull6 | exact H.pull7); (case e => exact ⟨rfl, rfl, rfl, rfl⟩); (case S => exact (by first | exact scl3 | exact scl9 | exact scl32 | exact scl22 | exact scl53 | exact scl26 | exact scl4 | exact scl5)); (case hv => exact rfl); (case h1 => exact rfl); (case ho => exact Nat.le_of_ble_eq_true rfl); (case hc => exact rfl)) | (apply Hp.stA; (case H => first | exact H | exact H.pull1 | exact H.pull2 | exact H.pull3 | exact H.pull4 | exact H.pull5 | exact H.pull6 | exact H.pull7); (case e => exact ⟨rfl, rfl, rfl, rfl⟩); (case S => exact (by first | exact agg34 | exact agg24 | exact agg31 | exact agg57 | exact agg58 | exact agg52)); (case hn => exact rfl); (case h1 => exact rfl); (case ho => exact Nat.le_of_ble_eq_true rfl); (case hc => exact rfl))); clear H; intro _ H; (try simp only [over, List.set_cons_zero, List.set_cons_succ] at H))))
                refine .inr ⟨?_, rfl, H.done⟩
                rintro ⟨r, hr⟩
                have h3 := hdec r hr
                have h4 : out p.r = l := by rw [h3, out, if_pos hr.1, hr.2]
                have h5 : (out p.r)[j]? = l[j]? := by rw [h4]
                have h6 := Option.some.inj (hq1.symm.trans (h5.trans hq2))
                exact hne (by rw [h6])
              · rw [mk_inj] at heq
                refine ⟨inR64.2 (by omega), hnext (l.length - (j + 1)) _ _ (by omega) ⟨j + 1, rfl, by simp, by omega, ?_, H.drew⟩⟩
                rw [List.take_succ_eq_append_getElem hjl, List.take_succ_eq_append_getElem (by omega), hje, heq]
            · have hjl : j = l.length := by omega
              subst hjl
              rw [← hr2, List.take_length, hr2, List.take_length] at hje
              (repeat (first | ((repeat apply Exists.intro); first | refine ⟨H.ld (by exact ⟨rfl, rfl, rfl, rfl⟩) (by first | exact scl3 | exact scl9 | exact scl32 | exact scl22 | exact scl53 | exact scl26 | exact scl4 | exact scl5) (by repeat first | exact .head _ | refine .tail _ ?_) rfl, ?_⟩ | refine ⟨H.ldA (by exact ⟨rfl, rfl, rfl, rfl⟩) (by first | exact agg34 | exact agg24 | exact agg31 | exact agg57 | exact agg58 | exact agg52) (by repeat first | exact .head _ | refine .tail _ ?_) rfl rfl, ?_⟩) | (intro _ _ hn; replace H := H.new (by exact ⟨rfl, rfl, rfl, rfl⟩) hn; clear hn) | ((first | (apply Hp.st; (case H => first | exact H | exact H.pull1 | exact H.pull2 | exact H.pull3 | exact H.pull4 | exact H.pull5 | exact H.pull6 | exact H.pull7); (case e => exact ⟨rfl, rfl, rfl, rfl⟩); (case S => exact (by first | exact scl3 | exact scl9 | exact scl32 | exact scl22 | exact scl53 | exact scl26 | exact scl4 | exact scl5)); (case hv => exact rfl); (case h1 => exact rfl); (case ho => exact Nat.le_of_ble_eq_true rfl); (case hc => exact rfl)) | (apply Hp.stA; (case H => first | exact H | exact H.pull1 | exact H.pull2 | exact H.pull3 | exact H.pull4 | exact H.pull5 | exact H.pull6 | exact H.pull7); (case e => exact ⟨rfl, rfl, rfl, rfl⟩); (case S => exact (by first | exact agg34 | exact agg24 | exact agg31 | exact agg57 | exact agg58 | exact agg52)); (case hn => exact rfl); (case h1 => exact rfl); (case ho => exact Nat.le_of_ble_eq_true rfl); (case hc => exact rfl))); clear H; intro _ H; (try simp only [over, List.set_cons_zero, List.set_cons_succ] at H))))
              refine .inl ⟨p.r, a', c', ⟨hr1, by rw [← hout]; exact hje⟩, ?_, ?_⟩
              · rw [← hp1, hA]; rfl
              · rw [← hp1, hA]
                exact H.pull2.done1
        · intro J hJ
          obtain ⟨hb2, ab, cb, hbk, hbc, hbl, hbf⟩ := rdr_p (H.ok _ (.tail _ (.tail _ (.head _))))
          have hno : (p.short = true ∨ p.rest ≠ [] ∨ ¬ rightP p.r ∨ (out p.r).length ≠ l.length) → ¬ ∃ r, decR l r := by
            rintro h ⟨r, hr⟩
            have h3 := hdec r hr
            have h4 : (out r) = l := by rw [out, if_pos hr.1, hr.2]
            rw [h3] at h
            rcases h with h | h | h | h
            · cases h
            · exact h rfl
            · exact h hr.1
            · exact h (by rw [h4])
          refine ⟨sh, hbk.ld scl4.agg rfl, br_mk (fun h1 => hJ _ _ ⟨fun _ => hno (.inl (by rw [← hp3, h1])), by simp, H⟩) (fun h1 => ⟨_, _, _, hbk.ld scl53.agg rfl, br_dec (fun h2 => hJ _ _ ⟨fun _ => hno (.inr (.inl ?_)), by simp, H⟩) (fun h2 => ?_)⟩)⟩
          · intro h3; rw [← hp2] at h3; rw [h3] at h2; simp at h2
          · refine br_ndec (fun h3 => hJ _ _ ⟨fun _ => hno (.inr (.inr (.inl ?_))), by simp, H⟩) (fun h3 => hJ _ _ ⟨fun h4 => hno (.inr (.inr (.inr ?_))), fun h4 => ⟨?_, ?_⟩, H⟩)
            · intro h4; rw [errOf, if_pos h4] at h3; exact h3 rfl
            · intro h5; simp [hlen, h5] at h4
            · refine Classical.byContradiction fun h5 => ?_
              rw [errOf, if_neg h5] at h3; cases h3
            · simp at h4; omega
  · replace H := H.ext0 H'
    clear H'
    refine ⟨none, 0, 0, false, rfl, br_true ?_⟩
    (repeat (first | ((repeat apply Exists.intro); first | refine ⟨H.ld (by exact ⟨rfl, rfl, rfl, rfl⟩) (by first | exact scl3 | exact scl9 | exact scl32 | exact scl22 | exact scl53 | exact scl26 | exact scl4 | exact scl5) (by repeat first | exact .head _ | refine .tail _ ?_) rfl, ?_⟩ | refine ⟨H.ldA (by exact ⟨rfl, rfl, rfl, rfl⟩) (by first | exact agg34 | exact agg24 | exact agg31 | exact agg57 | exact agg58 | exact agg52) (by repeat first | exact .head _ | refine .tail _ ?_) rfl rfl, ?_⟩) | (intro _ _ hn; replace H := H.new (by exact ⟨rfl, rfl, rfl, rfl⟩) hn; clear hn) | ((first | (apply Hp.st; (case H => first | exact H | exact H.pull1 | exact H.pull2 | exact H.pull3 | exact H.pull4 | exact H.pull5 | exact H.pull6 | exact H.pull7); (case e => exact ⟨rfl, rfl, rfl, rfl⟩); (case S => exact (by first | exact scl3 | exact scl9 | exact scl32 | exact scl22 | exact scl53 | exact scl26 | exact scl4 | exact scl5)); (case hv => exact rfl); (case h1 => exact rfl); (case ho => exact Nat.le_of_ble_eq_true rfl); (case hc => exact rfl)) | (apply Hp.stA; (case H => first | exact H | exact H.pull1 | exact H.pull2 | exact H.pull3 | exact H.pull4 | exact H.pull5 | exact H.pull6 | exact H.pull7); (case e => exact ⟨rfl, rfl, rfl, rfl⟩); (case S => exact (by first | exact agg34 | exact agg24 | exact agg31 | exact agg57 | exact agg58 | exact agg52)); (case hn => exact rfl); (case h1 => exact rfl); (case ho => exact Nat.le_of_ble_eq_true rfl); (case hc => exact rfl))); clear H; intro _ H; (try simp only [over, List.set_cons_zero, List.set_cons_succ] at H))))
    refine .inr ⟨?_, rfl, H.done⟩
    rintro ⟨r, hr⟩
    exact hbad (decR_join hr).1
end Go.Proofs.Ytcgaobfbgfefhaa
