/- Folio: the laws, but for the one of turned pieces. -/
import Derived.Test.YtcgaobfbgfefhaaFo
set_option linter.unusedVariables false
set_option linter.unusedSimpArgs false
namespace Go.Proofs.Ytcgaobfbgfefhaa
open Go Go.Vc

theorem folioHeads_law (s : ByteArray) (w : World) : Calls Go.Proofs.Try.prog 5 #[.string s] w fun e w' => e = .returned (.bool true) ∧ Hp [] w w' [] := by
  apply folioHeads.ok
  unfold folioHeads.vc
  refine callV (head_spec s w) ?_
  rintro e w1 ⟨rfl, H⟩
  obtain ⟨i, j, m, b, ev, _, _⟩ := headV_shape (headF s.data.toList)
  rw [ev]
  refine ⟨_, _, _, _, rfl, callV (rhead_spec s w1) ?_⟩
  rintro e w2 ⟨rfl, H'⟩
  replace H := H.ext0 H'
  rw [ev]
  refine ⟨_, _, _, _, rfl, callV (alive_spec _) ?_⟩
  rintro e w3 ⟨rfl, H'⟩
  replace H := H.ext0 H'
  refine ⟨_, rfl, br_true (br_dec (fun _ => br_dec (fun _ => br_dec (fun _ => ⟨by rw [beq_self_eq_true], H⟩) (fun h => absurd rfl h)) (fun h => absurd rfl h)) (fun h => absurd rfl h))⟩

theorem folioWrites_law (r : Rec) (a : Option Addr) (n c : Nat) (w : World) (hA : AtS w a n r.attrs) (hn : n * 24 ≤ 140737488355328) :
    Calls Go.Proofs.Try.prog 3 #[r.val a n c] w fun e w' => e = .returned (.bool true) ∧ Hp [] w w' [] := by
  apply folioWrites.ok
  unfold folioWrites.vc
  have H := Hp.start w
  have hmax : maxLen = 9223372036854775807 := by simp [maxLen]
  have hlen := hA.len
  (repeat (first | ((repeat apply Exists.intro); first | refine ⟨H.ld (by exact ⟨rfl, rfl, rfl, rfl⟩) (by first | exact scl3 | exact scl9 | exact scl22 | exact scl32) (by repeat first | exact .head _ | refine .tail _ ?_) rfl, ?_⟩ | refine ⟨H.ldA (by exact ⟨rfl, rfl, rfl, rfl⟩) (by first | exact agg24 | exact agg34 | exact agg52) (by repeat first | exact .head _ | refine .tail _ ?_) rfl rfl, ?_⟩) | (intro _ _ hn; replace H := H.new (by exact ⟨rfl, rfl, rfl, rfl⟩) hn; clear hn) | ((first | (apply Hp.st; (case H => first | exact H | exact H.pull1 | exact H.pull2 | exact H.pull3 | exact H.pull4 | exact H.pull5 | exact H.pull6 | exact H.pull7); (case e => exact ⟨rfl, rfl, rfl, rfl⟩); (case S => exact (by first | exact scl3 | exact scl9 | exact scl22 | exact scl32)); (case hv => exact rfl); (case h1 => exact rfl); (case ho => exact Nat.le_of_ble_eq_true rfl); (case hc => exact rfl)) | (apply Hp.stA; (case H => first | exact H | exact H.pull1 | exact H.pull2 | exact H.pull3 | exact H.pull4 | exact H.pull5 | exact H.pull6 | exact H.pull7); (case e => exact ⟨rfl, rfl, rfl, rfl⟩); (case S => exact (by first | exact agg24 | exact agg34 | exact agg52)); (case hn => exact rfl); (case h1 => exact rfl); (case ho => exact Nat.le_of_ble_eq_true rfl); (case hc => exact rfl))); clear H; intro _ H; (try simp only [over, List.set_cons_zero, List.set_cons_succ] at H))))
  refine br_dec (fun h => ?_) (fun h => ?_)
  · refine callV (alive_spec _) ?_
    rintro _ _ ⟨rfl, H'⟩; replace H := H.ext0 H'
    exact ⟨_, rfl, rfl, H.done⟩
  (repeat (first | ((repeat apply Exists.intro); first | refine ⟨H.ld (by exact ⟨rfl, rfl, rfl, rfl⟩) (by first | exact scl3 | exact scl9 | exact scl22 | exact scl32) (by repeat first | exact .head _ | refine .tail _ ?_) rfl, ?_⟩ | refine ⟨H.ldA (by exact ⟨rfl, rfl, rfl, rfl⟩) (by first | exact agg24 | exact agg34 | exact agg52) (by repeat first | exact .head _ | refine .tail _ ?_) rfl rfl, ?_⟩) | (intro _ _ hn; replace H := H.new (by exact ⟨rfl, rfl, rfl, rfl⟩) hn; clear hn) | ((first | (apply Hp.st; (case H => first | exact H | exact H.pull1 | exact H.pull2 | exact H.pull3 | exact H.pull4 | exact H.pull5 | exact H.pull6 | exact H.pull7); (case e => exact ⟨rfl, rfl, rfl, rfl⟩); (case S => exact (by first | exact scl3 | exact scl9 | exact scl22 | exact scl32)); (case hv => exact rfl); (case h1 => exact rfl); (case ho => exact Nat.le_of_ble_eq_true rfl); (case hc => exact rfl)) | (apply Hp.stA; (case H => first | exact H | exact H.pull1 | exact H.pull2 | exact H.pull3 | exact H.pull4 | exact H.pull5 | exact H.pull6 | exact H.pull7); (case e => exact ⟨rfl, rfl, rfl, rfl⟩); (case S => exact (by first | exact agg24 | exact agg34 | exact agg52)); (case hn => exact rfl); (case h1 => exact rfl); (case ho => exact Nat.le_of_ble_eq_true rfl); (case hc => exact rfl))); clear H; intro _ H; (try simp only [over, List.set_cons_zero, List.set_cons_succ] at H))))
  refine callV (own_spec r a n c _ (hA.chg H.chg (by simp)) hn) ?_
  rintro e w2 ⟨a1, c1, rfl, H'⟩; replace H := H.ext1 H'; clear H'
  refine ⟨_, _, _, _, _, _, _, _, _, _, rfl, ?_⟩
  refine callV (encode_spec r a1 n c1 _ (AtS.own (H.ownA (.head _)) hlen) (by omega)) ?_
  rintro e w3 ⟨a2, c2, rfl, H'⟩; replace H := H.ext1 H'; clear H'
  refine ⟨_, _, _, _, rfl, ?_⟩
  (repeat (first | ((repeat apply Exists.intro); first | refine ⟨H.ld (by exact ⟨rfl, rfl, rfl, rfl⟩) (by first | exact scl3 | exact scl9 | exact scl22 | exact scl32) (by repeat first | exact .head _ | refine .tail _ ?_) rfl, ?_⟩ | refine ⟨H.ldA (by exact ⟨rfl, rfl, rfl, rfl⟩) (by first | exact agg24 | exact agg34 | exact agg52) (by repeat first | exact .head _ | refine .tail _ ?_) rfl rfl, ?_⟩) | (intro _ _ hn; replace H := H.new (by exact ⟨rfl, rfl, rfl, rfl⟩) hn; clear hn) | ((first | (apply Hp.st; (case H => first | exact H | exact H.pull1 | exact H.pull2 | exact H.pull3 | exact H.pull4 | exact H.pull5 | exact H.pull6 | exact H.pull7); (case e => exact ⟨rfl, rfl, rfl, rfl⟩); (case S => exact (by first | exact scl3 | exact scl9 | exact scl22 | exact scl32)); (case hv => exact rfl); (case h1 => exact rfl); (case ho => exact Nat.le_of_ble_eq_true rfl); (case hc => exact rfl)) | (apply Hp.stA; (case H => first | exact H | exact H.pull1 | exact H.pull2 | exact H.pull3 | exact H.pull4 | exact H.pull5 | exact H.pull6 | exact H.pull7); (case e => exact ⟨rfl, rfl, rfl, rfl⟩); (case S => exact (by first | exact agg24 | exact agg34 | exact agg52)); (case hn => exact rfl); (case h1 => exact rfl); (case ho => exact Nat.le_of_ble_eq_true rfl); (case hc => exact rfl))); clear H; intro _ H; (try simp only [over, List.set_cons_zero, List.set_cons_succ] at H))))
  refine callV (rencode_spec r a n c _ (hA.chg H.chg (by simp)) (by omega)) ?_
  rintro e w4 ⟨a3, c3, rfl, H'⟩; replace H := H.ext1 H'; clear H'
  refine ⟨_, _, _, _, rfl, ?_⟩
  refine callV (alive_spec _) ?_
  (rintro _ _ ⟨rfl, H'⟩; (first | replace H := H.ext0 H' | replace H := H.drew.ext0 H' | replace H := H.drew.drew.ext0 H'); clear H'; refine ⟨_, rfl, ?_⟩)
  refine br_true ?_
  (repeat (first | ((repeat apply Exists.intro); first | refine ⟨H.ld (by exact ⟨rfl, rfl, rfl, rfl⟩) (by first | exact scl3 | exact scl9 | exact scl22 | exact scl32) (by repeat first | exact .head _ | refine .tail _ ?_) rfl, ?_⟩ | refine ⟨H.ldA (by exact ⟨rfl, rfl, rfl, rfl⟩) (by first | exact agg24 | exact agg34 | exact agg52) (by repeat first | exact .head _ | refine .tail _ ?_) rfl rfl, ?_⟩) | (intro _ _ hn; replace H := H.new (by exact ⟨rfl, rfl, rfl, rfl⟩) hn; clear hn) | ((first | (apply Hp.st; (case H => first | exact H | exact H.pull1 | exact H.pull2 | exact H.pull3 | exact H.pull4 | exact H.pull5 | exact H.pull6 | exact H.pull7); (case e => exact ⟨rfl, rfl, rfl, rfl⟩); (case S => exact (by first | exact scl3 | exact scl9 | exact scl22 | exact scl32)); (case hv => exact rfl); (case h1 => exact rfl); (case ho => exact Nat.le_of_ble_eq_true rfl); (case hc => exact rfl)) | (apply Hp.stA; (case H => first | exact H | exact H.pull1 | exact H.pull2 | exact H.pull3 | exact H.pull4 | exact H.pull5 | exact H.pull6 | exact H.pull7); (case e => exact ⟨rfl, rfl, rfl, rfl⟩); (case S => exact (by first | exact agg24 | exact agg34 | exact agg52)); (case hn => exact rfl); (case h1 => exact rfl); (case ho => exact Nat.le_of_ble_eq_true rfl); (case hc => exact rfl))); clear H; intro _ H; (try simp only [over, List.set_cons_zero, List.set_cons_succ] at H))))
  refine callV (own_spec r a n c _ (hA.chg H.chg (by simp)) hn) ?_
  rintro e w5 ⟨a4, c4, rfl, H'⟩; replace H := H.ext1 H'; clear H'
  refine ⟨_, _, _, _, _, _, _, _, _, _, rfl, ?_⟩
  (repeat (first | ((repeat apply Exists.intro); first | refine ⟨H.ld (by exact ⟨rfl, rfl, rfl, rfl⟩) (by first | exact scl3 | exact scl9 | exact scl22 | exact scl32) (by repeat first | exact .head _ | refine .tail _ ?_) rfl, ?_⟩ | refine ⟨H.ldA (by exact ⟨rfl, rfl, rfl, rfl⟩) (by first | exact agg24 | exact agg34 | exact agg52) (by repeat first | exact .head _ | refine .tail _ ?_) rfl rfl, ?_⟩) | (intro _ _ hn; replace H := H.new (by exact ⟨rfl, rfl, rfl, rfl⟩) hn; clear hn) | ((first | (apply Hp.st; (case H => first | exact H | exact H.pull1 | exact H.pull2 | exact H.pull3 | exact H.pull4 | exact H.pull5 | exact H.pull6 | exact H.pull7); (case e => exact ⟨rfl, rfl, rfl, rfl⟩); (case S => exact (by first | exact scl3 | exact scl9 | exact scl22 | exact scl32)); (case hv => exact rfl); (case h1 => exact rfl); (case ho => exact Nat.le_of_ble_eq_true rfl); (case hc => exact rfl)) | (apply Hp.stA; (case H => first | exact H | exact H.pull1 | exact H.pull2 | exact H.pull3 | exact H.pull4 | exact H.pull5 | exact H.pull6 | exact H.pull7); (case e => exact ⟨rfl, rfl, rfl, rfl⟩); (case S => exact (by first | exact agg24 | exact agg34 | exact agg52)); (case hn => exact rfl); (case h1 => exact rfl); (case ho => exact Nat.le_of_ble_eq_true rfl); (case hc => exact rfl))); clear H; intro _ H; (try simp only [over, List.set_cons_zero, List.set_cons_succ] at H))))
  refine callV (right_spec r a4 n c4 _ (AtS.own (H.ownA (.head _)) hlen) (by omega)) ?_
  (rintro _ _ ⟨rfl, H'⟩; (first | replace H := H.ext0 H' | replace H := H.drew.ext0 H' | replace H := H.drew.drew.ext0 H'); clear H'; refine ⟨_, rfl, ?_⟩)
  (repeat (first | ((repeat apply Exists.intro); first | refine ⟨H.ld (by exact ⟨rfl, rfl, rfl, rfl⟩) (by first | exact scl3 | exact scl9 | exact scl22 | exact scl32) (by repeat first | exact .head _ | refine .tail _ ?_) rfl, ?_⟩ | refine ⟨H.ldA (by exact ⟨rfl, rfl, rfl, rfl⟩) (by first | exact agg24 | exact agg34 | exact agg52) (by repeat first | exact .head _ | refine .tail _ ?_) rfl rfl, ?_⟩) | (intro _ _ hn; replace H := H.new (by exact ⟨rfl, rfl, rfl, rfl⟩) hn; clear hn) | ((first | (apply Hp.st; (case H => first | exact H | exact H.pull1 | exact H.pull2 | exact H.pull3 | exact H.pull4 | exact H.pull5 | exact H.pull6 | exact H.pull7); (case e => exact ⟨rfl, rfl, rfl, rfl⟩); (case S => exact (by first | exact scl3 | exact scl9 | exact scl22 | exact scl32)); (case hv => exact rfl); (case h1 => exact rfl); (case ho => exact Nat.le_of_ble_eq_true rfl); (case hc => exact rfl)) | (apply Hp.stA; (case H => first | exact H | exact H.pull1 | exact H.pull2 | exact H.pull3 | exact H.pull4 | exact H.pull5 | exact H.pull6 | exact H.pull7); (case e => exact ⟨rfl, rfl, rfl, rfl⟩); (case S => exact (by first | exact agg24 | exact agg34 | exact agg52)); (case hn => exact rfl); (case h1 => exact rfl); (case ho => exact Nat.le_of_ble_eq_true rfl); (case hc => exact rfl))); clear H; intro _ H; (try simp only [over, List.set_cons_zero, List.set_cons_succ] at H))))
  refine callV (rright_spec r a n c _ (hA.chg H.chg (by simp)) (by omega)) ?_
  (rintro _ _ ⟨rfl, H'⟩; (first | replace H := H.ext0 H' | replace H := H.drew.ext0 H' | replace H := H.drew.drew.ext0 H'); clear H'; refine ⟨_, rfl, ?_⟩)
  rw [beq_self_eq_true]
  refine br_true (br_dec (fun _ => ?_) (fun h => absurd rfl h))
  have h1 : (out r).length ≤ maxLen := by
    have h34 : ∀ k, k ≤ 30110 → manyOf k ≤ 34 := fun k hk => by unfold manyOf; omega
    by_cases hr : rightP r
    · rw [out, if_pos hr, pieces_length]; have := h34 _ (whole_small hr).2.1; omega
    · rw [out, if_neg hr]; simp
  refine callV (same_pieces_spec (out r) (out r) a2 a3 _ _ c2 c3 _ (out_strS (H.ownA (by repeat first | exact .head _ | refine .tail _ ?_))) (out_strS (H.ownA (by repeat first | exact .head _ | refine .tail _ ?_))) h1) ?_
  rintro _ _ ⟨rfl, H'⟩; replace H := H.ext0 H'
  exact ⟨_, rfl, by simp, H.done⟩

theorem folioReads_law (l : List (List UInt8)) (a : Option Addr) (n c : Nat) (w : World) (hS : StrS w a n l) (hn : n ≤ maxLen) (hbig : ∀ s ∈ l, s.length ≤ 140737488355328) :
    Calls Go.Proofs.Try.prog 4 #[.slice a n c] w fun e w' => e = .returned (.bool true) ∧ Hp [] w w' [] := by
  apply folioReads.ok
  unfold folioReads.vc
  have H := Hp.start w
  have hmax : maxLen = 9223372036854775807 := by simp [maxLen]
  refine br_dec (fun h => ?_) (fun h => ?_)
  · refine callV (alive_spec _) ?_
    rintro _ _ ⟨rfl, H'⟩; replace H := H.ext0 H'
    exact ⟨_, rfl, rfl, H.done⟩
  refine callV (decode_u l a n c _ (hS.chg H.chg (by simp)) hn) ?_
  rintro e w2 ⟨q, a1, c1, er, rfl, hq, H'⟩; replace H := H.ext1 H'; clear H'
  refine ⟨_, _, _, _, _, _, _, _, _, _, _, rfl, ?_⟩
  (repeat (first | ((repeat apply Exists.intro); first | refine ⟨H.ld (by exact ⟨rfl, rfl, rfl, rfl⟩) (by first | exact scl3 | exact scl9 | exact scl22 | exact scl32) (by repeat first | exact .head _ | refine .tail _ ?_) rfl, ?_⟩ | refine ⟨H.ldA (by exact ⟨rfl, rfl, rfl, rfl⟩) (by first | exact agg24 | exact agg34 | exact agg52) (by repeat first | exact .head _ | refine .tail _ ?_) rfl rfl, ?_⟩) | (intro _ _ hn; replace H := H.new (by exact ⟨rfl, rfl, rfl, rfl⟩) hn; clear hn) | ((first | (apply Hp.st; (case H => first | exact H | exact H.pull1 | exact H.pull2 | exact H.pull3 | exact H.pull4 | exact H.pull5 | exact H.pull6 | exact H.pull7); (case e => exact ⟨rfl, rfl, rfl, rfl⟩); (case S => exact (by first | exact scl3 | exact scl9 | exact scl22 | exact scl32)); (case hv => exact rfl); (case h1 => exact rfl); (case ho => exact Nat.le_of_ble_eq_true rfl); (case hc => exact rfl)) | (apply Hp.stA; (case H => first | exact H | exact H.pull1 | exact H.pull2 | exact H.pull3 | exact H.pull4 | exact H.pull5 | exact H.pull6 | exact H.pull7); (case e => exact ⟨rfl, rfl, rfl, rfl⟩); (case S => exact (by first | exact agg24 | exact agg34 | exact agg52)); (case hn => exact rfl); (case h1 => exact rfl); (case ho => exact Nat.le_of_ble_eq_true rfl); (case hc => exact rfl))); clear H; intro _ H; (try simp only [over, List.set_cons_zero, List.set_cons_succ] at H))))
  refine callV (rdecode_u l a n c _ (hS.chg H.chg (by simp)) (by omega) hbig) ?_
  rintro e w3 ⟨q2, a2, c2, er2, rfl, hq2, H'⟩; replace H := H.ext1 H'; clear H'
  obtain ⟨rfl, rfl⟩ := dec_same hq hq2
  refine ⟨_, _, _, _, _, _, _, _, _, _, _, rfl, ?_⟩
  (repeat (first | ((repeat apply Exists.intro); first | refine ⟨H.ld (by exact ⟨rfl, rfl, rfl, rfl⟩) (by first | exact scl3 | exact scl9 | exact scl22 | exact scl32) (by repeat first | exact .head _ | refine .tail _ ?_) rfl, ?_⟩ | refine ⟨H.ldA (by exact ⟨rfl, rfl, rfl, rfl⟩) (by first | exact agg24 | exact agg34 | exact agg52) (by repeat first | exact .head _ | refine .tail _ ?_) rfl rfl, ?_⟩) | (intro _ _ hn; replace H := H.new (by exact ⟨rfl, rfl, rfl, rfl⟩) hn; clear hn) | ((first | (apply Hp.st; (case H => first | exact H | exact H.pull1 | exact H.pull2 | exact H.pull3 | exact H.pull4 | exact H.pull5 | exact H.pull6 | exact H.pull7); (case e => exact ⟨rfl, rfl, rfl, rfl⟩); (case S => exact (by first | exact scl3 | exact scl9 | exact scl22 | exact scl32)); (case hv => exact rfl); (case h1 => exact rfl); (case ho => exact Nat.le_of_ble_eq_true rfl); (case hc => exact rfl)) | (apply Hp.stA; (case H => first | exact H | exact H.pull1 | exact H.pull2 | exact H.pull3 | exact H.pull4 | exact H.pull5 | exact H.pull6 | exact H.pull7); (case e => exact ⟨rfl, rfl, rfl, rfl⟩); (case S => exact (by first | exact agg24 | exact agg34 | exact agg52)); (case hn => exact rfl); (case h1 => exact rfl); (case ho => exact Nat.le_of_ble_eq_true rfl); (case hc => exact rfl))); clear H; intro _ H; (try simp only [over, List.set_cons_zero, List.set_cons_succ] at H))))
  refine callV (alive_spec _) ?_
  (rintro _ _ ⟨rfl, H'⟩; (first | replace H := H.ext0 H' | replace H := H.drew.ext0 H' | replace H := H.drew.drew.ext0 H'); clear H'; refine ⟨_, rfl, ?_⟩)
  refine br_true (br_dec (fun _ => ?_) (fun h => absurd rfl h))
  (repeat (first | ((repeat apply Exists.intro); first | refine ⟨H.ld (by exact ⟨rfl, rfl, rfl, rfl⟩) (by first | exact scl3 | exact scl9 | exact scl22 | exact scl32) (by repeat first | exact .head _ | refine .tail _ ?_) rfl, ?_⟩ | refine ⟨H.ldA (by exact ⟨rfl, rfl, rfl, rfl⟩) (by first | exact agg24 | exact agg34 | exact agg52) (by repeat first | exact .head _ | refine .tail _ ?_) rfl rfl, ?_⟩) | (intro _ _ hn; replace H := H.new (by exact ⟨rfl, rfl, rfl, rfl⟩) hn; clear hn) | ((first | (apply Hp.st; (case H => first | exact H | exact H.pull1 | exact H.pull2 | exact H.pull3 | exact H.pull4 | exact H.pull5 | exact H.pull6 | exact H.pull7); (case e => exact ⟨rfl, rfl, rfl, rfl⟩); (case S => exact (by first | exact scl3 | exact scl9 | exact scl22 | exact scl32)); (case hv => exact rfl); (case h1 => exact rfl); (case ho => exact Nat.le_of_ble_eq_true rfl); (case hc => exact rfl)) | (apply Hp.stA; (case H => first | exact H | exact H.pull1 | exact H.pull2 | exact H.pull3 | exact H.pull4 | exact H.pull5 | exact H.pull6 | exact H.pull7); (case e => exact ⟨rfl, rfl, rfl, rfl⟩); (case S => exact (by first | exact agg24 | exact agg34 | exact agg52)); (case hn => exact rfl); (case h1 => exact rfl); (case ho => exact Nat.le_of_ble_eq_true rfl); (case hc => exact rfl))); clear H; intro _ H; (try simp only [over, List.set_cons_zero, List.set_cons_succ] at H))))
  have h20 := dec_len hq
  refine callV (plain_spec q a1 q.attrs.length c1 _ (AtS.own (H.ownA (by repeat first | exact .head _ | refine .tail _ ?_)) rfl) (by omega)) ?_
  rintro e w5 ⟨a4, c4, rfl, H'⟩; replace H := H.ext1 H'; clear H'
  refine ⟨_, _, _, _, _, _, _, _, _, _, rfl, ?_⟩
  (repeat (first | ((repeat apply Exists.intro); first | refine ⟨H.ld (by exact ⟨rfl, rfl, rfl, rfl⟩) (by first | exact scl3 | exact scl9 | exact scl22 | exact scl32) (by repeat first | exact .head _ | refine .tail _ ?_) rfl, ?_⟩ | refine ⟨H.ldA (by exact ⟨rfl, rfl, rfl, rfl⟩) (by first | exact agg24 | exact agg34 | exact agg52) (by repeat first | exact .head _ | refine .tail _ ?_) rfl rfl, ?_⟩) | (intro _ _ hn; replace H := H.new (by exact ⟨rfl, rfl, rfl, rfl⟩) hn; clear hn) | ((first | (apply Hp.st; (case H => first | exact H | exact H.pull1 | exact H.pull2 | exact H.pull3 | exact H.pull4 | exact H.pull5 | exact H.pull6 | exact H.pull7); (case e => exact ⟨rfl, rfl, rfl, rfl⟩); (case S => exact (by first | exact scl3 | exact scl9 | exact scl22 | exact scl32)); (case hv => exact rfl); (case h1 => exact rfl); (case ho => exact Nat.le_of_ble_eq_true rfl); (case hc => exact rfl)) | (apply Hp.stA; (case H => first | exact H | exact H.pull1 | exact H.pull2 | exact H.pull3 | exact H.pull4 | exact H.pull5 | exact H.pull6 | exact H.pull7); (case e => exact ⟨rfl, rfl, rfl, rfl⟩); (case S => exact (by first | exact agg24 | exact agg34 | exact agg52)); (case hn => exact rfl); (case h1 => exact rfl); (case ho => exact Nat.le_of_ble_eq_true rfl); (case hc => exact rfl))); clear H; intro _ H; (try simp only [over, List.set_cons_zero, List.set_cons_succ] at H))))
  refine callV (rsame_spec q q a4 a2 _ c4 _ c2 _ (AtS.own (H.ownA (.head _)) rfl) (AtS.own (H.ownA (by repeat first | exact .head _ | refine .tail _ ?_)) rfl) (by omega)) ?_
  rintro e w6 ⟨⟨rfl, _⟩ | ⟨rfl, h⟩, H'⟩
  · exact ⟨_, rfl, rfl, (H.ext0 H').done⟩
  · exact absurd rfl h

theorem err_cases (r : Rec) : (rightP r ∧ errOf (rightP r) = 0 ∧ out r = pieces r) ∨ (¬ rightP r ∧ errOf (rightP r) = 160 ∧ out r = []) := by
  by_cases h : rightP r
  · exact .inl ⟨h, by rw [errOf, if_pos h], by rw [out, if_pos h]⟩
  · exact .inr ⟨h, by rw [errOf, if_neg h], by rw [out, if_neg h]⟩
theorem out_len (r : Rec) : (out r).length ≤ 34 := by
  have h34 : ∀ k, k ≤ 30110 → manyOf k ≤ 34 := fun k hk => by unfold manyOf; omega
  rcases err_cases r with ⟨h, _, e⟩ | ⟨_, _, e⟩
  · rw [e, pieces_length]; exact h34 _ (whole_small h).2.1
  · rw [e]; simp
theorem piece_of {r : Rec} {k : Nat} {s : List UInt8} (h : (pieces r)[k]? = some s) : k < manyOf (wholeB r).length ∧ s = pieceB r k := by
  have hk : k < manyOf (wholeB r).length := by
    have := (List.getElem?_eq_some_iff.1 h).1
    rwa [pieces_length] at this
  refine ⟨hk, ?_⟩
  simp [pieces, hk] at h; exact h.symm

theorem folioBack_law (r : Rec) (a : Option Addr) (n c : Nat) (w : World) (hA : AtS w a n r.attrs) (hn : n * 24 ≤ 140737488355328) :
    Calls Go.Proofs.Try.prog 6 #[r.val a n c] w fun e w' => e = .returned (.bool true) ∧ Hp [] w w' [] := by
  apply folioBack.ok
  unfold folioBack.vc
  have H := Hp.start w
  have hmax : maxLen = 9223372036854775807 := by simp [maxLen]
  have hlen := hA.len
  (repeat (first | ((repeat apply Exists.intro); first | refine ⟨H.ld (by exact ⟨rfl, rfl, rfl, rfl⟩) (by first | exact scl3 | exact scl9 | exact scl22 | exact scl32) (by repeat first | exact .head _ | refine .tail _ ?_) rfl, ?_⟩ | refine ⟨H.ldA (by exact ⟨rfl, rfl, rfl, rfl⟩) (by first | exact agg24 | exact agg34 | exact agg52) (by repeat first | exact .head _ | refine .tail _ ?_) rfl rfl, ?_⟩) | (intro _ _ hn; replace H := H.new (by exact ⟨rfl, rfl, rfl, rfl⟩) hn; clear hn) | ((first | (apply Hp.st; (case H => first | exact H | exact H.pull1 | exact H.pull2 | exact H.pull3 | exact H.pull4 | exact H.pull5 | exact H.pull6 | exact H.pull7); (case e => exact ⟨rfl, rfl, rfl, rfl⟩); (case S => exact (by first | exact scl3 | exact scl9 | exact scl22 | exact scl32)); (case hv => exact rfl); (case h1 => exact rfl); (case ho => exact Nat.le_of_ble_eq_true rfl); (case hc => exact rfl)) | (apply Hp.stA; (case H => first | exact H | exact H.pull1 | exact H.pull2 | exact H.pull3 | exact H.pull4 | exact H.pull5 | exact H.pull6 | exact H.pull7); (case e => exact ⟨rfl, rfl, rfl, rfl⟩); (case S => exact (by first | exact agg24 | exact agg34 | exact agg52)); (case hn => exact rfl); (case h1 => exact rfl); (case ho => exact Nat.le_of_ble_eq_true rfl); (case hc => exact rfl))); clear H; intro _ H; (try simp only [over, List.set_cons_zero, List.set_cons_succ] at H))))
  rename_i b _
  refine callV (own_spec r a n c _ (hA.chg H.chg (by simp)) hn) ?_
  rintro e w2 ⟨a1, c1, rfl, H'⟩; replace H := H.ext1 H'; clear H'
  refine ⟨_, _, _, _, _, _, _, _, _, _, rfl, ?_⟩
  refine callV (encode_spec r a1 n c1 _ (AtS.own (H.ownA (.head _)) hlen) (by omega)) ?_
  rintro e w3 ⟨a2, c2, rfl, H'⟩; replace H := H.ext1 H'; clear H'
  refine ⟨_, _, _, _, rfl, ?_⟩
  have hol := out_len r
  rcases err_cases r with ⟨hr, he, ho⟩ | ⟨hr, he, ho⟩
  rotate_left
  · rw [he, ho]
    refine br_ndec (fun _ => ?_) (fun h => absurd h (by omega))
    refine callV (alive_spec _) ?_
    (rintro _ _ ⟨rfl, H'⟩; (first | replace H := H.ext0 H' | replace H := H.drew.ext0 H' | replace H := H.drew.drew.ext0 H'); clear H'; refine ⟨_, rfl, ?_⟩)
    exact br_true ⟨rfl, H.done⟩
  rw [he]
  refine br_ndec (fun h => absurd rfl h) (fun _ => ?_)
  have hdec : decR (out r) r := ⟨hr, ho.symm⟩
  refine LoopP.mk (fun m s w' => ∃ k : Nat, m = (out r).length - k ∧ s = (k : Int) ∧ k ≤ (out r).length ∧ Hp [] w w' [.own 9 1 a2 (out r).length c2 ((out r).map sv), .own 58 2 a1 n c1 (attrCells r.attrs), .blk b [.int .i64 r.id, .int .i64 r.parent, .int .i64 r.kind, .int .i64 r.name, .int .i64 r.frm, .int .i64 r.to, .string r.text, .slice a n c] 24]) (out r).length ⟨0, rfl, rfl, Nat.zero_le _, H⟩ ?_
  clear H
  rintro m s w' next ⟨k, rfl, rfl, hk, H⟩ hnext
  refine br_dec (fun h => ?_) (fun h => ?_)
  · have hkl : k < (out r).length := by omega
    have hp : (out r)[k]? = some (out r)[k] := List.getElem?_eq_getElem hkl
    obtain ⟨ad, had, hld⟩ := (out_strS (H.ownA (.head _))).ld hp
    refine onP_mk had ⟨⟨by omega, h⟩, _, hld, callV (head_spec _ _) ?_⟩
    rintro e w4 ⟨rfl, H'⟩; replace H := H.ext0 H'; clear H'
    have hpc : (pieces r)[k]? = some (out r)[k] := by rw [← ho]; exact hp
    obtain ⟨h1, h2⟩ := piece_of hpc
    have hlp : (pieceB r k).length ≤ 906 := by rw [piece_len]; omega
    have hm : manyOf (wholeB r).length = (out r).length := by rw [ho, pieces_length]
    have hid := hr.1
    have hdl : (ByteArray.mk (pieceB r k).toArray).data.toList = pieceB r k := by simp
    rw [h2, hdl, head_piece hr h1, hm]
    refine ⟨_, _, _, _, rfl, br_not (fun h => by cases h) (fun _ => ?_)⟩
    (repeat (first | ((repeat apply Exists.intro); first | refine ⟨H.ld (by exact ⟨rfl, rfl, rfl, rfl⟩) (by first | exact scl3 | exact scl9 | exact scl22 | exact scl32) (by repeat first | exact .head _ | refine .tail _ ?_) rfl, ?_⟩ | refine ⟨H.ldA (by exact ⟨rfl, rfl, rfl, rfl⟩) (by first | exact agg24 | exact agg34 | exact agg52) (by repeat first | exact .head _ | refine .tail _ ?_) rfl rfl, ?_⟩) | (intro _ _ hn; replace H := H.new (by exact ⟨rfl, rfl, rfl, rfl⟩) hn; clear hn) | ((first | (apply Hp.st; (case H => first | exact H | exact H.pull1 | exact H.pull2 | exact H.pull3 | exact H.pull4 | exact H.pull5 | exact H.pull6 | exact H.pull7); (case e => exact ⟨rfl, rfl, rfl, rfl⟩); (case S => exact (by first | exact scl3 | exact scl9 | exact scl22 | exact scl32)); (case hv => exact rfl); (case h1 => exact rfl); (case ho => exact Nat.le_of_ble_eq_true rfl); (case hc => exact rfl)) | (apply Hp.stA; (case H => first | exact H | exact H.pull1 | exact H.pull2 | exact H.pull3 | exact H.pull4 | exact H.pull5 | exact H.pull6 | exact H.pull7); (case e => exact ⟨rfl, rfl, rfl, rfl⟩); (case S => exact (by first | exact agg24 | exact agg34 | exact agg52)); (case hn => exact rfl); (case h1 => exact rfl); (case ho => exact Nat.le_of_ble_eq_true rfl); (case hc => exact rfl))); clear H; intro _ H; (try simp only [over, List.set_cons_zero, List.set_cons_succ] at H))))
    refine br_ndec (fun h => absurd (by omega) h) (fun _ => br_ndec (fun h => absurd rfl h) (fun _ => br_ndec (fun h => absurd rfl h) (fun _ => br_dec (fun h => ?_) (fun _ => ?_))))
    · rw [mk_size] at h; omega
    · exact ⟨inR64.2 (by omega), hnext ((out r).length - (k + 1)) _ _ (by omega) ⟨k + 1, rfl, by simp, by omega, H⟩⟩
  refine callV (decode_u (out r) a2 _ c2 _ (out_strS (H.ownA (.head _))) (by omega)) ?_
  rintro e w4 ⟨q, a3, c3, er, rfl, hq, H'⟩; replace H := H.ext1 H'; clear H'
  have hq1 : q = r ∧ er = 0 := by
    rcases hq with ⟨h1, h2⟩ | ⟨h1, _⟩
    · exact ⟨decR_one h1 hdec, h2⟩
    · exact absurd ⟨_, hdec⟩ h1
  obtain ⟨rfl, rfl⟩ := hq1
  have h20 := dec_len hq
  refine ⟨_, _, _, _, _, _, _, _, _, _, _, rfl, ?_⟩
  (repeat (first | ((repeat apply Exists.intro); first | refine ⟨H.ld (by exact ⟨rfl, rfl, rfl, rfl⟩) (by first | exact scl3 | exact scl9 | exact scl22 | exact scl32) (by repeat first | exact .head _ | refine .tail _ ?_) rfl, ?_⟩ | refine ⟨H.ldA (by exact ⟨rfl, rfl, rfl, rfl⟩) (by first | exact agg24 | exact agg34 | exact agg52) (by repeat first | exact .head _ | refine .tail _ ?_) rfl rfl, ?_⟩) | (intro _ _ hn; replace H := H.new (by exact ⟨rfl, rfl, rfl, rfl⟩) hn; clear hn) | ((first | (apply Hp.st; (case H => first | exact H | exact H.pull1 | exact H.pull2 | exact H.pull3 | exact H.pull4 | exact H.pull5 | exact H.pull6 | exact H.pull7); (case e => exact ⟨rfl, rfl, rfl, rfl⟩); (case S => exact (by first | exact scl3 | exact scl9 | exact scl22 | exact scl32)); (case hv => exact rfl); (case h1 => exact rfl); (case ho => exact Nat.le_of_ble_eq_true rfl); (case hc => exact rfl)) | (apply Hp.stA; (case H => first | exact H | exact H.pull1 | exact H.pull2 | exact H.pull3 | exact H.pull4 | exact H.pull5 | exact H.pull6 | exact H.pull7); (case e => exact ⟨rfl, rfl, rfl, rfl⟩); (case S => exact (by first | exact agg24 | exact agg34 | exact agg52)); (case hn => exact rfl); (case h1 => exact rfl); (case ho => exact Nat.le_of_ble_eq_true rfl); (case hc => exact rfl))); clear H; intro _ H; (try simp only [over, List.set_cons_zero, List.set_cons_succ] at H))))
  refine callV (alive_spec _) ?_
  (rintro _ _ ⟨rfl, H'⟩; (first | replace H := H.ext0 H' | replace H := H.drew.ext0 H' | replace H := H.drew.drew.ext0 H'); clear H'; refine ⟨_, rfl, ?_⟩)
  refine br_true (br_dec (fun _ => br_dec (fun _ => ?_) (fun h => absurd rfl h)) (fun h => absurd (by omega) h))
  (repeat (first | ((repeat apply Exists.intro); first | refine ⟨H.ld (by exact ⟨rfl, rfl, rfl, rfl⟩) (by first | exact scl3 | exact scl9 | exact scl22 | exact scl32) (by repeat first | exact .head _ | refine .tail _ ?_) rfl, ?_⟩ | refine ⟨H.ldA (by exact ⟨rfl, rfl, rfl, rfl⟩) (by first | exact agg24 | exact agg34 | exact agg52) (by repeat first | exact .head _ | refine .tail _ ?_) rfl rfl, ?_⟩) | (intro _ _ hn; replace H := H.new (by exact ⟨rfl, rfl, rfl, rfl⟩) hn; clear hn) | ((first | (apply Hp.st; (case H => first | exact H | exact H.pull1 | exact H.pull2 | exact H.pull3 | exact H.pull4 | exact H.pull5 | exact H.pull6 | exact H.pull7); (case e => exact ⟨rfl, rfl, rfl, rfl⟩); (case S => exact (by first | exact scl3 | exact scl9 | exact scl22 | exact scl32)); (case hv => exact rfl); (case h1 => exact rfl); (case ho => exact Nat.le_of_ble_eq_true rfl); (case hc => exact rfl)) | (apply Hp.stA; (case H => first | exact H | exact H.pull1 | exact H.pull2 | exact H.pull3 | exact H.pull4 | exact H.pull5 | exact H.pull6 | exact H.pull7); (case e => exact ⟨rfl, rfl, rfl, rfl⟩); (case S => exact (by first | exact agg24 | exact agg34 | exact agg52)); (case hn => exact rfl); (case h1 => exact rfl); (case ho => exact Nat.le_of_ble_eq_true rfl); (case hc => exact rfl))); clear H; intro _ H; (try simp only [over, List.set_cons_zero, List.set_cons_succ] at H))))
  refine callV (plain_spec q a3 q.attrs.length c3 _ (AtS.own (H.ownA (by repeat first | exact .head _ | refine .tail _ ?_)) rfl) (by omega)) ?_
  rintro e w5 ⟨a4, c4, rfl, H'⟩; replace H := H.ext1 H'; clear H'
  refine ⟨_, _, _, _, _, _, _, _, _, _, rfl, ?_⟩
  (repeat (first | ((repeat apply Exists.intro); first | refine ⟨H.ld (by exact ⟨rfl, rfl, rfl, rfl⟩) (by first | exact scl3 | exact scl9 | exact scl22 | exact scl32) (by repeat first | exact .head _ | refine .tail _ ?_) rfl, ?_⟩ | refine ⟨H.ldA (by exact ⟨rfl, rfl, rfl, rfl⟩) (by first | exact agg24 | exact agg34 | exact agg52) (by repeat first | exact .head _ | refine .tail _ ?_) rfl rfl, ?_⟩) | (intro _ _ hn; replace H := H.new (by exact ⟨rfl, rfl, rfl, rfl⟩) hn; clear hn) | ((first | (apply Hp.st; (case H => first | exact H | exact H.pull1 | exact H.pull2 | exact H.pull3 | exact H.pull4 | exact H.pull5 | exact H.pull6 | exact H.pull7); (case e => exact ⟨rfl, rfl, rfl, rfl⟩); (case S => exact (by first | exact scl3 | exact scl9 | exact scl22 | exact scl32)); (case hv => exact rfl); (case h1 => exact rfl); (case ho => exact Nat.le_of_ble_eq_true rfl); (case hc => exact rfl)) | (apply Hp.stA; (case H => first | exact H | exact H.pull1 | exact H.pull2 | exact H.pull3 | exact H.pull4 | exact H.pull5 | exact H.pull6 | exact H.pull7); (case e => exact ⟨rfl, rfl, rfl, rfl⟩); (case S => exact (by first | exact agg24 | exact agg34 | exact agg52)); (case hn => exact rfl); (case h1 => exact rfl); (case ho => exact Nat.le_of_ble_eq_true rfl); (case hc => exact rfl))); clear H; intro _ H; (try simp only [over, List.set_cons_zero, List.set_cons_succ] at H))))
  refine callV (rsame_spec q q a4 a _ c4 n c _ (AtS.own (H.ownA (.head _)) rfl) (hA.chg H.chg (by simp)) (by omega)) ?_
  rintro e w6 ⟨⟨rfl, _⟩ | ⟨rfl, h⟩, H'⟩
  · exact ⟨_, rfl, rfl, (H.ext0 H').done⟩
  · exact absurd rfl h

theorem folioAgain_law (l : List (List UInt8)) (a : Option Addr) (n c : Nat) (w : World) (hS : StrS w a n l) (hn : n ≤ maxLen) :
    Calls Go.Proofs.Try.prog 7 #[.slice a n c] w fun e w' => e = .returned (.bool true) ∧ Hp [] w w' [] := by
  apply folioAgain.ok
  unfold folioAgain.vc
  have H := Hp.start w
  have hmax : maxLen = 9223372036854775807 := by simp [maxLen]
  refine callV (decode_u l a n c _ (hS.chg H.chg (by simp)) hn) ?_
  rintro e w2 ⟨q, a1, c1, er, rfl, hq, H'⟩; replace H := H.ext1 H'; clear H'
  refine ⟨_, _, _, _, _, _, _, _, _, _, _, rfl, ?_⟩
  have h20 := dec_len hq
  (repeat (first | ((repeat apply Exists.intro); first | refine ⟨H.ld (by exact ⟨rfl, rfl, rfl, rfl⟩) (by first | exact scl3 | exact scl9 | exact scl22 | exact scl32) (by repeat first | exact .head _ | refine .tail _ ?_) rfl, ?_⟩ | refine ⟨H.ldA (by exact ⟨rfl, rfl, rfl, rfl⟩) (by first | exact agg24 | exact agg34 | exact agg52) (by repeat first | exact .head _ | refine .tail _ ?_) rfl rfl, ?_⟩) | (intro _ _ hn; replace H := H.new (by exact ⟨rfl, rfl, rfl, rfl⟩) hn; clear hn) | ((first | (apply Hp.st; (case H => first | exact H | exact H.pull1 | exact H.pull2 | exact H.pull3 | exact H.pull4 | exact H.pull5 | exact H.pull6 | exact H.pull7); (case e => exact ⟨rfl, rfl, rfl, rfl⟩); (case S => exact (by first | exact scl3 | exact scl9 | exact scl22 | exact scl32)); (case hv => exact rfl); (case h1 => exact rfl); (case ho => exact Nat.le_of_ble_eq_true rfl); (case hc => exact rfl)) | (apply Hp.stA; (case H => first | exact H | exact H.pull1 | exact H.pull2 | exact H.pull3 | exact H.pull4 | exact H.pull5 | exact H.pull6 | exact H.pull7); (case e => exact ⟨rfl, rfl, rfl, rfl⟩); (case S => exact (by first | exact agg24 | exact agg34 | exact agg52)); (case hn => exact rfl); (case h1 => exact rfl); (case ho => exact Nat.le_of_ble_eq_true rfl); (case hc => exact rfl))); clear H; intro _ H; (try simp only [over, List.set_cons_zero, List.set_cons_succ] at H))))
  refine br_ndec (fun h => ?_) (fun h => ?_)
  · refine callV (alive_spec _) ?_
    (rintro _ _ ⟨rfl, H'⟩; (first | replace H := H.ext0 H' | replace H := H.drew.ext0 H' | replace H := H.drew.drew.ext0 H'); clear H'; refine ⟨_, rfl, ?_⟩)
    refine br_true ?_
    (repeat (first | ((repeat apply Exists.intro); first | refine ⟨H.ld (by exact ⟨rfl, rfl, rfl, rfl⟩) (by first | exact scl3 | exact scl9 | exact scl22 | exact scl32) (by repeat first | exact .head _ | refine .tail _ ?_) rfl, ?_⟩ | refine ⟨H.ldA (by exact ⟨rfl, rfl, rfl, rfl⟩) (by first | exact agg24 | exact agg34 | exact agg52) (by repeat first | exact .head _ | refine .tail _ ?_) rfl rfl, ?_⟩) | (intro _ _ hn; replace H := H.new (by exact ⟨rfl, rfl, rfl, rfl⟩) hn; clear hn) | ((first | (apply Hp.st; (case H => first | exact H | exact H.pull1 | exact H.pull2 | exact H.pull3 | exact H.pull4 | exact H.pull5 | exact H.pull6 | exact H.pull7); (case e => exact ⟨rfl, rfl, rfl, rfl⟩); (case S => exact (by first | exact scl3 | exact scl9 | exact scl22 | exact scl32)); (case hv => exact rfl); (case h1 => exact rfl); (case ho => exact Nat.le_of_ble_eq_true rfl); (case hc => exact rfl)) | (apply Hp.stA; (case H => first | exact H | exact H.pull1 | exact H.pull2 | exact H.pull3 | exact H.pull4 | exact H.pull5 | exact H.pull6 | exact H.pull7); (case e => exact ⟨rfl, rfl, rfl, rfl⟩); (case S => exact (by first | exact agg24 | exact agg34 | exact agg52)); (case hn => exact rfl); (case h1 => exact rfl); (case ho => exact Nat.le_of_ble_eq_true rfl); (case hc => exact rfl))); clear H; intro _ H; (try simp only [over, List.set_cons_zero, List.set_cons_succ] at H))))
    refine callV (plain_spec q a1 q.attrs.length c1 _ (AtS.own (H.ownA (by repeat first | exact .head _ | refine .tail _ ?_)) rfl) (by omega)) ?_
    rintro e w5 ⟨a4, c4, rfl, H'⟩; replace H := H.ext1 H'; clear H'
    refine ⟨_, _, _, _, _, _, _, _, _, _, rfl, ?_⟩
    refine callV (rsame_spec q z0 a4 none _ c4 0 0 _ (AtS.own (H.ownA (.head _)) rfl) ⟨rfl, by intro j v hj; simp [z0, attrCells] at hj⟩ (by omega)) ?_
    rintro e w6 ⟨⟨rfl, _⟩ | ⟨rfl, h9⟩, H'⟩
    · exact ⟨_, rfl, rfl, (H.ext0 H').done⟩
    · rcases hq with ⟨_, h2⟩ | ⟨_, h2, _⟩
      · exact absurd h2 h
      · exact absurd h2 h9
  · have hd : decR l q := by
      rcases hq with ⟨h2, _⟩ | ⟨_, _, h2⟩
      · exact h2
      · omega
    have ho : out q = l := by rw [out, if_pos hd.1, hd.2]
    (repeat (first | ((repeat apply Exists.intro); first | refine ⟨H.ld (by exact ⟨rfl, rfl, rfl, rfl⟩) (by first | exact scl3 | exact scl9 | exact scl22 | exact scl32) (by repeat first | exact .head _ | refine .tail _ ?_) rfl, ?_⟩ | refine ⟨H.ldA (by exact ⟨rfl, rfl, rfl, rfl⟩) (by first | exact agg24 | exact agg34 | exact agg52) (by repeat first | exact .head _ | refine .tail _ ?_) rfl rfl, ?_⟩) | (intro _ _ hn; replace H := H.new (by exact ⟨rfl, rfl, rfl, rfl⟩) hn; clear hn) | ((first | (apply Hp.st; (case H => first | exact H | exact H.pull1 | exact H.pull2 | exact H.pull3 | exact H.pull4 | exact H.pull5 | exact H.pull6 | exact H.pull7); (case e => exact ⟨rfl, rfl, rfl, rfl⟩); (case S => exact (by first | exact scl3 | exact scl9 | exact scl22 | exact scl32)); (case hv => exact rfl); (case h1 => exact rfl); (case ho => exact Nat.le_of_ble_eq_true rfl); (case hc => exact rfl)) | (apply Hp.stA; (case H => first | exact H | exact H.pull1 | exact H.pull2 | exact H.pull3 | exact H.pull4 | exact H.pull5 | exact H.pull6 | exact H.pull7); (case e => exact ⟨rfl, rfl, rfl, rfl⟩); (case S => exact (by first | exact agg24 | exact agg34 | exact agg52)); (case hn => exact rfl); (case h1 => exact rfl); (case ho => exact Nat.le_of_ble_eq_true rfl); (case hc => exact rfl))); clear H; intro _ H; (try simp only [over, List.set_cons_zero, List.set_cons_succ] at H))))
    refine callV (encode_spec q a1 _ c1 _ (AtS.own (H.ownA (by repeat first | exact .head _ | refine .tail _ ?_)) rfl) (by omega)) ?_
    rintro e w3 ⟨a2, c2, rfl, H'⟩; replace H := H.ext1 H'; clear H'
    refine ⟨_, _, _, _, rfl, ?_⟩
    refine callV (alive_spec _) ?_
    (rintro _ _ ⟨rfl, H'⟩; (first | replace H := H.ext0 H' | replace H := H.drew.ext0 H' | replace H := H.drew.drew.ext0 H'); clear H'; refine ⟨_, rfl, ?_⟩)
    refine br_true (br_dec (fun _ => ?_) (fun h => absurd (by rw [errOf, if_pos hd.1]) h))
    rw [ho] at H ⊢
    refine callV (same_pieces_spec l l a a2 n _ c c2 _ (hS.chg H.chg (by simp)) (out_strS (H.ownA (by repeat first | exact .head _ | refine .tail _ ?_))) hn) ?_
    rintro _ _ ⟨rfl, H'⟩; replace H := H.ext0 H'
    exact ⟨_, rfl, by simp, H.done⟩

theorem attrs_sum (l : List (Int × ByteArray)) (k : Nat) (hk : k < l.length) : (attrsB (l.take (k + 1))).length = (attrsB (l.take k)).length + 4 + l[k].2.size := by
  rw [List.take_succ_eq_append_getElem hk, attrsB_snoc, List.length_append]
  simp only [List.length_append, be_length, Array.length_toList]
  have : l[k].2.data.size = l[k].2.size := rfl
  omega
theorem joinB_take (r : Rec) (k : Nat) (hk : k ≤ (pieces r).length) : (joinB ((pieces r).take k)).length = min (900 * k) (wholeB r).length := by
  have e : (pieces r).take k = (List.range k).map (pieceB r) := by
    rw [pieces, ← List.map_take, List.take_range, Nat.min_eq_left (by rw [pieces_length] at hk; exact hk)]
  rw [e, joinB, List.flatMap_map]
  have : (fun k => (pieceB r k).drop 6) = fun k => ((wholeB r).drop (900 * k)).take 900 := funext fun k => piece_drop r k
  rw [this, chunks, List.length_take]

theorem folioSizes_law (r : Rec) (a : Option Addr) (n c : Nat) (w : World) (hA : AtS w a n r.attrs) (hn : n * 24 ≤ 140737488355328) :
    Calls Go.Proofs.Try.prog 9 #[r.val a n c] w fun e w' => e = .returned (.bool true) ∧ Hp [] w w' [] := by
  apply folioSizes.ok
  unfold folioSizes.vc
  have H := Hp.start w
  have hmax : maxLen = 9223372036854775807 := by simp [maxLen]
  have hlen := hA.len
  (repeat (first | ((repeat apply Exists.intro); first | refine ⟨H.ld (by exact ⟨rfl, rfl, rfl, rfl⟩) (by first | exact scl3 | exact scl9 | exact scl22 | exact scl32) (by repeat first | exact .head _ | refine .tail _ ?_) rfl, ?_⟩ | refine ⟨H.ldA (by exact ⟨rfl, rfl, rfl, rfl⟩) (by first | exact agg24 | exact agg34 | exact agg52) (by repeat first | exact .head _ | refine .tail _ ?_) rfl rfl, ?_⟩) | (intro _ _ hn; replace H := H.new (by exact ⟨rfl, rfl, rfl, rfl⟩) hn; clear hn) | ((first | (apply Hp.st; (case H => first | exact H | exact H.pull1 | exact H.pull2 | exact H.pull3 | exact H.pull4 | exact H.pull5 | exact H.pull6 | exact H.pull7); (case e => exact ⟨rfl, rfl, rfl, rfl⟩); (case S => exact (by first | exact scl3 | exact scl9 | exact scl22 | exact scl32)); (case hv => exact rfl); (case h1 => exact rfl); (case ho => exact Nat.le_of_ble_eq_true rfl); (case hc => exact rfl)) | (apply Hp.stA; (case H => first | exact H | exact H.pull1 | exact H.pull2 | exact H.pull3 | exact H.pull4 | exact H.pull5 | exact H.pull6 | exact H.pull7); (case e => exact ⟨rfl, rfl, rfl, rfl⟩); (case S => exact (by first | exact agg24 | exact agg34 | exact agg52)); (case hn => exact rfl); (case h1 => exact rfl); (case ho => exact Nat.le_of_ble_eq_true rfl); (case hc => exact rfl))); clear H; intro _ H; (try simp only [over, List.set_cons_zero, List.set_cons_succ] at H))))
  rename_i b _
  refine callV (own_spec r a n c _ (hA.chg H.chg (by simp)) hn) ?_
  rintro e w2 ⟨a1, c1, rfl, H'⟩; replace H := H.ext1 H'; clear H'
  refine ⟨_, _, _, _, _, _, _, _, _, _, rfl, ?_⟩
  refine callV (encode_spec r a1 n c1 _ (AtS.own (H.ownA (.head _)) hlen) (by omega)) ?_
  rintro e w3 ⟨a2, c2, rfl, H'⟩; replace H := H.ext1 H'; clear H'
  refine ⟨_, _, _, _, rfl, ?_⟩
  have hol := out_len r
  rcases err_cases r with ⟨hr, he, ho⟩ | ⟨hr, he, ho⟩
  rotate_left
  · rw [he]
    refine br_ndec (fun _ => ?_) (fun h => absurd h (by omega))
    refine callV (alive_spec _) ?_
    (rintro _ _ ⟨rfl, H'⟩; (first | replace H := H.ext0 H' | replace H := H.drew.ext0 H' | replace H := H.drew.drew.ext0 H'); clear H'; refine ⟨_, rfl, ?_⟩)
    exact ⟨rfl, H.done⟩
  rw [he]
  refine br_ndec (fun h => absurd rfl h) (fun _ => ?_)
  obtain ⟨hw1, hw2, hw3⟩ := whole_small hr
  have hwl := whole_len r
  (repeat (first | ((repeat apply Exists.intro); first | refine ⟨H.ld (by exact ⟨rfl, rfl, rfl, rfl⟩) (by first | exact scl3 | exact scl9 | exact scl22 | exact scl32) (by repeat first | exact .head _ | refine .tail _ ?_) rfl, ?_⟩ | refine ⟨H.ldA (by exact ⟨rfl, rfl, rfl, rfl⟩) (by first | exact agg24 | exact agg34 | exact agg52) (by repeat first | exact .head _ | refine .tail _ ?_) rfl rfl, ?_⟩) | (intro _ _ hn; replace H := H.new (by exact ⟨rfl, rfl, rfl, rfl⟩) hn; clear hn) | ((first | (apply Hp.st; (case H => first | exact H | exact H.pull1 | exact H.pull2 | exact H.pull3 | exact H.pull4 | exact H.pull5 | exact H.pull6 | exact H.pull7); (case e => exact ⟨rfl, rfl, rfl, rfl⟩); (case S => exact (by first | exact scl3 | exact scl9 | exact scl22 | exact scl32)); (case hv => exact rfl); (case h1 => exact rfl); (case ho => exact Nat.le_of_ble_eq_true rfl); (case hc => exact rfl)) | (apply Hp.stA; (case H => first | exact H | exact H.pull1 | exact H.pull2 | exact H.pull3 | exact H.pull4 | exact H.pull5 | exact H.pull6 | exact H.pull7); (case e => exact ⟨rfl, rfl, rfl, rfl⟩); (case S => exact (by first | exact agg24 | exact agg34 | exact agg52)); (case hn => exact rfl); (case h1 => exact rfl); (case ho => exact Nat.le_of_ble_eq_true rfl); (case hc => exact rfl))); clear H; intro _ H; (try simp only [over, List.set_cons_zero, List.set_cons_succ] at H))))
  refine ⟨inR64.2 (by omega), ?_⟩
  (repeat (first | ((repeat apply Exists.intro); first | refine ⟨H.ld (by exact ⟨rfl, rfl, rfl, rfl⟩) (by first | exact scl3 | exact scl9 | exact scl22 | exact scl32) (by repeat first | exact .head _ | refine .tail _ ?_) rfl, ?_⟩ | refine ⟨H.ldA (by exact ⟨rfl, rfl, rfl, rfl⟩) (by first | exact agg24 | exact agg34 | exact agg52) (by repeat first | exact .head _ | refine .tail _ ?_) rfl rfl, ?_⟩) | (intro _ _ hn; replace H := H.new (by exact ⟨rfl, rfl, rfl, rfl⟩) hn; clear hn) | ((first | (apply Hp.st; (case H => first | exact H | exact H.pull1 | exact H.pull2 | exact H.pull3 | exact H.pull4 | exact H.pull5 | exact H.pull6 | exact H.pull7); (case e => exact ⟨rfl, rfl, rfl, rfl⟩); (case S => exact (by first | exact scl3 | exact scl9 | exact scl22 | exact scl32)); (case hv => exact rfl); (case h1 => exact rfl); (case ho => exact Nat.le_of_ble_eq_true rfl); (case hc => exact rfl)) | (apply Hp.stA; (case H => first | exact H | exact H.pull1 | exact H.pull2 | exact H.pull3 | exact H.pull4 | exact H.pull5 | exact H.pull6 | exact H.pull7); (case e => exact ⟨rfl, rfl, rfl, rfl⟩); (case S => exact (by first | exact agg24 | exact agg34 | exact agg52)); (case hn => exact rfl); (case h1 => exact rfl); (case ho => exact Nat.le_of_ble_eq_true rfl); (case hc => exact rfl))); clear H; intro _ H; (try simp only [over, List.set_cons_zero, List.set_cons_succ] at H))))
  refine LoopP.mk (fun m s w' => ∃ k : Nat, m = n - k ∧ s = (((30 + r.text.size + (attrsB (r.attrs.take k)).length : Nat) : Int), (k : Int)) ∧ k ≤ n ∧ Hp [] w w' [.own 9 1 a2 (out r).length c2 ((out r).map sv), .own 58 2 a1 n c1 (attrCells r.attrs), .blk b [.int .i64 r.id, .int .i64 r.parent, .int .i64 r.kind, .int .i64 r.name, .int .i64 r.frm, .int .i64 r.to, .string r.text, .slice a n c] 24]) n ⟨0, rfl, by simp [attrsB], Nat.zero_le _, H⟩ ?_
  clear H
  rintro m s w' next ⟨k, rfl, rfl, hk, H⟩ hnext
  dsimp only
  refine br_dec (fun h => ?_) (fun h => ?_)
  · have hkl : k < r.attrs.length := by omega
    have hp : r.attrs[k]? = some r.attrs[k] := List.getElem?_eq_getElem hkl
    obtain ⟨ad, had⟩ := hA.some hkl
    refine onP_mk had ⟨⟨by omega, h⟩, _, _, (hA.chg H.chg (by simp)).ld agg52 hp had, ?_⟩
    (repeat (first | ((repeat apply Exists.intro); first | refine ⟨H.ld (by exact ⟨rfl, rfl, rfl, rfl⟩) (by first | exact scl3 | exact scl9 | exact scl22 | exact scl32) (by repeat first | exact .head _ | refine .tail _ ?_) rfl, ?_⟩ | refine ⟨H.ldA (by exact ⟨rfl, rfl, rfl, rfl⟩) (by first | exact agg24 | exact agg34 | exact agg52) (by repeat first | exact .head _ | refine .tail _ ?_) rfl rfl, ?_⟩) | (intro _ _ hn; replace H := H.new (by exact ⟨rfl, rfl, rfl, rfl⟩) hn; clear hn) | ((first | (apply Hp.st; (case H => first | exact H | exact H.pull1 | exact H.pull2 | exact H.pull3 | exact H.pull4 | exact H.pull5 | exact H.pull6 | exact H.pull7); (case e => exact ⟨rfl, rfl, rfl, rfl⟩); (case S => exact (by first | exact scl3 | exact scl9 | exact scl22 | exact scl32)); (case hv => exact rfl); (case h1 => exact rfl); (case ho => exact Nat.le_of_ble_eq_true rfl); (case hc => exact rfl)) | (apply Hp.stA; (case H => first | exact H | exact H.pull1 | exact H.pull2 | exact H.pull3 | exact H.pull4 | exact H.pull5 | exact H.pull6 | exact H.pull7); (case e => exact ⟨rfl, rfl, rfl, rfl⟩); (case S => exact (by first | exact agg24 | exact agg34 | exact agg52)); (case hn => exact rfl); (case h1 => exact rfl); (case ho => exact Nat.le_of_ble_eq_true rfl); (case hc => exact rfl))); clear H; intro _ H; (try simp only [over, List.set_cons_zero, List.set_cons_succ] at H))))
    have hs := attrs_sum r.attrs k hkl
    have hle := len_take_attrs r.attrs (k + 1)
    refine ⟨inR64.2 (by omega), inR64.2 (by omega), inR64.2 (by omega), hnext (n - (k + 1)) _ _ (by omega) ⟨k + 1, rfl, ?_, by omega, H.drop⟩⟩
    rw [Prod.mk.injEq]
    exact ⟨by omega, by omega⟩
  have hkn : k = n := by omega
  subst hkn
  rw [hlen, List.take_length, ← hlen]
  refine LoopP.mk (fun m s w' => ∃ j : Nat, m = (out r).length - j ∧ s = (((joinB ((out r).take j)).length : Int), (j : Int)) ∧ j ≤ (out r).length ∧ Hp [] w w' [.own 9 1 a2 (out r).length c2 ((out r).map sv), .own 58 2 a1 k c1 (attrCells r.attrs), .blk b [.int .i64 r.id, .int .i64 r.parent, .int .i64 r.kind, .int .i64 r.name, .int .i64 r.frm, .int .i64 r.to, .string r.text, .slice a k c] 24]) (out r).length ⟨0, rfl, by simp [joinB], Nat.zero_le _, H⟩ ?_
  clear H
  rintro m s w2 next2 ⟨j, rfl, rfl, hj, H⟩ hnext2
  dsimp only
  refine br_dec (fun h1 => ?_) (fun h1 => ?_)
  · have hjl : j < (out r).length := by omega
    have hp : (out r)[j]? = some (out r)[j] := List.getElem?_eq_getElem hjl
    obtain ⟨ad, had, hld⟩ := (out_strS (H.ownA (.head _))).ld hp
    have hpc : (pieces r)[j]? = some (out r)[j] := by rw [← ho]; exact hp
    obtain ⟨g1, g2⟩ := piece_of hpc
    have hpl := piece_len r j
    have hj1 := joinB_take r j (by rw [← ho]; omega)
    have hj2 := joinB_take r (j + 1) (by rw [← ho]; omega)
    rw [← ho] at hj1 hj2
    have hm : manyOf (wholeB r).length = (out r).length := by rw [ho, pieces_length]
    refine onP_mk had ⟨⟨by omega, h1⟩, _, hld, ?_⟩
    rw [mk_size, g2]
    have h9 : 900 * j < (wholeB r).length := by unfold manyOf at g1; omega
    have hstep : ((joinB ((out r).take j)).length : Int) + (((pieceB r j).length : Int) - 6) = ((joinB ((out r).take (j + 1))).length : Int) := by omega
    refine ⟨inR64.2 (by omega), inR64.2 (by omega), inR64.2 (by omega), br_dec (fun h2 => br_ndec (fun h3 => ?_) (fun _ => ?_)) (fun h2 => ?_)⟩
    · exfalso
      apply h3
      have : 900 * (j + 1) ≤ (wholeB r).length := by unfold manyOf at hm; omega
      omega
    · exact ⟨inR64.2 (by omega), hnext2 ((out r).length - (j + 1)) _ _ (by omega) ⟨j + 1, rfl, by rw [hstep]; simp, by omega, H⟩⟩
    · exact ⟨inR64.2 (by omega), hnext2 ((out r).length - (j + 1)) _ _ (by omega) ⟨j + 1, rfl, by rw [hstep]; simp, by omega, H⟩⟩
  have hjn : j = (out r).length := by omega
  subst hjn
  rw [List.take_length]
  refine callV (alive_spec _) ?_
  (rintro _ _ ⟨rfl, H'⟩; (first | replace H := H.ext0 H' | replace H := H.drew.ext0 H' | replace H := H.drew.drew.ext0 H'); clear H'; refine ⟨_, rfl, ?_⟩)
  refine br_true ⟨?_, H.done⟩
  rw [ho, join_pieces]
  congr 2
  rw [decide_eq_true_iff]
  omega
end Go.Proofs.Ytcgaobfbgfefhaa
