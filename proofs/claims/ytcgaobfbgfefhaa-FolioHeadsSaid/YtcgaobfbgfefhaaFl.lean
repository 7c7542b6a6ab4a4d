/- Folio: the reference's 'Encode'. -/
import Derived.Test.YtcgaobfbgfefhaaFk
set_option linter.unusedVariables false
set_option linter.unusedSimpArgs false
namespace Go.Proofs.Ytcgaobfbgfefhaa
open Go Go.Vc

theorem mk_append (x y : List UInt8) : (ByteArray.mk x.toArray) ++ (ByteArray.mk y.toArray) = ⟨(x ++ y).toArray⟩ := by
  apply ByteArray.ext
  rw [ByteArray.data_append]
  simp
theorem mk_size (x : List UInt8) : (ByteArray.mk x.toArray).size = x.length := by simp [ByteArray.size]
theorem mk_self (s : ByteArray) : s = ⟨s.data.toList.toArray⟩ := by simp
theorem attrsB_snoc (l : List (Int × ByteArray)) (p : Int × ByteArray) : attrsB (l ++ [p]) = attrsB l ++ (be p.1 2 ++ be (p.2.size : Int) 2 ++ p.2.data.toList) := by simp [attrsB]
theorem eltS26 : Elt Go.Proofs.Try.prog 26 9 1 16 := elt26
set_option maxHeartbeats 1000000 in
theorem rencode_spec (r : Rec) (a : Option Addr) (n c : Nat) (w : World) (hA : AtS w a n r.attrs) (hn : n ≤ maxLen) :
    Calls Go.Proofs.Try.prog 13 #[r.val a n c] w fun e w' => ∃ a' c', e = .returned (.tuple #[.slice a' (out r).length c', .int .i64 (errOf (rightP r))]) ∧ Hp [] w w' [.own 9 1 a' (out r).length c' ((out r).map sv)] := by
  apply rencode.ok
  unfold rencode.vc
  have H := Hp.start w
  have hmax : maxLen = 9223372036854775807 := by simp [maxLen]
  have hlen := hA.len
  obtain ⟨tx, htx⟩ : ∃ tx : List UInt8, r.text = ⟨tx.toArray⟩ := ⟨r.text.data.toList, by simp⟩
  (repeat (first | ((repeat apply Exists.intro); first | refine ⟨H.ld (by exact ⟨rfl, rfl, rfl, rfl⟩) (by first | exact scl3 | exact scl9 | exact scl22) (by repeat first | exact .head _ | refine .tail _ ?_) rfl, ?_⟩ | refine ⟨H.ldA (by exact ⟨rfl, rfl, rfl, rfl⟩) (by first | exact agg24 | exact agg52) (by repeat first | exact .head _ | refine .tail _ ?_) rfl rfl, ?_⟩) | (intro _ _ hn; replace H := H.new (by exact ⟨rfl, rfl, rfl, rfl⟩) hn; clear hn) | ((first | (apply Hp.st; (case H => first | exact H | exact H.pull1 | exact H.pull2 | exact H.pull3 | exact H.pull4 | exact H.pull5 | exact H.pull6 | exact H.pull7); (case e => exact ⟨rfl, rfl, rfl, rfl⟩); (case S => exact (by first | exact scl3 | exact scl9 | exact scl22)); (case hv => exact rfl); (case h1 => exact rfl); (case ho => exact Nat.le_of_ble_eq_true rfl); (case hc => exact rfl)) | (apply Hp.stA; (case H => first | exact H | exact H.pull1 | exact H.pull2 | exact H.pull3 | exact H.pull4 | exact H.pull5 | exact H.pull6 | exact H.pull7); (case e => exact ⟨rfl, rfl, rfl, rfl⟩); (case S => exact (by first | exact agg24 | exact agg52)); (case hn => exact rfl); (case h1 => exact rfl); (case ho => exact Nat.le_of_ble_eq_true rfl); (case hc => exact rfl))); clear H; intro _ H; (try simp only [over, List.set_cons_zero, List.set_cons_succ] at H))))
  refine callV (rright_spec r a n c _ (hA.chg H.chg (by simp)) hn) ?_
  rintro e w' ⟨rfl, H'⟩
  replace H := H.ext0 H'
  clear H'
  refine ⟨_, rfl, br_ndec (fun h => ⟨none, 0, ?_, ?_⟩) (fun h => ?_)⟩
  · simp [out, h, errOf]
  · simpa [out, h] using (H.done.nilS 9 1)
  obtain ⟨hw1, hw2, hw3⟩ := whole_small h
  have hwl := whole_len r
  have hout : out r = pieces r := by rw [out, if_pos h]
  have herr : errOf (rightP r) = 0 := by rw [errOf, if_pos h]
  have hpl := pieces_length r
  obtain ⟨g1, g2, g3, g4, g5, g6, g7, g8⟩ := h
  have hk : 0 ≤ r.kind ∧ r.kind < 256 ∧ 0 ≤ r.name ∧ r.name < 65536 ∧ r.text.size ≤ 1500 ∧ ∀ p ∈ r.attrs, named1 p.1 ∧ p.2.size ≤ 1500 := by
    rcases g8 with ⟨k1, a1, _, a2, a3, _⟩ | ⟨k1, a1, a2, a3⟩
    · refine ⟨by omega, by omega, ?_, ?_, ?_, a1⟩
      · have := a2.1; omega
      · have := a2.2; omega
      · rw [a3]; simp [ByteArray.size]
    · refine ⟨by omega, by omega, by omega, by omega, a3, ?_⟩
      rw [a2]; simp
  obtain ⟨k1, k2, k3, k4, k5, k6⟩ := hk
  clear g8
  have htl : tx.length = r.text.size := by rw [htx, mk_size]
  rw [hout, herr]
  (repeat (first | ((repeat apply Exists.intro); first | refine ⟨H.ld (by exact ⟨rfl, rfl, rfl, rfl⟩) (by first | exact scl3 | exact scl9 | exact scl22) (by repeat first | exact .head _ | refine .tail _ ?_) rfl, ?_⟩ | refine ⟨H.ldA (by exact ⟨rfl, rfl, rfl, rfl⟩) (by first | exact agg24 | exact agg52) (by repeat first | exact .head _ | refine .tail _ ?_) rfl rfl, ?_⟩) | (intro _ _ hn; replace H := H.new (by exact ⟨rfl, rfl, rfl, rfl⟩) hn; clear hn) | ((first | (apply Hp.st; (case H => first | exact H | exact H.pull1 | exact H.pull2 | exact H.pull3 | exact H.pull4 | exact H.pull5 | exact H.pull6 | exact H.pull7); (case e => exact ⟨rfl, rfl, rfl, rfl⟩); (case S => exact (by first | exact scl3 | exact scl9 | exact scl22)); (case hv => exact rfl); (case h1 => exact rfl); (case ho => exact Nat.le_of_ble_eq_true rfl); (case hc => exact rfl)) | (apply Hp.stA; (case H => first | exact H | exact H.pull1 | exact H.pull2 | exact H.pull3 | exact H.pull4 | exact H.pull5 | exact H.pull6 | exact H.pull7); (case e => exact ⟨rfl, rfl, rfl, rfl⟩); (case S => exact (by first | exact agg24 | exact agg52)); (case hn => exact rfl); (case h1 => exact rfl); (case ho => exact Nat.le_of_ble_eq_true rfl); (case hc => exact rfl))); clear H; intro _ H; (try simp only [over, List.set_cons_zero, List.set_cons_succ] at H))))
  refine callV (rnumber_spec _ 4 (by omega) (by omega) (by omega) _) ?_
  (rintro _ _ ⟨rfl, H'⟩; (first | replace H := H.ext0 H' | replace H := H.drew.ext0 H' | replace H := H.drew.drew.ext0 H'); clear H'; refine ⟨_, rfl, ?_⟩)
  (repeat (first | ((repeat apply Exists.intro); first | refine ⟨H.ld (by exact ⟨rfl, rfl, rfl, rfl⟩) (by first | exact scl3 | exact scl9 | exact scl22) (by repeat first | exact .head _ | refine .tail _ ?_) rfl, ?_⟩ | refine ⟨H.ldA (by exact ⟨rfl, rfl, rfl, rfl⟩) (by first | exact agg24 | exact agg52) (by repeat first | exact .head _ | refine .tail _ ?_) rfl rfl, ?_⟩) | (intro _ _ hn; replace H := H.new (by exact ⟨rfl, rfl, rfl, rfl⟩) hn; clear hn) | ((first | (apply Hp.st; (case H => first | exact H | exact H.pull1 | exact H.pull2 | exact H.pull3 | exact H.pull4 | exact H.pull5 | exact H.pull6 | exact H.pull7); (case e => exact ⟨rfl, rfl, rfl, rfl⟩); (case S => exact (by first | exact scl3 | exact scl9 | exact scl22)); (case hv => exact rfl); (case h1 => exact rfl); (case ho => exact Nat.le_of_ble_eq_true rfl); (case hc => exact rfl)) | (apply Hp.stA; (case H => first | exact H | exact H.pull1 | exact H.pull2 | exact H.pull3 | exact H.pull4 | exact H.pull5 | exact H.pull6 | exact H.pull7); (case e => exact ⟨rfl, rfl, rfl, rfl⟩); (case S => exact (by first | exact agg24 | exact agg52)); (case hn => exact rfl); (case h1 => exact rfl); (case ho => exact Nat.le_of_ble_eq_true rfl); (case hc => exact rfl))); clear H; intro _ H; (try simp only [over, List.set_cons_zero, List.set_cons_succ] at H))))
  refine callV (rnumber_spec _ 4 (by omega) (by omega) (by omega) _) ?_
  (rintro _ _ ⟨rfl, H'⟩; (first | replace H := H.ext0 H' | replace H := H.drew.ext0 H' | replace H := H.drew.drew.ext0 H'); clear H'; refine ⟨_, rfl, ?_⟩)
  (repeat (first | ((repeat apply Exists.intro); first | refine ⟨H.ld (by exact ⟨rfl, rfl, rfl, rfl⟩) (by first | exact scl3 | exact scl9 | exact scl22) (by repeat first | exact .head _ | refine .tail _ ?_) rfl, ?_⟩ | refine ⟨H.ldA (by exact ⟨rfl, rfl, rfl, rfl⟩) (by first | exact agg24 | exact agg52) (by repeat first | exact .head _ | refine .tail _ ?_) rfl rfl, ?_⟩) | (intro _ _ hn; replace H := H.new (by exact ⟨rfl, rfl, rfl, rfl⟩) hn; clear hn) | ((first | (apply Hp.st; (case H => first | exact H | exact H.pull1 | exact H.pull2 | exact H.pull3 | exact H.pull4 | exact H.pull5 | exact H.pull6 | exact H.pull7); (case e => exact ⟨rfl, rfl, rfl, rfl⟩); (case S => exact (by first | exact scl3 | exact scl9 | exact scl22)); (case hv => exact rfl); (case h1 => exact rfl); (case ho => exact Nat.le_of_ble_eq_true rfl); (case hc => exact rfl)) | (apply Hp.stA; (case H => first | exact H | exact H.pull1 | exact H.pull2 | exact H.pull3 | exact H.pull4 | exact H.pull5 | exact H.pull6 | exact H.pull7); (case e => exact ⟨rfl, rfl, rfl, rfl⟩); (case S => exact (by first | exact agg24 | exact agg52)); (case hn => exact rfl); (case h1 => exact rfl); (case ho => exact Nat.le_of_ble_eq_true rfl); (case hc => exact rfl))); clear H; intro _ H; (try simp only [over, List.set_cons_zero, List.set_cons_succ] at H))))
  refine ⟨(by simp only [mk_append, mk_size, List.length_append, be_length]; omega), ?_⟩
  refine callV (rnumber_spec _ 8 (by omega) (by omega) (by omega) _) ?_
  (rintro _ _ ⟨rfl, H'⟩; (first | replace H := H.ext0 H' | replace H := H.drew.ext0 H' | replace H := H.drew.drew.ext0 H'); clear H'; refine ⟨_, rfl, ?_⟩)
  (repeat (first | ((repeat apply Exists.intro); first | refine ⟨H.ld (by exact ⟨rfl, rfl, rfl, rfl⟩) (by first | exact scl3 | exact scl9 | exact scl22) (by repeat first | exact .head _ | refine .tail _ ?_) rfl, ?_⟩ | refine ⟨H.ldA (by exact ⟨rfl, rfl, rfl, rfl⟩) (by first | exact agg24 | exact agg52) (by repeat first | exact .head _ | refine .tail _ ?_) rfl rfl, ?_⟩) | (intro _ _ hn; replace H := H.new (by exact ⟨rfl, rfl, rfl, rfl⟩) hn; clear hn) | ((first | (apply Hp.st; (case H => first | exact H | exact H.pull1 | exact H.pull2 | exact H.pull3 | exact H.pull4 | exact H.pull5 | exact H.pull6 | exact H.pull7); (case e => exact ⟨rfl, rfl, rfl, rfl⟩); (case S => exact (by first | exact scl3 | exact scl9 | exact scl22)); (case hv => exact rfl); (case h1 => exact rfl); (case ho => exact Nat.le_of_ble_eq_true rfl); (case hc => exact rfl)) | (apply Hp.stA; (case H => first | exact H | exact H.pull1 | exact H.pull2 | exact H.pull3 | exact H.pull4 | exact H.pull5 | exact H.pull6 | exact H.pull7); (case e => exact ⟨rfl, rfl, rfl, rfl⟩); (case S => exact (by first | exact agg24 | exact agg52)); (case hn => exact rfl); (case h1 => exact rfl); (case ho => exact Nat.le_of_ble_eq_true rfl); (case hc => exact rfl))); clear H; intro _ H; (try simp only [over, List.set_cons_zero, List.set_cons_succ] at H))))
  refine ⟨(by simp only [mk_append, mk_size, List.length_append, be_length]; omega), ?_⟩
  refine callV (rnumber_spec _ 8 (by omega) (by omega) (by omega) _) ?_
  (rintro _ _ ⟨rfl, H'⟩; (first | replace H := H.ext0 H' | replace H := H.drew.ext0 H' | replace H := H.drew.drew.ext0 H'); clear H'; refine ⟨_, rfl, ?_⟩)
  (repeat (first | ((repeat apply Exists.intro); first | refine ⟨H.ld (by exact ⟨rfl, rfl, rfl, rfl⟩) (by first | exact scl3 | exact scl9 | exact scl22) (by repeat first | exact .head _ | refine .tail _ ?_) rfl, ?_⟩ | refine ⟨H.ldA (by exact ⟨rfl, rfl, rfl, rfl⟩) (by first | exact agg24 | exact agg52) (by repeat first | exact .head _ | refine .tail _ ?_) rfl rfl, ?_⟩) | (intro _ _ hn; replace H := H.new (by exact ⟨rfl, rfl, rfl, rfl⟩) hn; clear hn) | ((first | (apply Hp.st; (case H => first | exact H | exact H.pull1 | exact H.pull2 | exact H.pull3 | exact H.pull4 | exact H.pull5 | exact H.pull6 | exact H.pull7); (case e => exact ⟨rfl, rfl, rfl, rfl⟩); (case S => exact (by first | exact scl3 | exact scl9 | exact scl22)); (case hv => exact rfl); (case h1 => exact rfl); (case ho => exact Nat.le_of_ble_eq_true rfl); (case hc => exact rfl)) | (apply Hp.stA; (case H => first | exact H | exact H.pull1 | exact H.pull2 | exact H.pull3 | exact H.pull4 | exact H.pull5 | exact H.pull6 | exact H.pull7); (case e => exact ⟨rfl, rfl, rfl, rfl⟩); (case S => exact (by first | exact agg24 | exact agg52)); (case hn => exact rfl); (case h1 => exact rfl); (case ho => exact Nat.le_of_ble_eq_true rfl); (case hc => exact rfl))); clear H; intro _ H; (try simp only [over, List.set_cons_zero, List.set_cons_succ] at H))))
  refine ⟨(by simp only [mk_append, mk_size, List.length_append, be_length]; omega), ?_⟩
  refine callV (rnumber_spec _ 1 (by omega) (by omega) (by omega) _) ?_
  (rintro _ _ ⟨rfl, H'⟩; (first | replace H := H.ext0 H' | replace H := H.drew.ext0 H' | replace H := H.drew.drew.ext0 H'); clear H'; refine ⟨_, rfl, ?_⟩)
  (repeat (first | ((repeat apply Exists.intro); first | refine ⟨H.ld (by exact ⟨rfl, rfl, rfl, rfl⟩) (by first | exact scl3 | exact scl9 | exact scl22) (by repeat first | exact .head _ | refine .tail _ ?_) rfl, ?_⟩ | refine ⟨H.ldA (by exact ⟨rfl, rfl, rfl, rfl⟩) (by first | exact agg24 | exact agg52) (by repeat first | exact .head _ | refine .tail _ ?_) rfl rfl, ?_⟩) | (intro _ _ hn; replace H := H.new (by exact ⟨rfl, rfl, rfl, rfl⟩) hn; clear hn) | ((first | (apply Hp.st; (case H => first | exact H | exact H.pull1 | exact H.pull2 | exact H.pull3 | exact H.pull4 | exact H.pull5 | exact H.pull6 | exact H.pull7); (case e => exact ⟨rfl, rfl, rfl, rfl⟩); (case S => exact (by first | exact scl3 | exact scl9 | exact scl22)); (case hv => exact rfl); (case h1 => exact rfl); (case ho => exact Nat.le_of_ble_eq_true rfl); (case hc => exact rfl)) | (apply Hp.stA; (case H => first | exact H | exact H.pull1 | exact H.pull2 | exact H.pull3 | exact H.pull4 | exact H.pull5 | exact H.pull6 | exact H.pull7); (case e => exact ⟨rfl, rfl, rfl, rfl⟩); (case S => exact (by first | exact agg24 | exact agg52)); (case hn => exact rfl); (case h1 => exact rfl); (case ho => exact Nat.le_of_ble_eq_true rfl); (case hc => exact rfl))); clear H; intro _ H; (try simp only [over, List.set_cons_zero, List.set_cons_succ] at H))))
  refine ⟨(by simp only [mk_append, mk_size, List.length_append, be_length]; omega), ?_⟩
  refine callV (rnumber_spec _ 2 (by omega) (by omega) (by omega) _) ?_
  (rintro _ _ ⟨rfl, H'⟩; (first | replace H := H.ext0 H' | replace H := H.drew.ext0 H' | replace H := H.drew.drew.ext0 H'); clear H'; refine ⟨_, rfl, ?_⟩)
  (repeat (first | ((repeat apply Exists.intro); first | refine ⟨H.ld (by exact ⟨rfl, rfl, rfl, rfl⟩) (by first | exact scl3 | exact scl9 | exact scl22) (by repeat first | exact .head _ | refine .tail _ ?_) rfl, ?_⟩ | refine ⟨H.ldA (by exact ⟨rfl, rfl, rfl, rfl⟩) (by first | exact agg24 | exact agg52) (by repeat first | exact .head _ | refine .tail _ ?_) rfl rfl, ?_⟩) | (intro _ _ hn; replace H := H.new (by exact ⟨rfl, rfl, rfl, rfl⟩) hn; clear hn) | ((first | (apply Hp.st; (case H => first | exact H | exact H.pull1 | exact H.pull2 | exact H.pull3 | exact H.pull4 | exact H.pull5 | exact H.pull6 | exact H.pull7); (case e => exact ⟨rfl, rfl, rfl, rfl⟩); (case S => exact (by first | exact scl3 | exact scl9 | exact scl22)); (case hv => exact rfl); (case h1 => exact rfl); (case ho => exact Nat.le_of_ble_eq_true rfl); (case hc => exact rfl)) | (apply Hp.stA; (case H => first | exact H | exact H.pull1 | exact H.pull2 | exact H.pull3 | exact H.pull4 | exact H.pull5 | exact H.pull6 | exact H.pull7); (case e => exact ⟨rfl, rfl, rfl, rfl⟩); (case S => exact (by first | exact agg24 | exact agg52)); (case hn => exact rfl); (case h1 => exact rfl); (case ho => exact Nat.le_of_ble_eq_true rfl); (case hc => exact rfl))); clear H; intro _ H; (try simp only [over, List.set_cons_zero, List.set_cons_succ] at H))))
  refine ⟨(by simp only [mk_append, mk_size, List.length_append, be_length]; omega), ?_⟩
  refine callV (rnumber_spec _ 2 (by omega) (by omega) (by omega) _) ?_
  (rintro _ _ ⟨rfl, H'⟩; (first | replace H := H.ext0 H' | replace H := H.drew.ext0 H' | replace H := H.drew.drew.ext0 H'); clear H'; refine ⟨_, rfl, ?_⟩)
  (repeat (first | ((repeat apply Exists.intro); first | refine ⟨H.ld (by exact ⟨rfl, rfl, rfl, rfl⟩) (by first | exact scl3 | exact scl9 | exact scl22) (by repeat first | exact .head _ | refine .tail _ ?_) rfl, ?_⟩ | refine ⟨H.ldA (by exact ⟨rfl, rfl, rfl, rfl⟩) (by first | exact agg24 | exact agg52) (by repeat first | exact .head _ | refine .tail _ ?_) rfl rfl, ?_⟩) | (intro _ _ hn; replace H := H.new (by exact ⟨rfl, rfl, rfl, rfl⟩) hn; clear hn) | ((first | (apply Hp.st; (case H => first | exact H | exact H.pull1 | exact H.pull2 | exact H.pull3 | exact H.pull4 | exact H.pull5 | exact H.pull6 | exact H.pull7); (case e => exact ⟨rfl, rfl, rfl, rfl⟩); (case S => exact (by first | exact scl3 | exact scl9 | exact scl22)); (case hv => exact rfl); (case h1 => exact rfl); (case ho => exact Nat.le_of_ble_eq_true rfl); (case hc => exact rfl)) | (apply Hp.stA; (case H => first | exact H | exact H.pull1 | exact H.pull2 | exact H.pull3 | exact H.pull4 | exact H.pull5 | exact H.pull6 | exact H.pull7); (case e => exact ⟨rfl, rfl, rfl, rfl⟩); (case S => exact (by first | exact agg24 | exact agg52)); (case hn => exact rfl); (case h1 => exact rfl); (case ho => exact Nat.le_of_ble_eq_true rfl); (case hc => exact rfl))); clear H; intro _ H; (try simp only [over, List.set_cons_zero, List.set_cons_succ] at H))))
  rw [htx]
  refine ⟨(by simp only [mk_append, mk_size, List.length_append, be_length]; omega), (by simp only [mk_append, mk_size, List.length_append, be_length]; omega), ?_⟩
  refine callV (rnumber_spec _ 1 (by omega) (by omega) (by omega) _) ?_
  (rintro _ _ ⟨rfl, H'⟩; (first | replace H := H.ext0 H' | replace H := H.drew.ext0 H' | replace H := H.drew.drew.ext0 H'); clear H'; refine ⟨_, rfl, ?_⟩)
  rw [← htx]
  (repeat (first | ((repeat apply Exists.intro); first | refine ⟨H.ld (by exact ⟨rfl, rfl, rfl, rfl⟩) (by first | exact scl3 | exact scl9 | exact scl22) (by repeat first | exact .head _ | refine .tail _ ?_) rfl, ?_⟩ | refine ⟨H.ldA (by exact ⟨rfl, rfl, rfl, rfl⟩) (by first | exact agg24 | exact agg52) (by repeat first | exact .head _ | refine .tail _ ?_) rfl rfl, ?_⟩) | (intro _ _ hn; replace H := H.new (by exact ⟨rfl, rfl, rfl, rfl⟩) hn; clear hn) | ((first | (apply Hp.st; (case H => first | exact H | exact H.pull1 | exact H.pull2 | exact H.pull3 | exact H.pull4 | exact H.pull5 | exact H.pull6 | exact H.pull7); (case e => exact ⟨rfl, rfl, rfl, rfl⟩); (case S => exact (by first | exact scl3 | exact scl9 | exact scl22)); (case hv => exact rfl); (case h1 => exact rfl); (case ho => exact Nat.le_of_ble_eq_true rfl); (case hc => exact rfl)) | (apply Hp.stA; (case H => first | exact H | exact H.pull1 | exact H.pull2 | exact H.pull3 | exact H.pull4 | exact H.pull5 | exact H.pull6 | exact H.pull7); (case e => exact ⟨rfl, rfl, rfl, rfl⟩); (case S => exact (by first | exact agg24 | exact agg52)); (case hn => exact rfl); (case h1 => exact rfl); (case ho => exact Nat.le_of_ble_eq_true rfl); (case hc => exact rfl))); clear H; intro _ H; (try simp only [over, List.set_cons_zero, List.set_cons_succ] at H))))
  rw [htx]
  refine ⟨(by simp only [mk_append, mk_size, List.length_append, be_length]; omega), ?_⟩
  simp only [mk_append, mk_size]
  rename_i b _ _ _ _ _ _ _ _ _
  have hstart : (be r.id 4 ++ be r.parent 4 ++ be r.frm 8 ++ be r.to 8 ++ be r.kind 1 ++ be r.name 2 ++ be (tx.length : Int) 2 ++ tx ++ be (n : Int) 1) ++ attrsB r.attrs = wholeB r := by
    rw [wholeB, frontB, hlen, htl]
    have : r.text.data.toList = tx := by rw [htx]
    rw [this]
    simp [laid]
  generalize be r.id 4 ++ be r.parent 4 ++ be r.frm 8 ++ be r.to 8 ++ be r.kind 1 ++ be r.name 2 ++ be (tx.length : Int) 2 ++ tx ++ be (n : Int) 1 = st at hstart ⊢
  refine LoopP.mk (fun m s w' => ∃ k : Nat, m = n - k ∧ s = (⟨(st ++ attrsB (r.attrs.take k)).toArray⟩, (k : Int)) ∧ k ≤ n ∧
      Hp [] w w' [.blk b [.int .i64 r.id, .int .i64 r.parent, .int .i64 r.kind, .int .i64 r.name, .int .i64 r.frm, .int .i64 r.to, .string r.text, .slice a n c] 24]) n ⟨0, rfl, by simp [attrsB], Nat.zero_le _, H⟩ ?_
  clear H
  rintro m s w' next ⟨k, rfl, rfl, hkn, H⟩ hnext
  dsimp only
  (repeat (first | ((repeat apply Exists.intro); first | refine ⟨H.ld (by exact ⟨rfl, rfl, rfl, rfl⟩) (by first | exact scl3 | exact scl9 | exact scl22) (by repeat first | exact .head _ | refine .tail _ ?_) rfl, ?_⟩ | refine ⟨H.ldA (by exact ⟨rfl, rfl, rfl, rfl⟩) (by first | exact agg24 | exact agg52) (by repeat first | exact .head _ | refine .tail _ ?_) rfl rfl, ?_⟩) | (intro _ _ hn; replace H := H.new (by exact ⟨rfl, rfl, rfl, rfl⟩) hn; clear hn) | ((first | (apply Hp.st; (case H => first | exact H | exact H.pull1 | exact H.pull2 | exact H.pull3 | exact H.pull4 | exact H.pull5 | exact H.pull6 | exact H.pull7); (case e => exact ⟨rfl, rfl, rfl, rfl⟩); (case S => exact (by first | exact scl3 | exact scl9 | exact scl22)); (case hv => exact rfl); (case h1 => exact rfl); (case ho => exact Nat.le_of_ble_eq_true rfl); (case hc => exact rfl)) | (apply Hp.stA; (case H => first | exact H | exact H.pull1 | exact H.pull2 | exact H.pull3 | exact H.pull4 | exact H.pull5 | exact H.pull6 | exact H.pull7); (case e => exact ⟨rfl, rfl, rfl, rfl⟩); (case S => exact (by first | exact agg24 | exact agg52)); (case hn => exact rfl); (case h1 => exact rfl); (case ho => exact Nat.le_of_ble_eq_true rfl); (case hc => exact rfl))); clear H; intro _ H; (try simp only [over, List.set_cons_zero, List.set_cons_succ] at H))))
  refine br_dec (fun h => ?_) (fun h => ?_)
  · have hkl : k < r.attrs.length := by omega
    have hp : r.attrs[k]? = some r.attrs[k] := List.getElem?_eq_getElem hkl
    obtain ⟨ad, had⟩ := hA.some hkl
    have hin := k6 _ (List.getElem_mem hkl)
    have hsp := attrsB_snoc (r.attrs.take k) r.attrs[k]
    rw [← List.take_succ_eq_append_getElem hkl] at hsp
    have hbd : (st ++ attrsB (r.attrs.take (k + 1))).length ≤ (wholeB r).length := by
      rw [← hstart, ← List.take_append_drop (k + 1) r.attrs]
      simp only [attrsB, List.flatMap_append, List.length_append]
      rw [List.take_append_of_le_length (by rw [List.length_take]; omega), List.take_take, Nat.min_self]
      omega
    rw [hsp] at hbd
    simp only [List.length_append, be_length, Array.length_toList] at hbd
    have hszd : r.attrs[k].2.data.size = r.attrs[k].2.size := rfl
    obtain ⟨av, hav⟩ : ∃ av : List UInt8, r.attrs[k].2 = ⟨av.toArray⟩ := ⟨r.attrs[k].2.data.toList, by simp⟩
    have hvl : av.length = r.attrs[k].2.size := by rw [hav, mk_size]
    replace H := H.drew
    have hAw := hA.chg H.chg (by simp)
    (repeat (first | ((repeat apply Exists.intro); first | refine ⟨H.ld (by exact ⟨rfl, rfl, rfl, rfl⟩) (by first | exact scl3 | exact scl9 | exact scl22) (by repeat first | exact .head _ | refine .tail _ ?_) rfl, ?_⟩ | refine ⟨H.ldA (by exact ⟨rfl, rfl, rfl, rfl⟩) (by first | exact agg24 | exact agg52) (by repeat first | exact .head _ | refine .tail _ ?_) rfl rfl, ?_⟩) | (intro _ _ hn; replace H := H.new (by exact ⟨rfl, rfl, rfl, rfl⟩) hn; clear hn) | ((first | (apply Hp.st; (case H => first | exact H | exact H.pull1 | exact H.pull2 | exact H.pull3 | exact H.pull4 | exact H.pull5 | exact H.pull6 | exact H.pull7); (case e => exact ⟨rfl, rfl, rfl, rfl⟩); (case S => exact (by first | exact scl3 | exact scl9 | exact scl22)); (case hv => exact rfl); (case h1 => exact rfl); (case ho => exact Nat.le_of_ble_eq_true rfl); (case hc => exact rfl)) | (apply Hp.stA; (case H => first | exact H | exact H.pull1 | exact H.pull2 | exact H.pull3 | exact H.pull4 | exact H.pull5 | exact H.pull6 | exact H.pull7); (case e => exact ⟨rfl, rfl, rfl, rfl⟩); (case S => exact (by first | exact agg24 | exact agg52)); (case hn => exact rfl); (case h1 => exact rfl); (case ho => exact Nat.le_of_ble_eq_true rfl); (case hc => exact rfl))); clear H; intro _ H; (try simp only [over, List.set_cons_zero, List.set_cons_succ] at H))))
    refine onP_mk had ⟨⟨by omega, h⟩, _, hAw.int hp had, ?_⟩
    (repeat (first | ((repeat apply Exists.intro); first | refine ⟨H.ld (by exact ⟨rfl, rfl, rfl, rfl⟩) (by first | exact scl3 | exact scl9 | exact scl22) (by repeat first | exact .head _ | refine .tail _ ?_) rfl, ?_⟩ | refine ⟨H.ldA (by exact ⟨rfl, rfl, rfl, rfl⟩) (by first | exact agg24 | exact agg52) (by repeat first | exact .head _ | refine .tail _ ?_) rfl rfl, ?_⟩) | (intro _ _ hn; replace H := H.new (by exact ⟨rfl, rfl, rfl, rfl⟩) hn; clear hn) | ((first | (apply Hp.st; (case H => first | exact H | exact H.pull1 | exact H.pull2 | exact H.pull3 | exact H.pull4 | exact H.pull5 | exact H.pull6 | exact H.pull7); (case e => exact ⟨rfl, rfl, rfl, rfl⟩); (case S => exact (by first | exact scl3 | exact scl9 | exact scl22)); (case hv => exact rfl); (case h1 => exact rfl); (case ho => exact Nat.le_of_ble_eq_true rfl); (case hc => exact rfl)) | (apply Hp.stA; (case H => first | exact H | exact H.pull1 | exact H.pull2 | exact H.pull3 | exact H.pull4 | exact H.pull5 | exact H.pull6 | exact H.pull7); (case e => exact ⟨rfl, rfl, rfl, rfl⟩); (case S => exact (by first | exact agg24 | exact agg52)); (case hn => exact rfl); (case h1 => exact rfl); (case ho => exact Nat.le_of_ble_eq_true rfl); (case hc => exact rfl))); clear H; intro _ H; (try simp only [over, List.set_cons_zero, List.set_cons_succ] at H))))
    refine onP_mk had ⟨⟨by omega, h⟩, _, hAw.str hp had, ?_⟩
    (repeat (first | ((repeat apply Exists.intro); first | refine ⟨H.ld (by exact ⟨rfl, rfl, rfl, rfl⟩) (by first | exact scl3 | exact scl9 | exact scl22) (by repeat first | exact .head _ | refine .tail _ ?_) rfl, ?_⟩ | refine ⟨H.ldA (by exact ⟨rfl, rfl, rfl, rfl⟩) (by first | exact agg24 | exact agg52) (by repeat first | exact .head _ | refine .tail _ ?_) rfl rfl, ?_⟩) | (intro _ _ hn; replace H := H.new (by exact ⟨rfl, rfl, rfl, rfl⟩) hn; clear hn) | ((first | (apply Hp.st; (case H => first | exact H | exact H.pull1 | exact H.pull2 | exact H.pull3 | exact H.pull4 | exact H.pull5 | exact H.pull6 | exact H.pull7); (case e => exact ⟨rfl, rfl, rfl, rfl⟩); (case S => exact (by first | exact scl3 | exact scl9 | exact scl22)); (case hv => exact rfl); (case h1 => exact rfl); (case ho => exact Nat.le_of_ble_eq_true rfl); (case hc => exact rfl)) | (apply Hp.stA; (case H => first | exact H | exact H.pull1 | exact H.pull2 | exact H.pull3 | exact H.pull4 | exact H.pull5 | exact H.pull6 | exact H.pull7); (case e => exact ⟨rfl, rfl, rfl, rfl⟩); (case S => exact (by first | exact agg24 | exact agg52)); (case hn => exact rfl); (case h1 => exact rfl); (case ho => exact Nat.le_of_ble_eq_true rfl); (case hc => exact rfl))); clear H; intro _ H; (try simp only [over, List.set_cons_zero, List.set_cons_succ] at H))))
    refine onP_mk had ⟨⟨by omega, h⟩, _, hAw.str hp had, ?_⟩
    refine callV (rnumber_spec _ 2 (by have := hin.1.1; omega) (by have := hin.1.2; omega) (by omega) _) ?_
    (rintro _ _ ⟨rfl, H'⟩; (first | replace H := H.ext0 H' | replace H := H.drew.ext0 H' | replace H := H.drew.drew.ext0 H'); clear H'; refine ⟨_, rfl, ?_⟩)
    refine ⟨(hA.chg H.chg (by simp)).str hp had, ?_⟩
    (repeat (first | ((repeat apply Exists.intro); first | refine ⟨H.ld (by exact ⟨rfl, rfl, rfl, rfl⟩) (by first | exact scl3 | exact scl9 | exact scl22) (by repeat first | exact .head _ | refine .tail _ ?_) rfl, ?_⟩ | refine ⟨H.ldA (by exact ⟨rfl, rfl, rfl, rfl⟩) (by first | exact agg24 | exact agg52) (by repeat first | exact .head _ | refine .tail _ ?_) rfl rfl, ?_⟩) | (intro _ _ hn; replace H := H.new (by exact ⟨rfl, rfl, rfl, rfl⟩) hn; clear hn) | ((first | (apply Hp.st; (case H => first | exact H | exact H.pull1 | exact H.pull2 | exact H.pull3 | exact H.pull4 | exact H.pull5 | exact H.pull6 | exact H.pull7); (case e => exact ⟨rfl, rfl, rfl, rfl⟩); (case S => exact (by first | exact scl3 | exact scl9 | exact scl22)); (case hv => exact rfl); (case h1 => exact rfl); (case ho => exact Nat.le_of_ble_eq_true rfl); (case hc => exact rfl)) | (apply Hp.stA; (case H => first | exact H | exact H.pull1 | exact H.pull2 | exact H.pull3 | exact H.pull4 | exact H.pull5 | exact H.pull6 | exact H.pull7); (case e => exact ⟨rfl, rfl, rfl, rfl⟩); (case S => exact (by first | exact agg24 | exact agg52)); (case hn => exact rfl); (case h1 => exact rfl); (case ho => exact Nat.le_of_ble_eq_true rfl); (case hc => exact rfl))); clear H; intro _ H; (try simp only [over, List.set_cons_zero, List.set_cons_succ] at H))))
    refine ⟨(hA.chg H.chg (by simp)).str hp had, ?_⟩
    (repeat (first | ((repeat apply Exists.intro); first | refine ⟨H.ld (by exact ⟨rfl, rfl, rfl, rfl⟩) (by first | exact scl3 | exact scl9 | exact scl22) (by repeat first | exact .head _ | refine .tail _ ?_) rfl, ?_⟩ | refine ⟨H.ldA (by exact ⟨rfl, rfl, rfl, rfl⟩) (by first | exact agg24 | exact agg52) (by repeat first | exact .head _ | refine .tail _ ?_) rfl rfl, ?_⟩) | (intro _ _ hn; replace H := H.new (by exact ⟨rfl, rfl, rfl, rfl⟩) hn; clear hn) | ((first | (apply Hp.st; (case H => first | exact H | exact H.pull1 | exact H.pull2 | exact H.pull3 | exact H.pull4 | exact H.pull5 | exact H.pull6 | exact H.pull7); (case e => exact ⟨rfl, rfl, rfl, rfl⟩); (case S => exact (by first | exact scl3 | exact scl9 | exact scl22)); (case hv => exact rfl); (case h1 => exact rfl); (case ho => exact Nat.le_of_ble_eq_true rfl); (case hc => exact rfl)) | (apply Hp.stA; (case H => first | exact H | exact H.pull1 | exact H.pull2 | exact H.pull3 | exact H.pull4 | exact H.pull5 | exact H.pull6 | exact H.pull7); (case e => exact ⟨rfl, rfl, rfl, rfl⟩); (case S => exact (by first | exact agg24 | exact agg52)); (case hn => exact rfl); (case h1 => exact rfl); (case ho => exact Nat.le_of_ble_eq_true rfl); (case hc => exact rfl))); clear H; intro _ H; (try simp only [over, List.set_cons_zero, List.set_cons_succ] at H))))
    refine ⟨(by simp only [mk_append, mk_size, List.length_append, be_length]; omega), ?_⟩
    refine callV (rnumber_spec _ 2 (by omega) (by omega) (by omega) _) ?_
    (rintro _ _ ⟨rfl, H'⟩; (first | replace H := H.ext0 H' | replace H := H.drew.ext0 H' | replace H := H.drew.drew.ext0 H'); clear H'; refine ⟨_, rfl, ?_⟩)
    refine ⟨(hA.chg H.chg (by simp)).str hp had, ?_⟩
    (repeat (first | ((repeat apply Exists.intro); first | refine ⟨H.ld (by exact ⟨rfl, rfl, rfl, rfl⟩) (by first | exact scl3 | exact scl9 | exact scl22) (by repeat first | exact .head _ | refine .tail _ ?_) rfl, ?_⟩ | refine ⟨H.ldA (by exact ⟨rfl, rfl, rfl, rfl⟩) (by first | exact agg24 | exact agg52) (by repeat first | exact .head _ | refine .tail _ ?_) rfl rfl, ?_⟩) | (intro _ _ hn; replace H := H.new (by exact ⟨rfl, rfl, rfl, rfl⟩) hn; clear hn) | ((first | (apply Hp.st; (case H => first | exact H | exact H.pull1 | exact H.pull2 | exact H.pull3 | exact H.pull4 | exact H.pull5 | exact H.pull6 | exact H.pull7); (case e => exact ⟨rfl, rfl, rfl, rfl⟩); (case S => exact (by first | exact scl3 | exact scl9 | exact scl22)); (case hv => exact rfl); (case h1 => exact rfl); (case ho => exact Nat.le_of_ble_eq_true rfl); (case hc => exact rfl)) | (apply Hp.stA; (case H => first | exact H | exact H.pull1 | exact H.pull2 | exact H.pull3 | exact H.pull4 | exact H.pull5 | exact H.pull6 | exact H.pull7); (case e => exact ⟨rfl, rfl, rfl, rfl⟩); (case S => exact (by first | exact agg24 | exact agg52)); (case hn => exact rfl); (case h1 => exact rfl); (case ho => exact Nat.le_of_ble_eq_true rfl); (case hc => exact rfl))); clear H; intro _ H; (try simp only [over, List.set_cons_zero, List.set_cons_succ] at H))))
    refine ⟨(by simp only [mk_append, mk_size, List.length_append, be_length]; omega), (by simp only [mk_append, mk_size, List.length_append, be_length]; omega), inR64.2 (by omega), hnext (n - (k + 1)) _ _ (by omega) ⟨k + 1, rfl, ?_, by omega, H⟩⟩
    rw [hsp, Prod.mk.injEq]
    refine ⟨?_, by simp⟩
    have e2 : r.attrs[k].2.data.toList = av := by rw [hav]
    rw [e2]
    conv => lhs; rw [hav]
    simp only [mk_append, mk_size, List.append_assoc, hvl]
  · have hkn : k = n := by omega
    subst hkn
    rw [hlen, List.take_length, ← hlen, hstart, mk_size]
    refine LoopP.mk (fun m s w2 => ∃ j : Nat, m = 40 - j ∧ s = (j : Int) ∧ j ≤ manyOf (wholeB r).length ∧ Hp [] w w2 [.blk b [.int .i64 r.id, .int .i64 r.parent, .int .i64 r.kind, .int .i64 r.name, .int .i64 r.frm, .int .i64 r.to, .string r.text, .slice a k c] 24]) 40 ⟨0, rfl, rfl, Nat.zero_le _, H⟩ ?_
    clear H hnext next
    rintro m s w2 next ⟨j, rfl, rfl, hj, H⟩ hnext
    have hm : manyOf (wholeB r).length ≤ 34 := by unfold manyOf; omega
    refine ⟨inR64.2 (by omega), br_dec (fun h1 => ⟨inR64.2 (by omega), hnext (40 - (j + 1)) _ _ (by omega) ⟨j + 1, rfl, by simp, by unfold manyOf at hj ⊢; omega, H⟩⟩) (fun h1 => ?_)⟩
    have hjm : j = manyOf (wholeB r).length := by unfold manyOf at hj ⊢; omega
    subst hjm
    clear hnext next hj
    refine LoopP.mk (fun m s w' => ∃ q a' c', m = manyOf (wholeB r).length - q ∧ s = ((a', q, c'), (q : Int)) ∧ q ≤ manyOf (wholeB r).length ∧
      Hp [] w w' [.own 9 1 a' q c' (((pieces r).take q).map sv), .blk b [.int .i64 r.id, .int .i64 r.parent, .int .i64 r.kind, .int .i64 r.name, .int .i64 r.frm, .int .i64 r.to, .string r.text, .slice a k c] 24]) (manyOf (wholeB r).length) ⟨0, none, 0, rfl, rfl, Nat.zero_le _, by simpa using H.nilS 9 1⟩ ?_
    clear H
    rintro m s w' next ⟨q, a', c', rfl, rfl, hq, H⟩ hnext
    dsimp only
    refine br_dec (fun h1 => ?_) (fun h1 => ?_)
    · have hqm : q < manyOf (wholeB r).length := by omega
      have hk9 : 900 * q < (wholeB r).length := by unfold manyOf at hqm; omega
      have en : Int.toNat (900 * (q : Int)) = 900 * q := by omega
      have em : Int.toNat (min (900 * (q : Int) + 900) ((wholeB r).length : Int)) = min (900 * q + 900) (wholeB r).length := by omega
      have eext : (ByteArray.mk (wholeB r).toArray).extract (900 * q) (min (900 * q + 900) (wholeB r).length) = ⟨(((wholeB r).drop (900 * q)).take 900).toArray⟩ := by
        rw [ext_mk]
        congr 2
        apply List.ext_getElem?
        intro i
        rw [List.getElem?_drop, List.getElem?_take, List.getElem?_take, List.getElem?_drop]
        by_cases h2 : 900 * q + i < (wholeB r).length
        · by_cases h3 : i < 900
          · rw [if_pos h3, if_pos (by omega)]
          · rw [if_neg h3, if_neg (by omega)]
        · rw [List.getElem?_eq_none (by omega)]; simp
      rw [en, em, eext]
      replace H := H.drew
      (repeat (first | ((repeat apply Exists.intro); first | refine ⟨H.ld (by exact ⟨rfl, rfl, rfl, rfl⟩) (by first | exact scl3 | exact scl9 | exact scl22) (by repeat first | exact .head _ | refine .tail _ ?_) rfl, ?_⟩ | refine ⟨H.ldA (by exact ⟨rfl, rfl, rfl, rfl⟩) (by first | exact agg24 | exact agg52) (by repeat first | exact .head _ | refine .tail _ ?_) rfl rfl, ?_⟩) | (intro _ _ hn; replace H := H.new (by exact ⟨rfl, rfl, rfl, rfl⟩) hn; clear hn) | ((first | (apply Hp.st; (case H => first | exact H | exact H.pull1 | exact H.pull2 | exact H.pull3 | exact H.pull4 | exact H.pull5 | exact H.pull6 | exact H.pull7); (case e => exact ⟨rfl, rfl, rfl, rfl⟩); (case S => exact (by first | exact scl3 | exact scl9 | exact scl22)); (case hv => exact rfl); (case h1 => exact rfl); (case ho => exact Nat.le_of_ble_eq_true rfl); (case hc => exact rfl)) | (apply Hp.stA; (case H => first | exact H | exact H.pull1 | exact H.pull2 | exact H.pull3 | exact H.pull4 | exact H.pull5 | exact H.pull6 | exact H.pull7); (case e => exact ⟨rfl, rfl, rfl, rfl⟩); (case S => exact (by first | exact agg24 | exact agg52)); (case hn => exact rfl); (case h1 => exact rfl); (case ho => exact Nat.le_of_ble_eq_true rfl); (case hc => exact rfl))); clear H; intro _ H; (try simp only [over, List.set_cons_zero, List.set_cons_succ] at H))))
      refine ⟨inR64.2 (by omega), inR64.2 (by omega), inR64.2 (by omega), ⟨by omega, by omega, by omega⟩, ?_⟩
      refine callV (rnumber_spec _ 4 (by omega) (by omega) (by omega) _) ?_
      (rintro _ _ ⟨rfl, H'⟩; (first | replace H := H.ext0 H' | replace H := H.drew.ext0 H' | replace H := H.drew.drew.ext0 H'); clear H'; refine ⟨_, rfl, ?_⟩)
      refine callV (rnumber_spec _ 1 (by omega) (by omega) (by omega) _) ?_
      (rintro _ _ ⟨rfl, H'⟩; (first | replace H := H.ext0 H' | replace H := H.drew.ext0 H' | replace H := H.drew.drew.ext0 H'); clear H'; refine ⟨_, rfl, ?_⟩)
      refine ⟨(by simp only [mk_append, mk_size, List.length_append, be_length]; omega), ?_⟩
      refine callV (rnumber_spec _ 1 (by omega) (by omega) (by omega) _) ?_
      (rintro _ _ ⟨rfl, H'⟩; (first | replace H := H.ext0 H' | replace H := H.drew.ext0 H' | replace H := H.drew.drew.ext0 H'); clear H'; refine ⟨_, rfl, ?_⟩)
      have hpl2 : (((wholeB r).drop (900 * q)).take 900).length ≤ 900 := by rw [List.length_take]; omega
      refine ⟨(by simp only [mk_append, mk_size, List.length_append, be_length]; omega), (by simp only [mk_append, mk_size, List.length_append, be_length]; omega), ?_⟩
      simp only [mk_append]
      have epb : be r.id 4 ++ be (q : Int) 1 ++ be (manyOf (wholeB r).length : Int) 1 ++ ((wholeB r).drop (900 * q)).take 900 = pieceB r q := by
        rw [pieceB, headB]; simp [laid]
      rw [epb]
      (repeat (first | ((repeat apply Exists.intro); first | refine ⟨H.ld (by exact ⟨rfl, rfl, rfl, rfl⟩) (by first | exact scl3 | exact scl9 | exact scl22) (by repeat first | exact .head _ | refine .tail _ ?_) rfl, ?_⟩ | refine ⟨H.ldA (by exact ⟨rfl, rfl, rfl, rfl⟩) (by first | exact agg24 | exact agg52) (by repeat first | exact .head _ | refine .tail _ ?_) rfl rfl, ?_⟩) | (intro _ _ hn; replace H := H.new (by exact ⟨rfl, rfl, rfl, rfl⟩) hn; clear hn) | ((first | (apply Hp.st; (case H => first | exact H | exact H.pull1 | exact H.pull2 | exact H.pull3 | exact H.pull4 | exact H.pull5 | exact H.pull6 | exact H.pull7); (case e => exact ⟨rfl, rfl, rfl, rfl⟩); (case S => exact (by first | exact scl3 | exact scl9 | exact scl22)); (case hv => exact rfl); (case h1 => exact rfl); (case ho => exact Nat.le_of_ble_eq_true rfl); (case hc => exact rfl)) | (apply Hp.stA; (case H => first | exact H | exact H.pull1 | exact H.pull2 | exact H.pull3 | exact H.pull4 | exact H.pull5 | exact H.pull6 | exact H.pull7); (case e => exact ⟨rfl, rfl, rfl, rfl⟩); (case S => exact (by first | exact agg24 | exact agg52)); (case hn => exact rfl); (case h1 => exact rfl); (case ho => exact Nat.le_of_ble_eq_true rfl); (case hc => exact rfl))); clear H; intro _ H; (try simp only [over, List.set_cons_zero, List.set_cons_succ] at H))))
      refine Hp.app elt26 (by omega) H.pull1 (by exact ⟨rfl, rfl, rfl, rfl⟩) (Blk.src (P := Go.Proofs.Try.prog) (show Go.Proofs.Try.prog.underlying 26 = some (.slice 9) by kernel_rfl) (H.blk (.head _)) rfl rfl) (by omega) (by omega) ?_
      clear H
      intro a6 c6 w6 H
      refine ⟨inR64.2 (by omega), hnext (manyOf (wholeB r).length - (q + 1)) _ _ (by omega) ⟨q + 1, a6, c6, rfl, rfl, by omega, ?_⟩⟩
      have ep : ((pieces r).take (q + 1)).map sv = ((pieces r).take q).map sv ++ [.string ⟨(pieceB r q).toArray⟩] := by
        rw [List.take_succ_eq_append_getElem (by omega), List.map_append]
        simp [pieces, sv]
      rw [ep]
      exact H.del1
    · have hqm : q = manyOf (wholeB r).length := by omega
      subst hqm
      rw [← hpl, List.take_length] at H
      rw [← hpl]
      exact ⟨a', c', rfl, H.done1⟩
end Go.Proofs.Ytcgaobfbgfefhaa
