/- Folio: the reference's 'Decode'. -/
import Derived.Test.YtcgaobfbgfefhaaFm
set_option linter.unusedVariables false
set_option linter.unusedSimpArgs false
namespace Go.Proofs.Ytcgaobfbgfefhaa
open Go Go.Vc

theorem pieces_six {r : Rec} {s : List UInt8} (h : s ∈ pieces r) : 6 ≤ s.length := by
  obtain ⟨k, _, rfl⟩ := List.mem_map.1 h
  rw [piece_len]; omega
theorem tail_bits {r : Rec} (h : rightP r) {s : List UInt8} (hs : s = wholeB r) {T : Nat} (hT : T = r.text.size) :
    partL s 29 T = r.text.data.toList ∧ (valN (partL s (29 + T) 1) : Int) = r.attrs.length ∧ s.drop (30 + T) = attrsB r.attrs := by
  have hw := whole_small h
  obtain ⟨_, _, _, _, _, _, _, e, _⟩ := whole_bits h hs
  subst hT
  have hl : r.text.data.toList.length = r.text.size := Array.length_toList
  have l1 : ∀ n : Int, (be n 1).length = 1 := fun n => be_length n 1
  have e2 : s.drop (29 + r.text.size) = be (r.attrs.length : Int) 1 ++ attrsB r.attrs := by rw [← List.drop_drop, e]; exact drop_left _ _ _ hl
  refine ⟨?_, ?_, ?_⟩
  · rw [part_eq, e]; exact take_left _ _ _ hl
  · rw [part_eq, e2, take_left _ _ 1 (l1 _)]; exact valN_be' (by omega) (by omega)
  · rw [show 30 + r.text.size = (29 + r.text.size) + 1 by omega, ← List.drop_drop, e2]; exact drop_left _ _ 1 (l1 _)
theorem attrsB_append (x y : List (Int × ByteArray)) : attrsB (x ++ y) = attrsB x ++ attrsB y := by simp [attrsB]
theorem drop_attrs (l : List (Int × ByteArray)) (k : Nat) : (attrsB l).drop (attrsB (l.take k)).length = attrsB (l.drop k) := by
  have h : (attrsB l).drop (attrsB (l.take k)).length = (attrsB (l.take k) ++ attrsB (l.drop k)).drop (attrsB (l.take k)).length := by
    rw [← attrsB_append, List.take_append_drop]
  rw [h]; exact drop_left _ _ _ rfl
theorem attr_step {r : Rec} (h : rightP r) {s : List UInt8} (hs : s = wholeB r) {k at_ : Nat} (hk : k < r.attrs.length) (hat : at_ = 30 + r.text.size + (attrsB (r.attrs.take k)).length) :
    (valN (partL s at_ 2) : Int) = r.attrs[k].1 ∧ valN (partL s (at_ + 2) 2) = r.attrs[k].2.size ∧ partL s (at_ + 4) r.attrs[k].2.size = r.attrs[k].2.data.toList := by
  obtain ⟨_, _, e⟩ := tail_bits h hs rfl
  have e2 : s.drop at_ = attrsB (r.attrs.drop k) := by
    rw [hat, ← List.drop_drop, e, drop_attrs]
  rw [List.drop_eq_getElem_cons hk] at e2
  have hin : named1 r.attrs[k].1 ∧ r.attrs[k].2.size ≤ 1500 := by
    rcases h.2.2.2.2.2.2.2 with ⟨_, h1, _⟩ | ⟨_, _, h1, _⟩
    · exact h1 _ (List.getElem_mem hk)
    · rw [h1] at hk; simp at hk
  have e3 : s.drop at_ = be r.attrs[k].1 2 ++ (be (r.attrs[k].2.size : Int) 2 ++ (r.attrs[k].2.data.toList ++ attrsB (r.attrs.drop (k + 1)))) := by
    rw [e2, attrsB, List.flatMap_cons, ← attrsB]; simp only [List.append_assoc]
  have l2 : ∀ n : Int, (be n 2).length = 2 := fun n => be_length n 2
  have e4 : s.drop (at_ + 2) = be (r.attrs[k].2.size : Int) 2 ++ (r.attrs[k].2.data.toList ++ attrsB (r.attrs.drop (k + 1))) := by
    rw [← List.drop_drop, e3]; exact drop_left _ _ 2 (l2 _)
  have e5 : s.drop (at_ + 4) = r.attrs[k].2.data.toList ++ attrsB (r.attrs.drop (k + 1)) := by
    rw [show at_ + 4 = (at_ + 2) + 2 by omega, ← List.drop_drop, e4]; exact drop_left _ _ 2 (l2 _)
  obtain ⟨⟨g1, g2⟩, g3⟩ := hin
  refine ⟨?_, ?_, ?_⟩
  · rw [part_eq, e3, take_left _ _ 2 (l2 _)]; exact valN_be' (by omega) (by omega)
  · rw [part_eq, e4, take_left _ _ 2 (l2 _)]
    have : (valN (be (r.attrs[k].2.size : Int) 2) : Int) = r.attrs[k].2.size := valN_be' (by omega) (by omega)
    omega
  · rw [part_eq, e5]; exact take_left _ _ _ Array.length_toList
theorem valN_le (x : List UInt8) {k : Nat} (h : x.length ≤ k) : valN x < 256 ^ k :=
  Nat.lt_of_lt_of_le (valN_lt x) (Nat.pow_le_pow_right (by omega) h)
theorem part_len (s : List UInt8) (i n : Nat) : (partL s i n).length ≤ n := by rw [part_eq, List.length_take]; omega
theorem dt_len (s : List UInt8) (i j : Nat) : ((s.take j).drop i).length ≤ j - i := by rw [List.length_drop, List.length_take]; omega

set_option maxRecDepth 100000 in
set_option maxHeartbeats 2000000 in
theorem rdecode_spec (l : List (List UInt8)) (a : Option Addr) (n c : Nat) (w : World) (hS : StrS w a n l) (hn : n ≤ 60) (hbig : ∀ s ∈ l, s.length ≤ 140737488355328) :
    Calls Go.Proofs.Try.prog 18 #[.slice a n c] w fun e w' => (∃ r a' c', decR l r ∧ e = .returned (.tuple #[r.val a' r.attrs.length c', .int .i64 0]) ∧ Hp [] w w' [.own 52 2 a' r.attrs.length c' (attrCells r.attrs)]) ∨
      ((¬ ∃ r, decR l r) ∧ e = .returned (.tuple #[zrec, .int .i64 160]) ∧ Hp [] w w' []) := by
  have H := Hp.start w
  have hmax : maxLen = 9223372036854775807 := by simp [maxLen]
  have hlen := hS.len
  apply rdecode.ok
  unfold rdecode.vc
  (first | ((repeat apply Exists.intro); first | refine ⟨H.ld (by exact ⟨rfl, rfl, rfl, rfl⟩) (by first | exact scl3 | exact scl9 | exact scl22) (by repeat first | exact .head _ | refine .tail _ ?_) rfl, ?_⟩ | refine ⟨H.ldA (by exact ⟨rfl, rfl, rfl, rfl⟩) (by first | exact agg24 | exact agg52) (by repeat first | exact .head _ | refine .tail _ ?_) rfl rfl, ?_⟩) | (intro _ _ hn; replace H := H.new (by exact ⟨rfl, rfl, rfl, rfl⟩) hn; clear hn) | ((first | (apply Hp.st; (case H => first | exact H | exact H.pull1 | exact H.pull2 | exact H.pull3 | exact H.pull4 | exact H.pull5 | exact H.pull6 | exact H.pull7); (case e => exact ⟨rfl, rfl, rfl, rfl⟩); (case S => exact (by first | exact scl3 | exact scl9 | exact scl22)); (case hv => exact rfl); (case h1 => exact rfl); (case ho => exact Nat.le_of_ble_eq_true rfl); (case hc => exact rfl)) | (apply Hp.stA; (case H => first | exact H | exact H.pull1 | exact H.pull2 | exact H.pull3 | exact H.pull4 | exact H.pull5 | exact H.pull6 | exact H.pull7); (case e => exact ⟨rfl, rfl, rfl, rfl⟩); (case S => exact (by first | exact agg24 | exact agg52)); (case hn => exact rfl); (case h1 => exact rfl); (case ho => exact Nat.le_of_ble_eq_true rfl); (case hc => exact rfl))); clear H; intro _ H; (try simp only [over, List.set_cons_zero, List.set_cons_succ] at H)))
  rename_i b _
  refine LoopP.mk (fun m s w' => ∃ k : Nat, m = n - k ∧ s = (⟨(joinB (l.take k)).toArray⟩, (k : Int)) ∧ k ≤ n ∧ (joinB (l.take k)).length ≤ k * 140737488355328 ∧
    Hp [] w w' [.blk b [.int .i64 0, .int .i64 0, .int .i64 0, .int .i64 0, .int .i64 0, .int .i64 0, .string ⟨#[]⟩, .slice none 0 0] 24]) n ⟨0, rfl, rfl, Nat.zero_le _, by simp [joinB], H⟩ ?_
  clear H
  rintro m s w' next ⟨k, rfl, rfl, hk, hj, H⟩ hnext
  dsimp only
  refine br_dec (fun h => ?_) (fun h => ?_)
  · have hkl : k < l.length := by omega
    have hp : l[k]? = some l[k] := List.getElem?_eq_getElem hkl
    have hb := hbig _ (List.getElem_mem hkl)
    obtain ⟨ad, had, hld⟩ := (hS.chg H.chg (by simp)).ld hp
    refine onP_mk had ⟨⟨by omega, h⟩, _, hld, ?_⟩
    rw [mk_size]
    refine br_dec (fun h1 => ?_) (fun h1 => onP_mk had ⟨⟨by omega, h⟩, _, hld, ?_⟩)
    · (repeat (first | ((repeat apply Exists.intro); first | refine ⟨H.ld (by exact ⟨rfl, rfl, rfl, rfl⟩) (by first | exact scl3 | exact scl9 | exact scl22) (by repeat first | exact .head _ | refine .tail _ ?_) rfl, ?_⟩ | refine ⟨H.ldA (by exact ⟨rfl, rfl, rfl, rfl⟩) (by first | exact agg24 | exact agg52) (by repeat first | exact .head _ | refine .tail _ ?_) rfl rfl, ?_⟩) | (intro _ _ hn; replace H := H.new (by exact ⟨rfl, rfl, rfl, rfl⟩) hn; clear hn) | ((first | (apply Hp.st; (case H => first | exact H | exact H.pull1 | exact H.pull2 | exact H.pull3 | exact H.pull4 | exact H.pull5 | exact H.pull6 | exact H.pull7); (case e => exact ⟨rfl, rfl, rfl, rfl⟩); (case S => exact (by first | exact scl3 | exact scl9 | exact scl22)); (case hv => exact rfl); (case h1 => exact rfl); (case ho => exact Nat.le_of_ble_eq_true rfl); (case hc => exact rfl)) | (apply Hp.stA; (case H => first | exact H | exact H.pull1 | exact H.pull2 | exact H.pull3 | exact H.pull4 | exact H.pull5 | exact H.pull6 | exact H.pull7); (case e => exact ⟨rfl, rfl, rfl, rfl⟩); (case S => exact (by first | exact agg24 | exact agg52)); (case hn => exact rfl); (case h1 => exact rfl); (case ho => exact Nat.le_of_ble_eq_true rfl); (case hc => exact rfl))); clear H; intro _ H; (try simp only [over, List.set_cons_zero, List.set_cons_succ] at H))))
      refine .inr ⟨?_, rfl, H.done⟩
      rintro ⟨r, hr, rfl⟩
      have := pieces_six (List.getElem_mem hkl)
      omega
    · rw [mk_size, ext_mk, t6, mk_append, mk_size, mk_size, List.take_length]
      have ej : joinB (l.take (k + 1)) = joinB (l.take k) ++ l[k].drop 6 := by
        rw [List.take_succ_eq_append_getElem hkl, joinB, List.flatMap_append]
        simp [joinB]
      have hd : (l[k].drop 6).length = l[k].length - 6 := List.length_drop
      have hle : (joinB (l.take (k + 1))).length ≤ (k + 1) * 140737488355328 := by rw [ej, List.length_append]; omega
      refine ⟨⟨by omega, by omega⟩, by omega, inR64.2 (by omega), hnext (n - (k + 1)) _ _ (by omega) ⟨k + 1, rfl, ?_, by omega, hle, H⟩⟩
      rw [ej]; simp
  have hkl : k = l.length := by omega
  subst hkl
  rw [List.take_length] at hj ⊢
  have hs30 : ∀ r, decR l r → rightP r ∧ joinB l = wholeB r ∧ 30 ≤ (joinB l).length := fun r hr => ⟨hr.1, (decR_join hr).2.1, (decR_join hr).2.2.1⟩
  generalize joinB l = s0 at hj hs30 ⊢
  have hs0 : s0.length ≤ 8444249301319680 := Nat.le_trans hj (Nat.le_trans (m := 60 * 140737488355328) (Nat.mul_le_mul_right _ (by omega)) (Nat.le_of_ble_eq_true rfl))
  clear hj
  clear hnext next h
  have no : (∀ r, decR l r → False) → ¬ ∃ r, decR l r := fun h ⟨r, hr⟩ => h r hr
  rw [mk_size]
  refine br_dec (fun h30 => ?_) (fun h30 => ?_)
  · (repeat (first | ((repeat apply Exists.intro); first | refine ⟨H.ld (by exact ⟨rfl, rfl, rfl, rfl⟩) (by first | exact scl3 | exact scl9 | exact scl22) (by repeat first | exact .head _ | refine .tail _ ?_) rfl, ?_⟩ | refine ⟨H.ldA (by exact ⟨rfl, rfl, rfl, rfl⟩) (by first | exact agg24 | exact agg52) (by repeat first | exact .head _ | refine .tail _ ?_) rfl rfl, ?_⟩) | (intro _ _ hn; replace H := H.new (by exact ⟨rfl, rfl, rfl, rfl⟩) hn; clear hn) | ((first | (apply Hp.st; (case H => first | exact H | exact H.pull1 | exact H.pull2 | exact H.pull3 | exact H.pull4 | exact H.pull5 | exact H.pull6 | exact H.pull7); (case e => exact ⟨rfl, rfl, rfl, rfl⟩); (case S => exact (by first | exact scl3 | exact scl9 | exact scl22)); (case hv => exact rfl); (case h1 => exact rfl); (case ho => exact Nat.le_of_ble_eq_true rfl); (case hc => exact rfl)) | (apply Hp.stA; (case H => first | exact H | exact H.pull1 | exact H.pull2 | exact H.pull3 | exact H.pull4 | exact H.pull5 | exact H.pull6 | exact H.pull7); (case e => exact ⟨rfl, rfl, rfl, rfl⟩); (case S => exact (by first | exact agg24 | exact agg52)); (case hn => exact rfl); (case h1 => exact rfl); (case ho => exact Nat.le_of_ble_eq_true rfl); (case hc => exact rfl))); clear H; intro _ H; (try simp only [over, List.set_cons_zero, List.set_cons_succ] at H))))
    exact .inr ⟨no fun r hr => (by have := (hs30 r hr).2.2; omega), rfl, H.done⟩
  refine callV (part_spec s0 8 1 (by omega) _) ?_
  (rintro _ _ ⟨rfl, H'⟩; (first | replace H := H.ext0 H' | replace H := H.drew.ext0 H' | replace H := H.drew.drew.ext0 H'); clear H'; refine ⟨_, rfl, ?_⟩)
  have dl : ∀ x : List UInt8, (ByteArray.mk x.toArray).data.toList = x := fun x => by simp
  simp only [dl]
  rw [part_eq]
  refine br_not (fun h8 => ?_) (fun h8 => ?_)
  · (repeat (first | ((repeat apply Exists.intro); first | refine ⟨H.ld (by exact ⟨rfl, rfl, rfl, rfl⟩) (by first | exact scl3 | exact scl9 | exact scl22) (by repeat first | exact .head _ | refine .tail _ ?_) rfl, ?_⟩ | refine ⟨H.ldA (by exact ⟨rfl, rfl, rfl, rfl⟩) (by first | exact agg24 | exact agg52) (by repeat first | exact .head _ | refine .tail _ ?_) rfl rfl, ?_⟩) | (intro _ _ hn; replace H := H.new (by exact ⟨rfl, rfl, rfl, rfl⟩) hn; clear hn) | ((first | (apply Hp.st; (case H => first | exact H | exact H.pull1 | exact H.pull2 | exact H.pull3 | exact H.pull4 | exact H.pull5 | exact H.pull6 | exact H.pull7); (case e => exact ⟨rfl, rfl, rfl, rfl⟩); (case S => exact (by first | exact scl3 | exact scl9 | exact scl22)); (case hv => exact rfl); (case h1 => exact rfl); (case ho => exact Nat.le_of_ble_eq_true rfl); (case hc => exact rfl)) | (apply Hp.stA; (case H => first | exact H | exact H.pull1 | exact H.pull2 | exact H.pull3 | exact H.pull4 | exact H.pull5 | exact H.pull6 | exact H.pull7); (case e => exact ⟨rfl, rfl, rfl, rfl⟩); (case S => exact (by first | exact agg24 | exact agg52)); (case hn => exact rfl); (case h1 => exact rfl); (case ho => exact Nat.le_of_ble_eq_true rfl); (case hc => exact rfl))); clear H; intro _ H; (try simp only [over, List.set_cons_zero, List.set_cons_succ] at H))))
    exact .inr ⟨no fun r hr => (by have := (whole_bits (hs30 r hr).1 (hs30 r hr).2.1).2.2.2.2.2.2.2.2.1; rw [h8] at this; cases this), rfl, H.done⟩
  refine callV (part_spec s0 16 1 (by omega) _) ?_
  (rintro _ _ ⟨rfl, H'⟩; (first | replace H := H.ext0 H' | replace H := H.drew.ext0 H' | replace H := H.drew.drew.ext0 H'); clear H'; refine ⟨_, rfl, ?_⟩)
  simp only [dl]
  rw [part_eq]
  refine br_not (fun h16 => ?_) (fun h16 => ?_)
  · (repeat (first | ((repeat apply Exists.intro); first | refine ⟨H.ld (by exact ⟨rfl, rfl, rfl, rfl⟩) (by first | exact scl3 | exact scl9 | exact scl22) (by repeat first | exact .head _ | refine .tail _ ?_) rfl, ?_⟩ | refine ⟨H.ldA (by exact ⟨rfl, rfl, rfl, rfl⟩) (by first | exact agg24 | exact agg52) (by repeat first | exact .head _ | refine .tail _ ?_) rfl rfl, ?_⟩) | (intro _ _ hn; replace H := H.new (by exact ⟨rfl, rfl, rfl, rfl⟩) hn; clear hn) | ((first | (apply Hp.st; (case H => first | exact H | exact H.pull1 | exact H.pull2 | exact H.pull3 | exact H.pull4 | exact H.pull5 | exact H.pull6 | exact H.pull7); (case e => exact ⟨rfl, rfl, rfl, rfl⟩); (case S => exact (by first | exact scl3 | exact scl9 | exact scl22)); (case hv => exact rfl); (case h1 => exact rfl); (case ho => exact Nat.le_of_ble_eq_true rfl); (case hc => exact rfl)) | (apply Hp.stA; (case H => first | exact H | exact H.pull1 | exact H.pull2 | exact H.pull3 | exact H.pull4 | exact H.pull5 | exact H.pull6 | exact H.pull7); (case e => exact ⟨rfl, rfl, rfl, rfl⟩); (case S => exact (by first | exact agg24 | exact agg52)); (case hn => exact rfl); (case h1 => exact rfl); (case ho => exact Nat.le_of_ble_eq_true rfl); (case hc => exact rfl))); clear H; intro _ H; (try simp only [over, List.set_cons_zero, List.set_cons_succ] at H))))
    exact .inr ⟨no fun r hr => (by have := (whole_bits (hs30 r hr).1 (hs30 r hr).2.1).2.2.2.2.2.2.2.2.2; rw [h16] at this; cases this), rfl, H.done⟩
  have v8 : valN ((s0.take 16).drop 8) < 9223372036854775808 := valN_eight _ (by rw [List.length_drop, List.length_take]; omega) (by rw [List.drop_take, List.take_take]; exact h8)
  have v16 : valN ((s0.take 24).drop 16) < 9223372036854775808 := valN_eight _ (by rw [List.length_drop, List.length_take]; omega) (by rw [List.drop_take, List.take_take]; exact h16)
  have v0 : valN (s0.take 4) < 9223372036854775808 := valN_small _ (by rw [List.length_take]; omega)
  have v4 : valN ((s0.take 8).drop 4) < 9223372036854775808 := valN_small _ (by have := dt_len s0 4 8; omega)
  have v24 : valN ((s0.take 25).drop 24) < 9223372036854775808 := valN_small _ (by have := dt_len s0 24 25; omega)
  have v25 : valN ((s0.take 27).drop 25) < 9223372036854775808 := valN_small _ (by have := dt_len s0 25 27; omega)
  have v27 := valN_le ((s0.take 29).drop 27) (k := 2) (by have := dt_len s0 27 29; omega)
  have hx : ∀ i j, (ByteArray.mk s0.toArray).extract i j = ⟨((s0.take j).drop i).toArray⟩ := fun i j => ext_mk s0 i j
  have hdl : ∀ i j, ((s0.take j).drop i).length ≤ 9223372036854775806 := fun i j => by rw [List.length_drop, List.length_take]; omega
  have htl : ∀ j, (s0.take j).length ≤ 9223372036854775806 := fun j => by rw [List.length_take]; omega
  simp only [hx, mk_size, t4, t8, t16, t24, t25, t27, t29, List.drop_zero]
  have wb : ∀ r, decR l r → (valN (s0.take 4) : Int) = r.id ∧ (valN ((s0.take 8).drop 4) : Int) = r.parent ∧ (valN ((s0.take 16).drop 8) : Int) = r.frm ∧ (valN ((s0.take 24).drop 16) : Int) = r.to ∧ (valN ((s0.take 25).drop 24) : Int) = r.kind ∧ (valN ((s0.take 27).drop 25) : Int) = r.name ∧ (valN ((s0.take 29).drop 27) : Int) = r.text.size := fun r hr => by
    obtain ⟨b1, b2, b3, b4, b5, b6, b7, _⟩ := whole_bits (hs30 r hr).1 (hs30 r hr).2.1
    exact ⟨b1, b2, b3, b4, b5, b6, b7⟩
  have l0 := htl 4
  have l4 := hdl 4 8
  have l8 := hdl 8 16
  have l16 := hdl 16 24
  have l24 := hdl 24 25
  have l25 := hdl 25 27
  have l27 := hdl 27 29
  generalize s0.take 4 = p0 at v0 l0 wb ⊢
  generalize (s0.take 8).drop 4 = p4 at v4 l4 wb ⊢
  generalize (s0.take 16).drop 8 = p8 at v8 l8 wb ⊢
  generalize (s0.take 24).drop 16 = p16 at v16 l16 wb ⊢
  generalize (s0.take 25).drop 24 = p24 at v24 l24 wb ⊢
  generalize (s0.take 27).drop 25 = p25 at v25 l25 wb ⊢
  generalize (s0.take 29).drop 27 = p27 at v27 l27 wb ⊢
  refine JoinP.mk (fun s w' => ∃ b3, s = some ⟨b3, 0, none⟩ ∧ Hp [] w w' [.blk b3 [.int .i64 (valN p0), .int .i64 (valN p4), .int .i64 (valN p24), .int .i64 (valN p25), .int .i64 (valN p8), .int .i64 (valN p16), .string ⟨#[]⟩, .slice none 0 0] 24,
      .blk b [.int .i64 0, .int .i64 0, .int .i64 0, .int .i64 0, .int .i64 0, .int .i64 0, .string ⟨#[]⟩, .slice none 0 0] 24]) ?_ ?_
  rotate_left
  · intro J hJ
    refine ⟨?_, ?_, ?_, ?_, ?_, ?_, ?_⟩ <;>
    · refine ⟨⟨by omega, by omega⟩, ⟨by omega, by omega, by omega⟩, ⟨by omega, by omega, by omega⟩, ⟨by omega, by omega, by omega⟩, ⟨by omega, by omega, by omega⟩, ⟨by omega, by omega, by omega⟩, ?_⟩
      (repeat (first
        | (refine callV (f := 31) (args := [.string ⟨p0.toArray⟩]) (value_spec p0 v0 l0 _) ?_; (rintro _ _ ⟨rfl, H'⟩; (first | replace H := H.ext0 H' | replace H := H.drew.ext0 H' | replace H := H.drew.drew.ext0 H'); clear H'; refine ⟨_, rfl, ?_⟩))
        | (refine callV (f := 31) (args := [.string ⟨p4.toArray⟩]) (value_spec p4 v4 l4 _) ?_; (rintro _ _ ⟨rfl, H'⟩; (first | replace H := H.ext0 H' | replace H := H.drew.ext0 H' | replace H := H.drew.drew.ext0 H'); clear H'; refine ⟨_, rfl, ?_⟩))
        | (refine callV (f := 31) (args := [.string ⟨p8.toArray⟩]) (value_spec p8 v8 l8 _) ?_; (rintro _ _ ⟨rfl, H'⟩; (first | replace H := H.ext0 H' | replace H := H.drew.ext0 H' | replace H := H.drew.drew.ext0 H'); clear H'; refine ⟨_, rfl, ?_⟩))
        | (refine callV (f := 31) (args := [.string ⟨p16.toArray⟩]) (value_spec p16 v16 l16 _) ?_; (rintro _ _ ⟨rfl, H'⟩; (first | replace H := H.ext0 H' | replace H := H.drew.ext0 H' | replace H := H.drew.drew.ext0 H'); clear H'; refine ⟨_, rfl, ?_⟩))
        | (refine callV (f := 31) (args := [.string ⟨p24.toArray⟩]) (value_spec p24 v24 l24 _) ?_; (rintro _ _ ⟨rfl, H'⟩; (first | replace H := H.ext0 H' | replace H := H.drew.ext0 H' | replace H := H.drew.drew.ext0 H'); clear H'; refine ⟨_, rfl, ?_⟩))
        | (refine callV (f := 31) (args := [.string ⟨p25.toArray⟩]) (value_spec p25 v25 l25 _) ?_; (rintro _ _ ⟨rfl, H'⟩; (first | replace H := H.ext0 H' | replace H := H.drew.ext0 H' | replace H := H.drew.drew.ext0 H'); clear H'; refine ⟨_, rfl, ?_⟩))
        | (intro _ _ hn; replace H := H.new (by exact ⟨rfl, rfl, rfl, rfl⟩) hn; clear hn)
        | ((first | (apply Hp.st; (case H => first | exact H | exact H.pull1 | exact H.pull2 | exact H.pull3 | exact H.pull4 | exact H.pull5 | exact H.pull6 | exact H.pull7); (case e => exact ⟨rfl, rfl, rfl, rfl⟩); (case S => exact (by first | exact scl3 | exact scl9 | exact scl22)); (case hv => exact rfl); (case h1 => exact rfl); (case ho => exact Nat.le_of_ble_eq_true rfl); (case hc => exact rfl)) | (apply Hp.stA; (case H => first | exact H | exact H.pull1 | exact H.pull2 | exact H.pull3 | exact H.pull4 | exact H.pull5 | exact H.pull6 | exact H.pull7); (case e => exact ⟨rfl, rfl, rfl, rfl⟩); (case S => exact (by first | exact agg24 | exact agg52)); (case hn => exact rfl); (case h1 => exact rfl); (case ho => exact Nat.le_of_ble_eq_true rfl); (case hc => exact rfl))); clear H; intro _ H; (try simp only [over, List.set_cons_zero, List.set_cons_succ] at H))))
      exact hJ _ _ ⟨_, rfl, H⟩
  clear H
  rintro s w' ⟨b3, rfl, H⟩
  obtain ⟨T, hT⟩ : ∃ T, T = valN p27 := ⟨_, rfl⟩
  refine ⟨⟨by omega, by omega, by omega⟩, callV (value_spec p27 (by omega) l27 _) ?_⟩
  (rintro _ _ ⟨rfl, H'⟩; (first | replace H := H.ext0 H' | replace H := H.drew.ext0 H' | replace H := H.drew.drew.ext0 H'); clear H'; refine ⟨_, rfl, ?_⟩)
  rw [← hT] at v27 ⊢
  refine callV (part_spec s0 29 T (by omega) _) ?_
  (rintro _ _ ⟨rfl, H'⟩; (first | replace H := H.ext0 H' | replace H := H.drew.ext0 H' | replace H := H.drew.drew.ext0 H'); clear H'; refine ⟨_, rfl, ?_⟩)
  refine onP_mk rfl ?_
  ((first | (apply Hp.st; (case H => first | exact H | exact H.pull1 | exact H.pull2 | exact H.pull3 | exact H.pull4 | exact H.pull5 | exact H.pull6 | exact H.pull7); (case e => exact ⟨rfl, rfl, rfl, rfl⟩); (case S => exact (by first | exact scl3 | exact scl9 | exact scl22)); (case hv => exact rfl); (case h1 => exact rfl); (case ho => exact Nat.le_of_ble_eq_true rfl); (case hc => exact rfl)) | (apply Hp.stA; (case H => first | exact H | exact H.pull1 | exact H.pull2 | exact H.pull3 | exact H.pull4 | exact H.pull5 | exact H.pull6 | exact H.pull7); (case e => exact ⟨rfl, rfl, rfl, rfl⟩); (case S => exact (by first | exact agg24 | exact agg52)); (case hn => exact rfl); (case h1 => exact rfl); (case ho => exact Nat.le_of_ble_eq_true rfl); (case hc => exact rfl))); clear H; intro _ H; (try simp only [over, List.set_cons_zero, List.set_cons_succ] at H))
  have e29 : (29 : Int) + (T : Int) = ((29 + T : Nat) : Int) := by omega
  rw [e29]
  refine ⟨inR64.2 (by omega), callV (part_spec s0 (29 + T) 1 (by omega) _) ?_⟩
  (rintro _ _ ⟨rfl, H'⟩; (first | replace H := H.ext0 H' | replace H := H.drew.ext0 H' | replace H := H.drew.drew.ext0 H'); clear H'; refine ⟨_, rfl, ?_⟩)
  have vM := valN_le (partL s0 (29 + T) 1) (k := 1) (part_len _ _ _)
  refine callV (value_spec _ (by omega) (by have := part_len s0 (29 + T) 1; omega) _) ?_
  (rintro _ _ ⟨rfl, H'⟩; (first | replace H := H.ext0 H' | replace H := H.drew.ext0 H' | replace H := H.drew.drew.ext0 H'); clear H'; refine ⟨_, rfl, ?_⟩)
  obtain ⟨M, hM⟩ : ∃ M, M = valN (partL s0 (29 + T) 1) := ⟨_, rfl⟩
  rw [← hM] at vM ⊢
  have hfr : ∀ r, decR l r → T = r.text.size ∧ M = r.attrs.length := fun r hr => by
    obtain ⟨h1, h2, h3⟩ := hs30 r hr
    have h4 := (wb r hr).2.2.2.2.2.2
    have h5 : T = r.text.size := by omega
    have h6 := (tail_bits h1 h2 h5).2.1
    exact ⟨h5, by omega⟩
  refine ⟨inR64.2 (by omega), ?_⟩
  refine JoinP.mk (fun _ w' => ∃ A a' c', (∀ r, decR l r → A = r.attrs) ∧ A.length ≤ 255 ∧ Hp [] w w' [.own 52 2 a' A.length c' (attrCells A), .blk b3 [.int .i64 (valN p0), .int .i64 (valN p4), .int .i64 (valN p24), .int .i64 (valN p25), .int .i64 (valN p8), .int .i64 (valN p16), .string ⟨(partL s0 29 T).toArray⟩, .slice a' A.length c'] 24,
      .blk b [.int .i64 0, .int .i64 0, .int .i64 0, .int .i64 0, .int .i64 0, .int .i64 0, .string ⟨#[]⟩, .slice none 0 0] 24]) ?_ ?_
  · clear H
    rintro _ w' ⟨A, a', c', hA, hA2, H⟩
    obtain ⟨rr, hrr⟩ : ∃ rr : Rec, rr = { id := valN p0, parent := valN p4, kind := valN p24, name := valN p25, frm := valN p8, to := valN p16, text := ⟨(partL s0 29 T).toArray⟩, attrs := A } := ⟨_, rfl⟩
    have hdec : ∀ r, decR l r → rr = r := fun r hr => by
      obtain ⟨h1, h2, h3⟩ := hs30 r hr
      obtain ⟨b1, b2, b3, b4, b5, b6, _⟩ := wb r hr
      have ht := (tail_bits h1 h2 (hfr r hr).1).1
      rw [hrr]
      exact Rec.ext' ⟨b1, b2, b5, b6, b3, b4, by simp [ht], hA r hr⟩
    have hval : rr.val a' A.length c' = .agg #[.int .i64 (valN p0), .int .i64 (valN p4), .int .i64 (valN p24), .int .i64 (valN p25), .int .i64 (valN p8), .int .i64 (valN p16), .string ⟨(partL s0 29 T).toArray⟩, .slice a' A.length c'] := by rw [hrr]; rfl
    have hrA : rr.attrs = A := by rw [hrr]
    refine ⟨_, _, _, _, _, _, _, _, _, _, onP_mk rfl (H.ldA (by exact ⟨rfl, rfl, rfl, rfl⟩) agg24 (by repeat first | exact .head _ | refine .tail _ ?_) rfl rfl), ?_⟩
    rw [← hval]
    refine callV (rencode_spec rr a' A.length c' _ ⟨by rw [hrA], by rw [hrA]; exact (H.ownA (.head _)).cells⟩ (by omega)) ?_
    rintro e w13 ⟨a7, c7, rfl, H'⟩
    replace H := H.ext1 H'
    clear H'
    refine ⟨_, _, _, _, rfl, br_ndec (fun h3 => ?_) (fun h3 => br_ndec (fun h4 => ?_) (fun h4 => ?_))⟩
    · (repeat (first | ((repeat apply Exists.intro); first | refine ⟨H.ld (by exact ⟨rfl, rfl, rfl, rfl⟩) (by first | exact scl3 | exact scl9 | exact scl22) (by repeat first | exact .head _ | refine .tail _ ?_) rfl, ?_⟩ | refine ⟨H.ldA (by exact ⟨rfl, rfl, rfl, rfl⟩) (by first | exact agg24 | exact agg52) (by repeat first | exact .head _ | refine .tail _ ?_) rfl rfl, ?_⟩) | (intro _ _ hn; replace H := H.new (by exact ⟨rfl, rfl, rfl, rfl⟩) hn; clear hn) | ((first | (apply Hp.st; (case H => first | exact H | exact H.pull1 | exact H.pull2 | exact H.pull3 | exact H.pull4 | exact H.pull5 | exact H.pull6 | exact H.pull7); (case e => exact ⟨rfl, rfl, rfl, rfl⟩); (case S => exact (by first | exact scl3 | exact scl9 | exact scl22)); (case hv => exact rfl); (case h1 => exact rfl); (case ho => exact Nat.le_of_ble_eq_true rfl); (case hc => exact rfl)) | (apply Hp.stA; (case H => first | exact H | exact H.pull1 | exact H.pull2 | exact H.pull3 | exact H.pull4 | exact H.pull5 | exact H.pull6 | exact H.pull7); (case e => exact ⟨rfl, rfl, rfl, rfl⟩); (case S => exact (by first | exact agg24 | exact agg52)); (case hn => exact rfl); (case h1 => exact rfl); (case ho => exact Nat.le_of_ble_eq_true rfl); (case hc => exact rfl))); clear H; intro _ H; (try simp only [over, List.set_cons_zero, List.set_cons_succ] at H))))
      refine .inr ⟨no fun r hr => h3 ?_, rfl, H.done⟩
      rw [hdec r hr, errOf, if_pos hr.1]
    · (repeat (first | ((repeat apply Exists.intro); first | refine ⟨H.ld (by exact ⟨rfl, rfl, rfl, rfl⟩) (by first | exact scl3 | exact scl9 | exact scl22) (by repeat first | exact .head _ | refine .tail _ ?_) rfl, ?_⟩ | refine ⟨H.ldA (by exact ⟨rfl, rfl, rfl, rfl⟩) (by first | exact agg24 | exact agg52) (by repeat first | exact .head _ | refine .tail _ ?_) rfl rfl, ?_⟩) | (intro _ _ hn; replace H := H.new (by exact ⟨rfl, rfl, rfl, rfl⟩) hn; clear hn) | ((first | (apply Hp.st; (case H => first | exact H | exact H.pull1 | exact H.pull2 | exact H.pull3 | exact H.pull4 | exact H.pull5 | exact H.pull6 | exact H.pull7); (case e => exact ⟨rfl, rfl, rfl, rfl⟩); (case S => exact (by first | exact scl3 | exact scl9 | exact scl22)); (case hv => exact rfl); (case h1 => exact rfl); (case ho => exact Nat.le_of_ble_eq_true rfl); (case hc => exact rfl)) | (apply Hp.stA; (case H => first | exact H | exact H.pull1 | exact H.pull2 | exact H.pull3 | exact H.pull4 | exact H.pull5 | exact H.pull6 | exact H.pull7); (case e => exact ⟨rfl, rfl, rfl, rfl⟩); (case S => exact (by first | exact agg24 | exact agg52)); (case hn => exact rfl); (case h1 => exact rfl); (case ho => exact Nat.le_of_ble_eq_true rfl); (case hc => exact rfl))); clear H; intro _ H; (try simp only [over, List.set_cons_zero, List.set_cons_succ] at H))))
      refine .inr ⟨no fun r hr => h4 ?_, rfl, H.done⟩
      rw [hdec r hr, out, if_pos hr.1, hr.2, hlen]
    · have hr1 : rightP rr := Classical.byContradiction fun h5 => by rw [errOf, if_neg h5] at h3; cases h3
      have hr2 : (out rr).length = l.length := by omega
      have hout : out rr = pieces rr := by rw [out, if_pos hr1]
      refine LoopP.mk (fun m s w' => ∃ j, m = l.length - j ∧ s = (j : Int) ∧ j ≤ l.length ∧ (out rr).take j = l.take j ∧
        Hp [] w w' [.own 9 1 a7 (out rr).length c7 ((out rr).map sv), .own 52 2 a' A.length c' (attrCells A), .blk b3 [.int .i64 (valN p0), .int .i64 (valN p4), .int .i64 (valN p24), .int .i64 (valN p25), .int .i64 (valN p8), .int .i64 (valN p16), .string ⟨(partL s0 29 T).toArray⟩, .slice a' A.length c'] 24,
        .blk b [.int .i64 0, .int .i64 0, .int .i64 0, .int .i64 0, .int .i64 0, .int .i64 0, .string ⟨#[]⟩, .slice none 0 0] 24]) l.length ⟨0, rfl, rfl, Nat.zero_le _, by simp, H⟩ ?_
      clear H
      rintro m s w' next ⟨j, rfl, rfl, hj, hje, H⟩ hnext
      refine br_dec (fun h1 => ?_) (fun h1 => ?_)
      · have hjl : j < l.length := by omega
        have hq1 : (out rr)[j]? = some (out rr)[j] := List.getElem?_eq_getElem (by omega)
        have hq2 : l[j]? = some l[j] := List.getElem?_eq_getElem hjl
        have hO : StrS w'.drew a7 (out rr).length (out rr) := ⟨rfl, (H.drew.ownA (.head _)).cells⟩
        obtain ⟨ad7, had7, hld7⟩ := hO.ld hq1
        obtain ⟨ad, had, hld⟩ := (hS.chg H.drew.chg (by simp)).ld hq2
        refine onP_mk had7 ⟨⟨by omega, by omega⟩, _, hld7, onP_mk had ⟨⟨by omega, by omega⟩, _, hld, br_ndec (fun hne => ?_) (fun heq => ?_)⟩⟩
        · replace H := H.drew
          (repeat (first | ((repeat apply Exists.intro); first | refine ⟨H.ld (by exact ⟨rfl, rfl, rfl, rfl⟩) (by first | exact scl3 | exact scl9 | exact scl22) (by repeat first | exact .head _ | refine .tail _ ?_) rfl, ?_⟩ | refine ⟨H.ldA (by exact ⟨rfl, rfl, rfl, rfl⟩) (by first | exact agg24 | exact agg52) (by repeat first | exact .head _ | refine .tail _ ?_) rfl rfl, ?_⟩) | (intro _ _ hn; replace H := H.new (by exact ⟨rfl, rfl, rfl, rfl⟩) hn; clear hn) | ((first | (apply Hp.st; (case H => first | exact H | exact H.pull1 | exact H.pull2 | exact H.pull3 | exact H.pull4 | exact H.pull5 | exact H.pull6 | exact H.pull7); (case e => exact ⟨rfl, rfl, rfl, rfl⟩); (case S => exact (by first | exact scl3 | exact scl9 | exact scl22)); (case hv => exact rfl); (case h1 => exact rfl); (case ho => exact Nat.le_of_ble_eq_true rfl); (case hc => exact rfl)) | (apply Hp.stA; (case H => first | exact H | exact H.pull1 | exact H.pull2 | exact H.pull3 | exact H.pull4 | exact H.pull5 | exact H.pull6 | exact H.pull7); (case e => exact ⟨rfl, rfl, rfl, rfl⟩); (case S => exact (by first | exact agg24 | exact agg52)); (case hn => exact rfl); (case h1 => exact rfl); (case ho => exact Nat.le_of_ble_eq_true rfl); (case hc => exact rfl))); clear H; intro _ H; (try simp only [over, List.set_cons_zero, List.set_cons_succ] at H))))
          refine .inr ⟨no fun r hr => hne ?_, rfl, H.done⟩
          have h5 : (out rr)[j]? = l[j]? := by rw [hdec r hr, out, if_pos hr.1, hr.2]
          have h6 := Option.some.inj (hq1.symm.trans (h5.trans hq2))
          rw [h6]
        · rw [mk_inj] at heq
          refine ⟨inR64.2 (by omega), hnext (l.length - (j + 1)) _ _ (by omega) ⟨j + 1, rfl, by simp, by omega, ?_, H.drew⟩⟩
          rw [List.take_succ_eq_append_getElem hjl, List.take_succ_eq_append_getElem (by omega), hje, heq]
      · have hjl : j = l.length := by omega
        subst hjl
        rw [← hr2, List.take_length, hr2, List.take_length] at hje
        refine ⟨_, _, _, _, _, _, _, _, _, _, onP_mk rfl (H.ldA (by exact ⟨rfl, rfl, rfl, rfl⟩) agg24 (by repeat first | exact .head _ | refine .tail _ ?_) rfl rfl), ?_⟩
        (repeat (first | ((repeat apply Exists.intro); first | refine ⟨H.ld (by exact ⟨rfl, rfl, rfl, rfl⟩) (by first | exact scl3 | exact scl9 | exact scl22) (by repeat first | exact .head _ | refine .tail _ ?_) rfl, ?_⟩ | refine ⟨H.ldA (by exact ⟨rfl, rfl, rfl, rfl⟩) (by first | exact agg24 | exact agg52) (by repeat first | exact .head _ | refine .tail _ ?_) rfl rfl, ?_⟩) | (intro _ _ hn; replace H := H.new (by exact ⟨rfl, rfl, rfl, rfl⟩) hn; clear hn) | ((first | (apply Hp.st; (case H => first | exact H | exact H.pull1 | exact H.pull2 | exact H.pull3 | exact H.pull4 | exact H.pull5 | exact H.pull6 | exact H.pull7); (case e => exact ⟨rfl, rfl, rfl, rfl⟩); (case S => exact (by first | exact scl3 | exact scl9 | exact scl22)); (case hv => exact rfl); (case h1 => exact rfl); (case ho => exact Nat.le_of_ble_eq_true rfl); (case hc => exact rfl)) | (apply Hp.stA; (case H => first | exact H | exact H.pull1 | exact H.pull2 | exact H.pull3 | exact H.pull4 | exact H.pull5 | exact H.pull6 | exact H.pull7); (case e => exact ⟨rfl, rfl, rfl, rfl⟩); (case S => exact (by first | exact agg24 | exact agg52)); (case hn => exact rfl); (case h1 => exact rfl); (case ho => exact Nat.le_of_ble_eq_true rfl); (case hc => exact rfl))); clear H; intro _ H; (try simp only [over, List.set_cons_zero, List.set_cons_succ] at H))))
        refine .inl ⟨rr, a', c', ⟨hr1, by rw [← hout]; exact hje⟩, ?_, ?_⟩
        · rw [hrA, hval]
        · rw [hrA]
          exact H.pull2.done1
  · intro J hJ
    refine LoopP.mk (fun m s w' => ∃ (at_ k : Nat) (A : List (Int × ByteArray)) (a' : Option Addr) (c' : Nat), m = M - k ∧ s = ((at_ : Int), (k : Int)) ∧ k ≤ M ∧ A.length = k ∧ at_ ≤ 70000 + k * 65540 ∧ (∀ r, decR l r → A = r.attrs.take k ∧ at_ = 30 + r.text.size + (attrsB (r.attrs.take k)).length) ∧
      Hp [] w w' [.own 52 2 a' A.length c' (attrCells A), .blk b3 [.int .i64 (valN p0), .int .i64 (valN p4), .int .i64 (valN p24), .int .i64 (valN p25), .int .i64 (valN p8), .int .i64 (valN p16), .string ⟨(partL s0 29 T).toArray⟩, .slice a' A.length c'] 24,
        .blk b [.int .i64 0, .int .i64 0, .int .i64 0, .int .i64 0, .int .i64 0, .int .i64 0, .string ⟨#[]⟩, .slice none 0 0] 24]) M ⟨30 + T, 0, [], none, 0, rfl, by rw [Prod.mk.injEq]; exact ⟨by omega, rfl⟩, Nat.zero_le _, rfl, by omega, fun r hr => by simp [attrsB, (hfr r hr).1], H.nilS 52 2⟩ ?_
    clear H
    rintro m s w' next ⟨at_, k, A, a', c', rfl, rfl, hk, hAk, hat, hA, H⟩ hnext
    dsimp only
    refine br_dec (fun h1 => ?_) (fun h1 => ?_)
    · refine br_dec (fun h2 => ?_) (fun h2 => ?_)
      · have hk255 : k * 65540 ≤ 255 * 65540 := Nat.mul_le_mul_right _ (by omega)
        have e2 : (at_ : Int) + 2 = ((at_ + 2 : Nat) : Int) := by omega
        have e4 : (at_ : Int) + 4 = ((at_ + 4 : Nat) : Int) := by omega
        rw [e2, e4]
        refine ⟨inR64.2 (by omega), callV (part_spec s0 (at_ + 2) 2 (by omega) _) ?_⟩
        (rintro _ _ ⟨rfl, H'⟩; (first | replace H := H.ext0 H' | replace H := H.drew.ext0 H' | replace H := H.drew.drew.ext0 H'); clear H'; refine ⟨_, rfl, ?_⟩)
        have vK := valN_le (partL s0 (at_ + 2) 2) (k := 2) (part_len _ _ _)
        have vN := valN_le (partL s0 at_ 2) (k := 2) (part_len _ _ _)
        refine callV (value_spec _ (by omega) (by have := part_len s0 (at_ + 2) 2; omega) _) ?_
        (rintro _ _ ⟨rfl, H'⟩; (first | replace H := H.ext0 H' | replace H := H.drew.ext0 H' | replace H := H.drew.drew.ext0 H'); clear H'; refine ⟨_, rfl, ?_⟩)
        obtain ⟨K, hK⟩ : ∃ K, K = valN (partL s0 (at_ + 2) 2) := ⟨_, rfl⟩
        rw [← hK] at vK ⊢
        refine onP_mk rfl ?_
        replace H := H.drew
        (repeat (first | ((repeat apply Exists.intro); first | refine ⟨H.ld (by exact ⟨rfl, rfl, rfl, rfl⟩) (by first | exact scl3 | exact scl9 | exact scl22) (by repeat first | exact .head _ | refine .tail _ ?_) rfl, ?_⟩ | refine ⟨H.ldA (by exact ⟨rfl, rfl, rfl, rfl⟩) (by first | exact agg24 | exact agg52) (by repeat first | exact .head _ | refine .tail _ ?_) rfl rfl, ?_⟩) | (intro _ _ hn; replace H := H.new (by exact ⟨rfl, rfl, rfl, rfl⟩) hn; clear hn) | ((first | (apply Hp.st; (case H => first | exact H | exact H.pull1 | exact H.pull2 | exact H.pull3 | exact H.pull4 | exact H.pull5 | exact H.pull6 | exact H.pull7); (case e => exact ⟨rfl, rfl, rfl, rfl⟩); (case S => exact (by first | exact scl3 | exact scl9 | exact scl22)); (case hv => exact rfl); (case h1 => exact rfl); (case ho => exact Nat.le_of_ble_eq_true rfl); (case hc => exact rfl)) | (apply Hp.stA; (case H => first | exact H | exact H.pull1 | exact H.pull2 | exact H.pull3 | exact H.pull4 | exact H.pull5 | exact H.pull6 | exact H.pull7); (case e => exact ⟨rfl, rfl, rfl, rfl⟩); (case S => exact (by first | exact agg24 | exact agg52)); (case hn => exact rfl); (case h1 => exact rfl); (case ho => exact Nat.le_of_ble_eq_true rfl); (case hc => exact rfl))); clear H; intro _ H; (try simp only [over, List.set_cons_zero, List.set_cons_succ] at H))))
        refine ⟨inR64.2 (by omega), callV (part_spec s0 at_ 2 (by omega) _) ?_⟩
        (rintro _ _ ⟨rfl, H'⟩; (first | replace H := H.ext0 H' | replace H := H.drew.ext0 H' | replace H := H.drew.drew.ext0 H'); clear H'; refine ⟨_, rfl, ?_⟩)
        (repeat (first | ((repeat apply Exists.intro); first | refine ⟨H.ld (by exact ⟨rfl, rfl, rfl, rfl⟩) (by first | exact scl3 | exact scl9 | exact scl22) (by repeat first | exact .head _ | refine .tail _ ?_) rfl, ?_⟩ | refine ⟨H.ldA (by exact ⟨rfl, rfl, rfl, rfl⟩) (by first | exact agg24 | exact agg52) (by repeat first | exact .head _ | refine .tail _ ?_) rfl rfl, ?_⟩) | (intro _ _ hn; replace H := H.new (by exact ⟨rfl, rfl, rfl, rfl⟩) hn; clear hn) | ((first | (apply Hp.st; (case H => first | exact H | exact H.pull1 | exact H.pull2 | exact H.pull3 | exact H.pull4 | exact H.pull5 | exact H.pull6 | exact H.pull7); (case e => exact ⟨rfl, rfl, rfl, rfl⟩); (case S => exact (by first | exact scl3 | exact scl9 | exact scl22)); (case hv => exact rfl); (case h1 => exact rfl); (case ho => exact Nat.le_of_ble_eq_true rfl); (case hc => exact rfl)) | (apply Hp.stA; (case H => first | exact H | exact H.pull1 | exact H.pull2 | exact H.pull3 | exact H.pull4 | exact H.pull5 | exact H.pull6 | exact H.pull7); (case e => exact ⟨rfl, rfl, rfl, rfl⟩); (case S => exact (by first | exact agg24 | exact agg52)); (case hn => exact rfl); (case h1 => exact rfl); (case ho => exact Nat.le_of_ble_eq_true rfl); (case hc => exact rfl))); clear H; intro _ H; (try simp only [over, List.set_cons_zero, List.set_cons_succ] at H))))
        refine callV (value_spec _ (by omega) (by have := part_len s0 at_ 2; omega) _) ?_
        (rintro _ _ ⟨rfl, H'⟩; (first | replace H := H.ext0 H' | replace H := H.drew.ext0 H' | replace H := H.drew.drew.ext0 H'); clear H'; refine ⟨_, rfl, ?_⟩)
        (repeat (first | ((repeat apply Exists.intro); first | refine ⟨H.ld (by exact ⟨rfl, rfl, rfl, rfl⟩) (by first | exact scl3 | exact scl9 | exact scl22) (by repeat first | exact .head _ | refine .tail _ ?_) rfl, ?_⟩ | refine ⟨H.ldA (by exact ⟨rfl, rfl, rfl, rfl⟩) (by first | exact agg24 | exact agg52) (by repeat first | exact .head _ | refine .tail _ ?_) rfl rfl, ?_⟩) | (intro _ _ hn; replace H := H.new (by exact ⟨rfl, rfl, rfl, rfl⟩) hn; clear hn) | ((first | (apply Hp.st; (case H => first | exact H | exact H.pull1 | exact H.pull2 | exact H.pull3 | exact H.pull4 | exact H.pull5 | exact H.pull6 | exact H.pull7); (case e => exact ⟨rfl, rfl, rfl, rfl⟩); (case S => exact (by first | exact scl3 | exact scl9 | exact scl22)); (case hv => exact rfl); (case h1 => exact rfl); (case ho => exact Nat.le_of_ble_eq_true rfl); (case hc => exact rfl)) | (apply Hp.stA; (case H => first | exact H | exact H.pull1 | exact H.pull2 | exact H.pull3 | exact H.pull4 | exact H.pull5 | exact H.pull6 | exact H.pull7); (case e => exact ⟨rfl, rfl, rfl, rfl⟩); (case S => exact (by first | exact agg24 | exact agg52)); (case hn => exact rfl); (case h1 => exact rfl); (case ho => exact Nat.le_of_ble_eq_true rfl); (case hc => exact rfl))); clear H; intro _ H; (try simp only [over, List.set_cons_zero, List.set_cons_succ] at H))))
        refine callV (part_spec s0 (at_ + 4) K (by omega) _) ?_
        (rintro _ _ ⟨rfl, H'⟩; (first | replace H := H.ext0 H' | replace H := H.drew.ext0 H' | replace H := H.drew.drew.ext0 H'); clear H'; refine ⟨_, rfl, ?_⟩)
        (repeat (first | ((repeat apply Exists.intro); first | refine ⟨H.ld (by exact ⟨rfl, rfl, rfl, rfl⟩) (by first | exact scl3 | exact scl9 | exact scl22) (by repeat first | exact .head _ | refine .tail _ ?_) rfl, ?_⟩ | refine ⟨H.ldA (by exact ⟨rfl, rfl, rfl, rfl⟩) (by first | exact agg24 | exact agg52) (by repeat first | exact .head _ | refine .tail _ ?_) rfl rfl, ?_⟩) | (intro _ _ hn; replace H := H.new (by exact ⟨rfl, rfl, rfl, rfl⟩) hn; clear hn) | ((first | (apply Hp.st; (case H => first | exact H | exact H.pull1 | exact H.pull2 | exact H.pull3 | exact H.pull4 | exact H.pull5 | exact H.pull6 | exact H.pull7); (case e => exact ⟨rfl, rfl, rfl, rfl⟩); (case S => exact (by first | exact scl3 | exact scl9 | exact scl22)); (case hv => exact rfl); (case h1 => exact rfl); (case ho => exact Nat.le_of_ble_eq_true rfl); (case hc => exact rfl)) | (apply Hp.stA; (case H => first | exact H | exact H.pull1 | exact H.pull2 | exact H.pull3 | exact H.pull4 | exact H.pull5 | exact H.pull6 | exact H.pull7); (case e => exact ⟨rfl, rfl, rfl, rfl⟩); (case S => exact (by first | exact agg24 | exact agg52)); (case hn => exact rfl); (case h1 => exact rfl); (case ho => exact Nat.le_of_ble_eq_true rfl); (case hc => exact rfl))); clear H; intro _ H; (try simp only [over, List.set_cons_zero, List.set_cons_succ] at H))))
        refine Hp.app eltA22 (by omega) H.pull1 (by exact ⟨rfl, rfl, rfl, rfl⟩) (Blk.src (P := Go.Proofs.Try.prog) und22' (H.blk (.head _)) rfl rfl) (by omega) (by omega) ?_
        clear H
        intro a6 c6 w16 H
        have hsn := attrCells_snoc A ((valN (partL s0 at_ 2) : Int), ⟨(partL s0 (at_ + 4) K).toArray⟩)
        rw [← hsn] at H
        replace H := H.pull2
        refine onP_mk rfl ?_
        ((first | (apply Hp.st; (case H => first | exact H | exact H.pull1 | exact H.pull2 | exact H.pull3 | exact H.pull4 | exact H.pull5 | exact H.pull6 | exact H.pull7); (case e => exact ⟨rfl, rfl, rfl, rfl⟩); (case S => exact (by first | exact scl3 | exact scl9 | exact scl22)); (case hv => exact rfl); (case h1 => exact rfl); (case ho => exact Nat.le_of_ble_eq_true rfl); (case hc => exact rfl)) | (apply Hp.stA; (case H => first | exact H | exact H.pull1 | exact H.pull2 | exact H.pull3 | exact H.pull4 | exact H.pull5 | exact H.pull6 | exact H.pull7); (case e => exact ⟨rfl, rfl, rfl, rfl⟩); (case S => exact (by first | exact agg24 | exact agg52)); (case hn => exact rfl); (case h1 => exact rfl); (case ho => exact Nat.le_of_ble_eq_true rfl); (case hc => exact rfl))); clear H; intro _ H; (try simp only [over, List.set_cons_zero, List.set_cons_succ] at H))
        refine ⟨inR64.2 (by omega), inR64.2 (by omega), inR64.2 (by omega), hnext (M - (k + 1)) _ _ (by omega) ⟨at_ + 4 + K, k + 1, A ++ [((valN (partL s0 at_ 2) : Int), ⟨(partL s0 (at_ + 4) K).toArray⟩)], a6, c6, rfl, by rw [Prod.mk.injEq]; exact ⟨by omega, by omega⟩, by omega, by simp [hAk], by omega, ?_, ?_⟩⟩
        · intro r hr
          obtain ⟨g1, g2⟩ := hA r hr
          obtain ⟨h3, h4, h5⟩ := hs30 r hr
          have hkr : k < r.attrs.length := by have := (hfr r hr).2; omega
          obtain ⟨s1, s2, s3⟩ := attr_step h3 h4 hkr g2
          have hKs : K = r.attrs[k].2.size := by omega
          rw [s1, hKs, s3, g1, List.take_succ_eq_append_getElem hkr]
          refine ⟨?_, ?_⟩
          · congr 2
          · rw [attrsB_snoc, List.length_append, g2]
            simp only [List.length_append, be_length, Array.length_toList]
            have : r.attrs[k].2.data.size = r.attrs[k].2.size := rfl
            omega
        · have el : (A ++ [((valN (partL s0 at_ 2) : Int), (⟨(partL s0 (at_ + 4) K).toArray⟩ : ByteArray))]).length = A.length + 1 := by simp
          rw [el]
          exact H.pull1.del2
      · refine hJ _ _ ⟨A, a', c', fun r hr => ?_, by omega, H⟩
        obtain ⟨g1, g2⟩ := hA r hr
        obtain ⟨h3, h4, h5⟩ := hs30 r hr
        have hw := whole_len r
        rw [← h4] at hw
        have h6 := len_take_attrs r.attrs k
        have h7 := attrsB_zero (l := r.attrs.drop k) (by omega)
        rw [g1]
        have h8 := List.take_append_drop k r.attrs
        rw [h7, List.append_nil] at h8
        exact h8
    · refine hJ _ _ ⟨A, a', c', fun r hr => ?_, by omega, H⟩
      obtain ⟨g1, g2⟩ := hA r hr
      have := (hfr r hr).2
      rw [g1, show k = r.attrs.length by omega, List.take_length]
end Go.Proofs.Ytcgaobfbgfefhaa
