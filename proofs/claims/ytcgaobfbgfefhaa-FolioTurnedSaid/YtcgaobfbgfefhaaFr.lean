/- Folio: the law of pieces that are missing, twice there, or not in their order. -/
import Derived.Test.YtcgaobfbgfefhaaFp
set_option linter.unusedVariables false
set_option linter.unusedSimpArgs false
namespace Go.Vc
open Go
theorem Blk.own {w : World} {b : Nat} {cs : List Value} {e : TypeId} {sz n : Nat} (h : Blk w b cs e) (hl : cs.length = n * sz) (hn : n ≤ maxLen) : Own w 0 e sz (some ⟨b, 0, none⟩) n n cs :=
  ⟨hl, .inr ⟨b, cs.toArray, (0, 0), rfl, Nat.zero_le _, h, Thaw.zero _, Nat.le_refl _, hn, by simpa using hl, by simp [← hl]⟩⟩
theorem Hp.toOwn {B : List Nat} {w0 w : World} {L : List Asn} {b : Nat} {cs : List Value} {e : TypeId} {sz n : Nat} (H : Hp B w0 w (.blk b cs e :: L)) (hl : cs.length = n * sz) (hn : n ≤ maxLen) : Hp B w0 w (.own e sz (some ⟨b, 0, none⟩) n n cs :: L) :=
  H.set (Chg.refl _ _) (Blk.own (H.blk (.head _)) hl hn) (fun k hk => .inl (by simpa [Asn.foot, blks] using hk))
theorem Hp.done3 {B : List Nat} {w0 w : World} {x y z : Asn} {L : List Asn} (H : Hp B w0 w (x :: y :: z :: L)) : Hp B w0 w [x, y, z] :=
  ⟨H.chg, fun b hb => H.ok b (by simp at hb ⊢; rcases hb with h | h | h <;> simp [h]), fun b hb => H.own b (by simp at hb ⊢; rcases hb with h | h | h <;> simp [h]), by
    have := H.sep
    simp only [List.pairwise_cons] at this ⊢
    exact ⟨fun u hu => this.1 u (by simp at hu ⊢; rcases hu with h | h <;> simp [h]), fun u hu => this.2.1 u (by simp at hu ⊢; simp [hu]), by simp, .nil⟩⟩
end Go.Vc
namespace Go.Proofs.Ytcgaobfbgfefhaa
open Go Go.Vc

theorem no_len {r : Rec} (hr : rightP r) {X : List (List UInt8)} (hX : X.length ≠ (pieces r).length) (hs : ∀ s ∈ X, s ∈ pieces r) : ¬ ∃ q, decR X q := by
  rintro ⟨q, hq⟩
  have hg := (decR_join hq).1
  have hl : 0 < X.length := by
    rw [← hq.2, pieces_length]
    have := (whole_small hq.1).1
    unfold manyOf; omega
  have h0 := hg 0 X[0] (List.getElem?_eq_getElem hl)
  obtain ⟨j, hj⟩ := List.getElem?_of_mem (hs _ (List.getElem_mem hl))
  obtain ⟨h1, h2⟩ := piece_of hj
  rw [h2, head_piece hr h1, Option.some.injEq, Prod.mk.injEq, Prod.mk.injEq] at h0
  exact hX (by rw [pieces_length]; exact h0.2.2.symm)
theorem swapped {r : Rec} (hr : rightP r) {i k : Nat} (hi : i < (pieces r).length) (hk : k < (pieces r).length) :
    (i = k → ((pieces r).set i (pieces r)[k]).set k (pieces r)[i] = pieces r) ∧ (i ≠ k → ¬ ∃ q, decR (((pieces r).set i (pieces r)[k]).set k (pieces r)[i]) q) := by
  refine ⟨?_, ?_⟩
  · rintro rfl; simp
  · rintro hne ⟨q, hq⟩
    have hg := (decR_join hq).1
    have h0 := hg k (pieces r)[i] (by rw [List.getElem?_set_self]; simpa using hk)
    obtain ⟨h1, h2⟩ := piece_of (List.getElem?_eq_getElem hi)
    rw [h2, head_piece hr h1, Option.some.injEq, Prod.mk.injEq, Prod.mk.injEq] at h0
    exact hne h0.2.1
theorem und26 : Go.Proofs.Try.prog.underlying 26 = some (.slice 9) := by kernel_rfl
theorem sv_one (l : List (List UInt8)) : ∀ u ∈ l.map sv, u.oneCell' = true := by
  intro u hu
  obtain ⟨_, _, rfl⟩ := List.mem_map.1 hu
  rfl
theorem slA_none {a : Option Addr} {m l s : Nat} (h : slA a m l s = none) : a = none := by
  unfold slA at h
  split at h
  · exact h
  · simpa using h
set_option maxHeartbeats 1000000 in
theorem folioTurned_law (r : Rec) (a : Option Addr) (n c : Nat) (i k : Int) (w : World) (hA : AtS w a n r.attrs) (hn : n * 24 ≤ 140737488355328) :
    Calls Go.Proofs.Try.prog 8 #[r.val a n c, .int .i64 i, .int .i64 k] w fun e w' => e = .returned (.bool true) ∧ Hp [] w w' [] := by
  apply folioTurned.ok
  unfold folioTurned.vc
  have H := Hp.start w
  have hmax : maxLen = 9223372036854775807 := by simp [maxLen]
  have hlen := hA.len
  (repeat (first | ((repeat apply Exists.intro); first | refine ⟨H.ld (by exact ⟨rfl, rfl, rfl, rfl⟩) (by first | exact scl3 | exact scl9 | exact scl22 | exact scl32) (by repeat first | exact .head _ | refine .tail _ ?_) rfl, ?_⟩ | refine ⟨H.ldA (by exact ⟨rfl, rfl, rfl, rfl⟩) (by first | exact agg24 | exact agg34 | exact agg52) (by repeat first | exact .head _ | refine .tail _ ?_) rfl rfl, ?_⟩) | (intro _ _ hn; replace H := H.new (by exact ⟨rfl, rfl, rfl, rfl⟩) hn; clear hn) | ((first | (apply Hp.st; (case H => first | exact H | exact H.pull1 | exact H.pull2 | exact H.pull3 | exact H.pull4 | exact H.pull5 | exact H.pull6 | exact H.pull7); (case e => exact ⟨rfl, rfl, rfl, rfl⟩); (case S => exact (by first | exact scl3 | exact scl9 | exact scl22 | exact scl32)); (case hv => exact rfl); (case h1 => exact rfl); (case ho => exact Nat.le_of_ble_eq_true rfl); (case hc => exact rfl)) | (apply Hp.stA; (case H => first | exact H | exact H.pull1 | exact H.pull2 | exact H.pull3 | exact H.pull4 | exact H.pull5 | exact H.pull6 | exact H.pull7); (case e => exact ⟨rfl, rfl, rfl, rfl⟩); (case S => exact (by first | exact agg24 | exact agg34 | exact agg52)); (case hn => exact rfl); (case h1 => exact rfl); (case ho => exact Nat.le_of_ble_eq_true rfl); (case hc => exact rfl))); clear H; intro _ H; (try simp only [over, List.set_cons_zero, List.set_cons_succ] at H))))
  refine callV (own_spec r a n c _ (hA.chg H.chg (by simp)) hn) ?_
  rintro e w2 ⟨a1, c1, rfl, H'⟩; replace H := H.ext1 H'; clear H'
  refine ⟨_, _, _, _, _, _, _, _, _, _, rfl, ?_⟩
  refine callV (encode_spec r a1 n c1 _ (AtS.own (H.ownA (.head _)) hlen) (by omega)) ?_
  rintro e w3 ⟨a2, c2, rfl, H'⟩; replace H := H.ext1 H'; clear H'
  refine ⟨_, _, _, _, rfl, ?_⟩
  have hol := out_len r
  have al : ∀ w', Hp [] w w' [] → CallV Go.Proofs.Try.prog 10 [] w' fun e w' => ∃ b, e = .returned (.bool b) ∧ (Ending.returned (Value.bool b) = .returned (.bool true) ∧ Hp [] w w' []) := fun w' H => by
    refine callV (alive_spec _) ?_
    rintro _ _ ⟨rfl, H'⟩
    exact ⟨_, rfl, rfl, H.ext0 H'⟩
  rcases err_cases r with ⟨hr, he, ho⟩ | ⟨hr, he, ho⟩
  rotate_left
  · rw [he]
    exact br_ndec (fun _ => al _ H.done) (fun h => absurd h (by omega))
  rw [he]
  refine br_ndec (fun h => absurd rfl h) (fun _ => ?_)
  rw [ho] at H hol ⊢
  refine br_dec (fun _ => al _ H.done) (fun h1 => br_dec (fun _ => al _ H.done) (fun h2 => br_dec (fun _ => al _ H.done) (fun h3 => br_dec (fun _ => al _ H.done) (fun h4 => ?_))))
  obtain ⟨I, rfl⟩ : ∃ I : Nat, i = I := ⟨i.toNat, by omega⟩
  obtain ⟨K, rfl⟩ : ∃ K : Nat, k = K := ⟨k.toNat, by omega⟩
  have hI : I < (pieces r).length := by omega
  have hK : K < (pieces r).length := by omega
  have hown := H.ownA (.head _)
  have hle := hown.le
  have hpos : a2 ≠ none := hown.pos (by omega)
  have tI : Int.toNat (I : Int) = I := by omega
  have tI1 : Int.toNat ((I : Int) + 1) = I + 1 := by omega
  have tK : Int.toNat (K : Int) = K := by omega
  rw [tI, tI1, tK]
  refine ⟨⟨by omega, by omega⟩, inR64.2 (by omega), ⟨by omega, by omega⟩, ?_⟩
  replace H := H.drew
  intro b3 w4 hn3
  replace H := (H.new (by exact ⟨rfl, rfl, rfl, rfl⟩) hn3).toOwn (sz := 1) (n := 0) rfl (by omega)
  clear hn3
  have hml : ((pieces r).map sv).length = (pieces r).length := by simp
  -- less
  have hc1 : Cells w4 a2 (((pieces r).map sv).take I) := ((H.ownA (.tail _ (.head _))).cells).take I
  refine Hp.app elt26 (by omega) H (by exact ⟨rfl, rfl, rfl, rfl⟩) (Cells.src und26 hc1 (by rw [List.length_take]; omega) (fun u hu => sv_one _ u (List.mem_of_mem_take hu)) (fun h => absurd h hpos)) (by omega) (by omega) ?_
  clear H hc1
  intro a3 c3 w5 H
  have hc2 : Cells w5 (slA a2 c2 (I + 1) 1) (((pieces r).map sv).drop (I + 1)) := ((H.ownA (.tail _ (.head _))).cells).slA (by omega)
  refine Hp.app elt26 (by omega) H (by exact ⟨rfl, rfl, rfl, rfl⟩) (Cells.src und26 hc2 (by rw [List.length_drop]; omega) (fun u hu => sv_one _ u (List.mem_of_mem_drop hu)) (fun h => absurd (slA_none h) hpos)) (by omega) (by omega) ?_
  clear H hc2
  intro a4 c4 w6 H
  obtain ⟨less, hless⟩ : ∃ less, less = (pieces r).take I ++ (pieces r).drop (I + 1) := ⟨_, rfl⟩
  have hll : less.length = (pieces r).length - 1 := by rw [hless, List.length_append, List.length_take, List.length_drop]; omega
  have hcl : [] ++ ((pieces r).map sv).take I ++ ((pieces r).map sv).drop (I + 1) = less.map sv := by rw [hless]; simp [List.map_take, List.map_drop]
  have hln : 0 + I + ((pieces r).length - (I + 1)) = less.length := by omega
  rw [hcl, hln] at H
  rw [hln]
  have nless : ¬ ∃ q, decR less q := no_len hr (by omega) fun s hs => by
    rw [hless] at hs
    rcases List.mem_append.1 hs with hs | hs
    · exact List.mem_of_mem_take hs
    · exact List.mem_of_mem_drop hs
  have htl : (pieces r ++ [(pieces r)[K]]).length = (pieces r).length + 1 := by simp
  have ntwice : ¬ ∃ q, decR (pieces r ++ [(pieces r)[K]]) q := no_len hr (by omega) fun s hs => by
    rcases List.mem_append.1 hs with hs | hs
    · exact hs
    · rw [List.mem_singleton] at hs; rw [hs]; exact List.getElem_mem hK
  have htc : (pieces r).map sv ++ [sv (pieces r)[K]] = (pieces r ++ [(pieces r)[K]]).map sv := by simp
  refine JoinP.mk (fun s w' => ∃ a5 c5, s = (a5, (pieces r).length + 1, c5) ∧ Hp [] w w' [.own 9 1 a5 ((pieces r).length + 1) c5 ((pieces r ++ [(pieces r)[K]]).map sv), .own 9 1 a4 less.length c4 (less.map sv), .own 9 1 a2 (pieces r).length c2 ((pieces r).map sv)]) ?_ ?_
  · clear H
    rintro s w7 ⟨a5, c5, rfl, H⟩
    dsimp only
    intro b4 w8 hn4
    replace H := (H.new (by exact ⟨rfl, rfl, rfl, rfl⟩) hn4).toOwn (sz := 1) (n := 0) rfl (by omega)
    clear hn4
    have hc3 : Cells w8 a2 ((pieces r).map sv) := (H.ownA (.tail _ (.tail _ (.tail _ (.head _))))).cells
    refine Hp.app elt26 (by omega) H (by exact ⟨rfl, rfl, rfl, rfl⟩) (Cells.src und26 hc3 (by omega) (sv_one _) (fun h => absurd h hpos)) (by omega) (by omega) ?_
    clear H hc3
    intro a6 c6 w9 H
    rw [List.nil_append, Nat.zero_add] at H
    rw [Nat.zero_add]
    replace H := H.drew
    have hS := out_strS (H.ownA (.head _))
    obtain ⟨ad, had, hldK⟩ := hS.ld (List.getElem?_eq_getElem hK)
    obtain ⟨ad', had', hldI⟩ := hS.ld (List.getElem?_eq_getElem hI)
    have : ad' = ad := by rw [had] at had'; exact (Option.some.inj had').symm
    subst this
    refine onP_mk had ⟨⟨by omega, by omega⟩, _, hldK, onP_mk had ⟨⟨by omega, by omega⟩, _, hldI, onP_mk had ⟨⟨by omega, by omega⟩, ?_⟩⟩⟩
    rw [Nat.mul_one, Nat.mul_one]
    refine Hp.stO1 H (by exact ⟨rfl, rfl, rfl, rfl⟩) scl9 had rfl rfl (by omega) ?_
    clear H hS hldK hldI
    intro w10 H
    refine onP_mk had ⟨⟨by omega, by omega⟩, ?_⟩
    refine Hp.stO1 H (by exact ⟨rfl, rfl, rfl, rfl⟩) scl9 had rfl rfl (by rw [List.length_set]; omega) ?_
    clear H
    intro w11 H
    have hset : (((pieces r).map sv).set I (.string ⟨(pieces r)[K].toArray⟩)).set K (.string ⟨(pieces r)[I].toArray⟩) = (((pieces r).set I (pieces r)[K]).set K (pieces r)[I]).map sv := by
      rw [List.map_set, List.map_set]; rfl
    rw [hset] at H
    obtain ⟨hsw1, hsw2⟩ := swapped hr hI hK
    have hsl : (((pieces r).set I (pieces r)[K]).set K (pieces r)[I]).length = (pieces r).length := by simp
    generalize ((pieces r).set I (pieces r)[K]).set K (pieces r)[I] = turned at H hsw1 hsw2 hsl
    refine callV (decode_u less a4 _ c4 _ (out_strS (H.ownA (by repeat first | exact .head _ | refine .tail _ ?_))) (by omega)) ?_
    rintro e w12 ⟨q1, a7, c7, er1, rfl, hq1, H'⟩; replace H := H.ext1 H'; clear H'
    refine ⟨_, _, _, _, _, _, _, _, _, _, _, rfl, ?_⟩
    (repeat (first | ((repeat apply Exists.intro); first | refine ⟨H.ld (by exact ⟨rfl, rfl, rfl, rfl⟩) (by first | exact scl3 | exact scl9 | exact scl22 | exact scl32) (by repeat first | exact .head _ | refine .tail _ ?_) rfl, ?_⟩ | refine ⟨H.ldA (by exact ⟨rfl, rfl, rfl, rfl⟩) (by first | exact agg24 | exact agg34 | exact agg52) (by repeat first | exact .head _ | refine .tail _ ?_) rfl rfl, ?_⟩) | (intro _ _ hn; replace H := H.new (by exact ⟨rfl, rfl, rfl, rfl⟩) hn; clear hn) | ((first | (apply Hp.st; (case H => first | exact H | exact H.pull1 | exact H.pull2 | exact H.pull3 | exact H.pull4 | exact H.pull5 | exact H.pull6 | exact H.pull7); (case e => exact ⟨rfl, rfl, rfl, rfl⟩); (case S => exact (by first | exact scl3 | exact scl9 | exact scl22 | exact scl32)); (case hv => exact rfl); (case h1 => exact rfl); (case ho => exact Nat.le_of_ble_eq_true rfl); (case hc => exact rfl)) | (apply Hp.stA; (case H => first | exact H | exact H.pull1 | exact H.pull2 | exact H.pull3 | exact H.pull4 | exact H.pull5 | exact H.pull6 | exact H.pull7); (case e => exact ⟨rfl, rfl, rfl, rfl⟩); (case S => exact (by first | exact agg24 | exact agg34 | exact agg52)); (case hn => exact rfl); (case h1 => exact rfl); (case ho => exact Nat.le_of_ble_eq_true rfl); (case hc => exact rfl))); clear H; intro _ H; (try simp only [over, List.set_cons_zero, List.set_cons_succ] at H))))
    refine callV (decode_u (pieces r ++ [(pieces r)[K]]) a5 _ c5 _ ⟨htl.symm, (H.ownA (by repeat first | exact .head _ | refine .tail _ ?_)).cells⟩ (by omega)) ?_
    rintro e w13 ⟨q2, a8, c8, er2, rfl, hq2, H'⟩; replace H := H.ext1 H'; clear H'
    refine ⟨_, _, _, _, _, _, _, _, _, _, _, rfl, ?_⟩
    (repeat (first | ((repeat apply Exists.intro); first | refine ⟨H.ld (by exact ⟨rfl, rfl, rfl, rfl⟩) (by first | exact scl3 | exact scl9 | exact scl22 | exact scl32) (by repeat first | exact .head _ | refine .tail _ ?_) rfl, ?_⟩ | refine ⟨H.ldA (by exact ⟨rfl, rfl, rfl, rfl⟩) (by first | exact agg24 | exact agg34 | exact agg52) (by repeat first | exact .head _ | refine .tail _ ?_) rfl rfl, ?_⟩) | (intro _ _ hn; replace H := H.new (by exact ⟨rfl, rfl, rfl, rfl⟩) hn; clear hn) | ((first | (apply Hp.st; (case H => first | exact H | exact H.pull1 | exact H.pull2 | exact H.pull3 | exact H.pull4 | exact H.pull5 | exact H.pull6 | exact H.pull7); (case e => exact ⟨rfl, rfl, rfl, rfl⟩); (case S => exact (by first | exact scl3 | exact scl9 | exact scl22 | exact scl32)); (case hv => exact rfl); (case h1 => exact rfl); (case ho => exact Nat.le_of_ble_eq_true rfl); (case hc => exact rfl)) | (apply Hp.stA; (case H => first | exact H | exact H.pull1 | exact H.pull2 | exact H.pull3 | exact H.pull4 | exact H.pull5 | exact H.pull6 | exact H.pull7); (case e => exact ⟨rfl, rfl, rfl, rfl⟩); (case S => exact (by first | exact agg24 | exact agg34 | exact agg52)); (case hn => exact rfl); (case h1 => exact rfl); (case ho => exact Nat.le_of_ble_eq_true rfl); (case hc => exact rfl))); clear H; intro _ H; (try simp only [over, List.set_cons_zero, List.set_cons_succ] at H))))
    refine callV (decode_u turned a6 _ c6 _ ⟨hsl.symm, (H.ownA (by repeat first | exact .head _ | refine .tail _ ?_)).cells⟩ (by omega)) ?_
    rintro e w14 ⟨q3, a9, c9, er3, rfl, hq3, H'⟩; replace H := H.ext1 H'; clear H'
    refine ⟨_, _, _, _, _, _, _, _, _, _, _, rfl, ?_⟩
    (repeat (first | ((repeat apply Exists.intro); first | refine ⟨H.ld (by exact ⟨rfl, rfl, rfl, rfl⟩) (by first | exact scl3 | exact scl9 | exact scl22 | exact scl32) (by repeat first | exact .head _ | refine .tail _ ?_) rfl, ?_⟩ | refine ⟨H.ldA (by exact ⟨rfl, rfl, rfl, rfl⟩) (by first | exact agg24 | exact agg34 | exact agg52) (by repeat first | exact .head _ | refine .tail _ ?_) rfl rfl, ?_⟩) | (intro _ _ hn; replace H := H.new (by exact ⟨rfl, rfl, rfl, rfl⟩) hn; clear hn) | ((first | (apply Hp.st; (case H => first | exact H | exact H.pull1 | exact H.pull2 | exact H.pull3 | exact H.pull4 | exact H.pull5 | exact H.pull6 | exact H.pull7); (case e => exact ⟨rfl, rfl, rfl, rfl⟩); (case S => exact (by first | exact scl3 | exact scl9 | exact scl22 | exact scl32)); (case hv => exact rfl); (case h1 => exact rfl); (case ho => exact Nat.le_of_ble_eq_true rfl); (case hc => exact rfl)) | (apply Hp.stA; (case H => first | exact H | exact H.pull1 | exact H.pull2 | exact H.pull3 | exact H.pull4 | exact H.pull5 | exact H.pull6 | exact H.pull7); (case e => exact ⟨rfl, rfl, rfl, rfl⟩); (case S => exact (by first | exact agg24 | exact agg34 | exact agg52)); (case hn => exact rfl); (case h1 => exact rfl); (case ho => exact Nat.le_of_ble_eq_true rfl); (case hc => exact rfl))); clear H; intro _ H; (try simp only [over, List.set_cons_zero, List.set_cons_succ] at H))))
    refine callV (alive_spec _) ?_
    (rintro _ _ ⟨rfl, H'⟩; (first | replace H := H.ext0 H' | replace H := H.drew.ext0 H' | replace H := H.drew.drew.ext0 H'); clear H'; refine ⟨_, rfl, ?_⟩)
    have e1 : er1 = 160 := by
      rcases hq1 with ⟨h, _⟩ | ⟨_, _, h⟩
      · exact absurd ⟨_, h⟩ nless
      · exact h
    have e2 : er2 = 160 := by
      rcases hq2 with ⟨h, _⟩ | ⟨_, _, h⟩
      · exact absurd ⟨_, h⟩ ntwice
      · exact h
    refine br_true (br_dec (fun _ => br_dec (fun _ => ⟨?_, H.done⟩) (fun h => absurd e2 h)) (fun h => absurd e1 h))
    congr 2
    rw [beq_iff_eq]
    by_cases hik : I = K
    · have : er3 = 0 := by
        rcases hq3 with ⟨_, h⟩ | ⟨h, _⟩
        · exact h
        · exact absurd ⟨r, hr, (hsw1 hik).symm⟩ h
      subst this
      rw [decide_eq_false (by omega), decide_eq_true (by omega)]; rfl
    · have : er3 = 160 := by
        rcases hq3 with ⟨h, _⟩ | ⟨_, _, h⟩
        · exact absurd ⟨_, h⟩ (hsw2 hik)
        · exact h
      subst this
      rw [decide_eq_true rfl, decide_eq_false (by omega)]; rfl
  · intro J hJ
    replace H := H.drew
    refine ⟨?_, ?_, ?_⟩
    · obtain ⟨ad, had, hld⟩ := (out_strS (H.ownA (.tail _ (.head _)))).ld (List.getElem?_eq_getElem hK)
      refine onP_mk had ⟨⟨by omega, by omega⟩, _, hld, ?_⟩
      intro b4 w8 hn4
      replace H := (H.new (by exact ⟨rfl, rfl, rfl, rfl⟩) hn4).toOwn (sz := 1) (n := 0) rfl (by omega)
      obtain ⟨ad', had', hld'⟩ := (out_strS (H.ownA (.tail _ (.tail _ (.head _))))).ld (List.getElem?_eq_getElem hK)
      have : ad' = ad := by rw [had] at had'; exact (Option.some.inj had').symm
      subst this
      refine ⟨hld', ?_⟩
      have hc3 : Cells w8 a2 ((pieces r).map sv) := (H.ownA (.tail _ (.tail _ (.head _)))).cells
      refine Hp.app elt26 (by omega) H (by exact ⟨rfl, rfl, rfl, rfl⟩) (Cells.src und26 hc3 (by omega) (sv_one _) (fun h => absurd h hpos)) (by omega) (by omega) ?_
      clear H hc3 hn4 hld hld'
      intro a6 c6 w9 H
      rw [List.nil_append, Nat.zero_add] at H
      rw [Nat.zero_add]
      obtain ⟨ad2, had2, hld2⟩ := (out_strS (H.ownA (.tail _ (.tail _ (.head _))))).ld (List.getElem?_eq_getElem hK)
      have : ad2 = ad' := by rw [had'] at had2; exact (Option.some.inj had2).symm
      subst this
      refine ⟨hld2, ?_⟩
      intro b5 w10 hn5
      replace H := H.new (by exact ⟨rfl, rfl, rfl, rfl⟩) hn5
      refine Hp.app elt26 (by omega) H.pull1 (by exact ⟨rfl, rfl, rfl, rfl⟩) (Blk.src und26 (H.blk (.head _)) rfl rfl) (by omega) (by omega) ?_
      clear H hn5
      intro a7 c7 w11 H
      exact hJ _ _ ⟨a7, c7, rfl, by rw [← htc]; exact H.del1.done3⟩
    · obtain ⟨ad, had, hld⟩ := (out_strS (H.ownA (.tail _ (.head _)))).ld (List.getElem?_eq_getElem hK)
      refine onP_mk had ⟨⟨by omega, by omega⟩, _, hld, ?_⟩
      intro b4 w8 hn4
      replace H := (H.new (by exact ⟨rfl, rfl, rfl, rfl⟩) hn4).toOwn (sz := 1) (n := 0) rfl (by omega)
      obtain ⟨ad', had', hld'⟩ := (out_strS (H.ownA (.tail _ (.tail _ (.head _))))).ld (List.getElem?_eq_getElem hK)
      have : ad' = ad := by rw [had] at had'; exact (Option.some.inj had').symm
      subst this
      refine ⟨hld', ?_⟩
      clear hn4 hld hld'
      intro b5 w10 hn5
      replace H := H.new (by exact ⟨rfl, rfl, rfl, rfl⟩) hn5
      clear hn5
      have hc3 : Cells w10 a2 ((pieces r).map sv) := (H.ownA (.tail _ (.tail _ (.tail _ (.head _))))).cells
      refine Hp.app elt26 (by omega) H.pull1 (by exact ⟨rfl, rfl, rfl, rfl⟩) (Cells.src und26 hc3 (by omega) (sv_one _) (fun h => absurd h hpos)) (by omega) (by omega) ?_
      clear H hc3
      intro a6 c6 w9 H
      rw [List.nil_append, Nat.zero_add] at H
      rw [Nat.zero_add]
      refine Hp.app elt26 (by omega) H (by exact ⟨rfl, rfl, rfl, rfl⟩) (Blk.src und26 (H.blk (.tail _ (.head _))) rfl rfl) (by omega) (by omega) ?_
      clear H
      intro a7 c7 w11 H
      exact hJ _ _ ⟨a7, c7, rfl, by rw [← htc]; exact H.del1.done3⟩
    · obtain ⟨ad, had, hld⟩ := (out_strS (H.ownA (.tail _ (.head _)))).ld (List.getElem?_eq_getElem hK)
      refine onP_mk had ⟨⟨by omega, by omega⟩, _, hld, ?_⟩
      intro b4 w8 hn4
      replace H := H.new (by exact ⟨rfl, rfl, rfl, rfl⟩) hn4
      clear hn4 hld
      intro b5 w10 hn5
      replace H := (H.new (by exact ⟨rfl, rfl, rfl, rfl⟩) hn5).toOwn (sz := 1) (n := 0) rfl (by omega)
      clear hn5
      have hc3 : Cells w10 a2 ((pieces r).map sv) := (H.ownA (.tail _ (.tail _ (.tail _ (.head _))))).cells
      refine Hp.app elt26 (by omega) H (by exact ⟨rfl, rfl, rfl, rfl⟩) (Cells.src und26 hc3 (by omega) (sv_one _) (fun h => absurd h hpos)) (by omega) (by omega) ?_
      clear H hc3
      intro a6 c6 w9 H
      rw [List.nil_append, Nat.zero_add] at H
      rw [Nat.zero_add]
      refine Hp.app elt26 (by omega) H (by exact ⟨rfl, rfl, rfl, rfl⟩) (Blk.src und26 (H.blk (.tail _ (.head _))) rfl rfl) (by omega) (by omega) ?_
      clear H
      intro a7 c7 w11 H
      exact hJ _ _ ⟨a7, c7, rfl, by rw [← htc]; exact H.del1.done3⟩
end Go.Proofs.Ytcgaobfbgfefhaa
