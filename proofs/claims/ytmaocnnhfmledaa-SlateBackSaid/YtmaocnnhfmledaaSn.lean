/- Slate: the laws of stamps, of what is apart, of what is loaded. -/
import Derived.Test.YtmaocnnhfmledaaSm
set_option linter.unusedVariables false
set_option linter.unusedSimpArgs false
set_option maxRecDepth 100000
namespace Go.Proofs.Ytmaocnnhfmledaa
open Go Go.Vc

theorem ado_stamp (L : Recs) (st : Nat) (o : Op') (h : o.kind ≠ 3) : (ado L st o).2.1 = st := by
  unfold ado
  by_cases h0 : o.kind = 0
  · rw [if_pos h0]
  · by_cases h1 : o.kind = 1
    · rw [if_neg h0, if_pos h1]
    · by_cases h2 : o.kind = 2
      · rw [if_neg h0, if_neg h1, if_pos h2]
      · rw [if_neg h0, if_neg h1, if_neg h2, if_neg h]

set_option maxHeartbeats 1000000 in
theorem slateStamps_law (sa : Option Addr) (sc : Nat) (ops : List Op') (n : Int) (w : World) (hs : Cells w sa (opC ops)) :
    Calls Go.Proofs.Try.prog 5 #[.slice sa ops.length sc, .int .i64 n] w fun e w' => e = .returned (.bool true) ∧ Hp [] w w' [] := by
  apply slateStamps.ok
  unfold slateStamps.vc
  have H := Hp.start w
  refine callV (new_any _) ?_
  rintro e w1 ⟨p, rfl, H'⟩; replace H := H.ext1 H'; clear H'
  refine ⟨_, rfl, _, eqv_ptrE und23, br_mk (fun h => by cases h) (fun _ => ?_)⟩
  refine br_dec (fun _ => ?_) (fun hl => ?_)
  · refine ⟨_, eqv_ptrN und23, br_mk (fun _ => ?_) (fun h => by cases h)⟩
    refine callV (alive_spec _) ?_
    rintro e w2 ⟨rfl, H'⟩; replace H := H.ext0 H'; clear H'
    exact ⟨_, rfl, rfl, H.done⟩
  refine callV (plays_new (w' := w) H sa sc ops (by omega) hs) ?_
  clear H
  rintro e w2 ⟨a', c', g', rfl, hR, H⟩
  generalize runO ([], 0) ops = S at hR H
  refine ⟨_, _, _, _, _, rfl, ?_⟩
  (intro _ _ hn; replace H := H.new (by exact ⟨rfl, rfl, rfl, rfl⟩) hn; clear hn)
  rename_i b1 _
  ((first | (apply Hp.st; (case H => first | exact H | exact H.pull1 | exact H.pull2 | exact H.pull3 | exact H.pull4 | exact H.pull5 | exact H.pull6 | exact H.pull7); (case e => exact ⟨rfl, rfl, rfl, rfl⟩); (case S => exact (by first | exact scl3 | exact scl9 | exact scl26)); (case hv => exact rfl); (case h1 => exact rfl); (case ho => exact Nat.le_of_ble_eq_true rfl); (case hc => exact rfl)) | (apply Hp.stA; (case H => first | exact H | exact H.pull1 | exact H.pull2 | exact H.pull3 | exact H.pull4 | exact H.pull5 | exact H.pull6 | exact H.pull7); (case e => exact ⟨rfl, rfl, rfl, rfl⟩); (case S => exact (by first | exact agg28 | exact agg43 | exact agg64)); (case hn => exact rfl); (case h1 => exact rfl); (case ho => exact Nat.le_of_ble_eq_true rfl); (case hc => exact rfl))); clear H; intro _ H; (try simp only [over, List.set_cons_zero, List.set_cons_succ] at H))
  refine JoinP.mk (fun s w' => s = decide (okStamp n) ∧ Hp [] w w' [.blk b1 [.slice a' S.1.length c', .int .i64 (S.2 : Int)] 28, pgA p g', pO a' c' S.1]) ?_ ?_
  · clear H
    rintro s w3 ⟨rfl, H⟩
    refine br_not (fun h => by cases h) (fun _ => ?_)
    replace H := H.pull1
    refine callV (setStamp_any hR (H.ok _ (.head _)) n) ?_
    rintro e w4 ⟨rfl, g2, hR2, H'⟩; replace H := (Hp.use11 (a := pgA p g') H H').pull1; clear H'
    refine ⟨_, rfl, br_mk (fun h => absurd h (by simp)) (fun _ => ?_)⟩
    refine br_dec (fun hok => ?_) (fun hok => ?_)
    · have hn : ((n.toNat : Nat) : Int) = n := by have := hok.1; omega
      have hast : astamp S.2 n = n.toNat := by rw [astamp, if_pos hok]
      have hast2 : (n : Int) = (astamp S.2 n : Nat) := by rw [hast, hn]
      refine Hp.st H (by exact ⟨rfl, rfl, rfl, rfl⟩) scl3 rfl rfl (by simp) rfl ?_
      clear H
      intro w5 H
      simp only [List.set_cons_succ, List.set_cons_zero] at H
      rw [hast2] at H
      clear hast hn
      generalize hnn : astamp S.2 n = st2 at *
      ((repeat apply Exists.intro); first | refine ⟨H.ld (by exact ⟨rfl, rfl, rfl, rfl⟩) (by first | exact scl3 | exact scl9 | exact scl26) (by repeat first | exact .head _ | refine .tail _ ?_) rfl, ?_⟩ | refine ⟨H.ldA (by exact ⟨rfl, rfl, rfl, rfl⟩) (by first | exact agg28 | exact agg43 | exact agg64) (by repeat first | exact .head _ | refine .tail _ ?_) rfl rfl, ?_⟩)
      rw [← hnn] at *
      refine callV (stands_spec hR2 (H.ok _ (.tail _ (.head _))) (pOc H (by exact ⟨rfl, rfl, rfl, rfl⟩) (by repeat first | exact .head _ | refine .tail _ ?_))) ?_
      rintro e w4 ⟨rfl, H'⟩; replace H := H.ext0 H'; clear H'
      refine ⟨_, rfl, br_not (fun h => by cases h) (fun _ => ?_)⟩
      generalize hst2 : astamp S.2 n = st2 at *
      refine LoopP.mk (fun m s w' => ∃ (j : Nat) (g' : Pg) (L : Recs), m = ops.length - j ∧ j ≤ ops.length ∧ s = (j : Int) ∧ Rep g' L st2 ∧ Hp [] w w' [pgA p g', .blk b1 [.slice a' S.1.length c', .int .i64 (st2 : Int)] 28]) ops.length ⟨0, g2, _, rfl, by omega, rfl, hR2, by (apply Hp.takeL; (try dsimp only [List.cons_append, List.nil_append]); (try dsimp only [List.cons_append, List.nil_append] at H); refine Hp.perm H ?_; (repeat (apply perm_step; (focus first | exact perm_p0 | exact perm_p1 | exact perm_p2 | exact perm_p3 | exact perm_p4 | exact perm_p5 | exact perm_p6 | exact perm_p7 | exact perm_p8 | exact perm_p9))); exact List.Perm.refl _)⟩ ?_
      clear H hR2
      rintro m s w5 next ⟨j, g5, L5, rfl, hj, rfl, hR5, H⟩ hnext
      refine br_dec (fun h1 => ?_) (fun h1 => ?_)
      · have hj' : j < ops.length := by omega
        obtain ⟨ad, ha⟩ := hs.some (opC_ne hj')
        have e1 : Int.toNat (j : Int) * 4 = 4 * j := by omega
        refine onP_mk ha ⟨⟨by omega, h1⟩, _, _, _, _, by rw [e1]; exact (hs.chg H.chg (by simp)).ldA agg43 ha (opC_four hj') rfl, ?_⟩
        (intro _ _ hn; replace H := H.new (by exact ⟨rfl, rfl, rfl, rfl⟩) hn; clear hn)
        ((first | (apply Hp.st; (case H => first | exact H | exact H.pull1 | exact H.pull2 | exact H.pull3 | exact H.pull4 | exact H.pull5 | exact H.pull6 | exact H.pull7); (case e => exact ⟨rfl, rfl, rfl, rfl⟩); (case S => exact (by first | exact scl3 | exact scl9 | exact scl26)); (case hv => exact rfl); (case h1 => exact rfl); (case ho => exact Nat.le_of_ble_eq_true rfl); (case hc => exact rfl)) | (apply Hp.stA; (case H => first | exact H | exact H.pull1 | exact H.pull2 | exact H.pull3 | exact H.pull4 | exact H.pull5 | exact H.pull6 | exact H.pull7); (case e => exact ⟨rfl, rfl, rfl, rfl⟩); (case S => exact (by first | exact agg28 | exact agg43 | exact agg64)); (case hn => exact rfl); (case h1 => exact rfl); (case ho => exact Nat.le_of_ble_eq_true rfl); (case hc => exact rfl))); clear H; intro _ H; (try simp only [over, List.set_cons_zero, List.set_cons_succ] at H))
        ((repeat apply Exists.intro); first | refine ⟨H.ld (by exact ⟨rfl, rfl, rfl, rfl⟩) (by first | exact scl3 | exact scl9 | exact scl26) (by repeat first | exact .head _ | refine .tail _ ?_) rfl, ?_⟩ | refine ⟨H.ldA (by exact ⟨rfl, rfl, rfl, rfl⟩) (by first | exact agg28 | exact agg43 | exact agg64) (by repeat first | exact .head _ | refine .tail _ ?_) rfl rfl, ?_⟩)
        refine br_ndec (fun h3 => ?_) (fun h3 => ?_)
        · ((repeat apply Exists.intro); first | refine ⟨H.ld (by exact ⟨rfl, rfl, rfl, rfl⟩) (by first | exact scl3 | exact scl9 | exact scl26) (by repeat first | exact .head _ | refine .tail _ ?_) rfl, ?_⟩ | refine ⟨H.ldA (by exact ⟨rfl, rfl, rfl, rfl⟩) (by first | exact agg28 | exact agg43 | exact agg64) (by repeat first | exact .head _ | refine .tail _ ?_) rfl rfl, ?_⟩)
          replace H := H.pull1
          refine callV (does_spec hR5 (H.ok _ (.head _)) ops[j]) ?_
          rw [ado_stamp L5 st2 ops[j] h3]
          rintro e w7 ⟨rfl, g7, hR7, H'⟩; replace H := Hp.use11 (a := pgA p g5) H H'; clear H'
          exact ⟨_, _, rfl, inR64.2 (by omega), hnext (ops.length - (j + 1)) _ _ (by omega) ⟨j + 1, g7, _, rfl, by omega, by omega, hR7, H.del1⟩⟩
        · exact ⟨inR64.2 (by omega), hnext (ops.length - (j + 1)) _ _ (by omega) ⟨j + 1, g5, _, rfl, by omega, by omega, hR5, H.drop⟩⟩
      · refine callV (alive_spec _) ?_
        rintro e w7 ⟨rfl, H'⟩; replace H := H.drew.ext0 H'; clear H'
        refine ⟨_, rfl, br_true ?_⟩
        ((repeat apply Exists.intro); first | refine ⟨H.ld (by exact ⟨rfl, rfl, rfl, rfl⟩) (by first | exact scl3 | exact scl9 | exact scl26) (by repeat first | exact .head _ | refine .tail _ ?_) rfl, ?_⟩ | refine ⟨H.ldA (by exact ⟨rfl, rfl, rfl, rfl⟩) (by first | exact agg28 | exact agg43 | exact agg64) (by repeat first | exact .head _ | refine .tail _ ?_) rfl rfl, ?_⟩)
        refine callV (stamp_any hR5 (H.ok _ (.head _))) ?_
        rintro e w8 ⟨rfl, H'⟩; replace H := H.ext0 H'; clear H'
        refine ⟨_, rfl, ?_⟩
        ((repeat apply Exists.intro); first | refine ⟨H.ld (by exact ⟨rfl, rfl, rfl, rfl⟩) (by first | exact scl3 | exact scl9 | exact scl26) (by repeat first | exact .head _ | refine .tail _ ?_) rfl, ?_⟩ | refine ⟨H.ldA (by exact ⟨rfl, rfl, rfl, rfl⟩) (by first | exact agg28 | exact agg43 | exact agg64) (by repeat first | exact .head _ | refine .tail _ ?_) rfl rfl, ?_⟩)
        exact ⟨by rw [decide_eq_true rfl], H.done⟩

    · have hast : astamp S.2 n = S.2 := by rw [astamp, if_neg hok]
      rw [← hast] at H
      ((repeat apply Exists.intro); first | refine ⟨H.ld (by exact ⟨rfl, rfl, rfl, rfl⟩) (by first | exact scl3 | exact scl9 | exact scl26) (by repeat first | exact .head _ | refine .tail _ ?_) rfl, ?_⟩ | refine ⟨H.ldA (by exact ⟨rfl, rfl, rfl, rfl⟩) (by first | exact agg28 | exact agg43 | exact agg64) (by repeat first | exact .head _ | refine .tail _ ?_) rfl rfl, ?_⟩)
      refine callV (stands_spec hR2 (H.ok _ (.tail _ (.head _))) (pOc H (by exact ⟨rfl, rfl, rfl, rfl⟩) (by repeat first | exact .head _ | refine .tail _ ?_))) ?_
      rintro e w4 ⟨rfl, H'⟩; replace H := H.ext0 H'; clear H'
      refine ⟨_, rfl, br_not (fun h => by cases h) (fun _ => ?_)⟩
      generalize hst2 : astamp S.2 n = st2 at *
      refine LoopP.mk (fun m s w' => ∃ (j : Nat) (g' : Pg) (L : Recs), m = ops.length - j ∧ j ≤ ops.length ∧ s = (j : Int) ∧ Rep g' L st2 ∧ Hp [] w w' [pgA p g', .blk b1 [.slice a' S.1.length c', .int .i64 (st2 : Int)] 28]) ops.length ⟨0, g2, _, rfl, by omega, rfl, hR2, by (apply Hp.takeL; (try dsimp only [List.cons_append, List.nil_append]); (try dsimp only [List.cons_append, List.nil_append] at H); refine Hp.perm H ?_; (repeat (apply perm_step; (focus first | exact perm_p0 | exact perm_p1 | exact perm_p2 | exact perm_p3 | exact perm_p4 | exact perm_p5 | exact perm_p6 | exact perm_p7 | exact perm_p8 | exact perm_p9))); exact List.Perm.refl _)⟩ ?_
      clear H hR2
      rintro m s w5 next ⟨j, g5, L5, rfl, hj, rfl, hR5, H⟩ hnext
      refine br_dec (fun h1 => ?_) (fun h1 => ?_)
      · have hj' : j < ops.length := by omega
        obtain ⟨ad, ha⟩ := hs.some (opC_ne hj')
        have e1 : Int.toNat (j : Int) * 4 = 4 * j := by omega
        refine onP_mk ha ⟨⟨by omega, h1⟩, _, _, _, _, by rw [e1]; exact (hs.chg H.chg (by simp)).ldA agg43 ha (opC_four hj') rfl, ?_⟩
        (intro _ _ hn; replace H := H.new (by exact ⟨rfl, rfl, rfl, rfl⟩) hn; clear hn)
        ((first | (apply Hp.st; (case H => first | exact H | exact H.pull1 | exact H.pull2 | exact H.pull3 | exact H.pull4 | exact H.pull5 | exact H.pull6 | exact H.pull7); (case e => exact ⟨rfl, rfl, rfl, rfl⟩); (case S => exact (by first | exact scl3 | exact scl9 | exact scl26)); (case hv => exact rfl); (case h1 => exact rfl); (case ho => exact Nat.le_of_ble_eq_true rfl); (case hc => exact rfl)) | (apply Hp.stA; (case H => first | exact H | exact H.pull1 | exact H.pull2 | exact H.pull3 | exact H.pull4 | exact H.pull5 | exact H.pull6 | exact H.pull7); (case e => exact ⟨rfl, rfl, rfl, rfl⟩); (case S => exact (by first | exact agg28 | exact agg43 | exact agg64)); (case hn => exact rfl); (case h1 => exact rfl); (case ho => exact Nat.le_of_ble_eq_true rfl); (case hc => exact rfl))); clear H; intro _ H; (try simp only [over, List.set_cons_zero, List.set_cons_succ] at H))
        ((repeat apply Exists.intro); first | refine ⟨H.ld (by exact ⟨rfl, rfl, rfl, rfl⟩) (by first | exact scl3 | exact scl9 | exact scl26) (by repeat first | exact .head _ | refine .tail _ ?_) rfl, ?_⟩ | refine ⟨H.ldA (by exact ⟨rfl, rfl, rfl, rfl⟩) (by first | exact agg28 | exact agg43 | exact agg64) (by repeat first | exact .head _ | refine .tail _ ?_) rfl rfl, ?_⟩)
        refine br_ndec (fun h3 => ?_) (fun h3 => ?_)
        · ((repeat apply Exists.intro); first | refine ⟨H.ld (by exact ⟨rfl, rfl, rfl, rfl⟩) (by first | exact scl3 | exact scl9 | exact scl26) (by repeat first | exact .head _ | refine .tail _ ?_) rfl, ?_⟩ | refine ⟨H.ldA (by exact ⟨rfl, rfl, rfl, rfl⟩) (by first | exact agg28 | exact agg43 | exact agg64) (by repeat first | exact .head _ | refine .tail _ ?_) rfl rfl, ?_⟩)
          replace H := H.pull1
          refine callV (does_spec hR5 (H.ok _ (.head _)) ops[j]) ?_
          rw [ado_stamp L5 st2 ops[j] h3]
          rintro e w7 ⟨rfl, g7, hR7, H'⟩; replace H := Hp.use11 (a := pgA p g5) H H'; clear H'
          exact ⟨_, _, rfl, inR64.2 (by omega), hnext (ops.length - (j + 1)) _ _ (by omega) ⟨j + 1, g7, _, rfl, by omega, by omega, hR7, H.del1⟩⟩
        · exact ⟨inR64.2 (by omega), hnext (ops.length - (j + 1)) _ _ (by omega) ⟨j + 1, g5, _, rfl, by omega, by omega, hR5, H.drop⟩⟩
      · refine callV (alive_spec _) ?_
        rintro e w7 ⟨rfl, H'⟩; replace H := H.drew.ext0 H'; clear H'
        refine ⟨_, rfl, br_true ?_⟩
        ((repeat apply Exists.intro); first | refine ⟨H.ld (by exact ⟨rfl, rfl, rfl, rfl⟩) (by first | exact scl3 | exact scl9 | exact scl26) (by repeat first | exact .head _ | refine .tail _ ?_) rfl, ?_⟩ | refine ⟨H.ldA (by exact ⟨rfl, rfl, rfl, rfl⟩) (by first | exact agg28 | exact agg43 | exact agg64) (by repeat first | exact .head _ | refine .tail _ ?_) rfl rfl, ?_⟩)
        refine callV (stamp_any hR5 (H.ok _ (.head _))) ?_
        rintro e w8 ⟨rfl, H'⟩; replace H := H.ext0 H'; clear H'
        refine ⟨_, rfl, ?_⟩
        ((repeat apply Exists.intro); first | refine ⟨H.ld (by exact ⟨rfl, rfl, rfl, rfl⟩) (by first | exact scl3 | exact scl9 | exact scl26) (by repeat first | exact .head _ | refine .tail _ ?_) rfl, ?_⟩ | refine ⟨H.ldA (by exact ⟨rfl, rfl, rfl, rfl⟩) (by first | exact agg28 | exact agg43 | exact agg64) (by repeat first | exact .head _ | refine .tail _ ?_) rfl rfl, ?_⟩)
        exact ⟨by rw [decide_eq_true rfl], H.done⟩

  · intro J hJ
    refine br_dec (fun h0 => ?_) (fun h0 => ?_)
    · refine hJ _ _ ⟨?_, H⟩
      unfold okStamp
      simp [h0]
    · refine hJ _ _ ⟨?_, H⟩
      unfold okStamp
      simp [h0]
end Go.Proofs.Ytmaocnnhfmledaa
