/- Slate: the laws of what is apart, of what is loaded. -/
import Derived.Test.YtmaocnnhfmledaaSn
set_option linter.unusedVariables false
set_option linter.unusedSimpArgs false
set_option maxRecDepth 100000
namespace Go.Proofs.Ytmaocnnhfmledaa
open Go Go.Vc

theorem lk_wo (L : Recs) (K : Nat) (k : Int) (h : k ≠ (K : Int)) : lk (wo L K) k = lk L k := by
  induction L with
  | nil => rfl
  | cons p r ih =>
    by_cases hp : p.1 = K
    · have e : wo (p :: r) K = wo r K := by
        show List.filter _ (p :: r) = _
        rw [List.filter_cons, if_neg (by simp [hp])]; rfl
      have e2 : lk (p :: r) k = lk r k := by
        unfold lk
        rw [List.find?_cons, decide_eq_false (by omega)]
      rw [e, e2, ih]
    · have e : wo (p :: r) K = p :: wo r K := by
        show List.filter _ (p :: r) = _
        rw [List.filter_cons, if_pos (by simp [hp])]; rfl
      rw [e]
      unfold lk at ih ⊢
      rw [List.find?_cons, List.find?_cons]
      split
      · rfl
      · exact ih
theorem lk_insR (x : Nat × List UInt8) (k : Int) (h : k ≠ (x.1 : Int)) : ∀ L : Recs, lk (insR x L) k = lk L k
  | [] => by
    unfold lk insR
    rw [List.find?_cons, decide_eq_false (by omega)]
  | p :: r => by
    have ih := lk_insR x k h r
    rw [insR]
    split
    · unfold lk
      rw [List.find?_cons, decide_eq_false (by omega)]
    · unfold lk at ih ⊢
      rw [List.find?_cons, List.find?_cons]
      split
      · rfl
      · exact ih
theorem lk_aput (L : Recs) (k : Int) (s : List UInt8) (i : Int) (h : i ≠ k) : lk (aput L k s).1 i = lk L i := by
  unfold aput
  split
  · rfl
  · split
    · rfl
    · have h2 : i ≠ ((k.toNat : Nat) : Int) := by omega
      show lk (insR _ _) i = _
      rw [lk_insR _ i h2, lk_wo _ _ _ h2]
/-- a call that is not of a slot leaves it -/
theorem lk_ado {L : Recs} (hs : L.Pairwise fun a b => a.1 < b.1) (st : Nat) (o : Op') (i : Int) (h1 : o.kind = 1 → o.slot ≠ i) (h2 : o.kind = 2 → o.slot ≠ i) (h0 : o.kind = 0 → (lk L i).isSome = true) : lk (ado L st o).1 i = lk L i := by
  unfold ado
  by_cases k0 : o.kind = 0
  · rw [if_pos k0]
    have hsome := h0 k0
    show lk (ains L o.s).1 i = _
    unfold ains
    simp only
    split
    · rfl
    · split
      · show lk (aput L _ o.s).1 i = _
        refine lk_aput _ _ _ _ ?_
        rintro rfl
        rw [lk_none fun p hp e => ff_not hs p.2 (by
          have e' : p.1 = ff (L.map (·.1)) 0 := by omega
          rw [← e']; exact hp)] at hsome
        cases hsome
      · rfl
  · by_cases k1 : o.kind = 1
    · rw [if_neg k0, if_pos k1]
      exact lk_aput _ _ _ _ fun e => h1 k1 e.symm
    · by_cases k2 : o.kind = 2
      · rw [if_neg k0, if_neg k1, if_pos k2]
        show lk (adel L o.slot).1 i = _
        unfold adel
        split
        · rename_i hsm
          rcases lk_cases (L := L) o.slot with ⟨h3, _⟩ | ⟨K, s, h3, _, _⟩
          · rw [h3] at hsm; cases hsm
          · show lk (wo L _) i = _
            refine lk_wo _ _ _ fun e => h2 k2 ?_
            omega
        · rfl
      · rw [if_neg k0, if_neg k1, if_neg k2]
        split <;> rfl

set_option maxHeartbeats 2000000 in
theorem slateApart_law (sa : Option Addr) (sc : Nat) (ops : List Op') (ma : Option Addr) (mc : Nat) (more : List Op') (slot : Int) (w : World) (hs : Cells w sa (opC ops)) (hm : Cells w ma (opC more)) :
    Calls Go.Proofs.Try.prog 6 #[.slice sa ops.length sc, .slice ma more.length mc, .int .i64 slot] w fun e w' => e = .returned (.bool true) ∧ Hp [] w w' [] := by
  apply slateApart.ok
  unfold slateApart.vc
  have H := Hp.start w
  refine callV (new_any _) ?_
  rintro e w1 ⟨p, rfl, H'⟩; replace H := H.ext1 H'; clear H'
  refine ⟨_, rfl, _, eqv_ptrE und23, br_mk (fun h => by cases h) (fun _ => ?_)⟩
  refine br_dec (fun _ => ?_) (fun hl => br_dec (fun _ => ?_) (fun hl2 => ?_))
  · refine ⟨_, eqv_ptrN und23, br_mk (fun _ => ?_) (fun h => by cases h)⟩
    refine callV (alive_spec _) ?_
    rintro e w2 ⟨rfl, H'⟩; replace H := H.ext0 H'; clear H'
    exact ⟨_, rfl, rfl, H.done⟩
  · refine ⟨_, eqv_ptrN und23, br_mk (fun _ => ?_) (fun h => by cases h)⟩
    refine callV (alive_spec _) ?_
    rintro e w2 ⟨rfl, H'⟩; replace H := H.ext0 H'; clear H'
    exact ⟨_, rfl, rfl, H.done⟩
  refine callV (plays_new (w' := w) H sa sc ops (by omega) hs) ?_
  clear H
  rintro e w2 ⟨a', c', g', rfl, hR, H⟩
  generalize runO ([], 0) ops = S at hR H
  refine ⟨_, _, _, _, _, rfl, ?_⟩
  (intro _ _ hn; replace H := H.new (by exact ⟨rfl, rfl, rfl, rfl⟩) hn; clear hn)
  rename_i b1 _
  ((first | (apply Hp.st; (case H => first | exact H | exact H.pull1 | exact H.pull2 | exact H.pull3 | exact H.pull4 | exact H.pull5 | exact H.pull6 | exact H.pull7); (case e => exact ⟨rfl, rfl, rfl, rfl⟩); (case S => exact (by first | exact scl3 | exact scl5 | exact scl9 | exact scl26)); (case hv => exact rfl); (case h1 => exact rfl); (case ho => exact Nat.le_of_ble_eq_true rfl); (case hc => exact rfl)) | (apply Hp.stA; (case H => first | exact H | exact H.pull1 | exact H.pull2 | exact H.pull3 | exact H.pull4 | exact H.pull5 | exact H.pull6 | exact H.pull7); (case e => exact ⟨rfl, rfl, rfl, rfl⟩); (case S => exact (by first | exact agg28 | exact agg43 | exact agg64)); (case hn => exact rfl); (case h1 => exact rfl); (case ho => exact Nat.le_of_ble_eq_true rfl); (case hc => exact rfl))); clear H; intro _ H; (try simp only [over, List.set_cons_zero, List.set_cons_succ] at H))
  replace H := H.pull1
  refine callV (clone_any p g' _ (pgOf hR.ok H (by exact ⟨rfl, rfl, rfl, rfl⟩) (.head _))) ?_
  rintro e w3 ⟨q, rfl, H'⟩; replace H := H.ext1 H'; clear H'
  refine ⟨_, rfl, _, eqv_ptrE und23, br_mk (fun h => by cases h) (fun _ => br_not (fun h => by cases h) (fun _ => ?_))⟩
  refine callV (get_any hR (H.ok _ (.head _)) slot) ?_
  rintro e w4 ⟨rfl, H'⟩; replace H := H.ext0 H'; clear H'
  refine ⟨_, _, rfl, ?_⟩
  refine LoopP.mk (fun m s w' => ∃ (j : Nat) (g2 : Pg) (L2 : Recs) (st2 : Nat), m = more.length - j ∧ j ≤ more.length ∧ s = (j : Int) ∧ Rep g2 L2 st2 ∧ lk L2 slot = lk S.1 slot ∧ Hp [] w w' [pgA q g2, pgA p g', .blk b1 [.slice a' S.1.length c', .int .i64 (S.2 : Int)] 28, pO a' c' S.1]) more.length ⟨0, g', _, _, rfl, by omega, rfl, hR, rfl, H⟩ ?_
  clear H
  rintro m s w5 next ⟨j, g2, L2, st2, rfl, hj, rfl, hR2, hlk, H⟩ hnext
  refine br_dec (fun h1 => ?_) (fun h1 => ?_)
  · have hj' : j < more.length := by omega
    obtain ⟨ad, ha⟩ := hm.some (opC_ne hj')
    have e1 : Int.toNat (j : Int) * 4 = 4 * j := by omega
    refine onP_mk ha ⟨⟨by omega, h1⟩, _, _, _, _, by rw [e1]; exact (hm.chg H.chg (by simp)).ldA agg43 ha (opC_four hj') rfl, ?_⟩
    (intro _ _ hn; replace H := H.new (by exact ⟨rfl, rfl, rfl, rfl⟩) hn; clear hn)
    rename_i b3 _
    ((first | (apply Hp.st; (case H => first | exact H | exact H.pull1 | exact H.pull2 | exact H.pull3 | exact H.pull4 | exact H.pull5 | exact H.pull6 | exact H.pull7); (case e => exact ⟨rfl, rfl, rfl, rfl⟩); (case S => exact (by first | exact scl3 | exact scl5 | exact scl9 | exact scl26)); (case hv => exact rfl); (case h1 => exact rfl); (case ho => exact Nat.le_of_ble_eq_true rfl); (case hc => exact rfl)) | (apply Hp.stA; (case H => first | exact H | exact H.pull1 | exact H.pull2 | exact H.pull3 | exact H.pull4 | exact H.pull5 | exact H.pull6 | exact H.pull7); (case e => exact ⟨rfl, rfl, rfl, rfl⟩); (case S => exact (by first | exact agg28 | exact agg43 | exact agg64)); (case hn => exact rfl); (case h1 => exact rfl); (case ho => exact Nat.le_of_ble_eq_true rfl); (case hc => exact rfl))); clear H; intro _ H; (try simp only [over, List.set_cons_zero, List.set_cons_succ] at H))
    rename_i w7
    have hin : inR .i64 ((j : Int) + 1) := inR64.2 (by omega)
    have hskip : inR .i64 ((j : Int) + 1) ∧ next ((j : Int) + 1) w7 := ⟨hin, hnext (more.length - (j + 1)) _ _ (by omega) ⟨j + 1, g2, _, _, rfl, by omega, by omega, hR2, hlk, H.drop⟩⟩
    have hdo : (more[j].kind = 1 → more[j].slot ≠ slot) → (more[j].kind = 2 → more[j].slot ≠ slot) → (more[j].kind = 0 → (lk S.1 slot).isSome = true) →
        ∃ (i i3 i4 : Int) (s : ByteArray), Ld Go.Proofs.Try.prog 43 w7 ⟨b3, 0, none⟩ (.agg #[.int .i64 i, .int .i64 i3, .int .i64 i4, .string s]) ∧ CallV Go.Proofs.Try.prog 16 [.pointer (some ⟨q, 0, none⟩), .agg #[.int .i64 i, .int .i64 i3, .int .i64 i4, .string s]] w7 fun e w' => ∃ i i5, e = .returned (.tuple #[.int .i64 i, .int .i64 i5]) ∧ inR .i64 ((j : Int) + 1) ∧ next ((j : Int) + 1) w' := by
      intro c1 c2 c0
      have hkeep := lk_ado hR2.rp.sorted st2 more[j] slot c1 c2 (fun h => by rw [hlk]; exact c0 h)
      ((repeat apply Exists.intro); first | refine ⟨H.ld (by exact ⟨rfl, rfl, rfl, rfl⟩) (by first | exact scl3 | exact scl5 | exact scl9 | exact scl26) (by repeat first | exact .head _ | refine .tail _ ?_) rfl, ?_⟩ | refine ⟨H.ldA (by exact ⟨rfl, rfl, rfl, rfl⟩) (by first | exact agg28 | exact agg43 | exact agg64) (by repeat first | exact .head _ | refine .tail _ ?_) rfl rfl, ?_⟩)
      replace H := H.pull1
      refine callV (does_spec hR2 (H.ok _ (.head _)) more[j]) ?_
      rintro e w8 ⟨rfl, g8, hR8, H'⟩; replace H := Hp.use11 (a := pgA q g2) H H'; clear H'
      exact ⟨_, _, rfl, hin, hnext (more.length - (j + 1)) _ _ (by omega) ⟨j + 1, g8, _, _, rfl, by omega, by omega, hR8, by rw [hkeep, hlk], H.del1⟩⟩
    clear hnext
    have zero : ∀ (c1 : more[j].kind = 1 → more[j].slot ≠ slot) (c2 : more[j].kind = 2 → more[j].slot ≠ slot), br (decide (more[j].kind = 0)) (br (!(lk S.1 slot).isSome) (inR .i64 ((j : Int) + 1) ∧ next ((j : Int) + 1) w7) (∃ (i i3 i4 : Int) (s : ByteArray), Ld Go.Proofs.Try.prog 43 w7 ⟨b3, 0, none⟩ (.agg #[.int .i64 i, .int .i64 i3, .int .i64 i4, .string s]) ∧ CallV Go.Proofs.Try.prog 16 [.pointer (some ⟨q, 0, none⟩), .agg #[.int .i64 i, .int .i64 i3, .int .i64 i4, .string s]] w7 fun e w' => ∃ i i5, e = .returned (.tuple #[.int .i64 i, .int .i64 i5]) ∧ inR .i64 ((j : Int) + 1) ∧ next ((j : Int) + 1) w'))
        (∃ (i i3 i4 : Int) (s : ByteArray), Ld Go.Proofs.Try.prog 43 w7 ⟨b3, 0, none⟩ (.agg #[.int .i64 i, .int .i64 i3, .int .i64 i4, .string s]) ∧ CallV Go.Proofs.Try.prog 16 [.pointer (some ⟨q, 0, none⟩), .agg #[.int .i64 i, .int .i64 i3, .int .i64 i4, .string s]] w7 fun e w' => ∃ i i5, e = .returned (.tuple #[.int .i64 i, .int .i64 i5]) ∧ inR .i64 ((j : Int) + 1) ∧ next ((j : Int) + 1) w') := fun c1 c2 =>
      br_dec (fun h0 => br_not (fun _ => hskip) (fun hs => hdo c1 c2 fun _ => hs)) (fun h0 => hdo c1 c2 fun h => absurd h h0)
    ((repeat apply Exists.intro); first | refine ⟨H.ld (by exact ⟨rfl, rfl, rfl, rfl⟩) (by first | exact scl3 | exact scl5 | exact scl9 | exact scl26) (by repeat first | exact .head _ | refine .tail _ ?_) rfl, ?_⟩ | refine ⟨H.ldA (by exact ⟨rfl, rfl, rfl, rfl⟩) (by first | exact agg28 | exact agg43 | exact agg64) (by repeat first | exact .head _ | refine .tail _ ?_) rfl rfl, ?_⟩)
    refine br_dec (fun k1 => ?_) (fun k1 => ?_)
    · ((repeat apply Exists.intro); first | refine ⟨H.ld (by exact ⟨rfl, rfl, rfl, rfl⟩) (by first | exact scl3 | exact scl5 | exact scl9 | exact scl26) (by repeat first | exact .head _ | refine .tail _ ?_) rfl, ?_⟩ | refine ⟨H.ldA (by exact ⟨rfl, rfl, rfl, rfl⟩) (by first | exact agg28 | exact agg43 | exact agg64) (by repeat first | exact .head _ | refine .tail _ ?_) rfl rfl, ?_⟩)
      refine br_dec (fun _ => hskip) (fun s1 => ?_)
      ((repeat apply Exists.intro); first | refine ⟨H.ld (by exact ⟨rfl, rfl, rfl, rfl⟩) (by first | exact scl3 | exact scl5 | exact scl9 | exact scl26) (by repeat first | exact .head _ | refine .tail _ ?_) rfl, ?_⟩ | refine ⟨H.ldA (by exact ⟨rfl, rfl, rfl, rfl⟩) (by first | exact agg28 | exact agg43 | exact agg64) (by repeat first | exact .head _ | refine .tail _ ?_) rfl rfl, ?_⟩)
      refine br_dec (fun k2 => ?_) (fun k2 => ?_)
      · ((repeat apply Exists.intro); first | refine ⟨H.ld (by exact ⟨rfl, rfl, rfl, rfl⟩) (by first | exact scl3 | exact scl5 | exact scl9 | exact scl26) (by repeat first | exact .head _ | refine .tail _ ?_) rfl, ?_⟩ | refine ⟨H.ldA (by exact ⟨rfl, rfl, rfl, rfl⟩) (by first | exact agg28 | exact agg43 | exact agg64) (by repeat first | exact .head _ | refine .tail _ ?_) rfl rfl, ?_⟩)
        refine br_dec (fun _ => hskip) (fun s2 => ?_)
        ((repeat apply Exists.intro); first | refine ⟨H.ld (by exact ⟨rfl, rfl, rfl, rfl⟩) (by first | exact scl3 | exact scl5 | exact scl9 | exact scl26) (by repeat first | exact .head _ | refine .tail _ ?_) rfl, ?_⟩ | refine ⟨H.ldA (by exact ⟨rfl, rfl, rfl, rfl⟩) (by first | exact agg28 | exact agg43 | exact agg64) (by repeat first | exact .head _ | refine .tail _ ?_) rfl rfl, ?_⟩)
        exact zero (fun _ => s1) (fun _ => s2)
      · ((repeat apply Exists.intro); first | refine ⟨H.ld (by exact ⟨rfl, rfl, rfl, rfl⟩) (by first | exact scl3 | exact scl5 | exact scl9 | exact scl26) (by repeat first | exact .head _ | refine .tail _ ?_) rfl, ?_⟩ | refine ⟨H.ldA (by exact ⟨rfl, rfl, rfl, rfl⟩) (by first | exact agg28 | exact agg43 | exact agg64) (by repeat first | exact .head _ | refine .tail _ ?_) rfl rfl, ?_⟩)
        exact zero (fun _ => s1) (fun h => absurd h k2)
    · ((repeat apply Exists.intro); first | refine ⟨H.ld (by exact ⟨rfl, rfl, rfl, rfl⟩) (by first | exact scl3 | exact scl5 | exact scl9 | exact scl26) (by repeat first | exact .head _ | refine .tail _ ?_) rfl, ?_⟩ | refine ⟨H.ldA (by exact ⟨rfl, rfl, rfl, rfl⟩) (by first | exact agg28 | exact agg43 | exact agg64) (by repeat first | exact .head _ | refine .tail _ ?_) rfl rfl, ?_⟩)
      refine br_dec (fun k2 => ?_) (fun k2 => ?_)
      · ((repeat apply Exists.intro); first | refine ⟨H.ld (by exact ⟨rfl, rfl, rfl, rfl⟩) (by first | exact scl3 | exact scl5 | exact scl9 | exact scl26) (by repeat first | exact .head _ | refine .tail _ ?_) rfl, ?_⟩ | refine ⟨H.ldA (by exact ⟨rfl, rfl, rfl, rfl⟩) (by first | exact agg28 | exact agg43 | exact agg64) (by repeat first | exact .head _ | refine .tail _ ?_) rfl rfl, ?_⟩)
        refine br_dec (fun _ => hskip) (fun s2 => ?_)
        ((repeat apply Exists.intro); first | refine ⟨H.ld (by exact ⟨rfl, rfl, rfl, rfl⟩) (by first | exact scl3 | exact scl5 | exact scl9 | exact scl26) (by repeat first | exact .head _ | refine .tail _ ?_) rfl, ?_⟩ | refine ⟨H.ldA (by exact ⟨rfl, rfl, rfl, rfl⟩) (by first | exact agg28 | exact agg43 | exact agg64) (by repeat first | exact .head _ | refine .tail _ ?_) rfl rfl, ?_⟩)
        exact zero (fun h => absurd h k1) (fun _ => s2)
      · ((repeat apply Exists.intro); first | refine ⟨H.ld (by exact ⟨rfl, rfl, rfl, rfl⟩) (by first | exact scl3 | exact scl5 | exact scl9 | exact scl26) (by repeat first | exact .head _ | refine .tail _ ?_) rfl, ?_⟩ | refine ⟨H.ldA (by exact ⟨rfl, rfl, rfl, rfl⟩) (by first | exact agg28 | exact agg43 | exact agg64) (by repeat first | exact .head _ | refine .tail _ ?_) rfl rfl, ?_⟩)
        exact zero (fun h => absurd h k1) (fun h => absurd h k2)
  · refine callV (get_any hR2 (H.ok _ (.head _)) slot) ?_
    rw [hlk]
    rintro e w8 ⟨rfl, H'⟩; replace H := H.ext0 H'; clear H'
    refine ⟨_, _, rfl, ?_⟩
    refine callV (alive_spec _) ?_
    rintro e w9 ⟨rfl, H'⟩; replace H := H.ext0 H'; clear H'
    refine ⟨_, rfl, br_true (br_dec (fun _ => br_mk (fun _ => ?_) (fun h => absurd h (by simp))) (fun h => absurd rfl h))⟩
    ((repeat apply Exists.intro); first | refine ⟨H.ld (by exact ⟨rfl, rfl, rfl, rfl⟩) (by first | exact scl3 | exact scl5 | exact scl9 | exact scl26) (by repeat first | exact .head _ | refine .tail _ ?_) rfl, ?_⟩ | refine ⟨H.ldA (by exact ⟨rfl, rfl, rfl, rfl⟩) (by first | exact agg28 | exact agg43 | exact agg64) (by repeat first | exact .head _ | refine .tail _ ?_) rfl rfl, ?_⟩)
    refine callV (stands_spec hR (H.ok _ (.tail _ (.head _))) (pOc H (by exact ⟨rfl, rfl, rfl, rfl⟩) (by repeat first | exact .head _ | refine .tail _ ?_))) ?_
    rintro e w10 ⟨rfl, H'⟩; replace H := H.ext0 H'; clear H'
    exact ⟨_, rfl, rfl, H.done⟩

set_option maxHeartbeats 2000000 in
theorem slateBack_law (sa : Option Addr) (sc : Nat) (ops : List Op') (ma : Option Addr) (mc : Nat) (more : List Op') (w : World) (hs : Cells w sa (opC ops)) (hm : Cells w ma (opC more)) :
    Calls Go.Proofs.Try.prog 7 #[.slice sa ops.length sc, .slice ma more.length mc] w fun e w' => e = .returned (.bool true) ∧ Hp [] w w' [] := by
  apply slateBack.ok
  unfold slateBack.vc
  have H := Hp.start w
  refine callV (new_any _) ?_
  rintro e w1 ⟨p, rfl, H'⟩; replace H := H.ext1 H'; clear H'
  refine ⟨_, rfl, _, eqv_ptrE und23, br_mk (fun h => by cases h) (fun _ => ?_)⟩
  refine br_dec (fun _ => ?_) (fun hl => br_dec (fun _ => ?_) (fun hl2 => ?_))
  · refine ⟨_, eqv_ptrN und23, br_mk (fun _ => ?_) (fun h => by cases h)⟩
    refine callV (alive_spec _) ?_
    rintro e w2 ⟨rfl, H'⟩; replace H := H.ext0 H'; clear H'
    exact ⟨_, rfl, rfl, H.done⟩
  · refine ⟨_, eqv_ptrN und23, br_mk (fun _ => ?_) (fun h => by cases h)⟩
    refine callV (alive_spec _) ?_
    rintro e w2 ⟨rfl, H'⟩; replace H := H.ext0 H'; clear H'
    exact ⟨_, rfl, rfl, H.done⟩
  refine callV (plays_new (w' := w) H sa sc ops (by omega) hs) ?_
  clear H
  rintro e w2 ⟨a', c', g', rfl, hR, H⟩
  generalize runO ([], 0) ops = S at hR H
  refine ⟨_, _, _, _, _, rfl, ?_⟩
  (intro _ _ hn; replace H := H.new (by exact ⟨rfl, rfl, rfl, rfl⟩) hn; clear hn)
  rename_i b1 _
  ((first | (apply Hp.st; (case H => first | exact H | exact H.pull1 | exact H.pull2 | exact H.pull3 | exact H.pull4 | exact H.pull5 | exact H.pull6 | exact H.pull7); (case e => exact ⟨rfl, rfl, rfl, rfl⟩); (case S => exact (by first | exact scl3 | exact scl5 | exact scl9 | exact scl26)); (case hv => exact rfl); (case h1 => exact rfl); (case ho => exact Nat.le_of_ble_eq_true rfl); (case hc => exact rfl)) | (apply Hp.stA; (case H => first | exact H | exact H.pull1 | exact H.pull2 | exact H.pull3 | exact H.pull4 | exact H.pull5 | exact H.pull6 | exact H.pull7); (case e => exact ⟨rfl, rfl, rfl, rfl⟩); (case S => exact (by first | exact agg28 | exact agg43 | exact agg64)); (case hn => exact rfl); (case h1 => exact rfl); (case ho => exact Nat.le_of_ble_eq_true rfl); (case hc => exact rfl))); clear H; intro _ H; (try simp only [over, List.set_cons_zero, List.set_cons_succ] at H))
  replace H := H.pull1
  refine callV (bytes_any p g' _ (pgOf hR.ok H (by exact ⟨rfl, rfl, rfl, rfl⟩) (.head _))) ?_
  rintro e w3 ⟨bb, rfl, H'⟩; replace H := H.ext1 H'; clear H'
  refine ⟨_, _, _, rfl, br_not (fun h => by cases h) (fun _ => br_ndec (fun h => absurd rfl h) (fun _ => ?_))⟩
  refine callV (load_any bb g' S.1 S.2 hR _ (H.ok _ (.head _))) ?_
  rintro e w4 ⟨q, g4, rfl, hR4, H'⟩; replace H := H.ext1 H'; clear H'
  refine ⟨_, _, rfl, br_ndec (fun h => absurd rfl h) (fun _ => ⟨_, eqv_ptrE und23, br_mk (fun h => by cases h) (fun _ => ?_)⟩)⟩
  ((repeat apply Exists.intro); first | refine ⟨H.ld (by exact ⟨rfl, rfl, rfl, rfl⟩) (by first | exact scl3 | exact scl5 | exact scl9 | exact scl26) (by repeat first | exact .head _ | refine .tail _ ?_) rfl, ?_⟩ | refine ⟨H.ldA (by exact ⟨rfl, rfl, rfl, rfl⟩) (by first | exact agg28 | exact agg43 | exact agg64) (by repeat first | exact .head _ | refine .tail _ ?_) rfl rfl, ?_⟩)
  refine callV (stands_spec hR4 (H.ok _ (.head _)) (pOc H (by exact ⟨rfl, rfl, rfl, rfl⟩) (by repeat first | exact .head _ | refine .tail _ ?_))) ?_
  rintro e w5 ⟨rfl, H'⟩; replace H := H.ext0 H'; clear H'
  refine ⟨_, rfl, br_not (fun h => by cases h) (fun _ => ?_)⟩
  have hbl : (bcells g'.bs).length = 4096 := by rw [bcells_length, hR.ok.len]
  have hvs : bcells g'.bs = (g'.bs.map fun x => ((x.toNat : Nat) : Int)).map (Value.int .u8) := by simp [bcells]
  refine LoopP.mk (fun m s w' => ∃ (j : Nat) (vs : List Int), m = 4096 - j ∧ j ≤ 4096 ∧ s = (j : Int) ∧ vs.length = 4096 ∧ Hp [] w w' [.blk bb (vs.map (Value.int .u8)) 52, pgA q g4, pgA p g', .blk b1 [.slice a' S.1.length c', .int .i64 (S.2 : Int)] 28, pO a' c' S.1]) 4096 ⟨0, g'.bs.map fun x => ((x.toNat : Nat) : Int), rfl, by omega, rfl, by rw [List.length_map]; exact hR.ok.len, by rw [← hvs]; exact H.pull1⟩ ?_
  clear H
  rintro m s w6 next ⟨j, vs, rfl, hj, rfl, hvl, H⟩ hnext
  refine br_dec (fun h1 => ?_) (fun h1 => ?_)
  · have hj' : j < 4096 := by have h9 : (j : Int) < ((4096 : Nat) : Int) := h1; omega
    have e1 : Int.toNat (j : Int) * 1 = j := by omega
    refine onP_mk rfl ⟨⟨by omega, h1⟩, vs[j]'(by omega), ?_, onP_mk rfl ⟨⟨by omega, h1⟩, ?_⟩⟩
    · rw [e1, addB]
      exact H.ld (by exact ⟨rfl, rfl, rfl, rfl⟩) scl5 (.head _) (by rw [List.getElem?_map, List.getElem?_eq_getElem (by omega)]; rfl)
    · rw [e1, addB]
      refine Hp.st H (by exact ⟨rfl, rfl, rfl, rfl⟩) scl5 rfl rfl (by rw [List.length_map]; omega) (List.map_set (f := Value.int .u8)).symm ?_
      clear H
      intro w7 H
      exact ⟨inR64.2 (by omega), hnext (4096 - (j + 1)) _ _ (by omega) ⟨j + 1, _, rfl, by omega, by omega, by rw [List.length_set]; exact hvl, H⟩⟩
  · replace H := H.drop
    ((repeat apply Exists.intro); first | refine ⟨H.ld (by exact ⟨rfl, rfl, rfl, rfl⟩) (by first | exact scl3 | exact scl5 | exact scl9 | exact scl26) (by repeat first | exact .head _ | refine .tail _ ?_) rfl, ?_⟩ | refine ⟨H.ldA (by exact ⟨rfl, rfl, rfl, rfl⟩) (by first | exact agg28 | exact agg43 | exact agg64) (by repeat first | exact .head _ | refine .tail _ ?_) rfl rfl, ?_⟩)
    have hqn := Hp_new H (p := q) (.head _)
    have hsepq : ∀ k ∈ blks a', k ≠ q := by
      have := H.sep
      simp only [List.pairwise_cons] at this
      intro k hk e
      have h2 := this.1 (pO a' c' S.1) (by repeat first | exact .head _ | refine .tail _ ?_) 
      subst e
      exact h2 k (by simp [pgA, Asn.foot]) hk
    refine callV (plays_spec hR4 (H.ok _ (.head _)) (pOc H (by exact ⟨rfl, rfl, rfl, rfl⟩) (by repeat first | exact .head _ | refine .tail _ ?_)) hsepq ma mc more (by omega) (hm.chg H.chg (by simp)) (ops_ne hm hqn)) ?_
    rintro e w7 ⟨a7, c7, g7, rfl, hR7, hh⟩
    generalize runO (S.1, S.2) more = S7 at hR7 hh
    refine ⟨_, _, _, _, _, rfl, ?_⟩
    obtain ⟨T, H, hT⟩ : ∃ T, Hp [] w w7 (pgA q g7 :: pgA p g' :: .blk b1 [.slice a' S.1.length c', .int .i64 (S.2 : Int)] 28 :: pO a' c' S.1 :: T) ∧ ((a7 = a' ∧ c7 = c' ∧ S7.1 = S.1) ∨ T = [pO a7 c7 S7.1]) := by
      rcases hh with ⟨e1, e2, e3, H'⟩ | H'
      · exact ⟨[], Hp.use11 (a := pgA q g4) H H', .inl ⟨e1, e2, e3⟩⟩
      · have H2 := Hp.use1 (a := pgA q g4) H H'
        exact ⟨[pO a7 c7 S7.1], by
          replace H := H2
          clear H2
          ((try dsimp only [List.cons_append, List.nil_append]); (try dsimp only [List.cons_append, List.nil_append] at H); refine Hp.perm H ?_; (repeat (apply perm_step; (focus first | exact perm_p0 | exact perm_p1 | exact perm_p2 | exact perm_p3 | exact perm_p4 | exact perm_p5 | exact perm_p6 | exact perm_p7 | exact perm_p8 | exact perm_p9))); exact List.Perm.refl _), .inr rfl⟩
    clear hh
    (intro _ _ hn; replace H := H.new (by exact ⟨rfl, rfl, rfl, rfl⟩) hn; clear hn)
    rename_i b2 _
    ((first | (apply Hp.st; (case H => first | exact H | exact H.pull1 | exact H.pull2 | exact H.pull3 | exact H.pull4 | exact H.pull5 | exact H.pull6 | exact H.pull7); (case e => exact ⟨rfl, rfl, rfl, rfl⟩); (case S => exact (by first | exact scl3 | exact scl5 | exact scl9 | exact scl26)); (case hv => exact rfl); (case h1 => exact rfl); (case ho => exact Nat.le_of_ble_eq_true rfl); (case hc => exact rfl)) | (apply Hp.stA; (case H => first | exact H | exact H.pull1 | exact H.pull2 | exact H.pull3 | exact H.pull4 | exact H.pull5 | exact H.pull6 | exact H.pull7); (case e => exact ⟨rfl, rfl, rfl, rfl⟩); (case S => exact (by first | exact agg28 | exact agg43 | exact agg64)); (case hn => exact rfl); (case h1 => exact rfl); (case ho => exact Nat.le_of_ble_eq_true rfl); (case hc => exact rfl))); clear H; intro _ H; (try simp only [over, List.set_cons_zero, List.set_cons_succ] at H))
    refine callV (alive_spec _) ?_
    rintro e w8 ⟨rfl, H'⟩; replace H := H.ext0 H'; clear H'
    refine ⟨_, rfl, br_true (br_true ?_)⟩
    ((repeat apply Exists.intro); first | refine ⟨H.ld (by exact ⟨rfl, rfl, rfl, rfl⟩) (by first | exact scl3 | exact scl5 | exact scl9 | exact scl26) (by repeat first | exact .head _ | refine .tail _ ?_) rfl, ?_⟩ | refine ⟨H.ldA (by exact ⟨rfl, rfl, rfl, rfl⟩) (by first | exact agg28 | exact agg43 | exact agg64) (by repeat first | exact .head _ | refine .tail _ ?_) rfl rfl, ?_⟩)
    have hc7 : Cells w8 a7 (recC S7.1) := by
      rcases hT with ⟨e1, e2, e3⟩ | e
      · rw [e1, e3]; exact pOc H (by exact ⟨rfl, rfl, rfl, rfl⟩) (by repeat first | exact .head _ | refine .tail _ ?_)
      · subst e; exact pOc H (by exact ⟨rfl, rfl, rfl, rfl⟩) (by repeat first | exact .head _ | refine .tail _ ?_)
    refine callV (stands_spec hR7 (H.ok _ (.tail _ (.head _))) hc7) ?_
    rintro e w9 ⟨rfl, H'⟩; replace H := H.ext0 H'; clear H'
    refine ⟨_, rfl, br_true ?_⟩
    ((repeat apply Exists.intro); first | refine ⟨H.ld (by exact ⟨rfl, rfl, rfl, rfl⟩) (by first | exact scl3 | exact scl5 | exact scl9 | exact scl26) (by repeat first | exact .head _ | refine .tail _ ?_) rfl, ?_⟩ | refine ⟨H.ldA (by exact ⟨rfl, rfl, rfl, rfl⟩) (by first | exact agg28 | exact agg43 | exact agg64) (by repeat first | exact .head _ | refine .tail _ ?_) rfl rfl, ?_⟩)
    refine callV (stands_spec hR (H.ok _ (.tail _ (.tail _ (.head _)))) (pOc H (by exact ⟨rfl, rfl, rfl, rfl⟩) (by repeat first | exact .head _ | refine .tail _ ?_))) ?_
    rintro e w10 ⟨rfl, H'⟩; replace H := H.ext0 H'; clear H'
    exact ⟨_, rfl, rfl, H.done⟩
end Go.Proofs.Ytmaocnnhfmledaa
