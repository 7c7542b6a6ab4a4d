/- Slate: 'alive'; the laws of all scripts, and of what fills. -/
import Derived.Test.YtmaocnnhfmledaaSk
set_option linter.unusedVariables false
set_option linter.unusedSimpArgs false
set_option maxRecDepth 100000
namespace Go.Proofs.Ytmaocnnhfmledaa
open Go Go.Vc

theorem alive_spec (w : World) : Calls Go.Proofs.Try.prog 9 #[] w fun e w' => e = .returned (.bool true) ∧ Hp [] w w' [] := by
  apply alive.ok
  unfold alive.vc
  have H := Hp.start w
  refine callV (new_any _) ?_
  rintro e w1 ⟨p, rfl, H'⟩; replace H := H.ext1 H'; clear H'
  refine ⟨_, rfl, _, eqv_ptrE und23, br_mk (fun h => by cases h) (fun _ => ?_)⟩
  have r0 := gZ_rep
  generalize gZ 4096 = g0 at r0 H
  have i1 : ains [] [97, 98] = ([(0, [97, 98])], 0, 0) := by decide
  refine callV (insert_any r0 (H.ok _ (.head _)) [97, 98]) ?_
  rw [i1]
  rintro e w2 ⟨rfl, g1, r1, H'⟩; replace H := Hp.use11 (a := pgA p g0) H H'; clear H'
  replace r1 : Rep g1 [(0, [97, 98])] 0 := r1
  refine ⟨_, _, rfl, ?_⟩
  have i2 : ains [(0, [97, 98])] [99] = ([(0, [97, 98]), (1, [99])], 1, 0) := by decide
  refine callV (insert_any r1 (H.ok _ (.head _)) [99]) ?_
  rw [i2]
  rintro e w3 ⟨rfl, g2, r2, H'⟩; replace H := Hp.use11 (a := pgA p g1) H H'; clear H'
  replace r2 : Rep g2 [(0, [97, 98]), (1, [99])] 0 := r2
  refine ⟨_, _, rfl, ?_⟩
  have i3 : lk [(0, [97, 98]), (1, [99])] 1 = some [99] := by decide
  refine callV (get_any r2 (H.ok _ (.head _)) 1) ?_
  rw [i3]
  rintro e w4 ⟨rfl, H'⟩; replace H := H.ext0 H'; clear H'
  refine ⟨_, _, rfl, ?_⟩
  refine callV (room_any r2 (H.ok _ (.head _))) ?_
  rintro e w5 ⟨rfl, H'⟩; replace H := H.ext0 H'; clear H'
  refine ⟨_, rfl, ?_⟩
  refine br_dec (fun _ => ?_) (fun h => absurd (by decide) h)
  refine br_dec (fun _ => ?_) (fun h => absurd rfl h)
  refine br_dec (fun _ => ?_) (fun h => absurd rfl h)
  refine br_dec (fun _ => ?_) (fun h => absurd rfl h)
  refine br_dec (fun _ => ?_) (fun h => absurd rfl h)
  refine br_true ?_
  refine br_dec (fun _ => ?_) (fun h => absurd rfl h)
  have i4 : adel [(0, [97, 98]), (1, [99])] 0 = ([(1, [99])], 0) := by decide
  refine callV (delete_any r2 (H.ok _ (.head _)) 0) ?_
  rw [i4]
  rintro e w6 ⟨rfl, g3, r3, H'⟩; replace H := Hp.use11 (a := pgA p g2) H H'; clear H'
  replace r3 : Rep g3 [(1, [99])] 0 := r3
  refine ⟨_, rfl, ?_⟩
  refine br_dec (fun _ => ?_) (fun h => absurd rfl h)
  refine callV (slots_any r3 (H.ok _ (.head _))) ?_
  rintro e w7 ⟨a7, c7, rfl, H'⟩; replace H := (H.ext1 H').pull1; clear H'
  refine ⟨_, _, _, rfl, ?_⟩
  refine br_dec (fun _ => ?_) (fun h => absurd rfl h)
  refine callV (bytes_any p g3 _ (pgOf r3.ok H (by exact ⟨rfl, rfl, rfl, rfl⟩) (.head _))) ?_
  rintro e w8 ⟨b8, rfl, H'⟩; replace H := H.ext1 H'; clear H'
  exact ⟨_, _, _, rfl, rfl, H.done⟩

theorem ops_ne {W : World} {sa : Option Addr} {ops : List Op'} (hs : Cells W sa (opC ops)) {p : Nat} (hp : W.heap.size ≤ p) : 0 < ops.length → ∀ k ∈ blks sa, k ≠ p := by
  intro h0 k hk
  obtain ⟨ad, rfl⟩ := hs.some (opC_ne h0)
  have h1 : (opC ops)[0]? = some (.int .i64 (ops[0]).kind) := by
    have := opC_four h0
    have h2 := congrArg (·[0]?) this
    simpa using h2
  obtain ⟨ad', e1, e2⟩ := hs 0 _ h1
  cases e1
  have hlt := World.block_lt_of_cell? W _ e2
  have : k = ad.block := by simpa [blks] using hk
  subst this
  have h3 : (ad.add 0).block = ad.block := by simp [Addr.add]
  omega
theorem Hp_new {W w : World} {Ls : List Asn} (H : Hp [] W w Ls) {p : Nat} {g : Pg} (m : pgA p g ∈ Ls) : W.heap.size ≤ p := by
  rcases H.own _ m p (by simp [pgA, Asn.foot]) with h | h
  · cases h
  · exact h
/-- a script played on a new page -/
theorem plays_new {W w w' : World} {Ls : List Asn} {p : Nat} (H : Hp [] W w (pgA p (gZ 4096) :: Ls)) (sa : Option Addr) (sc : Nat) (ops : List Op') (hlo : ops.length ≤ 400) (hs : Cells W sa (opC ops)) :
    Calls Go.Proofs.Try.prog 10 #[.pointer (some ⟨p, 0, none⟩), .agg #[.slice none 0 0, .int .i64 0], .slice sa ops.length sc] w fun e w' => ∃ a' c' g', e = .returned (.tuple #[pv a' c' (runO ([], 0) ops).1 (runO ([], 0) ops).2, .bool true]) ∧ Rep g' (runO ([], 0) ops).1 (runO ([], 0) ops).2 ∧
      Hp [] W w' (pgA p g' :: pO a' c' (runO ([], 0) ops).1 :: Ls) := by
  have hp := Hp_new H (.head _)
  refine Calls.mono (plays_spec (a := none) (c := 0) gZ_rep (H.ok _ (.head _)) (fun j v hj => by simp [recC] at hj) (by simp [blks]) sa sc ops hlo (hs.chg H.chg (by simp)) (ops_ne hs hp)) ?_
  rintro e w2 ⟨a', c', g', rfl, hR, hh⟩
  refine ⟨a', c', g', rfl, hR, ?_⟩
  rcases hh with ⟨rfl, rfl, e3, H'⟩ | H'
  · have H2 := Hp.use11 (a := pgA p (gZ 4096)) H H'
    rw [e3]
    exact (H2.nilS 64 2).pull1
  · exact Hp.use1 (a := pgA p (gZ 4096)) H H'

theorem slateAll_law (sa : Option Addr) (sc : Nat) (ops : List Op') (w : World) (hs : Cells w sa (opC ops)) :
    Calls Go.Proofs.Try.prog 4 #[.slice sa ops.length sc] w fun e w' => e = .returned (.bool true) ∧ Hp [] w w' [] := by
  apply slateAll.ok
  unfold slateAll.vc
  have H := Hp.start w
  refine callV (new_any _) ?_
  rintro e w1 ⟨p, rfl, H'⟩; replace H := H.ext1 H'; clear H'
  refine ⟨_, rfl, _, eqv_ptrE und23, br_mk (fun h => by cases h) (fun _ => ?_)⟩
  refine br_dec (fun _ => ?_) (fun hl => ?_)
  · refine ⟨_, eqv_ptrN und23, br_mk (fun _ => ?_) (fun h => by cases h)⟩
    refine callV (alive_spec _) ?_
    rintro e w2 ⟨rfl, H'⟩; replace H := H.ext0 H'; clear H'
    exact ⟨_, rfl, rfl, H.done⟩
  · refine callV (plays_new (w' := w) H sa sc ops (by omega) hs) ?_
    clear H
    rintro e w2 ⟨a', c', g', rfl, hR, H⟩
    refine ⟨_, _, _, _, _, rfl, ?_⟩
    (intro _ _ hn; replace H := H.new (by exact ⟨rfl, rfl, rfl, rfl⟩) hn; clear hn)
    ((first | (apply Hp.st; (case H => first | exact H | exact H.pull1 | exact H.pull2 | exact H.pull3 | exact H.pull4 | exact H.pull5 | exact H.pull6 | exact H.pull7); (case e => exact ⟨rfl, rfl, rfl, rfl⟩); (case S => exact (by first | exact scl3 | exact scl9 | exact scl26)); (case hv => exact rfl); (case h1 => exact rfl); (case ho => exact Nat.le_of_ble_eq_true rfl); (case hc => exact rfl)) | (apply Hp.stA; (case H => first | exact H | exact H.pull1 | exact H.pull2 | exact H.pull3 | exact H.pull4 | exact H.pull5 | exact H.pull6 | exact H.pull7); (case e => exact ⟨rfl, rfl, rfl, rfl⟩); (case S => exact (by first | exact agg28 | exact agg43 | exact agg64)); (case hn => exact rfl); (case h1 => exact rfl); (case ho => exact Nat.le_of_ble_eq_true rfl); (case hc => exact rfl))); clear H; intro _ H; (try simp only [over, List.set_cons_zero, List.set_cons_succ] at H))
    refine callV (alive_spec _) ?_
    rintro e w3 ⟨rfl, H'⟩; replace H := H.ext0 H'; clear H'
    refine ⟨_, rfl, br_true (br_true ?_)⟩
    ((repeat apply Exists.intro); first | refine ⟨H.ld (by exact ⟨rfl, rfl, rfl, rfl⟩) (by first | exact scl3 | exact scl9 | exact scl26) (by repeat first | exact .head _ | refine .tail _ ?_) rfl, ?_⟩ | refine ⟨H.ldA (by exact ⟨rfl, rfl, rfl, rfl⟩) (by first | exact agg28 | exact agg43 | exact agg64) (by repeat first | exact .head _ | refine .tail _ ?_) rfl rfl, ?_⟩)
    refine callV (stands_spec hR (H.ok _ (.tail _ (.head _))) (pOc H (by exact ⟨rfl, rfl, rfl, rfl⟩) (by repeat first | exact .head _ | refine .tail _ ?_))) ?_
    rintro e w4 ⟨rfl, H'⟩; replace H := H.ext0 H'; clear H'
    exact ⟨_, rfl, rfl, H.done⟩
end Go.Proofs.Ytmaocnnhfmledaa
