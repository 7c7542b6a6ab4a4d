/- Slate: 'does', 'stands', 'plays', 'alive'. -/
import Derived.Test.YtmaocnnhfmledaaSj
set_option linter.unusedVariables false
set_option linter.unusedSimpArgs false
set_option maxRecDepth 100000
namespace Go.Proofs.Ytmaocnnhfmledaa
open Go Go.Vc
theorem und23 : Go.Proofs.Try.prog.underlying 23 = some (.pointer (Go.Proofs.Try.prog.pointee 23)) := by kernel_rfl

section
variable {w : World} {L : Recs} {a : Option Addr} {c : Nat} {p : Nat} {g : Pg} {st : Nat}
theorem does_spec (hR : Rep g L st) (h : Blk w p g.cells 54) (o : Op') :
    Calls Go.Proofs.Try.prog 16 #[.pointer (some ⟨p, 0, none⟩), opv o] w fun e w' => e = .returned (.tuple #[.int .i64 (ado L st o).2.2.1, .int .i64 (ado L st o).2.2.2]) ∧ ∃ g', Rep g' (ado L st o).1 (ado L st o).2.1 ∧ Hp [p] w w' [pgA p g'] := by
  obtain ⟨kind, slot, n, s⟩ := o
  apply does.ok
  unfold does.vc ado
  simp only
  have H : Hp [p] w w [pgA p g] := Hp.start1 (a := pgA p g) h
  (intro _ _ hn; replace H := H.new (by exact ⟨rfl, rfl, rfl, rfl⟩) hn; clear hn)
  rename_i b _
  ((repeat apply Exists.intro); first | refine ⟨H.ld (by exact ⟨rfl, rfl, rfl, rfl⟩) (by first | exact scl3 | exact scl9 | exact scl26) (by repeat first | exact .head _ | refine .tail _ ?_) rfl, ?_⟩ | refine ⟨H.ldA (by exact ⟨rfl, rfl, rfl, rfl⟩) (by first | exact agg28 | exact agg43 | exact agg64) (by repeat first | exact .head _ | refine .tail _ ?_) rfl rfl, ?_⟩)
  replace H := H.pull1
  refine br_dec (fun h1 => ?_) (fun h1 => br_dec (fun h2 => ?_) (fun h2 => br_dec (fun h3 => ?_) (fun h3 => br_dec (fun h4 => ?_) (fun h4 => ?_))))
  · rw [if_pos h1]
    ((repeat apply Exists.intro); first | refine ⟨H.ld (by exact ⟨rfl, rfl, rfl, rfl⟩) (by first | exact scl3 | exact scl9 | exact scl26) (by repeat first | exact .head _ | refine .tail _ ?_) rfl, ?_⟩ | refine ⟨H.ldA (by exact ⟨rfl, rfl, rfl, rfl⟩) (by first | exact agg28 | exact agg43 | exact agg64) (by repeat first | exact .head _ | refine .tail _ ?_) rfl rfl, ?_⟩)
    refine callV (insert_any hR (H.ok _ (.head _)) s) ?_
    rintro e w3 ⟨rfl, g', hR', H'⟩; replace H := Hp.use11 (a := pgA p _) H H'; clear H'
    exact ⟨_, _, rfl, rfl, g', hR', H.done1⟩
  · rw [if_neg h1, if_pos h2]
    ((repeat apply Exists.intro); first | refine ⟨H.ld (by exact ⟨rfl, rfl, rfl, rfl⟩) (by first | exact scl3 | exact scl9 | exact scl26) (by repeat first | exact .head _ | refine .tail _ ?_) rfl, ?_⟩ | refine ⟨H.ldA (by exact ⟨rfl, rfl, rfl, rfl⟩) (by first | exact agg28 | exact agg43 | exact agg64) (by repeat first | exact .head _ | refine .tail _ ?_) rfl rfl, ?_⟩)
    ((repeat apply Exists.intro); first | refine ⟨H.ld (by exact ⟨rfl, rfl, rfl, rfl⟩) (by first | exact scl3 | exact scl9 | exact scl26) (by repeat first | exact .head _ | refine .tail _ ?_) rfl, ?_⟩ | refine ⟨H.ldA (by exact ⟨rfl, rfl, rfl, rfl⟩) (by first | exact agg28 | exact agg43 | exact agg64) (by repeat first | exact .head _ | refine .tail _ ?_) rfl rfl, ?_⟩)
    refine callV (put_spec p g L st hR slot s _ (H.ok _ (.head _))) ?_
    rintro e w3 ⟨rfl, g', hR', H'⟩; replace H := Hp.use11 (a := pgA p _) H H'; clear H'
    exact ⟨_, rfl, rfl, g', hR', H.done1⟩
  · rw [if_neg h1, if_neg h2, if_pos h3]
    ((repeat apply Exists.intro); first | refine ⟨H.ld (by exact ⟨rfl, rfl, rfl, rfl⟩) (by first | exact scl3 | exact scl9 | exact scl26) (by repeat first | exact .head _ | refine .tail _ ?_) rfl, ?_⟩ | refine ⟨H.ldA (by exact ⟨rfl, rfl, rfl, rfl⟩) (by first | exact agg28 | exact agg43 | exact agg64) (by repeat first | exact .head _ | refine .tail _ ?_) rfl rfl, ?_⟩)
    refine callV (delete_any hR (H.ok _ (.head _)) slot) ?_
    rintro e w3 ⟨rfl, g', hR', H'⟩; replace H := Hp.use11 (a := pgA p _) H H'; clear H'
    exact ⟨_, rfl, rfl, g', hR', H.done1⟩
  · rw [if_neg h1, if_neg h2, if_neg h3, if_pos h4]
    ((repeat apply Exists.intro); first | refine ⟨H.ld (by exact ⟨rfl, rfl, rfl, rfl⟩) (by first | exact scl3 | exact scl9 | exact scl26) (by repeat first | exact .head _ | refine .tail _ ?_) rfl, ?_⟩ | refine ⟨H.ldA (by exact ⟨rfl, rfl, rfl, rfl⟩) (by first | exact agg28 | exact agg43 | exact agg64) (by repeat first | exact .head _ | refine .tail _ ?_) rfl rfl, ?_⟩)
    refine callV (setStamp_any hR (H.ok _ (.head _)) n) ?_
    rintro e w3 ⟨rfl, g', hR', H'⟩; replace H := Hp.use11 (a := pgA p _) H H'; clear H'
    refine ⟨_, rfl, br_not (fun h5 => ?_) (fun h5 => ?_)⟩
    · simp only
      rw [if_neg (of_decide_eq_false h5)]
      exact ⟨rfl, g', hR', H.done1⟩
    · simp only
      rw [if_pos (of_decide_eq_true h5)]
      exact ⟨rfl, g', hR', H.done1⟩
  · rw [if_neg h1, if_neg h2, if_neg h3, if_neg h4]
    exact ⟨rfl, g, hR, H.done1⟩

theorem intC_get {l : List Nat} {k : Nat} (h : k < l.length) : (intC l)[k]? = some (.int .i64 (l[k] : Int)) := by
  simp [intC, List.getElem?_eq_getElem h]
set_option maxHeartbeats 1000000 in
theorem stands_spec (hR : Rep g L st) (h : Blk w p g.cells 54) (hc : Cells w a (recC L)) :
    Calls Go.Proofs.Try.prog 14 #[.pointer (some ⟨p, 0, none⟩), pv a c L st] w fun e w' => e = .returned (.bool true) ∧ Hp [] w w' [] := by
  apply stands.ok
  unfold stands.vc
  have H := Hp.start w
  have hL := hR.rp
  have hlen := hL.len
  have hsm := hL.small
  (intro _ _ hn; replace H := H.new (by exact ⟨rfl, rfl, rfl, rfl⟩) hn; clear hn)
  rename_i b _
  refine callV (slots_any hR (h.chg H.chg (by simp))) ?_
  rintro e w2 ⟨a2, c2, rfl, H'⟩; replace H := H.ext1 H'; clear H'
  refine ⟨_, _, _, rfl, ?_⟩
  ((repeat apply Exists.intro); first | refine ⟨H.ld (by exact ⟨rfl, rfl, rfl, rfl⟩) (by first | exact scl3 | exact scl9 | exact scl26) (by repeat first | exact .head _ | refine .tail _ ?_) rfl, ?_⟩ | refine ⟨H.ldA (by exact ⟨rfl, rfl, rfl, rfl⟩) (by first | exact agg28 | exact agg43 | exact agg64) (by repeat first | exact .head _ | refine .tail _ ?_) rfl rfl, ?_⟩)
  refine br_ndec (fun hn => absurd rfl hn) (fun _ => ?_)
  ((repeat apply Exists.intro); first | refine ⟨H.ld (by exact ⟨rfl, rfl, rfl, rfl⟩) (by first | exact scl3 | exact scl9 | exact scl26) (by repeat first | exact .head _ | refine .tail _ ?_) rfl, ?_⟩ | refine ⟨H.ldA (by exact ⟨rfl, rfl, rfl, rfl⟩) (by first | exact agg28 | exact agg43 | exact agg64) (by repeat first | exact .head _ | refine .tail _ ?_) rfl rfl, ?_⟩)
  refine callV (room_any hR (h.chg H.chg (by simp))) ?_
  rintro e w3 ⟨rfl, H'⟩; replace H := H.drew.ext0 H'; clear H'
  refine ⟨_, rfl, ?_⟩
  ((repeat apply Exists.intro); first | refine ⟨H.ld (by exact ⟨rfl, rfl, rfl, rfl⟩) (by first | exact scl3 | exact scl9 | exact scl26) (by repeat first | exact .head _ | refine .tail _ ?_) rfl, ?_⟩ | refine ⟨H.ldA (by exact ⟨rfl, rfl, rfl, rfl⟩) (by first | exact agg28 | exact agg43 | exact agg64) (by repeat first | exact .head _ | refine .tail _ ?_) rfl rfl, ?_⟩)
  refine callV (rroom_spec hlen (by omega) (hc.chg H.chg (by simp)) st) ?_
  rintro e w4 ⟨rfl, H'⟩; replace H := H.ext0 H'; clear H'
  refine ⟨_, rfl, br_ndec (fun hn => absurd rfl hn) (fun _ => ?_)⟩
  ((repeat apply Exists.intro); first | refine ⟨H.ld (by exact ⟨rfl, rfl, rfl, rfl⟩) (by first | exact scl3 | exact scl9 | exact scl26) (by repeat first | exact .head _ | refine .tail _ ?_) rfl, ?_⟩ | refine ⟨H.ldA (by exact ⟨rfl, rfl, rfl, rfl⟩) (by first | exact agg28 | exact agg43 | exact agg64) (by repeat first | exact .head _ | refine .tail _ ?_) rfl rfl, ?_⟩)
  refine callV (stamp_any hR (h.chg H.chg (by simp))) ?_
  rintro e w5 ⟨rfl, H'⟩; replace H := H.ext0 H'; clear H'
  refine ⟨_, rfl, ?_⟩
  ((repeat apply Exists.intro); first | refine ⟨H.ld (by exact ⟨rfl, rfl, rfl, rfl⟩) (by first | exact scl3 | exact scl9 | exact scl26) (by repeat first | exact .head _ | refine .tail _ ?_) rfl, ?_⟩ | refine ⟨H.ldA (by exact ⟨rfl, rfl, rfl, rfl⟩) (by first | exact agg28 | exact agg43 | exact agg64) (by repeat first | exact .head _ | refine .tail _ ?_) rfl rfl, ?_⟩)
  refine br_ndec (fun hn => absurd rfl hn) (fun _ => ?_)
  ((repeat apply Exists.intro); first | refine ⟨H.ld (by exact ⟨rfl, rfl, rfl, rfl⟩) (by first | exact scl3 | exact scl9 | exact scl26) (by repeat first | exact .head _ | refine .tail _ ?_) rfl, ?_⟩ | refine ⟨H.ldA (by exact ⟨rfl, rfl, rfl, rfl⟩) (by first | exact agg28 | exact agg43 | exact agg64) (by repeat first | exact .head _ | refine .tail _ ?_) rfl rfl, ?_⟩)
  refine LoopP.mk (fun m s w' => ∃ k : Nat, m = L.length - k ∧ k ≤ L.length ∧ s = (k : Int) ∧ Hp [] w w' [.own 3 1 a2 L.length c2 (intC (L.map (·.1)))]) L.length ⟨0, rfl, Nat.zero_le _, rfl, H.done1⟩ ?_
  clear H
  rintro m s w6 next ⟨k, rfl, hk, rfl, H⟩ hnext
  refine br_dec (fun h1 => ?_) (fun h1 => ?_)
  · have hk' : k < L.length := by omega
    obtain ⟨ad, ha⟩ := hc.some (recC_ne hk')
    have e1 : Int.toNat (k : Int) * 2 = 2 * k := by omega
    have e2 : Int.toNat (k : Int) * 1 = k := by omega
    refine onP_mk ha ⟨⟨by omega, h1⟩, _, _, by rw [e1]; exact (hc.chg H.chg (by simp)).ldA agg64 ha (recC_two hk') rfl, ?_⟩
    (intro _ _ hn; replace H := H.new (by exact ⟨rfl, rfl, rfl, rfl⟩) hn; clear hn)
    ((first | (apply Hp.st; (case H => first | exact H | exact H.pull1 | exact H.pull2 | exact H.pull3 | exact H.pull4 | exact H.pull5 | exact H.pull6 | exact H.pull7); (case e => exact ⟨rfl, rfl, rfl, rfl⟩); (case S => exact (by first | exact scl3 | exact scl9 | exact scl26)); (case hv => exact rfl); (case h1 => exact rfl); (case ho => exact Nat.le_of_ble_eq_true rfl); (case hc => exact rfl)) | (apply Hp.stA; (case H => first | exact H | exact H.pull1 | exact H.pull2 | exact H.pull3 | exact H.pull4 | exact H.pull5 | exact H.pull6 | exact H.pull7); (case e => exact ⟨rfl, rfl, rfl, rfl⟩); (case S => exact (by first | exact agg28 | exact agg43 | exact agg64)); (case hn => exact rfl); (case h1 => exact rfl); (case ho => exact Nat.le_of_ble_eq_true rfl); (case hc => exact rfl))); clear H; intro _ H; (try simp only [over, List.set_cons_zero, List.set_cons_succ] at H))
    ((repeat apply Exists.intro); first | refine ⟨H.ld (by exact ⟨rfl, rfl, rfl, rfl⟩) (by first | exact scl3 | exact scl9 | exact scl26) (by repeat first | exact .head _ | refine .tail _ ?_) rfl, ?_⟩ | refine ⟨H.ldA (by exact ⟨rfl, rfl, rfl, rfl⟩) (by first | exact agg28 | exact agg43 | exact agg64) (by repeat first | exact .head _ | refine .tail _ ?_) rfl rfl, ?_⟩)
    refine callV (get_any hR (h.chg H.chg (by simp)) ((L[k]).1 : Int)) ?_
    have hlk : lk L ((L[k]).1 : Int) = some (L[k]).2 := lk_some hL.sorted (k := (L[k]).1) (s := (L[k]).2) (List.getElem_mem hk')
    rw [hlk]
    rintro e w7 ⟨rfl, H'⟩; replace H := H.ext0 H'; clear H'
    refine ⟨_, _, rfl, ?_⟩
    have hown := (H.drew.ownA (.tail _ (.head _))).cells
    have hkm : k < (L.map (·.1)).length := by rw [List.length_map]; exact hk'
    obtain ⟨ad2, ha2⟩ := hown.some (by intro e9; have := congrArg List.length e9; simp [intC] at this; rw [this] at hk'; simp at hk')
    refine onP_mk ha2 ⟨⟨by omega, h1⟩, _, by rw [e2]; exact hown.ld scl3 ha2 (intC_get hkm), ?_⟩
    ((repeat apply Exists.intro); first | refine ⟨H.ld (by exact ⟨rfl, rfl, rfl, rfl⟩) (by first | exact scl3 | exact scl9 | exact scl26) (by repeat first | exact .head _ | refine .tail _ ?_) rfl, ?_⟩ | refine ⟨H.ldA (by exact ⟨rfl, rfl, rfl, rfl⟩) (by first | exact agg28 | exact agg43 | exact agg64) (by repeat first | exact .head _ | refine .tail _ ?_) rfl rfl, ?_⟩)
    refine br_ndec (fun hn => absurd (by simp) hn) (fun _ => br_not (fun hn => by cases hn) (fun _ => ?_))
    ((repeat apply Exists.intro); first | refine ⟨H.ld (by exact ⟨rfl, rfl, rfl, rfl⟩) (by first | exact scl3 | exact scl9 | exact scl26) (by repeat first | exact .head _ | refine .tail _ ?_) rfl, ?_⟩ | refine ⟨H.ldA (by exact ⟨rfl, rfl, rfl, rfl⟩) (by first | exact agg28 | exact agg43 | exact agg64) (by repeat first | exact .head _ | refine .tail _ ?_) rfl rfl, ?_⟩)
    refine br_ndec (fun hn => absurd rfl hn) (fun _ => ⟨inR64.2 (by omega), hnext (L.length - (k + 1)) _ _ (by omega) ⟨k + 1, rfl, by omega, by omega, H.drew.drop⟩⟩)
  · exact ⟨rfl, H.done⟩

/-! ### scripts -/
def opC (ops : List Op') : List Value := ops.flatMap fun o => [.int .i64 o.kind, .int .i64 o.slot, .int .i64 o.n, sv o.s]
theorem opC_len (L : List Op') : (opC L).length = 4 * L.length := by
  induction L with
  | nil => rfl
  | cons p r ih =>
    show (([Value.int .i64 p.kind, .int .i64 p.slot, .int .i64 p.n, sv p.s] : List Value) ++ opC r).length = _
    rw [List.length_append, ih]; simp; omega
theorem opC_append (x y : List Op') : opC (x ++ y) = opC x ++ opC y := by simp [opC]
theorem opC_four {L : List Op'} {k : Nat} (h : k < L.length) : ((opC L).drop (4 * k)).take 4 = [.int .i64 (L[k]).kind, .int .i64 (L[k]).slot, .int .i64 (L[k]).n, sv (L[k]).s] := by
  have : (opC L).drop (4 * k) = opC (L.drop k) := by
    conv => lhs; rw [← List.take_append_drop k L, opC_append]
    exact drop_left _ _ _ (by rw [opC_len, List.length_take]; omega)
  rw [this, List.drop_eq_getElem_cons h]; rfl
theorem opC_ne {L : List Op'} {k : Nat} (h : k < L.length) : opC L ≠ [] := by
  intro e
  have := opC_len L
  rw [e] at this
  simp at this; omega
def runO (s : Recs × Nat) (ops : List Op') : Recs × Nat := ops.foldl (fun s o => ((ado s.1 s.2 o).1, (ado s.1 s.2 o).2.1)) s
theorem runO_snoc (s : Recs × Nat) (x : List Op') (o : Op') : runO s (x ++ [o]) = ((ado (runO s x).1 (runO s x).2 o).1, (ado (runO s x).1 (runO s x).2 o).2.1) := by simp [runO, List.foldl_append]

set_option maxHeartbeats 2000000 in
theorem plays_spec (hR : Rep g L st) (h : Blk w p g.cells 54) (hc : Cells w a (recC L)) (hpa : ∀ k ∈ blks a, k ≠ p) (sa : Option Addr) (sc : Nat) (ops : List Op') (hlo : ops.length ≤ 400) (hs : Cells w sa (opC ops)) (hsep : 0 < ops.length → ∀ k ∈ blks sa, k ≠ p) :
    Calls Go.Proofs.Try.prog 10 #[.pointer (some ⟨p, 0, none⟩), pv a c L st, .slice sa ops.length sc] w fun e w' => ∃ a' c' g', e = .returned (.tuple #[pv a' c' (runO (L, st) ops).1 (runO (L, st) ops).2, .bool true]) ∧ Rep g' (runO (L, st) ops).1 (runO (L, st) ops).2 ∧
      ((a' = a ∧ c' = c ∧ (runO (L, st) ops).1 = L ∧ Hp [p] w w' [pgA p g']) ∨ Hp [p] w w' [pgA p g', pO a' c' (runO (L, st) ops).1]) := by
  apply plays.ok
  unfold plays.vc
  have H : Hp [p] w w [pgA p g] := Hp.start1 (a := pgA p g) h
  (intro _ _ hn; replace H := H.new (by exact ⟨rfl, rfl, rfl, rfl⟩) hn; clear hn)
  rename_i b _
  (intro _ _ hn; replace H := H.new (by exact ⟨rfl, rfl, rfl, rfl⟩) hn; clear hn)
  rename_i b1 _
  refine LoopP.mk (fun m s w' => ∃ (k : Nat) (a' : Option Addr) (c' : Nat) (g' : Pg) (T : List Asn), m = ops.length - k ∧ k ≤ ops.length ∧ s = (k : Int) ∧ Rep g' (runO (L, st) (ops.take k)).1 (runO (L, st) (ops.take k)).2 ∧
    Hp [p] w w' (pgA p g' :: .blk b [.slice a' (runO (L, st) (ops.take k)).1.length c', .int .i64 ((runO (L, st) (ops.take k)).2 : Int)] 28 :: .blk b1 [.slice none 0 0, .int .i64 0] 28 :: T) ∧
    ((a' = a ∧ c' = c ∧ (runO (L, st) (ops.take k)).1 = L ∧ T = []) ∨ T = [pO a' c' (runO (L, st) (ops.take k)).1])) ops.length ⟨0, a, c, g, [], rfl, Nat.zero_le _, rfl, hR, by ((try dsimp only [List.cons_append, List.nil_append]); (try dsimp only [List.cons_append, List.nil_append] at H); refine Hp.perm H ?_; (repeat (apply perm_step; (focus first | exact perm_p0 | exact perm_p1 | exact perm_p2 | exact perm_p3 | exact perm_p4 | exact perm_p5 | exact perm_p6 | exact perm_p7 | exact perm_p8 | exact perm_p9))); exact List.Perm.refl _), .inl ⟨rfl, rfl, rfl, rfl⟩⟩ ?_
  clear H
  rintro m s w6 next ⟨k, a', c', g', T, rfl, hk, rfl, hR', H, hT⟩ hnext
  refine br_dec (fun h1 => ?_) (fun h1 => ?_)
  · have hk' : k < ops.length := by omega
    obtain ⟨ad, ha⟩ := hs.some (opC_ne hk')
    have e1 : Int.toNat (k : Int) * 4 = 4 * k := by omega
    have hrun : runO (L, st) (ops.take (k + 1)) = ((ado (runO (L, st) (ops.take k)).1 (runO (L, st) (ops.take k)).2 ops[k]).1, (ado (runO (L, st) (ops.take k)).1 (runO (L, st) (ops.take k)).2 ops[k]).2.1) := by
      rw [List.take_succ_eq_append_getElem hk']; exact runO_snoc _ _ _
    refine onP_mk ha ⟨⟨by omega, h1⟩, _, _, _, _, by rw [e1]; exact (hs.chg H.chg (by simpa using hsep (by omega))).ldA agg43 ha (opC_four hk') rfl, ?_⟩
    generalize runO (L, st) (ops.take k) = S at *
    obtain ⟨L1, st1⟩ := S
    simp only at hR' H hrun hT
    have hrp := hR'.rp
    (intro _ _ hn; replace H := H.new (by exact ⟨rfl, rfl, rfl, rfl⟩) hn; clear hn)
    rename_i b2 _
    ((first | (apply Hp.st; (case H => first | exact H | exact H.pull1 | exact H.pull2 | exact H.pull3 | exact H.pull4 | exact H.pull5 | exact H.pull6 | exact H.pull7); (case e => exact ⟨rfl, rfl, rfl, rfl⟩); (case S => exact (by first | exact scl3 | exact scl9 | exact scl26)); (case hv => exact rfl); (case h1 => exact rfl); (case ho => exact Nat.le_of_ble_eq_true rfl); (case hc => exact rfl)) | (apply Hp.stA; (case H => first | exact H | exact H.pull1 | exact H.pull2 | exact H.pull3 | exact H.pull4 | exact H.pull5 | exact H.pull6 | exact H.pull7); (case e => exact ⟨rfl, rfl, rfl, rfl⟩); (case S => exact (by first | exact agg28 | exact agg43 | exact agg64)); (case hn => exact rfl); (case h1 => exact rfl); (case ho => exact Nat.le_of_ble_eq_true rfl); (case hc => exact rfl))); clear H; intro _ H; (try simp only [over, List.set_cons_zero, List.set_cons_succ] at H))
    ((repeat apply Exists.intro); first | refine ⟨H.ld (by exact ⟨rfl, rfl, rfl, rfl⟩) (by first | exact scl3 | exact scl9 | exact scl26) (by repeat first | exact .head _ | refine .tail _ ?_) rfl, ?_⟩ | refine ⟨H.ldA (by exact ⟨rfl, rfl, rfl, rfl⟩) (by first | exact agg28 | exact agg43 | exact agg64) (by repeat first | exact .head _ | refine .tail _ ?_) rfl rfl, ?_⟩)
    ((repeat apply Exists.intro); first | refine ⟨H.ld (by exact ⟨rfl, rfl, rfl, rfl⟩) (by first | exact scl3 | exact scl9 | exact scl26) (by repeat first | exact .head _ | refine .tail _ ?_) rfl, ?_⟩ | refine ⟨H.ldA (by exact ⟨rfl, rfl, rfl, rfl⟩) (by first | exact agg28 | exact agg43 | exact agg64) (by repeat first | exact .head _ | refine .tail _ ?_) rfl rfl, ?_⟩)
    have hcel : ∀ {w' : World} {X : List Asn}, Hp [p] w w' (X ++ T) → Cells w' a' (recC L1) := by
      intro w' X HX
      rcases hT with ⟨e1, e2, e3, e4⟩ | e
      · rw [e1, e3]; exact hc.chg HX.chg (by simpa using hpa)
      · subst e; exact pOc (c := c') HX (by exact ⟨rfl, rfl, rfl, rfl⟩) (List.mem_append_right _ (.head _))
    refine callV (rdo_spec hrp (hcel (X := [_, _, _, _]) H) st1 ops[k]) ?_
    rintro e w7 ⟨a3, c3, rfl, H'⟩
    obtain ⟨T3, H, hT3⟩ : ∃ T3, Hp [p] w w7 (.blk b2 [.int .i64 (ops[k]).kind, .int .i64 (ops[k]).slot, .int .i64 (ops[k]).n, sv (ops[k]).s] 43 :: pgA p g' :: .blk b [.slice a' L1.length c', .int .i64 (st1 : Int)] 28 :: .blk b1 [.slice none 0 0, .int .i64 0] 28 :: T3) ∧ ((a3 = a ∧ c3 = c ∧ (ado L1 st1 ops[k]).1 = L ∧ T3 = []) ∨ T3 = [pO a3 c3 (ado L1 st1 ops[k]).1]) := by
      rcases H' with ⟨e1, e2, e3, H'⟩ | H'
      · rw [e1, e2, e3]
        exact ⟨T, H.ext0 H', hT⟩
      · have H := H.ext1 H'
        clear hcel
        exact ⟨_, by (apply Hp.takeL; (try dsimp only [List.cons_append, List.nil_append]); (try dsimp only [List.cons_append, List.nil_append] at H); refine Hp.perm H ?_; (repeat (apply perm_step; (focus first | exact perm_p0 | exact perm_p1 | exact perm_p2 | exact perm_p3 | exact perm_p4 | exact perm_p5 | exact perm_p6 | exact perm_p7 | exact perm_p8 | exact perm_p9))); exact List.Perm.refl _), .inr rfl⟩
    clear H' hT hcel
    refine ⟨_, _, _, _, _, _, rfl, ?_⟩
    (intro _ _ hn; replace H := H.new (by exact ⟨rfl, rfl, rfl, rfl⟩) hn; clear hn)
    rename_i b3 _
    ((first | (apply Hp.st; (case H => first | exact H | exact H.pull1 | exact H.pull2 | exact H.pull3 | exact H.pull4 | exact H.pull5 | exact H.pull6 | exact H.pull7); (case e => exact ⟨rfl, rfl, rfl, rfl⟩); (case S => exact (by first | exact scl3 | exact scl9 | exact scl26)); (case hv => exact rfl); (case h1 => exact rfl); (case ho => exact Nat.le_of_ble_eq_true rfl); (case hc => exact rfl)) | (apply Hp.stA; (case H => first | exact H | exact H.pull1 | exact H.pull2 | exact H.pull3 | exact H.pull4 | exact H.pull5 | exact H.pull6 | exact H.pull7); (case e => exact ⟨rfl, rfl, rfl, rfl⟩); (case S => exact (by first | exact agg28 | exact agg43 | exact agg64)); (case hn => exact rfl); (case h1 => exact rfl); (case ho => exact Nat.le_of_ble_eq_true rfl); (case hc => exact rfl))); clear H; intro _ H; (try simp only [over, List.set_cons_zero, List.set_cons_succ] at H))
    ((repeat apply Exists.intro); first | refine ⟨H.ld (by exact ⟨rfl, rfl, rfl, rfl⟩) (by first | exact scl3 | exact scl9 | exact scl26) (by repeat first | exact .head _ | refine .tail _ ?_) rfl, ?_⟩ | refine ⟨H.ldA (by exact ⟨rfl, rfl, rfl, rfl⟩) (by first | exact agg28 | exact agg43 | exact agg64) (by repeat first | exact .head _ | refine .tail _ ?_) rfl rfl, ?_⟩)
    replace H := H.pull3
    ((first | (apply Hp.st; (case H => first | exact H | exact H.pull1 | exact H.pull2 | exact H.pull3 | exact H.pull4 | exact H.pull5 | exact H.pull6 | exact H.pull7); (case e => exact ⟨rfl, rfl, rfl, rfl⟩); (case S => exact (by first | exact scl3 | exact scl9 | exact scl26)); (case hv => exact rfl); (case h1 => exact rfl); (case ho => exact Nat.le_of_ble_eq_true rfl); (case hc => exact rfl)) | (apply Hp.stA; (case H => first | exact H | exact H.pull1 | exact H.pull2 | exact H.pull3 | exact H.pull4 | exact H.pull5 | exact H.pull6 | exact H.pull7); (case e => exact ⟨rfl, rfl, rfl, rfl⟩); (case S => exact (by first | exact agg28 | exact agg43 | exact agg64)); (case hn => exact rfl); (case h1 => exact rfl); (case ho => exact Nat.le_of_ble_eq_true rfl); (case hc => exact rfl))); clear H; intro _ H; (try simp only [over, List.set_cons_zero, List.set_cons_succ] at H))
    ((repeat apply Exists.intro); first | refine ⟨H.ld (by exact ⟨rfl, rfl, rfl, rfl⟩) (by first | exact scl3 | exact scl9 | exact scl26) (by repeat first | exact .head _ | refine .tail _ ?_) rfl, ?_⟩ | refine ⟨H.ldA (by exact ⟨rfl, rfl, rfl, rfl⟩) (by first | exact agg28 | exact agg43 | exact agg64) (by repeat first | exact .head _ | refine .tail _ ?_) rfl rfl, ?_⟩)
    replace H := H.pull3
    refine callV (does_spec hR' (H.ok _ (.head _)) ops[k]) ?_
    rintro e w8 ⟨rfl, g3, hR3, H'⟩; replace H := Hp.use11 (a := pgA p g') H H'; clear H'
    refine ⟨_, _, rfl, br_ndec (fun hn => absurd rfl hn) (fun _ => br_ndec (fun hn => absurd rfl hn) (fun _ => ?_))⟩
    have hrp3 := hR3.rp
    have hsm3 := hrp3.small
    ((repeat apply Exists.intro); first | refine ⟨H.ld (by exact ⟨rfl, rfl, rfl, rfl⟩) (by first | exact scl3 | exact scl9 | exact scl26) (by repeat first | exact .head _ | refine .tail _ ?_) rfl, ?_⟩ | refine ⟨H.ldA (by exact ⟨rfl, rfl, rfl, rfl⟩) (by first | exact agg28 | exact agg43 | exact agg64) (by repeat first | exact .head _ | refine .tail _ ?_) rfl rfl, ?_⟩)
    refine callV (room_any hR3 (H.drew.ok _ (.head _))) ?_
    rintro e w9 ⟨rfl, H'⟩; replace H := H.drew.ext0 H'; clear H'
    refine ⟨_, rfl, ?_⟩
    ((repeat apply Exists.intro); first | refine ⟨H.ld (by exact ⟨rfl, rfl, rfl, rfl⟩) (by first | exact scl3 | exact scl9 | exact scl26) (by repeat first | exact .head _ | refine .tail _ ?_) rfl, ?_⟩ | refine ⟨H.ldA (by exact ⟨rfl, rfl, rfl, rfl⟩) (by first | exact agg28 | exact agg43 | exact agg64) (by repeat first | exact .head _ | refine .tail _ ?_) rfl rfl, ?_⟩)
    have hcel3 : Cells w9 a3 (recC (ado L1 st1 ops[k]).1) := by
      rcases hT3 with ⟨e1, e2, e3, e4⟩ | e
      · rw [e1, e3]; exact hc.chg H.chg (by simpa using hpa)
      · subst e; exact pOc H (by exact ⟨rfl, rfl, rfl, rfl⟩) (by repeat first | exact .head _ | refine .tail _ ?_)
    refine callV (rroom_spec hrp3.len (by omega) hcel3 _) ?_
    rintro e w10 ⟨rfl, H'⟩; replace H := H.ext0 H'; clear H'
    refine ⟨_, rfl, br_ndec (fun hn => absurd rfl hn) (fun _ => ?_)⟩
    refine ⟨inR64.2 (by omega), hnext (ops.length - (k + 1)) _ _ (by omega) ⟨k + 1, a3, c3, g3, T3, rfl, by omega, by omega, ?_, ?_, ?_⟩⟩
    · rw [hrun]; exact hR3
    · rw [hrun]
      clear hT3 hcel3
      simp only
      apply Hp.drop (a := Asn.blk b3 _ _)
      apply Hp.drop (a := Asn.blk b2 _ _)
      ((try dsimp only [List.cons_append, List.nil_append]); (try dsimp only [List.cons_append, List.nil_append] at H); refine Hp.perm H ?_; (repeat (apply perm_step; (focus first | exact perm_p0 | exact perm_p1 | exact perm_p2 | exact perm_p3 | exact perm_p4 | exact perm_p5 | exact perm_p6 | exact perm_p7 | exact perm_p8 | exact perm_p9))); exact List.Perm.refl _)
    · rw [hrun]; exact hT3
  · have hk' : k = ops.length := by omega
    subst hk'
    rw [List.take_length] at hR' H hT
    ((repeat apply Exists.intro); first | refine ⟨H.ld (by exact ⟨rfl, rfl, rfl, rfl⟩) (by first | exact scl3 | exact scl9 | exact scl26) (by repeat first | exact .head _ | refine .tail _ ?_) rfl, ?_⟩ | refine ⟨H.ldA (by exact ⟨rfl, rfl, rfl, rfl⟩) (by first | exact agg28 | exact agg43 | exact agg64) (by repeat first | exact .head _ | refine .tail _ ?_) rfl rfl, ?_⟩)
    replace H := H.pull2
    ((first | (apply Hp.st; (case H => first | exact H | exact H.pull1 | exact H.pull2 | exact H.pull3 | exact H.pull4 | exact H.pull5 | exact H.pull6 | exact H.pull7); (case e => exact ⟨rfl, rfl, rfl, rfl⟩); (case S => exact (by first | exact scl3 | exact scl9 | exact scl26)); (case hv => exact rfl); (case h1 => exact rfl); (case ho => exact Nat.le_of_ble_eq_true rfl); (case hc => exact rfl)) | (apply Hp.stA; (case H => first | exact H | exact H.pull1 | exact H.pull2 | exact H.pull3 | exact H.pull4 | exact H.pull5 | exact H.pull6 | exact H.pull7); (case e => exact ⟨rfl, rfl, rfl, rfl⟩); (case S => exact (by first | exact agg28 | exact agg43 | exact agg64)); (case hn => exact rfl); (case h1 => exact rfl); (case ho => exact Nat.le_of_ble_eq_true rfl); (case hc => exact rfl))); clear H; intro _ H; (try simp only [over, List.set_cons_zero, List.set_cons_succ] at H))
    ((repeat apply Exists.intro); first | refine ⟨H.ld (by exact ⟨rfl, rfl, rfl, rfl⟩) (by first | exact scl3 | exact scl9 | exact scl26) (by repeat first | exact .head _ | refine .tail _ ?_) rfl, ?_⟩ | refine ⟨H.ldA (by exact ⟨rfl, rfl, rfl, rfl⟩) (by first | exact agg28 | exact agg43 | exact agg64) (by repeat first | exact .head _ | refine .tail _ ?_) rfl rfl, ?_⟩)
    refine ⟨a', c', g', rfl, hR', ?_⟩
    rcases hT with ⟨e1, e2, e3, e4⟩ | e
    · exact .inl ⟨e1, e2, e3, H.one (by repeat first | exact .head _ | refine .tail _ ?_)⟩
    · subst e
      exact .inr (by (apply Hp.takeL; (try dsimp only [List.cons_append, List.nil_append]); (try dsimp only [List.cons_append, List.nil_append] at H); refine Hp.perm H ?_; (repeat (apply perm_step; (focus first | exact perm_p0 | exact perm_p1 | exact perm_p2 | exact perm_p3 | exact perm_p4 | exact perm_p5 | exact perm_p6 | exact perm_p7 | exact perm_p8 | exact perm_p9))); exact List.Perm.refl _))
end
end Go.Proofs.Ytmaocnnhfmledaa
