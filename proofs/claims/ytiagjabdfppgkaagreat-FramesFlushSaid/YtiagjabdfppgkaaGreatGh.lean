/- Frames: the law's own: change, same, few, onDisk. -/
import Derived.Test.YtiagjabdfppgkaaGreatGr
set_option linter.unusedVariables false
set_option linter.unusedSimpArgs false
set_option maxRecDepth 100000
namespace Go.Proofs.YtiagjabdfppgkaaGreat
open Go Go.Vc Go.Vault

theorem gSRec : Scl Tryz.prog 86 := scl_of (by kernel_rfl)
theorem gaggRec : Agg Tryz.prog 123 2 := agg_of (by kernel_rfl)
theorem gagg12 : Agg Tryz.prog 38 12 := agg_of (by kernel_rfl)
theorem eqvG {w : World} {p : Option Addr} {x y : Operand} : Eqv Tryz.prog .eql 37 x y w (.pointer p) (.pointer none) p.isNone := eqv_ptrE gundPG
theorem gundPK : Tryz.prog.underlying 26 = some (.pointer (Tryz.prog.pointee 26)) := by kernel_rfl
theorem eqvK {w : World} {p : Option Addr} {x y : Operand} : Eqv Tryz.prog .eql 26 x y w (.pointer p) (.pointer none) p.isNone := eqv_ptrE gundPK
theorem eqvP {w : World} {p : Option Addr} {x y : Operand} : Eqv Tryz.prog .eql 36 x y w (.pointer p) (.pointer none) p.isNone := eqv_ptrE gundPP
theorem eqvD {w : World} {p : Option Addr} {x y : Operand} : Eqv Tryz.prog .eql 35 x y w (.pointer p) (.pointer none) p.isNone := eqv_ptrE gundPD

section
variable {w : World} {L : Sl.Recs} {p : Nat} {g : Sl.Pg} {st : Nat}
theorem change_spec (hR : Sl.Rep g L st) (h : Blk w p g.cells 132) (o : Sl.Op') :
    Calls Tryz.prog 47 #[.pointer (some ⟨p, 0, none⟩), Sl.opv o] w fun e w' => e = .returned (.int .i64 (Sl.ado L st o).2.2.2) ∧ ∃ g', Sl.Rep g' (Sl.ado L st o).1 (Sl.ado L st o).2.1 ∧ Hp [p] w w' [Sl.pgA p g'] := by
  obtain ⟨kind, slot, n, s⟩ := o
  apply change.ok
  unfold change.vc Sl.ado
  simp only
  have H : Hp [p] w w [Sl.pgA p g] := Hp.start1 (a := Sl.pgA p g) h
  (intro _ _ hn; replace H := H.new (by exact ⟨rfl, rfl, rfl, rfl⟩) hn; clear hn)
  rename_i b _
  ((repeat apply Exists.intro); first | refine ⟨H.ld (by exact ⟨rfl, rfl, rfl, rfl⟩) (by first | exact gBool | exact gInt | exact gPD | exact gPG | exact gPK | exact gPP | exact gSRec | exact gStr) (by repeat first | exact .head _ | refine .tail _ ?_) rfl, ?_⟩ | refine ⟨H.ldA (by exact ⟨rfl, rfl, rfl, rfl⟩) (by first | exact gagg12 | exact gaggO11 | exact gaggO12 | exact gaggRG | exact gaggRP | exact gaggRec) (by repeat first | exact .head _ | refine .tail _ ?_) rfl rfl, ?_⟩)
  replace H := H.pull1
  refine br_dec (fun h1 => ?_) (fun h1 => br_dec (fun h2 => ?_) (fun h2 => br_dec (fun h3 => ?_) (fun h3 => br_dec (fun h4 => ?_) (fun h4 => ?_))))
  · rw [if_pos h1]
    ((repeat apply Exists.intro); first | refine ⟨H.ld (by exact ⟨rfl, rfl, rfl, rfl⟩) (by first | exact gBool | exact gInt | exact gPD | exact gPG | exact gPK | exact gPP | exact gSRec | exact gStr) (by repeat first | exact .head _ | refine .tail _ ?_) rfl, ?_⟩ | refine ⟨H.ldA (by exact ⟨rfl, rfl, rfl, rfl⟩) (by first | exact gagg12 | exact gaggO11 | exact gaggO12 | exact gaggRG | exact gaggRP | exact gaggRec) (by repeat first | exact .head _ | refine .tail _ ?_) rfl rfl, ?_⟩)
    refine callV (Sl.insert_any hR (H.ok _ (.head _)) s) ?_
    rintro e w3 ⟨rfl, g', hR', H'⟩; replace H := Hp.use11 (a := Sl.pgA p _) H H'; clear H'
    exact ⟨_, _, rfl, rfl, g', hR', H.done1⟩
  · rw [if_neg h1, if_pos h2]
    ((repeat apply Exists.intro); first | refine ⟨H.ld (by exact ⟨rfl, rfl, rfl, rfl⟩) (by first | exact gBool | exact gInt | exact gPD | exact gPG | exact gPK | exact gPP | exact gSRec | exact gStr) (by repeat first | exact .head _ | refine .tail _ ?_) rfl, ?_⟩ | refine ⟨H.ldA (by exact ⟨rfl, rfl, rfl, rfl⟩) (by first | exact gagg12 | exact gaggO11 | exact gaggO12 | exact gaggRG | exact gaggRP | exact gaggRec) (by repeat first | exact .head _ | refine .tail _ ?_) rfl rfl, ?_⟩)
    ((repeat apply Exists.intro); first | refine ⟨H.ld (by exact ⟨rfl, rfl, rfl, rfl⟩) (by first | exact gBool | exact gInt | exact gPD | exact gPG | exact gPK | exact gPP | exact gSRec | exact gStr) (by repeat first | exact .head _ | refine .tail _ ?_) rfl, ?_⟩ | refine ⟨H.ldA (by exact ⟨rfl, rfl, rfl, rfl⟩) (by first | exact gagg12 | exact gaggO11 | exact gaggO12 | exact gaggRG | exact gaggRP | exact gaggRec) (by repeat first | exact .head _ | refine .tail _ ?_) rfl rfl, ?_⟩)
    refine callV (Sl.put_spec p g L st hR slot s _ (H.ok _ (.head _))) ?_
    rintro e w3 ⟨rfl, g', hR', H'⟩; replace H := Hp.use11 (a := Sl.pgA p _) H H'; clear H'
    exact ⟨_, rfl, rfl, g', hR', H.done1⟩
  · rw [if_neg h1, if_neg h2, if_pos h3]
    ((repeat apply Exists.intro); first | refine ⟨H.ld (by exact ⟨rfl, rfl, rfl, rfl⟩) (by first | exact gBool | exact gInt | exact gPD | exact gPG | exact gPK | exact gPP | exact gSRec | exact gStr) (by repeat first | exact .head _ | refine .tail _ ?_) rfl, ?_⟩ | refine ⟨H.ldA (by exact ⟨rfl, rfl, rfl, rfl⟩) (by first | exact gagg12 | exact gaggO11 | exact gaggO12 | exact gaggRG | exact gaggRP | exact gaggRec) (by repeat first | exact .head _ | refine .tail _ ?_) rfl rfl, ?_⟩)
    refine callV (Sl.delete_any hR (H.ok _ (.head _)) slot) ?_
    rintro e w3 ⟨rfl, g', hR', H'⟩; replace H := Hp.use11 (a := Sl.pgA p _) H H'; clear H'
    exact ⟨_, rfl, rfl, g', hR', H.done1⟩
  · rw [if_neg h1, if_neg h2, if_neg h3, if_pos h4]
    ((repeat apply Exists.intro); first | refine ⟨H.ld (by exact ⟨rfl, rfl, rfl, rfl⟩) (by first | exact gBool | exact gInt | exact gPD | exact gPG | exact gPK | exact gPP | exact gSRec | exact gStr) (by repeat first | exact .head _ | refine .tail _ ?_) rfl, ?_⟩ | refine ⟨H.ldA (by exact ⟨rfl, rfl, rfl, rfl⟩) (by first | exact gagg12 | exact gaggO11 | exact gaggO12 | exact gaggRG | exact gaggRP | exact gaggRec) (by repeat first | exact .head _ | refine .tail _ ?_) rfl rfl, ?_⟩)
    refine callV (Sl.setStamp_any hR (H.ok _ (.head _)) n) ?_
    rintro e w3 ⟨rfl, g', hR', H'⟩; replace H := Hp.use11 (a := Sl.pgA p _) H H'; clear H'
    refine ⟨_, rfl, br_not (fun h5 => ?_) (fun h5 => ?_)⟩
    · simp only
      rw [if_neg (of_decide_eq_false h5)]
      exact ⟨rfl, g', hR', H.done1⟩
    · simp only
      rw [if_pos (of_decide_eq_true h5)]
      exact ⟨rfl, g', hR', H.done1⟩
  · rw [if_neg h1, if_neg h2, if_neg h3, if_neg h4]
    exact ⟨rfl, g, hR, H.done1⟩
theorem intC_get {l : List Nat} {k : Nat} (h : k < l.length) : (Sl.intC l)[k]? = some (.int .i64 (l[k] : Int)) := by
  simp [Sl.intC, List.getElem?_eq_getElem h]
set_option maxHeartbeats 1000000 in
theorem same_spec (hR : Sl.Rep g L st) (h : Blk w p g.cells 132) (a : Option Addr) (c : Nat) (hc : Cells w a (Sl.recC L)) :
    Calls Tryz.prog 35 #[.pointer (some ⟨p, 0, none⟩), Sl.pv a c L st] w fun e w' => e = .returned (.bool true) ∧ Hp [] w w' [] := by
  apply same.ok
  unfold same.vc
  have H := Hp.start w
  have hL := hR.rp
  have hlen := hL.len
  have hsm := hL.small
  (intro _ _ hn; replace H := H.new (by exact ⟨rfl, rfl, rfl, rfl⟩) hn; clear hn)
  rename_i b _
  refine callV (Sl.slots_any hR (h.chg H.chg (by simp))) ?_
  rintro e w2 ⟨a2, c2, rfl, H'⟩; replace H := H.ext1 H'; clear H'
  refine ⟨_, _, _, rfl, ?_⟩
  ((repeat apply Exists.intro); first | refine ⟨H.ld (by exact ⟨rfl, rfl, rfl, rfl⟩) (by first | exact gBool | exact gInt | exact gPD | exact gPG | exact gPK | exact gPP | exact gSRec | exact gStr) (by repeat first | exact .head _ | refine .tail _ ?_) rfl, ?_⟩ | refine ⟨H.ldA (by exact ⟨rfl, rfl, rfl, rfl⟩) (by first | exact gagg12 | exact gaggO11 | exact gaggO12 | exact gaggRG | exact gaggRP | exact gaggRec) (by repeat first | exact .head _ | refine .tail _ ?_) rfl rfl, ?_⟩)
  refine br_ndec (fun hn => absurd rfl hn) (fun _ => ?_)
  ((repeat apply Exists.intro); first | refine ⟨H.ld (by exact ⟨rfl, rfl, rfl, rfl⟩) (by first | exact gBool | exact gInt | exact gPD | exact gPG | exact gPK | exact gPP | exact gSRec | exact gStr) (by repeat first | exact .head _ | refine .tail _ ?_) rfl, ?_⟩ | refine ⟨H.ldA (by exact ⟨rfl, rfl, rfl, rfl⟩) (by first | exact gagg12 | exact gaggO11 | exact gaggO12 | exact gaggRG | exact gaggRP | exact gaggRec) (by repeat first | exact .head _ | refine .tail _ ?_) rfl rfl, ?_⟩)
  refine callV (Sl.stamp_any hR (h.chg H.drew.chg (by simp))) ?_
  rintro e w5 ⟨rfl, H'⟩; replace H := H.drew.ext0 H'; clear H'
  refine ⟨_, rfl, ?_⟩
  ((repeat apply Exists.intro); first | refine ⟨H.ld (by exact ⟨rfl, rfl, rfl, rfl⟩) (by first | exact gBool | exact gInt | exact gPD | exact gPG | exact gPK | exact gPP | exact gSRec | exact gStr) (by repeat first | exact .head _ | refine .tail _ ?_) rfl, ?_⟩ | refine ⟨H.ldA (by exact ⟨rfl, rfl, rfl, rfl⟩) (by first | exact gagg12 | exact gaggO11 | exact gaggO12 | exact gaggRG | exact gaggRP | exact gaggRec) (by repeat first | exact .head _ | refine .tail _ ?_) rfl rfl, ?_⟩)
  refine br_ndec (fun hn => absurd rfl hn) (fun _ => ?_)
  ((repeat apply Exists.intro); first | refine ⟨H.ld (by exact ⟨rfl, rfl, rfl, rfl⟩) (by first | exact gBool | exact gInt | exact gPD | exact gPG | exact gPK | exact gPP | exact gSRec | exact gStr) (by repeat first | exact .head _ | refine .tail _ ?_) rfl, ?_⟩ | refine ⟨H.ldA (by exact ⟨rfl, rfl, rfl, rfl⟩) (by first | exact gagg12 | exact gaggO11 | exact gaggO12 | exact gaggRG | exact gaggRP | exact gaggRec) (by repeat first | exact .head _ | refine .tail _ ?_) rfl rfl, ?_⟩)
  refine LoopP.mk (fun m s w' => ∃ k : Nat, m = L.length - k ∧ k ≤ L.length ∧ s = (k : Int) ∧ Hp [] w w' [.own 3 1 a2 L.length c2 (Sl.intC (L.map (·.1)))]) L.length ⟨0, rfl, Nat.zero_le _, rfl, H.done1⟩ ?_
  clear H
  rintro m s w6 next ⟨k, rfl, hk, rfl, H⟩ hnext
  refine br_dec (fun h1 => ?_) (fun h1 => ?_)
  · have hk' : k < L.length := by omega
    obtain ⟨ad, ha⟩ := hc.some (Sl.recC_ne hk')
    have e1 : Int.toNat (k : Int) * 2 = 2 * k := by omega
    have e2 : Int.toNat (k : Int) * 1 = k := by omega
    refine onP_mk ha ⟨⟨by omega, h1⟩, _, _, by rw [e1]; exact (hc.chg H.chg (by simp)).ldA gaggRec ha (Sl.recC_two hk') rfl, ?_⟩
    (intro _ _ hn; replace H := H.new (by exact ⟨rfl, rfl, rfl, rfl⟩) hn; clear hn)
    ((first | (apply Hp.st; (case H => first | exact H | exact H.pull1 | exact H.pull2 | exact H.pull3 | exact H.pull4 | exact H.pull5 | exact H.pull6 | exact H.pull7); (case e => exact ⟨rfl, rfl, rfl, rfl⟩); (case S => exact (by first | exact gBool | exact gInt | exact gPD | exact gPG | exact gPK | exact gPP | exact gSRec | exact gStr)); (case hv => exact rfl); (case h1 => exact rfl); (case ho => exact Nat.le_of_ble_eq_true rfl); (case hc => exact rfl)) | (apply Hp.stA; (case H => first | exact H | exact H.pull1 | exact H.pull2 | exact H.pull3 | exact H.pull4 | exact H.pull5 | exact H.pull6 | exact H.pull7); (case e => exact ⟨rfl, rfl, rfl, rfl⟩); (case S => exact (by first | exact gagg12 | exact gaggO11 | exact gaggO12 | exact gaggRG | exact gaggRP | exact gaggRec)); (case hn => exact rfl); (case h1 => exact rfl); (case ho => exact Nat.le_of_ble_eq_true rfl); (case hc => exact rfl))); clear H; intro _ H; (try simp only [over, List.set_cons_zero, List.set_cons_succ] at H))
    ((repeat apply Exists.intro); first | refine ⟨H.ld (by exact ⟨rfl, rfl, rfl, rfl⟩) (by first | exact gBool | exact gInt | exact gPD | exact gPG | exact gPK | exact gPP | exact gSRec | exact gStr) (by repeat first | exact .head _ | refine .tail _ ?_) rfl, ?_⟩ | refine ⟨H.ldA (by exact ⟨rfl, rfl, rfl, rfl⟩) (by first | exact gagg12 | exact gaggO11 | exact gaggO12 | exact gaggRG | exact gaggRP | exact gaggRec) (by repeat first | exact .head _ | refine .tail _ ?_) rfl rfl, ?_⟩)
    refine callV (Sl.get_any hR (h.chg H.chg (by simp)) ((L[k]).1 : Int)) ?_
    have hlk : Sl.lk L ((L[k]).1 : Int) = some (L[k]).2 := Sl.lk_some hL.sorted (k := (L[k]).1) (s := (L[k]).2) (List.getElem_mem hk')
    rw [hlk]
    rintro e w7 ⟨rfl, H'⟩; replace H := H.ext0 H'; clear H'
    refine ⟨_, _, rfl, ?_⟩
    have hown := (H.drew.ownA (.tail _ (.head _))).cells
    have hkm : k < (L.map (·.1)).length := by rw [List.length_map]; exact hk'
    obtain ⟨ad2, ha2⟩ := hown.some (by intro e9; have := congrArg List.length e9; simp [Sl.intC] at this; rw [this] at hk'; simp at hk')
    refine onP_mk ha2 ⟨⟨by omega, h1⟩, _, by rw [e2]; exact hown.ld gInt ha2 (intC_get hkm), ?_⟩
    ((repeat apply Exists.intro); first | refine ⟨H.ld (by exact ⟨rfl, rfl, rfl, rfl⟩) (by first | exact gBool | exact gInt | exact gPD | exact gPG | exact gPK | exact gPP | exact gSRec | exact gStr) (by repeat first | exact .head _ | refine .tail _ ?_) rfl, ?_⟩ | refine ⟨H.ldA (by exact ⟨rfl, rfl, rfl, rfl⟩) (by first | exact gagg12 | exact gaggO11 | exact gaggO12 | exact gaggRG | exact gaggRP | exact gaggRec) (by repeat first | exact .head _ | refine .tail _ ?_) rfl rfl, ?_⟩)
    refine br_ndec (fun hn => absurd (by simp) hn) (fun _ => ?_)
    ((repeat apply Exists.intro); first | refine ⟨H.ld (by exact ⟨rfl, rfl, rfl, rfl⟩) (by first | exact gBool | exact gInt | exact gPD | exact gPG | exact gPK | exact gPP | exact gSRec | exact gStr) (by repeat first | exact .head _ | refine .tail _ ?_) rfl, ?_⟩ | refine ⟨H.ldA (by exact ⟨rfl, rfl, rfl, rfl⟩) (by first | exact gagg12 | exact gaggO11 | exact gaggO12 | exact gaggRG | exact gaggRP | exact gaggRec) (by repeat first | exact .head _ | refine .tail _ ?_) rfl rfl, ?_⟩)
    refine br_ndec (fun hn => absurd rfl hn) (fun _ => ⟨inR64.2 (by omega), hnext (L.length - (k + 1)) _ _ (by omega) ⟨k + 1, rfl, by omega, by omega, H.drew.drop⟩⟩)
  · exact ⟨rfl, H.done⟩
end

/-! ### scripts -/
def scrC (ops : List Op12) : List Value := ops.flatMap op12C
theorem scrC_len (L : List Op12) : (scrC L).length = 9 * L.length := by
  induction L with
  | nil => rfl
  | cons o r ih => simp only [scrC, List.flatMap_cons, List.length_append, List.length_cons] at ih ⊢; rw [ih]; simp [op12C]; omega
theorem scrC_drop : ∀ (L : List Op12) (k : Nat), (scrC L).drop (9 * k) = scrC (L.drop k)
  | L, 0 => rfl
  | [], k + 1 => by simp [scrC]
  | o :: r, k + 1 => by
    have ih := scrC_drop r k
    have : 9 * (k + 1) = (op12C o).length + 9 * k := by simp [op12C]; omega
    rw [this, scrC, List.flatMap_cons, ← List.drop_drop, List.drop_left, List.drop_succ_cons]
    exact ih
theorem scrC_nine {L : List Op12} {k : Nat} (h : k < L.length) : ((scrC L).drop (9 * k)).take 9 = op12C L[k] := by
  rw [scrC_drop, List.drop_eq_getElem_cons h, scrC, List.flatMap_cons, List.take_append_of_le_length (by simp [op12C]), List.take_of_length_le (by simp [op12C])]
theorem scrC_ne {L : List Op12} {k : Nat} (h : k < L.length) : scrC L ≠ [] := fun e => by
  have := scrC_len L
  rw [e] at this
  simp only [List.length_nil] at this; omega
structure OpFew (o : Op12) : Prop where
  n : ¬ (12 ≤ o.n ∧ o.n < 4096)
  stamp : 0 ≤ o.stamp ∧ o.stamp ≤ 4611686018427387904
  s : o.s.length ≤ 3600
structure Few12 (ops : List Op12) : Prop where
  all : ∀ o ∈ ops, OpFew o
  len : ops.length ≤ 200
set_option maxHeartbeats 1000000 in
theorem few_spec (sa : Option Addr) (sc : Nat) (ops : List Op12) (hmx : ops.length ≤ 9223372036854775807) (w : World) (hs : Cells w sa (scrC ops)) :
    Calls Tryz.prog 4 #[.slice sa ops.length sc] w fun e w' => ∃ r, e = .returned (.bool r) ∧ (r = true → Few12 ops) ∧ Hp [] w w' [] := by
  apply few.ok; unfold few.vc
  have H := Hp.start w
  refine LoopP.mk (fun m i w' => ∃ k : Nat, m = ops.length - k ∧ k ≤ ops.length ∧ i = (k : Int) ∧ (∀ j (hj : j < ops.length), j < k → OpFew ops[j]) ∧ Hp [] w w' []) ops.length ⟨0, rfl, by omega, rfl, fun j _ h => by omega, H⟩ ?_
  clear H
  rintro m i w1 next ⟨k, rfl, hk, rfl, hall, H⟩ hnext
  refine br_dec (fun h1 => ?_) (fun h1 => ?_)
  · have hkl : k < ops.length := by omega
    obtain ⟨ad, ha⟩ := hs.some (scrC_ne hkl)
    have e1 : Int.toNat (k : Int) * 9 = 9 * k := by omega
    refine onP_mk ha ⟨⟨by omega, h1⟩, _, _, _, _, _, _, _, _, _, by rw [e1]; exact (hs.chg H.chg (by simp)).ldA gaggO12 ha (scrC_nine hkl) rfl, ?_⟩
    (intro _ _ hn; replace H := H.new (by exact ⟨rfl, rfl, rfl, rfl⟩) hn; clear hn)
    ((first | (apply Hp.st; (case H => first | exact H | exact H.pull1 | exact H.pull2 | exact H.pull3 | exact H.pull4 | exact H.pull5 | exact H.pull6 | exact H.pull7); (case e => exact ⟨rfl, rfl, rfl, rfl⟩); (case S => exact (by first | exact gBool | exact gInt | exact gPD | exact gPG | exact gPK | exact gPP | exact gSRec | exact gStr)); (case hv => exact rfl); (case h1 => exact rfl); (case ho => exact Nat.le_of_ble_eq_true rfl); (case hc => exact rfl)) | (apply Hp.stA; (case H => first | exact H | exact H.pull1 | exact H.pull2 | exact H.pull3 | exact H.pull4 | exact H.pull5 | exact H.pull6 | exact H.pull7); (case e => exact ⟨rfl, rfl, rfl, rfl⟩); (case S => exact (by first | exact gagg12 | exact gaggO11 | exact gaggO12 | exact gaggRG | exact gaggRP | exact gaggRec)); (case hn => exact rfl); (case h1 => exact rfl); (case ho => exact Nat.le_of_ble_eq_true rfl); (case hc => exact rfl))); clear H; intro _ H; (try simp only [over, List.set_cons_zero, List.set_cons_succ] at H))
    generalize ho : ops[k] = o at H ⊢
    have hsz : (ByteArray.mk o.s.toArray).size = o.s.length := by simp [ByteArray.size]
    have bad : ∀ w', Hp [] w w' [] → ∃ r, Ending.returned (.bool false) = .returned (.bool r) ∧ (r = true → Few12 ops) ∧ Hp [] w w' [] := fun w' K => ⟨false, rfl, (fun h => by cases h), K⟩
    have step : OpFew o → next ((k : Int) + 1) _ := fun hf => hnext (ops.length - (k + 1)) _ _ (by omega) ⟨k + 1, rfl, by omega, by simp, fun j hj hjk => by
      rcases Nat.lt_or_ge j k with h9 | h9
      · exact hall j hj h9
      · have : j = k := by omega
        subst this; rw [ho]; exact hf, H.drop⟩
    refine ⟨_, H.ld (o := 1) (by exact ⟨rfl, rfl, rfl, rfl⟩) gInt (.head _) rfl, br_dec (fun h2 => ⟨_, H.ld (o := 1) (by exact ⟨rfl, rfl, rfl, rfl⟩) gInt (.head _) rfl, br_dec (fun h3 => bad _ H.drop) (fun h3 => ?_)⟩) (fun h2 => ?_)⟩
    · refine ⟨_, H.ld (o := 8) (by exact ⟨rfl, rfl, rfl, rfl⟩) gInt (.head _) rfl, br_dec (fun _ => bad _ H.drop) (fun h4 => ⟨_, H.ld (o := 8) (by exact ⟨rfl, rfl, rfl, rfl⟩) gInt (.head _) rfl, br_dec (fun _ => bad _ H.drop) (fun h5 => ⟨_, H.ld (o := 7) (by exact ⟨rfl, rfl, rfl, rfl⟩) gStr (.head _) rfl, br_dec (fun _ => bad _ H.drop) (fun h6 => ⟨inR64.2 (by omega), step ⟨by omega, by omega, ?_⟩⟩)⟩)⟩)⟩
      omega
    · refine ⟨_, H.ld (o := 8) (by exact ⟨rfl, rfl, rfl, rfl⟩) gInt (.head _) rfl, br_dec (fun _ => bad _ H.drop) (fun h4 => ⟨_, H.ld (o := 8) (by exact ⟨rfl, rfl, rfl, rfl⟩) gInt (.head _) rfl, br_dec (fun _ => bad _ H.drop) (fun h5 => ⟨_, H.ld (o := 7) (by exact ⟨rfl, rfl, rfl, rfl⟩) gStr (.head _) rfl, br_dec (fun _ => bad _ H.drop) (fun h6 => ⟨inR64.2 (by omega), step ⟨by omega, by omega, ?_⟩⟩)⟩)⟩)⟩
      omega
  · refine ⟨_, rfl, fun h => ⟨fun o ho => ?_, ?_⟩, H⟩
    · obtain ⟨j, hj, rfl⟩ := List.getElem_of_mem ho
      exact hall j hj (by omega)
    · have := of_decide_eq_true h
      omega

end Go.Proofs.YtiagjabdfppgkaaGreat
/- Frames: Open; a desk's pool, opened and begun. -/
namespace Go.Vc
def fnTB (P : Program) (t : TypeId) : Bool := match P.underlying t with
  | some (.func _ _ _) => true
  | _ => false
theorem eqv_fnE {P : Program} {t : TypeId} {f : Fn} {fi ca : Array Value} {x y : Operand} {w : World} (h : fnTB P t = true) : Eqv P .eql t x y w (.func f fi ca) .nilFunc false := by
  have hd : ∃ a b c, P.underlying t = some (.func a b c) := by
    unfold fnTB at h
    split at h
    · rename_i a b c e; exact ⟨a, b, c, e⟩
    · cases h
  obtain ⟨a, b, c, hu⟩ := hd
  have h1 : ∀ d : Nat, (Op.equalIn (d + 1) t (.func f fi ca) .nilFunc).run P w = .ok false w := fun d => by
    simp [Op.equalIn, run_underlying hu]
  have h2 : (Op.equal t (.func f fi ca) .nilFunc).run P w = .ok false w := h1 9999
  have h3 : (binOp .eql t (.func f fi ca) .nilFunc).run P w = .ok (.bool false) w := by
    have e : binOp .eql t (.func f fi ca) .nilFunc = (do return .bool (← Op.equal t (.func f fi ca) .nilFunc)) := rfl
    rw [e]
    simp only [Sem.run_bind, h2, Result.andThen_ok, Sem.run_pure]
  have hg : (eqGuard .eql t x y (.func f fi ca) .nilFunc).run P w = .ok () w := rfl
  simp only [Eqv, Sem.run_bind, hg, Result.andThen_ok, h3]
end Go.Vc
namespace Go.Proofs.YtiagjabdfppgkaaGreat
open Go Go.Vc Go.Vault

def dk0 : Dk := ⟨2000, [Fl.none], [], [.create nData 0], 0, 0, false⟩
theorem new2000 : Dk.new 2000 = ⟨2000, [], [], [], 0, 0, false⟩ := new_room 2000 (by omega)
theorem nData_right : Vault.right nData = true := by decide
theorem create0 : (Dk.new 2000).create nData = (dk0, 0) := by
  have hc : Calm (Dk.new 2000) := by rw [new2000]; exact ⟨rfl, rfl, rfl⟩
  rw [create_calm hc nData_right, new2000]; rfl
theorem dd0 : DD dk0 := by
  refine ⟨⟨by show 2000 ≤ 65536; omega, fun f hf => ?_, by simp [dk0], fun c hc => ?_, by simp [dk0, Rising], by show (0 : Int) ≤ _; omega, by show (0 : Int) ≤ _; omega⟩, rfl, rfl, rfl, rfl, .inl ⟨rfl, rfl⟩⟩
  · rw [List.mem_singleton.1 hf]; exact Fl.none_ok
  · rw [List.mem_singleton.1 hc]
    exact ⟨by show 0 < 1; omega, by decide⟩
theorem len0 : dk0.len 0 = 0 := rfl
def poolN (x : DW) (kv many pages : Nat) : List Value := [.pointer (some ⟨x.b, 0, none⟩), .string nData, .int .i64 (many : Int), aheadV kv, .slice none 0 0, .int .i64 0, .int .i64 (pages : Int)]
theorem fopen_spec (x : DW) (d d' : Dk) (hok : x.Ok d) (hcase : (d = Dk.new 2000 ∧ d' = dk0) ∨ (DD d ∧ d.len 0 ≤ 1000 ∧ d' = d)) (many : Nat) (hm : 4 ≤ many ∧ many ≤ 64) (kv : Nat) (w : World) (st : Std w (dkL x d)) :
    Calls Tryz.prog 33 #[.pointer (some ⟨x.b, 0, none⟩), .string nData, .int .i64 (many : Int), aheadV kv] w fun e w' => ∃ (pb : Nat) (x' : DW), e = .returned (.tuple #[.pointer (some ⟨pb, 0, none⟩), .int .i64 0]) ∧ x'.b = x.b ∧ x'.Ok d' ∧ Hp (feet (dkL x d)) w w' (.blk pb (poolN x kv many ((d'.len 0 + 7) / 8)) 70 :: dkL x' d') := by
  apply fopen.ok; unfold fopen.vc
  have H := Hp.startL st
  generalize hB : feet (dkL x d) = B at H ⊢
  refine br_dec (fun h => by omega) (fun _ => br_dec (fun h => by omega) (fun _ => ⟨_, eqv_fnE (by kernel_rfl), br_mk (fun h => by cases h) (fun _ => ?_)⟩))
  refine callV (size_spec x d hok nData w st) ?_
  rintro e w1 ⟨rfl, H'⟩
  replace H := H.ext0 H'; clear H'
  have fin : ∀ (x' : DW) (w2 : World), x'.b = x.b → x'.Ok d' → DD d' → d'.len 0 ≤ 1000 → Hp B w w2 (dkL x' d') → CallV Tryz.prog 18 [.pointer (some ⟨x.b, 0, none⟩), .string nData] w2 fun e w' => ∃ i, e = .returned (.int .i64 i) ∧ inR .i64 (i + 8) ∧ inR .i64 (i + 8 - 1) ∧ (8 : Int) ≠ 0 ∧ inR .i64 (Int.tdiv (i + 8 - 1) 8) ∧ ∀ (b : Nat) (w1 : World), New w' (.cells #[.pointer (some ⟨x.b, 0, none⟩), .string nData, .int .i64 (many : Int), .func (.func 34) #[] #[.pointer (some ⟨kv, 0, none⟩)], .slice none 0 0, .int .i64 0, .int .i64 (Int.tdiv (i + 8 - 1) 8)] 70) b w1 → ∃ (pb : Nat) (x' : DW), Ending.returned (.tuple #[.pointer (some ⟨b, 0, none⟩), .int .i64 0]) = .returned (.tuple #[.pointer (some ⟨pb, 0, none⟩), .int .i64 0]) ∧ x'.b = x.b ∧ x'.Ok d' ∧ Hp B w w1 (.blk pb (poolN x kv many ((d'.len 0 + 7) / 8)) 70 :: dkL x' d') := by
    intro x' w2 hb hx' hdd hlen K
    rw [← hb]
    refine callV (size_spec x' d' hx' nData w2 K.std) ?_
    rintro e w3 ⟨rfl, K'⟩
    replace K := K.ext0 K'; clear K'
    have hs := hdd.size
    have et : Int.tdiv (d'.size nData + 8 - 1) 8 = (((d'.len 0 + 7) / 8 : Nat) : Int) := by
      rw [hs, show (d'.len 0 : Int) + 8 - 1 = ((d'.len 0 + 7 : Nat) : Int) by omega]
      rfl
    refine ⟨_, rfl, inR64.2 (by omega), inR64.2 (by omega), by omega, by rw [et]; exact inR64.2 (by omega), ?_⟩
    intro b w4 hn
    rw [et] at hn
    exact ⟨b, x', rfl, rfl, hx', by rw [poolN, ← hb]; exact K.new (cs := [_, _, _, _, _, _, _]) (by exact ⟨rfl, rfl, rfl, rfl⟩) hn⟩
  refine ⟨_, rfl, br_dec (fun hneg => ?_) (fun hpos => ?_)⟩
  · rcases hcase with ⟨rfl, rfl⟩ | ⟨hdd, _, _⟩
    · refine callV (create_spec x _ hok (by rw [new2000]; simp) (by rw [new2000]; simp) nData w1 H.std) ?_
      rw [create0]
      rintro e w2 ⟨rfl, x', hx'b, hx', H'⟩
      replace H := H.useAll H'; clear H'
      exact ⟨_, rfl, br_ndec (fun h => absurd rfl h) (fun _ => fin x' w2 hx'b hx' dd0 (by rw [len0]; omega) H)⟩
    · rw [hdd.size] at hneg; omega
  · rcases hcase with ⟨rfl, rfl⟩ | ⟨hdd, hl, rfl⟩
    · exfalso
      apply hpos
      rw [new2000]
      decide
    · exact fin x w1 rfl hok hdd hl H
/-- what a desk is ahead of its pool -/
def deskN (kb : Nat) (x : DW) (d : Dk) (p0 aa : Option Addr) (ac : Nat) (asked : List Nat) (deny : Bool) (got : List (Option Addr)) : List Asn :=
  .blk kb ([.pointer (some ⟨x.b, 0, none⟩), .pointer p0, .slice aa asked.length ac, .bool deny] ++ got.map .pointer) 40 :: .own 3 1 aa asked.length ac (Sl.intC asked) :: dkL x d
def stN (d : Dk) (many : Nat) (asked : List Nat) (deny : Bool) : St := ⟨d, many, [], 0, (d.len 0 + 7) / 8, asked, deny⟩
theorem dopen_spec (kb : Nat) (x : DW) (d d' : Dk) (hok : x.Ok d) (hcase : (d = Dk.new 2000 ∧ d' = dk0) ∨ (DD d ∧ d.len 0 ≤ 1000 ∧ d' = d)) (p0 aa : Option Addr) (ac : Nat) (asked : List Nat) (deny : Bool) (got : List (Option Addr)) (hg : got.length = 12) (many : Nat) (hm : 4 ≤ many ∧ many ≤ 64) (w : World) (st : Std w (deskN kb x d p0 aa ac asked deny got)) :
    Calls Tryz.prog 13 #[.pointer (some ⟨kb, 0, none⟩), .int .i64 (many : Int)] w fun e w' => e = .returned (.pointer (some ⟨kb, 0, none⟩)) ∧ ∃ (y : GW) (x' : DW), y.kb = kb ∧ y.got = List.replicate 12 none ∧ y.fs = [] ∧ x'.b = x.b ∧ x'.Ok d' ∧ Hp (feet (deskN kb x d p0 aa ac asked deny got)) w w' (stL y x' (stN d' many asked deny)) := by
  apply dopen.ok; unfold dopen.vc
  have H := Hp.startL st
  generalize hB : feet (deskN kb x d p0 aa ac asked deny got) = B at H ⊢
  unfold deskN at H
  intro kv w1 hn
  replace H := H.new (cs := [.pointer (some ⟨kb, 0, none⟩)]) (by exact ⟨rfl, rfl, rfl, rfl⟩) hn; clear hn
  refine ⟨_, H.ld (o := 0) (cs := [.pointer (some ⟨kb, 0, none⟩)]) (by exact ⟨rfl, rfl, rfl, rfl⟩) gPK (.head _) rfl, onP_mk rfl ⟨_, H.ld (o := 0) (cs := [.pointer (some ⟨x.b, 0, none⟩), .pointer p0, .slice aa asked.length ac, .bool deny] ++ got.map .pointer) (by exact ⟨rfl, rfl, rfl, rfl⟩) gPD (.tail _ (.head _)) rfl, ?_⟩⟩
  have H2 : Hp B w w1 (dkL x d ++ [.blk kv [.pointer (some ⟨kb, 0, none⟩)] 26, .blk kb ([.pointer (some ⟨x.b, 0, none⟩), .pointer p0, .slice aa asked.length ac, .bool deny] ++ got.map .pointer) 40, .own 3 1 aa asked.length ac (Sl.intC asked)]) := H.perm (by (refine perm_cnt fun ff gg h0 hc ha hpm => ?_; simp only [ha, hc, h0]; omega))
  clear H
  refine callV (fopen_spec x d d' hok hcase many hm kv w1 H2.std1) ?_
  rintro e w2 ⟨pb, x', rfl, hx'b, hx', H'⟩
  have H := H2.useL H'
  clear H2 H'
  refine ⟨_, _, rfl, br_ndec (fun h => absurd rfl h) (fun _ => ⟨_, eqvP, br_mk (fun h => by cases h) (fun _ => ?_)⟩)⟩
  have H2 : Hp B w w2 (.blk kb ([.pointer (some ⟨x.b, 0, none⟩), .pointer p0, .slice aa asked.length ac, .bool deny] ++ got.map .pointer) 40 :: .blk kv [.pointer (some ⟨kb, 0, none⟩)] 26 :: .own 3 1 aa asked.length ac (Sl.intC asked) :: (.blk pb (poolN x kv many ((d'.len 0 + 7) / 8)) 70 :: dkL x' d')) := H.perm (by (refine perm_cnt fun ff gg h0 hc ha hpm => ?_; simp only [ha, hc, h0]; omega))
  clear H
  refine ⟨_, H2.ld (o := 0) (cs := [.pointer (some ⟨kb, 0, none⟩)]) (by exact ⟨rfl, rfl, rfl, rfl⟩) gPK (.tail _ (.head _)) rfl, _, H2.ld (o := 0) (cs := [.pointer (some ⟨kb, 0, none⟩)]) (by exact ⟨rfl, rfl, rfl, rfl⟩) gPK (.tail _ (.head _)) rfl, ?_⟩
  refine onP_mk rfl (Hp.st (o := 1) H2 (by exact ⟨rfl, rfl, rfl, rfl⟩) gPP rfl rfl (by simp) (cs' := [.pointer (some ⟨x.b, 0, none⟩), .pointer (some ⟨pb, 0, none⟩), .slice aa asked.length ac, .bool deny] ++ got.map .pointer) rfl ?_)
  clear H2; intro w3 H
  refine ⟨H.ld (o := 0) (cs := [.pointer (some ⟨kb, 0, none⟩)]) (by exact ⟨rfl, rfl, rfl, rfl⟩) gPK (.tail _ (.head _)) rfl, ?_⟩
  have hgl : (got.map Value.pointer).length = 12 := by simp [hg]
  refine onP_mk rfl (Hp.stA (o := 4) H (by exact ⟨rfl, rfl, rfl, rfl⟩) gagg12 (vs := (List.replicate 12 (none : Option Addr)).map .pointer) (by simp) (by decide) (by simp [hg]) (cs' := [.pointer (some ⟨x.b, 0, none⟩), .pointer (some ⟨pb, 0, none⟩), .slice aa asked.length ac, .bool deny] ++ (List.replicate 12 (none : Option Addr)).map .pointer) ?_ ?_)
  · have := over_app ((List.replicate 12 (none : Option Addr)).map Value.pointer) [.pointer (some ⟨x.b, 0, none⟩), .pointer (some ⟨pb, 0, none⟩), .slice aa asked.length ac, .bool deny] (got.map Value.pointer) [] (by simp [hg])
    rw [List.append_nil, List.append_nil] at this
    exact this
  clear H; intro w4 H
  refine ⟨_, H.ld (o := 0) (cs := [.pointer (some ⟨kb, 0, none⟩)]) (by exact ⟨rfl, rfl, rfl, rfl⟩) gPK (.tail _ (.head _)) rfl, rfl, ⟨kb, kv, pb, aa, ac, none, 0, List.replicate 12 none, []⟩, x', rfl, rfl, rfl, hx'b, hx', ?_⟩
  have H3 := H.nilS 61 1
  refine H3.perm ?_
  rw [stL, poolA, fsA, deskL, poolC, deskC]
  simp only [stN, poolN, hx'b]
  show List.Perm (.own 61 1 none 0 0 [] :: .blk kb ([.pointer (some ⟨x.b, 0, none⟩), .pointer (some ⟨pb, 0, none⟩), .slice aa asked.length ac, .bool deny] ++ (List.replicate 12 (none : Option Addr)).map .pointer) 40 :: .blk kv [.pointer (some ⟨kb, 0, none⟩)] 26 :: .own 3 1 aa asked.length ac (Sl.intC asked) :: .blk pb [.pointer (some ⟨x.b, 0, none⟩), .string nData, .int .i64 (many : Int), aheadV kv, .slice none 0 0, .int .i64 0, .int .i64 (((d'.len 0 + 7) / 8 : Nat) : Int)] 70 :: dkL x' d')
    (.blk pb [.pointer (some ⟨x.b, 0, none⟩), .string nData, .int .i64 (many : Int), aheadV kv, .slice none 0 0, .int .i64 0, .int .i64 (((d'.len 0 + 7) / 8 : Nat) : Int)] 70 :: .own 61 1 none 0 0 [] :: ([.blk kb ([.pointer (some ⟨x.b, 0, none⟩), .pointer (some ⟨pb, 0, none⟩), .slice aa asked.length ac, .bool deny] ++ (List.replicate 12 (none : Option Addr)).map .pointer) 40, .blk kv [.pointer (some ⟨kb, 0, none⟩)] 26, .own 3 1 aa asked.length ac (Sl.intC asked)] ++ ([] ++ dkL x' d')))
  (refine perm_cnt fun ff gg h0 hc ha hpm => ?_; simp only [ha, hc, h0]; omega)
theorem begun_spec (many : Nat) (hm : 4 ≤ many ∧ many ≤ 64) (w : World) :
    Calls Tryz.prog 6 #[.int .i64 (many : Int)] w fun e w' => ∃ (y : GW) (x : DW), e = .returned (.pointer (some ⟨y.kb, 0, none⟩)) ∧ y.got = List.replicate 12 none ∧ y.fs = [] ∧ x.Ok dk0 ∧ Hp [] w w' (stL y x (stN dk0 many [] false)) := by
  apply begun.ok; unfold begun.vc
  refine callV (new_spec 2000 w) ?_
  rintro e w1 ⟨x, rfl, hx, H⟩
  refine ⟨_, rfl, ?_⟩
  intro kb w2 hn
  replace H := (H.new (cs := [.pointer (some ⟨x.b, 0, none⟩), .pointer none, .slice none 0 0, .bool false] ++ (List.replicate 12 (none : Option Addr)).map .pointer) (by exact ⟨rfl, rfl, rfl, rfl⟩) hn); clear hn
  refine ⟨_, H.ld (o := 0) (by exact ⟨rfl, rfl, rfl, rfl⟩) gPD (.head _) rfl, _, eqvD, br_mk (fun h => by cases h) (fun _ => ?_)⟩
  have H2 : Hp [] w w2 (deskN kb x (Dk.new 2000) none none 0 [] false (List.replicate 12 none)) := (H.nilS 3 1).pull1
  clear H
  refine callV (dopen_spec kb x (Dk.new 2000) dk0 hx (.inl ⟨rfl, rfl⟩) none none 0 [] false (List.replicate 12 none) (by simp) many hm w2 H2.std) ?_
  rintro e w3 ⟨rfl, y, x', hk, hg, hf, hb, hx', H'⟩
  exact ⟨_, rfl, y, x', by rw [hk], hg, hf, hx', H2.useAll H'⟩

/-! ### what is so at first -/
theorem zpage : ((List.range 8).flatMap fun _ => zsec) = (Sl.gZ 4096).bs := by kernel_rfl
theorem file0 (n : Nat) : InFile dk0 n ([], 0) := by
  refine ⟨Sl.gZ 4096, Sl.gZ_rep, ?_⟩
  rw [← zpage]
  rfl
theorem inv0 (many : Nat) (hm : 4 ≤ many ∧ many ≤ 64) (deny : Bool) : Inv 0 (stN dk0 many [] deny) pg0 pin0 :=
  ⟨⟨by simp [stN], by simp [stN], by simp [stN], fun _ _ => rfl, fun n _ => file0 n⟩, dd0, by show dk0.len 0 ≤ _; rw [len0]; omega, by simp [stN], by show (dk0.len 0 + 7) / 8 ≤ 12; rw [len0]; omega, hm, by simp [stN], .inl rfl, by simp [stN], by simp [stN]⟩
theorem ah0 (many : Nat) (deny : Bool) : Ah (stN dk0 many [] deny) := fun n => ⟨([], 0), file0 n, .inl rfl⟩
end Go.Proofs.YtiagjabdfppgkaaGreat
/- Frames: alive; a call on a desk. -/
namespace Go.Proofs.YtiagjabdfppgkaaGreat
open Go Go.Vc Go.Vault

theorem mem_kb (y : GW) (x : DW) (s : St) : Asn.blk y.kb (deskC y x s) 40 ∈ stL y x s := mem_desk (.head _)
/-- the desk's pool -/
theorem ldPool {y : GW} {x : DW} {s : St} {B : List Nat} {w0 w w' : World} {L : List Asn} (H : Hp B w0 w L) (e : Eqw w w') (m : Asn.blk y.kb (deskC y x s) 40 ∈ L) : Ld Tryz.prog 36 w' ⟨y.kb, 1, none⟩ (.pointer (some ⟨y.pb, 0, none⟩)) := H.ld (o := 1) (cs := deskC y x s) e gPP m rfl
theorem page_open {y : GW} {x : DW} {s : St} {j : Nat} {w : Nat × Nat} {f : Fr} (hw : y.fs[j]? = some w) (hf : s.fs[j]? = some f) (hl : y.fs.length = s.fs.length) :
    (stL y x s).Perm (pageA w.2 f.pg :: (.blk w.1 (frC w f) 63 :: stK y x s j)) ∧ ∀ P, (stL y x { s with fs := s.fs.set j { f with pg := P } }).Perm (pageA w.2 P :: (.blk w.1 (frC w f) 63 :: stK y x s j)) :=
  ⟨(st_open hw hf).trans (.swap _ _ _), fun P => (st_turn1 (x := x) hw (List.getElem?_eq_some_iff.1 hf).1 hl { f with pg := P }).trans (.swap _ _ _)⟩
structure DI (C : Nat) (y : GW) (x : DW) (s : St) (pg : Nat → AP) (pin : Nat → Nat) : Prop where
  inv : Inv C s pg pin
  dk : x.Ok s.d
  len : y.fs.length = s.fs.length
  got : y.got.length = 12
  good : ∀ n, ∃ g, Sl.Rep g (pg n).1 (pg n).2
theorem DI.up {C : Nat} {y : GW} {x : DW} {s : St} {pg : Nat → AP} {pin : Nat → Nat} (h : DI C y x s pg pin) : DI (C + 1) y x s pg pin := ⟨h.inv.up, h.dk, h.len, h.got, h.good⟩
theorem good_upd {pg : Nat → AP} (h : ∀ n, ∃ g, Sl.Rep g (pg n).1 (pg n).2) (n : Nat) {P : AP} {g : Sl.Pg} (hR : Sl.Rep g P.1 P.2) : ∀ m, ∃ g, Sl.Rep g (upd pg n P m).1 (upd pg n P m).2 := fun m => by
  by_cases e : m = n
  · subst e; rw [upd_self]; exact ⟨g, hR⟩
  · rw [upd_ne _ _ e]; exact h m
/-- a page that is pinned, opened; laid back as another -/
theorem page_turn {C : Nat} {y : GW} {x : DW} {s : St} {pg : Nat → AP} {pin : Nat → Nat} (I : DI C y x s pg pin) {n a : Nat} (hPA : PA y s n a) (hp : 0 < pin n) {B : List Nat} {w0 w : World} (H : Hp B w0 w (stL y x s)) :
    ∃ (g : Sl.Pg) (R : List Asn), Sl.Rep g (pg n).1 (pg n).2 ∧ Hp B w0 w (Sl.pgA a g :: R) ∧ ∀ (w2 : World) (g' : Sl.Pg) (P : AP), Sl.Rep g' P.1 P.2 → Hp B w0 w2 (Sl.pgA a g' :: R) →
      ∃ s', Hp B w0 w2 (stL y x s') ∧ DI (C + 1) y x s' (upd pg n P) pin ∧ Mv s s' ∧ Keep pin y s y s' ∧ PA y s' n a ∧ s'.pages = s.pages ∧ s'.fs.map (·.n) = s.fs.map (·.n) ∧ s'.asked = s.asked ∧ s'.d = s.d := by
  obtain ⟨j, wf, f, hw, hf, hfn, rfl⟩ := hPA
  subst hfn
  have hmem := List.mem_of_getElem? hf
  have hj := (List.getElem?_eq_some_iff.1 hf).1
  obtain ⟨p1, p2⟩ := page_open (x := x) hw hf I.len
  obtain ⟨g, hR, H2⟩ := Hp.openP (H.perm p1)
  have hfp := (I.inv.core.held f hmem).1
  have hpin := I.inv.pin hmem
  rw [hfp] at hR
  refine ⟨g, _, hR, H2, fun w2 g' P hR' K => ?_⟩
  have K2 := (Hp.shutP (P := P) hR' K).perm (p2 P).symm
  have hc := (I.inv.core.perm (at_perm hf)).page P (b := f.dirty) (u := f.used) (.inr (by omega))
  refine ⟨{ s with fs := s.fs.set j { f with pg := P } }, K2, ⟨I.inv.turn hf rfl (by have := I.inv.cp f hmem; show f.pins ≤ _; omega) hc, I.dk, by show _ = (s.fs.set j _).length; rw [List.length_set]; exact I.len, I.got, good_upd I.good f.n hR'⟩, mv_fs _ _, turn_keep hf rfl, ⟨j, wf, { f with pg := P }, hw, by show (s.fs.set j _)[j]? = _; rw [List.getElem?_set_self hj], rfl, rfl⟩, rfl, ?_, rfl, rfl⟩
  show (s.fs.set j _).map (·.n) = _
  rw [List.map_set]
  exact set_same (by rw [List.getElem?_map, hf]; rfl)

theorem calm_err {s : St} {pin : Nat → Nat} {c : Int} (h1 : s.deny = false) (h2 : s.d.denied = 0) (h3 : pinN pin < s.many) (h : (c = 120 ∧ s.many ≤ pinN pin) ∨ Trouble s c) : False := by
  rcases h with ⟨_, h⟩ | h
  · omega
  · exact h.not h1 h2
theorem pinN0 : pinN pin0 = 0 := by simp [pinN, pin0]
theorem one_fs {fs : List Fr} (h : fs.map (·.n) = [0]) : ∃ F, fs = [F] ∧ F.n = 0 := by
  have hl : fs.length = 1 := by rw [← List.length_map (f := Fr.n), h]; rfl
  match fs, hl with
  | [F], _ => exact ⟨F, rfl, by simpa using h⟩
set_option maxHeartbeats 2000000 in
theorem alive_spec (w : World) : Calls Tryz.prog 5 #[] w fun e w' => e = .returned (.bool true) ∧ Hp [] w w' [] := by
  apply alive.ok; unfold alive.vc
  refine callV (begun_spec 4 (by omega) w) ?_
  rintro e w1 ⟨y, x, rfl, hg, hf, hx, H⟩
  have I0 := inv0 4 (by omega) false
  generalize hs0 : stN dk0 4 [] false = s at I0 H
  have hsf : s.fs = [] := by rw [← hs0]; rfl
  have hsa : s.asked = [] := by rw [← hs0]; rfl
  have hsd : s.deny = false := by rw [← hs0]; rfl
  have hsn : s.d.denied = 0 := by rw [← hs0]; rfl
  have hsm : s.many = 4 := by rw [← hs0]; rfl
  have hsp : s.pages = 0 := by rw [← hs0]; rfl
  have hxs : x.Ok s.d := by rw [← hs0]; exact hx
  clear hs0
  have hyl : y.fs.length = s.fs.length := by rw [hf, hsf]; rfl
  have hg12 : y.got.length = 12 := by rw [hg]; simp
  refine ⟨_, rfl, _, eqvK, br_mk (fun h => by cases h) (fun _ => onP_mk rfl ⟨_, ldPool H (by exact ⟨rfl, rfl, rfl, rfl⟩) (mem_kb y x s), ?_⟩)⟩
  refine callV (get_spec (C := 0) (by omega) y x s I0 hxs hyl hg12 0 (by omega) w1 H.std) ?_
  rintro e w2 ⟨y1, x1, s1, hd1, H', hfs1, hres⟩
  replace H := H.useAll H'; clear H'
  obtain ⟨hmap, hask⟩ := hfs1 hsf
  have hm1 := hd1.mv
  have hc1 := hm1.calm hsn
  rcases hres with ⟨a, rfl, hPA, I1, hpg1, _, _⟩ | ⟨c, rfl, _, hc0, _, _, herr⟩
  rotate_left
  · exact (calm_err hsd hsn (by rw [pinN0]; omega) herr).elim
  refine ⟨_, _, rfl, br_ndec (fun h => absurd rfl h) (fun _ => ⟨_, eqvG, br_mk (fun h => by cases h) (fun _ => ?_)⟩)⟩
  have D1 : DI 1 y1 x1 s1 pg0 (upd pin0 0 (pin0 0 + 1)) := ⟨I1, hd1.dk, hd1.len, by rw [hd1.seat.got]; exact hg12, fun n => ⟨Sl.gZ 4096, Sl.gZ_rep⟩⟩
  obtain ⟨g, R, hR, K, hback⟩ := page_turn D1 hPA (by rw [upd_self]; omega) H
  clear H
  refine callV (Sl.insert_any hR (K.blk (.head _)) [97]) ?_
  rintro e w3 ⟨rfl, g', hR', H'⟩
  have K2 := Hp.use11 (a := Sl.pgA a g) K H'
  clear K H'
  obtain ⟨s2, H, D2, hm2, hk2, hPA2, hpg2, hfs2, has2, hd2⟩ := hback w3 g' (_, _) hR' K2
  clear hback K2
  have epb := hd1.seat.pb
  have ekb := hd1.seat.kb
  rw [← ekb]
  refine ⟨_, _, rfl, onP_mk rfl ⟨_, ldPool H (by exact ⟨rfl, rfl, rfl, rfl⟩) (mem_kb y1 x1 s2), ?_⟩⟩
  refine callV (fdone_spec (C := 2) (by omega) y1 x1 s2 D2.inv D2.dk D2.len D2.got 0 true (.inl rfl) w3 H.std) ?_
  rintro e w4 ⟨s3, r, rfl, hd3, H', hpg3, hR3, hX3⟩
  replace H := H.useAll H'; clear H'
  rcases hR3 with ⟨rfl, m, hm0, _, I3⟩ | ⟨rfl, hno, _⟩
  rotate_left
  · have := hno 0 rfl
    rw [upd_self] at this; omega
  have hm0 : m = 0 := by omega
  subst hm0
  have hd3len := hd3.len
  have I3' : Inv 3 s3 (upd pg0 0 ((Sl.ains (pg0 0).1 [97]).1, (pg0 0).2)) pin0 := by
    have e : upd (upd pin0 0 (pin0 0 + 1)) 0 (upd pin0 0 (pin0 0 + 1) 0 - 1) = pin0 := by
      funext n
      by_cases h : n = 0
      · subst h; rw [upd_self, upd_self]; rfl
      · rw [upd_ne _ _ h, upd_ne _ _ h]
    rw [e] at I3; exact I3
  refine ⟨_, rfl, onP_mk rfl ⟨_, ldPool H (by exact ⟨rfl, rfl, rfl, rfl⟩) (mem_kb y1 x1 s3), ?_⟩⟩
  have hmap3 : s3.fs.map (·.n) = [0] := by rw [hX3.fs, hfs2]; exact hmap
  obtain ⟨F, hF, hFn⟩ := one_fs hmap3
  have hFd : F.dirty = true := hX3.dirty rfl rfl F (by rw [hF]; exact .head _) (by rw [hFn]; rfl)
  have hn1 : (nums isDirty s3.fs).length = 1 := by rw [hF]; simp [nums, isDirty, hFd]
  refine callV (dirty_spec y1 x1 s3 (I3'.stOk (by omega) hd3.dk hd3len (by exact D2.got)) w4 H.std) ?_
  rintro e w5 ⟨a5, c5, rfl, H'⟩
  replace H := H.chg0 H'.chg; clear H'
  refine ⟨_, _, _, rfl, onP_mk rfl ⟨_, ldPool H (by exact ⟨rfl, rfl, rfl, rfl⟩) (mem_kb y1 x1 s3), ?_⟩⟩
  refine callV (fflush_spec (C := 3) (by omega) y1 x1 s3 I3' hd3.dk hd3len D2.got w5 H.std) ?_
  rintro e w6 ⟨y4, x4, s4, c, hd4, H', rfl, hpg4, I4, hres⟩
  replace H := H.useAll H'; clear H'
  have hm3 : Mv s s3 := (hm1.trans hm2).trans hd3.mv
  rcases hres with ⟨_, h⟩ | ⟨rfl, _, hcl, hask4, hlow⟩ | ⟨_, hT⟩
  · rw [pinN0] at h; omega
  rotate_left
  · exact (hT.not (by rw [hm3.deny]; exact hsd) (hm3.calm hsn).1).elim
  have ekb4 := hd4.seat.kb
  have epb4 := hd4.seat.pb
  rw [← ekb4]
  refine ⟨_, rfl, br_true ?_⟩
  rw [hn1]
  refine br_dec (fun _ => br_dec (fun _ => ?_) (fun h => absurd rfl h)) (fun h => absurd rfl h)
  refine onP_mk rfl ⟨_, ldPool H (by exact ⟨rfl, rfl, rfl, rfl⟩) (mem_kb y4 x4 s4), ?_⟩
  have hg4 : y4.got.length = 12 := by rw [hd4.seat.got]; exact D2.got
  refine callV (dirty_spec y4 x4 s4 (I4.stOk (by omega) hd4.dk hd4.len hg4) w6 H.std) ?_
  rintro e w7 ⟨a7, c7, rfl, H'⟩
  replace H := H.chg0 H'.chg; clear H'
  have hn0 : (nums isDirty s4.fs).length = 0 := by
    have : s4.fs.filter isDirty = [] := List.filter_eq_nil_iff.2 fun f hf => by simp [isDirty, (hcl.clean f hf).1]
    rw [nums, this]; rfl
  rw [hn0]
  refine ⟨_, _, _, rfl, br_dec (fun _ => ?_) (fun h => absurd rfl h)⟩
  refine onP_mk rfl ⟨_, H.ld (o := 0) (cs := deskC y4 x4 s4) (by exact ⟨rfl, rfl, rfl, rfl⟩) gPD (mem_kb y4 x4 s4) rfl, ?_⟩
  have hsub : Std w7 (dkL x4 s4.d) := by
    have := H
    rw [stL] at this
    exact this.drop.drop |>.perm (by rw [← List.append_assoc]; exact List.perm_append_comm) |>.std1
  refine callV (size_spec x4 s4.d hd4.dk nData w7 hsub) ?_
  rintro e w8 ⟨rfl, H'⟩
  replace H := H.ext0 H'; clear H'
  have hlen8 : s4.d.len 0 = 8 := by
    have h1 := I4.len
    have h2 := hlow F (by rw [hF]; exact .head _) hFd
    rw [hpg4, hpg3, hpg2, hpg1, hsp] at h1
    omega
  have hsz := I4.dd.size
  rw [hlen8] at hsz
  rw [hsz]
  refine ⟨_, rfl, br_dec (fun _ => ?_) (fun h => absurd rfl h)⟩
  have h1 : s4.asked.length = 1 := by rw [hask4, hX3.asked, has2, hask, hsa, hn1]; rfl
  refine onP_mk rfl ⟨_, _, _, H.ld (o := 2) (cs := deskC y4 x4 s4) (by exact ⟨rfl, rfl, rfl, rfl⟩) gSI (mem_kb y4 x4 s4) rfl, ?_, H.done⟩
  rw [h1]; rfl
end Go.Proofs.YtiagjabdfppgkaaGreat
/- Frames: a call on a desk. -/
namespace Go.Proofs.YtiagjabdfppgkaaGreat
open Go Go.Vc Go.Vault

theorem get_out (p : Value) (pa : Option Addr) (hp : p = .pointer pa) (n : Int) (hn : n < 0 ∨ 4096 ≤ n) (w : World) :
    Calls Tryz.prog 15 #[p, .int .i64 n] w fun e w' => e = .returned (.tuple #[.pointer none, .int .i64 121]) ∧ w' = w := by
  subst hp
  apply fget.ok; unfold fget.vc
  exact br_dec (fun h => ⟨rfl, rfl⟩) (fun h => br_dec (fun h => ⟨rfl, rfl⟩) (fun h => by omega))
theorem set_out (y : GW) (x : DW) (s : St) (ok : StOk y x s) (q : Option Addr) (n : Int) (hn : n < 0 ∨ 4096 ≤ n) (w : World) (st : Std w (stL y x s)) :
    Calls Tryz.prog 50 #[.pointer (some ⟨y.pb, 0, none⟩), .int .i64 n, .pointer q] w fun e w' => e = .returned (.int .i64 121) ∧ w' = w := by
  apply fset.ok; unfold fset.vc
  refine callV (ffind_spec y x s ok n w st) ?_
  rintro e w1 ⟨rfl, rfl⟩
  exact ⟨_, rfl, br_dec (fun h => ⟨rfl, rfl⟩) (fun h => br_dec (fun h => ⟨rfl, rfl⟩) (fun h => by omega))⟩
theorem refDo_out {many : Nat} {pg : Nat → AP} {pin : Nat → Nat} {o : Op12} (hk : 0 ≤ o.kind ∧ o.kind ≤ 4 ∧ o.kind ≠ 3) (hn : ¬ (0 ≤ o.n ∧ o.n < 12)) : refDo many pg pin o = (pg, pin, if o.kind = 1 ∨ o.kind = 2 then 1 else 121) := by
  rw [refDo, if_neg (by omega), if_neg hk.2.2, if_pos hn]
theorem refDo_none {many : Nat} {pg : Nat → AP} {pin : Nat → Nat} {o : Op12} (hk : ¬ (0 ≤ o.kind ∧ o.kind ≤ 4)) : refDo many pg pin o = (pg, pin, 0) := by
  rw [refDo, if_pos (by omega)]
theorem refDo_flush {many : Nat} {pg : Nat → AP} {pin : Nat → Nat} {o : Op12} (hk : o.kind = 3) : refDo many pg pin o = (pg, pin, if 0 < pinN pin then 120 else 0) := by
  rw [refDo, if_neg (by omega), if_pos hk]
theorem refDo_in {many : Nat} {pg : Nat → AP} {pin : Nat → Nat} {o : Op12} {k : Nat} (hk : 0 ≤ o.kind ∧ o.kind ≤ 4 ∧ o.kind ≠ 3) (hn : o.n = (k : Int)) (h12 : k < 12) : refDo many pg pin o = if o.kind = 0 then (if pin k = 0 ∧ many ≤ pinN pin then (pg, pin, 120) else (pg, upd pin k (pin k + 1), 0))
      else if o.kind = 1 then (if pin k = 0 then (pg, pin, 1) else (pg, upd pin k (pin k - 1), 0))
      else if o.kind = 2 then (if pin k = 0 then (pg, pin, 1) else (upd pg k ((Sl.ado (pg k).1 (pg k).2 o.o).1, (Sl.ado (pg k).1 (pg k).2 o.o).2.1), pin, (Sl.ado (pg k).1 (pg k).2 o.o).2.2.2))
      else if 0 < pin k ∨ many ≤ pinN pin then (pg, pin, 120) else (upd pg k ((Sl.aput [] 0 o.s).1, o.stamp.toNat), pin, 0) := by
  have e : o.n.toNat = k := by omega
  rw [refDo, if_neg (by omega), if_neg hk.2.2, if_neg (by omega), e]
/-- what an answer is: the document's, or the disk's -/
structure DoesP (C : Nat) (y : GW) (x : DW) (s : St) (pg : Nat → AP) (pin : Nat → Nat) (o : Op12) (y1 : GW) (x1 : DW) (s1 : St) (c : Int) : Prop where
  kb : y1.kb = y.kb
  kv : y1.kv = y.kv
  pb : y1.pb = y.pb
  xb : x1.b = x.b
  mv : Mv s s1
  keep : Keep pin y s y1 s1
  got : (o.kind = 0 ∧ c = 0 ∧ ∃ n a : Nat, o.n = (n : Int) ∧ n < 12 ∧ y1.got = y.got.set n (some ⟨a, 0, none⟩) ∧ PA y1 s1 n a) ∨ (y1.got = y.got ∧ ¬ (o.kind = 0 ∧ c = 0))
  pages : s1.pages = if c = 0 ∧ (o.kind = 0 ∨ o.kind = 4) then max s.pages (o.n.toNat + 1) else s.pages
  inn : c = 0 → o.kind = 0 ∨ o.kind = 4 → 0 ≤ o.n ∧ o.n < 12
  res : (c = (refDo s.many pg pin o).2.2 ∧ DI (C + 1) y1 x1 s1 (refDo s.many pg pin o).1 (refDo s.many pg pin o).2.1) ∨
    (Trouble s c ∧ c ≠ (refDo s.many pg pin o).2.2 ∧ DI (C + 1) y1 x1 s1 pg pin)
set_option maxHeartbeats 4000000 in
theorem does_spec {C : Nat} (hC : C ≤ 900) (y : GW) (x : DW) (s : St) {pg : Nat → AP} {pin : Nat → Nat} (I : DI C y x s pg pin) (o : Op12) (hf : OpFew o) (hgot : o.kind = 2 → ∀ n : Nat, o.n = (n : Int) → n < 12 → 0 < pin n ∧ ∃ a, y.got[n]? = some (some ⟨a, 0, none⟩) ∧ PA y s n a) (w : World) (st : Std w (stL y x s)) :
    Calls Tryz.prog 21 #[.pointer (some ⟨y.kb, 0, none⟩), op12V o] w fun e w' => ∃ (y1 : GW) (x1 : DW) (s1 : St) (c : Int), e = .returned (.int .i64 c) ∧ Hp (feet (stL y x s)) w w' (stL y1 x1 s1) ∧ DoesP C y x s pg pin o y1 x1 s1 c := by
  obtain ⟨R, hR⟩ : ∃ R : Ending → World → Prop, R = fun e w' => ∃ (y1 : GW) (x1 : DW) (s1 : St) (c : Int), e = .returned (.int .i64 c) ∧ Hp (feet (stL y x s)) w w' (stL y1 x1 s1) ∧ DoesP C y x s pg pin o y1 x1 s1 c := ⟨_, rfl⟩
  rw [← hR]
  have done : ∀ (y1 : GW) (x1 : DW) (s1 : St) (c : Int) (w' : World), Hp (feet (stL y x s)) w w' (stL y1 x1 s1) → DoesP C y x s pg pin o y1 x1 s1 c → R (.returned (.int .i64 c)) w' := fun y1 x1 s1 c w' h1 h2 => by rw [hR]; exact ⟨y1, x1, s1, c, rfl, h1, h2⟩
  clear hR
  have H := Hp.startL st
  generalize hB : feet (stL y x s) = B at H done
  obtain ⟨hfn, hfst, hfs⟩ := hf
  have ok := I.inv.stOk (by omega) I.dk I.len I.got
  have hm4 := I.inv.many
  apply does.ok; unfold does.vc
  intro b w1 hn
  replace H := H.new (cs := op12C o) (by exact ⟨rfl, rfl, rfl, rfl⟩) hn; clear hn
  refine JoinP.mk (fun q w' => q = decide (0 ≤ o.n ∧ o.n < 12) ∧ Hp B w w' (.blk b (op12C o) 49 :: stL y x s)) ?hR ?hX
  case hX =>
    intro J hJ
    refine ⟨_, H.ld (o := 1) (cs := op12C o) (by exact ⟨rfl, rfl, rfl, rfl⟩) gInt (.head _) rfl, br_dec (fun h => ⟨_, H.ld (o := 1) (cs := op12C o) (by exact ⟨rfl, rfl, rfl, rfl⟩) gInt (.head _) rfl, hJ _ _ ⟨?_, H⟩⟩) (fun h => hJ _ _ ⟨?_, H⟩)⟩
    · rw [decide_eq_decide]; omega
    · rw [eq_comm, decide_eq_false_iff_not]; omega
  clear H w1
  rintro q w1 ⟨hq, H⟩
  have ldK : ∀ {wa wb : World} {L : List Asn}, Hp B w wa (.blk b (op12C o) 49 :: L) → Eqw wa wb → Ld Tryz.prog 3 wb ⟨b, 0, none⟩ (.int .i64 o.kind) := fun K e => K.ld (o := 0) (cs := op12C o) e gInt (.head _) rfl
  have ldN : ∀ {wa wb : World} {L : List Asn}, Hp B w wa (.blk b (op12C o) 49 :: L) → Eqw wa wb → Ld Tryz.prog 3 wb ⟨b, 1, none⟩ (.int .i64 o.n) := fun K e => K.ld (o := 1) (cs := op12C o) e gInt (.head _) rfl
  have H2 := H.drop
  have nokeep : ∀ (c : Int), ¬ (o.kind = 0 ∧ c = 0) → ¬ (c = 0 ∧ (o.kind = 0 ∨ o.kind = 4)) → c = (refDo s.many pg pin o).2.2 → refDo s.many pg pin o = (pg, pin, c) → DoesP C y x s pg pin o y x s c := fun c h1 h2 h3 h4 =>
    ⟨rfl, rfl, rfl, rfl, Mv.refl s, Keep.refl _ _ _, .inr ⟨rfl, h1⟩, by rw [if_neg h2], fun h5 h6 => absurd ⟨h5, h6⟩ h2, .inl ⟨h3, by rw [h4]; exact I.up⟩⟩
  refine ⟨_, ldK H (by exact ⟨rfl, rfl, rfl, rfl⟩), br_dec (fun hk0 => ?_) (fun hk0 => br_dec (fun hk1 => ?_) (fun hk1 => br_dec (fun hk2 => ?_) (fun hk2 => br_dec (fun hk3 => ?_) (fun hk3 => br_dec (fun hk4 => ?_) (fun hk4 => ?_)))))⟩
  · -- Get
    have hkk : 0 ≤ o.kind ∧ o.kind ≤ 4 ∧ o.kind ≠ 3 := by omega
    refine onP_mk rfl ⟨_, ldPool H (by exact ⟨rfl, rfl, rfl, rfl⟩) (.tail _ (mem_kb y x s)), _, ldN H (by exact ⟨rfl, rfl, rfl, rfl⟩), ?_⟩
    by_cases hin : 0 ≤ o.n ∧ o.n < 12
    · obtain ⟨n, hon⟩ : ∃ n : Nat, o.n = (n : Int) := ⟨o.n.toNat, by omega⟩
      have hn12 : n < 12 := by omega
      have hqt : q = true := by rw [hq]; exact decide_eq_true hin
      have href := refDo_in (many := s.many) (pg := pg) (pin := pin) hkk hon hn12
      rw [if_pos hk0] at href
      have K : Hp B w w1.drew (stL y x s ++ [.blk b (op12C o) 49]) := H.drew.perm (List.perm_append_comm (l₁ := [_]))
      rw [hon]
      refine callV (get_spec hC y x s I.inv I.dk I.len I.got n hn12 w1.drew K.std1) ?_
      rintro e w2 ⟨y1, x1, s1, hd1, H', _, hres⟩
      have K2 : Hp B w w2 (.blk b (op12C o) 49 :: stL y1 x1 s1) := (K.useL H').perm (List.perm_append_comm (l₂ := [_]))
      clear H' K
      have hg1 : y1.got.length = 12 := by rw [hd1.seat.got]; exact I.got
      rcases hres with ⟨a, rfl, hPA, I1, hpg1, hno, _⟩ | ⟨c, rfl, hp0, hc0, I1, hpg1, herr⟩
      · rw [if_neg hno] at href
        refine ⟨_, _, rfl, br_dec (fun _ => ?_) (fun h => absurd rfl h)⟩
        rw [hqt]
        have ekb := hd1.seat.kb
        rw [← ekb]
        refine br_true ⟨_, ldN K2 (by exact ⟨rfl, rfl, rfl, rfl⟩), ?_⟩
        rw [hon]
        refine onP_mk rfl ⟨⟨by omega, by omega⟩, ?_⟩
        have e1 : Int.toNat (n : Int) * 1 = n := by omega
        rw [e1, show ((⟨y1.kb, 0, none⟩ : Addr).add 4).add n = ⟨y1.kb, 4 + n, none⟩ by rw [add_add, add_lit, Nat.zero_add]]
        have K3 : Hp B w w2 (.blk y1.kb (deskC y1 x1 s1) 40 :: .blk b (op12C o) 49 :: poolA y1 x1 s1 :: fsA y1 s1 :: ([.blk y1.kv [.pointer (some ⟨y1.kb, 0, none⟩)] 26, .own 3 1 y1.aa s1.asked.length y1.ac (Sl.intC s1.asked)] ++ (frsL y1.fs s1.fs ++ dkL x1 s1.d))) := K2.perm (by rw [stL, deskL]; (refine perm_cnt fun ff gg h0 hc ha hpm => ?_; simp only [ha, hc, h0]; omega))
        clear K2
        refine Hp.st (o := 4 + n) K3 (by exact ⟨rfl, rfl, rfl, rfl⟩) gPG rfl rfl (by simp [deskC, hg1]; omega) (cs' := deskC { y1 with got := y1.got.set n (some ⟨a, 0, none⟩) } x1 s1) ?_ ?_
        · simp only [deskC]
          rw [List.set_append_right _ _ (by simp), List.map_set]
          congr 2
          simp
        intro w3 K4
        have K5 : Hp B w w3 (.blk b (op12C o) 49 :: stL { y1 with got := y1.got.set n (some ⟨a, 0, none⟩) } x1 s1) := K4.perm (by
          rw [stL, deskL]
          show List.Perm (.blk y1.kb (deskC { y1 with got := y1.got.set n (some ⟨a, 0, none⟩) } x1 s1) 40 :: .blk b (op12C o) 49 :: poolA y1 x1 s1 :: fsA y1 s1 :: ([.blk y1.kv [.pointer (some ⟨y1.kb, 0, none⟩)] 26, .own 3 1 y1.aa s1.asked.length y1.ac (Sl.intC s1.asked)] ++ (frsL y1.fs s1.fs ++ dkL x1 s1.d))) (.blk b (op12C o) 49 :: poolA y1 x1 s1 :: fsA y1 s1 :: ([.blk y1.kb (deskC { y1 with got := y1.got.set n (some ⟨a, 0, none⟩) } x1 s1) 40, .blk y1.kv [.pointer (some ⟨y1.kb, 0, none⟩)] 26, .own 3 1 y1.aa s1.asked.length y1.ac (Sl.intC s1.asked)] ++ (frsL y1.fs s1.fs ++ dkL x1 s1.d)))
          (refine perm_cnt fun ff gg h0 hc ha hpm => ?_; simp only [ha, hc, h0]; omega))
        refine done { y1 with got := y1.got.set n (some ⟨a, 0, none⟩) } x1 s1 0 w3 K5.drop ⟨hd1.seat.kb, hd1.seat.kv, hd1.seat.pb, hd1.seat.xb, hd1.mv, fun m a' hm hP => hd1.keep m a' hm hP, .inl ⟨hk0, rfl, n, a, hon, hn12, by rw [hd1.seat.got], hPA⟩, ?_, fun _ _ => hin, .inl ?_⟩
        · rw [if_pos ⟨rfl, .inl hk0⟩, hpg1, hon]; rfl
        · rw [href]
          exact ⟨rfl, ⟨I1, hd1.dk, hd1.len, by show (y1.got.set n _).length = 12; rw [List.length_set]; exact hg1, I.good⟩⟩
      · refine ⟨_, _, rfl, br_dec (fun h => absurd h hc0) (fun _ => ?_)⟩
        refine done y1 x1 s1 c w2 K2.drop ⟨hd1.seat.kb, hd1.seat.kv, hd1.seat.pb, hd1.seat.xb, hd1.mv, hd1.keep, .inr ⟨hd1.seat.got, fun h => hc0 h.2⟩, ?_, fun h => absurd h hc0, ?_⟩
        · rw [if_neg (fun h => hc0 h.1), hpg1]
        · have D1 : DI (C + 1) y1 x1 s1 pg pin := ⟨I1, hd1.dk, hd1.len, hg1, I.good⟩
          rcases herr with ⟨rfl, hp⟩ | hT
          · rw [if_pos ⟨hp0, hp⟩] at href
            rw [href]
            exact .inl ⟨rfl, D1⟩
          · refine .inr ⟨hT, ?_, D1⟩
            have := hT.ne
            rw [href]
            split
            · exact this.2
            · exact this.1
    · have href := refDo_out (many := s.many) (pg := pg) (pin := pin) hkk hin
      rw [if_neg (by omega)] at href
      refine callV (get_out _ _ rfl o.n (by omega) w1.drew) ?_
      rintro e w2 ⟨rfl, rfl⟩
      refine ⟨_, _, rfl, br_dec (fun h => by cases h) (fun _ => ?_)⟩
      exact done y x s 121 _ H2.drew (nokeep 121 (by omega) (by omega) (by rw [href]) href)
  · -- Done
    have hkk : 0 ≤ o.kind ∧ o.kind ≤ 4 ∧ o.kind ≠ 3 := by omega
    refine onP_mk rfl ⟨_, ldPool H (by exact ⟨rfl, rfl, rfl, rfl⟩) (.tail _ (mem_kb y x s)), _, ldN H (by exact ⟨rfl, rfl, rfl, rfl⟩), ?_⟩
    have K : Hp B w w1.drew (stL y x s ++ [.blk b (op12C o) 49]) := H.drew.perm (List.perm_append_comm (l₁ := [_]))
    refine callV (fdone_spec hC y x s I.inv I.dk I.len I.got o.n true (.inl rfl) w1.drew K.std1) ?_
    rintro e w2 ⟨s1, r, rfl, hd1, H', hpg1, hr, _⟩
    have K2 := (K.useL H').takeL
    clear H' K
    rcases hr with ⟨rfl, m, hm, hpm, I1⟩ | ⟨rfl, hno, rfl⟩
    · have hm12 : m < 12 := by
        apply Classical.byContradiction
        intro h
        have := I.inv.core.free m (fun f hf e => by have := I.inv.core.small f hf; omega)
        omega
      have href := refDo_in (many := s.many) (pg := pg) (pin := pin) hkk hm hm12
      rw [if_neg hk0, if_pos hk1, if_neg (by omega)] at href
      refine ⟨_, rfl, br_not (fun h => by cases h) (fun _ => ?_)⟩
      refine done y x s1 0 w2 K2 ⟨rfl, rfl, rfl, rfl, hd1.mv, hd1.keep, .inr ⟨rfl, by omega⟩, by rw [if_neg (by omega), hpg1], fun _ h => by omega, .inl ?_⟩
      rw [href]
      exact ⟨rfl, ⟨I1, hd1.dk, hd1.len, I.got, I.good⟩⟩
    · refine ⟨_, rfl, br_not (fun _ => ?_) (fun h => by cases h)⟩
      have href : refDo s1.many pg pin o = (pg, pin, 1) := by
        by_cases hin : 0 ≤ o.n ∧ o.n < 12
        · have := refDo_in (many := s1.many) (pg := pg) (pin := pin) hkk (k := o.n.toNat) (by omega) (by omega)
          rw [if_neg hk0, if_pos hk1, if_pos (hno _ (by omega))] at this
          exact this
        · have := refDo_out (many := s1.many) (pg := pg) (pin := pin) hkk hin
          rw [if_pos (.inl hk1)] at this
          exact this
      exact done y x s1 1 w2 K2 (nokeep 1 (by omega) (by omega) (by rw [href]) href)
  · -- a change
    have hkk : 0 ≤ o.kind ∧ o.kind ≤ 4 ∧ o.kind ≠ 3 := by omega
    by_cases hin : 0 ≤ o.n ∧ o.n < 12
    · obtain ⟨n, hon⟩ : ∃ n : Nat, o.n = (n : Int) := ⟨o.n.toNat, by omega⟩
      have hn12 : n < 12 := by omega
      have hqt : q = true := by rw [hq]; exact decide_eq_true hin
      obtain ⟨hpn, a, hga, hPA⟩ := hgot hk2 n hon hn12
      have href := refDo_in (many := s.many) (pg := pg) (pin := pin) hkk hon hn12
      rw [if_neg hk0, if_neg hk1, if_pos hk2, if_neg (by omega)] at href
      rw [hqt]
      have e1 : Int.toNat (n : Int) * 1 = n := by omega
      have hcell : (deskC y x s)[4 + n]? = some (.pointer (some ⟨a, 0, none⟩)) := by
        simp only [deskC]
        rw [List.getElem?_append_right (by simp)]
        simp [hga]
      have ldG : ∀ {wa wb : World}, Hp B w wa (.blk b (op12C o) 49 :: stL y x s) → Eqw wa wb → Ld Tryz.prog 37 wb ((((⟨y.kb, 0, none⟩ : Addr).add 4).add (Int.toNat (n : Int) * 1))) (.pointer (some ⟨a, 0, none⟩)) := fun K e => by
        rw [e1, show ((⟨y.kb, 0, none⟩ : Addr).add 4).add n = ⟨y.kb, 4 + n, none⟩ by rw [add_add, add_lit, Nat.zero_add]]
        exact K.ld (o := 4 + n) (cs := deskC y x s) e gPG (.tail _ (mem_kb y x s)) hcell
      refine br_not (fun h => by cases h) (fun _ => ⟨_, ldN H (by exact ⟨rfl, rfl, rfl, rfl⟩), ?_⟩)
      rw [hon]
      refine onP_mk rfl ⟨⟨by omega, by omega⟩, _, ldG H (by exact ⟨rfl, rfl, rfl, rfl⟩), _, eqvG, br_mk (fun h => by cases h) (fun _ => ⟨_, ldN H (by exact ⟨rfl, rfl, rfl, rfl⟩), ?_⟩)⟩
      rw [hon]
      refine onP_mk rfl ⟨⟨by omega, by omega⟩, _, ldG H (by exact ⟨rfl, rfl, rfl, rfl⟩), _, _, _, _, H.ldA (o := 3) (cs := op12C o) (by exact ⟨rfl, rfl, rfl, rfl⟩) gaggO11 (.head _) rfl rfl, ?_⟩
      obtain ⟨g, R2, hR2, K, hback⟩ := page_turn I hPA hpn H2.drew.drew
      refine callV (change_spec hR2 (K.blk (.head _)) o.o) ?_
      rintro e w2 ⟨rfl, g', hR', H'⟩
      have K2 := Hp.use11 (a := Sl.pgA a g) K H'
      clear K H'
      obtain ⟨s', K3, D', hm', hk', hPA', hpg', _, _, _⟩ := hback w2 g' (_, _) hR' K2
      refine ⟨_, rfl, done y x s' _ w2 K3 ⟨rfl, rfl, rfl, rfl, hm', hk', .inr ⟨rfl, by omega⟩, by rw [if_neg (by omega), hpg'], fun _ h => by omega, .inl ?_⟩⟩
      rw [href]
      exact ⟨rfl, D'⟩
    · have hqf : q = false := by rw [hq]; exact decide_eq_false hin
      have href := refDo_out (many := s.many) (pg := pg) (pin := pin) hkk hin
      rw [if_pos (.inr hk2)] at href
      rw [hqf]
      exact br_not (fun _ => done y x s 1 _ H2.drew (nokeep 1 (by omega) (by omega) (by rw [href]) href)) (fun h => by cases h)
  · -- Flush
    have href := refDo_flush (many := s.many) (pg := pg) (pin := pin) hk3
    refine onP_mk rfl ⟨_, ldPool H (by exact ⟨rfl, rfl, rfl, rfl⟩) (.tail _ (mem_kb y x s)), ?_⟩
    refine callV (fflush_spec hC y x s I.inv I.dk I.len I.got w1 H2.std) ?_
    rintro e w2 ⟨y1, x1, s1, c, hd1, H', rfl, hpg1, I1, hres⟩
    have K2 := H2.useAll H'
    have D1 : DI (C + 1) y1 x1 s1 pg pin := ⟨I1, hd1.dk, hd1.len, by rw [hd1.seat.got]; exact I.got, I.good⟩
    refine ⟨_, rfl, done y1 x1 s1 c w2 K2 ⟨hd1.seat.kb, hd1.seat.kv, hd1.seat.pb, hd1.seat.xb, hd1.mv, hd1.keep, .inr ⟨hd1.seat.got, by omega⟩, by rw [if_neg (by omega), hpg1], fun _ h => by omega, ?_⟩⟩
    rcases hres with ⟨rfl, h⟩ | ⟨rfl, h, _⟩ | ⟨h, hT⟩
    · rw [if_pos h] at href
      rw [href]; exact .inl ⟨rfl, D1⟩
    · rw [if_neg (by omega)] at href
      rw [href]; exact .inl ⟨rfl, D1⟩
    · rw [if_neg (by omega)] at href
      rw [href]; exact .inr ⟨hT, hT.ne.1, D1⟩
  · -- Set
    have hkk : 0 ≤ o.kind ∧ o.kind ≤ 4 ∧ o.kind ≠ 3 := by omega
    refine callV (Sl.new_any w1) ?_
    rintro e w2 ⟨b0, rfl, H'⟩
    have K := (H.ext1 H')
    clear H' H
    refine ⟨_, rfl, _, K.ld (o := 8) (cs := op12C o) (by exact ⟨rfl, rfl, rfl, rfl⟩) gInt (.tail _ (.head _)) rfl, ?_⟩
    refine callV (Sl.setStamp_any Sl.gZ_rep (K.blk (.head _)) o.stamp) ?_
    rintro e w3 ⟨rfl, g1, hR1, H'⟩
    have K1 := Hp.use11 (a := Sl.pgA b0 (Sl.gZ 4096)) K H'
    clear H' K
    have hst : Sl.astamp 0 o.stamp = o.stamp.toNat := by rw [Sl.astamp, if_pos ⟨hfst.1, hfst.2⟩]
    rw [hst] at hR1
    refine ⟨_, rfl, _, K1.ld (o := 7) (cs := op12C o) (by exact ⟨rfl, rfl, rfl, rfl⟩) gStr (.tail _ (.head _)) rfl, ?_⟩
    refine callV (Sl.put_spec b0 g1 [] o.stamp.toNat hR1 0 o.s w3 (K1.blk (.head _))) ?_
    rintro e w4 ⟨rfl, g2, hR2, H'⟩
    have K2 := Hp.use11 (a := Sl.pgA b0 g1) K1 H'
    clear H' K1
    refine ⟨_, rfl, onP_mk rfl ⟨_, ldPool K2 (by exact ⟨rfl, rfl, rfl, rfl⟩) (.tail _ (.tail _ (mem_kb y x s))), _, K2.ld (o := 1) (cs := op12C o) (by exact ⟨rfl, rfl, rfl, rfl⟩) gInt (.tail _ (.head _)) rfl, ?_⟩⟩
    by_cases hin : 0 ≤ o.n ∧ o.n < 12
    · obtain ⟨n, hon⟩ : ∃ n : Nat, o.n = (n : Int) := ⟨o.n.toNat, by omega⟩
      have hn12 : n < 12 := by omega
      have href := refDo_in (many := s.many) (pg := pg) (pin := pin) hkk hon hn12
      rw [if_neg hk0, if_neg hk1, if_neg hk2] at href
      have K3 : Hp B w w4.drew ((stL y x s ++ [Sl.pgA b0 g2]) ++ [.blk b (op12C o) 49]) := K2.drew.perm (by (refine perm_cnt fun ff gg h0 hc ha hpm => ?_; simp only [ha, hc, h0]; omega))
      clear K2
      rw [hon]
      refine callV (fset_spec hC y x s I.inv I.dk I.len I.got n hn12 b0 g2 ((Sl.aput [] 0 o.s).1, o.stamp.toNat) hR2 w4.drew K3.std1) ?_
      rintro e w5 ⟨y1, x1, s1, c, hd1, H', rfl, hres⟩
      have K4 := (K3.useL H').takeL
      clear H' K3
      have hg1 : y1.got.length = 12 := by rw [hd1.seat.got]; exact I.got
      refine ⟨_, rfl, done y1 x1 s1 c w5 K4 ⟨hd1.seat.kb, hd1.seat.kv, hd1.seat.pb, hd1.seat.xb, hd1.mv, hd1.keep, .inr ⟨hd1.seat.got, by omega⟩, ?_, fun _ _ => hin, ?_⟩⟩
      · rcases hres with ⟨rfl, _, hpg1, _, _⟩ | ⟨rfl, _, rfl⟩ | ⟨hc0, _, hpg1, _⟩
        · rw [if_pos ⟨rfl, .inr hk4⟩, hpg1, hon]; rfl
        · rw [if_neg (by omega)]
        · rw [if_neg (fun h => hc0 h.1), hpg1]
      · rcases hres with ⟨rfl, I1, _, hp0, hlt⟩ | ⟨rfl, hp, rfl⟩ | ⟨hc0, I1, _, herr⟩
        · rw [if_neg (by omega)] at href
          rw [href]
          exact .inl ⟨rfl, ⟨I1, hd1.dk, hd1.len, hg1, good_upd I.good n hR2⟩⟩
        · rw [if_pos (.inl hp)] at href
          rw [href]
          exact .inl ⟨rfl, ⟨I.inv.up, hd1.dk, hd1.len, hg1, I.good⟩⟩
        · have D1 : DI (C + 1) y1 x1 s1 pg pin := ⟨I1, hd1.dk, hd1.len, hg1, I.good⟩
          rcases herr with ⟨rfl, hp⟩ | hT
          · rw [if_pos (.inr hp)] at href
            rw [href]; exact .inl ⟨rfl, D1⟩
          · refine .inr ⟨hT, ?_, D1⟩
            have := hT.ne
            rw [href]
            split
            · exact this.2
            · exact this.1
    · have href := refDo_out (many := s.many) (pg := pg) (pin := pin) hkk hin
      rw [if_neg (by omega)] at href
      have K3 : Hp B w w4.drew (stL y x s) := K2.drop.drop.drew
      refine callV (set_out y x s ok _ o.n (by omega) w4.drew K3.std) ?_
      rintro e w5 ⟨rfl, rfl⟩
      exact ⟨_, rfl, done y x s 121 _ K3 (nokeep 121 (by omega) (by omega) (by rw [href]) href)⟩
  · have href := refDo_none (many := s.many) (pg := pg) (pin := pin) (o := o) (by omega)
    exact done y x s 0 _ H2 (nokeep 0 (by omega) (by omega) (by rw [href]) href)
end Go.Proofs.YtiagjabdfppgkaaGreat
