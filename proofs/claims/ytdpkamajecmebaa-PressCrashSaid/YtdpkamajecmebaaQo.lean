/- Press: kept; the law of PressCrash. -/
import Derived.Test.YtdpkamajecmebaaQk
import Derived.Test.YtdpkamajecmebaaQn
set_option linter.unusedVariables false
set_option linter.unusedSimpArgs false
set_option maxRecDepth 100000
namespace Go.Proofs.Ytdpkamajecmebaa
open Go Go.Vc Go.Vault Go.Redo Go.Press

theorem aggTr : Agg Go.Proofs.Try.prog 66 4 := agg_of (by kernel_rfl)
theorem br_dup {c : Bool} {X : Prop} (w : World) {G : World → Prop} (I : World → Prop) (hI : I w) (main : ∀ w', I w' → G w') (hX : c = true → (∀ w', I w' → G w') → X) : br c X (G w) := by
  cases c with
  | true => exact hX rfl main
  | false => exact main w hI
theorem br_or {p q : Prop} [Decidable p] [Decidable q] {A B : Prop} (h1 : p ∨ q → A) (h2 : ¬ p → ¬ q → B) : br (decide p) A (br (decide q) A B) := by
  refine br_dec (fun h => h1 (.inl h)) (fun h => br_dec (fun h' => h1 (.inr h')) (fun h' => h2 h h'))
theorem _root_.Go.Vc.Hp.laterQ {B : List Nat} {w0 w w' : World} {L1 L2 : List Asn} (H : Hp B w0 w (L1 ++ L2)) (hW : Chg (feet L1) w w') : Chg B w0 w' := H.chg.trans hW (fun k hk => hk) fun k hk => by
  obtain ⟨a, ha, h2⟩ := mem_feet.1 hk
  exact H.own a (List.mem_append_left _ ha) k h2
theorem arm_ok {x : DW} {d : Dk} (hx : x.Ok d) {k : Int} (hk : k ≤ 9223372036854775807) : x.Ok (d.arm k) :=
  ⟨⟨hx.dk.room, hx.dk.files, hx.dk.firm, hx.dk.chs, hx.dk.rise, by simp only [Dk.arm]; omega, hx.dk.denied⟩, hx.fl, hx.cl, hx.keys, hx.na, hx.fi⟩
theorem deny_ok {x : DW} {d : Dk} (hx : x.Ok d) {k : Int} (hk : k ≤ 9223372036854775807) : x.Ok (d.deny k) :=
  ⟨⟨hx.dk.room, hx.dk.files, hx.dk.firm, hx.dk.chs, hx.dk.rise, hx.dk.armed, by simp only [Dk.deny]; omega⟩, hx.fl, hx.cl, hx.keys, hx.na, hx.fi⟩
theorem arm_fit {d : Dk} {N : Nat} (h : d.Fit N) (k : Int) : (d.arm k).Fit N := ⟨h.files, h.now, h.names, h.chs⟩
theorem deny_fit {d : Dk} {N : Nat} (h : d.Fit N) (k : Int) : (d.deny k).Fit N := ⟨h.files, h.now, h.names, h.chs⟩

set_option maxHeartbeats 1000000 in
theorem kept_spec (y : DW) (c : Dk) (hok : y.Ok c) {N : Nat} (fit : c.Fit N) (hN : N ≤ 1000000) (a : Option Addr) (ac : Nat) (all : List Tx) (hl : all.length ≤ 1000000) (cut : Tx) (e0 : Int) (w : World) (st : Std w (dkL y c)) (hc : Cells w a (txCs all))
    (hAll : ∀ t ∈ all, ∃ s : ByteArray, dimport c t.1 = (s.data.toList, 0) ∧ (s = t.2 ∨ (¬ e0 = 0 ∧ t.1 = cut.1 ∧ s = cut.2)))
    (hCut : (findT all cut.1).2 = true ∨ (dimport c cut.1).2 = 90 ∨ (dimport c cut.1).2 = 92 ∨ ((dimport c cut.1).2 = 0 ∧ (⟨(dimport c cut.1).1.toArray⟩ : ByteArray) = cut.2)) :
    Calls Go.Proofs.Try.prog 30 #[.pointer (some ⟨y.b, 0, none⟩), .slice a all.length ac, .agg #[.string cut.1, .string cut.2], .int .i64 e0] w fun e w' => e = .returned (.bool true) ∧ Hp [] w w' [] := by
  apply kept.ok; unfold kept.vc
  have stw : ∀ w', Chg [] w w' → Std w' (dkL y c) := fun w' h => ((Hp.startL st).chg0 h).std
  have H := Hp.start w
  intro b w1 hn
  replace H := H.new (cs := txC cut) (by exact ⟨rfl, rfl, rfl, rfl⟩) hn; clear hn
  refine LoopP.mk (fun m s w' => ∃ k : Nat, m = all.length - k ∧ k ≤ all.length ∧ s = (k : Int) ∧ Hp [] w w' [.blk b (txC cut) 28]) all.length ⟨0, rfl, by omega, rfl, H⟩ ?_
  clear H w1
  rintro m s w1 next ⟨k, rfl, hk, rfl, H⟩ hnext
  refine br_dec (fun h => ?_) (fun h => ?_)
  · have hkl : k < all.length := by omega
    obtain ⟨t, hg⟩ : ∃ t, all[k]? = some t := ⟨_, List.getElem?_eq_getElem hkl⟩
    have hc1 := hc.chg H.chg (by simp)
    obtain ⟨ad, ha⟩ := tx_some hc1 hg
    obtain ⟨_, _, h3⟩ := txCs_at hg
    have e1 : Int.toNat (k : Int) * 2 = k * 2 := by omega
    refine onP_mk ha ⟨⟨by omega, by omega⟩, _, _, by rw [e1]; exact hc1.ldA aggTx ha h3 rfl, ?_⟩
    intro b2 w2 hn
    replace H := H.new (cs := [.string ⟨#[]⟩, .string ⟨#[]⟩]) (by exact ⟨rfl, rfl, rfl, rfl⟩) hn; clear hn
    refine Hp.stA H (by exact ⟨rfl, rfl, rfl, rfl⟩) aggTx (vs := txC t) (cs' := txC t) rfl rfl (by simp) rfl ?_
    clear H hc1; intro w3 H
    refine ⟨_, H.ld (cs := txC t) (by exact ⟨rfl, rfl, rfl, rfl⟩) sclStr (.head _) rfl, ?_⟩
    obtain ⟨s, hs, hss⟩ := hAll t (List.mem_of_getElem? hg)
    have him := import_spec y c hok fit hN t.1 w3 (stw _ H.chg)
    rw [hs] at him
    refine callV him ?_
    clear him
    rintro e w4 ⟨rfl, H'⟩
    replace H := H.ext0 H'; clear H'
    have hself : (⟨s.data.toList.toArray⟩ : ByteArray) = s := (mk_self s).symm
    rw [hself]
    have fin : inR .i64 ((k : Int) + 1) ∧ next ((k : Int) + 1) w4 := ⟨inR64.2 (by omega), hnext (all.length - (k + 1)) _ _ (by omega) ⟨k + 1, rfl, by omega, by simp, H.drop⟩⟩
    refine ⟨_, _, rfl, br_false ⟨_, H.ld (cs := txC t) (by exact ⟨rfl, rfl, rfl, rfl⟩) sclStr (.head _) rfl, br_ndec (fun h5 => ?_) (fun _ => fin)⟩⟩
    obtain ⟨h6, h7, h8⟩ := hss.resolve_left h5
    refine br_dec (fun h => absurd h h6) (fun _ => ?_)
    refine ⟨_, H.ld (cs := txC t) (by exact ⟨rfl, rfl, rfl, rfl⟩) sclStr (.head _) rfl, _, H.ld (cs := txC cut) (by exact ⟨rfl, rfl, rfl, rfl⟩) sclStr (.tail _ (.head _)) rfl, br_ndec (fun h => absurd h7 h) (fun _ => ?_)⟩
    exact ⟨_, H.ld (cs := txC cut) (by exact ⟨rfl, rfl, rfl, rfl⟩) sclStr (.tail _ (.head _)) rfl, br_ndec (fun h => absurd h8 h) (fun _ => fin)⟩
  · have hc1 := hc.chg H.chg (by simp)
    refine ⟨_, H.ld (cs := txC cut) (by exact ⟨rfl, rfl, rfl, rfl⟩) sclStr (.head _) rfl, ?_⟩
    refine callV (pfind_spec a ac all cut.1 hl w1 hc1) ?_
    rintro e w2 ⟨rfl, rfl⟩
    refine ⟨_, _, rfl, _, H.ld (cs := txC cut) (by exact ⟨rfl, rfl, rfl, rfl⟩) sclStr (.head _) rfl, ?_⟩
    refine callV (import_spec y c hok fit hN cut.1 w2 (stw _ H.chg)) ?_
    rintro e w3 ⟨rfl, H'⟩
    replace H := H.ext0 H'; clear H'
    refine ⟨_, _, rfl, br_mk (fun _ => ⟨rfl, H.done⟩) (fun h4 => ?_)⟩
    refine br_dec (fun _ => ⟨rfl, H.done⟩) (fun h5 => br_dec (fun _ => ⟨rfl, H.done⟩) (fun h6 => ?_))
    rcases hCut with h7 | h7 | h7 | ⟨h7, h8⟩
    · rw [h4] at h7; cases h7
    · exact absurd h7 h5
    · exact absurd h7 h6
    · exact br_dec (fun _ => ⟨_, H.ld (cs := txC cut) (by exact ⟨rfl, rfl, rfl, rfl⟩) sclStr (.head _) rfl, by rw [decide_eq_true h8], H.done⟩) (fun h => absurd h7 h)

structure Tr where
  dies : Int
  denies : Int
  names : Int
  picks : List Int
def trC (p : (Option Addr × Nat) × Tr) : List Value := [.int .i64 p.2.dies, .int .i64 p.2.denies, .int .i64 p.2.names, .slice p.1.1 p.2.picks.length p.1.2]
def trCs (l : List ((Option Addr × Nat) × Tr)) : List Value := l.flatMap trC
structure Trs (W : World) (a : Option Addr) (l : List ((Option Addr × Nat) × Tr)) : Prop where
  cells : Cells W a (trCs l)
  each : ∀ p ∈ l, Cells W p.1.1 (ints p.2.picks) ∧ p.2.picks.length ≤ p.1.2
  rng : ∀ p ∈ l, p.2.dies ≤ 9223372036854775807 ∧ p.2.denies ≤ 9223372036854775807
theorem trCs_at : ∀ {l : List ((Option Addr × Nat) × Tr)} {k : Nat} {p : (Option Addr × Nat) × Tr}, l[k]? = some p → ((trCs l).drop (k * 4)).take 4 = trC p
  | [], k, p, h => by simp at h
  | q :: r, 0, p, h => by
    simp at h; subst h
    rfl
  | q :: r, k + 1, p, h => by
    rw [List.getElem?_cons_succ] at h
    have ih := trCs_at h
    have e : trCs (q :: r) = trC q ++ trCs r := rfl
    rw [e, show (k + 1) * 4 = (trC q).length + k * 4 by simp [trC]; omega, List.drop_append, List.drop_eq_nil_of_le (by omega), List.nil_append, Nat.add_sub_cancel_left]
    exact ih
theorem tr_some {w : World} {a : Option Addr} {l : List ((Option Addr × Nat) × Tr)} (h : Cells w a (trCs l)) {k : Nat} {p : (Option Addr × Nat) × Tr} (hp : l[k]? = some p) : ∃ ad, a = some ad := by
  have hx : trCs l ≠ [] := by
    intro h0
    have := trCs_at hp
    rw [h0, List.drop_nil, List.take_nil] at this
    cases this
  exact h.some hx

set_option maxHeartbeats 8000000 in
theorem pressCrash_law (la : Option Addr) (lc : Nat) (l : List Tx) (hlm : l.length ≤ maxLen) (hls : ∀ t ∈ l, t.2.size ≤ reachBytes) (ta : Option Addr) (tc : Nat) (ts : List ((Option Addr × Nat) × Tr)) (W : World) (hcW : Cells W la (txCs l)) (hT : Trs W ta ts) :
    Calls Go.Proofs.Try.prog 7 #[.slice la l.length lc, .slice ta ts.length tc] W fun e W' => e = .returned (.bool true) ∧ Hp [] W W' [] := by
  apply pressCrash.ok; unfold pressCrash.vc
  have H := Hp.start W
  refine callV (new_spec 2000 W) ?_
  rintro e w1 ⟨x, rfl, hx, H'⟩
  replace H := H.ext H'; clear H'
  rw [List.append_nil] at H
  refine ⟨_, rfl, ?_⟩
  refine JoinP.mk (fun (s : Bool) (w' : World) => Hp [] W w' (dkL x (Dk.new 2000)) ∧ (s = false → fewT l = true)) ?hR ?hX
  case hX =>
    intro J hJ
    refine ⟨_, eqv_ptrE undPD, br_false ?_⟩
    refine callV (few_spec la lc l hlm hls w1 (hcW.chg H.chg (by simp))) ?_
    rintro e w2 ⟨rfl, H'⟩
    replace H := H.ext0 H'; clear H'
    refine ⟨_, rfl, br_not (fun _ => hJ _ _ ⟨H, by simp⟩) (fun hfew => hJ _ _ ⟨H, fun _ => hfew⟩)⟩
  clear H
  rintro s w2 ⟨H, hfew⟩
  refine br_mk (fun _ => ⟨_, eqv_ptrN undPD, br_true (aliveRet H)⟩) (fun hs => ?_)
  obtain ⟨hl30, hsz⟩ := few_true (hfew hs)
  clear hfew hs s
  have H0 : Hp [] W w2 (dkL x (Dk.new 2000) ++ [.own 28 2 none 0 0 (txCs [])]) := (H.nilS 28 2).perm (List.perm_append_comm (l₁ := [_]))
  clear H
  refine LoopP.mk (fun (m : Nat) (s : Option Addr × (Option Addr × Nat × Nat) × Int) (w' : World) => ∃ (k : Nat) (all : List Tx) (d : Dk) (y : DW) (a : Option Addr) (c : Nat), m = l.length - k ∧ k ≤ l.length ∧ s = (some ⟨y.b, 0, none⟩, (a, all.length, c), (k : Int)) ∧ y.Ok d ∧ d.Fit (64 * k) ∧ Laid d all k ∧ all.length ≤ k ∧ Hp [] W w' (dkL y d ++ [.own 28 2 a all.length c (txCs all)])) l.length
    ⟨0, [], Dk.new 2000, x, none, 0, rfl, by omega, rfl, hx, new_fit 2000 0, laid_new, by simp, H0⟩ ?_
  clear H0 w1 w2 hx x
  rintro m s w1 next ⟨k, all, d, y, a, c, rfl, hk, rfl, hy, fit, hlaid, hall, H⟩ hnext
  dsimp only
  refine br_dec (fun h => ?_) (fun h => aliveRet H)
  have hkl : k < l.length := by omega
  obtain ⟨t, hg⟩ : ∃ t, l[k]? = some t := ⟨_, List.getElem?_eq_getElem hkl⟩
  have htsz := hsz t (List.mem_of_getElem? hg)
  have hc1 := hcW.chg H.chg (by simp)
  obtain ⟨ad, ha⟩ := tx_some hc1 hg
  obtain ⟨_, _, h3⟩ := txCs_at hg
  have e1 : Int.toNat (k : Int) * 2 = k * 2 := by omega
  refine onP_mk ha ⟨⟨by omega, by omega⟩, _, _, by rw [e1]; exact hc1.ldA aggTx ha h3 rfl, ?_⟩
  intro b2 w2 hn
  replace H := H.new (cs := [.string ⟨#[]⟩, .string ⟨#[]⟩]) (by exact ⟨rfl, rfl, rfl, rfl⟩) hn; clear hn
  refine Hp.stA H (by exact ⟨rfl, rfl, rfl, rfl⟩) aggTx (vs := txC t) (cs' := txC t) rfl rfl (by simp) rfl ?_
  clear H hc1; intro w3 H
  intro b3 w4 hn
  replace H := H.new (cs := [.int .i64 0, .int .i64 0, .int .i64 0, .slice none 0 0]) (by exact ⟨rfl, rfl, rfl, rfl⟩) hn; clear hn
  refine Hp.stA H (by exact ⟨rfl, rfl, rfl, rfl⟩) aggTr (vs := [.int .i64 0, .int .i64 0, .int .i64 0, .slice none 0 0]) (cs' := [.int .i64 0, .int .i64 0, .int .i64 0, .slice none 0 0]) rfl rfl (by simp) rfl ?_
  clear H; intro w5 H
  apply br_dup (w := w5) (I := fun w' => ∃ (dies denies names : Int) (pa : Option Addr) (pc : Nat) (ps : List Int), dies ≤ 9223372036854775807 ∧ denies ≤ 9223372036854775807 ∧ Cells W pa (ints ps) ∧ ps.length ≤ pc ∧ Hp [] W w' (.blk b3 [.int .i64 dies, .int .i64 denies, .int .i64 names, .slice pa ps.length pc] 66 :: .blk b2 (txC t) 28 :: (dkL y d ++ [.own 28 2 a all.length c (txCs all)])))
    (hI := ⟨0, 0, 0, none, 0, [], by omega, by omega, by intro j v hj; simp [ints] at hj, by simp, H⟩)
  case hX =>
    intro hkt main
    have hkt := of_decide_eq_true hkt
    have hktl : k < ts.length := by omega
    obtain ⟨p, hp⟩ : ∃ p, ts[k]? = some p := ⟨_, List.getElem?_eq_getElem hktl⟩
    have hpm := List.mem_of_getElem? hp
    have hc2 := hT.cells.chg H.chg (by simp)
    obtain ⟨ad, ha⟩ := tr_some hc2 hp
    have h4 := trCs_at hp
    have e2 : Int.toNat (k : Int) * 4 = k * 4 := by omega
    refine onP_mk ha ⟨⟨by omega, by omega⟩, _, _, _, _, _, _, by rw [e2]; exact hc2.ldA aggTr ha h4 rfl, ?_⟩
    refine Hp.stA H (by exact ⟨rfl, rfl, rfl, rfl⟩) aggTr (vs := trC p) (cs' := trC p) rfl rfl (by simp) rfl ?_
    clear H; intro w6 H
    exact main w6 ⟨p.2.dies, p.2.denies, p.2.names, p.1.1, p.1.2, p.2.picks, (hT.rng p hpm).1, (hT.rng p hpm).2, (hT.each p hpm).1, (hT.each p hpm).2, H⟩
  case main =>
    clear H w1 w2 w3 w4 w5
    rintro w1 ⟨dies, denies, names, pa, pc, ps, hd1, hd2, hpa, hpc, H⟩
    obtain ⟨TR, hTR⟩ : ∃ TR : List Value, TR = [.int .i64 dies, .int .i64 denies, .int .i64 names, .slice pa ps.length pc] := ⟨_, rfl⟩
    rw [← hTR] at H
    have H1 : Hp [] W w1 (dkL y d ++ [.blk b3 TR 66, .blk b2 (txC t) 28, .own 28 2 a all.length c (txCs all)]) := H.perm (by (refine perm_cnt fun ff gg h0 hc ha hpm => ?_; simp only [ha, hc, h0]; omega))
    clear H
    -- Arm, Deny
    refine ⟨_, H1.ld (cs := TR) (by exact ⟨rfl, rfl, rfl, rfl⟩) sclInt (List.mem_append_right _ (.head _)) (by rw [hTR]; rfl), ?_⟩
    refine callV (arm_spec y d hy dies w1 H1.std1) ?_
    rintro e w2 ⟨rfl, H'⟩
    replace H1 := H1.useL H'; clear H'
    have hy1 := arm_ok hy hd1
    refine ⟨rfl, _, H1.ld (cs := TR) (by exact ⟨rfl, rfl, rfl, rfl⟩) sclInt (List.mem_append_right _ (.head _)) (by rw [hTR]; rfl), ?_⟩
    refine callV (deny_spec y (d.arm dies) hy1 denies w2 H1.std1) ?_
    rintro e w3 ⟨rfl, H'⟩
    replace H1 := H1.useL H'; clear H'
    have hy2 := deny_ok hy1 hd2
    have fit1 : ((d.arm dies).deny denies).Fit (64 * k) := deny_fit (arm_fit fit dies) denies
    refine ⟨rfl, _, H1.ld (cs := txC t) (by exact ⟨rfl, rfl, rfl, rfl⟩) sclStr (List.mem_append_right _ (.tail _ (.head _))) rfl, _, H1.ld (cs := txC t) (by exact ⟨rfl, rfl, rfl, rfl⟩) sclStr (List.mem_append_right _ (.tail _ (.head _))) rfl, ?_⟩
    -- Export
    refine callV (export_spec y ((d.arm dies).deny denies) hy2 fit1 (by omega) t.1 t.2 w3 H1.std1) ?_
    rintro e w4 ⟨rfl, z, hzb, hz, H'⟩
    replace H1 := H1.useL H'; clear H'
    have fit2 := dexport_fit2 fit1 t.1 htsz
    obtain ⟨r, hr⟩ : ∃ r, r = dexport ((d.arm dies).deny denies) t.1 t.2 := ⟨_, rfl⟩
    have hcx := fun q hq hqk => crash_export hy.dk hlaid (by omega) (n := t.1) htsz dies denies names ps (q := q) hq hqk
    rw [← hr] at hz H1 fit2 hcx ⊢
    -- Arm, Deny
    refine ⟨_, rfl, ?_⟩
    have has := arm_spec z r.1 hz 0 w4 H1.std1
    rw [hzb] at has
    refine callV has ?_
    clear has
    rintro e w5 ⟨rfl, H'⟩
    replace H1 := H1.useL H'; clear H'
    have hz1 := arm_ok hz (k := 0) (by omega)
    refine ⟨rfl, ?_⟩
    have has := deny_spec z (r.1.arm 0) hz1 0 w5 H1.std1
    rw [hzb] at has
    refine callV has ?_
    clear has
    rintro e w6 ⟨rfl, H'⟩
    replace H1 := H1.useL H'; clear H'
    have hz2 := deny_ok hz1 (k := 0) (by omega)
    have fit3 : ((r.1.arm 0).deny 0).Fit (64 * k + 64) := deny_fit (arm_fit fit2 0) 0
    have hcx := hcx _ rfl hz2.dk
    refine ⟨rfl, ?_⟩
    generalize (r.1.arm 0).deny 0 = q at hz2 fit3 hcx H1
    generalize hi : r.2 = i at hcx
    clear hz1 hz hr fit2 hy1 hy2 fit1
    -- the crash, and what follows, for any list of texts
    have hcs := fun (w : World) (L2 : List Asn) (K : Hp [] W w (dkL z q ++ L2)) => crash_spec z q hz2 fit3.few (by omega) names pa pc ps w K.std1 (fun W' hW => hpa.chg (K.laterQ hW) (by simp)) hpc
    rw [hzb] at hcs
    have fitc : (q.crash names ps).Fit (64 * k + 64) := Fit.crash fit3 hz2.dk names ps
    have wlen := withT_len all t
    rcases hcx with ⟨h0, hq, hcr⟩ | ⟨h0, hnr, hq, hcr⟩ | ⟨h0, hnr, hcr⟩
    · -- done
      subst h0
      refine br_dec (fun _ => ?_) (fun h => absurd rfl h)
      refine ⟨_, _, H1.ldA (cs := txC t) (by exact ⟨rfl, rfl, rfl, rfl⟩) aggTx (List.mem_append_right _ (.tail _ (.head _))) rfl rfl, ?_⟩
      refine callV (pwith_spec a c all t (by omega) w6 (H1.ownA (List.mem_append_right _ (.tail _ (.tail _ (.head _))))).cells) ?_
      rintro e w7 ⟨a5, c5, rfl, H'⟩
      have H2 : Hp [] W w7 (dkL z q ++ [.blk b3 TR 66, .blk b2 (txC t) 28, .own 28 2 a5 (withT all t).length c5 (txCs (withT all t)), .own 28 2 a all.length c (txCs all)]) := (H1.ext1 H').perm (by (refine perm_cnt fun ff gg h0 hc ha hpm => ?_; simp only [ha, hc, h0]; omega))
      clear H' H1
      refine ⟨_, _, _, rfl, _, H2.ld (cs := TR) (by exact ⟨rfl, rfl, rfl, rfl⟩) sclInt (List.mem_append_right _ (.head _)) (by rw [hTR]; rfl), _, _, _, H2.ld (cs := TR) (by exact ⟨rfl, rfl, rfl, rfl⟩) sclSI (List.mem_append_right _ (.head _)) (by rw [hTR]; rfl), ?_⟩
      refine callV (hcs _ _ H2) ?_
      rintro e w8 ⟨v, rfl, hv, H'⟩
      replace H2 := H2.useL H'; clear H'
      rw [List.append_assoc] at H2
      refine ⟨_, rfl, _, eqv_ptrE undPD, br_false ?_⟩
      have mem4 : ∀ {p : Asn} {X Y : List Asn}, p ∈ Y → p ∈ X ++ (dkL z q ++ Y) := fun h => List.mem_append_right _ (List.mem_append_right _ h)
      refine ⟨_, _, H2.ldA (cs := txC t) (by exact ⟨rfl, rfl, rfl, rfl⟩) aggTx (mem4 (.tail _ (.head _))) rfl rfl, ?_⟩
      refine callV (kept_spec v _ hv fitc (by omega) a5 c5 (withT all t) (by omega) t 0 w8 H2.std1 (H2.ownA (mem4 (.tail _ (.tail _ (.head _))))).cells (fun x hx => ⟨x.2, hcr.import hx, .inl rfl⟩) (.inl (findT_is.2 ⟨t, mem_withT.2 (.inr rfl), rfl⟩))) ?_
      rintro e w9 ⟨rfl, H'⟩
      replace H2 := H2.ext0 H'; clear H'
      refine ⟨_, rfl, br_false (br_false (br_false ⟨inR64.2 (by omega), hnext (l.length - (k + 1)) _ _ (by omega) ⟨k + 1, withT all t, q, z, a5, c5, rfl, by omega, by rw [hzb]; rfl, hz2, fit3.mono (by omega), hq, by omega, ?_⟩⟩))⟩
      have h9 : Hp [] W w9 ((dkL z q ++ [.own 28 2 a5 (withT all t).length c5 (txCs (withT all t))]) ++ (dkL v (q.crash names ps) ++ [.blk b3 TR 66, .blk b2 (txC t) 28, .own 28 2 a all.length c (txCs all)])) := H2.perm (by (refine perm_cnt fun ff gg h0 hc ha hpm => ?_; simp only [ha, hc, h0]; omega))
      exact h9.takeL
    · -- refused
      subst h0
      refine br_dec (fun h => by cases h) (fun _ => ?_)
      refine ⟨_, H1.ld (cs := TR) (by exact ⟨rfl, rfl, rfl, rfl⟩) sclInt (List.mem_append_right _ (.head _)) (by rw [hTR]; rfl), _, _, _, H1.ld (cs := TR) (by exact ⟨rfl, rfl, rfl, rfl⟩) sclSI (List.mem_append_right _ (.head _)) (by rw [hTR]; rfl), ?_⟩
      refine callV (hcs _ _ H1) ?_
      rintro e w8 ⟨v, rfl, hv, H'⟩
      replace H1 := H1.useL H'; clear H'
      rw [List.append_assoc] at H1
      refine ⟨_, rfl, _, eqv_ptrE undPD, br_false ?_⟩
      have mem4 : ∀ {p : Asn} {X Y : List Asn}, p ∈ Y → p ∈ X ++ (dkL z q ++ Y) := fun h => List.mem_append_right _ (List.mem_append_right _ h)
      refine ⟨_, _, H1.ldA (cs := txC t) (by exact ⟨rfl, rfl, rfl, rfl⟩) aggTx (mem4 (.tail _ (.head _))) rfl rfl, ?_⟩
      refine callV (kept_spec v _ hv fitc (by omega) a c all (by omega) t 92 w8 H1.std1 (H1.ownA (mem4 (.tail _ (.tail _ (.head _))))).cells (fun x hx => ⟨x.2, hcr.import hx, .inl rfl⟩) (.inr (.inr (.inl (by rw [dimport_bad hnr]))))) ?_
      rintro e w9 ⟨rfl, H'⟩
      replace H1 := H1.ext0 H'; clear H'
      refine ⟨_, rfl, br_false (br_false (br_false ⟨inR64.2 (by omega), hnext (l.length - (k + 1)) _ _ (by omega) ⟨k + 1, all, q, z, a, c, rfl, by omega, by rw [hzb]; rfl, hz2, fit3.mono (by omega), hq.mono (by omega), by omega, ?_⟩⟩))⟩
      have h9 : Hp [] W w9 ((dkL z q ++ [.own 28 2 a all.length c (txCs all)]) ++ (dkL v (q.crash names ps) ++ [.blk b3 TR 66, .blk b2 (txC t) 28])) := H1.perm (by (refine perm_cnt fun ff gg h0 hc ha hpm => ?_; simp only [ha, hc, h0]; omega))
      exact h9.takeL
    · -- cut off
      have hi0 : ¬ i = 0 := by rcases h0 with h | h <;> omega
      refine br_dec (fun h => absurd h hi0) (fun _ => ?_)
      refine ⟨_, H1.ld (cs := TR) (by exact ⟨rfl, rfl, rfl, rfl⟩) sclInt (List.mem_append_right _ (.head _)) (by rw [hTR]; rfl), _, _, _, H1.ld (cs := TR) (by exact ⟨rfl, rfl, rfl, rfl⟩) sclSI (List.mem_append_right _ (.head _)) (by rw [hTR]; rfl), ?_⟩
      refine callV (hcs _ _ H1) ?_
      rintro e w8 ⟨v, rfl, hv, H'⟩
      replace H1 := H1.useL H'; clear H'
      rw [List.append_assoc] at H1
      refine ⟨_, rfl, _, eqv_ptrE undPD, br_false ?_⟩
      have mem4 : ∀ {p : Asn} {X Y : List Asn}, p ∈ Y → p ∈ X ++ (dkL z q ++ Y) := fun h => List.mem_append_right _ (List.mem_append_right _ h)
      refine ⟨_, _, H1.ldA (cs := txC t) (by exact ⟨rfl, rfl, rfl, rfl⟩) aggTx (mem4 (.tail _ (.head _))) rfl rfl, ?_⟩
      generalize q.crash names ps = cq at hcr hv fitc H1
      -- what is found of the text that was cut off
      obtain ⟨hAll, hCut, hNext⟩ : (∀ x ∈ all, ∃ s : ByteArray, dimport cq x.1 = (s.data.toList, 0) ∧ (s = x.2 ∨ (¬ i = 0 ∧ x.1 = t.1 ∧ s = t.2))) ∧
          ((findT all t.1).2 = true ∨ (dimport cq t.1).2 = 90 ∨ (dimport cq t.1).2 = 92 ∨ ((dimport cq t.1).2 = 0 ∧ (⟨(dimport cq t.1).1.toArray⟩ : ByteArray) = t.2)) ∧
          (((dimport cq t.1).2 = 0 ∧ ∃ s : ByteArray, (dimport cq t.1).1 = s.data.toList ∧ Laid cq (withT all (t.1, s)) (k + 1)) ∨ (¬ (dimport cq t.1).2 = 0 ∧ Laid cq all (k + 1))) := by
        rcases hcr with hcr | hcr
        · by_cases hin : ∃ x ∈ all, x.1 = t.1
          · obtain ⟨x, hx, hxt⟩ := hin
            have him := hcr.import hx
            rw [hxt] at him
            refine ⟨fun x hx => ⟨x.2, hcr.import hx, .inl rfl⟩, .inl (findT_is.2 ⟨x, hx, hxt⟩), .inl ⟨by rw [him], x.2, by rw [him], hcr.again (by rw [← hxt]; exact hx)⟩⟩
          · have him := hcr.absent hnr (fun x hx e => hin ⟨x, hx, e⟩)
            exact ⟨fun x hx => ⟨x.2, hcr.import hx, .inl rfl⟩, .inr (.inl (by rw [him])), .inr ⟨by rw [him]; decide, hcr⟩⟩
        · have him := hcr.import (t := (t.1, t.2)) (mem_withT.2 (.inr rfl))
          dsimp only at him
          refine ⟨fun x hx => ?_, .inr (.inr (.inr ⟨by rw [him], by rw [him, ← mk_self]⟩)), .inl ⟨by rw [him], t.2, by rw [him], hcr⟩⟩
          by_cases hxt : x.1 = t.1
          · exact ⟨t.2, by rw [hxt]; exact him, .inr ⟨hi0, hxt, rfl⟩⟩
          · exact ⟨x.2, hcr.import (mem_withT.2 (.inl ⟨hx, hxt⟩)), .inl rfl⟩
      refine callV (kept_spec v _ hv fitc (by omega) a c all (by omega) t i w8 H1.std1 (H1.ownA (mem4 (.tail _ (.tail _ (.head _))))).cells hAll hCut) ?_
      rintro e w9 ⟨rfl, H'⟩
      replace H1 := H1.ext0 H'; clear H' hAll hCut hcr
      refine ⟨_, rfl, br_false (br_or (fun _ => ?_) (fun h1 h2 => absurd h0 (fun h => h.elim h1 h2)))⟩
      refine ⟨_, H1.ld (cs := txC t) (by exact ⟨rfl, rfl, rfl, rfl⟩) sclStr (mem4 (.tail _ (.head _))) rfl, ?_⟩
      refine callV (import_spec v cq hv fitc (by omega) t.1 w9 H1.std1) ?_
      rintro e w10 ⟨rfl, H'⟩
      replace H1 := H1.ext0 H'; clear H'
      refine ⟨_, _, rfl, br_dec (fun h5 => ?_) (fun h5 => ?_)⟩
      · obtain ⟨_, s, hs, hl2⟩ := hNext.resolve_right (fun h => h.1 h5)
        refine ⟨_, H1.ld (cs := txC t) (by exact ⟨rfl, rfl, rfl, rfl⟩) sclStr (mem4 (.tail _ (.head _))) rfl, ?_⟩
        rw [hs, ← mk_self s]
        refine callV (pwith_spec a c all (t.1, s) (by omega) w10 (H1.ownA (mem4 (.tail _ (.tail _ (.head _))))).cells) ?_
        rintro e w11 ⟨a5, c5, rfl, H'⟩
        replace H1 := H1.ext1 H'; clear H'
        have wlen := withT_len all (t.1, s)
        refine ⟨_, _, _, rfl, inR64.2 (by omega), hnext (l.length - (k + 1)) _ _ (by omega) ⟨k + 1, withT all (t.1, s), cq, v, a5, c5, rfl, by omega, rfl, hv, fitc.mono (by omega), hl2, by omega, ?_⟩⟩
        have h9 : Hp [] W w11 ((dkL v cq ++ [.own 28 2 a5 (withT all (t.1, s)).length c5 (txCs (withT all (t.1, s)))]) ++ (dkL z q ++ [.blk b3 TR 66, .blk b2 (txC t) 28, .own 28 2 a all.length c (txCs all)])) := H1.perm (by (refine perm_cnt fun ff gg h0 hc ha hpm => ?_; simp only [ha, hc, h0]; omega))
        exact h9.takeL
      · obtain ⟨_, hl2⟩ := hNext.resolve_left (fun h => h5 h.1)
        refine ⟨inR64.2 (by omega), hnext (l.length - (k + 1)) _ _ (by omega) ⟨k + 1, all, cq, v, a, c, rfl, by omega, rfl, hv, fitc.mono (by omega), hl2, by omega, ?_⟩⟩
        have h9 : Hp [] W w10 ((dkL v cq ++ [.own 28 2 a all.length c (txCs all)]) ++ (dkL z q ++ [.blk b3 TR 66, .blk b2 (txC t) 28])) := H1.perm (by (refine perm_cnt fun ff gg h0 hc ha hpm => ?_; simp only [ha, hc, h0]; omega))
        exact h9.takeL
end Go.Proofs.Ytdpkamajecmebaa
