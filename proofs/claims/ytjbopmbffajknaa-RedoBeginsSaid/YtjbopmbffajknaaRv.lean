/- Redo: the law of RedoBegins. -/
import Derived.Test.YtjbopmbffajknaaRu
set_option linter.unusedVariables false
set_option linter.unusedSimpArgs false
set_option maxRecDepth 100000
namespace Go.Proofs.Ytjbopmbffajknaa
open Go Go.Vc Go.Vault Go.Redo

structure FV where
  dies : Int
  denies : Int
  names : Int
  pa : Option Addr
  pc : Nat
  ps : List Int
def fC (f : FV) : List Value := [.int .i64 f.dies, .int .i64 f.denies, .int .i64 f.names, .slice f.pa f.ps.length f.pc]
structure FOk (W : World) (f : FV) : Prop where
  dies : f.dies ≤ 9223372036854775807
  denies : f.denies ≤ 9223372036854775807
  cells : Cells W f.pa (ints f.ps)
  cap : f.ps.length ≤ f.pc
theorem aggFa : Agg Go.Proofs.Try.prog 40 4 := agg_of (by kernel_rfl)
theorem aliveRetB {w w1 : World} (H : Hp [] w w1 []) : CallV Go.Proofs.Try.prog 8 [] w1 fun e w' => ∃ b, e = .returned (.bool b) ∧ (Ending.returned (.bool b) = .returned (.bool true) ∧ Hp [] w w' []) := by
  refine callV (alive_spec w1) ?_
  rintro e w2 ⟨rfl, H'⟩
  exact ⟨_, rfl, rfl, H.ext0 H'⟩
set_option maxHeartbeats 4000000 in
theorem redoBegins_law (f g : FV) (W : World) (hf : FOk W f) (hg : FOk W g) :
    Calls Go.Proofs.Try.prog 4 #[.agg (fC f).toArray, .agg (fC g).toArray] W fun e W' => e = .returned (.bool true) ∧ Hp [] W W' [] := by
  apply redoBegins.ok; unfold redoBegins.vc
  have H := Hp.start W
  intro b w0 hn; replace H := H.new (cs := fC f) (by exact ⟨rfl, rfl, rfl, rfl⟩) hn; clear hn
  intro b1 w1 hn; replace H := H.new (cs := fC g) (by exact ⟨rfl, rfl, rfl, rfl⟩) hn; clear hn
  refine callV (new_spec 2000 w1) ?_
  rintro e w2 ⟨x, rfl, hx, H'⟩
  replace H := H.ext H'; clear H'
  replace H := H.perm (List.perm_append_comm (l₂ := [_, _]))
  refine ⟨_, rfl, _, eqv_ptrE undPD, br_false ?_⟩
  refine ⟨_, _, _, H.ld (cs := fC f) (by exact ⟨rfl, rfl, rfl, rfl⟩) sclSI (.tail _ (.head _)) rfl, ?_⟩
  refine br_dec (fun _ => ⟨_, eqv_ptrN undPD, br_true (aliveRetB H.done)⟩) (fun hlf => ?_)
  refine ⟨_, _, _, H.ld (cs := fC g) (by exact ⟨rfl, rfl, rfl, rfl⟩) sclSI (.head _) rfl, ?_⟩
  refine br_dec (fun _ => ⟨_, eqv_ptrN undPD, br_true (aliveRetB H.done)⟩) (fun hlg => ?_)
  refine ⟨_, _, _, _, _, _, H.ldA (cs := fC f) (b := b) (T := 40) (by exact ⟨rfl, rfl, rfl, rfl⟩) aggFa (.tail _ (.head _)) rfl rfl, ?_⟩
  refine ⟨_, _, _, _, _, _, H.ldA (cs := fC g) (b := b1) (T := 40) (by exact ⟨rfl, rfl, rfl, rfl⟩) aggFa (.head _) rfl rfl, ?_⟩
  replace H := H.drop.drop
  intro b2 w3 hn; replace H := H.new (cs := fC f ++ fC g) (by exact ⟨rfl, rfl, rfl, rfl⟩) hn; clear hn
  refine LoopP.mk (fun (m : Nat) (s : Option Addr × Int) (w' : World) => ∃ (k : Nat) (x : DW) (d : Dk), m = 2 - k ∧ k ≤ 2 ∧ s = (some ⟨x.b, 0, none⟩, (k : Int)) ∧ x.Ok d ∧ d.Fit (12 * k) ∧ Clean d ∧ Calm d ∧ d.chs = [] ∧
    Hp [] W w' (.blk b2 (fC f ++ fC g) 40 :: dkL x d)) 2 ⟨0, x, Dk.new 2000, rfl, by omega, rfl, hx, new_fit 2000 0, new_clean, new_calm 2000, rfl, H⟩ ?_
  clear H hx x w0 w1 w2 w3 b b1
  rintro m s w1 next ⟨k, x, d, rfl, hk, rfl, hx, fit, hcl, hcalm, hchs, H⟩ hnext
  refine br_dec (fun h3 => ?_) (fun h3 => ?_)
  · simp only at h3 ⊢
    have hk2 : k < 2 := by omega
    obtain ⟨f0, hf0⟩ : ∃ f0, f0 = f := ⟨_, rfl⟩
    rw [← hf0] at H hnext
    obtain ⟨f, hff, hat⟩ : ∃ f' : FV, FOk W f' ∧ ((fC f0 ++ fC g).drop (k * 4)).take 4 = fC f' := by
      rcases (show k = 0 ∨ k = 1 by omega) with rfl | rfl
      · exact ⟨f0, hf0 ▸ hf, rfl⟩
      · exact ⟨g, hg, rfl⟩
    have hld := H.ldA (cs := fC f0 ++ fC g) (b := b2) (w' := w1) (P := Go.Proofs.Try.prog) (o := k * 4) (by exact ⟨rfl, rfl, rfl, rfl⟩) aggFa (.head _) hat rfl
    refine ⟨⟨by omega, by omega⟩, _, _, _, _, _, _, by rw [Int.toNat_natCast, add_lit, Nat.zero_add]; exact hld, ?_⟩
    clear hld hat
    intro bf w2 hn; replace H := H.new (cs := [.int .i64 0, .int .i64 0, .int .i64 0, .slice none 0 0]) (by exact ⟨rfl, rfl, rfl, rfl⟩) hn; clear hn
    refine Hp.stA H (by exact ⟨rfl, rfl, rfl, rfl⟩) aggFa (vs := fC f) (cs' := fC f) rfl rfl (by simp) rfl ?_
    clear H; intro w3 H
    refine ⟨_, H.ld (cs := fC f) (by exact ⟨rfl, rfl, rfl, rfl⟩) sclInt (.head _) rfl, ?_⟩
    refine callV (arm_spec x d hx f.dies w3 H.drop.drop.std) ?_
    rintro e w4 ⟨rfl, H'⟩
    replace H := H.useT2 H'; clear H'
    have hx1 : x.Ok (d.arm f.dies) := ⟨⟨hx.dk.room, hx.dk.files, hx.dk.firm, hx.dk.chs, hx.dk.rise, by have := hff.dies; simp only [Dk.arm]; omega, hx.dk.denied⟩, hx.fl, hx.cl, hx.keys, hx.na, hx.fi⟩
    refine ⟨rfl, _, H.ld (cs := fC f) (by exact ⟨rfl, rfl, rfl, rfl⟩) sclInt (.head _) rfl, ?_⟩
    refine callV (deny_spec x (d.arm f.dies) hx1 f.denies w4 H.drop.drop.std) ?_
    rintro e w5 ⟨rfl, H'⟩
    replace H := H.useT2 H'; clear H'
    have hx2 : x.Ok ((d.arm f.dies).deny f.denies) := ⟨⟨hx.dk.room, hx.dk.files, hx.dk.firm, hx.dk.chs, hx.dk.rise, hx1.dk.armed, by have := hff.denies; simp only [Dk.deny]; omega⟩, hx.fl, hx.cl, hx.keys, hx.na, hx.fi⟩
    have fit2 : ((d.arm f.dies).deny f.denies).Fit (12 * k) := ⟨fit.files, fit.now, fit.names, fit.chs⟩
    have hcl2 := armed_clean hcl f.dies f.denies
    have hch2 : ((d.arm f.dies).deny f.denies).chs = [] := hchs
    have hd2 : ((d.arm f.dies).deny f.denies).dead = false := hcalm.dead
    refine ⟨rfl, ?_⟩
    generalize (d.arm f.dies).deny f.denies = q at H hx2 fit2 hcl2 hch2 hd2
    clear hx1
    have ho := open_spec x q hx2 fit2 (by omega) nLog w5 H.drop.drop.std
    obtain ⟨hclo, hcode⟩ := open_begin hcl2 hch2 hd2 fit2 (by omega)
    have fito := openP_fit fit2 nLog
    refine callV ho ?_
    clear ho
    rintro e w6 ⟨x2, hx2b, hx3, hcases⟩
    obtain ⟨p1, L1, hp1, he, H2⟩ : ∃ (p1 : Option Addr) (L1 : List Asn), ((openP q nLog).2.1 ≠ 0 ∧ p1 = none ∨ (openP q nLog).2.1 = 0 ∧ ∃ y : LW, p1 = some ⟨y.b, 0, none⟩ ∧ lgA y x.b (openP q nLog).2.2 ∈ L1) ∧ e = .returned (.tuple #[.pointer p1, .int .i64 (openP q nLog).2.1]) ∧
        Hp [] W w6 (.blk bf (fC f) 40 :: .blk b2 (fC f0 ++ fC g) 40 :: (dkL x2 (openP q nLog).1 ++ L1)) := by
      rcases hcases with ⟨hr, rfl, H'⟩ | ⟨hr, y, LB, rfl, _, H'⟩
      · exact ⟨none, [], .inl ⟨hr, rfl⟩, rfl, by rw [List.append_nil]; exact H.useT2 H'⟩
      · refine ⟨_, [lgA y x.b (openP q nLog).2.2, lgT y (openP q nLog).2.2] ++ LB, .inr ⟨hr, y, rfl, .head _⟩, by rw [hr], (H.useT2 H').perm ?_⟩
        exact ((List.perm_append_comm (l₁ := [lgA y x.b (openP q nLog).2.2, lgT y (openP q nLog).2.2] ++ LB) (l₂ := dkL x2 (openP q nLog).1)).cons _).cons _
    subst he
    clear hcases H
    generalize openP q nLog = o at hx3 hclo hcode fito hp1 H2 ⊢
    have H := H2
    clear H2
    have hb1 : (!p1.isNone) = decide (o.2.1 = 0) := by
      rcases hp1 with ⟨h, rfl⟩ | ⟨h, y, rfl, _⟩
      · rw [decide_eq_false h]; rfl
      · rw [decide_eq_true h]; rfl
    -- the crash, and on
    have crash : ∀ w6, Hp [] W w6 (.blk bf (fC f) 40 :: .blk b2 (fC f0 ++ fC g) 40 :: (dkL x2 o.1 ++ L1)) →
        CallV Go.Proofs.Try.prog 17 [.pointer (some ⟨x.b, 0, none⟩), .int .i64 f.names, .slice f.pa f.ps.length f.pc] w6 fun e w' => ∃ p, e = .returned (.pointer p) ∧ ∃ b, Eqv Go.Proofs.Try.prog .eql 23 (.tmp 85) (.const (.pointer none)) w' (.pointer p) (.pointer none) b ∧
          br b (Ending.returned (.bool false) = .returned (.bool true) ∧ Hp [] W w' []) (inR .i64 ((k : Int) + 1) ∧ next (p, (k : Int) + 1) w') := by
      intro w6 H
      have H3 : Hp [] W w6 (dkL x2 o.1 ++ (L1 ++ [.blk bf (fC f) 40, .blk b2 (fC f0 ++ fC g) 40])) := H.perm (perm_cnt fun ff gg h0 hc ha hpm => by simp only [ha, hc, h0]; omega)
      have hcr := crash_spec x2 o.1 hx3 fito.few (by omega) f.names f.pa f.pc f.ps w6 H3.std1 (fun W' hW => hff.cells.chg (H3.takeL.later hW) (by simp)) hff.cap
      rw [hx2b] at hcr
      refine callV hcr ?_
      rintro e w7 ⟨z, rfl, hz, H'⟩
      replace H3 := H3.useL H'
      refine ⟨_, rfl, _, eqv_ptrE undPD, br_false ?_⟩
      refine ⟨inR64.2 (by omega), hnext (2 - (k + 1)) _ _ (by omega) ⟨k + 1, z, _, rfl, by omega, rfl, hz, (Fit.crash fito hx3.dk _ _).mono (by omega), crash_clean hclo _ _, ⟨rfl, rfl, rfl⟩, rfl, ?_⟩⟩
      have H4 : Hp [] W w7 ((.blk b2 (fC f0 ++ fC g) 40 :: dkL z (o.1.crash f.names f.ps)) ++ (dkL x2 o.1 ++ (L1 ++ [.blk bf (fC f) 40]))) := H3.perm (perm_cnt fun ff gg h0 hc ha hpm => by simp only [ha, hc, h0]; omega)
      exact H4.takeL
    have go : ∀ w6, Hp [] W w6 (.blk bf (fC f) 40 :: .blk b2 (fC f0 ++ fC g) 40 :: (dkL x2 o.1 ++ L1)) →
        ∃ i, Ld Go.Proofs.Try.prog 3 w6 ⟨bf, 2, none⟩ (.int .i64 i) ∧ ∃ a l c, Ld Go.Proofs.Try.prog 29 w6 ⟨bf, 3, none⟩ (.slice a l c) ∧
        CallV Go.Proofs.Try.prog 17 [.pointer (some ⟨x.b, 0, none⟩), .int .i64 i, .slice a l c] w6 fun e w' => ∃ p, e = .returned (.pointer p) ∧ ∃ b, Eqv Go.Proofs.Try.prog .eql 23 (.tmp 85) (.const (.pointer none)) w' (.pointer p) (.pointer none) b ∧
          br b (Ending.returned (.bool false) = .returned (.bool true) ∧ Hp [] W w' []) (inR .i64 ((k : Int) + 1) ∧ next (p, (k : Int) + 1) w') := fun w6 H =>
      ⟨_, H.ld (cs := fC f) (by exact ⟨rfl, rfl, rfl, rfl⟩) sclInt (.head _) rfl, _, _, _, H.ld (cs := fC f) (by exact ⟨rfl, rfl, rfl, rfl⟩) sclSI (.head _) rfl, crash w6 H⟩
    refine ⟨_, _, rfl, _, eqv_ptrN undPL, ?_⟩
    refine br_not (fun h => by rw [hb1] at h; simp at h) (fun _ => ?_)
    refine br_dec (fun h0 => ?_) (fun h0 => ?_)
    · rcases hp1 with ⟨h, _⟩ | ⟨_, y, rfl, hm⟩
      · exact absurd h0 h
      have hall : o.2.2.all = [] := by
        rcases hcode with ⟨_, h⟩ | h | h
        · exact h
        · omega
        · omega
      have stA : Std w6 [lgA y x.b o.2.2] := ⟨fun a ha => by rw [List.mem_singleton.1 ha]; exact H.ok _ (.tail _ (.tail _ (List.mem_append_right _ hm))), by simp⟩
      refine callV (llen_spec y x.b o.2.2 w6 stA) ?_
      rintro e w7 ⟨rfl, H'⟩
      replace H := H.ext0 H'; clear H'
      rw [hall]
      refine ⟨_, rfl, br_not (fun h => by cases h) (fun _ => br_not (fun h => absurd h0 (of_decide_eq_false h)) (fun _ => go w7 H))⟩
    · refine br_not (fun _ => ?_) (fun h => absurd (of_decide_eq_true h) h0)
      refine br_not (fun h93 => ?_) (fun _ => go w6 H)
      refine br_not (fun h95 => ?_) (fun _ => go w6 H)
      exfalso
      rcases hcode with ⟨h, _⟩ | h | h
      · exact h0 h
      · exact of_decide_eq_false h93 h
      · exact of_decide_eq_false h95 h
  · simp only at h3 ⊢
    have hk2 : k = 2 := by omega
    subst hk2
    have ho := open_spec x d hx fit (by omega) nLog w1 H.drop.std
    obtain ⟨hc0, hall⟩ := open_last hcl hcalm hx.dk hchs fit (by omega)
    refine callV ho ?_
    clear ho
    rintro e w2 ⟨x2, hx2b, hx3, (⟨hr, _⟩ | ⟨hr, y, LB, rfl, _, H'⟩)⟩
    · exact absurd hc0 hr
    replace H := H.useT H'; clear H'
    refine ⟨_, _, rfl, ?_⟩
    refine callV (alive_spec w2) ?_
    rintro e w3 ⟨rfl, H'⟩
    replace H := H.ext0 H'; clear H'
    refine ⟨_, rfl, br_true (br_true ⟨_, eqv_ptrN undPL, br_true ?_⟩)⟩
    have stA : Std w3 [lgA y x.b (openP d nLog).2.2] := ⟨fun a ha => by rw [List.mem_singleton.1 ha]; exact H.ok _ (.tail _ (.head _)), by simp⟩
    refine callV (llen_spec y x.b (openP d nLog).2.2 w3 stA) ?_
    rintro e w4 ⟨rfl, H'⟩
    replace H := H.ext0 H'; clear H'
    rw [hall]
    exact ⟨_, rfl, rfl, H.done⟩
end Go.Proofs.Ytjbopmbffajknaa
