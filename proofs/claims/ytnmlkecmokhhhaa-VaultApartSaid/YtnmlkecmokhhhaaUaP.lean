/- Vault: the law of what is apart. -/
import Derived.Test.YtnmlkecmokhhhaaUz
set_option linter.unusedVariables false
set_option linter.unusedSimpArgs false
set_option maxRecDepth 100000
namespace Go.Proofs.Ytnmlkecmokhhhaa
open Go Go.Vc Go.Vault

/-- two disks of the document's that may share memory -/
def bothA (G : List Nat) (v : RV) (d : Dk) (v2 : RV) (d2 : Dk) : Asn := .any G fun x => RD G x v d ∧ RD G x v2 d2
theorem both_rd {G : List Nat} {w : World} {v v2 : RV} {d d2 : Dk} (h : (bothA G v d v2 d2).ok w) : RD G w v d ∧ RD G w v2 d2 ∧ ∀ k ∈ G, k < w.heap.size := ⟨(h.2 w fun _ _ => rfl).1, (h.2 w fun _ _ => rfl).2, h.1⟩
theorem both_step {K : Value → Ending} {B G : List Nat} {w0 ws w' : World} {v v2 : RV} {d d2 d3 : Dk} {L : List Asn} {e : Ending} (H : Hp B w0 ws (bothA G v d v2 d2 :: L)) (hp : RPostK K G ws d3 e w') : ∃ v3 G', e = K (v3.val d3) ∧ Hp B w0 w' (bothA G' v d v3 d3 :: L) := by
  obtain ⟨v3, F, rfl, hc, h1, h2, h3⟩ := hp
  obtain ⟨r1, r2, r3⟩ := both_rd (H.ok _ (.head _))
  refine ⟨v3, G ++ F, rfl, H.set (hc.more (by simp)) ⟨fun k hk => ?_, fun x hx => ⟨?_, ?_⟩⟩ fun k hk => ?_⟩
  · rcases List.mem_append.1 hk with hk | hk
    · exact Nat.lt_of_lt_of_le (r3 k hk) hc.size
    · exact h2 k hk
  · exact ((r1.chg0 hc).agree fun k hk => hx k (List.mem_append_left _ hk)).more fun k hk => List.mem_append_left _ hk
  · exact (h3.agree fun k hk => hx k (List.mem_append_right _ hk)).more fun k hk => List.mem_append_right _ hk
  · rcases List.mem_append.1 hk with hk | hk
    · exact .inl hk
    · exact h1 k hk
def IsB (xs : List Value) : Prop := ∀ v ∈ xs, ∃ i, v = .int .u8 i
theorem isB_bcells (l : List UInt8) : IsB (bcells l) := fun v hv => by
  obtain ⟨b, _, rfl⟩ := List.mem_map.1 hv
  exact ⟨_, rfl⟩
theorem IsB.set {xs : List Value} (h : IsB xs) (k : Nat) (i : Int) : IsB (xs.set k (.int .u8 i)) := fun v hv => by
  rcases List.mem_or_eq_of_mem_set hv with hv | rfl
  · exact h v hv
  · exact ⟨i, rfl⟩
theorem IsB.at {xs : List Value} (h : IsB xs) {k : Nat} (hk : k < xs.length) : ∃ i, xs[k]? = some (.int .u8 i) := by
  obtain ⟨i, hi⟩ := h _ (List.getElem_mem hk)
  exact ⟨i, by rw [List.getElem?_eq_getElem hk, hi]⟩

set_option maxHeartbeats 8000000 in
theorem vaultApart_law (sa : Option Addr) (sc : Nat) (os : List (OW × Op)) (ma : Option Addr) (mc : Nat) (ms : List (OW × Op)) (W : World) (hs : Scr W sa os) (hms : Scr W ma ms) (hbigs : ∀ p ∈ ms, p.2.b.length ≤ reachBytes) :
    Calls Go.Proofs.Try.prog 9 #[.slice sa os.length sc, .slice ma ms.length mc] W fun e W' => e = .returned (.bool true) ∧ Hp [] W W' [] := by
  apply vaultApart.ok; unfold vaultApart.vc
  refine br_dec (fun _ => aliveEnd (Hp.start W)) (fun h1 => ?_)
  refine br_dec (fun _ => aliveEnd (Hp.start W)) (fun h2 => ?_)
  refine callV (plays_spec 40 sa sc os (by omega) W hs) ?_
  rintro e w1 ⟨x, F, v, rfl, hx, fit, H⟩
  generalize playD (Dk.new 40) os = d at hx fit H ⊢
  have fitN := fit.mono (show os.length ≤ 300 by omega)
  refine ⟨_, _, _, _, _, _, _, _, _, _, _, _, _, _, _, _, _, _, rfl, ?_⟩
  intro b2 w2 hn; replace H := H.new (by exact ⟨rfl, rfl, rfl, rfl⟩) hn; clear hn
  refine Hp.stA H (by exact ⟨rfl, rfl, rfl, rfl⟩) raggD (vs := valC v d) (cs' := valC v d) rfl rfl (by simp) rfl ?_
  clear H; intro w3 H
  refine br_not (fun h => by cases h) (fun _ => ?_)
  have H2 : Hp [] W w3 (dkL x d ++ [.blk b2 (valC v d) 41, refA F v d]) := H.perm (List.perm_append_comm (l₁ := [_, _]))
  clear H
  refine callV (crash_spec x d hx fitN.few (by omega) 1000 none 0 [] w3 H2.std1 (fun W' hW => by intro j v hj; simp [ints] at hj) (Nat.le_refl _)) ?_
  rintro e w4 ⟨y0, rfl, hy0, H'⟩
  replace H2 := H2.useL H'; clear H'
  refine ⟨_, rfl, ?_⟩
  have H : Hp [] W w4 (refA F v d :: .blk b2 (valC v d) 41 :: (dkL y0 (d.crash 1000 []) ++ dkL x d)) := H2.perm (perm_cnt fun ff gg h0 hc ha hpm => by simp only [ha, hc, h0]; omega)
  clear H2
  refine ⟨_, _, _, _, _, _, _, _, _, _, _, _, _, _, _, _, H.ldA (cs := valC v d) (b := b2) (T := 41) (by exact ⟨rfl, rfl, rfl, rfl⟩) raggD (.tail _ (.head _)) rfl rfl, ?_⟩
  obtain ⟨hR, hF⟩ := refA_rd (H.ok _ (.head _))
  have hnone : SC [] w4 none ([] : List Int).length 0 1 (ints []) := SC.ofNil [] w4 0 1
  refine callV (rcrash_spec (ps := []) hR hF hx.dk fitN.few (by omega) (fitN.since hx.dk (by omega)) (fun f hf => by have := fitN.now f hf; omega) 1000 hnone) ?_
  intro e w5 hpost
  have hC0 : Hp [] W w4 (bothA F v d v d :: .blk b2 (valC v d) 41 :: (dkL y0 (d.crash 1000 []) ++ dkL x d)) := H.set (Chg.refl _ _) ⟨hF, fun z hz => ⟨hR.agree hz, hR.agree hz⟩⟩ fun k hk => .inl hk
  obtain ⟨v1, G1, rfl, H1⟩ := both_step hC0 hpost
  clear hC0 H hpost
  have H := H1
  clear H1 hR
  generalize hCe : d.crash 1000 [] = C0 at hy0 H ⊢
  have fitC : C0.Fit 300 := by rw [← hCe]; exact Fit.crash fitN hx.dk _ _
  refine ⟨_, _, _, _, _, _, _, _, _, _, _, _, _, _, _, _, rfl, ?_⟩
  intro b3 w6 hn; replace H := H.new (by exact ⟨rfl, rfl, rfl, rfl⟩) hn; clear hn
  refine Hp.stA H (by exact ⟨rfl, rfl, rfl, rfl⟩) raggD (vs := valC v1 C0) (cs' := valC v1 C0) rfl rfl (by simp) rfl ?_
  clear H; intro w7 H
  refine ⟨_, eqv_ptrD, ?_⟩
  refine br_mk (fun h => by cases h) (fun _ => ?_)
  refine LoopP.mk (fun (m : Nat) (s : Int) (w' : World) => ∃ (k : Nat) (y : DW) (C : Dk) (vc : RV) (G : List Nat), m = ms.length - k ∧ k ≤ ms.length ∧ s = (k : Int) ∧ y.b = y0.b ∧ y.Ok C ∧ C.Fit (300 + k) ∧
      Hp [] W w' (.blk b3 (valC vc C) 41 :: bothA G v d vc C :: .blk b2 (valC v d) 41 :: (dkL y C ++ dkL x d))) ms.length ⟨0, y0, C0, v1, G1, by omega, by omega, rfl, rfl, hy0, fitC, H⟩ ?_
  clear H hy0 fitC w1 w2 w3 w5 w6 w7
  rintro m s w1 next ⟨k, y, C, vc, G, rfl, hk, rfl, hyb, hy, fC, H⟩ hnext
  refine br_dec (fun h3 => ?_) (fun h3 => ?_)
  · have hkl : k < ms.length := by omega
    obtain ⟨p, hp⟩ : ∃ p, ms[k]? = some p := ⟨_, List.getElem?_eq_getElem hkl⟩
    have hpm := List.mem_of_getElem? hp
    obtain ⟨ad, ha, hld⟩ := (hms.chg0 H.chg).ldA hp
    refine onP_mk ha ⟨⟨by omega, by omega⟩, _, _, _, _, _, _, _, _, _, _, by rw [Int.toNat_natCast]; exact hld, ?_⟩
    intro bo w2 hn; replace H := H.new (by exact ⟨rfl, rfl, rfl, rfl⟩) hn; clear hn
    refine Hp.stA H (by exact ⟨rfl, rfl, rfl, rfl⟩) raggO (vs := opC p) (cs' := opC p) rfl rfl (by simp) rfl ?_
    clear H; intro w3 H
    refine ⟨_, H.ld (cs := opC p) (by exact ⟨rfl, rfl, rfl, rfl⟩) sclInt (.head _) rfl, ?_⟩
    refine br_dec (fun k9 => ⟨inR64.2 (by omega), hnext (ms.length - (k + 1)) _ _ (by omega) ⟨k + 1, y, C, vc, G, rfl, by omega, by simp, hyb, hy, fC.mono (by omega), H.drop⟩⟩) (fun k9 => ?_)
    refine ⟨_, _, _, _, _, _, _, _, _, _, H.ldA (cs := opC p) (by exact ⟨rfl, rfl, rfl, rfl⟩) raggO (.head _) rfl rfl, ?_⟩
    intro bw w5 hn; replace H := H.new (by exact ⟨rfl, rfl, rfl, rfl⟩) hn; clear hn
    refine Hp.stA H (by exact ⟨rfl, rfl, rfl, rfl⟩) raggO (vs := opC p) (cs' := opC p) rfl rfl (by simp) rfl ?_
    clear H; intro w6 H
    intro b5 w7 hn; replace H := H.new (by exact ⟨rfl, rfl, rfl, rfl⟩) hn; clear hn
    replace H := H.reown 1 0 rfl (by simp)
    refine ⟨_, _, _, H.ld (cs := opC p) (b := bo) (T := 29) (by exact ⟨rfl, rfl, rfl, rfl⟩) rsclU (.tail _ (.tail _ (.head _))) rfl, ?_⟩
    have hob := ((hms.chg0 H.chg).ops p hpm).b
    have hbig : p.2.b.length ≤ 140737488355328 := Nat.le_trans (hbigs p hpm) (by decide)
    refine Hp.app eltU8 (by omega) H (by exact ⟨rfl, rfl, rfl, rfl⟩) (hob.src undSU8 (bcells_ones _)) (by simp only [maxLen]; omega) (by omega) ?_
    clear H; intro a8 c8 w8 H
    simp only [List.nil_append, Nat.zero_add] at H ⊢
    obtain ⟨ow2, how2⟩ : ∃ ow2 : OW, ow2 = ⟨a8, c8, p.1.pa, p.1.pc⟩ := ⟨_, rfl⟩
    refine Hp.st (o := 4) (cs' := opC (ow2, p.2)) H.pull1 (by exact ⟨rfl, rfl, rfl, rfl⟩) rsclU rfl rfl (by simp [opC]) (by rw [how2]; rfl) ?_
    clear H; intro w9 H
    refine ⟨_, _, _, _, _, _, _, _, _, _, _, _, _, _, _, _, H.ldA (cs := valC vc C) (b := b3) (T := 41) (by exact ⟨rfl, rfl, rfl, rfl⟩) raggD (.tail _ (.tail _ (.tail _ (.head _)))) rfl rfl, ?_⟩
    refine ⟨_, _, _, _, _, _, _, _, _, _, H.ldA (cs := opC p) (b := bo) (T := 29) (by exact ⟨rfl, rfl, rfl, rfl⟩) raggO (.tail _ (.tail _ (.head _))) rfl rfl, ?_⟩
    obtain ⟨r1, r2, r3⟩ := both_rd (H.ok (bothA G v d vc C) (.tail _ (.tail _ (.tail _ (.tail _ (.head _))))))
    have hdo := rdo_spec r2 r3 hy.dk fC.few (by omega) (fC.since hy.dk (by omega)) (fC.used (by omega)) ((hms.chg0 H.chg).ops p hpm)
    rw [← doP_doR] at hdo
    refine callV hdo ?_
    intro e w10 hpost
    obtain ⟨vn, Gn, rfl, H1⟩ := both_step H.pull4 hpost
    clear H hdo hpost
    have H := H1
    clear H1
    obtain ⟨Cn, hCn⟩ : ∃ Cn, Cn = (doP C p.2).1 := ⟨_, rfl⟩
    rw [← hCn] at H ⊢
    refine ⟨_, _, _, _, _, _, _, _, _, _, _, _, _, _, _, _, _, _, rfl, ?_⟩
    intro b8 w11 hn; replace H := H.new (by exact ⟨rfl, rfl, rfl, rfl⟩) hn; clear hn
    intro b9 w12 hn; replace H := H.new (by exact ⟨rfl, rfl, rfl, rfl⟩) hn; clear hn
    refine Hp.stA H.pull1 (by exact ⟨rfl, rfl, rfl, rfl⟩) raggD (vs := valC vn Cn) (cs' := valC vn Cn) rfl rfl (by simp) rfl ?_
    clear H; intro w13 H
    refine Hp.stA H.pull1 (by exact ⟨rfl, rfl, rfl, rfl⟩) raggA (vs := [sv (doP C p.2).2.1, .int .i64 (doP C p.2).2.2]) (cs' := [sv (doP C p.2).2.1, .int .i64 (doP C p.2).2.2]) rfl rfl (by simp) rfl ?_
    clear H; intro w14 H
    refine ⟨_, _, _, _, _, _, _, _, _, _, _, _, _, _, _, _, H.ldA (cs := valC vn Cn) (b := b8) (T := 41) (by exact ⟨rfl, rfl, rfl, rfl⟩) raggD (.tail _ (.head _)) rfl rfl, ?_⟩
    refine Hp.stA H.pull6 (by exact ⟨rfl, rfl, rfl, rfl⟩) raggD (cs' := valC vn Cn) rfl rfl (by simp [valC]) rfl ?_
    clear H; intro w15 H
    refine ⟨_, _, _, _, _, _, _, _, _, _, H.ldA (cs := opC (ow2, p.2)) (b := bw) (T := 29) (by exact ⟨rfl, rfl, rfl, rfl⟩) raggO (.tail _ (.tail _ (.tail _ (.tail _ (.head _))))) rfl rfl, ?_⟩
    have H2 : Hp [] W w15 (dkL y C ++ (.own 5 1 a8 p.2.b.length c8 (bcells p.2.b) :: .blk bw (opC (ow2, p.2)) 29 :: .blk b9 [sv (doP C p.2).2.1, .int .i64 (doP C p.2).2.2] 32 :: .blk bo (opC p) 29 :: .blk b3 (valC vn Cn) 41 :: bothA Gn v d vn Cn :: .blk b2 (valC v d) 41 :: dkL x d)) := by
      have H3 := H.perm (perm_cnt (M := .blk b8 (valC vn Cn) 41 :: (dkL y C ++ (.own 5 1 a8 p.2.b.length c8 (bcells p.2.b) :: .blk bw (opC (ow2, p.2)) 29 :: .blk b9 [sv (doP C p.2).2.1, .int .i64 (doP C p.2).2.2] 32 :: .blk bo (opC p) 29 :: .blk b3 (valC vn Cn) 41 :: bothA Gn v d vn Cn :: .blk b2 (valC v d) 41 :: dkL x d))) fun ff gg h0 hc ha hpm => by simp only [ha, hc, h0]; omega)
      exact H3.drop
    clear H
    have hds := does_same y C hy fC (by omega) (G0 := blks a8 ++ blks p.1.pa) (ow := ow2) (o := p.2) w15 (fun W' hW => by
      have hpk := (hms.stable H2 hpm W' hW).picks
      have hb1 : SC (blks a8 ++ blks p.1.pa) w15 a8 p.2.b.length c8 1 (bcells p.2.b) := .ofOwn (H2.ownA (List.mem_append_right _ (.head _))) fun k hk => List.mem_append_left _ hk
      have hb2 := Hp.cellsSt (sz := 1) H2 (.head _) W' hW
      rw [how2]
      exact ⟨⟨hb2, hb1.inF, hb1.len, hb1.le, hb1.nil⟩, ⟨hpk.cells, fun k hk => List.mem_append_right _ hk, hpk.len, hpk.le, hpk.nil⟩⟩) (fun _ => hms.rng p hpm) (fun _ => hms.rng p hpm) k9 H2.std1
    rw [hyb] at hds
    refine callV hds ?_
    rintro e w16 ⟨y', hyb', rfl, hy', H'⟩
    replace H2 := H2.useL H'; clear H' hds
    have hyb2 : y'.b = y0.b := hyb'
    rw [← hCn] at hy' H2
    have fC' : Cn.Fit (300 + (k + 1)) := by rw [hCn]; exact doP_fit fC hy.dk p.2
    obtain ⟨LL, hLL⟩ : ∃ LL : List Asn, LL = .blk b9 [sv (doP C p.2).2.1, .int .i64 (doP C p.2).2.2] 32 :: .blk bo (opC p) 29 :: .blk b3 (valC vn Cn) 41 :: bothA Gn v d vn Cn :: .blk b2 (valC v d) 41 :: (dkL y' Cn ++ dkL x d) := ⟨_, rfl⟩
    have H : Hp [] W w16 (.own 5 1 a8 p.2.b.length c8 (bcells p.2.b) :: .blk bw (opC (ow2, p.2)) 29 :: LL) := by
      rw [hLL]
      exact H2.perm (perm_cnt fun ff gg h0 hc ha hpm => by simp only [ha, hc, h0]; omega)
    clear H2
    refine ⟨_, _, _, rfl, ?_⟩
    intro b11 w17 hn; replace H := H.new (by exact ⟨rfl, rfl, rfl, rfl⟩) hn; clear hn
    refine Hp.stA H (by exact ⟨rfl, rfl, rfl, rfl⟩) raggA (vs := [sv (doP C p.2).2.1, .int .i64 (doP C p.2).2.2]) (cs' := [sv (doP C p.2).2.1, .int .i64 (doP C p.2).2.2]) rfl rfl (by simp) rfl ?_
    clear H; intro w18 H
    have e4 : (opC (ow2, p.2))[4]? = some (.slice a8 p.2.b.length c8) := by rw [how2]; rfl
    refine ⟨_, _, _, H.ld (cs := opC (ow2, p.2)) (b := bw) (T := 29) (by exact ⟨rfl, rfl, rfl, rfl⟩) rsclU (.tail _ (.tail _ (.head _))) e4, ?_⟩
    refine LoopP.mk (fun (m : Nat) (s : Int) (w' : World) => ∃ (j : Nat) (xs : List Value), m = p.2.b.length - j ∧ j ≤ p.2.b.length ∧ s = (j : Int) ∧ xs.length = p.2.b.length ∧ IsB xs ∧
        Hp [] W w' (.own 5 1 a8 p.2.b.length c8 xs :: .blk b11 [sv (doP C p.2).2.1, .int .i64 (doP C p.2).2.2] 32 :: .blk bw (opC (ow2, p.2)) 29 :: LL)) p.2.b.length ⟨0, _, by omega, by omega, rfl, bcells_length _, isB_bcells _, H.pull1⟩ ?_
    clear H hld
    rintro m s w19 next1 ⟨j, xs, rfl, hj, rfl, hxl, hxb, H⟩ hnext1
    refine br_dec (fun h4 => ?_) (fun h4 => ?_)
    · replace H := H.drew
      refine ⟨_, _, _, H.ld (cs := opC (ow2, p.2)) (b := bw) (T := 29) (by exact ⟨rfl, rfl, rfl, rfl⟩) rsclU (.tail _ (.tail _ (.head _))) e4, ?_⟩
      refine ⟨_, _, _, H.ld (cs := opC (ow2, p.2)) (b := bw) (T := 29) (by exact ⟨rfl, rfl, rfl, rfl⟩) rsclU (.tail _ (.tail _ (.head _))) e4, ?_⟩
      obtain ⟨i, hi⟩ := hxb.at (show j < xs.length by omega)
      obtain ⟨ad, had, hld⟩ := H.ldO (P := Go.Proofs.Try.prog) (w' := w19.drew) (t := 5) (o := Int.toNat (j : Int) * 1) (by exact ⟨rfl, rfl, rfl, rfl⟩) sclU8 (.head _) (by rw [Int.toNat_natCast, Nat.mul_one]; exact hi)
      refine onP_mk had ⟨⟨by omega, by omega⟩, _, hld, ?_⟩
      refine onP_mk had ⟨⟨by omega, by omega⟩, ?_⟩
      refine Hp.stO1 (o := Int.toNat (j : Int) * 1) H (by exact ⟨rfl, rfl, rfl, rfl⟩) sclU8 had rfl rfl (by omega) ?_
      clear H; intro w20 H
      exact ⟨inR64.2 (by omega), hnext1 (p.2.b.length - (j + 1)) _ _ (by omega) ⟨j + 1, _, rfl, by omega, by simp, by rw [List.length_set]; exact hxl, hxb.set _ _, H⟩⟩
    · replace H := H.drop
      rw [hLL] at H
      refine ⟨_, _, H.ldA (by exact ⟨rfl, rfl, rfl, rfl⟩) raggA (.head _) rfl rfl, ?_⟩
      refine ⟨_, _, H.ldA (b := b9) (T := 32) (cs := [sv (doP C p.2).2.1, .int .i64 (doP C p.2).2.2]) (by exact ⟨rfl, rfl, rfl, rfl⟩) raggA (.tail _ (.tail _ (.head _))) rfl rfl, ?_⟩
      refine ⟨false, eqv_neq flatAns rfl rfl (by simp [eqL, sEq]), ?_⟩
      refine br_false ?_
      refine ⟨_, H.ld (cs := opC p) (b := bo) (T := 29) (by exact ⟨rfl, rfl, rfl, rfl⟩) sclStr (.tail _ (.tail _ (.tail _ (.head _)))) rfl, ?_⟩
      have H2 : Hp [] W w19 (.blk b11 [sv (doP C p.2).2.1, .int .i64 (doP C p.2).2.2] 32 :: .blk bw (opC (ow2, p.2)) 29 :: .blk b9 [sv (doP C p.2).2.1, .int .i64 (doP C p.2).2.2] 32 :: .blk bo (opC p) 29 :: .blk b3 (valC vn Cn) 41 :: bothA Gn v d vn Cn :: .blk b2 (valC v d) 41 :: (dkL y' Cn ++ dkL x d)) := H
      replace H2 := H2.drop.drop.drop.drop
      clear H
      have hrs := read_spec y' Cn hy' p.2.name 0 w19 H2.drop.drop.drop.takeL.std
      rw [hyb2] at hrs
      refine callV hrs ?_
      rintro e w20 ⟨a20, c20, rfl, H'⟩
      have H := H2.ext H'
      clear H' H2 hrs
      simp only [List.cons_append, List.nil_append] at H
      refine ⟨_, _, _, _, rfl, ?_⟩
      have hrl : (C.read p.2.name 0).1.length ≤ 512 ∨ True := .inr trivial
      generalize (Cn.read p.2.name 0).1 = bb at H ⊢
      have hbb : bb.length ≤ 9223372036854775807 := by
        have h7 := (H.ownA (.head _)).le
        simp only [maxLen] at h7; omega
      refine LoopP.mk (fun (m : Nat) (s : Int) (w' : World) => ∃ (j : Nat) (xs : List Value), m = bb.length - j ∧ j ≤ bb.length ∧ s = (j : Int) ∧ xs.length = bb.length ∧ IsB xs ∧
          Hp [] W w' (.own 81 1 a20 bb.length c20 xs :: .blk b3 (valC vn Cn) 41 :: bothA Gn v d vn Cn :: .blk b2 (valC v d) 41 :: (dkL y' Cn ++ dkL x d))) bb.length ⟨0, _, by omega, by omega, rfl, bcells_length _, isB_bcells _, H⟩ ?_
      clear H
      rintro m s w21 next2 ⟨j2, xs2, rfl, hj2, rfl, hxl2, hxb2, H⟩ hnext2
      refine br_dec (fun h5 => ?_) (fun h5 => ?_)
      · obtain ⟨i, hi⟩ := hxb2.at (show j2 < xs2.length by omega)
        obtain ⟨ad, had, hld⟩ := H.ldO (P := Go.Proofs.Try.prog) (w' := w21) (t := 5) (o := Int.toNat (j2 : Int) * 1) (by exact ⟨rfl, rfl, rfl, rfl⟩) sclU8 (.head _) (by rw [Int.toNat_natCast, Nat.mul_one]; exact hi)
        refine onP_mk had ⟨⟨by omega, by omega⟩, _, hld, ?_⟩
        refine onP_mk had ⟨⟨by omega, by omega⟩, ?_⟩
        refine Hp.stO1 (o := Int.toNat (j2 : Int) * 1) H (by exact ⟨rfl, rfl, rfl, rfl⟩) sclU8 had rfl rfl (by omega) ?_
        clear H; intro w22 H
        exact ⟨inR64.2 (by omega), hnext2 (bb.length - (j2 + 1)) _ _ (by omega) ⟨j2 + 1, _, rfl, by omega, by simp, by rw [List.length_set]; exact hxl2, hxb2.set _ _, H⟩⟩
      · exact ⟨inR64.2 (by omega), hnext (ms.length - (k + 1)) _ _ (by omega) ⟨k + 1, y', Cn, vn, Gn, rfl, by omega, by simp, hyb2, hy', fC', H.drop⟩⟩
  · refine callV (alive_spec w1) ?_
    rintro e w2 ⟨rfl, H'⟩; replace H := H.ext0 H'; clear H'
    refine ⟨_, rfl, br_true ?_⟩
    refine ⟨_, _, _, _, _, _, _, _, _, _, _, _, _, _, _, _, H.ldA (cs := valC vc C) (by exact ⟨rfl, rfl, rfl, rfl⟩) raggD (.head _) rfl rfl, ?_⟩
    obtain ⟨r1, r2, r3⟩ := both_rd (H.ok (bothA G v d vc C) (.tail _ (.head _)))
    have hst := stands_spec y C C hy fC (by omega) (Same.refl _) hy.dk w2 H.drop.drop.drop.takeL.std r2
    rw [hyb] at hst
    refine callV hst ?_
    rintro e w3 ⟨rfl, H'⟩; replace H := H.ext0 H'; clear H'
    refine ⟨_, rfl, br_true ?_⟩
    refine ⟨_, _, _, _, _, _, _, _, _, _, _, _, _, _, _, _, H.ldA (cs := valC v d) (b := b2) (T := 41) (by exact ⟨rfl, rfl, rfl, rfl⟩) raggD (.tail _ (.tail _ (.head _))) rfl rfl, ?_⟩
    obtain ⟨r1, r2, r3⟩ := both_rd (H.ok (bothA G v d vc C) (.tail _ (.head _)))
    refine callV (stands_spec x d d hx fitN (by omega) (Same.refl _) hx.dk w3 (H.drop.drop.drop.perm List.perm_append_comm).takeL.std r1) ?_
    rintro e w4 ⟨rfl, H'⟩; replace H := H.ext0 H'; clear H'
    exact ⟨_, rfl, rfl, H.done⟩
end Go.Proofs.Ytnmlkecmokhhhaa
