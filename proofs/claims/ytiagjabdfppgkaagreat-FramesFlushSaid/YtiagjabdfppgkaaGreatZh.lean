/- Slate: 'Load'. -/
import Derived.Test.YtiagjabdfppgkaaGreatZg
set_option linter.unusedVariables false
set_option linter.unusedSimpArgs false
set_option maxRecDepth 100000
namespace Go.Proofs.YtiagjabdfppgkaaGreat.Sl
open Go Go.Vc

def upto (L : Recs) (k : Nat) : Recs := L.filter fun p => decide (p.1 < k)
theorem upto_sorted {L : Recs} (h : L.Pairwise fun a b => a.1 < b.1) (k : Nat) : (upto L k).Pairwise fun a b => a.1 < b.1 := h.filter _
theorem upto_all {L : Recs} {m : Nat} (h : ∀ p ∈ L, p.1 < m) : upto L m = L := List.filter_eq_self.2 fun p hp => by simpa using h p hp
theorem insR_end (x : Nat × List UInt8) : ∀ L : Recs, (∀ p ∈ L, p.1 < x.1) → insR x L = L ++ [x]
  | [], _ => rfl
  | p :: r, h => by
    rw [insR, if_neg (by have := h p (.head _); omega), insR_end x r fun q hq => h q (.tail _ hq)]; rfl
theorem tot_sub (L : Recs) (f : Nat × List UInt8 → Bool) : tot (L.filter f) ≤ tot L := by
  induction L with
  | nil => exact Nat.le_refl _
  | cons p r ih =>
    rw [List.filter_cons, tot_cons]
    split
    · rw [tot_cons]; omega
    · omega
/-- two lists that rise, of the same members -/
theorem risen_eq : ∀ {x y : Recs}, x.Pairwise (fun a b => a.1 < b.1) → y.Pairwise (fun a b => a.1 < b.1) → (∀ p, p ∈ x ↔ p ∈ y) → x = y
  | [], [], _, _, _ => rfl
  | [], b :: y, _, _, h => by have := (h b).2 (.head _); cases this
  | a :: x, [], _, _, h => by have := (h a).1 (.head _); cases this
  | a :: x, b :: y, hx, hy, h => by
    obtain ⟨hx1, hx2⟩ := List.pairwise_cons.1 hx
    obtain ⟨hy1, hy2⟩ := List.pairwise_cons.1 hy
    have hab : a = b := by
      rcases List.mem_cons.1 ((h a).1 (.head _)) with e | m
      · exact e
      · rcases List.mem_cons.1 ((h b).2 (.head _)) with e | m'
        · exact e.symm
        · have := hy1 a m; have := hx1 b m'; omega
    subst hab
    congr 1
    refine risen_eq hx2 hy2 fun k => ⟨fun hk => ?_, fun hk => ?_⟩
    · rcases List.mem_cons.1 ((h k).1 (.tail _ hk)) with e | m
      · subst e; have := hx1 k hk; omega
      · exact m
    · rcases List.mem_cons.1 ((h k).2 (.tail _ hk)) with e | m
      · subst e; have := hy1 k hk; omega
      · exact m
theorem upto_step {L : Recs} (hs : L.Pairwise fun a b => a.1 < b.1) {k : Nat} {s : List UInt8} (h : (k, s) ∈ L) : insR (k, s) (wo (upto L k) k) = upto L (k + 1) := by
  have hwo : wo (upto L k) k = upto L k := wo_none fun t ht => by simp [upto] at ht
  rw [hwo]
  refine risen_eq (insR_sorted _ _ (upto_sorted hs k) fun p hp => by simp [upto] at hp; simp only; omega) (upto_sorted hs _) fun p => ?_
  rw [insR_mem]
  simp only [upto, List.mem_filter, decide_eq_true_eq]
  constructor
  · rintro (rfl | ⟨h1, h2⟩)
    · exact ⟨h, by simp⟩
    · exact ⟨h1, by omega⟩
  · rintro ⟨h1, h2⟩
    by_cases hp : p.1 = k
    · left
      obtain ⟨j, t⟩ := p
      simp only at hp
      subst hp
      rw [one_key hs h1 h]
    · exact .inr ⟨h1, by omega⟩
theorem upto_skip {L : Recs} {k : Nat} (h : ∀ s, (k, s) ∉ L) : upto L (k + 1) = upto L k := by
  refine List.filter_congr fun p hp => ?_
  have : p.1 ≠ k := fun e => h p.2 (by rw [← e]; exact hp)
  simp only [decide_eq_decide]; omega

set_option maxHeartbeats 1000000 in
theorem load_any (bb c0 : Nat) (g : Pg) (L : Recs) (stamp : Nat) (hR : Rep g L stamp) (w : World) (h : Cells w (some ⟨bb, 0, none⟩) (bcells g.bs)) (hc0 : 4096 ≤ c0) :
    Calls Tryz.prog 66 #[.slice (some ⟨bb, 0, none⟩) 4096 c0] w fun e w' => ∃ b' g', e = .returned (.tuple #[.pointer (some ⟨b', 0, none⟩), .int .i64 0]) ∧ Rep g' L stamp ∧ Hp [] w w' [pgA b' g'] := by
  apply load.ok
  unfold load.vc
  have H := Hp.start w
  have hok := hR.ok
  have hml := hok.many
  have hhdr := hR.hdr
  have hmax : maxLen = 9223372036854775807 := by simp [maxLen]
  have hbl : (bcells g.bs).length = 4096 := by rw [bcells_length, hok.len]
  (intro _ _ hn; replace H := H.new (by exact ⟨rfl, rfl, rfl, rfl⟩) hn; clear hn)
  (intro _ _ hn; replace H := H.new (by exact ⟨rfl, rfl, rfl, rfl⟩) hn; clear hn)
  (intro _ _ hn; replace H := H.new (by exact ⟨rfl, rfl, rfl, rfl⟩) hn; clear hn)
  rename_i b0 _ b1 _ b2 _
  ((repeat apply Exists.intro); first | refine ⟨H.ld (by exact ⟨rfl, rfl, rfl, rfl⟩) (by first | exact scl3 | exact scl23 | exact scl34 | exact scl37) (by repeat first | exact .head _ | refine .tail _ ?_) rfl, ?_⟩ | refine ⟨H.ldA (by exact ⟨rfl, rfl, rfl, rfl⟩) (by first | exact agg54 | exact agg52) (by repeat first | exact .head _ | refine .tail _ ?_) rfl rfl, ?_⟩)
  refine br_ndec (fun hn => absurd rfl hn) (fun _ => ?_)
  rw [zl54]
  (intro _ _ hn; replace H := H.new (by exact ⟨rfl, rfl, rfl, rfl⟩) hn; clear hn)
  rename_i b3 _
  ((repeat apply Exists.intro); first | refine ⟨H.ld (by exact ⟨rfl, rfl, rfl, rfl⟩) (by first | exact scl3 | exact scl23 | exact scl34 | exact scl37) (by repeat first | exact .head _ | refine .tail _ ?_) rfl, ?_⟩ | refine ⟨H.ldA (by exact ⟨rfl, rfl, rfl, rfl⟩) (by first | exact agg54 | exact agg52) (by repeat first | exact .head _ | refine .tail _ ?_) rfl rfl, ?_⟩)
  replace H := H.drew
  have hbb := h.chg H.chg (by simp)
  refine Hp.cpy (o := 0) (n := 4096) (m := 4096) H (by exact ⟨rfl, rfl, rfl, rfl⟩) und37 scl5.size (Cells.src (n := 4096) und37 hbb (by rw [hbl]) (bcells_one _) (fun h => by cases h)) (by omega) (by rw [(gZ_ok (by omega)).clen]; omega) ?_
  clear H
  intro w5 H
  obtain ⟨gr, hgr⟩ : ∃ gr : Pg, gr = { g with many := 0, low := 0 } := ⟨_, rfl⟩
  have okr : gr.Ok := by rw [hgr]; exact ⟨hok.st, hok.hdr, hok.dir, hok.data, by show 0 ≤ 120; omega, hok.ent, by show 0 ≤ 4096; omega⟩
  have hraw : over (bcells g.bs) 0 (gZ 0).cells = gr.cells := by
    have := over_app (bcells g.bs) [] (bcells (gZ 0).bs) [.int .i64 ((0 : Nat) : Int), .int .i64 ((0 : Nat) : Int)] (by rw [hbl, bcells_length, (gZ_ok (by omega)).len])
    rw [hgr]
    exact this
  rw [hraw] at H
  refine callV (two_spec b3 gr 8 (by omega) _ (pgOf okr H (by exact ⟨rfl, rfl, rfl, rfl⟩) (.head _))) ?_
  rintro e w6 ⟨rfl, H'⟩; replace H := H.ext0 H'; clear H'
  refine ⟨_, rfl, ?_⟩
  have h8 : (valN ((gr.bs.drop 8).take 2) : Int) = (g.many : Int) := by
    have e1 : gr.bs.drop 8 = be (g.hdr : Int) 2 ++ (dirB g.dir ++ g.data) := by
      rw [hgr]
      show (g.st ++ (be (g.hdr : Int) 2 ++ (dirB g.dir ++ g.data))).drop 8 = _
      exact drop_left _ _ _ hok.st
    rw [e1, take_left _ _ 2 (be_length _ 2), hhdr]
    exact valN_be' (by omega) (by omega)
  rw [h8]
  refine Hp.st H (by exact ⟨rfl, rfl, rfl, rfl⟩) scl3 rfl rfl (by rw [okr.clen]; omega) (Pg.set_many okr _) ?_
  clear H
  intro w7 H
  obtain ⟨g2, hg2⟩ : ∃ g2 : Pg, g2 = { gr with many := g.many } := ⟨_, rfl⟩
  have ok2 : g2.Ok := by rw [hg2]; exact ⟨okr.st, okr.hdr, okr.dir, okr.data, hml, okr.ent, okr.low⟩
  rw [← hg2] at H
  have hbs2 : g2.bs = g.bs := by rw [hg2, hgr]; rfl
  have hst2 : g2.st = g.st := by rw [hg2, hgr]
  have hat2 : ∀ k, atOf g2 k = atOf g k := fun k => by rw [hg2, hgr]; rfl
  have hln2 : ∀ k, lenOf g2 k = lenOf g k := fun k => by rw [hg2, hgr]; rfl
  have hm2 : g2.many = g.many := by rw [hg2]
  refine callV (new_any _) ?_
  rintro e w8 ⟨p, rfl, H'⟩; replace H := H.ext1 H'; clear H'
  refine ⟨_, rfl, ?_⟩
  replace H : Hp [] w w8 [pgA b3 g2, pgA p (gZ 4096), .blk b2 [.int .i64 0] 34, .blk b1 [.pointer none] 37, .blk b0 [.slice (some ⟨bb, 0, none⟩) 4096 c0] 111] := by ((try dsimp only [List.cons_append, List.nil_append]); (try dsimp only [List.cons_append, List.nil_append] at H); refine Hp.perm H ?_; (repeat (apply perm_step; (focus first | exact perm_p0 | exact perm_p1 | exact perm_p2 | exact perm_p3 | exact perm_p4 | exact perm_p5 | exact perm_p6 | exact perm_p7 | exact perm_p8 | exact perm_p9))); exact List.Perm.refl _)
  (intro _ _ hn; replace H := H.new (by exact ⟨rfl, rfl, rfl, rfl⟩) hn; clear hn)
  rename_i b4 _
  ((first | (apply Hp.st; (case H => first | exact H | exact H.pull1 | exact H.pull2 | exact H.pull3 | exact H.pull4 | exact H.pull5 | exact H.pull6 | exact H.pull7); (case e => exact ⟨rfl, rfl, rfl, rfl⟩); (case S => exact (by first | exact scl3 | exact scl23 | exact scl34 | exact scl37)); (case hv => exact rfl); (case h1 => exact rfl); (case ho => exact Nat.le_of_ble_eq_true rfl); (case hc => exact rfl)) | (apply Hp.stA; (case H => first | exact H | exact H.pull1 | exact H.pull2 | exact H.pull3 | exact H.pull4 | exact H.pull5 | exact H.pull6 | exact H.pull7); (case e => exact ⟨rfl, rfl, rfl, rfl⟩); (case S => exact (by first | exact agg54 | exact agg52)); (case hn => exact rfl); (case h1 => exact rfl); (case ho => exact Nat.le_of_ble_eq_true rfl); (case hc => exact rfl))); clear H; intro _ H; (try simp only [over, List.set_cons_zero, List.set_cons_succ] at H))
  refine ⟨_, (pgOf ok2 H (by exact ⟨rfl, rfl, rfl, rfl⟩) (by repeat first | exact .head _ | refine .tail _ ?_)).ldMany, ?_⟩
  rw [hm2]
  refine br_dec (fun h0 => absurd h0 (by omega)) (fun _ => ?_)
  ((repeat apply Exists.intro); first | refine ⟨H.ld (by exact ⟨rfl, rfl, rfl, rfl⟩) (by first | exact scl3 | exact scl23 | exact scl34 | exact scl37) (by repeat first | exact .head _ | refine .tail _ ?_) rfl, ?_⟩ | refine ⟨H.ldA (by exact ⟨rfl, rfl, rfl, rfl⟩) (by first | exact agg54 | exact agg52) (by repeat first | exact .head _ | refine .tail _ ?_) rfl rfl, ?_⟩)
  have hvs : (valN g2.st : Int) = (stamp : Int) := by
    rw [hst2, hR.st]; exact valN_be' (by omega) (by have := hR.stamp; omega)
  have hsl := hR.stamp
  refine callV (stamp_spec b3 g2 (by omega) _ (pgOf ok2 H (by exact ⟨rfl, rfl, rfl, rfl⟩) (by repeat first | exact .head _ | refine .tail _ ?_))) ?_
  rintro e w9 ⟨rfl, H'⟩; replace H := H.drew.ext0 H'; clear H'
  rw [hvs]
  refine ⟨_, rfl, ?_⟩
  refine ⟨H.ld (by exact ⟨rfl, rfl, rfl, rfl⟩) scl23 (by repeat first | exact .head _ | refine .tail _ ?_) rfl, ?_⟩
  replace H : Hp [] w w9 (pgA p (gZ 4096) :: [pgA b3 g2, .blk b4 [.pointer (some ⟨p, 0, none⟩)] 37, .blk b2 [.int .i64 0] 34, .blk b1 [.pointer none] 37, .blk b0 [.slice (some ⟨bb, 0, none⟩) 4096 c0] 111]) := by ((try dsimp only [List.cons_append, List.nil_append]); (try dsimp only [List.cons_append, List.nil_append] at H); refine Hp.perm H ?_; (repeat (apply perm_step; (focus first | exact perm_p0 | exact perm_p1 | exact perm_p2 | exact perm_p3 | exact perm_p4 | exact perm_p5 | exact perm_p6 | exact perm_p7 | exact perm_p8 | exact perm_p9))); exact List.Perm.refl _)
  refine callV (setStamp_any gZ_rep (H.ok _ (.head _)) (stamp : Int)) ?_
  have hoks : okStamp (stamp : Int) := ⟨by omega, by omega⟩
  rintro e w10 ⟨rfl, g3, hR3, H'⟩; replace H := Hp.use11 (a := pgA p _) H H'; clear H'
  rw [decide_eq_true hoks]
  rw [astamp, if_pos hoks, Int.toNat_natCast] at hR3
  refine ⟨_, rfl, ?_⟩
  refine br_not (fun h0 => by cases h0) (fun _ => ?_)
  replace H : Hp [] w w10 [pgA b3 g2, pgA p g3, .blk b4 [.pointer (some ⟨p, 0, none⟩)] 37, .blk b2 [.int .i64 0] 34, .blk b1 [.pointer none] 37, .blk b0 [.slice (some ⟨bb, 0, none⟩) 4096 c0] 111] := by ((try dsimp only [List.cons_append, List.nil_append]); (try dsimp only [List.cons_append, List.nil_append] at H); refine Hp.perm H ?_; (repeat (apply perm_step; (focus first | exact perm_p0 | exact perm_p1 | exact perm_p2 | exact perm_p3 | exact perm_p4 | exact perm_p5 | exact perm_p6 | exact perm_p7 | exact perm_p8 | exact perm_p9))); exact List.Perm.refl _)
  refine ⟨_, _, _, rfl, ⟨_, _, Tryz.func38, rfl⟩, ?_⟩
  refine range_each b3 g.many (fun _ _ => g2) (fun k (x : Pg) => [pgA b3 g2, pgA p x, .blk b4 [.pointer (some ⟨p, 0, none⟩)] 37, .blk b2 [.int .i64 0] 34, .blk b1 [.pointer none] 37, .blk b0 [.slice (some ⟨bb, 0, none⟩) 4096 c0] 111]) (fun k x => Rep x (upto L k) stamp) (fun _ : Unit => []) (fun _ => False) g3
    (by have : upto L 0 = [] := by simp [upto]
        show Rep g3 (upto L 0) stamp
        rw [this]; exact hR3) H
    (fun k x w' T _ H => ⟨pgOf ok2 H (by exact ⟨rfl, rfl, rfl, rfl⟩) (.head _), hm2⟩) (fun k x hk hx h0 => ⟨x, by
      rw [hat2] at h0
      rw [upto_skip fun s hs => by have := (hR.at_ hs).1; omega]
      exact hx, rfl⟩) ?_ ?_ (fun y D w' hs _ => hs.elim)
  · clear H
    intro k x hk hx h0 w' T0 T1 begin kn kr kx _ hbeg hkn _
    refine hbeg _ fun w2 H => ?_
    simp only [List.cons_append, List.nil_append] at H
    rw [hat2] at h0
    obtain ⟨s, hs⟩ := hR.mem_live.1 ⟨hk, h0⟩
    have hat := hR.at_ hs
    refine callV (slot_in b3 g2 k (by omega) _ (pgOf ok2 H (by exact ⟨rfl, rfl, rfl, rfl⟩) (.head _))) ?_
    rintro e w4 ⟨rfl, H'⟩; replace H := H.ext0 H'; clear H'
    rw [hat2, hln2]
    refine ⟨_, _, rfl, ?_⟩
    refine br_dec (fun h1 => absurd h1 (by omega)) (fun _ => ?_)
    refine ⟨inR64.2 (by omega), br_dec (fun h1 => absurd h1 (by omega)) (fun _ => ?_)⟩
    ((repeat apply Exists.intro); first | refine ⟨H.ld (by exact ⟨rfl, rfl, rfl, rfl⟩) (by first | exact scl3 | exact scl23 | exact scl34 | exact scl37) (by repeat first | exact .head _ | refine .tail _ ?_) rfl, ?_⟩ | refine ⟨H.ldA (by exact ⟨rfl, rfl, rfl, rfl⟩) (by first | exact agg54 | exact agg52) (by repeat first | exact .head _ | refine .tail _ ?_) rfl rfl, ?_⟩)
    ((repeat apply Exists.intro); first | refine ⟨H.ld (by exact ⟨rfl, rfl, rfl, rfl⟩) (by first | exact scl3 | exact scl23 | exact scl34 | exact scl37) (by repeat first | exact .head _ | refine .tail _ ?_) rfl, ?_⟩ | refine ⟨H.ldA (by exact ⟨rfl, rfl, rfl, rfl⟩) (by first | exact agg54 | exact agg52) (by repeat first | exact .head _ | refine .tail _ ?_) rfl rfl, ?_⟩)
    have e1 : Int.toNat (atOf g k : Int) = atOf g k := by omega
    have e2 : Int.toNat ((atOf g k : Int) + (lenOf g k : Int)) = atOf g k + lenOf g k := by omega
    refine ⟨inR64.2 (by omega), ⟨by omega, by omega, by omega⟩, ⟨s.toArray⟩, ?_, ?_⟩
    · rw [e1, e2, show atOf g k + lenOf g k - atOf g k = s.length by omega]
      have hcl : Cells w4 (some ⟨bb, 0, none⟩) (bcells g.bs) := h.chg H.chg (by simp)
      have hc2 := (hcl.slA (c := c0) (i := atOf g k) (by omega)).take s.length
      have hrec : ((bcells g.bs).drop (atOf g k)).take s.length = bcells s := by
        have := hat.2.2.2
        rw [recB, hat.2.1] at this
        rw [← this]
        simp [bcells, List.map_drop, List.map_take]
      rw [hrec] at hc2
      exact b2s und37 und5 und9 (by rw [byteCells_mk]; exact hc2) (by rw [mk_size])
    have hsl2 : s.length ≤ maxLen := by omega
    replace H : Hp [] w w4 (pgA p x :: pgA b3 g2 :: .blk b4 [.pointer (some ⟨p, 0, none⟩)] 37 :: .blk b2 [.int .i64 0] 34 :: .blk b1 [.pointer none] 37 :: .blk b0 [.slice (some ⟨bb, 0, none⟩) 4096 c0] 111 :: T1) := by ((try dsimp only [List.cons_append, List.nil_append]); (try dsimp only [List.cons_append, List.nil_append] at H); refine Hp.perm H ?_; (repeat (apply perm_step; (focus first | exact perm_p0 | exact perm_p1 | exact perm_p2 | exact perm_p3 | exact perm_p4 | exact perm_p5 | exact perm_p6 | exact perm_p7 | exact perm_p8 | exact perm_p9))); exact List.Perm.refl _)
    refine callV (put_spec p x (upto L k) stamp hx (k : Int) s _ (H.drew.ok _ (.head _))) ?_
    have hap : aput (upto L k) (k : Int) s = (upto L (k + 1), 0) := by
      have h1 := upto_step hR.sorted hs
      have h2 : tot (insR (k, s) (wo (upto L k) k)) = s.length + tot (wo (upto L k) k) := by rw [tot_perm (insR_perm _ _), tot_cons]
      have h3 : tot (upto L (k + 1)) ≤ tot L := tot_sub _ _
      have h4 := hR.small
      rw [h1] at h2
      rw [aput, if_neg (by omega), Int.toNat_natCast, if_neg (by omega), h1]
    rw [hap]
    rintro e w5 ⟨rfl, x', hx', H'⟩; replace H := Hp.use11 (a := pgA p _) H.drew H'; clear H'
    refine ⟨_, rfl, br_ndec (fun hz => absurd rfl hz) (fun _ => hkn _ x' hx' (by ((try dsimp only [List.cons_append, List.nil_append]); (try dsimp only [List.cons_append, List.nil_append] at H); refine Hp.perm H ?_; (repeat (apply perm_step; (focus first | exact perm_p0 | exact perm_p1 | exact perm_p2 | exact perm_p3 | exact perm_p4 | exact perm_p5 | exact perm_p6 | exact perm_p7 | exact perm_p8 | exact perm_p9))); exact List.Perm.refl _)))⟩
  · clear H
    intro x D w' hx H
    simp only [List.cons_append, List.nil_append] at H
    replace hx : Rep x L stamp := by
      have : upto L g.many = L := upto_all hR.below
      rw [this] at hx; exact hx
    ((repeat apply Exists.intro); first | refine ⟨H.ld (by exact ⟨rfl, rfl, rfl, rfl⟩) (by first | exact scl3 | exact scl23 | exact scl34 | exact scl37) (by repeat first | exact .head _ | refine .tail _ ?_) rfl, ?_⟩ | refine ⟨H.ldA (by exact ⟨rfl, rfl, rfl, rfl⟩) (by first | exact agg54 | exact agg52) (by repeat first | exact .head _ | refine .tail _ ?_) rfl rfl, ?_⟩)
    replace H : Hp [] w w' [.blk b1 [.pointer none] 37, .blk b2 [.int .i64 0] 34, pgA p x, objA D (.deferred (some []))] := by
      have H : Hp [] w w' ([.blk b1 [.pointer none] 37, .blk b2 [.int .i64 0] 34, pgA p x, objA D (.deferred (some [])), pgA b3 g2, .blk b4 [.pointer (some ⟨p, 0, none⟩)] 37, .blk b0 [.slice (some ⟨bb, 0, none⟩) 4096 c0] 111]) := by ((try dsimp only [List.cons_append, List.nil_append]); (try dsimp only [List.cons_append, List.nil_append] at H); refine Hp.perm H ?_; (repeat (apply perm_step; (focus first | exact perm_p0 | exact perm_p1 | exact perm_p2 | exact perm_p3 | exact perm_p4 | exact perm_p5 | exact perm_p6 | exact perm_p7 | exact perm_p8 | exact perm_p9))); exact List.Perm.refl _)
      exact H.del4.del4.del4
    refine Hp.st H (by exact ⟨rfl, rfl, rfl, rfl⟩) scl23 rfl rfl (by simp) rfl ?_
    clear H
    intro w3 H
    replace H := H.pull1
    refine Hp.st H (by exact ⟨rfl, rfl, rfl, rfl⟩) scl34 rfl rfl (by simp) rfl ?_
    clear H
    intro w4 H
    refine Hp.shut H.pull3 fun w5 H => ?_
    ((repeat apply Exists.intro); first | refine ⟨H.ld (by exact ⟨rfl, rfl, rfl, rfl⟩) (by first | exact scl3 | exact scl23 | exact scl34 | exact scl37) (by repeat first | exact .head _ | refine .tail _ ?_) rfl, ?_⟩ | refine ⟨H.ldA (by exact ⟨rfl, rfl, rfl, rfl⟩) (by first | exact agg54 | exact agg52) (by repeat first | exact .head _ | refine .tail _ ?_) rfl rfl, ?_⟩)
    ((repeat apply Exists.intro); first | refine ⟨H.ld (by exact ⟨rfl, rfl, rfl, rfl⟩) (by first | exact scl3 | exact scl23 | exact scl34 | exact scl37) (by repeat first | exact .head _ | refine .tail _ ?_) rfl, ?_⟩ | refine ⟨H.ldA (by exact ⟨rfl, rfl, rfl, rfl⟩) (by first | exact agg54 | exact agg52) (by repeat first | exact .head _ | refine .tail _ ?_) rfl rfl, ?_⟩)
    exact ⟨p, x, rfl, hx, H.drop.drop⟩
end Go.Proofs.YtiagjabdfppgkaaGreat.Sl
