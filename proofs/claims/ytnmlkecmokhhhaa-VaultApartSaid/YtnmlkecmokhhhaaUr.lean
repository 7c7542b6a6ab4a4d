/- Vault: scripts, by the program and by the document. -/
import Derived.Test.YtnmlkecmokhhhaaUq
import Derived.Test.YtnmlkecmokhhhaaEq
set_option linter.unusedVariables false
set_option linter.unusedSimpArgs false
set_option maxRecDepth 100000
namespace Go.Proofs.Ytnmlkecmokhhhaa
open Go Go.Vc Go.Vault

/-- the document's disk, as a thing of one's own -/
def refA (F : List Nat) (v : RV) (d : Dk) : Asn := .any F fun x => RD F x v d
theorem refA_ok {F : List Nat} {w : World} {v : RV} {d : Dk} (h : RD F w v d) (hF : ∀ k ∈ F, k < w.heap.size) : (refA F v d).ok w := ⟨hF, fun x hx => h.agree hx⟩
theorem refA_rd {F : List Nat} {w : World} {v : RV} {d : Dk} (h : (refA F v d).ok w) : RD F w v d ∧ ∀ k ∈ F, k < w.heap.size := ⟨h.2 w fun _ _ => rfl, h.1⟩
theorem RPostK.use {K : Value → Ending} {B F : List Nat} {w0 ws w' : World} {v : RV} {d d' : Dk} {L : List Asn} {e : Ending} (H : Hp B w0 ws (refA F v d :: L)) (hp : RPostK K F ws d' e w') : ∃ v' F', e = K (v'.val d') ∧ Hp B w0 w' (refA F' v' d' :: L) := by
  obtain ⟨v', F', rfl, hc, h1, h2, h3⟩ := hp
  exact ⟨v', F', rfl, H.set (hc.more (by simp)) (refA_ok h3 h2) h1⟩
/-- a document's disk more, this one kept -/
theorem RPostK.fork {K : Value → Ending} {B F : List Nat} {w0 ws w' : World} {L : List Asn} {d' : Dk} {e : Ending} (H : Hp B w0 ws L) (hp : RPostK K F ws d' e w') : Hp B w0 w' L := by
  obtain ⟨v', F', rfl, hc, h1, h2, h3⟩ := hp
  exact H.chg0 hc
theorem rd0 (w : World) (room : Int) : RD [] w RV0 (Dk.new room) := ⟨SC.ofNil _ _ _ _, rfl, by simp [RV0], SC.ofNil _ _ _ _, SC.ofNil _ _ _ _, SC.ofNil _ _ _ _, rfl, by simp [RV0]⟩
theorem val0 (room : Int) : RV0.val (Dk.new room) = .agg #[.int .i64 ((Dk.new room).room : Int), .slice none 0 0, .slice none 0 0, .slice none 0 0, .slice none 0 0, .int .i64 0, .int .i64 0, .bool false] := rfl

/-! ### Scripts -/
def opC (p : OW × Op) : List Value := [.int .i64 p.2.kind, .int .i64 p.2.n, .string p.2.name, .string p.2.to, .slice p.1.ba p.2.b.length p.1.bc, .slice p.1.pa p.2.picks.length p.1.pc]
def opCs (os : List (OW × Op)) : List Value := os.flatMap opC
def opF (p : OW × Op) : List Nat := blks p.1.ba ++ blks p.1.pa
structure Scr (W : World) (a : Option Addr) (os : List (OW × Op)) : Prop where
  cells : Cells W a (opCs os)
  ops : ∀ p ∈ os, OD (opF p) W p.1 p.2
  rng : ∀ p ∈ os, p.2.n ≤ 9223372036854775807
theorem Scr.chg0 {W W' : World} {a : Option Addr} {os : List (OW × Op)} (h : Scr W a os) (hc : Chg [] W W') : Scr W' a os := ⟨h.cells.chg hc (by simp), fun p hp => (h.ops p hp).chg0 hc, h.rng⟩
theorem opCs_at : ∀ {os : List (OW × Op)} {k : Nat} {p : OW × Op}, os[k]? = some p → ((opCs os).drop (k * 6)).take 6 = opC p
  | [], k, p, h => by simp at h
  | q :: r, 0, p, h => by
    simp at h; subst h
    rfl
  | q :: r, k + 1, p, h => by
    rw [List.getElem?_cons_succ] at h
    have ih := opCs_at h
    have e : opCs (q :: r) = opC q ++ opCs r := rfl
    rw [e, show (k + 1) * 6 = (opC q).length + k * 6 by simp [opC]; omega, List.drop_append, List.drop_eq_nil_of_le (by omega), List.nil_append, Nat.add_sub_cancel_left]
    exact ih
theorem Scr.ldA {W : World} {a : Option Addr} {os : List (OW × Op)} (h : Scr W a os) {k : Nat} {p : OW × Op} (hp : os[k]? = some p) : ∃ ad, a = some ad ∧ Ld Go.Proofs.Try.prog 29 W (ad.add (k * 6)) (.agg (opC p).toArray) := by
  have hx : opCs os ≠ [] := by
    intro h0
    have := opCs_at hp
    rw [h0, List.drop_nil, List.take_nil] at this
    cases this
  obtain ⟨ad, ha⟩ := h.cells.some hx
  exact ⟨ad, ha, h.cells.ldA raggO ha (opCs_at hp) rfl⟩
def playD (d : Dk) (os : List (OW × Op)) : Dk := os.foldl (fun d p => (doP d p.2).1) d
theorem playD_snoc (d : Dk) (os : List (OW × Op)) (p : OW × Op) : playD d (os ++ [p]) = (doP (playD d os) p.2).1 := by simp [playD]
theorem new_ok (room : Int) : (Dk.new room).Ok := ⟨by simp only [Dk.new]; omega, by simp [Dk.new], by simp [Dk.new], by simp [Dk.new], by simp [Dk.new, Rising], by simp [Dk.new], by simp [Dk.new]⟩
theorem flatAns : FlatT Go.Proofs.Try.prog 32 [(0, .inr 1), (1, .inl .i64)] := flat_of (by kernel_rfl)
theorem eqv_ptrD {p : Option Addr} {x y : Operand} {w : World} : Eqv Go.Proofs.Try.prog .eql 23 x y w (.pointer p) (.pointer none) p.isNone := eqv_ptrE (by kernel_rfl)
theorem eqv_ptrDN {p : Option Addr} {x y : Operand} {w : World} : Eqv Go.Proofs.Try.prog .neq 23 x y w (.pointer p) (.pointer none) (!p.isNone) := eqv_ptrN (by kernel_rfl)
/-- the call's data stand whatever the disk does -/
theorem Scr.stable {W w : World} {a : Option Addr} {os : List (OW × Op)} (h : Scr W a os) {L1 L2 : List Asn} (H : Hp [] W w (L1 ++ L2)) {p : OW × Op} (hp : p ∈ os) : ∀ W', Chg (feet L1) w W' → OD (opF p) W' p.1 p.2 := fun W' hc =>
  (h.ops p hp).chg0 (H.chg.trans hc (fun k hk => hk) fun k hk => by
    obtain ⟨b, hb, hbf⟩ := mem_feet.1 hk
    rcases H.own b (List.mem_append_left _ hb) k hbf with h | h
    · cases h
    · exact .inr h)
theorem over_same (xs ys : List Value) (h : xs.length = ys.length) : over xs 0 ys = xs := over_all xs ys h

set_option maxHeartbeats 8000000 in
theorem plays_spec (room : Int) (sa : Option Addr) (sc : Nat) (os : List (OW × Op)) (hl : os.length ≤ 300) (w : World) (hs : Scr w sa os) : Calls Go.Proofs.Try.prog 14 #[.int .i64 room, .slice sa os.length sc] w fun e w' =>
    ∃ (x : DW) (F : List Nat) (v : RV), e = .returned (.tuple #[.pointer (some ⟨x.b, 0, none⟩), v.val (playD (Dk.new room) os), .bool true]) ∧ x.Ok (playD (Dk.new room) os) ∧ (playD (Dk.new room) os).Fit os.length ∧ Hp [] w w' (refA F v (playD (Dk.new room) os) :: dkL x (playD (Dk.new room) os)) := by
  apply plays.ok; unfold plays.vc
  have H := Hp.start w
  intro bz w1 hn; replace H := H.new (by exact ⟨rfl, rfl, rfl, rfl⟩) hn; clear hn
  refine callV (new_spec room w1) ?_
  rintro e w2 ⟨x0, rfl, hx0, H'⟩; replace H := H.ext H'; clear H'
  refine ⟨_, rfl, ?_⟩
  refine callV (rnew_spec2 room w2) ?_
  rintro e w3 ⟨rfl, H'⟩; replace H := H.ext0 H'; clear H'
  rw [val0]
  refine ⟨_, _, _, _, _, _, _, _, _, _, _, _, _, _, _, _, rfl, ?_⟩
  intro br w4 hn; replace H := H.new (by exact ⟨rfl, rfl, rfl, rfl⟩) hn; clear hn
  refine Hp.stA H (by exact ⟨rfl, rfl, rfl, rfl⟩) raggD (vs := [.int .i64 ((Dk.new room).room : Int), .slice none 0 0, .slice none 0 0, .slice none 0 0, .slice none 0 0, .int .i64 0, .int .i64 0, .bool false]) (cs' := [.int .i64 ((Dk.new room).room : Int), .slice none 0 0, .slice none 0 0, .slice none 0 0, .slice none 0 0, .int .i64 0, .int .i64 0, .bool false]) rfl rfl (by simp) rfl ?_
  clear H; intro w5 H
  refine ⟨_, eqv_ptrD, ?_⟩
  refine br_mk (fun h => by cases h) (fun _ => ?_)
  obtain ⟨BZ, hBZ⟩ : ∃ BZ : List Value, BZ = [.int .i64 0, .slice none 0 0, .slice none 0 0, .slice none 0 0, .slice none 0 0, .int .i64 0, .int .i64 0, .bool false] := ⟨_, rfl⟩
  have H0 : Hp [] w w5 (.blk br [.int .i64 ((Dk.new room).room : Int), .slice none 0 0, .slice none 0 0, .slice none 0 0, .slice none 0 0, .int .i64 0, .int .i64 0, .bool false] 41 :: .blk bz BZ 41 :: refA [] RV0 (Dk.new room) :: dkL x0 (Dk.new room)) := by
    have H2 : Hp [] w w5 (refA [] RV0 (Dk.new room) :: .blk br [.int .i64 ((Dk.new room).room : Int), .slice none 0 0, .slice none 0 0, .slice none 0 0, .slice none 0 0, .int .i64 0, .int .i64 0, .bool false] 41 :: (dkL x0 (Dk.new room) ++ [.blk bz BZ 41])) :=
      Hp.add (by rw [hBZ]; exact H) (Chg.refl _ _) (refA_ok (rd0 _ _) (by simp)) (by simp [refA, Asn.foot])
    refine H2.perm ?_
    (refine perm_cnt fun ff gg h0 hc ha hpm => ?_; simp only [ha, hc, h0]; omega)
  clear H
  refine LoopP.mk (fun (m : Nat) (s : Option Addr × Int) (w' : World) => ∃ (k : Nat) (x : DW) (F : List Nat) (v : RV), m = os.length - k ∧ k ≤ os.length ∧ s = (some ⟨x.b, 0, none⟩, (k : Int)) ∧ x.Ok (playD (Dk.new room) (os.take k)) ∧ (playD (Dk.new room) (os.take k)).Fit k ∧
      Hp [] w w' (.blk br [.int .i64 ((playD (Dk.new room) (os.take k)).room : Int), .slice v.fa (playD (Dk.new room) (os.take k)).files.length v.fc, .slice v.na (playD (Dk.new room) (os.take k)).names.length v.nc, .slice v.ia (playD (Dk.new room) (os.take k)).firm.length v.ic, .slice v.sa (playD (Dk.new room) (os.take k)).snaps.length v.sc, .int .i64 ((playD (Dk.new room) (os.take k)).armed : Int), .int .i64 ((playD (Dk.new room) (os.take k)).denied : Int), .bool (playD (Dk.new room) (os.take k)).dead] 41 :: .blk bz BZ 41 :: refA F v (playD (Dk.new room) (os.take k)) :: dkL x (playD (Dk.new room) (os.take k)))) os.length
    ⟨0, x0, [], RV0, by omega, by omega, rfl, hx0, new_fit room 0, H0⟩ ?_
  clear H0 w1 w2 w3 w4 w5
  rintro m s w1 next ⟨k, x, F, v, rfl, hk, rfl, hx, fit, H⟩ hnext
  dsimp only
  generalize hd : playD (Dk.new room) (os.take k) = d at hx fit H
  refine br_dec (fun h1 => ?_) (fun h1 => ?_)
  · have hkl : k < os.length := by omega
    obtain ⟨p, hp⟩ : ∃ p, os[k]? = some p := ⟨_, List.getElem?_eq_getElem hkl⟩
    have hpm := List.mem_of_getElem? hp
    have htk := take_snoc hp
    have hnx : playD (Dk.new room) (os.take (k + 1)) = (doP d p.2).1 := by rw [htk, playD_snoc, hd]
    obtain ⟨ad, ha, hld⟩ := (hs.chg0 H.chg).ldA hp
    refine onP_mk ha ⟨⟨by omega, by omega⟩, _, _, _, _, _, _, _, _, _, _, by rw [Int.toNat_natCast]; exact hld, ?_⟩
    intro bo w2 hn; replace H := H.new (by exact ⟨rfl, rfl, rfl, rfl⟩) hn; clear hn
    refine Hp.stA H (by exact ⟨rfl, rfl, rfl, rfl⟩) raggO (vs := opC p) (cs' := opC p) rfl rfl (by simp) rfl ?_
    clear H; intro w3 H
    refine ⟨_, _, _, _, _, _, _, _, _, _, _, _, _, _, _, _, H.ldA (by exact ⟨rfl, rfl, rfl, rfl⟩) raggD (.tail _ (.head _)) rfl rfl, ?_⟩
    refine ⟨_, _, _, _, _, _, _, _, _, _, H.ldA (by exact ⟨rfl, rfl, rfl, rfl⟩) raggO (.head _) rfl rfl, ?_⟩
    obtain ⟨hR, hF⟩ := refA_rd (H.ok (refA F v d) (.tail _ (.tail _ (.tail _ (.head _)))))
    have hod := (hs.chg0 H.chg).ops p hpm
    have hdo := rdo_spec hR hF hx.dk fit.few (by omega) (fit.since hx.dk (by omega)) (fit.used (by omega)) hod
    rw [← doP_doR] at hdo
    refine callV hdo ?_
    intro e w4 hpost
    obtain ⟨v', F', rfl, H2⟩ := RPostK.use H.pull3 hpost
    replace H := H2; clear H2
    obtain ⟨d', hd'⟩ : ∃ d', d' = (doP d p.2).1 := ⟨_, rfl⟩
    rw [← hd'] at H hnx ⊢
    refine ⟨_, _, _, _, _, _, _, _, _, _, _, _, _, _, _, _, _, _, rfl, ?_⟩
    intro b7 w5 hn; replace H := H.new (by exact ⟨rfl, rfl, rfl, rfl⟩) hn; clear hn
    intro b8 w6 hn; replace H := H.new (by exact ⟨rfl, rfl, rfl, rfl⟩) hn; clear hn
    refine Hp.stA H.pull1 (by exact ⟨rfl, rfl, rfl, rfl⟩) raggD (vs := [.int .i64 (d'.room : Int), .slice v'.fa d'.files.length v'.fc, .slice v'.na d'.names.length v'.nc, .slice v'.ia d'.firm.length v'.ic, .slice v'.sa d'.snaps.length v'.sc, .int .i64 (d'.armed : Int), .int .i64 (d'.denied : Int), .bool d'.dead]) (cs' := [.int .i64 (d'.room : Int), .slice v'.fa d'.files.length v'.fc, .slice v'.na d'.names.length v'.nc, .slice v'.ia d'.firm.length v'.ic, .slice v'.sa d'.snaps.length v'.sc, .int .i64 (d'.armed : Int), .int .i64 (d'.denied : Int), .bool d'.dead]) rfl rfl (by simp) rfl ?_
    clear H; intro w7 H
    refine Hp.stA H.pull1 (by exact ⟨rfl, rfl, rfl, rfl⟩) raggA (vs := [sv (doP d p.2).2.1, .int .i64 (doP d p.2).2.2]) (cs' := [sv (doP d p.2).2.1, .int .i64 (doP d p.2).2.2]) rfl rfl (by simp) rfl ?_
    clear H; intro w8 H
    refine ⟨_, _, _, _, _, _, _, _, _, _, _, _, _, _, _, _, H.ldA (by exact ⟨rfl, rfl, rfl, rfl⟩) raggD (.tail _ (.head _)) rfl rfl, ?_⟩
    refine Hp.stA H.pull4 (by exact ⟨rfl, rfl, rfl, rfl⟩) raggD (cs' := [.int .i64 (d'.room : Int), .slice v'.fa d'.files.length v'.fc, .slice v'.na d'.names.length v'.nc, .slice v'.ia d'.firm.length v'.ic, .slice v'.sa d'.snaps.length v'.sc, .int .i64 (d'.armed : Int), .int .i64 (d'.denied : Int), .bool d'.dead]) rfl rfl (by simp) rfl ?_
    clear H; intro w9 H
    refine ⟨_, _, _, _, _, _, _, _, _, _, H.ldA (cs := opC p) (by exact ⟨rfl, rfl, rfl, rfl⟩) raggO (.tail _ (.tail _ (.tail _ (.tail _ (.head _))))) rfl rfl, ?_⟩
    have H2 : Hp [] w w9 (dkL x d ++ [.blk br [.int .i64 (d'.room : Int), .slice v'.fa d'.files.length v'.fc, .slice v'.na d'.names.length v'.nc, .slice v'.ia d'.firm.length v'.ic, .slice v'.sa d'.snaps.length v'.sc, .int .i64 (d'.armed : Int), .int .i64 (d'.denied : Int), .bool d'.dead] 41, .blk bz BZ 41, refA F' v' d', .blk bo (opC p) 29, .blk b8 [sv (doP d p.2).2.1, .int .i64 (doP d p.2).2.2] 32]) := by
      have H3 := H.perm (perm_cnt (M := .blk b7 [.int .i64 (d'.room : Int), .slice v'.fa d'.files.length v'.fc, .slice v'.na d'.names.length v'.nc, .slice v'.ia d'.firm.length v'.ic, .slice v'.sa d'.snaps.length v'.sc, .int .i64 (d'.armed : Int), .int .i64 (d'.denied : Int), .bool d'.dead] 41 :: (dkL x d ++ [.blk br [.int .i64 (d'.room : Int), .slice v'.fa d'.files.length v'.fc, .slice v'.na d'.names.length v'.nc, .slice v'.ia d'.firm.length v'.ic, .slice v'.sa d'.snaps.length v'.sc, .int .i64 (d'.armed : Int), .int .i64 (d'.denied : Int), .bool d'.dead] 41, .blk bz BZ 41, refA F' v' d', .blk bo (opC p) 29, .blk b8 [sv (doP d p.2).2.1, .int .i64 (doP d p.2).2.2] 32])) fun ff gg h0 hc ha hpm => by simp only [ha, hc, h0]; omega)
      exact H3.drop
    clear H
    refine callV (does_spec x d hx fit (by omega) w9 (hs.stable H2 hpm) (fun _ => hs.rng p hpm) (fun _ => hs.rng p hpm) H2.std1) ?_
    rintro e w10 ⟨x', rfl, hx', H'⟩
    replace H2 := H2.useL H'; clear H'
    rw [← hd'] at hx' H2
    have fit' : d'.Fit (k + 1) := by rw [hd']; exact doP_fit fit hx.dk p.2
    have H := H2.perm List.perm_append_comm
    clear H2
    simp only [List.cons_append, List.nil_append] at H
    refine ⟨_, _, _, rfl, ?_⟩
    intro b10 w11 hn; replace H := H.new (by exact ⟨rfl, rfl, rfl, rfl⟩) hn; clear hn
    refine Hp.stA H (by exact ⟨rfl, rfl, rfl, rfl⟩) raggA (vs := [sv (doP d p.2).2.1, .int .i64 (doP d p.2).2.2]) (cs' := [sv (doP d p.2).2.1, .int .i64 (doP d p.2).2.2]) rfl rfl (by simp) rfl ?_
    clear H; intro w12 H
    replace H := H.drew
    refine ⟨_, eqv_ptrD, ?_⟩
    refine br_mk (fun h => by cases h) (fun _ => ?_)
    refine ⟨_, _, H.ldA (by exact ⟨rfl, rfl, rfl, rfl⟩) raggA (.head _) rfl rfl, ?_⟩
    refine ⟨_, _, H.ldA (by exact ⟨rfl, rfl, rfl, rfl⟩) raggA (.tail _ (.tail _ (.tail _ (.tail _ (.tail _ (.head _)))))) rfl rfl, ?_⟩
    refine ⟨false, eqv_neq flatAns rfl rfl (by simp [eqL, sEq]), ?_⟩
    refine br_false ?_
    refine ⟨_, H.ld (by exact ⟨rfl, rfl, rfl, rfl⟩) sclBool (.tail _ (.head _)) rfl, ?_⟩
    have hst : ∀ {w' : World} {L1 : List Asn} {a b c d1 e1 f1 : Asn}, Hp [] w w' (a :: b :: c :: d1 :: e1 :: f1 :: L1) → Std w' L1 := fun K => K.drop.drop.drop.drop.drop.drop.std
    refine callV (dead_spec x' d' _ (hst H)) ?_
    rintro e w13 ⟨rfl, H'⟩; replace H := H.ext0 H'; clear H'
    refine ⟨_, rfl, H.ld (by exact ⟨rfl, rfl, rfl, rfl⟩) sclBool (.tail _ (.head _)) rfl, ?_⟩
    refine br_not (fun h => by simp at h) (fun _ => ?_)
    refine ⟨_, H.ld (by exact ⟨rfl, rfl, rfl, rfl⟩) sclStr (.tail _ (.tail _ (.tail _ (.tail _ (.head _))))) rfl, ?_⟩
    refine ⟨_, _, _, _, _, _, _, _, _, _, _, _, _, _, _, _, H.ldA (by exact ⟨rfl, rfl, rfl, rfl⟩) raggD (.tail _ (.head _)) rfl rfl, ?_⟩
    refine ⟨_, H.ld (by exact ⟨rfl, rfl, rfl, rfl⟩) sclStr (.tail _ (.tail _ (.tail _ (.tail _ (.head _))))) rfl, ?_⟩
    refine callV (size_spec x' d' hx' p.2.name _ (hst H)) ?_
    rintro e w14 ⟨rfl, H'⟩; replace H := H.ext0 H'; clear H'
    refine ⟨_, rfl, H.ld (by exact ⟨rfl, rfl, rfl, rfl⟩) sclStr (.tail _ (.tail _ (.tail _ (.tail _ (.head _))))) rfl, H.ldA (by exact ⟨rfl, rfl, rfl, rfl⟩) raggD (.tail _ (.head _)) rfl rfl, ?_⟩
    obtain ⟨hR', hF'⟩ := refA_rd (H.ok (refA F' v' d') (.tail _ (.tail _ (.tail _ (.head _)))))
    refine callV (rsize_spec hR' hx'.dk (by have := fit'.nl; omega) p.2.name) ?_
    rintro e w15 ⟨rfl, H'⟩; replace H := H.ext0 H'; clear H'
    refine ⟨_, rfl, ?_⟩
    refine br_ndec (fun h => absurd rfl h) (fun _ => ?_)
    refine ⟨inR64.2 (by omega), ?_⟩
    refine hnext (os.length - (k + 1)) _ _ (by omega) ⟨k + 1, x', F', v', rfl, by omega, by simp, by rw [hnx]; exact hx', by rw [hnx]; exact fit', ?_⟩
    rw [hnx]
    have H3 := H.perm (perm_cnt (M := .blk b10 [sv (doP d p.2).2.1, .int .i64 (doP d p.2).2.2] 32 :: .blk bo (opC p) 29 :: .blk b8 [sv (doP d p.2).2.1, .int .i64 (doP d p.2).2.2] 32 :: .blk br [.int .i64 (d'.room : Int), .slice v'.fa d'.files.length v'.fc, .slice v'.na d'.names.length v'.nc, .slice v'.ia d'.firm.length v'.ic, .slice v'.sa d'.snaps.length v'.sc, .int .i64 (d'.armed : Int), .int .i64 (d'.denied : Int), .bool d'.dead] 41 :: .blk bz BZ 41 :: refA F' v' d' :: dkL x' d') fun ff gg h0 hc ha hpm => by simp only [ha, hc, h0]; omega)
    exact H3.drop.drop.drop
  · have hk2 : k = os.length := by omega
    subst hk2
    rw [List.take_length] at hd
    rw [hd]
    replace H := H.drew
    refine ⟨_, _, _, _, _, _, _, _, _, _, _, _, _, _, _, _, H.ldA (by exact ⟨rfl, rfl, rfl, rfl⟩) raggD (.head _) rfl rfl, ?_⟩
    rw [hBZ] at H
    refine Hp.stA H.pull1 (by exact ⟨rfl, rfl, rfl, rfl⟩) raggD rfl rfl (by simp) rfl ?_
    clear H; intro w2 H
    refine ⟨_, _, _, _, _, _, _, _, _, _, _, _, _, _, _, _, H.ldA (by exact ⟨rfl, rfl, rfl, rfl⟩) raggD (.head _) rfl rfl, ?_⟩
    exact ⟨x, F, v, rfl, hx, fit, H.drop.drop⟩
end Go.Proofs.Ytnmlkecmokhhhaa
