/- Press: what a disk tells, held against the document's. -/
import Derived.Test.YtdpkamajecmebaaScU
set_option linter.unusedVariables false
set_option linter.unusedSimpArgs false
set_option maxRecDepth 100000
namespace Go.Proofs.Ytdpkamajecmebaa
open Go Go.Vc Go.Vault

theorem _root_.Go.Vc.Std.chg0 {w w' : World} {L : List Asn} (h : Std w L) (hc : Chg [] w w') : Std w' L := ((Hp.startL h).chg0 hc).std
def rfAt (v : RV) (k : Nat) : RF := v.fs.getD k ⟨none, 0, none, 0, none, 0⟩
def toldC (v : RV) (d : Dk) (l : List Nm) : List Value := l.map fun p => .slice (rfAt v p.file).na (d.len p.file) (rfAt v p.file).nc
def nameC (l : List Nm) : List Value := l.map fun p => .string p.name
set_option maxHeartbeats 4000000 in
theorem rtold_spec {F : List Nat} {w : World} {v : RV} {d : Dk} (h : RD F w v d) (hok : d.Ok) (hl : d.names.length ≤ 1073741823) : Calls Go.Proofs.Try.prog 55 #[v.val d] w fun e w' =>
    ∃ a c a2 c2, e = .returned (.tuple #[.slice a d.names.length c, .slice a2 d.names.length c2]) ∧ Hp [] w w' [.own 33 1 a2 d.names.length c2 (toldC v d d.names), .own 9 1 a d.names.length c (nameC d.names)] := by
  apply rtold.ok; unfold rtold.vc
  have H := Hp.start w
  intro b w1 hn; replace H := H.new (by exact ⟨rfl, rfl, rfl, rfl⟩) hn; clear hn
  obtain ⟨BD, hBD⟩ : ∃ BD : Asn, BD = .blk b [.int .i64 (d.room : Int), .slice v.fa d.files.length v.fc, .slice v.na d.names.length v.nc, .slice v.ia d.firm.length v.ic, .slice v.sa d.snaps.length v.sc, .int .i64 (d.armed : Int), .int .i64 (d.denied : Int), .bool d.dead] 44 := ⟨_, rfl⟩
  refine LoopP.mk (fun (m : Nat) (s : (Option Addr × Nat × Nat) × (Option Addr × Nat × Nat) × Int) (w' : World) => ∃ (k : Nat) (a : Option Addr) (c : Nat) (a2 : Option Addr) (c2 : Nat), m = d.names.length - k ∧ k ≤ d.names.length ∧ s = ((a, k, c), (a2, k, c2), (k : Int)) ∧
      Hp [] w w' [.own 33 1 a2 k c2 (toldC v d (d.names.take k)), .own 9 1 a k c (nameC (d.names.take k)), BD]) d.names.length ⟨0, none, 0, none, 0, by omega, by omega, rfl, by rw [hBD]; exact (H.nilS _ _).nilS _ _⟩ ?_
  clear H w1
  rintro m s w1 next ⟨k, a, c, a2, c2, rfl, hk, rfl, H⟩ hnext
  dsimp only
  rw [hBD] at H
  ((repeat apply Exists.intro); first | refine ⟨H.ld (by exact ⟨rfl, rfl, rfl, rfl⟩) (by first | exact sclInt | exact sclBool | exact sclStr | exact rsclN | exact rsclF | exact rsclNN | exact rsclSS | exact rsclSI | exact rsclU) (by repeat first | exact .head _ | refine .tail _ ?_) rfl, ?_⟩ | refine ⟨H.ldA (by exact ⟨rfl, rfl, rfl, rfl⟩) (by first | exact raggD | exact raggF | exact raggO | exact raggN | exact raggA) (by repeat first | exact .head _ | refine .tail _ ?_) rfl rfl, ?_⟩)
  refine br_dec (fun h1 => ?_) (fun h1 => ?_)
  · have hkl : k < d.names.length := by omega
    obtain ⟨p, hp⟩ : ∃ p, d.names[k]? = some p := ⟨_, List.getElem?_eq_getElem hkl⟩
    obtain ⟨n1, n2, n3⟩ := nmCells_at hp
    have htk := take_snoc hp
    have hpf := hok.file p (List.mem_of_getElem? hp)
    obtain ⟨x, f, h2, h3, h4⟩ := h.at hpf
    obtain ⟨c1, _, _, _⟩ := fileCs_at h2 h3
    ((repeat apply Exists.intro); first | refine ⟨H.ld (by exact ⟨rfl, rfl, rfl, rfl⟩) (by first | exact sclInt | exact sclBool | exact sclStr | exact rsclN | exact rsclF | exact rsclNN | exact rsclSS | exact rsclSI | exact rsclU) (by repeat first | exact .head _ | refine .tail _ ?_) rfl, ?_⟩ | refine ⟨H.ldA (by exact ⟨rfl, rfl, rfl, rfl⟩) (by first | exact raggD | exact raggF | exact raggO | exact raggN | exact raggA) (by repeat first | exact .head _ | refine .tail _ ?_) rfl rfl, ?_⟩)
    obtain ⟨ad, ha, hld⟩ := (h.chg0 H.chg).names.ld (P := Go.Proofs.Try.prog) sclStr n1
    refine onP_mk ha ⟨⟨by omega, by omega⟩, _, by rw [Int.toNat_natCast]; exact hld, ?_⟩
    intro b1 w2 hn; replace H := H.new (by exact ⟨rfl, rfl, rfl, rfl⟩) hn; clear hn
    refine Hp.app (m := 1) eltStr (by omega) H.pull2 (by exact ⟨rfl, rfl, rfl, rfl⟩) (Blk.src undStr ((H.go (w' := w2.drew) (by exact ⟨rfl, rfl, rfl, rfl⟩)).blk (.head _)) rfl rfl) (by simp only [maxLen]; omega) (by omega) ?_
    clear H; intro a3 c3 w3 H
    replace H := H.drop1.drew
    ((repeat apply Exists.intro); first | refine ⟨H.ld (by exact ⟨rfl, rfl, rfl, rfl⟩) (by first | exact sclInt | exact sclBool | exact sclStr | exact rsclN | exact rsclF | exact rsclNN | exact rsclSS | exact rsclSI | exact rsclU) (by repeat first | exact .head _ | refine .tail _ ?_) rfl, ?_⟩ | refine ⟨H.ldA (by exact ⟨rfl, rfl, rfl, rfl⟩) (by first | exact raggD | exact raggF | exact raggO | exact raggN | exact raggA) (by repeat first | exact .head _ | refine .tail _ ?_) rfl rfl, ?_⟩)
    ((repeat apply Exists.intro); first | refine ⟨H.ld (by exact ⟨rfl, rfl, rfl, rfl⟩) (by first | exact sclInt | exact sclBool | exact sclStr | exact rsclN | exact rsclF | exact rsclNN | exact rsclSS | exact rsclSI | exact rsclU) (by repeat first | exact .head _ | refine .tail _ ?_) rfl, ?_⟩ | refine ⟨H.ldA (by exact ⟨rfl, rfl, rfl, rfl⟩) (by first | exact raggD | exact raggF | exact raggO | exact raggN | exact raggA) (by repeat first | exact .head _ | refine .tail _ ?_) rfl rfl, ?_⟩)
    obtain ⟨ad2, ha2, hld2⟩ := (h.chg0 H.chg).names.ld (P := Go.Proofs.Try.prog) sclInt n2
    refine onP_mk ha2 ⟨⟨by omega, by omega⟩, _, by rw [Int.toNat_natCast, add_add]; exact hld2, ?_⟩
    obtain ⟨ad4, ha4, hld4⟩ := (h.chg0 H.chg).files.ld (P := Go.Proofs.Try.prog) rsclSS c1
    refine onP_mk ha4 ⟨⟨by omega, by omega⟩, _, _, _, by rw [Int.toNat_natCast]; exact hld4, ?_⟩
    intro b5 w5 hn; replace H := H.new (by exact ⟨rfl, rfl, rfl, rfl⟩) hn; clear hn
    refine Hp.app (m := 1) eltStS (by omega) H.pull2 (by exact ⟨rfl, rfl, rfl, rfl⟩) (Blk.src undStS ((H.go (w' := w5.drew) (by exact ⟨rfl, rfl, rfl, rfl⟩)).blk (.head _)) rfl rfl) (by simp only [maxLen]; omega) (by omega) ?_
    clear H; intro a6 c6 w6 H
    replace H := H.drop1
    refine ⟨inR64.2 (by omega), hnext (d.names.length - (k + 1)) _ _ (by omega) ⟨k + 1, a3, c3, a6, c6, rfl, by omega, by simp, ?_⟩⟩
    have e1 : toldC v d (d.names.take (k + 1)) = toldC v d (d.names.take k) ++ [.slice x.na f.now.length x.nc] := by
      rw [htk]
      have hx : rfAt v p.file = x := by simp [rfAt, h2]
      simp [toldC, hx, Dk.len, h4]
    have e2 : nameC (d.names.take (k + 1)) = nameC (d.names.take k) ++ [.string p.name] := by rw [htk]; simp [nameC]
    rw [e1, e2, hBD]
    exact H
  · have hk2 : k = d.names.length := by omega
    subst hk2
    rw [List.take_length] at H
    exact ⟨a, c, a2, c2, rfl, H.takeL (L := [_, _])⟩

/-- disks that tell the same -/
structure Same (d d2 : Dk) : Prop where
  names : d.names = d2.names
  dead : d.dead = d2.dead
  now : ∀ p ∈ d.names, (d.file p.file).now = (d2.file p.file).now
theorem Same.refl (d : Dk) : Same d d := ⟨rfl, rfl, fun _ _ => rfl⟩
theorem Same.used {d d2 : Dk} (h : Same d d2) : d.used = d2.used := by
  unfold Dk.used
  rw [← h.names]
  congr 1
  apply List.map_congr_left
  intro p hp
  show (d.file p.file).now.length = _
  rw [h.now p hp]; rfl
theorem nget_at : ∀ {l : List Nm} {k : Nat} {p : Nm}, Rising l → l[k]? = some p → nget l p.name = some p.file
  | [], k, p, h, hp => by simp at hp
  | q :: r, 0, p, h, hp => by
    simp at hp; subst hp
    rw [nget, if_pos rfl]
  | q :: r, k + 1, p, h, hp => by
    rw [List.getElem?_cons_succ] at hp
    have h1 := List.pairwise_cons.1 h
    have hne : q.name ≠ p.name := ltN_ne (h1.1 p (List.mem_of_getElem? hp))
    rw [nget, if_neg hne]
    exact nget_at h1.2 hp

set_option maxHeartbeats 4000000 in
theorem same_spec (x : DW) (d d2 : Dk) (hok : x.Ok d) {N : Nat} (fit : d.Fit N) (hN : N ≤ 1000000) {F : List Nat} {v : RV} (hs : Same d d2) (hok2 : d2.Ok) (w : World) (st : Std w (dkL x d)) (h : RD F w v d2) :
    Calls Go.Proofs.Try.prog 26 #[.pointer (some ⟨x.b, 0, none⟩), v.val d2] w fun e w' => e = .returned (.bool true) ∧ Hp [] w w' [] := by
  apply same.ok; unfold same.vc
  have hnl := fit.nl
  have hnl2 : d2.names.length ≤ N := by rw [← hs.names]; exact hnl
  have H := Hp.start w
  intro b w1 hn; replace H := H.new (by exact ⟨rfl, rfl, rfl, rfl⟩) hn; clear hn
  refine ⟨_, _, _, _, _, _, _, _, _, _, _, _, _, _, _, _, H.ldA (by exact ⟨rfl, rfl, rfl, rfl⟩) raggD (.head _) rfl rfl, ?_⟩
  refine callV (rtold_spec (h.chg0 H.chg) hok2 (by omega)) ?_
  rintro e w2 ⟨a1, c1, a2, c2, rfl, H'⟩; replace H := H.ext H'; clear H'
  simp only [List.cons_append, List.nil_append] at H
  refine ⟨_, _, _, _, _, _, rfl, ?_⟩
  refine callV (names_spec x d hok (by omega) w2 (st.chg0 H.chg)) ?_
  rintro e w3 ⟨a3, c3, rfl, H'⟩; replace H := H.ext H'; clear H'
  simp only [List.cons_append, List.nil_append] at H
  refine ⟨_, _, _, rfl, ?_⟩
  rw [← hs.names] at H ⊢
  replace H := H.drew
  refine br_ndec (fun h => absurd rfl h) (fun _ => ?_)
  refine ⟨_, H.ld (by exact ⟨rfl, rfl, rfl, rfl⟩) sclBool (.tail _ (.tail _ (.tail _ (.head _)))) rfl, ?_⟩
  refine callV (dead_spec x d _ (st.chg0 H.chg)) ?_
  rintro e w6 ⟨rfl, H'⟩; replace H := H.ext0 H'; clear H'
  refine ⟨_, rfl, H.ld (by exact ⟨rfl, rfl, rfl, rfl⟩) sclBool (.tail _ (.tail _ (.tail _ (.head _)))) rfl, ?_⟩
  refine br_not (fun h => by rw [hs.dead] at h; simp at h) (fun _ => ?_)
  obtain ⟨BD, hBD⟩ : ∃ BD : Asn, BD = .blk b [.int .i64 (d2.room : Int), .slice v.fa d2.files.length v.fc, .slice v.na d.names.length v.nc, .slice v.ia d2.firm.length v.ic, .slice v.sa d2.snaps.length v.sc, .int .i64 (d2.armed : Int), .int .i64 (d2.denied : Int), .bool d2.dead] 44 := ⟨_, rfl⟩
  rw [← hBD] at H
  refine LoopP.mk (fun (m : Nat) (s : Int) (w' : World) => ∃ k : Nat, m = d.names.length - k ∧ k ≤ d.names.length ∧ s = (k : Int) ∧ Hp [] w w' [.own 9 1 a3 d.names.length c3 (nameC d.names), .own 33 1 a2 d.names.length c2 (toldC v d2 d.names), .own 9 1 a1 d.names.length c1 (nameC d.names), BD]) d.names.length ⟨0, by omega, by omega, rfl, H⟩ ?_
  clear H w1 w2 w3 w6
  rintro m s w1 next ⟨k, rfl, hk, rfl, H⟩ hnext
  refine br_dec (fun h1 => ?_) (fun h1 => ⟨rfl, H.done⟩)
  have hkl : k < d.names.length := by omega
  obtain ⟨p, hp⟩ : ∃ p, d.names[k]? = some p := ⟨_, List.getElem?_eq_getElem hkl⟩
  have hpm := List.mem_of_getElem? hp
  have hnC : (nameC d.names)[k]? = some (.string p.name) := by simp [nameC, hp]
  have htC : (toldC v d2 d.names)[k]? = some (.slice (rfAt v p.file).na (d2.len p.file) (rfAt v p.file).nc) := by simp [toldC, hp]
  have hfd : d.find p.name = some p.file := nget_at hok.dk.names hp
  have hpf2 := hok2.file p (by rw [← hs.names]; exact hpm)
  obtain ⟨y, g, g1, g2, g3⟩ := h.at hpf2
  have hrf : rfAt v p.file = y := by simp [rfAt, g1]
  have hnow : (d.file p.file).now = g.now := by rw [hs.now p hpm, g3]
  have hlen2 : d2.len p.file = g.now.length := by rw [Dk.len, g3]
  have hsz : d.size p.name = (g.now.length : Int) := by simp only [Dk.size, hfd, Dk.len, hnow]
  rw [hrf, hlen2] at htC
  have ld3 : ∀ {w' : World} {L : List Asn} {e : TypeId} {n c : Nat} {a : Option Addr}, Hp [] w w' L → Asn.own e 1 a n c (nameC d.names) ∈ L → ∃ ad, a = some ad ∧ Ld Go.Proofs.Try.prog 9 w' (ad.add (Int.toNat (k : Int) * 1)) (.string p.name) := fun K hm => K.ldO (P := Go.Proofs.Try.prog) (by exact ⟨rfl, rfl, rfl, rfl⟩) sclStr hm (by rw [Int.toNat_natCast, Nat.mul_one]; exact hnC)
  have ld4 : ∀ {w' : World} {L : List Asn} {e : TypeId} {n c : Nat} {a : Option Addr}, Hp [] w w' L → Asn.own e 1 a n c (toldC v d2 d.names) ∈ L → ∃ ad, a = some ad ∧ Ld Go.Proofs.Try.prog 33 w' (ad.add (Int.toNat (k : Int) * 1)) (.slice y.na g.now.length y.nc) := fun K hm => K.ldO (P := Go.Proofs.Try.prog) (by exact ⟨rfl, rfl, rfl, rfl⟩) rsclSS hm (by rw [Int.toNat_natCast, Nat.mul_one]; exact htC)
  replace H := H.drew
  obtain ⟨ad, ha, hld⟩ := ld3 H (.head _)
  refine onP_mk ha ⟨⟨by omega, by omega⟩, _, hld, ?_⟩
  obtain ⟨ad1, ha1, hld1⟩ := ld3 H (.tail _ (.tail _ (.head _)))
  refine onP_mk ha1 ⟨⟨by omega, by omega⟩, _, hld1, ?_⟩
  refine br_ndec (fun h => absurd rfl h) (fun _ => ?_)
  refine onP_mk ha ⟨⟨by omega, by omega⟩, _, hld, ?_⟩
  obtain ⟨ad2, ha2, hld2⟩ := ld4 H (.tail _ (.head _))
  refine onP_mk ha2 ⟨⟨by omega, by omega⟩, _, _, _, hld2, ?_⟩
  refine callV (size_spec x d hok p.name _ (st.chg0 H.chg)) ?_
  rintro e w2 ⟨rfl, H'⟩; replace H := H.ext0 H'; clear H'
  obtain ⟨ad2', ha2', hld2'⟩ := ld4 H (.tail _ (.head _))
  have hade : ad2' = ad2 := by rw [ha2] at ha2'; exact (Option.some.inj ha2').symm
  subst hade
  refine ⟨_, rfl, hld2', ?_⟩
  rw [hsz]
  refine br_ndec (fun h => absurd rfl h) (fun _ => ?_)
  have hnx : ∀ w', Hp [] w w' [.own 9 1 a3 d.names.length c3 (nameC d.names), .own 33 1 a2 d.names.length c2 (toldC v d2 d.names), .own 9 1 a1 d.names.length c1 (nameC d.names), BD] → next ((k : Int) + 1) w' := fun w' K => hnext (d.names.length - (k + 1)) _ _ (by omega) ⟨k + 1, rfl, by omega, by simp, K⟩
  have hgl : g.now.length ≤ N := by rw [← hnow]; exact Dk.len_le fit.now _
  refine LoopP.mk (fun (m : Nat) (s : Int) (w' : World) => ∃ j : Nat, m = g.now.length - j ∧ j ≤ g.now.length ∧ s = (j : Int) ∧ Hp [] w w' [.own 9 1 a3 d.names.length c3 (nameC d.names), .own 33 1 a2 d.names.length c2 (toldC v d2 d.names), .own 9 1 a1 d.names.length c1 (nameC d.names), BD]) g.now.length ⟨0, by omega, by omega, rfl, H⟩ ?_
  clear hld hld1 hld2 hld2' H w1 w2
  rintro m s w1 next2 ⟨j, rfl, hj, rfl, H⟩ hnext2
  obtain ⟨ad2, ha2, hld2⟩ := ld4 H (.tail _ (.head _))
  refine onP_mk ha2 ⟨⟨by omega, by omega⟩, _, _, _, hld2, ?_⟩
  refine br_dec (fun h2 => ?_) (fun h2 => ⟨inR64.2 (by omega), hnx _ H⟩)
  have hjl : j < g.now.length := by omega
  refine ⟨_, H.ld (b := b) (cs := [.int .i64 (d2.room : Int), .slice v.fa d2.files.length v.fc, .slice v.na d.names.length v.nc, .slice v.ia d2.firm.length v.ic, .slice v.sa d2.snaps.length v.sc, .int .i64 (d2.armed : Int), .int .i64 (d2.denied : Int), .bool d2.dead]) (T := 44) (by exact ⟨rfl, rfl, rfl, rfl⟩) sclBool (by rw [← hBD]; exact .tail _ (.tail _ (.tail _ (.head _)))) rfl, ?_⟩
  refine br_not (fun hdd => ?_) (fun _ => ⟨inR64.2 (by omega), hnx _ H⟩)
  obtain ⟨ad, ha, hld⟩ := ld3 H (.head _)
  refine onP_mk ha ⟨⟨by omega, by omega⟩, _, hld, ?_⟩
  have hrd : d.read p.name (j : Int) = (g.now[j], 0) := by
    have hd1 : d.dead = false := by rw [hs.dead]; exact hdd
    have hl1 : d.len p.file = g.now.length := by rw [Dk.len, hnow]
    have hnp : ¬ ((j : Int) < 0 ∨ (d.len p.file : Int) ≤ (j : Int)) := by rw [hl1]; omega
    simp only [Dk.read, hd1, hfd, Bool.false_eq_true, if_false, if_neg hnp, hnow, Int.toNat_natCast]
    simp [hjl]
  have hrs := read_spec x d hok p.name (j : Int) w1 (st.chg0 H.chg)
  rw [hrd] at hrs
  refine callV hrs ?_
  rintro e w2 ⟨a5, c5, rfl, H'⟩; replace H := H.ext H'; clear H'
  simp only [List.cons_append, List.nil_append] at H
  refine ⟨_, _, _, _, rfl, ?_⟩
  replace H := H.drew
  refine br_ndec (fun h => absurd rfl h) (fun _ => ?_)
  refine ⟨⟨g.now[j].toArray⟩, b2s undSU8 undU8 undString (by rw [byteCells_mk]; exact (H.ownA (.head _)).cells) (by rw [vmk_size]), ?_⟩
  replace H := H.drop
  obtain ⟨ad3, ha3, hld3⟩ := ld4 H (.tail _ (.head _))
  refine onP_mk ha3 ⟨⟨by omega, by omega⟩, _, _, _, hld3, ?_⟩
  obtain ⟨an, han, hldn⟩ := ((h.chg0 H.chg).each p.file y g g1 g2).now.ld (P := Go.Proofs.Try.prog) sclStr (strs_at (List.getElem?_eq_getElem hjl))
  refine onP_mk han ⟨⟨by omega, by omega⟩, _, by rw [Int.toNat_natCast, Nat.mul_one]; exact hldn, ?_⟩
  refine br_ndec (fun h => absurd rfl h) (fun _ => ?_)
  exact ⟨inR64.2 (by omega), hnext2 (g.now.length - (j + 1)) _ _ (by omega) ⟨j + 1, rfl, by omega, by simp, H⟩⟩

end Go.Proofs.Ytdpkamajecmebaa
