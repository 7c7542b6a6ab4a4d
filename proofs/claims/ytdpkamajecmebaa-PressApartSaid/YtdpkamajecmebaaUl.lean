/- Vault: what the document does. -/
import Derived.Test.YtdpkamajecmebaaUk
set_option linter.unusedVariables false
set_option linter.unusedSimpArgs false
set_option maxRecDepth 100000
namespace Go.Proofs.Ytdpkamajecmebaa
open Go Go.Vc Go.Vault

def keepA (w : World) (N : List Nat) : Asn := .any N fun x => ∀ k ∈ N, x.heap[k]? = w.heap[k]?
theorem Hp.keep {B : List Nat} {w0 w : World} {L1 L2 : List Asn} (H : Hp B w0 w (L1 ++ L2)) : Hp B w0 w (keepA w (feet L1) :: L2) := by
  have hs := List.pairwise_append.1 H.sep
  refine ⟨H.chg, fun a ha => ?_, fun a ha k hk => ?_, List.pairwise_cons.2 ⟨fun b hb k hk hkb => ?_, hs.2.1⟩⟩
  · rcases List.mem_cons.1 ha with rfl | ha
    · refine ⟨fun k hk => ?_, fun x hx => hx⟩
      obtain ⟨b, hb, h2⟩ := mem_feet.1 hk
      exact Asn.ok_lt (H.ok b (List.mem_append_left _ hb)) k h2
    · exact H.ok a (List.mem_append_right _ ha)
  · rcases List.mem_cons.1 ha with rfl | ha
    · obtain ⟨b, hb, h2⟩ := mem_feet.1 hk
      exact H.own b (List.mem_append_left _ hb) k h2
    · exact H.own a (List.mem_append_right _ ha) k hk
  · obtain ⟨c, hc, h2⟩ := mem_feet.1 hk
    exact hs.2.2 c hc b hb k h2 hkb
theorem RPostK.ofK {K : Value → Ending} {F N N1 : List Nat} {w0 ws w1 : World} {L : List Asn} {v : RV} {d : Dk} {e : Ending} (H : Hp [] w0 w1 L) (m : rdN ws (F ++ N1) N v d ∈ L) (mk : keepA ws N1 ∈ L) (hws : Chg [] w0 ws) (hF : ∀ k ∈ F, k < w0.heap.size) (he : e = K (v.val d)) : RPostK K F w0 d e w1 := by
  have h1 := H.ok _ m
  have h2 := H.ok _ mk
  have h3 := h2.2 w1 fun _ _ => rfl
  refine ⟨v, (F ++ N1) ++ N, he, H.chg, fun k hk => ?_, fun k hk => ?_, h1.2 w1 (fun _ _ => rfl) fun k hk => ?_⟩
  · rcases List.mem_append.1 hk with hk | hk
    · rcases List.mem_append.1 hk with hk | hk
      · exact .inl hk
      · rcases H.own _ mk k hk with h | h
        · cases h
        · exact .inr h
    · rcases H.own _ m k hk with h | h
      · cases h
      · exact .inr h
  · rcases List.mem_append.1 hk with hk | hk
    · rcases List.mem_append.1 hk with hk | hk
      · exact Nat.lt_of_lt_of_le (hF k hk) H.chg.size
      · exact h2.1 k hk
    · exact h1.1 k hk
  · rcases List.mem_append.1 hk with hk | hk
    · rw [H.chg.2.2.2.2 k (hF k hk) (by simp), hws.2.2.2.2 k (hF k hk) (by simp)]
    · exact h3 k hk
theorem keepF {B F : List Nat} {w0 w : World} {L1 L2 : List Asn} (H : Hp B w0 w (L1 ++ L2)) (hF : ∀ k ∈ F, k < w.heap.size) : ∀ k ∈ F ++ feet L1, k < w.heap.size := fun k hk => by
  rcases List.mem_append.1 hk with hk | hk
  · exact hF k hk
  · obtain ⟨b, hb, h2⟩ := mem_feet.1 hk
    exact Asn.ok_lt (H.ok b (List.mem_append_left _ hb)) k h2
theorem SC.own1 {B F : List Nat} {w0 w : World} {L1 L2 : List Asn} {e : TypeId} {sz n c : Nat} {a : Option Addr} {xs : List Value} (H : Hp B w0 w (L1 ++ L2)) (m : Asn.own e sz a n c xs ∈ L1) : SC (F ++ feet L1) w a n c sz xs :=
  .ofOwn (H.ownA (List.mem_append_left _ m)) fun k hk => List.mem_append_right _ (mem_feet.2 ⟨_, m, hk⟩)

set_option maxHeartbeats 4000000 in
theorem rdoes_spec {F G0 : List Nat} {w : World} {v : RV} {d : Dk} (h : RD F w v d) (hF : ∀ k ∈ F, k < w.heap.size) (hok : d.Ok) {N : Nat} (few : d.Few N) (hN : N ≤ 268435000) {ow : OW} {o : Op} (ho : OD G0 w ow o)
    (p1 : o.kind = 1 → ∃ k, d.find o.name = some k ∧ 0 ≤ o.n ∧ o.n ≤ d.len k ∧ o.b.length ≤ 512) (p3 : o.kind = 3 → ∃ k, d.find o.name = some k) (p4 : o.kind = 4 → ∃ k, d.find o.name = some k) :
    Calls Go.Proofs.Try.prog 51 #[v.val d, ow.val o] w (RPostK .returned F w (doesD d o)) := by
  apply rdoes.ok; unfold rdoes.vc
  have hfl := few.files
  have hnl : d.names.length ≤ N + N := by have := d.names_len; have := few.firm; have := few.chs; omega
  have hcl := few.chs
  have H := Hp.start w
  intro bd w1 hn1; replace H := H.new (by exact ⟨rfl, rfl, rfl, rfl⟩) hn1; clear hn1
  intro bo w2 hn1; replace H := H.new (by exact ⟨rfl, rfl, rfl, rfl⟩) hn1; clear hn1
  intro bu w3 hn1; replace H := H.new (by exact ⟨rfl, rfl, rfl, rfl⟩) hn1; clear hn1
  have hFw : ∀ {w' : World} {L : List Asn}, Hp [] w w' L → ∀ k ∈ F, k < w'.heap.size := fun K k hk => Nat.lt_of_lt_of_le (hF k hk) K.chg.size
  ((repeat apply Exists.intro); first | refine ⟨H.ld (by exact ⟨rfl, rfl, rfl, rfl⟩) (by first | exact sclInt | exact sclBool | exact sclStr | exact rsclN | exact rsclF | exact rsclNN | exact rsclSS | exact rsclSI | exact rsclU) (by repeat first | exact .head _ | refine .tail _ ?_) rfl, ?_⟩ | refine ⟨H.ldA (by exact ⟨rfl, rfl, rfl, rfl⟩) (by first | exact raggD | exact raggF | exact raggO | exact raggN | exact raggA) (by repeat first | exact .head _ | refine .tail _ ?_) rfl rfl, ?_⟩)
  refine br_dec (fun k0 => ?_) (fun k0 => ?_)
  · -- create
    have hdD : doesD d o = Dk.change { d with files := d.files ++ [Fl.none] } (.create o.name d.files.length) := by simp only [doesD, if_pos k0]
    rw [hdD]
    intro b3 w4 hn1; replace H := H.new (by exact ⟨rfl, rfl, rfl, rfl⟩) hn1; clear hn1
    replace H := H.reown 3 0 rfl (by simp)
    ((repeat apply Exists.intro); first | refine ⟨H.ld (by exact ⟨rfl, rfl, rfl, rfl⟩) (by first | exact sclInt | exact sclBool | exact sclStr | exact rsclN | exact rsclF | exact rsclNN | exact rsclSS | exact rsclSI | exact rsclU) (by repeat first | exact .head _ | refine .tail _ ?_) rfl, ?_⟩ | refine ⟨H.ldA (by exact ⟨rfl, rfl, rfl, rfl⟩) (by first | exact raggD | exact raggF | exact raggO | exact raggN | exact raggA) (by repeat first | exact .head _ | refine .tail _ ?_) rfl rfl, ?_⟩)
    refine Hp.app eltRF (by omega) H (by exact ⟨rfl, rfl, rfl, rfl⟩) ((h.chg0 H.chg).files.src undRF (fileCs_ones _ _)) (by simp only [maxLen]; omega) (by omega) ?_
    clear H; intro a4 c4 w5 H
    simp only [List.nil_append, Nat.zero_add] at H ⊢
    intro b6 w6 hn1; replace H := H.new (by exact ⟨rfl, rfl, rfl, rfl⟩) hn1; clear hn1
    refine Hp.app (m := 1) eltRF (by omega) H.pull1 (by exact ⟨rfl, rfl, rfl, rfl⟩) (Blk.src undRF ((H.go (w' := w6.drew) (by exact ⟨rfl, rfl, rfl, rfl⟩)).blk (.head _)) rfl rfl) (by simp only [maxLen]; omega) (by omega) ?_
    clear H; intro a7 c7 w7 H
    replace H := H.drop1
    ((first | (apply Hp.st; (case H => first | exact H | exact H.pull1 | exact H.pull2 | exact H.pull3 | exact H.pull4 | exact H.pull5 | exact H.pull6 | exact H.pull7); (case e => exact ⟨rfl, rfl, rfl, rfl⟩); (case S => exact (by first | exact sclInt | exact sclBool | exact sclStr | exact rsclN | exact rsclF | exact rsclNN | exact rsclSS | exact rsclSI | exact rsclU)); (case hv => exact rfl); (case h1 => exact rfl); (case ho => exact Nat.le_of_ble_eq_true rfl); (case hc => exact rfl)) | (apply Hp.stA; (case H => first | exact H | exact H.pull1 | exact H.pull2 | exact H.pull3 | exact H.pull4 | exact H.pull5 | exact H.pull6 | exact H.pull7); (case e => exact ⟨rfl, rfl, rfl, rfl⟩); (case S => exact (by first | exact raggD | exact raggF | exact raggO | exact raggN | exact raggA)); (case hn => exact rfl); (case h1 => exact rfl); (case ho => exact Nat.le_of_ble_eq_true rfl); (case hc => exact rfl))); clear H; intro _ H; (try simp only [over, List.set_cons_zero, List.set_cons_succ] at H))
    rename_i w8
    replace H := H.drew
    refine ⟨_, _, _, _, _, _, _, _, _, _, _, _, _, _, _, _, H.ldA (by exact ⟨rfl, rfl, rfl, rfl⟩) raggD (.head _) rfl rfl, ?_⟩
    ((repeat apply Exists.intro); first | refine ⟨H.ld (by exact ⟨rfl, rfl, rfl, rfl⟩) (by first | exact sclInt | exact sclBool | exact sclStr | exact rsclN | exact rsclF | exact rsclNN | exact rsclSS | exact rsclSI | exact rsclU) (by repeat first | exact .head _ | refine .tail _ ?_) rfl, ?_⟩ | refine ⟨H.ldA (by exact ⟨rfl, rfl, rfl, rfl⟩) (by first | exact raggD | exact raggF | exact raggO | exact raggN | exact raggA) (by repeat first | exact .head _ | refine .tail _ ?_) rfl rfl, ?_⟩)
    ((repeat apply Exists.intro); first | refine ⟨H.ld (by exact ⟨rfl, rfl, rfl, rfl⟩) (by first | exact sclInt | exact sclBool | exact sclStr | exact rsclN | exact rsclF | exact rsclNN | exact rsclSS | exact rsclSI | exact rsclU) (by repeat first | exact .head _ | refine .tail _ ?_) rfl, ?_⟩ | refine ⟨H.ldA (by exact ⟨rfl, rfl, rfl, rfl⟩) (by first | exact raggD | exact raggF | exact raggO | exact raggN | exact raggA) (by repeat first | exact .head _ | refine .tail _ ?_) rfl rfl, ?_⟩)
    ((repeat apply Exists.intro); first | refine ⟨H.ld (by exact ⟨rfl, rfl, rfl, rfl⟩) (by first | exact sclInt | exact sclBool | exact sclStr | exact rsclN | exact rsclF | exact rsclNN | exact rsclSS | exact rsclSI | exact rsclU) (by repeat first | exact .head _ | refine .tail _ ?_) rfl, ?_⟩ | refine ⟨H.ldA (by exact ⟨rfl, rfl, rfl, rfl⟩) (by first | exact raggD | exact raggF | exact raggO | exact raggN | exact raggA) (by repeat first | exact .head _ | refine .tail _ ?_) rfl rfl, ?_⟩)
    refine ⟨inR64.2 (by omega), ?_⟩
    have hi1 : ((d.files.length + 1 : Nat) : Int) - 1 = (d.files.length : Int) := by omega
    rw [hi1]
    refine callV (rwith_spec (h.chg0 H.chg).names (by omega) ⟨o.name, d.files.length⟩) ?_
    rintro e w9 ⟨a9, c9, rfl, H'⟩; replace H := H.ext H'; clear H'
    simp only [List.cons_append, List.nil_append] at H
    refine ⟨_, _, _, rfl, H.ldA (by exact ⟨rfl, rfl, rfl, rfl⟩) raggD (.tail _ (.head _)) rfl rfl, ?_⟩
    have H2 : Hp [] w w9 ([.own 130 2 a9 (with_ d.names ⟨o.name, d.files.length⟩).length c9 (nmCells (with_ d.names ⟨o.name, d.files.length⟩)), .own 106 3 a7 (d.files.length + 1) c7 (fileCs v.fs d.files ++ [.slice none 0 0, .slice none 0 0, .slice none 0 0])] ++
        [.blk bu [.int .i64 0, .slice none 0 0, .slice none 0 0, .slice none 0 0, .slice none 0 0, .int .i64 0, .int .i64 0, .bool false] 44]) := by
      simp only [List.cons_append, List.nil_append]
      (apply Hp.takeL; (try dsimp only [List.cons_append, List.nil_append]); (try dsimp only [List.cons_append, List.nil_append] at H); refine Hp.perm H ?_; (repeat (apply perm_step; (focus first | exact perm_p0 | exact perm_p1 | exact perm_p2 | exact perm_p3 | exact perm_p4 | exact perm_p5 | exact perm_p6 | exact perm_p7 | exact perm_p8 | exact perm_p9))); exact List.Perm.refl _)
    have hD1 : RD (F ++ feet [.own 130 2 a9 (with_ d.names ⟨o.name, d.files.length⟩).length c9 (nmCells (with_ d.names ⟨o.name, d.files.length⟩)), .own 106 3 a7 (d.files.length + 1) c7 (fileCs v.fs d.files ++ [.slice none 0 0, .slice none 0 0, .slice none 0 0])]) w9 { v with fa := a7, fc := c7, fs := v.fs ++ [⟨none, 0, none, 0, none, 0⟩] } { d with files := d.files ++ [Fl.none] } :=
      ((h.chg0 H.chg).more fun k hk => List.mem_append_left _ hk).file ⟨none, 0, none, 0, none, 0⟩ Fl.none ⟨SC.ofNil _ _ _ _, SC.ofNil _ _ _ _, SC.ofNil _ _ _ _⟩ a7 c7 (SC.own1 H2 (.tail _ (.head _)))
    have hS := SC.own1 (F := F) H2 (.head _)
    have hFs := keepF (F := F) H2 (hFw H)
    have hc9 := H.chg
    replace H := Hp.keep H2
    generalize hN1 : feet [.own 130 2 a9 (with_ d.names ⟨o.name, d.files.length⟩).length c9 (nmCells (with_ d.names ⟨o.name, d.files.length⟩)), .own 106 3 a7 (d.files.length + 1) c7 (fileCs v.fs d.files ++ [.slice none 0 0, .slice none 0 0, .slice none 0 0])] = N1 at hD1 hS hFs H
    have hval : ({ v with fa := a7, fc := c7, fs := v.fs ++ [⟨none, 0, none, 0, none, 0⟩] } : RV).val { d with files := d.files ++ [Fl.none] } = .agg #[.int .i64 (d.room : Int), .slice a7 (d.files.length + 1) c7, .slice v.na d.names.length v.nc, .slice v.ia d.firm.length v.ic, .slice v.sa d.snaps.length v.sc, .int .i64 (d.armed : Int), .int .i64 (d.denied : Int), .bool d.dead] := by
      simp only [RV.val, List.length_append, List.length_singleton]; rfl
    have hcall := rnamed_spec hD1 hFs (show d.chs.length ≤ _ by omega) (.create o.name d.files.length) a9 c9 hS
    rw [hval] at hcall
    refine callV hcall ?_
    intro e w10 hp
    obtain ⟨v', N2, rfl, H'⟩ := hp.split
    replace H := H.ext H'; clear H'
    simp only [List.cons_append, List.nil_append] at H
    refine ⟨_, _, _, _, _, _, _, _, _, _, _, _, _, _, _, _, rfl, ?_⟩
    refine Hp.stA H.pull2 (by exact ⟨rfl, rfl, rfl, rfl⟩) raggD rfl rfl (by simp) rfl ?_
    clear H; intro w11 H
    refine ⟨_, _, _, _, _, _, _, _, _, _, _, _, _, _, _, _, H.ldA (by exact ⟨rfl, rfl, rfl, rfl⟩) raggD (.head _) rfl rfl, ?_⟩
    exact RPostK.ofK H (.tail _ (.head _)) (.tail _ (.tail _ (.head _))) hc9 hF rfl
  refine br_dec (fun k1 => ?_) (fun k1 => ?_)
  · -- write
    obtain ⟨k, hk, q1, q2, q3⟩ := p1 k1
    have hdD : doesD d o = d.put k ((d.file k).write o.n.toNat o.b) := by simp only [doesD, if_neg k0, if_pos k1, hk]
    rw [hdD]
    refine ⟨_, _, _, _, _, _, _, _, _, _, _, _, _, _, _, _, H.ldA (by exact ⟨rfl, rfl, rfl, rfl⟩) raggD (.tail _ (.tail _ (.head _))) rfl rfl, ?_⟩
    refine ⟨_, _, _, _, _, _, _, _, _, _, H.ldA (by exact ⟨rfl, rfl, rfl, rfl⟩) raggO (.tail _ (.head _)) rfl rfl, ?_⟩
    have hc3 := H.chg
    refine callV (rwritten_spec (h.chg0 H.chg) (hFw H) hok few (by omega) (ho.chg0 H.chg) hk q1 q2 q3) ?_
    intro e w10 hp
    obtain ⟨v', N2, rfl, H'⟩ := hp.split
    replace H := H.ext H'; clear H'
    simp only [List.cons_append, List.nil_append] at H
    refine ⟨_, _, _, _, _, _, _, _, _, _, _, _, _, _, _, _, rfl, ?_⟩
    refine Hp.stA H.pull1 (by exact ⟨rfl, rfl, rfl, rfl⟩) raggD rfl rfl (by simp) rfl ?_
    clear H; intro w11 H
    refine ⟨_, _, _, _, _, _, _, _, _, _, _, _, _, _, _, _, H.ldA (by exact ⟨rfl, rfl, rfl, rfl⟩) raggD (.head _) rfl rfl, ?_⟩
    exact RPostK.ofN H (.tail _ (.head _)) hc3 hF rfl
  refine br_dec (fun k3 => ?_) (fun k3 => ?_)
  · -- sync
    obtain ⟨k, hk⟩ := p3 k3
    have hdD : doesD d o = d.put k (d.file k).sync := by simp only [doesD, if_neg k0, if_neg k1, if_pos k3, hk]
    rw [hdD]
    have hlt := hok.find hk
    obtain ⟨x, f, h1, h2, h3⟩ := h.at hlt
    obtain ⟨c1, c2, c3, c4⟩ := fileCs_at h1 h2
    rw [h3]
    ((repeat apply Exists.intro); first | refine ⟨H.ld (by exact ⟨rfl, rfl, rfl, rfl⟩) (by first | exact sclInt | exact sclBool | exact sclStr | exact rsclN | exact rsclF | exact rsclNN | exact rsclSS | exact rsclSI | exact rsclU) (by repeat first | exact .head _ | refine .tail _ ?_) rfl, ?_⟩ | refine ⟨H.ldA (by exact ⟨rfl, rfl, rfl, rfl⟩) (by first | exact raggD | exact raggF | exact raggO | exact raggN | exact raggA) (by repeat first | exact .head _ | refine .tail _ ?_) rfl rfl, ?_⟩)
    ((repeat apply Exists.intro); first | refine ⟨H.ld (by exact ⟨rfl, rfl, rfl, rfl⟩) (by first | exact sclInt | exact sclBool | exact sclStr | exact rsclN | exact rsclF | exact rsclNN | exact rsclSS | exact rsclSI | exact rsclU) (by repeat first | exact .head _ | refine .tail _ ?_) rfl, ?_⟩ | refine ⟨H.ldA (by exact ⟨rfl, rfl, rfl, rfl⟩) (by first | exact raggD | exact raggF | exact raggO | exact raggN | exact raggA) (by repeat first | exact .head _ | refine .tail _ ?_) rfl rfl, ?_⟩)
    refine callV (rfind_spec (h.chg0 H.chg).names (by omega) o.name) ?_
    rintro e w4 ⟨rfl, H'⟩; replace H := H.ext0 H'; clear H'
    have hf : nget d.names o.name = some k := hk
    rw [hf]
    refine ⟨_, rfl, ?_⟩
    intro b3 w5 hn1; replace H := H.new (by exact ⟨rfl, rfl, rfl, rfl⟩) hn1; clear hn1
    replace H := H.reown 3 0 rfl (by simp)
    ((repeat apply Exists.intro); first | refine ⟨H.ld (by exact ⟨rfl, rfl, rfl, rfl⟩) (by first | exact sclInt | exact sclBool | exact sclStr | exact rsclN | exact rsclF | exact rsclNN | exact rsclSS | exact rsclSI | exact rsclU) (by repeat first | exact .head _ | refine .tail _ ?_) rfl, ?_⟩ | refine ⟨H.ldA (by exact ⟨rfl, rfl, rfl, rfl⟩) (by first | exact raggD | exact raggF | exact raggO | exact raggN | exact raggA) (by repeat first | exact .head _ | refine .tail _ ?_) rfl rfl, ?_⟩)
    refine Hp.app eltRF (by omega) H (by exact ⟨rfl, rfl, rfl, rfl⟩) ((h.chg0 H.chg).files.src undRF (fileCs_ones _ _)) (by simp only [maxLen]; omega) (by omega) ?_
    clear H; intro a6 c6 w6 H
    simp only [List.nil_append, Nat.zero_add] at H ⊢
    replace H := H.drew
    obtain ⟨ad, ha, hld⟩ := H.ldO (P := Go.Proofs.Try.prog) (w' := w6.drew) (t := 33) (o := k * 3) (by exact ⟨rfl, rfl, rfl, rfl⟩) rsclSS (.head _) c1
    simp only [fcode, Int.toNat_natCast]
    refine onP_mk ha ⟨⟨by omega, by omega⟩, _, _, _, hld, ?_⟩
    refine onP_mk ha ⟨⟨by omega, by omega⟩, _, _, _, hld, ?_⟩
    refine onP_mk ha ⟨⟨by omega, by omega⟩, ?_⟩
    have hfc : fileC ⟨x.na, x.nc, x.na, x.nc, none, 0⟩ f.sync = [.slice x.na f.now.length x.nc, .slice x.na f.now.length x.nc, .slice none 0 0] := rfl
    refine Hp.stO (o := k * 3) (v := .agg #[.slice x.na f.now.length x.nc, .slice x.na f.now.length x.nc, .slice none 0 0]) H (by exact ⟨rfl, rfl, rfl, rfl⟩) ha (by rw [raggF.size]; rfl) rfl (by simp only [Value.cells]; rw [fileCs_len h.fl]; simp only [List.size_toArray, List.length_cons, List.length_nil]; omega)
      (show over [.slice x.na f.now.length x.nc, .slice x.na f.now.length x.nc, .slice none 0 0] (k * 3) (fileCs v.fs d.files) = fileCs (v.fs.set k ⟨x.na, x.nc, x.na, x.nc, none, 0⟩) (d.files.set k f.sync) from by rw [← hfc]; exact fileCs_set h.fl hlt _ _) ?_
    clear H; intro w7 H
    ((first | (apply Hp.st; (case H => first | exact H | exact H.pull1 | exact H.pull2 | exact H.pull3 | exact H.pull4 | exact H.pull5 | exact H.pull6 | exact H.pull7); (case e => exact ⟨rfl, rfl, rfl, rfl⟩); (case S => exact (by first | exact sclInt | exact sclBool | exact sclStr | exact rsclN | exact rsclF | exact rsclNN | exact rsclSS | exact rsclSI | exact rsclU)); (case hv => exact rfl); (case h1 => exact rfl); (case ho => exact Nat.le_of_ble_eq_true rfl); (case hc => exact rfl)) | (apply Hp.stA; (case H => first | exact H | exact H.pull1 | exact H.pull2 | exact H.pull3 | exact H.pull4 | exact H.pull5 | exact H.pull6 | exact H.pull7); (case e => exact ⟨rfl, rfl, rfl, rfl⟩); (case S => exact (by first | exact raggD | exact raggF | exact raggO | exact raggN | exact raggA)); (case hn => exact rfl); (case h1 => exact rfl); (case ho => exact Nat.le_of_ble_eq_true rfl); (case hc => exact rfl))); clear H; intro _ H; (try simp only [over, List.set_cons_zero, List.set_cons_succ] at H))
    rename_i w8
    refine ⟨_, _, _, _, _, _, _, _, _, _, _, _, _, _, _, _, H.ldA (by exact ⟨rfl, rfl, rfl, rfl⟩) raggD (.head _) rfl rfl, ?_⟩
    refine Hp.stA H.pull2 (by exact ⟨rfl, rfl, rfl, rfl⟩) raggD rfl rfl (by simp) rfl ?_
    clear H; intro w11 H
    refine ⟨_, _, _, _, _, _, _, _, _, _, _, _, _, _, _, _, H.ldA (by exact ⟨rfl, rfl, rfl, rfl⟩) raggD (.head _) rfl rfl, ?_⟩
    refine RPost.of H hF { v with fa := a6, fc := c6, fs := v.fs.set k ⟨x.na, x.nc, x.na, x.nc, none, 0⟩ } ?_ fun G hG hm => ?_
    · simp only [RV.val, Dk.put, List.length_set]; rfl
    · have hD := (h.chg0 H.chg).more hG
      have hE := hD.each k x f h1 h2
      have hx : RFD G w11 ⟨x.na, x.nc, x.na, x.nc, none, 0⟩ f.sync := ⟨hE.now, hE.now, SC.ofNil _ _ _ _⟩
      exact hD.put hlt hx a6 c6 (hm _ _ _ _ _ _ (by repeat first | exact .head _ | refine .tail _ ?_))
  refine br_dec (fun k4 => ?_) (fun k4 => ?_)
  · -- rename
    obtain ⟨k, hk⟩ := p4 k4
    have hdD : doesD d o = d.change (.rename o.name o.to k) := by simp only [doesD, if_neg k0, if_neg k1, if_neg k3, if_pos k4, hk]
    rw [hdD]
    ((repeat apply Exists.intro); first | refine ⟨H.ld (by exact ⟨rfl, rfl, rfl, rfl⟩) (by first | exact sclInt | exact sclBool | exact sclStr | exact rsclN | exact rsclF | exact rsclNN | exact rsclSS | exact rsclSI | exact rsclU) (by repeat first | exact .head _ | refine .tail _ ?_) rfl, ?_⟩ | refine ⟨H.ldA (by exact ⟨rfl, rfl, rfl, rfl⟩) (by first | exact raggD | exact raggF | exact raggO | exact raggN | exact raggA) (by repeat first | exact .head _ | refine .tail _ ?_) rfl rfl, ?_⟩)
    ((repeat apply Exists.intro); first | refine ⟨H.ld (by exact ⟨rfl, rfl, rfl, rfl⟩) (by first | exact sclInt | exact sclBool | exact sclStr | exact rsclN | exact rsclF | exact rsclNN | exact rsclSS | exact rsclSI | exact rsclU) (by repeat first | exact .head _ | refine .tail _ ?_) rfl, ?_⟩ | refine ⟨H.ldA (by exact ⟨rfl, rfl, rfl, rfl⟩) (by first | exact raggD | exact raggF | exact raggO | exact raggN | exact raggA) (by repeat first | exact .head _ | refine .tail _ ?_) rfl rfl, ?_⟩)
    refine callV (rfind_spec (h.chg0 H.chg).names (by omega) o.name) ?_
    rintro e w4 ⟨rfl, H'⟩; replace H := H.ext0 H'; clear H'
    have hf : nget d.names o.name = some k := hk
    rw [hf]
    refine ⟨_, rfl, ?_⟩
    replace H := H.drew
    refine ⟨_, _, _, _, _, _, _, _, _, _, _, _, _, _, _, _, H.ldA (by exact ⟨rfl, rfl, rfl, rfl⟩) raggD (.tail _ (.tail _ (.head _))) rfl rfl, ?_⟩
    ((repeat apply Exists.intro); first | refine ⟨H.ld (by exact ⟨rfl, rfl, rfl, rfl⟩) (by first | exact sclInt | exact sclBool | exact sclStr | exact rsclN | exact rsclF | exact rsclNN | exact rsclSS | exact rsclSI | exact rsclU) (by repeat first | exact .head _ | refine .tail _ ?_) rfl, ?_⟩ | refine ⟨H.ldA (by exact ⟨rfl, rfl, rfl, rfl⟩) (by first | exact raggD | exact raggF | exact raggO | exact raggN | exact raggA) (by repeat first | exact .head _ | refine .tail _ ?_) rfl rfl, ?_⟩)
    ((repeat apply Exists.intro); first | refine ⟨H.ld (by exact ⟨rfl, rfl, rfl, rfl⟩) (by first | exact sclInt | exact sclBool | exact sclStr | exact rsclN | exact rsclF | exact rsclNN | exact rsclSS | exact rsclSI | exact rsclU) (by repeat first | exact .head _ | refine .tail _ ?_) rfl, ?_⟩ | refine ⟨H.ldA (by exact ⟨rfl, rfl, rfl, rfl⟩) (by first | exact raggD | exact raggF | exact raggO | exact raggN | exact raggA) (by repeat first | exact .head _ | refine .tail _ ?_) rfl rfl, ?_⟩)
    ((repeat apply Exists.intro); first | refine ⟨H.ld (by exact ⟨rfl, rfl, rfl, rfl⟩) (by first | exact sclInt | exact sclBool | exact sclStr | exact rsclN | exact rsclF | exact rsclNN | exact rsclSS | exact rsclSI | exact rsclU) (by repeat first | exact .head _ | refine .tail _ ?_) rfl, ?_⟩ | refine ⟨H.ldA (by exact ⟨rfl, rfl, rfl, rfl⟩) (by first | exact raggD | exact raggF | exact raggO | exact raggN | exact raggA) (by repeat first | exact .head _ | refine .tail _ ?_) rfl rfl, ?_⟩)
    have hwl := without_len d.names o.name
    refine callV (rwithout_spec (h.chg0 H.chg).names (by omega) o.name) ?_
    rintro e w5 ⟨a5, c5, rfl, H'⟩; replace H := H.ext H'; clear H'
    simp only [List.cons_append, List.nil_append] at H
    refine ⟨_, _, _, rfl, H.ld (by exact ⟨rfl, rfl, rfl, rfl⟩) sclStr (.tail _ (.tail _ (.head _))) rfl, H.ldA (by exact ⟨rfl, rfl, rfl, rfl⟩) raggD (.tail _ (.tail _ (.tail _ (.head _)))) rfl rfl, ?_⟩
    have hS5 : SC (blks a5) w5 a5 (without d.names o.name).length c5 2 (nmCells (without d.names o.name)) := .ofOwn (H.ownA (.head _)) fun k hk => hk
    refine callV (rwith_spec hS5 (by omega) ⟨o.to, k⟩) ?_
    rintro e w6 ⟨a6, c6, rfl, H'⟩; replace H := H.ext H'; clear H'
    simp only [List.cons_append, List.nil_append] at H
    refine ⟨_, _, _, rfl, H.ldA (by exact ⟨rfl, rfl, rfl, rfl⟩) raggD (.tail _ (.tail _ (.tail _ (.tail _ (.head _))))) rfl rfl, ?_⟩
    have H2 : Hp [] w w6 ([.own 130 2 a6 (with_ (without d.names o.name) ⟨o.to, k⟩).length c6 (nmCells (with_ (without d.names o.name) ⟨o.to, k⟩))] ++
        [.blk bu [.int .i64 0, .slice none 0 0, .slice none 0 0, .slice none 0 0, .slice none 0 0, .int .i64 0, .int .i64 0, .bool false] 44]) := by
      simp only [List.cons_append, List.nil_append]
      (apply Hp.takeL; (try dsimp only [List.cons_append, List.nil_append]); (try dsimp only [List.cons_append, List.nil_append] at H); refine Hp.perm H ?_; (repeat (apply perm_step; (focus first | exact perm_p0 | exact perm_p1 | exact perm_p2 | exact perm_p3 | exact perm_p4 | exact perm_p5 | exact perm_p6 | exact perm_p7 | exact perm_p8 | exact perm_p9))); exact List.Perm.refl _)
    have hD1 : RD (F ++ feet [.own 130 2 a6 (with_ (without d.names o.name) ⟨o.to, k⟩).length c6 (nmCells (with_ (without d.names o.name) ⟨o.to, k⟩))]) w6 v d := (h.chg0 H.chg).more fun k hk => List.mem_append_left _ hk
    have hS := SC.own1 (F := F) H2 (.head _)
    have hFs := keepF (F := F) H2 (hFw H)
    have hc9 := H.chg
    replace H := Hp.keep H2
    generalize hN1 : feet [.own 130 2 a6 (with_ (without d.names o.name) ⟨o.to, k⟩).length c6 (nmCells (with_ (without d.names o.name) ⟨o.to, k⟩))] = N1 at hD1 hS hFs H
    refine callV (rnamed_spec hD1 hFs (by omega) (.rename o.name o.to k) a6 c6 hS) ?_
    intro e w10 hp
    obtain ⟨v', N2, rfl, H'⟩ := hp.split
    replace H := H.ext H'; clear H'
    simp only [List.cons_append, List.nil_append] at H
    refine ⟨_, _, _, _, _, _, _, _, _, _, _, _, _, _, _, _, rfl, ?_⟩
    refine Hp.stA H.pull2 (by exact ⟨rfl, rfl, rfl, rfl⟩) raggD rfl rfl (by simp) rfl ?_
    clear H; intro w11 H
    refine ⟨_, _, _, _, _, _, _, _, _, _, _, _, _, _, _, _, H.ldA (by exact ⟨rfl, rfl, rfl, rfl⟩) raggD (.head _) rfl rfl, ?_⟩
    exact RPostK.ofK H (.tail _ (.head _)) (.tail _ (.tail _ (.head _))) hc9 hF rfl
  refine br_dec (fun k5 => ?_) (fun k5 => ?_)
  · -- remove
    have hdD : doesD d o = d.change (.remove o.name) := by simp only [doesD, if_neg k0, if_neg k1, if_neg k3, if_neg k4, if_pos k5]
    rw [hdD]
    replace H := H.drew
    refine ⟨_, _, _, _, _, _, _, _, _, _, _, _, _, _, _, _, H.ldA (by exact ⟨rfl, rfl, rfl, rfl⟩) raggD (.tail _ (.tail _ (.head _))) rfl rfl, ?_⟩
    ((repeat apply Exists.intro); first | refine ⟨H.ld (by exact ⟨rfl, rfl, rfl, rfl⟩) (by first | exact sclInt | exact sclBool | exact sclStr | exact rsclN | exact rsclF | exact rsclNN | exact rsclSS | exact rsclSI | exact rsclU) (by repeat first | exact .head _ | refine .tail _ ?_) rfl, ?_⟩ | refine ⟨H.ldA (by exact ⟨rfl, rfl, rfl, rfl⟩) (by first | exact raggD | exact raggF | exact raggO | exact raggN | exact raggA) (by repeat first | exact .head _ | refine .tail _ ?_) rfl rfl, ?_⟩)
    ((repeat apply Exists.intro); first | refine ⟨H.ld (by exact ⟨rfl, rfl, rfl, rfl⟩) (by first | exact sclInt | exact sclBool | exact sclStr | exact rsclN | exact rsclF | exact rsclNN | exact rsclSS | exact rsclSI | exact rsclU) (by repeat first | exact .head _ | refine .tail _ ?_) rfl, ?_⟩ | refine ⟨H.ldA (by exact ⟨rfl, rfl, rfl, rfl⟩) (by first | exact raggD | exact raggF | exact raggO | exact raggN | exact raggA) (by repeat first | exact .head _ | refine .tail _ ?_) rfl rfl, ?_⟩)
    refine callV (rwithout_spec (h.chg0 H.chg).names (by omega) o.name) ?_
    rintro e w6 ⟨a6, c6, rfl, H'⟩; replace H := H.ext H'; clear H'
    simp only [List.cons_append, List.nil_append] at H
    refine ⟨_, _, _, rfl, H.ldA (by exact ⟨rfl, rfl, rfl, rfl⟩) raggD (.tail _ (.tail _ (.tail _ (.head _)))) rfl rfl, ?_⟩
    have H2 : Hp [] w w6 ([.own 130 2 a6 (without d.names o.name).length c6 (nmCells (without d.names o.name))] ++
        [.blk bu [.int .i64 0, .slice none 0 0, .slice none 0 0, .slice none 0 0, .slice none 0 0, .int .i64 0, .int .i64 0, .bool false] 44]) := by
      simp only [List.cons_append, List.nil_append]
      (apply Hp.takeL; (try dsimp only [List.cons_append, List.nil_append]); (try dsimp only [List.cons_append, List.nil_append] at H); refine Hp.perm H ?_; (repeat (apply perm_step; (focus first | exact perm_p0 | exact perm_p1 | exact perm_p2 | exact perm_p3 | exact perm_p4 | exact perm_p5 | exact perm_p6 | exact perm_p7 | exact perm_p8 | exact perm_p9))); exact List.Perm.refl _)
    have hD1 : RD (F ++ feet [.own 130 2 a6 (without d.names o.name).length c6 (nmCells (without d.names o.name))]) w6 v d := (h.chg0 H.chg).more fun k hk => List.mem_append_left _ hk
    have hS := SC.own1 (F := F) H2 (.head _)
    have hFs := keepF (F := F) H2 (hFw H)
    have hc9 := H.chg
    replace H := Hp.keep H2
    generalize hN1 : feet [.own 130 2 a6 (without d.names o.name).length c6 (nmCells (without d.names o.name))] = N1 at hD1 hS hFs H
    refine callV (rnamed_spec hD1 hFs (by omega) (.remove o.name) a6 c6 hS) ?_
    intro e w10 hp
    obtain ⟨v', N2, rfl, H'⟩ := hp.split
    replace H := H.ext H'; clear H'
    simp only [List.cons_append, List.nil_append] at H
    refine ⟨_, _, _, _, _, _, _, _, _, _, _, _, _, _, _, _, rfl, ?_⟩
    refine Hp.stA H.pull2 (by exact ⟨rfl, rfl, rfl, rfl⟩) raggD rfl rfl (by simp) rfl ?_
    clear H; intro w11 H
    refine ⟨_, _, _, _, _, _, _, _, _, _, _, _, _, _, _, _, H.ldA (by exact ⟨rfl, rfl, rfl, rfl⟩) raggD (.head _) rfl rfl, ?_⟩
    exact RPostK.ofK H (.tail _ (.head _)) (.tail _ (.tail _ (.head _))) hc9 hF rfl
  refine br_dec (fun k6 => ?_) (fun k6 => ?_)
  · -- sync names
    have hdD : doesD d o = { d with firm := d.names, chs := [] } := by simp only [doesD, if_neg k0, if_neg k1, if_neg k3, if_neg k4, if_neg k5, if_pos k6]
    rw [hdD]
    ((repeat apply Exists.intro); first | refine ⟨H.ld (by exact ⟨rfl, rfl, rfl, rfl⟩) (by first | exact sclInt | exact sclBool | exact sclStr | exact rsclN | exact rsclF | exact rsclNN | exact rsclSS | exact rsclSI | exact rsclU) (by repeat first | exact .head _ | refine .tail _ ?_) rfl, ?_⟩ | refine ⟨H.ldA (by exact ⟨rfl, rfl, rfl, rfl⟩) (by first | exact raggD | exact raggF | exact raggO | exact raggN | exact raggA) (by repeat first | exact .head _ | refine .tail _ ?_) rfl rfl, ?_⟩)
    ((first | (apply Hp.st; (case H => first | exact H | exact H.pull1 | exact H.pull2 | exact H.pull3 | exact H.pull4 | exact H.pull5 | exact H.pull6 | exact H.pull7); (case e => exact ⟨rfl, rfl, rfl, rfl⟩); (case S => exact (by first | exact sclInt | exact sclBool | exact sclStr | exact rsclN | exact rsclF | exact rsclNN | exact rsclSS | exact rsclSI | exact rsclU)); (case hv => exact rfl); (case h1 => exact rfl); (case ho => exact Nat.le_of_ble_eq_true rfl); (case hc => exact rfl)) | (apply Hp.stA; (case H => first | exact H | exact H.pull1 | exact H.pull2 | exact H.pull3 | exact H.pull4 | exact H.pull5 | exact H.pull6 | exact H.pull7); (case e => exact ⟨rfl, rfl, rfl, rfl⟩); (case S => exact (by first | exact raggD | exact raggF | exact raggO | exact raggN | exact raggA)); (case hn => exact rfl); (case h1 => exact rfl); (case ho => exact Nat.le_of_ble_eq_true rfl); (case hc => exact rfl))); clear H; intro _ H; (try simp only [over, List.set_cons_zero, List.set_cons_succ] at H))
    ((first | (apply Hp.st; (case H => first | exact H | exact H.pull1 | exact H.pull2 | exact H.pull3 | exact H.pull4 | exact H.pull5 | exact H.pull6 | exact H.pull7); (case e => exact ⟨rfl, rfl, rfl, rfl⟩); (case S => exact (by first | exact sclInt | exact sclBool | exact sclStr | exact rsclN | exact rsclF | exact rsclNN | exact rsclSS | exact rsclSI | exact rsclU)); (case hv => exact rfl); (case h1 => exact rfl); (case ho => exact Nat.le_of_ble_eq_true rfl); (case hc => exact rfl)) | (apply Hp.stA; (case H => first | exact H | exact H.pull1 | exact H.pull2 | exact H.pull3 | exact H.pull4 | exact H.pull5 | exact H.pull6 | exact H.pull7); (case e => exact ⟨rfl, rfl, rfl, rfl⟩); (case S => exact (by first | exact raggD | exact raggF | exact raggO | exact raggN | exact raggA)); (case hn => exact rfl); (case h1 => exact rfl); (case ho => exact Nat.le_of_ble_eq_true rfl); (case hc => exact rfl))); clear H; intro _ H; (try simp only [over, List.set_cons_zero, List.set_cons_succ] at H))
    refine ⟨_, _, _, _, _, _, _, _, _, _, _, _, _, _, _, _, H.ldA (by exact ⟨rfl, rfl, rfl, rfl⟩) raggD (.head _) rfl rfl, ?_⟩
    refine Hp.stA H.pull1 (by exact ⟨rfl, rfl, rfl, rfl⟩) raggD rfl rfl (by simp) rfl ?_
    clear H; intro w11 H
    refine ⟨_, _, _, _, _, _, _, _, _, _, _, _, _, _, _, _, H.ldA (by exact ⟨rfl, rfl, rfl, rfl⟩) raggD (.head _) rfl rfl, ?_⟩
    refine RPost.of H hF { v with ia := v.na, ic := v.nc, sa := none, sc := 0, ss := [] } rfl fun G hG hm => ?_
    have hD := (h.chg0 H.chg).more hG
    exact ⟨hD.files, hD.fl, hD.each, hD.names, hD.names, SC.ofNil _ _ _ _, rfl, by simp⟩
  · have hdD : doesD d o = d := by simp only [doesD, if_neg k0, if_neg k1, if_neg k3, if_neg k4, if_neg k5, if_neg k6]
    rw [hdD]
    refine ⟨_, _, _, _, _, _, _, _, _, _, _, _, _, _, _, _, H.ldA (by exact ⟨rfl, rfl, rfl, rfl⟩) raggD (.tail _ (.tail _ (.head _))) rfl rfl, ?_⟩
    refine Hp.stA H (by exact ⟨rfl, rfl, rfl, rfl⟩) raggD rfl rfl (by simp) rfl ?_
    clear H; intro w11 H
    refine ⟨_, _, _, _, _, _, _, _, _, _, _, _, _, _, _, _, H.ldA (by exact ⟨rfl, rfl, rfl, rfl⟩) raggD (.head _) rfl rfl, ?_⟩
    exact RPostK.same h hF H.chg d (h.chg0 H.chg) rfl
end Go.Proofs.Ytdpkamajecmebaa
