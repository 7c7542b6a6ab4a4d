/- Vault: the laws of what a crash finds, of room, of what lasts, of names. -/
import Derived.Test.YtnmlkecmokhhhaaUw
set_option linter.unusedVariables false
set_option linter.unusedSimpArgs false
set_option maxRecDepth 100000
namespace Go.Proofs.Ytnmlkecmokhhhaa
open Go Go.Vc Go.Vault

theorem aliveEnd {W w : World} {L : List Asn} (H : Hp [] W w L) : CallV Go.Proofs.Try.prog 11 [] w fun e w' => ∃ b, e = .returned (.bool b) ∧ (Ending.returned (.bool b) = .returned (.bool true) ∧ Hp [] W w' []) :=
  callV (alive_spec w) fun e w' ⟨he, H'⟩ => by subst he; exact ⟨true, rfl, rfl, (H.ext0 H').done⟩
theorem SC.stable {F : List Nat} {W w : World} {a : Option Addr} {n c sz : Nat} {xs : List Value} (h : SC F W a n c sz xs) {L1 L2 : List Asn} (H : Hp [] W w (L1 ++ L2)) : ∀ W', Chg (feet L1) w W' → SC F W' a n c sz xs := fun W' hc =>
  h.chg0 (H.chg.trans hc (fun k hk => hk) fun k hk => by
    obtain ⟨b, hb, hbf⟩ := mem_feet.1 hk
    rcases H.own b (List.mem_append_left _ hb) k hbf with h | h
    · cases h
    · exact .inr h)
def valC (v : RV) (d : Dk) : List Value := [.int .i64 (d.room : Int), .slice v.fa d.files.length v.fc, .slice v.na d.names.length v.nc, .slice v.ia d.firm.length v.ic, .slice v.sa d.snaps.length v.sc, .int .i64 (d.armed : Int), .int .i64 (d.denied : Int), .bool d.dead]

set_option maxHeartbeats 4000000 in
theorem vaultFinds_law (sa : Option Addr) (sc : Nat) (os : List (OW × Op)) (names : Int) (pa : Option Addr) (pc : Nat) (ps : List Int) (W : World) (hs : Scr W sa os) (hp : SC (blks pa) W pa ps.length pc 1 (ints ps)) :
    Calls Go.Proofs.Try.prog 7 #[.slice sa os.length sc, .int .i64 names, .slice pa ps.length pc] W fun e W' => e = .returned (.bool true) ∧ Hp [] W W' [] := by
  apply vaultFinds.ok; unfold vaultFinds.vc
  refine br_dec (fun _ => aliveEnd (Hp.start W)) (fun h1 => ?_)
  refine br_dec (fun _ => aliveEnd (Hp.start W)) (fun h2 => ?_)
  refine callV (plays_spec 40 sa sc os (by omega) W hs) ?_
  rintro e w1 ⟨x, F, v, rfl, hx, fit, H⟩
  generalize playD (Dk.new 40) os = d at hx fit H ⊢
  have fitN := fit.mono (show os.length ≤ 300 by omega)
  refine ⟨_, _, _, _, _, _, _, _, _, _, _, _, _, _, _, _, _, _, rfl, ?_⟩
  intro b2 w2 hn; replace H := H.new (by exact ⟨rfl, rfl, rfl, rfl⟩) hn; clear hn
  refine Hp.stA H (by exact ⟨rfl, rfl, rfl, rfl⟩) raggD (vs := valC v d) (cs' := valC v d) rfl rfl (by simp) rfl ?_
  clear H; intro w3 H
  refine br_not (fun h => by cases h) (fun _ => ?_)
  have H2 : Hp [] W w3 (dkL x d ++ [.blk b2 (valC v d) 41, refA F v d]) := H.perm (List.perm_append_comm (l₁ := [_, _]))
  refine callV (crash_spec x d hx fitN.few (by omega) names pa pc ps w3 H2.std1 (fun W' hW => (hp.stable H2 W' hW).cells) hp.le) ?_
  rintro e w4 ⟨y, rfl, hy, H'⟩
  replace H2 := H2.useL H'; clear H' H
  refine ⟨_, rfl, ?_⟩
  refine callV (alive_spec w4) ?_
  rintro e w5 ⟨rfl, H'⟩; replace H2 := H2.ext0 H'; clear H'
  refine ⟨_, rfl, br_true ?_⟩
  refine ⟨_, eqv_ptrDN, ?_⟩
  refine br_true ?_
  have mb : Asn.blk b2 (valC v d) 41 ∈ (dkL y (d.crash names ps) ++ dkL x d) ++ [.blk b2 (valC v d) 41, refA F v d] := List.mem_append_right _ (.head _)
  have mr : refA F v d ∈ (dkL y (d.crash names ps) ++ dkL x d) ++ [.blk b2 (valC v d) 41, refA F v d] := List.mem_append_right _ (.tail _ (.head _))
  refine ⟨_, _, _, _, _, _, _, _, _, _, _, _, _, _, _, _, H2.ldA (by exact ⟨rfl, rfl, rfl, rfl⟩) raggD mb rfl rfl, ?_⟩
  obtain ⟨hR, hF⟩ := refA_rd (H2.ok _ mr)
  refine callV (rcrash_spec hR hF hx.dk fitN.few (by omega) (fitN.since hx.dk (by omega)) (fun f hf => by have := fitN.now f hf; omega) names (hp.chg0 H2.chg)) ?_
  intro e w6 hpost
  obtain ⟨v', F', rfl, hc, _, _, hR'⟩ := hpost
  replace H2 := H2.chg0 hc
  refine ⟨_, _, _, _, _, _, _, _, _, _, _, _, _, _, _, _, rfl, ?_⟩
  refine callV (stands_spec y _ _ hy (Fit.crash fitN hx.dk names ps) (by omega) (Same.refl _) hy.dk w6 H2.takeL.takeL.std hR') ?_
  rintro e w7 ⟨rfl, H'⟩; replace H2 := H2.ext0 H'; clear H'
  refine ⟨_, rfl, br_true ?_⟩
  refine ⟨_, _, _, _, _, _, _, _, _, _, _, _, _, _, _, _, H2.ldA (by exact ⟨rfl, rfl, rfl, rfl⟩) raggD mb rfl rfl, ?_⟩
  obtain ⟨hR, hF⟩ := refA_rd (H2.ok _ mr)
  refine callV (stands_spec x _ _ hx fitN (by omega) (Same.refl _) hx.dk w7 (H2.takeL.perm List.perm_append_comm).takeL.std hR) ?_
  rintro e w8 ⟨rfl, H'⟩; replace H2 := H2.ext0 H'; clear H'
  exact ⟨_, rfl, rfl, H2.done⟩

set_option maxHeartbeats 4000000 in
theorem vaultRoom_law (room : Int) (sa : Option Addr) (sc : Nat) (os : List (OW × Op)) (W : World) (hs : Scr W sa os) :
    Calls Go.Proofs.Try.prog 3 #[.int .i64 room, .slice sa os.length sc] W fun e W' => e = .returned (.bool true) ∧ Hp [] W W' [] := by
  apply vaultRoom.ok; unfold vaultRoom.vc
  refine callV (new_spec room W) ?_
  rintro e w1 ⟨x0, rfl, hx0, H⟩
  refine ⟨_, rfl, _, eqv_ptrD, ?_⟩
  refine br_mk (fun h => by cases h) (fun _ => ?_)
  refine br_dec (fun _ => ?_) (fun h1 => ?_)
  · refine ⟨_, eqv_ptrDN, br_true ?_⟩
    exact aliveEnd H
  obtain ⟨hr0, hr1⟩ := new_room' room
  refine LoopP.mk (fun (m : Nat) (s : Option Addr × Int) (w' : World) => ∃ (k : Nat) (x : DW) (d : Dk), m = os.length - k ∧ k ≤ os.length ∧ s = (some ⟨x.b, 0, none⟩, (k : Int)) ∧ x.Ok d ∧ d.Fit k ∧ Roomy d ∧ d.room = (Dk.new room).room ∧ Hp [] W w' (dkL x d)) os.length ⟨0, x0, _, by omega, by omega, rfl, hx0, new_fit room 0, hr0, rfl, H⟩ ?_
  clear H hx0 w1
  rintro m s w1 next ⟨k, x, d, rfl, hk, rfl, hx, fit, hry, hrm, H⟩ hnext
  dsimp only
  refine br_dec (fun h2 => ?_) (fun h2 => aliveEnd H)
  have hkl : k < os.length := by omega
  obtain ⟨p, hp⟩ : ∃ p, os[k]? = some p := ⟨_, List.getElem?_eq_getElem hkl⟩
  have hpm := List.mem_of_getElem? hp
  obtain ⟨ad, ha, hld⟩ := (hs.chg0 H.chg).ldA hp
  refine onP_mk ha ⟨⟨by omega, by omega⟩, _, _, _, _, _, _, _, _, _, _, by rw [Int.toNat_natCast]; exact hld, ?_⟩
  intro bo w2 hn; replace H := H.new (by exact ⟨rfl, rfl, rfl, rfl⟩) hn; clear hn
  refine Hp.stA H (by exact ⟨rfl, rfl, rfl, rfl⟩) raggO (vs := opC p) (cs' := opC p) rfl rfl (by simp) rfl ?_
  clear H; intro w3 H
  refine ⟨_, _, _, _, _, _, _, _, _, _, H.ldA (by exact ⟨rfl, rfl, rfl, rfl⟩) raggO (.head _) rfl rfl, ?_⟩
  have H2 : Hp [] W w3 (dkL x d ++ [.blk bo (opC p) 29]) := H.perm (List.perm_append_comm (l₁ := [_]))
  refine callV (does_spec x d hx fit (by omega) w3 (hs.stable H2 hpm) (fun _ => hs.rng p hpm) (fun _ => hs.rng p hpm) H2.std1) ?_
  rintro e w4 ⟨x', rfl, hx', H'⟩
  replace H2 := H2.useL H'; clear H' H
  have fit' := doP_fit fit hx.dk p.2
  have H := H2.perm List.perm_append_comm
  clear H2
  simp only [List.cons_append, List.nil_append] at H
  refine ⟨_, _, _, rfl, ?_⟩
  intro b1 w5 hn; replace H := H.new (by exact ⟨rfl, rfl, rfl, rfl⟩) hn; clear hn
  refine Hp.stA H (by exact ⟨rfl, rfl, rfl, rfl⟩) raggA (vs := [sv (doP d p.2).2.1, .int .i64 (doP d p.2).2.2]) (cs' := [sv (doP d p.2).2.1, .int .i64 (doP d p.2).2.2]) rfl rfl (by simp) rfl ?_
  clear H; intro w6 H
  refine ⟨_, eqv_ptrD, ?_⟩
  refine br_mk (fun h => by cases h) (fun _ => ?_)
  refine callV (used_spec x' _ hx' (fit'.used (by omega)) w6 H.drop.drop.std) ?_
  rintro e w7 ⟨rfl, H'⟩; replace H := H.ext0 H'; clear H'
  refine ⟨_, rfl, ?_⟩
  have l1 : Ld Go.Proofs.Try.prog 3 w7 ⟨bo, 0, none⟩ (.int .i64 p.2.kind) := H.ld (cs := opC p) (by exact ⟨rfl, rfl, rfl, rfl⟩) sclInt (.tail _ (.head _)) rfl
  by_cases k9 : p.2.kind = 9
  · refine br_dec (fun _ => ?_) (fun _ => ?_)
    · refine ⟨_, l1, ?_⟩
      refine br_ndec (fun h => absurd k9 h) (fun _ => ?_)
      refine ⟨_, l1, ?_⟩
      exact br_dec (fun _ => aliveEnd H) (fun h => absurd k9 h)
    · refine ⟨_, l1, ?_⟩
      exact br_dec (fun _ => aliveEnd H) (fun h => absurd k9 h)
  · obtain ⟨q1, q2⟩ := doP_room hx.dk hry p.2 k9
    have hu := q1.used
    refine br_dec (fun h => by rw [q2, hrm] at hu; omega) (fun _ => ?_)
    refine ⟨_, l1, ?_⟩
    refine br_dec (fun h => absurd h k9) (fun _ => ?_)
    exact ⟨inR64.2 (by omega), hnext (os.length - (k + 1)) _ _ (by omega) ⟨k + 1, x', _, rfl, by omega, by simp, hx', fit', q1, q2.trans hrm, H.drop.drop⟩⟩

/-! ### All is let last -/
theorem foundF_get : ∀ {fs : List Fl} {ps : List Int} {k : Nat} {f : Fl}, fs[k]? = some f → ∃ qs, (foundF fs ps)[k]? = some (f.found qs)
  | [], _, k, f, h => by simp at h
  | g :: r, ps, 0, f, h => by simp at h; subst h; exact ⟨ps, rfl⟩
  | g :: r, ps, k + 1, f, h => by
    rw [List.getElem?_cons_succ] at h
    obtain ⟨qs, hq⟩ := foundF_get (ps := ps.drop g.since.length) h
    exact ⟨qs, by simpa [foundF] using hq⟩
/-- the files of a name, let last so far -/
structure Lasting (d q : Dk) (k : Nat) : Prop where
  sh : ∃ fs, q = { d with files := fs, armed := 0, denied := 0, dead := false }
  len : q.files.length = d.files.length
  now : ∀ j, (q.file j).now = (d.file j).now
  firm : ∀ p ∈ d.names.take k, (q.file p.file).firm = (q.file p.file).now ∧ (q.file p.file).since = []
theorem file_put {d : Dk} {k : Nat} {f : Fl} (hk : k < d.files.length) (j : Nat) : (d.put k f).file j = if j = k then f else d.file j := by
  simp only [Dk.file, Dk.put, List.getD_eq_getElem?_getD, List.getElem?_set]
  by_cases h : j = k
  · subst h; simp [hk]
  · rw [if_neg (fun e => h e.symm), if_neg h]
theorem sync_eq {q : Dk} (h1 : q.armed = 0) (h2 : q.denied = 0) (h3 : q.dead = false) {n : ByteArray} {k : Nat} (hk : q.find n = some k) : q.sync n = (q.put k (q.file k).sync, 0) := by
  have e1 : q.denies = q := by
    obtain ⟨_, _, _, _, _, _, _⟩ := q
    simp only [Dk.denies] at h2 ⊢
    rw [h2]
  have e2 : q.dies = q := by unfold Dk.dies; rw [if_neg (by omega)]
  have e3 : q.refused = false := by simp [Dk.refused, h2]
  unfold Dk.sync
  rw [h3, hk]
  simp only [Bool.false_eq_true, if_false, e1, e2, e3, h3]
theorem syncNames_eq {q : Dk} (h1 : q.armed = 0) (h3 : q.dead = false) : q.syncNames = ({ q with firm := q.names, chs := [] }, 0) := by
  have e2 : q.dies = q := by unfold Dk.dies; rw [if_neg (by omega)]
  unfold Dk.syncNames
  rw [h3]
  simp only [Bool.false_eq_true, if_false, e2, h3]
theorem Lasting.step {d q : Dk} {k : Nat} (hok : d.Ok) (h : Lasting d q k) {p : Nm} (hp : d.names[k]? = some p) : q.sync p.name = (q.put p.file (q.file p.file).sync, 0) ∧ Lasting d (q.put p.file (q.file p.file).sync) (k + 1) := by
  obtain ⟨fs, hq⟩ := h.sh
  have hpm := List.mem_of_getElem? hp
  have hpf := hok.file p hpm
  have hfd : q.find p.name = some p.file := by rw [hq]; exact nget_at hok.names hp
  have hl : p.file < q.files.length := by rw [h.len]; exact hpf
  refine ⟨sync_eq (by rw [hq]) (by rw [hq]) (by rw [hq]) hfd, ⟨⟨fs.set p.file (q.file p.file).sync, by rw [hq]; rfl⟩, by simp [Dk.put, h.len], fun j => ?_, fun r hr => ?_⟩⟩
  · rw [file_put hl]
    split
    · rename_i e; rw [e]; exact h.now p.file
    · exact h.now j
  · rw [file_put hl]
    split
    · exact ⟨rfl, rfl⟩
    · rename_i e
      rw [take_snoc hp] at hr
      rcases List.mem_append.1 hr with hr | hr
      · exact h.firm r hr
      · rw [List.mem_singleton.1 hr] at e; exact absurd rfl e
theorem Lasting.same {d q : Dk} (hok : d.Ok) (hd : d.dead = false) (h : Lasting d q d.names.length) (n : Int) (ps : List Int) : Same (({ q with firm := q.names, chs := [] } : Dk).crash n ps) d := by
  obtain ⟨fs, hq⟩ := h.sh
  have hn : q.names = d.names := by rw [hq]; rfl
  have hcn : (({ q with firm := q.names, chs := [] } : Dk).crash n ps).names = d.names := by
    show ons (ons q.names (([] : List Ch).take _)) [] = d.names
    rw [List.take_nil]
    exact hn
  refine ⟨hcn, hd.symm, fun p hp => ?_⟩
  rw [hcn] at hp
  have hpf := hok.file p hp
  have hl : p.file < q.files.length := by rw [h.len]; exact hpf
  obtain ⟨qs, hqs⟩ := foundF_get (ps := ps) (List.getElem?_eq_getElem hl)
  have hf : (({ q with firm := q.names, chs := [] } : Dk).crash n ps).file p.file = (q.files[p.file]).found qs := by
    simp only [Dk.file, Dk.crash, List.getD_eq_getElem?_getD]
    rw [hqs]; rfl
  have hqf : q.files[p.file] = q.file p.file := by simp [Dk.file, hl]
  obtain ⟨f1, f2⟩ := h.firm p (by rw [List.take_length]; exact hp)
  rw [hf, hqf, Fl.found, f2]
  show (q.file p.file).firm = _
  rw [f1, h.now]

set_option maxHeartbeats 4000000 in
theorem vaultSynced_law (sa : Option Addr) (sc : Nat) (os : List (OW × Op)) (names : Int) (pa : Option Addr) (pc : Nat) (ps : List Int) (W : World) (hs : Scr W sa os) (hp : SC (blks pa) W pa ps.length pc 1 (ints ps)) :
    Calls Go.Proofs.Try.prog 8 #[.slice sa os.length sc, .int .i64 names, .slice pa ps.length pc] W fun e W' => e = .returned (.bool true) ∧ Hp [] W W' [] := by
  apply vaultSynced.ok; unfold vaultSynced.vc
  refine br_dec (fun _ => aliveEnd (Hp.start W)) (fun h1 => ?_)
  refine callV (plays_spec 40 sa sc os (by omega) W hs) ?_
  rintro e w1 ⟨x, F, v, rfl, hx, fit, H⟩
  generalize playD (Dk.new 40) os = d at hx fit H ⊢
  have fitN := fit.mono (show os.length ≤ 300 by omega)
  have hnl := fitN.nl
  refine ⟨_, _, _, _, _, _, _, _, _, _, _, _, _, _, _, _, _, _, rfl, ?_⟩
  intro b2 w2 hn; replace H := H.new (by exact ⟨rfl, rfl, rfl, rfl⟩) hn; clear hn
  refine Hp.stA H (by exact ⟨rfl, rfl, rfl, rfl⟩) raggD (vs := valC v d) (cs' := valC v d) rfl rfl (by simp) rfl ?_
  clear H; intro w3 H
  refine br_not (fun h => by cases h) (fun _ => ?_)
  refine ⟨_, H.ld (cs := valC v d) (by exact ⟨rfl, rfl, rfl, rfl⟩) sclBool (.head _) rfl, ?_⟩
  refine br_mk (fun hd => br_true (aliveEnd H)) (fun hd => ?_)
  have H2 : Hp [] W w3 (dkL x d ++ [.blk b2 (valC v d) 41, refA F v d]) := H.perm (List.perm_append_comm (l₁ := [_, _]))
  clear H
  refine callV (arm_spec x d hx 0 w3 H2.std1) ?_
  rintro e w4 ⟨rfl, H'⟩; replace H2 := H2.useL H'; clear H'
  have hx1 : x.Ok (d.arm 0) := ⟨⟨hx.dk.room, hx.dk.files, hx.dk.firm, hx.dk.chs, hx.dk.rise, by simp [Dk.arm], hx.dk.denied⟩, hx.fl, hx.cl, hx.keys, hx.na, hx.fi⟩
  refine ⟨rfl, ?_⟩
  refine callV (deny_spec x (d.arm 0) hx1 0 w4 H2.std1) ?_
  rintro e w5 ⟨rfl, H'⟩; replace H2 := H2.useL H'; clear H'
  have hx2 : x.Ok ((d.arm 0).deny 0) := ⟨⟨hx.dk.room, hx.dk.files, hx.dk.firm, hx.dk.chs, hx.dk.rise, by simp [Dk.arm, Dk.deny], by simp [Dk.deny]⟩, hx.fl, hx.cl, hx.keys, hx.na, hx.fi⟩
  refine ⟨rfl, ?_⟩
  have hL0 : Lasting d ((d.arm 0).deny 0) 0 := ⟨⟨d.files, by simp only [Dk.arm, Dk.deny, hd]; rfl⟩, rfl, fun _ => rfl, by simp⟩
  refine callV (names_spec x _ hx2 (by show d.names.length ≤ _; omega) w5 H2.std1) ?_
  rintro e w6 ⟨a3, c3, rfl, H'⟩; replace H2 := H2.ext H'; clear H'
  have hnm : ((d.arm 0).deny 0).names = d.names := rfl
  rw [hnm] at H2 ⊢
  refine ⟨_, _, _, rfl, ?_⟩
  refine LoopP.mk (fun (m : Nat) (s : Int) (w' : World) => ∃ (k : Nat) (y : DW) (q : Dk), m = d.names.length - k ∧ k ≤ d.names.length ∧ s = (k : Int) ∧ y.b = x.b ∧ y.Ok q ∧ q.Fit 300 ∧ Lasting d q k ∧
      Hp [] W w' (dkL y q ++ [.own 9 1 a3 d.names.length c3 (d.names.map fun p => .string p.name), .blk b2 (valC v d) 41, refA F v d])) d.names.length ⟨0, x, _, by omega, by omega, rfl, rfl, hx2, ⟨fitN.files, fitN.now, fitN.names, fitN.chs⟩, hL0, H2.perm (perm_cnt fun ff gg h0 hc ha hpm => by simp only [ha, hc, h0]; omega)⟩ ?_
  clear H2 w1 w2 w3 w4 w5 w6
  rintro m s w1 next ⟨k, y, q, rfl, hk, rfl, hyb, hy, hqf, hL, H⟩ hnext
  refine br_dec (fun h2 => ?_) (fun h2 => ?_)
  · have hkl : k < d.names.length := by omega
    obtain ⟨p, hpk⟩ : ∃ p, d.names[k]? = some p := ⟨_, List.getElem?_eq_getElem hkl⟩
    obtain ⟨ad, ha, hld⟩ := H.ldO (P := Go.Proofs.Try.prog) (w' := w1) (t := 9) (o := Int.toNat (k : Int) * 1) (v := .string p.name) (by exact ⟨rfl, rfl, rfl, rfl⟩) sclStr (List.mem_append_right _ (.head _)) (by rw [Int.toNat_natCast, Nat.mul_one]; simp [hpk])
    refine onP_mk ha ⟨⟨by omega, by omega⟩, _, hld, ?_⟩
    obtain ⟨s1, s2⟩ := hL.step hx.dk hpk
    have hsp := sync_spec y q hy hqf.few (by omega) p.name w1 H.std1
    rw [s1, hyb] at hsp
    refine callV hsp ?_
    rintro e w2 ⟨rfl, y', hyb', hy', H'⟩
    refine ⟨_, rfl, ?_⟩
    refine br_ndec (fun h => absurd rfl h) (fun _ => ?_)
    have hqf' : (q.put p.file (q.file p.file).sync).Fit 300 := by
      refine ⟨by simp only [Dk.put, List.length_set]; exact hqf.files, fun g hg => ?_, hqf.names, hqf.chs⟩
      rcases List.mem_or_eq_of_mem_set hg with hg | rfl
      · exact hqf.now g hg
      · exact Fit.file hqf p.file
    exact ⟨inR64.2 (by omega), hnext (d.names.length - (k + 1)) _ _ (by omega) ⟨k + 1, y', _, rfl, by omega, by simp, hyb'.trans hyb, hy', hqf', s2, H.useL H'⟩⟩
  · have hk2 : k = d.names.length := by omega
    subst hk2
    obtain ⟨fs, hqe⟩ := hL.sh
    have hsn := syncNames_spec y q hy w1 H.std1
    rw [syncNames_eq (by rw [hqe]) (by rw [hqe]), hyb] at hsn
    refine callV hsn ?_
    rintro e w2 ⟨rfl, y', hyb', hy', H'⟩
    replace H := H.useL H'; clear H'
    refine ⟨_, rfl, ?_⟩
    refine br_ndec (fun h => absurd rfl h) (fun _ => ?_)
    have hnq : q.names = d.names := by rw [hqe]; rfl
    have hqf2 : ({ q with firm := q.names, chs := [] } : Dk).Fit 300 := Fit.sub hqf _ (by rw [hnq]; exact hnl)
    have hcs := crash_spec y' _ hy' hqf2.few (by omega) names pa pc ps w2 H.std1 (fun W' hW => (hp.stable H W' hW).cells) hp.le
    rw [hyb', hyb] at hcs
    refine callV hcs ?_
    rintro e w3 ⟨z, rfl, hz, H'⟩
    replace H := H.useL H'; clear H'
    refine ⟨_, rfl, ?_⟩
    refine callV (alive_spec w3) ?_
    rintro e w4 ⟨rfl, H'⟩; replace H := H.ext0 H'; clear H'
    refine ⟨_, rfl, br_true ?_⟩
    refine ⟨_, eqv_ptrDN, ?_⟩
    refine br_true ?_
    refine ⟨_, _, _, _, _, _, _, _, _, _, _, _, _, _, _, _, H.ldA (cs := valC v d) (b := b2) (T := 41) (by exact ⟨rfl, rfl, rfl, rfl⟩) raggD (List.mem_append_right _ (.tail _ (.head _))) rfl rfl, ?_⟩
    obtain ⟨hR, hF⟩ := refA_rd (H.ok (refA F v d) (List.mem_append_right _ (.tail _ (.tail _ (.head _)))))
    refine callV (stands_spec z _ d hz (Fit.crash hqf2 hy'.dk names ps) (by omega) (hL.same hx.dk hd names ps) hx.dk w4 H.takeL.takeL.std hR) ?_
    rintro e w5 ⟨rfl, H'⟩; replace H := H.ext0 H'; clear H'
    exact ⟨_, rfl, rfl, H.done⟩
end Go.Proofs.Ytnmlkecmokhhhaa
