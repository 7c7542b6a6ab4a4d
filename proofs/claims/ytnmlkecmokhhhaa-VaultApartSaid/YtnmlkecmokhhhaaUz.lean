/- Vault: the laws of names, of what was written, of what lasts. -/
import Derived.Test.YtnmlkecmokhhhaaUy
set_option linter.unusedVariables false
set_option linter.unusedSimpArgs false
set_option maxRecDepth 100000
namespace Go.Proofs.Ytnmlkecmokhhhaa
open Go Go.Vc Go.Vault

def nMine : ByteArray := ⟨#[109, 105, 110, 101]⟩
theorem bcells_zero (n : Nat) : List.replicate n (Value.int .u8 0) = bcells (List.replicate n 0) := by simp [bcells]
theorem rMine : Vault.right nMine = true := by kernel_rfl
def kept : List UInt8 := [107, 101, 112, 116]
/-- a call keeps the disk's place in memory, but for a crash -/
theorem does_same (x : DW) (d : Dk) (hok : x.Ok d) {N : Nat} (fit : d.Fit N) (hN : N ≤ 1000000) {G0 : List Nat} {ow : OW} {o : Op} (w : World) (ho : ∀ W, Chg (feet (dkL x d)) w W → OD G0 W ow o) (harm : o.kind = 7 → o.n ≤ 9223372036854775807) (hden : o.kind = 8 → o.n ≤ 9223372036854775807) (h9 : o.kind ≠ 9) (st : Std w (dkL x d)) :
    Calls Go.Proofs.Try.prog 12 #[.pointer (some ⟨x.b, 0, none⟩), ow.val o] w fun e w' => ∃ x' : DW, x'.b = x.b ∧ e = .returned (.tuple #[.pointer (some ⟨x'.b, 0, none⟩), .agg #[sv (doP d o).2.1, .int .i64 (doP d o).2.2]]) ∧ x'.Ok (doP d o).1 ∧ Hp (feet (dkL x d)) w w' (dkL x' (doP d o).1) := by
  exact (Go.Proofs.Ytnmlkecmokhhhaa.does_spec2 x d hok fit hN w ho harm hden st).mono fun e w' ⟨x', h1, h2⟩ => ⟨x', h1 h9, h2⟩

set_option maxHeartbeats 4000000 in
theorem vaultNames_law (sa : Option Addr) (sc : Nat) (os : List (OW × Op)) (to_ : ByteArray) (W : World) (hs : Scr W sa os) :
    Calls Go.Proofs.Try.prog 6 #[.slice sa os.length sc, .string to_] W fun e W' => e = .returned (.bool true) ∧ Hp [] W W' [] := by
  apply vaultNames.ok; unfold vaultNames.vc
  refine br_dec (fun _ => aliveEnd (Hp.start W)) (fun h1 => ?_)
  refine callV (plays_spec 60 sa sc os (by omega) W hs) ?_
  rintro e w1 ⟨x, F, v, rfl, hx, fit, H⟩
  have hrm : (playD (Dk.new 60) os).room = 60 := playD_rm 60 os _
  generalize playD (Dk.new 60) os = d at hx fit H hrm ⊢
  have fitN := fit.mono (show os.length ≤ 300 by omega)
  refine ⟨_, _, _, _, _, _, _, _, _, _, _, _, _, _, _, _, _, _, rfl, ?_⟩
  intro b2 w2 hn; replace H := H.new (by exact ⟨rfl, rfl, rfl, rfl⟩) hn; clear hn
  refine Hp.stA H (by exact ⟨rfl, rfl, rfl, rfl⟩) raggD (vs := valC v d) (cs' := valC v d) rfl rfl (by simp) rfl ?_
  clear H; intro w3 H
  refine br_not (fun h => by cases h) (fun _ => ?_)
  refine ⟨_, H.ld (cs := valC v d) (by exact ⟨rfl, rfl, rfl, rfl⟩) sclBool (.head _) rfl, ?_⟩
  refine br_mk (fun hd => br_true (aliveEnd H)) (fun hd => ?_)
  refine br_dec (fun _ => br_true (aliveEnd H)) (fun h2 => ?_)
  refine br_dec (fun _ => br_true (aliveEnd H)) (fun h3 => ?_)
  refine br_dec (fun _ => br_true (aliveEnd H)) (fun h4 => ?_)
  have hto : Vault.right to_ = true := by simp only [Vault.right, Bool.and_eq_true, decide_eq_true_eq]; omega
  have hne : nMine ≠ to_ := fun e => h2 e.symm
  replace H := H.drop.drop
  refine callV (arm_spec x d hx 0 w3 H.std) ?_
  rintro e w4 ⟨rfl, H'⟩; replace H := H.useAll H'; clear H'
  have hx1 : x.Ok (d.arm 0) := ⟨⟨hx.dk.room, hx.dk.files, hx.dk.firm, hx.dk.chs, hx.dk.rise, by simp [Dk.arm], hx.dk.denied⟩, hx.fl, hx.cl, hx.keys, hx.na, hx.fi⟩
  refine ⟨rfl, ?_⟩
  refine callV (deny_spec x (d.arm 0) hx1 0 w4 H.std) ?_
  rintro e w5 ⟨rfl, H'⟩; replace H := H.useAll H'; clear H'
  have hx2 : x.Ok ((d.arm 0).deny 0) := ⟨⟨hx.dk.room, hx.dk.files, hx.dk.firm, hx.dk.chs, hx.dk.rise, by simp [Dk.arm, Dk.deny], by simp [Dk.deny]⟩, hx.fl, hx.cl, hx.keys, hx.na, hx.fi⟩
  refine ⟨rfl, ?_⟩
  have hq0 : Calm ((d.arm 0).deny 0) := calm0 hd
  have fq0 : ((d.arm 0).deny 0).Fit 300 := ⟨fitN.files, fitN.now, fitN.names, fitN.chs⟩
  have hrq : ((d.arm 0).deny 0).room = 60 := hrm
  generalize (d.arm 0).deny 0 = q at H hx2 hq0 fq0 hrq
  -- the file 'mine'
  have hcr := create_calm hq0 rMine
  obtain ⟨m1, m2, m3, m4⟩ := made_keeps hx2.dk nMine
  have fq1 : (Dk.change { q with files := q.files ++ [Fl.none] } (.create nMine q.files.length)).Fit 301 := by
    have := doP_fit (o := ⟨0, 0, nMine, nMine, [], []⟩) fq0 hx2.dk
    have e : (doP q ⟨0, 0, nMine, nMine, [], []⟩).1 = (q.create nMine).1 := rfl
    rw [e, hcr] at this
    exact this
  have hq1 : Calm (Dk.change { q with files := q.files ++ [Fl.none] } (.create nMine q.files.length)) := ⟨hq0.armed, hq0.denied, hq0.dead⟩
  have hcs := create_spec x q hx2 (by have := fq0.chs; omega) (by have := fq0.files; omega) nMine w5 H.std
  rw [hcr] at hcs
  refine callV hcs ?_
  rintro e w6 ⟨rfl, y, hyb, hy, H'⟩; replace H := H.useAll H'; clear H' hcs hcr
  refine ⟨_, rfl, ?_⟩
  have hH : Hp [] W w6 (dkL y (Dk.change { q with files := q.files ++ [Fl.none] } (.create nMine q.files.length))) := H
  have hy' : y.Ok (Dk.change { q with files := q.files ++ [Fl.none] } (.create nMine q.files.length)) := hy
  have hr1 : (Dk.change { q with files := q.files ++ [Fl.none] } (.create nMine q.files.length)).room = 60 := hrq
  clear H hy
  generalize (Dk.change { q with files := q.files ++ [Fl.none] } (.create nMine q.files.length)) = q1 at hy' hH fq1 hq1 m1 m2 m3 m4 hr1
  generalize q.files.length = K at m1 m2 m3 m4
  have H := hH
  clear hH
  intro b7 w7 hn
  refine Hp.s2bc (n := 4) H (by exact ⟨rfl, rfl, rfl, rfl⟩) hn undSU8 undU8 rfl (by simp [maxLen]) ?_
  clear H; intro a8 c8 w8 H
  have H2 := H.perm (List.perm_append_comm (l₁ := [_]) (l₂ := dkL y q1))
  have hws := write_spec y q1 hy' fq1.few (by omega) (fq1.used (by omega)) nMine 0 a8 c8 kept w8 H2.std1 (Hp.cellsSt (sz := 1) H2 (.head _)) (own_nil (H2.ownA (List.mem_append_right _ (.head _))))
  rw [hyb] at hws
  refine callV hws ?_
  rintro e w9 ⟨rfl, y2, hyb2, hy2, H'⟩
  replace H := (H2.useL H').takeL; clear H' H2 hws
  refine ⟨_, rfl, ?_⟩
  -- what was written
  obtain ⟨q2, hq2e⟩ : ∃ q2, q2 = (q1.write nMine 0 kept).1 := ⟨_, rfl⟩
  have hw : Calm q2 ∧ q2.find nMine = some K ∧ ((q2.file K).now = [] ∨ (q2.file K).now = [pad kept]) ∧ q2.Fit 302 := by
    have hft : q2.Fit 302 := by rw [hq2e]; exact doP_fit (o := ⟨1, 0, nMine, nMine, kept, []⟩) fq1 hy'.dk
    rcases write_calm hq1 (b := kept) (by simp [kept]) m1 m2 with ⟨h, _⟩ | h
    · have e2 : q2 = q1 := by rw [hq2e, h]
      rw [e2] at hft ⊢
      exact ⟨hq1, m1, .inl (by rw [m2]; rfl), hft⟩
    · have e2 : q2 = q1.put K ⟨[pad kept], [], [0]⟩ := by rw [hq2e, h]
      rw [e2] at hft ⊢
      exact ⟨hq1.put _ _, m1, .inr (by rw [file_put m4, if_pos rfl]), hft⟩
  rw [← hq2e] at hy2 H
  clear hq2e
  obtain ⟨hq2, hf2, hn2, fq2⟩ := hw
  have hsz : q2.size nMine = ((q2.file K).now.length : Int) := by simp only [Dk.size, hf2]; rfl
  have hss := size_spec y2 q2 hy2 nMine w9 H.std
  rw [hyb2, hyb, hsz] at hss
  refine callV hss ?_
  rintro e w10 ⟨rfl, H'⟩; replace H := H.ext0 H'; clear H' hss
  refine ⟨_, rfl, ?_⟩
  have hrn := rename_calm hq2 hf2 hto hne
  have hrs := rename_spec y2 q2 hy2 (by have := fq2.chs; omega) nMine to_ w10 H.std
  rw [hrn, hyb2, hyb] at hrs
  refine callV hrs ?_
  rintro e w11 ⟨rfl, y3, hyb3, hy3, H'⟩; replace H := H.useAll H'; clear H' hrs
  refine ⟨_, rfl, ?_⟩
  refine br_ndec (fun h => absurd rfl h) (fun _ => ?_)
  have hf3 : (q2.change (.rename nMine to_ K)).find nMine = none := by
    rw [find_change]; show nget (with_ (without q2.names nMine) ⟨to_, K⟩) nMine = none
    rw [nget_with, if_neg hne, nget_without, if_pos rfl]
  have hf4 : (q2.change (.rename nMine to_ K)).find to_ = some K := by
    rw [find_change]; show nget (with_ (without q2.names nMine) ⟨to_, K⟩) to_ = some K
    rw [nget_with, if_pos rfl]
  have hq3 : Calm (q2.change (.rename nMine to_ K)) := hq2.change _
  have hfl3 : (q2.change (.rename nMine to_ K)).file K = q2.file K := rfl
  have fq3 : (q2.change (.rename nMine to_ K)).Fit 303 := Fit.change fq2 _
  have hyb3' : y3.b = x.b := hyb3.trans (hyb2.trans hyb)
  generalize q2.change (.rename nMine to_ K) = q3 at H hy3 hf3 hf4 hq3 hfl3 fq3
  have hss := size_spec y3 q3 hy3 nMine w11 H.std
  rw [hyb3', show q3.size nMine = -1 by simp only [Dk.size, hf3]] at hss
  refine callV hss ?_
  rintro e w12 ⟨rfl, H'⟩; replace H := H.ext0 H'; clear H' hss
  refine ⟨_, rfl, ?_⟩
  refine br_ndec (fun h => absurd rfl h) (fun _ => ?_)
  have hss := size_spec y3 q3 hy3 to_ w12 H.std
  rw [hyb3', show q3.size to_ = ((q2.file K).now.length : Int) by simp only [Dk.size, hf4]; show ((q3.file K).now.length : Int) = _; rw [hfl3]] at hss
  refine callV hss ?_
  rintro e w13 ⟨rfl, H'⟩; replace H := H.ext0 H'; clear H' hss
  refine ⟨_, rfl, ?_⟩
  refine br_ndec (fun h => absurd rfl h) (fun _ => ?_)
  -- the end that both ways share
  have last : ∀ w' : World, Hp [] W w' (dkL y3 q3) → CallV Go.Proofs.Try.prog 11 [] w' fun e w' => ∃ b, e = .returned (.bool b) ∧ br b (CallV Go.Proofs.Try.prog 25 [.pointer (some ⟨x.b, 0, none⟩), .string to_] w' fun e w' => ∃ i, e = .returned (.int .i64 i) ∧ br (decide (i = 0)) (CallV Go.Proofs.Try.prog 23 [.pointer (some ⟨x.b, 0, none⟩), .string to_] w' fun e w' => ∃ i, e = .returned (.int .i64 i) ∧ br (decide (i = -1)) (CallV Go.Proofs.Try.prog 25 [.pointer (some ⟨x.b, 0, none⟩), .string to_] w' fun e w' => ∃ i, e = .returned (.int .i64 i) ∧ (Ending.returned (.bool (decide (i = 90))) = .returned (.bool true) ∧ Hp [] W w' [])) (Ending.returned (.bool false) = .returned (.bool true) ∧ Hp [] W w' [])) (Ending.returned (.bool false) = .returned (.bool true) ∧ Hp [] W w' [])) (Ending.returned (.bool false) = .returned (.bool true) ∧ Hp [] W w' []) := by
    intro w' H
    refine callV (alive_spec w') ?_
    rintro e w1 ⟨rfl, H'⟩; replace H := H.ext0 H'; clear H'
    refine ⟨_, rfl, br_true ?_⟩
    have hrs := remove_spec y3 q3 hy3 (by have := fq3.chs; omega) to_ w1 H.std
    rw [remove_calm hq3 hf4, hyb3'] at hrs
    refine callV hrs ?_
    rintro e w2 ⟨rfl, y4, hyb4, hy4, H'⟩; replace H := H.useAll H'; clear H' hrs
    refine ⟨_, rfl, ?_⟩
    refine br_dec (fun _ => ?_) (fun h => absurd rfl h)
    have hf5 : (q3.change (.remove to_)).find to_ = none := by
      rw [find_change]; show nget (without q3.names to_) to_ = none
      rw [nget_without, if_pos rfl]
    have hss := size_spec y4 _ hy4 to_ w2 H.std
    rw [hyb4, hyb3', show (q3.change (.remove to_)).size to_ = -1 by simp only [Dk.size, hf5]] at hss
    refine callV hss ?_
    rintro e w3 ⟨rfl, H'⟩; replace H := H.ext0 H'; clear H' hss
    refine ⟨_, rfl, ?_⟩
    refine br_dec (fun _ => ?_) (fun h => absurd rfl h)
    have hrs := remove_spec y4 _ hy4 (by have := (Fit.change fq3 (.remove to_)).chs; show (q3.change (.remove to_)).chs.length ≤ _; omega) to_ w3 H.std
    rw [remove_none (hq3.change _) hf5, hyb4, hyb3'] at hrs
    refine callV hrs ?_
    rintro e w4 ⟨rfl, y5, hyb5, hy5, H'⟩; replace H := H.useAll H'; clear H' hrs
    exact ⟨_, rfl, rfl, H.done⟩
  refine br_dec (fun h5 => ?_) (fun h5 => last w13 H)
  have hnow : (q3.file K).now = pad kept :: [] := by
    rw [hfl3]
    rcases hn2 with h | h
    · rw [h] at h5; simp at h5
    · exact h
  have hrs := read_spec y3 q3 hy3 to_ 0 w13 H.std
  rw [read_calm hq3.dead hf4 hnow, hyb3'] at hrs
  refine callV hrs ?_
  rintro e w14 ⟨a14, c14, rfl, H'⟩; replace H := H.ext H'; clear H' hrs
  refine ⟨_, _, _, _, rfl, ?_⟩
  refine br_ndec (fun h => absurd rfl h) (fun _ => ?_)
  have hc14 := (H.ownA (.head _)).le.1
  have hpl : (pad kept).length = 512 := pad_len (by simp [kept])
  rw [hpl] at hc14
  refine ⟨⟨by omega, by omega⟩, ?_⟩
  have hcells := (H.ownA (.head _)).cells.take 4
  have hk4 : (bcells (pad kept)).take 4 = bcells kept := by kernel_rfl
  rw [hk4] at hcells
  refine ⟨⟨kept.toArray⟩, b2s undSU8 undU8 undString (by rw [byteCells_mk]; exact hcells) (by rw [vmk_size]; rfl), ?_⟩
  refine br_ndec (fun h => absurd rfl h) (fun _ => ?_)
  exact last w14 H.drop

set_option maxHeartbeats 4000000 in
theorem vaultReads_law (sa : Option Addr) (sc : Nat) (os : List (OW × Op)) (ma : Option Addr) (mc : Nat) (ms : List (OW × Op)) (ba : Option Addr) (bc : Nat) (b : List UInt8) (W : World) (hs : Scr W sa os) (hms : Scr W ma ms) (hb : SC (blks ba) W ba b.length bc 1 (bcells b)) :
    Calls Go.Proofs.Try.prog 5 #[.slice sa os.length sc, .slice ma ms.length mc, .slice ba b.length bc] W fun e W' => e = .returned (.bool true) ∧ Hp [] W W' [] := by
  apply vaultReads.ok; unfold vaultReads.vc
  refine br_dec (fun _ => aliveEnd (Hp.start W)) (fun h1 => ?_)
  refine br_dec (fun _ => aliveEnd (Hp.start W)) (fun h2 => ?_)
  refine callV (plays_spec 40 sa sc os (by omega) W hs) ?_
  rintro e w1 ⟨x, F, v, rfl, hx, fit, H⟩
  have hrm : (playD (Dk.new 40) os).room = 40 := playD_rm 40 os _
  generalize playD (Dk.new 40) os = d at hx fit H hrm ⊢
  have fitN := fit.mono (show os.length ≤ 300 by omega)
  refine ⟨_, _, _, _, _, _, _, _, _, _, _, _, _, _, _, _, _, _, rfl, ?_⟩
  intro b2 w2 hn; replace H := H.new (by exact ⟨rfl, rfl, rfl, rfl⟩) hn; clear hn
  refine Hp.stA H (by exact ⟨rfl, rfl, rfl, rfl⟩) raggD (vs := valC v d) (cs' := valC v d) rfl rfl (by simp) rfl ?_
  clear H; intro w3 H
  refine br_not (fun h => by cases h) (fun _ => ?_)
  refine ⟨_, H.ld (cs := valC v d) (by exact ⟨rfl, rfl, rfl, rfl⟩) sclBool (.head _) rfl, ?_⟩
  refine br_mk (fun hd => br_true (aliveEnd H)) (fun hd => ?_)
  refine br_dec (fun _ => br_true (aliveEnd H)) (fun h3 => ?_)
  replace H := H.drop.drop
  refine callV (arm_spec x d hx 0 w3 H.std) ?_
  rintro e w4 ⟨rfl, H'⟩; replace H := H.useAll H'; clear H'
  have hx1 : x.Ok (d.arm 0) := ⟨⟨hx.dk.room, hx.dk.files, hx.dk.firm, hx.dk.chs, hx.dk.rise, by simp [Dk.arm], hx.dk.denied⟩, hx.fl, hx.cl, hx.keys, hx.na, hx.fi⟩
  refine ⟨rfl, ?_⟩
  refine callV (deny_spec x (d.arm 0) hx1 0 w4 H.std) ?_
  rintro e w5 ⟨rfl, H'⟩; replace H := H.useAll H'; clear H'
  have hx2 : x.Ok ((d.arm 0).deny 0) := ⟨⟨hx.dk.room, hx.dk.files, hx.dk.firm, hx.dk.chs, hx.dk.rise, by simp [Dk.arm, Dk.deny], by simp [Dk.deny]⟩, hx.fl, hx.cl, hx.keys, hx.na, hx.fi⟩
  refine ⟨rfl, ?_⟩
  have hq0 : Calm ((d.arm 0).deny 0) := calm0 hd
  have fq0 : ((d.arm 0).deny 0).Fit 300 := ⟨fitN.files, fitN.now, fitN.names, fitN.chs⟩
  have hrq : ((d.arm 0).deny 0).room = 40 := hrm
  generalize (d.arm 0).deny 0 = q at H hx2 hq0 fq0 hrq
  -- the file 'mine'
  have hcr := create_calm hq0 rMine
  obtain ⟨m1, m2, m3, m4⟩ := made_keeps hx2.dk nMine
  have fq1 : (Dk.change { q with files := q.files ++ [Fl.none] } (.create nMine q.files.length)).Fit 301 := by
    have := doP_fit (o := ⟨0, 0, nMine, nMine, [], []⟩) fq0 hx2.dk
    have e : (doP q ⟨0, 0, nMine, nMine, [], []⟩).1 = (q.create nMine).1 := rfl
    rw [e, hcr] at this
    exact this
  have hq1 : Calm (Dk.change { q with files := q.files ++ [Fl.none] } (.create nMine q.files.length)) := ⟨hq0.armed, hq0.denied, hq0.dead⟩
  have hcs := create_spec x q hx2 (by have := fq0.chs; omega) (by have := fq0.files; omega) nMine w5 H.std
  rw [hcr] at hcs
  refine callV hcs ?_
  rintro e w6 ⟨rfl, y, hyb, hy, H'⟩; replace H := H.useAll H'; clear H' hcs hcr
  refine ⟨_, rfl, ?_⟩
  have hH : Hp [] W w6 (dkL y (Dk.change { q with files := q.files ++ [Fl.none] } (.create nMine q.files.length))) := H
  have hy' : y.Ok (Dk.change { q with files := q.files ++ [Fl.none] } (.create nMine q.files.length)) := hy
  have hr1 : (Dk.change { q with files := q.files ++ [Fl.none] } (.create nMine q.files.length)).room = 40 := hrq
  clear H hy
  generalize (Dk.change { q with files := q.files ++ [Fl.none] } (.create nMine q.files.length)) = q1 at hy' hH fq1 hq1 m1 m2 m3 m4 hr1
  generalize q.files.length = K at m1 m2 m3 m4
  have H := hH
  clear hH
  refine br_ndec (fun h => absurd rfl h) (fun _ => ?_)
  have H2 : Hp [] W w6 (dkL y q1 ++ []) := by rw [List.append_nil]; exact H
  have hws := write_spec y q1 hy' fq1.few (by omega) (fq1.used (by omega)) nMine 0 ba bc b w6 H.std (fun W' hW => (hb.stable H2 W' hW).cells) hb.nil
  rw [hyb] at hws
  refine callV hws ?_
  rintro e w7 ⟨rfl, y2, hyb2, hy2, H'⟩
  replace H := H.useAll H'; clear H' H2 hws
  refine ⟨_, rfl, ?_⟩
  rcases write_calm hq1 (b := b) (by omega) m1 m2 with ⟨hw, hfull⟩ | hw
  · rw [hw] at hy2 H ⊢
    refine br_ndec (fun _ => ?_) (fun h => by cases h)
    refine callV (alive_spec w7) ?_
    rintro e w8 ⟨rfl, H'⟩; replace H := H.ext0 H'; clear H'
    refine ⟨_, rfl, br_true ?_⟩
    have hus := used_spec y2 q1 hy2 (fq1.used (by omega)) w8 H.std
    rw [hyb2, hyb] at hus
    refine callV hus ?_
    rintro e w9 ⟨rfl, H'⟩; replace H := H.ext0 H'; clear H'
    refine ⟨_, rfl, ?_, H.done⟩
    have : (40 : Int) ≤ (q1.used : Int) := by omega
    simp [this]
  have fq2 : (q1.put K ⟨[pad b], [], [0]⟩).Fit 302 := by
    have := doP_fit (o := ⟨1, 0, nMine, nMine, b, []⟩) fq1 hy'.dk
    have e : (doP q1 ⟨1, 0, nMine, nMine, b, []⟩).1 = (q1.write nMine 0 b).1 := rfl
    rw [e, hw] at this
    exact this
  rw [hw] at hy2 H ⊢
  have hk0 : Keeps (q1.put K ⟨[pad b], [], [0]⟩) nMine K False := ⟨fun h => h.elim, m1, m3, by simp only [Dk.put, List.length_set]; exact m4⟩
  have hn0 : ((q1.put K ⟨[pad b], [], [0]⟩).file K).now = [pad b] := by rw [file_put m4, if_pos rfl]
  have hq2 : Calm (q1.put K ⟨[pad b], [], [0]⟩) := hq1.put _ _
  refine br_ndec (fun h => absurd rfl h) (fun _ => ?_)
  refine LoopP.mk (fun (m : Nat) (s : Int) (w' : World) => ∃ (k : Nat) (z : DW) (g : Dk), m = ms.length - k ∧ k ≤ ms.length ∧ s = (k : Int) ∧ z.b = x.b ∧ z.Ok g ∧ g.Fit (310 + k) ∧ Keeps g nMine K False ∧ (Calm g ∧ (g.file K).now = [pad b]) ∧ Hp [] W w' (dkL z g)) ms.length ⟨0, y2, _, by omega, by omega, rfl, hyb2.trans hyb, hy2, fq2.mono (by omega), hk0, ⟨hq2, hn0⟩, H⟩ ?_
  clear H
  rintro m s w9 next ⟨k, z, g, rfl, hk, rfl, hzb, hz, hgf, hgk, hgi, H⟩ hnext
  refine br_dec (fun h7 => ?_) (fun h7 => ?_)
  · have hkl : k < ms.length := by omega
    obtain ⟨p, hp⟩ : ∃ p, ms[k]? = some p := ⟨_, List.getElem?_eq_getElem hkl⟩
    have hpm := List.mem_of_getElem? hp
    obtain ⟨ad, ha, hld⟩ := (hms.chg0 H.chg).ldA hp
    refine onP_mk ha ⟨⟨by omega, by omega⟩, _, _, _, _, _, _, _, _, _, _, by rw [Int.toNat_natCast]; exact hld, ?_⟩
    intro bo w10 hn; replace H := H.new (by exact ⟨rfl, rfl, rfl, rfl⟩) hn; clear hn
    refine Hp.stA H (by exact ⟨rfl, rfl, rfl, rfl⟩) raggO (vs := opC p) (cs' := opC p) rfl rfl (by simp) rfl ?_
    clear H; intro w11 H
    have skip : next ((k : Int) + 1) w11 := hnext (ms.length - (k + 1)) _ _ (by omega) ⟨k + 1, z, g, rfl, by omega, by simp, hzb, hz, hgf.mono (by omega), hgk, hgi, H.drop⟩
    have lk : Ld Go.Proofs.Try.prog 3 w11 ⟨bo, 0, none⟩ (.int .i64 p.2.kind) := H.ld (cs := opC p) (by exact ⟨rfl, rfl, rfl, rfl⟩) sclInt (.head _) rfl
    refine ⟨_, lk, ?_⟩
    refine br_dec (fun c1 => ?_) (fun _ => ⟨inR64.2 (by omega), skip⟩)
    refine ⟨_, lk, ?_⟩
    refine br_dec (fun c2 => ?_) (fun _ => ⟨inR64.2 (by omega), skip⟩)
    refine ⟨_, H.ld (cs := opC p) (by exact ⟨rfl, rfl, rfl, rfl⟩) sclStr (.head _) rfl, ?_⟩
    refine br_ndec (fun c3 => ?_) (fun _ => ⟨inR64.2 (by omega), skip⟩)
    refine ⟨_, H.ld (cs := opC p) (by exact ⟨rfl, rfl, rfl, rfl⟩) sclStr (.head _) rfl, ?_⟩
    refine br_ndec (fun c4 => ?_) (fun _ => ⟨inR64.2 (by omega), skip⟩)
    refine ⟨_, _, _, _, _, _, _, _, _, _, H.ldA (cs := opC p) (by exact ⟨rfl, rfl, rfl, rfl⟩) raggO (.head _) rfl rfl, ?_⟩
    have H2 : Hp [] W w11 (dkL z g ++ [.blk bo (opC p) 29]) := H.perm (List.perm_append_comm (l₁ := [_]))
    have hds := does_same z g hz hgf (by omega) w11 (hms.stable H2 hpm) (fun _ => hms.rng p hpm) (fun _ => hms.rng p hpm) (by omega) H2.std1
    rw [hzb] at hds
    refine callV hds ?_
    rintro e w12 ⟨z', hzb', rfl, hz', H'⟩
    replace H2 := H2.useL H'; clear H' H
    refine ⟨_, _, _, rfl, inR64.2 (by omega), ?_⟩
    obtain ⟨s1, s2⟩ := keep_step hgk p.2 (by omega) c3 c4
    exact hnext (ms.length - (k + 1)) _ _ (by omega) ⟨k + 1, z', _, rfl, by omega, by simp, hzb', hz', doP_fit hgf hz.dk p.2, s1, ⟨calm_step hgi.1 p.2 (by omega), by rw [s2]; exact hgi.2⟩, H2.takeL⟩
  · have hk2 : k = ms.length := by omega
    subst hk2
    have hrs := read_spec z g hz nMine 0 w9 H.std
    rw [read_calm hgi.1.dead hgk.now hgi.2, hzb] at hrs
    refine callV hrs ?_
    rintro e w10 ⟨a10, c10, rfl, H'⟩; replace H := H.ext H'; clear H' hrs
    simp only [List.cons_append, List.nil_append] at H
    refine ⟨_, _, _, _, rfl, ?_⟩
    replace H := H.drew
    refine callV (alive_spec _) ?_
    rintro e w11 ⟨rfl, H'⟩; replace H := H.ext0 H'; clear H'
    refine ⟨_, rfl, br_true ?_⟩
    have hpl : (pad b).length = 512 := pad_len (by omega)
    refine br_dec (fun _ => ?_) (fun h => absurd rfl h)
    refine br_dec (fun _ => ?_) (fun h => absurd (by rw [hpl]; rfl) h)
    have hx1 : ∀ {w' : World} {L : List Asn}, Hp [] W w' L → Asn.own 81 1 a10 (pad b).length c10 (bcells (pad b)) ∈ L → B2S Go.Proofs.Try.prog 26 9 w' (.slice a10 (pad b).length c10) (.string ⟨(pad b).toArray⟩) := fun K m => b2s undSU8 undU8 undString (by rw [byteCells_mk]; exact (K.ownA m).cells) (by rw [vmk_size])
    have hx2 : ∀ {w' : World} {L : List Asn}, Hp [] W w' L → B2S Go.Proofs.Try.prog 26 9 w' (.slice ba b.length bc) (.string ⟨b.toArray⟩) := fun K => b2s undSU8 undU8 undString (by rw [byteCells_mk]; exact (hb.chg0 K.chg).cells) (by rw [vmk_size])
    refine ⟨_, hx1 H (.head _), _, hx2 H, inR64.2 (by omega), ?_⟩
    refine Hp.mkS eltU8 H (by exact ⟨rfl, rfl, rfl, rfl⟩) (by omega) (by simp only [maxLen]; omega) (by omega) zeroU8 ?_
    clear H; intro a12 w12 H
    rw [made_zeros, bcells_zero] at H
    refine ⟨hx2 H, hx1 H (.tail _ (.head _)), ⟨(List.replicate (Int.toNat (512 - (b.length : Int))) 0).toArray⟩, b2s undSU8 undU8 undString (by rw [byteCells_mk]; exact (H.ownA (.head _)).cells) (by rw [vmk_size]; simp), ?_⟩
    refine ⟨by rw [vmk_size, vmk_size, List.length_replicate]; omega, ?_⟩
    have hfin : (ByteArray.mk (pad b).toArray) = ByteArray.mk b.toArray ++ ByteArray.mk (List.replicate (Int.toNat (512 - (b.length : Int))) 0).toArray := by
      rw [vmk_append]
      have : Int.toNat (512 - (b.length : Int)) = 512 - b.length := by omega
      rw [this]; rfl
    exact ⟨by rw [decide_eq_true hfin], H.done⟩

set_option maxHeartbeats 4000000 in
theorem vaultLasts_law (sa : Option Addr) (sc : Nat) (os : List (OW × Op)) (ma : Option Addr) (mc : Nat) (ms : List (OW × Op)) (pa : Option Addr) (pc : Nat) (ps : List Int) (W : World) (hs : Scr W sa os) (hms : Scr W ma ms) (hp0 : SC (blks pa) W pa ps.length pc 1 (ints ps)) :
    Calls Go.Proofs.Try.prog 4 #[.slice sa os.length sc, .slice ma ms.length mc, .slice pa ps.length pc] W fun e W' => e = .returned (.bool true) ∧ Hp [] W W' [] := by
  apply vaultLasts.ok; unfold vaultLasts.vc
  refine br_dec (fun _ => aliveEnd (Hp.start W)) (fun h1 => ?_)
  refine br_dec (fun _ => aliveEnd (Hp.start W)) (fun h2 => ?_)
  refine br_dec (fun _ => aliveEnd (Hp.start W)) (fun h3 => ?_)
  refine callV (plays_spec 40 sa sc os (by omega) W hs) ?_
  rintro e w1 ⟨x, F, v, rfl, hx, fit, H⟩
  have hrm : (playD (Dk.new 40) os).room = 40 := playD_rm 40 os _
  generalize playD (Dk.new 40) os = d at hx fit H hrm ⊢
  have fitN := fit.mono (show os.length ≤ 300 by omega)
  refine ⟨_, _, _, _, _, _, _, _, _, _, _, _, _, _, _, _, _, _, rfl, ?_⟩
  intro b2 w2 hn; replace H := H.new (by exact ⟨rfl, rfl, rfl, rfl⟩) hn; clear hn
  refine Hp.stA H (by exact ⟨rfl, rfl, rfl, rfl⟩) raggD (vs := valC v d) (cs' := valC v d) rfl rfl (by simp) rfl ?_
  clear H; intro w3 H
  refine br_not (fun h => by cases h) (fun _ => ?_)
  refine ⟨_, H.ld (cs := valC v d) (by exact ⟨rfl, rfl, rfl, rfl⟩) sclBool (.head _) rfl, ?_⟩
  refine br_mk (fun hd => br_true (aliveEnd H)) (fun hd => ?_)
  replace H := H.drop.drop
  refine callV (arm_spec x d hx 0 w3 H.std) ?_
  rintro e w4 ⟨rfl, H'⟩; replace H := H.useAll H'; clear H'
  have hx1 : x.Ok (d.arm 0) := ⟨⟨hx.dk.room, hx.dk.files, hx.dk.firm, hx.dk.chs, hx.dk.rise, by simp [Dk.arm], hx.dk.denied⟩, hx.fl, hx.cl, hx.keys, hx.na, hx.fi⟩
  refine ⟨rfl, ?_⟩
  refine callV (deny_spec x (d.arm 0) hx1 0 w4 H.std) ?_
  rintro e w5 ⟨rfl, H'⟩; replace H := H.useAll H'; clear H'
  have hx2 : x.Ok ((d.arm 0).deny 0) := ⟨⟨hx.dk.room, hx.dk.files, hx.dk.firm, hx.dk.chs, hx.dk.rise, by simp [Dk.arm, Dk.deny], by simp [Dk.deny]⟩, hx.fl, hx.cl, hx.keys, hx.na, hx.fi⟩
  refine ⟨rfl, ?_⟩
  have hq0 : Calm ((d.arm 0).deny 0) := calm0 hd
  have fq0 : ((d.arm 0).deny 0).Fit 300 := ⟨fitN.files, fitN.now, fitN.names, fitN.chs⟩
  have hrq : ((d.arm 0).deny 0).room = 40 := hrm
  generalize (d.arm 0).deny 0 = q at H hx2 hq0 fq0 hrq
  -- the file 'mine'
  have hcr := create_calm hq0 rMine
  obtain ⟨m1, m2, m3, m4⟩ := made_keeps hx2.dk nMine
  have fq1 : (Dk.change { q with files := q.files ++ [Fl.none] } (.create nMine q.files.length)).Fit 301 := by
    have := doP_fit (o := ⟨0, 0, nMine, nMine, [], []⟩) fq0 hx2.dk
    have e : (doP q ⟨0, 0, nMine, nMine, [], []⟩).1 = (q.create nMine).1 := rfl
    rw [e, hcr] at this
    exact this
  have hq1 : Calm (Dk.change { q with files := q.files ++ [Fl.none] } (.create nMine q.files.length)) := ⟨hq0.armed, hq0.denied, hq0.dead⟩
  have hcs := create_spec x q hx2 (by have := fq0.chs; omega) (by have := fq0.files; omega) nMine w5 H.std
  rw [hcr] at hcs
  refine callV hcs ?_
  rintro e w6 ⟨rfl, y, hyb, hy, H'⟩; replace H := H.useAll H'; clear H' hcs hcr
  refine ⟨_, rfl, ?_⟩
  have hH : Hp [] W w6 (dkL y (Dk.change { q with files := q.files ++ [Fl.none] } (.create nMine q.files.length))) := H
  have hy' : y.Ok (Dk.change { q with files := q.files ++ [Fl.none] } (.create nMine q.files.length)) := hy
  have hr1 : (Dk.change { q with files := q.files ++ [Fl.none] } (.create nMine q.files.length)).room = 40 := hrq
  clear H hy
  generalize (Dk.change { q with files := q.files ++ [Fl.none] } (.create nMine q.files.length)) = q1 at hy' hH fq1 hq1 m1 m2 m3 m4 hr1
  generalize q.files.length = K at m1 m2 m3 m4
  have H := hH
  clear hH
  refine br_ndec (fun h => absurd rfl h) (fun _ => ?_)
  intro b7 w7 hn
  refine Hp.s2bc (n := 4) H (by exact ⟨rfl, rfl, rfl, rfl⟩) hn undSU8 undU8 rfl (by simp [maxLen]) ?_
  clear H; intro a8 c8 w8 H
  have H2 := H.perm (List.perm_append_comm (l₁ := [_]) (l₂ := dkL y q1))
  have hws := write_spec y q1 hy' fq1.few (by omega) (fq1.used (by omega)) nMine 0 a8 c8 kept w8 H2.std1 (Hp.cellsSt (sz := 1) H2 (.head _)) (own_nil (H2.ownA (List.mem_append_right _ (.head _))))
  rw [hyb] at hws
  refine callV hws ?_
  rintro e w9 ⟨rfl, y2, hyb2, hy2, H'⟩
  replace H := (H2.useL H').takeL; clear H' H2 hws
  refine ⟨_, rfl, ?_⟩
  rcases write_calm hq1 (b := kept) (by simp [kept]) m1 m2 with ⟨hw, hfull⟩ | hw
  · rw [hw] at hy2 H ⊢
    refine br_ndec (fun _ => ?_) (fun h => by cases h)
    refine callV (alive_spec w9) ?_
    rintro e w10 ⟨rfl, H'⟩; replace H := H.ext0 H'; clear H'
    exact ⟨_, rfl, br_true ⟨rfl, H.done⟩⟩
  have fq2 : (q1.put K ⟨[pad kept], [], [0]⟩).Fit 302 := by
    have := doP_fit (o := ⟨1, 0, nMine, nMine, kept, []⟩) fq1 hy'.dk
    have e : (doP q1 ⟨1, 0, nMine, nMine, kept, []⟩).1 = (q1.write nMine 0 kept).1 := rfl
    rw [e, hw] at this
    exact this
  rw [hw] at hy2 H ⊢
  refine br_ndec (fun h => absurd rfl h) (fun _ => ?_)
  have hq2 : Calm (q1.put K ⟨[pad kept], [], [0]⟩) := hq1.put _ _
  have hf2 : (q1.put K ⟨[pad kept], [], [0]⟩).file K = ⟨[pad kept], [], [0]⟩ := by rw [file_put m4, if_pos rfl]
  have hfd2 : (q1.put K ⟨[pad kept], [], [0]⟩).find nMine = some K := m1
  have hon2 : ∀ p ∈ (q1.put K ⟨[pad kept], [], [0]⟩).names, p.file = K → p.name = nMine := m3
  have hlt2 : K < (q1.put K ⟨[pad kept], [], [0]⟩).files.length := by simp only [Dk.put, List.length_set]; exact m4
  have hy2' : y2.Ok (q1.put K ⟨[pad kept], [], [0]⟩) := hy2
  replace H : Hp [] W w9 (dkL y2 (q1.put K ⟨[pad kept], [], [0]⟩)) := H
  clear hw hy2
  generalize q1.put K ⟨[pad kept], [], [0]⟩ = q2 at hy2' H hq2 hf2 hfd2 hon2 hlt2 fq2
  -- Sync
  have hse := sync_eq hq2.armed hq2.denied hq2.dead hfd2
  have hss := sync_spec y2 q2 hy2' fq2.few (by omega) nMine w9 H.std
  rw [hse, hyb2, hyb] at hss
  refine callV hss ?_
  rintro e w10 ⟨rfl, y3, hyb3, hy3, H'⟩; replace H := H.useAll H'; clear H' hss
  refine ⟨_, rfl, ?_⟩
  refine br_ndec (fun h => absurd rfl h) (fun _ => ?_)
  have fq3 : (q2.put K (q2.file K).sync).Fit 303 := by
    have := doP_fit (o := ⟨3, 0, nMine, nMine, [], []⟩) fq2 hy2'.dk
    have e : (doP q2 ⟨3, 0, nMine, nMine, [], []⟩).1 = (q2.sync nMine).1 := rfl
    rw [e, hse] at this
    exact this
  have hy3' : y3.Ok (q2.put K (q2.file K).sync) := hy3
  replace H : Hp [] W w10 (dkL y3 (q2.put K (q2.file K).sync)) := H
  have hq3 : Calm (q2.put K (q2.file K).sync) := hq2.put _ _
  have hf3 : (q2.put K (q2.file K).sync).file K = ⟨[pad kept], [pad kept], []⟩ := by rw [file_put hlt2, if_pos rfl, hf2]; rfl
  have hfd3 : (q2.put K (q2.file K).sync).find nMine = some K := hfd2
  have hon3 : ∀ p ∈ (q2.put K (q2.file K).sync).names, p.file = K → p.name = nMine := hon2
  have hlt3 : K < (q2.put K (q2.file K).sync).files.length := by simp only [Dk.put, List.length_set]; exact hlt2
  clear hse hy3
  generalize q2.put K (q2.file K).sync = q3 at hy3' H hq3 hf3 hfd3 hon3 hlt3 fq3
  -- SyncNames
  have hne := syncNames_eq hq3.armed hq3.dead
  have hss := syncNames_spec y3 q3 hy3' w10 H.std
  rw [hne, hyb3, hyb2, hyb] at hss
  refine callV hss ?_
  rintro e w11 ⟨rfl, y4, hyb4, hy4, H'⟩; replace H := H.useAll H'; clear H' hss
  refine ⟨_, rfl, ?_⟩
  refine br_ndec (fun h => absurd rfl h) (fun _ => ?_)
  have fq4 : ({ q3 with firm := q3.names, chs := [] } : Dk).Fit 304 := by
    have := doP_fit (o := ⟨6, 0, nMine, nMine, [], []⟩) fq3 hy3'.dk
    have e : (doP q3 ⟨6, 0, nMine, nMine, [], []⟩).1 = q3.syncNames.1 := rfl
    rw [e, hne] at this
    exact this
  have hy4' : y4.Ok { q3 with firm := q3.names, chs := [] } := hy4
  replace H : Hp [] W w11 (dkL y4 { q3 with firm := q3.names, chs := [] }) := H
  have hk0 : Keeps { q3 with firm := q3.names, chs := [] } nMine K True := ⟨fun _ M => by show nget (ons q3.names (([] : List Ch).take M)) nMine = some K; rw [List.take_nil]; exact hfd3, hfd3, hon3, hlt3⟩
  have hfl4 : ({ q3 with firm := q3.names, chs := [] } : Dk).file K = ⟨[pad kept], [pad kept], []⟩ := hf3
  clear hne hy4
  generalize ({ q3 with firm := q3.names, chs := [] } : Dk) = q4 at hy4' H hk0 hfl4 fq4
  refine LoopP.mk (fun (m : Nat) (s : Int) (w' : World) => ∃ (k : Nat) (z : DW) (g : Dk), m = ms.length - k ∧ k ≤ ms.length ∧ s = (k : Int) ∧ z.b = x.b ∧ z.Ok g ∧ g.Fit (310 + k) ∧ Keeps g nMine K True ∧ g.file K = ⟨[pad kept], [pad kept], []⟩ ∧ Hp [] W w' (dkL z g)) ms.length ⟨0, y4, _, by omega, by omega, rfl, hyb4.trans (hyb3.trans (hyb2.trans hyb)), hy4', fq4.mono (by omega), hk0, hfl4, H⟩ ?_
  clear H
  rintro m s w9 next ⟨k, z, g, rfl, hk, rfl, hzb, hz, hgf, hgk, hgi, H⟩ hnext
  refine br_dec (fun h7 => ?_) (fun h7 => ?_)
  · have hkl : k < ms.length := by omega
    obtain ⟨p, hp⟩ : ∃ p, ms[k]? = some p := ⟨_, List.getElem?_eq_getElem hkl⟩
    have hpm := List.mem_of_getElem? hp
    obtain ⟨ad, ha, hld⟩ := (hms.chg0 H.chg).ldA hp
    refine onP_mk ha ⟨⟨by omega, by omega⟩, _, _, _, _, _, _, _, _, _, _, by rw [Int.toNat_natCast]; exact hld, ?_⟩
    intro bo w10 hn; replace H := H.new (by exact ⟨rfl, rfl, rfl, rfl⟩) hn; clear hn
    refine Hp.stA H (by exact ⟨rfl, rfl, rfl, rfl⟩) raggO (vs := opC p) (cs' := opC p) rfl rfl (by simp) rfl ?_
    clear H; intro w11 H
    have skip : next ((k : Int) + 1) w11 := hnext (ms.length - (k + 1)) _ _ (by omega) ⟨k + 1, z, g, rfl, by omega, by simp, hzb, hz, hgf.mono (by omega), hgk, hgi, H.drop⟩
    have lk : Ld Go.Proofs.Try.prog 3 w11 ⟨bo, 0, none⟩ (.int .i64 p.2.kind) := H.ld (cs := opC p) (by exact ⟨rfl, rfl, rfl, rfl⟩) sclInt (.head _) rfl
    refine ⟨_, lk, ?_⟩
    refine br_dec (fun c1 => ?_) (fun _ => ⟨inR64.2 (by omega), skip⟩)
    refine ⟨_, lk, ?_⟩
    refine br_dec (fun c2 => ?_) (fun _ => ⟨inR64.2 (by omega), skip⟩)
    refine ⟨_, H.ld (cs := opC p) (by exact ⟨rfl, rfl, rfl, rfl⟩) sclStr (.head _) rfl, ?_⟩
    refine br_ndec (fun c3 => ?_) (fun _ => ⟨inR64.2 (by omega), skip⟩)
    refine ⟨_, H.ld (cs := opC p) (by exact ⟨rfl, rfl, rfl, rfl⟩) sclStr (.head _) rfl, ?_⟩
    refine br_ndec (fun c4 => ?_) (fun _ => ⟨inR64.2 (by omega), skip⟩)
    refine ⟨_, _, _, _, _, _, _, _, _, _, H.ldA (cs := opC p) (by exact ⟨rfl, rfl, rfl, rfl⟩) raggO (.head _) rfl rfl, ?_⟩
    have H2 : Hp [] W w11 (dkL z g ++ [.blk bo (opC p) 29]) := H.perm (List.perm_append_comm (l₁ := [_]))
    have hds := does_same z g hz hgf (by omega) w11 (hms.stable H2 hpm) (fun _ => hms.rng p hpm) (fun _ => hms.rng p hpm) (by omega) H2.std1
    rw [hzb] at hds
    refine callV hds ?_
    rintro e w12 ⟨z', hzb', rfl, hz', H'⟩
    replace H2 := H2.useL H'; clear H' H
    refine ⟨_, _, _, rfl, inR64.2 (by omega), ?_⟩
    obtain ⟨s1, s2⟩ := keep_step hgk p.2 (by omega) c3 c4
    exact hnext (ms.length - (k + 1)) _ _ (by omega) ⟨k + 1, z', _, rfl, by omega, by simp, hzb', hz', doP_fit hgf hz.dk p.2, s1, by rw [s2]; exact hgi, H2.takeL⟩
  · have hk2 : k = ms.length := by omega
    subst hk2
    have H2 : Hp [] W w9 (dkL z g ++ []) := by rw [List.append_nil]; exact H
    have hcs := crash_spec z g hz hgf.few (by omega) (ms.length : Int) pa pc ps w9 H.std (fun W' hW => (hp0.stable H2 W' hW).cells) hp0.le
    rw [hzb] at hcs
    refine callV hcs ?_
    rintro e w10 ⟨c, rfl, hc, H'⟩; replace H2 := H2.useL H'; clear H' hcs H
    refine ⟨_, rfl, ?_⟩
    have H := (H2.takeL.perm List.perm_append_comm)
    clear H2
    have hcs := crash_spec z g hz hgf.few (by omega) 0 pa pc ps w10 H.std1 (fun W' hW => (hp0.stable H W' hW).cells) hp0.le
    rw [hzb] at hcs
    refine callV hcs ?_
    rintro e w11 ⟨f, rfl, hf, H'⟩; replace H := H.useL H'; clear H' hcs
    refine ⟨_, rfl, ?_⟩
    refine ⟨_, eqv_ptrD, ?_⟩
    refine br_mk (fun h => by cases h) (fun _ => ?_)
    refine ⟨_, eqv_ptrD, ?_⟩
    refine br_mk (fun h => by cases h) (fun _ => ?_)
    have hr1 : ∀ m : Int, (g.crash m ps).read nMine 0 = (pad kept, 0) := fun m => crash_reads hgk (by rw [hgi]) (by rw [hgi]) m ps
    have hrs := read_spec c _ hc nMine 0 w11 (H.perm List.perm_append_comm).takeL.std
    rw [hr1] at hrs
    refine callV hrs ?_
    rintro e w12 ⟨a12, c12, rfl, H'⟩; replace H := H.ext H'; clear H' hrs
    simp only [List.cons_append, List.nil_append] at H
    refine ⟨_, _, _, _, rfl, ?_⟩
    have hrs := read_spec f _ hf nMine 0 w12 H.drop.takeL.takeL.std
    rw [hr1] at hrs
    refine callV hrs ?_
    rintro e w13 ⟨a13, c13, rfl, H'⟩; replace H := H.ext H'; clear H' hrs
    simp only [List.cons_append, List.nil_append] at H
    refine ⟨_, _, _, _, rfl, ?_⟩
    refine callV (alive_spec _) ?_
    rintro e w14 ⟨rfl, H'⟩; replace H := H.ext0 H'; clear H'
    refine ⟨_, rfl, br_true ?_⟩
    refine br_dec (fun _ => ?_) (fun h => absurd rfl h)
    refine br_dec (fun _ => ?_) (fun h => absurd rfl h)
    have hpl : (pad kept).length = 512 := pad_len (by simp [kept])
    have hk5 : (bcells (pad kept)).take 5 = bcells [107, 101, 112, 116, 0] := by kernel_rfl
    have hl1 := (H.ownA (.tail _ (.head _))).le.1
    have hl2 := (H.ownA (.head _)).le.1
    rw [hpl] at hl1 hl2
    have hc1 := (H.ownA (.tail _ (.head _))).cells.take 5
    have hc2 := (H.ownA (.head _)).cells.take 5
    rw [hk5] at hc1 hc2
    refine ⟨⟨by omega, by omega⟩, ⟨#[107, 101, 112, 116, 0]⟩, b2s (s := ⟨#[107, 101, 112, 116, 0]⟩) undSU8 undU8 undString hc1 rfl, ?_⟩
    refine br_dec (fun _ => ?_) (fun h => absurd rfl h)
    refine ⟨⟨by omega, by omega⟩, ⟨#[107, 101, 112, 116, 0]⟩, b2s (s := ⟨#[107, 101, 112, 116, 0]⟩) undSU8 undU8 undString hc2 rfl, ?_⟩
    exact ⟨rfl, H.done⟩
end Go.Proofs.Ytnmlkecmokhhhaa
