/- Frames: the laws of all, and of pages. -/
import Derived.Test.YtiagjabdfppgkaaGl
set_option linter.unusedVariables false
set_option linter.unusedSimpArgs false
set_option maxRecDepth 100000
namespace Go.Proofs.Ytiagjabdfppgkaa
open Go Go.Vc Go.Vault

theorem di0 {y : GW} {x : DW} (many : Nat) (hm : 4 ≤ many ∧ many ≤ 64) (hg : y.got = List.replicate 12 none) (hf : y.fs = []) (hx : x.Ok dk0) : DI 0 y x (stN dk0 many [] false) pg0 pin0 :=
  ⟨inv0 many hm false, hx, by rw [hf]; rfl, by rw [hg]; simp, fun n => ⟨Sl.gZ 4096, Sl.gZ_rep⟩⟩
theorem got0 (y : GW) (s : St) : GotOk y s pin0 := fun n _ h => by simp [pin0] at h
set_option maxHeartbeats 2000000 in
theorem framesAll_law (many : Int) (sa : Option Addr) (sc : Nat) (ops : List Op12) (hmx : ops.length ≤ 9223372036854775807) (w : World) (hs : Cells w sa (scrC ops)) :
    Calls Try.prog 6 #[.int .i64 many, .slice sa ops.length sc] w fun e w' => e = .returned (.bool true) ∧ Hp [] w w' [] := by
  apply framesAll.ok; unfold framesAll.vc
  have live : ∀ w1, Hp [] w w1 [] → CallV Try.prog 9 [] w1 fun e w' => ∃ b, e = .returned (.bool b) ∧ Ending.returned (.bool b) = .returned (.bool true) ∧ Hp [] w w' [] := by
    intro w1 K
    refine callV (alive_spec w1) ?_
    rintro e w2 ⟨rfl, K'⟩
    exact ⟨_, rfl, rfl, K.ext0 K'⟩
  have H := Hp.start w
  refine br_dec (fun _ => live w H) (fun h4 => br_dec (fun _ => live w H) (fun h64 => ?_))
  obtain ⟨m, rfl⟩ : ∃ m : Nat, many = (m : Int) := ⟨many.toNat, by omega⟩
  have hm : 4 ≤ m ∧ m ≤ 64 := by omega
  refine callV (few_spec sa sc ops hmx w hs) ?_
  rintro e w1 ⟨r, rfl, hfew, H'⟩
  replace H := H.ext0 H'; clear H'
  refine ⟨_, rfl, br_not (fun _ => live w1 H) (fun hr => ?_)⟩
  have hf := hfew hr
  refine callV (begun_spec m hm w1) ?_
  rintro e w2 ⟨y, x, rfl, hg, hfs, hx, H'⟩
  replace H : Hp [] w w2 (stL y x (stN dk0 m [] false)) := (H.ext H').takeL; clear H'
  refine ⟨_, rfl, _, eqvK, br_mk (fun h => by cases h) (fun _ => ?_)⟩
  refine callV (qnew_spec m w2) ?_
  rintro e w3 ⟨z, rfl, H'⟩
  have H2 : Hp [] w w3 (stL y x (stN dk0 m [] false) ++ rfL z pg0 pin0) := (H.ext H').perm List.perm_append_comm
  clear H H'
  refine ⟨_, _, _, _, _, _, _, rfl, ?_⟩
  have I0 := di0 m hm hg hfs hx
  refine callV (plays_spec (C := 0) (by omega) y x (stN dk0 m [] false) I0 (got0 _ _) rfl rfl z sa sc ops hf w3 H2.std (fun W hW => by
    have K := H2.useAll (M := []) ⟨hW, by simp, by simp, .nil⟩
    exact hs.chg K.chg (by simp))) ?_
  rintro e w4 ⟨z1, y1, x1, s1, pg1, pin1, rfl, P, H'⟩
  have H3 := H2.useAll H'
  clear H2 H'
  refine ⟨_, _, _, _, _, _, _, _, rfl, ?_⟩
  intro b1 w5 hn
  replace H3 := H3.new (cs := [.slice none 0 0, .slice none 0 0, .int .i64 0]) (by exact ⟨rfl, rfl, rfl, rfl⟩) hn; clear hn
  refine Hp.stA (o := 0) H3 (by exact ⟨rfl, rfl, rfl, rfl⟩) gaggRP (vs := [.slice z1.pa 12 z1.pc, .slice z1.qa 12 z1.qc, .int .i64 (m : Int)]) rfl rfl (by simp) (cs' := [.slice z1.pa 12 z1.pc, .slice z1.qa 12 z1.qc, .int .i64 (m : Int)]) rfl ?_
  clear H3; intro w6 H
  refine callV (alive_spec w6) ?_
  rintro e w7 ⟨rfl, H'⟩
  replace H := H.ext0 H'; clear H'
  refine ⟨_, rfl, br_true (br_true ⟨_, _, _, _, _, _, _, H.ldA (o := 0) (by exact ⟨rfl, rfl, rfl, rfl⟩) gaggRP (.head _) rfl rfl, ?_⟩)⟩
  have ekb := P.kb
  rw [← ekb]
  refine callV (stands_spec (C := 200) (by omega) y1 x1 s1 (by have := P.di; rw [Nat.zero_add] at this; exact this) P.deny P.denied z1 m w7 H.drop.std) ?_
  rintro e w8 ⟨rfl, H'⟩
  exact ⟨_, rfl, rfl, H.drop.useAll H'⟩

/-! ### pages -/
set_option maxHeartbeats 4000000 in
theorem framesPages_law (many : Int) (sa : Option Addr) (sc : Nat) (ops : List Op12) (hmx : ops.length ≤ 9223372036854775807) (w : World) (hs : Cells w sa (scrC ops)) :
    Calls Try.prog 4 #[.slice sa ops.length sc, .int .i64 many] w fun e w' => e = .returned (.bool true) ∧ Hp [] w w' [] := by
  apply framesPages.ok; unfold framesPages.vc
  refine JoinP.mk (fun (q : Bool) w' => (q = false → 4 ≤ many ∧ many ≤ 64 ∧ Few12 ops) ∧ Hp [] w w' []) ?hR ?hX
  case hX =>
    intro J hJ
    have H := Hp.start w
    refine br_dec (fun _ => hJ true w ⟨fun h => (by cases h), H⟩) (fun h4 => br_dec (fun _ => hJ true w ⟨fun h => (by cases h), H⟩) (fun h64 => ?_))
    refine callV (few_spec sa sc ops hmx w hs) ?_
    rintro e w1 ⟨r, rfl, hfew, H'⟩
    refine ⟨_, rfl, hJ (!r) w1 ⟨fun h => ⟨by omega, by omega, hfew (by simpa using h)⟩, H'⟩⟩
  rintro q w1 ⟨hq, H⟩
  refine br_mk (fun _ => ?_) (fun hqf => ?_)
  · refine callV (alive_spec w1) ?_
    rintro e w2 ⟨rfl, K'⟩
    exact ⟨_, rfl, rfl, H.ext0 K'⟩
  obtain ⟨hm4, hm64, hf⟩ := hq hqf
  obtain ⟨m, rfl⟩ : ∃ m : Nat, many = (m : Int) := ⟨many.toNat, by omega⟩
  have hm : 4 ≤ m ∧ m ≤ 64 := by omega
  refine callV (begun_spec m hm w1) ?_
  rintro e w2 ⟨y, x, rfl, hg, hfs, hx, H'⟩
  replace H : Hp [] w w2 (stL y x (stN dk0 m [] false)) := (H.ext H').takeL; clear H'
  refine ⟨_, rfl, _, eqvK, br_mk (fun h => by cases h) (fun _ => ?_)⟩
  refine callV (qnew_spec m w2) ?_
  rintro e w3 ⟨z, rfl, H'⟩
  have H2 : Hp [] w w3 (stL y x (stN dk0 m [] false) ++ rfL z pg0 pin0) := (H.ext H').perm List.perm_append_comm
  clear H H'
  refine ⟨_, _, _, _, _, _, _, rfl, ?_⟩
  have I0 := di0 m hm hg hfs hx
  intro b w4 hn
  replace H2 := H2.new (cs := [.slice none 0 0, .slice none 0 0, .int .i64 0]) (by exact ⟨rfl, rfl, rfl, rfl⟩) hn; clear hn
  refine Hp.stA (o := 0) H2 (by exact ⟨rfl, rfl, rfl, rfl⟩) gaggRP (vs := [.slice z.pa 12 z.pc, .slice z.qa 12 z.qc, .int .i64 (m : Int)]) rfl rfl (by simp) (cs' := [.slice z.pa 12 z.pc, .slice z.qa 12 z.qc, .int .i64 (m : Int)]) rfl ?_
  clear H2; intro w5 H
  have hlen := hf.len
  refine LoopP.mk (fun mm (i : Int × Int) w' => ∃ (k : Nat) (z1 : RW) (y1 : GW) (x1 : DW) (s1 : St) (pg1 : Nat → AP) (pin1 : Nat → Nat), mm = ops.length - k ∧ k ≤ ops.length ∧ i = ((s1.pages : Int), (k : Int)) ∧ PlayP (0 + k) y (stN dk0 m [] false) y1 x1 s1 pg1 pin1 ∧ Hp [] w w' (.blk b [.slice z1.pa 12 z1.pc, .slice z1.qa 12 z1.qc, .int .i64 (m : Int)] 46 :: (stL y1 x1 s1 ++ rfL z1 pg1 pin1))) ops.length ⟨0, z, y, x, stN dk0 m [] false, pg0, pin0, rfl, by omega, rfl, ⟨rfl, I0, got0 _ _, rfl, rfl, rfl⟩, H⟩ ?_
  clear H w1 w2 w3 w4 w5
  rintro mm i w1 next ⟨k, z1, y1, x1, s1, pg1, pin1, rfl, hk, rfl, P1, H⟩ hnext
  have hkb := P1.kb
  dsimp only
  rw [← hkb]
  refine br_dec (fun h1 => ?_) (fun h1 => ?_)
  · have hkl : k < ops.length := by omega
    have hsW := hs.chg H.chg (by simp)
    obtain ⟨ad, ha⟩ := hsW.some (scrC_ne hkl)
    have e1 : Int.toNat (k : Int) * 9 = 9 * k := by omega
    have hfew := hf.all _ (List.getElem_mem hkl)
    refine onP_mk ha ⟨⟨by omega, h1⟩, _, _, _, _, _, _, _, _, _, by rw [e1]; exact hsW.ldA gaggO12 ha (scrC_nine hkl) rfl, ?_⟩
    generalize ops[k] = o at hfew ⊢
    intro b3 w2 hn
    replace H := H.new (cs := [.int .i64 0, .int .i64 0, .bool false, .int .i64 0, .int .i64 0, .int .i64 0, .string ⟨#[]⟩, .string ⟨#[]⟩, .int .i64 0]) (by exact ⟨rfl, rfl, rfl, rfl⟩) hn; clear hn
    refine Hp.stA (o := 0) H (by exact ⟨rfl, rfl, rfl, rfl⟩) gaggO12 (vs := op12C o) rfl rfl (by simp) (cs' := op12C o) rfl ?_
    clear H; intro w3 H
    refine ⟨_, H.ld (o := 0) (cs := op12C o) (by exact ⟨rfl, rfl, rfl, rfl⟩) gInt (.head _) rfl, br_dec (fun h2 => ?_) (fun h2 => ?_)⟩
    · exact ⟨inR64.2 (by omega), hnext (ops.length - (k + 1)) _ _ (by omega) ⟨k + 1, z1, y1, x1, s1, pg1, pin1, rfl, by omega, by simp, ⟨P1.kb, P1.di.up, P1.got, P1.deny, P1.denied, P1.many⟩, H.drop⟩⟩
    refine ⟨_, _, _, _, _, _, _, H.ldA (o := 0) (cs := [.slice z1.pa 12 z1.pc, .slice z1.qa 12 z1.qc, .int .i64 (m : Int)]) (by exact ⟨rfl, rfl, rfl, rfl⟩) gaggRP (.tail _ (.head _)) rfl rfl, _, _, _, _, _, _, _, _, _, H.ldA (o := 0) (cs := op12C o) (by exact ⟨rfl, rfl, rfl, rfl⟩) gaggO12 (.head _) rfl rfl, ?_⟩
    have H2 : Hp [] w w3 (rfL z1 pg1 pin1 ++ (.blk b3 (op12C o) 30 :: .blk b [.slice z1.pa 12 z1.pc, .slice z1.qa 12 z1.qc, .int .i64 (m : Int)] 46 :: stL y1 x1 s1)) := H.perm (by (refine perm_cnt fun ff gg h0 hc ha hpm => ?_; simp only [ha, hc, h0]; omega))
    clear H
    have hpl : ∀ n, pin1 n ≤ 1000000 := fun n => by have := P1.di.inv.pin_le n; omega
    refine callV (qdo_spec z1 pg1 pin1 m o P1.di.rp hpl hfew.stamp.1 w3 H2.std1) ?_
    rintro e w4 ⟨z2, rfl, H'⟩
    have H3 := H2.useL H'
    clear H2 H'
    refine ⟨_, _, _, _, _, _, _, _, rfl, ?_⟩
    intro b5 w5 hn
    replace H3 := H3.new (cs := [.slice none 0 0, .slice none 0 0, .int .i64 0]) (by exact ⟨rfl, rfl, rfl, rfl⟩) hn; clear hn
    refine Hp.stA (o := 0) H3 (by exact ⟨rfl, rfl, rfl, rfl⟩) gaggRP (vs := [.slice z2.pa 12 z2.pc, .slice z2.qa 12 z2.qc, .int .i64 (m : Int)]) rfl rfl (by simp) (cs' := [.slice z2.pa 12 z2.pc, .slice z2.qa 12 z2.qc, .int .i64 (m : Int)]) rfl ?_
    clear H3; intro w6 H
    refine ⟨_, _, _, _, _, _, _, H.ldA (o := 0) (by exact ⟨rfl, rfl, rfl, rfl⟩) gaggRP (.head _) rfl rfl, ?_⟩
    have H2 : Hp [] w w6 (.blk b [.slice z1.pa 12 z1.pc, .slice z1.qa 12 z1.qc, .int .i64 (m : Int)] 46 :: .blk b3 (op12C o) 30 :: (stL y1 x1 s1 ++ rfL z2 (refDo m pg1 pin1 o).1 (refDo m pg1 pin1 o).2.1)) := H.drop.perm (by (refine perm_cnt fun ff gg h0 hc ha hpm => ?_; simp only [ha, hc, h0]; omega))
    clear H
    refine Hp.stA (o := 0) H2 (by exact ⟨rfl, rfl, rfl, rfl⟩) gaggRP (vs := [.slice z2.pa 12 z2.pc, .slice z2.qa 12 z2.qc, .int .i64 (m : Int)]) rfl rfl (by simp) (cs' := [.slice z2.pa 12 z2.pc, .slice z2.qa 12 z2.qc, .int .i64 (m : Int)]) rfl ?_
    clear H2; intro w7 H
    refine ⟨_, _, _, _, _, _, _, _, _, H.ldA (o := 0) (cs := op12C o) (by exact ⟨rfl, rfl, rfl, rfl⟩) gaggO12 (.tail _ (.head _)) rfl rfl, ?_⟩
    have H2 : Hp [] w w7 (stL y1 x1 s1 ++ (.blk b3 (op12C o) 30 :: .blk b [.slice z2.pa 12 z2.pc, .slice z2.qa 12 z2.qc, .int .i64 (m : Int)] 46 :: rfL z2 (refDo m pg1 pin1 o).1 (refDo m pg1 pin1 o).2.1)) := H.perm (by (refine perm_cnt fun ff gg h0 hc ha hpm => ?_; simp only [ha, hc, h0]; omega))
    clear H
    refine callV (does_spec (C := 0 + k) (by omega) y1 x1 s1 P1.di o hfew (fun h => absurd h h2) w7 H2.std1) ?_
    rintro e w8 ⟨y2, x2, s2, c, rfl, H', D⟩
    have H3 := H2.useL H'
    clear H2 H'
    have hgo := D.gotOk P1.got P1.di
    have hm2 := D.mv
    have hd2 : s2.deny = false := by rw [hm2.deny]; exact P1.deny
    have hn2 := (hm2.calm P1.denied).1
    have hmany : s1.many = m := P1.many
    rcases D.res with ⟨hcw, D2⟩ | ⟨hT, _, _⟩
    rotate_left
    · exact (hT.not P1.deny P1.denied).elim
    rw [if_pos hcw] at hgo
    rw [hmany] at hcw D2 hgo
    refine ⟨_, rfl, br_ndec (fun h => absurd hcw h) (fun _ => ?_)⟩
    have hkb2 := D.kb
    rw [← hkb2]
    have mk : Asn.blk y2.kb (deskC y2 x2 s2) 37 ∈ stL y2 x2 s2 ++ (.blk b3 (op12C o) 30 :: .blk b [.slice z2.pa 12 z2.pc, .slice z2.qa 12 z2.qc, .int .i64 (m : Int)] 46 :: rfL z2 (refDo m pg1 pin1 o).1 (refDo m pg1 pin1 o).2.1) := List.mem_append_left _ (mem_kb y2 x2 s2)
    have mo : Asn.blk b3 (op12C o) 30 ∈ stL y2 x2 s2 ++ (.blk b3 (op12C o) 30 :: .blk b [.slice z2.pa 12 z2.pc, .slice z2.qa 12 z2.qc, .int .i64 (m : Int)] 46 :: rfL z2 (refDo m pg1 pin1 o).1 (refDo m pg1 pin1 o).2.1) := List.mem_append_right _ (.head _)
    have hpgs := D.pages
    have hinn := D.inn
    have hp12 := P1.di.inv.pages
    -- the number of pages, asked
    have ask : ∀ t : Int, t = (s2.pages : Int) → onP (some (⟨y2.kb, 0, none⟩ : Addr)) fun a => ∃ p, Ld Try.prog 33 w8 (a.add 1) (.pointer p) ∧ CallV Try.prog 16 [.pointer p] w8 fun e w' => ∃ i, e = .returned (.int .i64 i) ∧ br (!decide (i = t)) (Ending.returned (.bool false) = .returned (.bool true) ∧ Hp [] w w' []) (inR .i64 ((k : Int) + 1) ∧ next (t, (k : Int) + 1) w') := by
      rintro t rfl
      refine onP_mk rfl ⟨_, ldPool H3 (by exact ⟨rfl, rfl, rfl, rfl⟩) mk, ?_⟩
      refine callV (fpages_spec y2 x2 s2 w8 H3.std1) ?_
      rintro e w9 ⟨rfl, rfl⟩
      refine ⟨_, rfl, br_ndec (fun h => absurd rfl h) (fun _ => ⟨inR64.2 (by omega), hnext (ops.length - (k + 1)) _ _ (by omega) ⟨k + 1, z2, y2, x2, s2, _, _, rfl, by omega, by simp, ⟨by rw [hkb2]; exact P1.kb, D2, hgo, hd2, hn2, by rw [hm2.many]; exact hmany⟩, (H3.perm (by (refine perm_cnt fun ff gg h0 hc ha hpm => ?_; simp only [ha, hc, h0]; omega)) : Hp [] w _ (.blk b3 (op12C o) 30 :: .blk b [.slice z2.pa 12 z2.pc, .slice z2.qa 12 z2.qc, .int .i64 (m : Int)] 46 :: (stL y2 x2 s2 ++ rfL z2 (refDo m pg1 pin1 o).1 (refDo m pg1 pin1 o).2.1))).drop⟩⟩)⟩
    refine br_dec (fun hw0 => ⟨_, H3.ld (o := 0) (cs := op12C o) (by exact ⟨rfl, rfl, rfl, rfl⟩) gInt mo rfl, br_dec (fun hk0 => ?_) (fun hk0 => ⟨_, H3.ld (o := 0) (cs := op12C o) (by exact ⟨rfl, rfl, rfl, rfl⟩) gInt mo rfl, br_dec (fun hk4 => ?_) (fun hk4 => ?_)⟩)⟩) (fun hw0 => ?_)
    · have hin := hinn (hcw.trans hw0) (.inl hk0)
      rw [if_pos ⟨hcw.trans hw0, .inl hk0⟩] at hpgs
      exact ⟨_, H3.ld (o := 1) (cs := op12C o) (by exact ⟨rfl, rfl, rfl, rfl⟩) gInt mo rfl, inR64.2 (by omega), ask _ (by rw [hpgs]; omega)⟩
    · have hin := hinn (hcw.trans hw0) (.inr hk4)
      rw [if_pos ⟨hcw.trans hw0, .inr hk4⟩] at hpgs
      exact ⟨_, H3.ld (o := 1) (cs := op12C o) (by exact ⟨rfl, rfl, rfl, rfl⟩) gInt mo rfl, inR64.2 (by omega), ask _ (by rw [hpgs]; omega)⟩
    · rw [if_neg (by omega)] at hpgs
      exact ask _ (by rw [hpgs])
    · rw [if_neg (fun h => hw0 (hcw.symm.trans h.1))] at hpgs
      exact ask _ (by rw [hpgs])
  · have I1 := P1.di
    have hle := I1.inv.len
    have hp12 := I1.inv.pages
    have hdd := I1.inv.dd
    have H2 : Hp [] w w1 (dkL x1 s1.d ++ (.blk y1.kb (deskC y1 x1 s1) 37 :: .blk y1.kv [.pointer (some ⟨y1.kb, 0, none⟩)] 25 :: .own 3 1 y1.aa s1.asked.length y1.ac (Sl.intC s1.asked) :: (poolA y1 x1 s1 :: fsA y1 s1 :: frsL y1.fs s1.fs ++ (.blk b [.slice z1.pa 12 z1.pc, .slice z1.qa 12 z1.qc, .int .i64 (m : Int)] 46 :: rfL z1 pg1 pin1)))) := H.perm (by rw [stL, deskL]; (refine perm_cnt fun ff gg h0 hc ha hpm => ?_; simp only [ha, hc, h0]; omega))
    clear H
    refine onP_mk rfl ⟨_, H2.ld (o := 0) (cs := deskC y1 x1 s1) (by exact ⟨rfl, rfl, rfl, rfl⟩) gPD (List.mem_append_right _ (.head _)) rfl, ?_⟩
    refine callV (size_spec x1 s1.d I1.dk nData w1 H2.std1) ?_
    rintro e w2 ⟨rfl, H'⟩
    replace H2 := H2.ext0 H'; clear H'
    have hsz := hdd.size
    have et : Int.tdiv (s1.d.size nData + 7) 8 = (((s1.d.len 0 + 7) / 8 : Nat) : Int) := by
      rw [hsz, show (s1.d.len 0 : Int) + 7 = ((s1.d.len 0 + 7 : Nat) : Int) by omega]; rfl
    refine ⟨_, rfl, inR64.2 (by omega), by omega, by rw [et]; exact inR64.2 (by omega), ?_⟩
    rw [et]
    have H3 : Hp [] w w2 (deskN y1.kb x1 s1.d (some ⟨y1.pb, 0, none⟩) y1.aa y1.ac s1.asked s1.deny y1.got ++ (.blk y1.kv [.pointer (some ⟨y1.kb, 0, none⟩)] 25 :: (poolA y1 x1 s1 :: fsA y1 s1 :: frsL y1.fs s1.fs ++ (.blk b [.slice z1.pa 12 z1.pc, .slice z1.qa 12 z1.qc, .int .i64 (m : Int)] 46 :: rfL z1 pg1 pin1)))) := H2.perm (by
      rw [deskN]
      show List.Perm (dkL x1 s1.d ++ (.blk y1.kb (deskC y1 x1 s1) 37 :: .blk y1.kv [.pointer (some ⟨y1.kb, 0, none⟩)] 25 :: .own 3 1 y1.aa s1.asked.length y1.ac (Sl.intC s1.asked) :: (poolA y1 x1 s1 :: fsA y1 s1 :: frsL y1.fs s1.fs ++ (.blk b [.slice z1.pa 12 z1.pc, .slice z1.qa 12 z1.qc, .int .i64 (m : Int)] 46 :: rfL z1 pg1 pin1)))) (.blk y1.kb (deskC y1 x1 s1) 37 :: .own 3 1 y1.aa s1.asked.length y1.ac (Sl.intC s1.asked) :: dkL x1 s1.d ++ (.blk y1.kv [.pointer (some ⟨y1.kb, 0, none⟩)] 25 :: (poolA y1 x1 s1 :: fsA y1 s1 :: frsL y1.fs s1.fs ++ (.blk b [.slice z1.pa 12 z1.pc, .slice z1.qa 12 z1.qc, .int .i64 (m : Int)] 46 :: rfL z1 pg1 pin1))))
      (refine perm_cnt fun ff gg h0 hc ha hpm => ?_; simp only [ha, hc, h0]; omega))
    clear H2
    refine callV (dopen_spec y1.kb x1 s1.d s1.d I1.dk (.inr ⟨hdd, by omega, rfl⟩) (some ⟨y1.pb, 0, none⟩) y1.aa y1.ac s1.asked s1.deny y1.got I1.got m hm w2 H3.std1) ?_
    rintro e w3 ⟨rfl, y2, x2, hk2, hg2, hf2, hb2, hx2, H'⟩
    have H4 := (H3.useL H').takeL
    clear H3 H'
    rw [← hk2]
    refine ⟨_, rfl, _, eqvK, br_mk (fun h => by cases h) (fun _ => ?_)⟩
    refine callV (alive_spec w3) ?_
    rintro e w4 ⟨rfl, H'⟩
    replace H4 := H4.ext0 H'; clear H'
    refine ⟨_, rfl, br_true (onP_mk rfl ⟨_, ldPool H4 (by exact ⟨rfl, rfl, rfl, rfl⟩) (mem_kb y2 x2 _), ?_⟩)⟩
    refine callV (fpages_spec y2 x2 _ w4 H4.std) ?_
    rintro e w5 ⟨rfl, rfl⟩
    refine ⟨_, rfl, br_dec (fun _ => ⟨?_, H4.done⟩) (fun h => absurd rfl h)⟩
    rw [decide_eq_true (by omega)]
end Go.Proofs.Ytiagjabdfppgkaa
