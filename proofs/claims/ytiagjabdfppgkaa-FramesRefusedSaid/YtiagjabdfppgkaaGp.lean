/- Frames: the laws of what is refused, and of what fails. -/
import Derived.Test.YtiagjabdfppgkaaGo
set_option linter.unusedVariables false
set_option linter.unusedSimpArgs false
set_option maxRecDepth 100000
namespace Go.Proofs.Ytiagjabdfppgkaa
open Go Go.Vc Go.Vault

theorem Inv.flag {C : Nat} {s : St} {pg : Nat → AP} {pin : Nat → Nat} (h : Inv C s pg pin) (v : Bool) : Inv C { s with deny := v } pg pin := ⟨h.core, h.dd, h.len, h.le, h.pages, h.many, h.fl, h.hand, h.cp, h.ca⟩
theorem DI.flag {C : Nat} {y : GW} {x : DW} {s : St} {pg : Nat → AP} {pin : Nat → Nat} (h : DI C y x s pg pin) (v : Bool) : DI C y x { s with deny := v } pg pin := ⟨h.inv.flag v, h.dk, h.len, h.got, h.good⟩
theorem deny_ok {x : DW} {d : Dk} (h : x.Ok d) {v : Int} (hv : v ≤ 9223372036854775807) : x.Ok (d.deny v) :=
  ⟨⟨h.dk.room, h.dk.files, h.dk.firm, h.dk.chs, h.dk.rise, h.dk.armed, by show (((max v 0).toNat : Nat) : Int) ≤ _; omega⟩, h.fl, h.cl, h.keys, h.na, h.fi⟩
theorem DI.denyD {C : Nat} {y : GW} {x : DW} {s : St} {pg : Nat → AP} {pin : Nat → Nat} (h : DI C y x s pg pin) {v : Int} (hv : v ≤ 9223372036854775807) : DI C y x { s with d := s.d.deny v } pg pin :=
  ⟨⟨h.inv.core.disk (d' := s.d.deny v) fun n h => h, h.inv.dd.deny hv, h.inv.len, h.inv.le, h.inv.pages, h.inv.many, h.inv.fl, h.inv.hand, h.inv.cp, h.inv.ca⟩, deny_ok h.dk hv, h.len, h.got, h.good⟩
/-- the flag of what is asked ahead -/
theorem flag_st {y : GW} {x : DW} {s : St} {B : List Nat} {w0 w : World} {L : List Asn} (H : Hp B w0 w (stL y x s ++ L)) (v : Bool) {G : World → Prop} (k : ∀ w1, Hp B w0 w1 (stL y x { s with deny := v } ++ L) → G w1) :
    onP (some (⟨y.kb, 0, none⟩ : Addr)) fun a => ∃ w1, Go.Vc.St Try.prog 4 w (a.add 3) (.bool v) w1 ∧ G w1 := by
  have H2 : Hp B w0 w (.blk y.kb (deskC y x s) 37 :: (.blk y.kv [.pointer (some ⟨y.kb, 0, none⟩)] 25 :: .own 3 1 y.aa s.asked.length y.ac (Sl.intC s.asked) :: poolA y x s :: fsA y s :: (frsL y.fs s.fs ++ (dkL x s.d ++ L)))) := H.perm (by rw [stL, deskL]; (refine perm_cnt fun ff gg h0 hc ha hpm => ?_; simp only [ha, hc, h0]; omega))
  clear H
  refine onP_mk rfl (Hp.st (o := 3) H2 (by exact ⟨rfl, rfl, rfl, rfl⟩) gBool rfl rfl (by simp [deskC]) (cs' := deskC y x { s with deny := v }) rfl ?_)
  intro w1 K
  refine k w1 (K.perm ?_)
  rw [stL, deskL]
  show List.Perm (.blk y.kb (deskC y x { s with deny := v }) 37 :: (.blk y.kv [.pointer (some ⟨y.kb, 0, none⟩)] 25 :: .own 3 1 y.aa s.asked.length y.ac (Sl.intC s.asked) :: poolA y x s :: fsA y s :: (frsL y.fs s.fs ++ (dkL x s.d ++ L)))) (poolA y x s :: fsA y s :: ([.blk y.kb (deskC y x { s with deny := v }) 37, .blk y.kv [.pointer (some ⟨y.kb, 0, none⟩)] 25, .own 3 1 y.aa s.asked.length y.ac (Sl.intC s.asked)] ++ (frsL y.fs s.fs ++ dkL x s.d)) ++ L)
  (refine perm_cnt fun ff gg h0 hc ha hpm => ?_; simp only [ha, hc, h0]; omega)
theorem deny_any {y : GW} {x : DW} {s : St} {B : List Nat} {w0 w : World} {L : List Asn} (H : Hp B w0 w (stL y x s ++ L)) (hx : x.Ok s.d) (v : Int) {R : Ending → World → Prop} (k : ∀ w1, Hp B w0 w1 (stL y x { s with d := s.d.deny v } ++ L) → R (.returned (.tuple #[])) w1) :
    CallV Try.prog 21 [.pointer (some ⟨x.b, 0, none⟩), .int .i64 v] w R := by
  have H2 : Hp B w0 w (dkL x s.d ++ (poolA y x s :: fsA y s :: (deskL y x s ++ (frsL y.fs s.fs ++ L)))) := H.perm (by rw [stL]; (refine perm_cnt fun ff gg h0 hc ha hpm => ?_; simp only [ha, hc, h0]; omega))
  clear H
  refine callV (deny_spec x s.d hx v w H2.std1) ?_
  rintro e w1 ⟨rfl, H'⟩
  refine k w1 ((H2.useL H').perm ?_)
  rw [stL]
  show List.Perm (dkL x (s.d.deny v) ++ (poolA y x s :: fsA y s :: (deskL y x s ++ (frsL y.fs s.fs ++ L)))) (poolA y x s :: fsA y s :: (deskL y x s ++ (frsL y.fs s.fs ++ dkL x (s.d.deny v))) ++ L)
  (refine perm_cnt fun ff gg h0 hc ha hpm => ?_; simp only [ha, hc, h0]; omega)
theorem ldDisk {y : GW} {x : DW} {s : St} {B : List Nat} {w0 w w' : World} {L : List Asn} (H : Hp B w0 w L) (e : Eqw w w') (m : Asn.blk y.kb (deskC y x s) 37 ∈ L) : Ld Try.prog 32 w' ⟨y.kb, 0, none⟩ (.pointer (some ⟨x.b, 0, none⟩)) := H.ld (o := 0) (cs := deskC y x s) e gPD m rfl
theorem trouble190 {s : St} {c : Int} (h : Trouble s c) (h0 : s.d.denied = 0) : c = 190 := by
  rcases h with ⟨h, _⟩ | ⟨_, h⟩
  · exact h
  · exact absurd h0 h
theorem trouble95 {s : St} {c : Int} (h : Trouble s c) (h0 : s.deny = false) : c = 95 := by
  rcases h with ⟨_, h⟩ | ⟨h, _⟩
  · rw [h0] at h; cases h
  · exact h
set_option maxHeartbeats 4000000 in
theorem framesRefused_law (many : Int) (sa : Option Addr) (sc : Nat) (ops : List Op12) (hmx : ops.length ≤ 9223372036854775807) (w : World) (hs : Cells w sa (scrC ops)) :
    Calls Try.prog 5 #[.int .i64 many, .slice sa ops.length sc] w fun e w' => e = .returned (.bool true) ∧ Hp [] w w' [] := by
  apply framesRefused.ok; unfold framesRefused.vc
  refine JoinP.mk (fun (q : Bool) w' => (q = false → 4 ≤ many ∧ many ≤ 64 ∧ Few12 ops) ∧ Hp [] w w' []) ?hR ?hX
  case hX =>
    intro J hJ
    have H := Hp.start w
    refine br_dec (fun _ => hJ true w ⟨fun h => (by cases h), H⟩) (fun h4 => br_dec (fun _ => hJ true w ⟨fun h => (by cases h), H⟩) (fun h64 => ?_))
    refine callV (few_spec sa sc ops hmx w hs) ?_
    rintro e w1 ⟨r, rfl, hfew, H'⟩
    refine ⟨_, rfl, hJ (!r) w1 ⟨fun h => ⟨by omega, by omega, hfew (by simpa using h)⟩, H'⟩⟩
  rintro q w1 ⟨hq, H⟩
  refine br_mk (fun _ => ?_) (fun hqf => ?_)
  · refine callV (alive_spec w1) ?_
    rintro e w2 ⟨rfl, K'⟩
    exact ⟨_, rfl, rfl, H.ext0 K'⟩
  obtain ⟨hm4, hm64, hf⟩ := hq hqf
  obtain ⟨m, rfl⟩ : ∃ m : Nat, many = (m : Int) := ⟨many.toNat, by omega⟩
  have hm : 4 ≤ m ∧ m ≤ 64 := by omega
  refine callV (begun_spec m hm w1) ?_
  rintro e w2 ⟨y, x, rfl, hg, hfs, hx, H'⟩
  replace H : Hp [] w w2 (stL y x (stN dk0 m [] false) ++ []) := H.ext H'
  clear H'
  refine ⟨_, rfl, _, eqvK, br_mk (fun h => by cases h) (fun _ => flag_st H true ?_)⟩
  clear H; intro w3 H
  refine callV (qnew_spec m w3) ?_
  rintro e w4 ⟨z, rfl, H'⟩
  have H2 := (H.ext H')
  clear H H'
  have I0 := (di0 m hm hg hfs hx).flag true
  refine ⟨_, _, _, _, _, _, _, rfl, ?_⟩
  intro b w5 hn
  replace H2 := H2.new (cs := [.slice none 0 0, .slice none 0 0, .int .i64 0]) (by exact ⟨rfl, rfl, rfl, rfl⟩) hn; clear hn
  refine Hp.stA (o := 0) H2 (by exact ⟨rfl, rfl, rfl, rfl⟩) gaggRP (vs := [.slice z.pa 12 z.pc, .slice z.qa 12 z.qc, .int .i64 (m : Int)]) rfl rfl (by simp) (cs' := [.slice z.pa 12 z.pc, .slice z.qa 12 z.qc, .int .i64 (m : Int)]) rfl ?_
  clear H2; intro w6 H
  have hlen := hf.len
  refine LoopP.mk (fun mm (i : Int) w' => ∃ (k : Nat) (z1 : RW) (y1 : GW) (x1 : DW) (s1 : St) (pg1 : Nat → AP) (pin1 : Nat → Nat), mm = ops.length - k ∧ k ≤ ops.length ∧ i = (k : Int) ∧ y1.kb = y.kb ∧ DI (0 + k) y1 x1 s1 pg1 pin1 ∧ GotOk y1 s1 pin1 ∧ s1.deny = true ∧ s1.d.denied = 0 ∧ s1.many = m ∧ s1.d.len 0 = 0 ∧ Hp [] w w' (.blk b [.slice z1.pa 12 z1.pc, .slice z1.qa 12 z1.qc, .int .i64 (m : Int)] 46 :: (stL y1 x1 s1 ++ rfL z1 pg1 pin1))) ops.length ⟨0, z, y, x, _, pg0, pin0, rfl, by omega, rfl, rfl, I0, got0 _ _, rfl, rfl, rfl, rfl, H.perm (by (refine perm_cnt fun ff gg h0 hc ha hpm => ?_; simp only [ha, hc, h0]; omega))⟩ ?_
  clear H w1 w2 w3 w4 w5 w6
  rintro mm i w1 next ⟨k, z1, y1, x1, s1, pg1, pin1, rfl, hk, rfl, hkb, I1, hgo1, hd1, hn1, hmany, hl1, H⟩ hnext
  dsimp only
  rw [← hkb]
  refine br_dec (fun h1 => ?_) (fun h1 => ?_)
  · have hkl : k < ops.length := by omega
    have hsW := hs.chg H.chg (by simp)
    obtain ⟨ad, ha⟩ := hsW.some (scrC_ne hkl)
    have e1 : Int.toNat (k : Int) * 9 = 9 * k := by omega
    have hfew := hf.all _ (List.getElem_mem hkl)
    refine onP_mk ha ⟨⟨by omega, h1⟩, _, _, _, _, _, _, _, _, _, by rw [e1]; exact hsW.ldA gaggO12 ha (scrC_nine hkl) rfl, ?_⟩
    generalize ops[k] = o at hfew ⊢
    intro b2 w2 hn
    replace H := H.new (cs := [.int .i64 0, .int .i64 0, .bool false, .int .i64 0, .int .i64 0, .int .i64 0, .string ⟨#[]⟩, .string ⟨#[]⟩, .int .i64 0]) (by exact ⟨rfl, rfl, rfl, rfl⟩) hn; clear hn
    refine Hp.stA (o := 0) H (by exact ⟨rfl, rfl, rfl, rfl⟩) gaggO12 (vs := op12C o) rfl rfl (by simp) (cs' := op12C o) rfl ?_
    clear H; intro w3 H
    have ldK : ∀ (i : Nat) (v : Int), (op12C o)[i]? = some (.int .i64 v) → Ld Try.prog 3 w3 ⟨b2, i, none⟩ (.int .i64 v) := fun i v hv => H.ld (o := i) (cs := op12C o) (by exact ⟨rfl, rfl, rfl, rfl⟩) gInt (.head _) hv
    have skip : inR .i64 ((k : Int) + 1) ∧ next ((k : Int) + 1) w3 := ⟨inR64.2 (by omega), hnext (ops.length - (k + 1)) _ _ (by omega) ⟨k + 1, z1, y1, x1, s1, pg1, pin1, rfl, by omega, by simp, hkb, I1.up, hgo1, hd1, hn1, hmany, hl1, H.drop⟩⟩
    obtain ⟨hcq, hnq⟩ := rf_pins (z := z1) (pg := pg1) (pin := pin1) H (.tail _ (.tail _ (List.mem_append_right _ (.tail _ (.head _)))))
    obtain ⟨adq, hadq⟩ := Option.ne_none_iff_exists'.1 hnq
    refine ⟨_, ldK 0 _ rfl, ?_⟩
    refine (fun (kk : (o.kind = 2 → ∀ n : Nat, o.n = (n : Int) → n < 12 → 0 < pin1 n) → _) => br_dec (fun h2 => ⟨_, ldK 1 _ rfl, br_dec (fun h3 => skip) (fun h3 => ⟨_, ldK 1 _ rfl, br_dec (fun h4 => skip) (fun h4 => ?mid)⟩)⟩) (fun h2 => kk (fun h => absurd h h2))) ?cont
    case mid =>
      obtain ⟨n, hon⟩ : ∃ n : Nat, o.n = (n : Int) := ⟨o.n.toNat, by omega⟩
      have hn12 : n < 12 := by omega
      have e2 : Int.toNat (n : Int) * 1 = n := by omega
      refine ⟨_, _, _, H.ld (o := 1) (cs := [.slice z1.pa 12 z1.pc, .slice z1.qa 12 z1.qc, .int .i64 (m : Int)]) (by exact ⟨rfl, rfl, rfl, rfl⟩) gSI (.tail _ (.head _)) rfl, _, ldK 1 _ rfl, ?_⟩
      rw [hon]
      refine onP_mk hadq ⟨⟨by omega, by omega⟩, _, by rw [e2]; exact hcq.ld gInt hadq (pinC_at _ hn12), br_dec (fun h5 => skip) (fun h5 => kk (fun _ n' hn' _ => ?_))⟩
      have : n' = n := by omega
      subst this; omega
    case cont =>
      intro hpn
      refine ⟨_, _, _, _, _, _, _, H.ldA (o := 0) (cs := [.slice z1.pa 12 z1.pc, .slice z1.qa 12 z1.qc, .int .i64 (m : Int)]) (by exact ⟨rfl, rfl, rfl, rfl⟩) gaggRP (.tail _ (.head _)) rfl rfl, _, _, _, _, _, _, _, _, _, H.ldA (o := 0) (cs := op12C o) (by exact ⟨rfl, rfl, rfl, rfl⟩) gaggO12 (.head _) rfl rfl, ?_⟩
      have H2 : Hp [] w w3 (rfL z1 pg1 pin1 ++ (.blk b2 (op12C o) 30 :: .blk b [.slice z1.pa 12 z1.pc, .slice z1.qa 12 z1.qc, .int .i64 (m : Int)] 46 :: stL y1 x1 s1)) := H.perm (by (refine perm_cnt fun ff gg h0 hc ha hpm => ?_; simp only [ha, hc, h0]; omega))
      clear H skip ldK hcq
      have hpl : ∀ n, pin1 n ≤ 1000000 := fun n => by have := I1.inv.pin_le n; omega
      refine callV (qdo_pure z1 pg1 pin1 m o I1.rp hpl hfew.stamp.1 w3 H2.std1) ?_
      rintro e w4 ⟨z2, T, G, rfl, H', hperm⟩
      have H3 := H2.useL H'
      clear H2 H'
      refine ⟨_, _, _, _, _, _, _, _, rfl, ?_⟩
      intro b4 w5 hn
      replace H3 := H3.new (cs := [.slice none 0 0, .slice none 0 0, .int .i64 0]) (by exact ⟨rfl, rfl, rfl, rfl⟩) hn; clear hn
      refine Hp.stA (o := 0) H3 (by exact ⟨rfl, rfl, rfl, rfl⟩) gaggRP (vs := [.slice z2.pa 12 z2.pc, .slice z2.qa 12 z2.qc, .int .i64 (m : Int)]) rfl rfl (by simp) (cs' := [.slice z2.pa 12 z2.pc, .slice z2.qa 12 z2.qc, .int .i64 (m : Int)]) rfl ?_
      clear H3; intro w6 H
      have H2 : Hp [] w w6 (stL y1 x1 s1 ++ (.blk b2 (op12C o) 30 :: .blk b4 [.slice z2.pa 12 z2.pc, .slice z2.qa 12 z2.qc, .int .i64 (m : Int)] 46 :: .blk b [.slice z1.pa 12 z1.pc, .slice z1.qa 12 z1.qc, .int .i64 (m : Int)] 46 :: (rfL z1 pg1 pin1 ++ T))) := H.perm (by (refine perm_cnt fun ff gg h0 hc ha hpm => ?_; simp only [ha, hc, h0]; omega))
      clear H
      refine ⟨_, _, _, _, _, _, _, _, _, H2.ldA (o := 0) (cs := op12C o) (by exact ⟨rfl, rfl, rfl, rfl⟩) gaggO12 (List.mem_append_right _ (.head _)) rfl rfl, ?_⟩
      refine callV (does_spec (C := 0 + k) (by omega) y1 x1 s1 I1 o hfew (fun h2 n hon hn12 => ⟨hpn h2 n hon hn12, hgo1 n hn12 (hpn h2 n hon hn12)⟩) w6 H2.std1) ?_
      rintro e w7 ⟨y2, x2, s2, c, rfl, H', D⟩
      have H3 := H2.useL H'
      clear H2 H'
      have hgo := D.gotOk hgo1 I1
      have hm2 := D.mv
      have hd2 : s2.deny = true := by rw [hm2.deny]; exact hd1
      have hn2 := (hm2.calm hn1).1
      have hl2 : s2.d.len 0 = 0 := by rw [hm2.no hd1]; exact hl1
      have hmany2 : s2.many = m := by rw [hm2.many]; exact hmany
      have hkb2 : y2.kb = y.kb := D.kb.trans hkb
      rw [hmany] at hgo
      refine ⟨_, rfl, br_dec (fun hcw => ?_) (fun hcw => ?_)⟩
      · rcases D.res with ⟨_, D2⟩ | ⟨_, hne, _⟩
        · rw [if_pos hcw] at hgo
          rw [hmany] at D2
          have H4 : Hp [] w w7 (.blk b [.slice z1.pa 12 z1.pc, .slice z1.qa 12 z1.qc, .int .i64 (m : Int)] 46 :: .blk b4 [.slice z2.pa 12 z2.pc, .slice z2.qa 12 z2.qc, .int .i64 (m : Int)] 46 :: (stL y2 x2 s2 ++ (.blk b2 (op12C o) 30 :: (rfL z1 pg1 pin1 ++ T)))) := H3.perm (by (refine perm_cnt fun ff gg h0 hc ha hpm => ?_; simp only [ha, hc, h0]; omega))
          clear H3
          refine ⟨_, _, _, _, _, _, _, H4.ldA (o := 0) (cs := [.slice z2.pa 12 z2.pc, .slice z2.qa 12 z2.qc, .int .i64 (m : Int)]) (by exact ⟨rfl, rfl, rfl, rfl⟩) gaggRP (.tail _ (.head _)) rfl rfl, ?_⟩
          refine Hp.stA (o := 0) H4 (by exact ⟨rfl, rfl, rfl, rfl⟩) gaggRP (vs := [.slice z2.pa 12 z2.pc, .slice z2.qa 12 z2.qc, .int .i64 (m : Int)]) rfl rfl (by simp) (cs' := [.slice z2.pa 12 z2.pc, .slice z2.qa 12 z2.qc, .int .i64 (m : Int)]) rfl ?_
          clear H4; intro w8 H
          have H5 : Hp [] w w8 ((.blk b [.slice z2.pa 12 z2.pc, .slice z2.qa 12 z2.qc, .int .i64 (m : Int)] 46 :: (stL y2 x2 s2 ++ rfL z2 (refDo m pg1 pin1 o).1 (refDo m pg1 pin1 o).2.1)) ++ (G ++ [.blk b4 [.slice z2.pa 12 z2.pc, .slice z2.qa 12 z2.qc, .int .i64 (m : Int)] 46, .blk b2 (op12C o) 30])) := H.perm (by
            refine perm_cnt fun ff gg h0 hc ha hpm => ?_
            have h9 := hpm _ _ hperm
            simp only [ha, hc, h0] at h9 ⊢
            omega)
          exact ⟨inR64.2 (by omega), hnext (ops.length - (k + 1)) _ _ (by omega) ⟨k + 1, z2, y2, x2, s2, _, _, rfl, by omega, by simp, hkb2, D2, hgo, hd2, hn2, hmany2, hl2, H5.takeL⟩⟩
        · rw [hmany] at hne
          exact absurd hcw hne
      · rcases D.res with ⟨hcw2, _⟩ | ⟨hT, _, D2⟩
        · rw [hmany] at hcw2
          exact absurd hcw2 hcw
        · rw [if_neg hcw] at hgo
          have H5 : Hp [] w w7 ((.blk b [.slice z1.pa 12 z1.pc, .slice z1.qa 12 z1.qc, .int .i64 (m : Int)] 46 :: (stL y2 x2 s2 ++ rfL z1 pg1 pin1)) ++ (T ++ [.blk b4 [.slice z2.pa 12 z2.pc, .slice z2.qa 12 z2.qc, .int .i64 (m : Int)] 46, .blk b2 (op12C o) 30])) := H3.perm (by (refine perm_cnt fun ff gg h0 hc ha hpm => ?_; simp only [ha, hc, h0]; omega))
          exact br_ndec (fun h => absurd (trouble190 hT hn1) h) (fun _ => ⟨inR64.2 (by omega), hnext (ops.length - (k + 1)) _ _ (by omega) ⟨k + 1, z1, y2, x2, s2, pg1, pin1, rfl, by omega, by simp, hkb2, D2, hgo, hd2, hn2, hmany2, hl2, H5.takeL⟩⟩)
  · have H2 : Hp [] w w1 (stL y1 x1 s1 ++ (.blk b [.slice z1.pa 12 z1.pc, .slice z1.qa 12 z1.qc, .int .i64 (m : Int)] 46 :: rfL z1 pg1 pin1)) := H.perm (by (refine perm_cnt fun ff gg h0 hc ha hpm => ?_; simp only [ha, hc, h0]; omega))
    clear H
    refine onP_mk rfl ⟨_, ldDisk H2 (by exact ⟨rfl, rfl, rfl, rfl⟩) (List.mem_append_left _ (mem_kb y1 x1 s1)), ?_⟩
    have hsub : Std w1 (dkL x1 s1.d) := by
      have := H2.takeL
      rw [stL] at this
      exact this.drop.drop |>.perm (by rw [← List.append_assoc]; exact List.perm_append_comm) |>.std1
    refine callV (size_spec x1 s1.d I1.dk nData w1 hsub) ?_
    rintro e w2 ⟨rfl, H'⟩
    replace H2 := H2.ext0 H'; clear H'
    have hsz := I1.inv.dd.size
    rw [hl1] at hsz
    refine ⟨_, rfl, br_dec (fun h => by rw [hsz] at h; omega) (fun _ => flag_st H2 false ?_)⟩
    clear H2; intro w3 H
    refine callV (alive_spec w3) ?_
    rintro e w4 ⟨rfl, H'⟩
    replace H := H.ext0 H'; clear H'
    refine ⟨_, rfl, br_true ⟨_, _, _, _, _, _, _, H.ldA (o := 0) (cs := [.slice z1.pa 12 z1.pc, .slice z1.qa 12 z1.qc, .int .i64 (m : Int)]) (by exact ⟨rfl, rfl, rfl, rfl⟩) gaggRP (List.mem_append_right _ (.head _)) rfl rfl, ?_⟩⟩
    have H3 : Hp [] w w4 (stL y1 x1 { s1 with deny := false } ++ rfL z1 pg1 pin1) := (H.perm (by (refine perm_cnt fun ff gg h0 hc ha hpm => ?_; simp only [ha, hc, h0]; omega)) : Hp [] w w4 (.blk b [.slice z1.pa 12 z1.pc, .slice z1.qa 12 z1.qc, .int .i64 (m : Int)] 46 :: (stL y1 x1 { s1 with deny := false } ++ rfL z1 pg1 pin1))).drop
    refine callV (stands_spec (C := 0 + k) (by omega) y1 x1 { s1 with deny := false } (I1.flag false) rfl hn1 z1 m w4 H3.std) ?_
    rintro e w5 ⟨rfl, H'⟩
    exact ⟨_, rfl, rfl, H3.useAll H'⟩

/-! ### what fails -/
set_option maxHeartbeats 8000000 in
theorem framesFails_law (many : Int) (sa : Option Addr) (sc : Nat) (ops : List Op12) (hmx : ops.length ≤ 9223372036854775807) (da : Option Addr) (dc : Nat) (ds : List Int) (hds : ∀ v ∈ ds, v ≤ 9223372036854775807) (w : World) (hs : Cells w sa (scrC ops)) (hd : Cells w da (ints ds)) :
    Calls Try.prog 7 #[.int .i64 many, .slice sa ops.length sc, .slice da ds.length dc] w fun e w' => e = .returned (.bool true) ∧ Hp [] w w' [] := by
  apply framesFails.ok; unfold framesFails.vc
  refine JoinP.mk (fun (q : Bool) w' => (q = false → 4 ≤ many ∧ many ≤ 64 ∧ Few12 ops) ∧ Hp [] w w' []) ?hR ?hX
  case hX =>
    intro J hJ
    have H := Hp.start w
    refine br_dec (fun _ => hJ true w ⟨fun h => (by cases h), H⟩) (fun h4 => br_dec (fun _ => hJ true w ⟨fun h => (by cases h), H⟩) (fun h64 => ?_))
    refine callV (few_spec sa sc ops hmx w hs) ?_
    rintro e w1 ⟨r, rfl, hfew, H'⟩
    exact ⟨_, rfl, br_not (fun _ => hJ true w1 ⟨fun h => (by cases h), H'⟩) (fun hr => hJ _ w1 ⟨fun _ => ⟨by omega, by omega, hfew hr⟩, H'⟩)⟩
  rintro q w1 ⟨hq, H⟩
  refine br_mk (fun _ => ?_) (fun hqf => ?_)
  · refine callV (alive_spec w1) ?_
    rintro e w2 ⟨rfl, K'⟩
    exact ⟨_, rfl, rfl, H.ext0 K'⟩
  obtain ⟨hm4, hm64, hf⟩ := hq hqf
  obtain ⟨m, rfl⟩ : ∃ m : Nat, many = (m : Int) := ⟨many.toNat, by omega⟩
  have hm : 4 ≤ m ∧ m ≤ 64 := by omega
  refine callV (begun_spec m hm w1) ?_
  rintro e w2 ⟨y, x, rfl, hg, hfs, hx, H'⟩
  replace H : Hp [] w w2 (stL y x (stN dk0 m [] false) ++ []) := H.ext H'
  clear H'
  refine ⟨_, rfl, _, eqvK, br_mk (fun h => by cases h) (fun _ => ?_)⟩
  refine callV (qnew_spec m w2) ?_
  rintro e w4 ⟨z, rfl, H'⟩
  have H2 := (H.ext H')
  clear H H'
  have I0 := di0 m hm hg hfs hx
  refine ⟨_, _, _, _, _, _, _, rfl, ?_⟩
  intro b w5 hn
  replace H2 := H2.new (cs := [.slice none 0 0, .slice none 0 0, .int .i64 0]) (by exact ⟨rfl, rfl, rfl, rfl⟩) hn; clear hn
  refine Hp.stA (o := 0) H2 (by exact ⟨rfl, rfl, rfl, rfl⟩) gaggRP (vs := [.slice z.pa 12 z.pc, .slice z.qa 12 z.qc, .int .i64 (m : Int)]) rfl rfl (by simp) (cs' := [.slice z.pa 12 z.pc, .slice z.qa 12 z.qc, .int .i64 (m : Int)]) rfl ?_
  clear H2; intro w6 H
  have hlen := hf.len
  refine LoopP.mk (fun mm (i : Int) w' => ∃ (k : Nat) (z1 : RW) (y1 : GW) (x1 : DW) (s1 : St) (pg1 : Nat → AP) (pin1 : Nat → Nat), mm = ops.length - k ∧ k ≤ ops.length ∧ i = (k : Int) ∧ PlayP (0 + k) y (stN dk0 m [] false) y1 x1 s1 pg1 pin1 ∧ Hp [] w w' (.blk b [.slice z1.pa 12 z1.pc, .slice z1.qa 12 z1.qc, .int .i64 (m : Int)] 46 :: (stL y1 x1 s1 ++ rfL z1 pg1 pin1))) ops.length ⟨0, z, y, x, _, pg0, pin0, rfl, by omega, rfl, ⟨rfl, I0, got0 _ _, rfl, rfl, rfl⟩, H.perm (by (refine perm_cnt fun ff gg h0 hc ha hpm => ?_; simp only [ha, hc, h0]; omega))⟩ ?_
  clear H w1 w2 w4 w5 w6
  rintro mm i w1 next ⟨k, z1, y1, x1, s1, pg1, pin1, rfl, hk, rfl, P1, H⟩ hnext
  have hkb := P1.kb
  have I1 := P1.di
  have hmany : s1.many = m := P1.many
  dsimp only
  rw [← hkb]
  refine br_dec (fun h1 => ?_) (fun h1 => ?_)
  · have hkl : k < ops.length := by omega
    have hsW := hs.chg H.chg (by simp)
    obtain ⟨ad, ha⟩ := hsW.some (scrC_ne hkl)
    have e1 : Int.toNat (k : Int) * 9 = 9 * k := by omega
    have hfew := hf.all _ (List.getElem_mem hkl)
    refine onP_mk ha ⟨⟨by omega, h1⟩, _, _, _, _, _, _, _, _, _, by rw [e1]; exact hsW.ldA gaggO12 ha (scrC_nine hkl) rfl, ?_⟩
    generalize ops[k] = o at hfew ⊢
    intro b2 w2 hn
    replace H := H.new (cs := [.int .i64 0, .int .i64 0, .bool false, .int .i64 0, .int .i64 0, .int .i64 0, .string ⟨#[]⟩, .string ⟨#[]⟩, .int .i64 0]) (by exact ⟨rfl, rfl, rfl, rfl⟩) hn; clear hn
    refine Hp.stA (o := 0) H (by exact ⟨rfl, rfl, rfl, rfl⟩) gaggO12 (vs := op12C o) rfl rfl (by simp) (cs' := op12C o) rfl ?_
    clear H; intro w3 H
    have ldK : ∀ (i : Nat) (v : Int), (op12C o)[i]? = some (.int .i64 v) → Ld Try.prog 3 w3 ⟨b2, i, none⟩ (.int .i64 v) := fun i v hv => H.ld (o := i) (cs := op12C o) (by exact ⟨rfl, rfl, rfl, rfl⟩) gInt (.head _) hv
    have skip : inR .i64 ((k : Int) + 1) ∧ next ((k : Int) + 1) w3 := ⟨inR64.2 (by omega), hnext (ops.length - (k + 1)) _ _ (by omega) ⟨k + 1, z1, y1, x1, s1, pg1, pin1, rfl, by omega, by simp, ⟨P1.kb, I1.up, P1.got, P1.deny, P1.denied, P1.many⟩, H.drop⟩⟩
    obtain ⟨hcq, hnq⟩ := rf_pins (z := z1) (pg := pg1) (pin := pin1) H (.tail _ (.tail _ (List.mem_append_right _ (.tail _ (.head _)))))
    obtain ⟨adq, hadq⟩ := Option.ne_none_iff_exists'.1 hnq
    refine ⟨_, ldK 0 _ rfl, ?_⟩
    refine (fun (kk : (o.kind = 2 → ∀ n : Nat, o.n = (n : Int) → n < 12 → 0 < pin1 n) → _) => br_dec (fun h2 => ⟨_, ldK 1 _ rfl, br_dec (fun h3 => skip) (fun h3 => ⟨_, ldK 1 _ rfl, br_dec (fun h4 => skip) (fun h4 => ?mid)⟩)⟩) (fun h2 => kk (fun h => absurd h h2))) ?cont
    case mid =>
      obtain ⟨n, hon⟩ : ∃ n : Nat, o.n = (n : Int) := ⟨o.n.toNat, by omega⟩
      have hn12 : n < 12 := by omega
      have e2 : Int.toNat (n : Int) * 1 = n := by omega
      refine ⟨_, _, _, H.ld (o := 1) (cs := [.slice z1.pa 12 z1.pc, .slice z1.qa 12 z1.qc, .int .i64 (m : Int)]) (by exact ⟨rfl, rfl, rfl, rfl⟩) gSI (.tail _ (.head _)) rfl, _, ldK 1 _ rfl, ?_⟩
      rw [hon]
      refine onP_mk hadq ⟨⟨by omega, by omega⟩, _, by rw [e2]; exact hcq.ld gInt hadq (pinC_at _ hn12), br_dec (fun h5 => skip) (fun h5 => kk (fun _ n' hn' _ => ?_))⟩
      have : n' = n := by omega
      subst this; omega
    case cont =>
      intro hpn
      clear skip ldK hcq
      have H2 : Hp [] w w3 (stL y1 x1 s1 ++ (.blk b2 (op12C o) 30 :: .blk b [.slice z1.pa 12 z1.pc, .slice z1.qa 12 z1.qc, .int .i64 (m : Int)] 46 :: rfL z1 pg1 pin1)) := H.perm (by (refine perm_cnt fun ff gg h0 hc ha hpm => ?_; simp only [ha, hc, h0]; omega))
      clear H
      refine br_dec (fun hdn => ?deny) (fun hdn => ?nodeny)
      case deny =>
        refine onP_mk rfl ⟨_, ldDisk H2 (by exact ⟨rfl, rfl, rfl, rfl⟩) (List.mem_append_left _ (mem_kb y1 x1 s1)), ?_⟩
        have hdW := hd.chg H2.drew.chg (by simp)
        have hkd : k < ds.length := by omega
        have hat : (ints ds)[k]? = some (.int .i64 ds[k]) := by simp [ints, hkd]
        obtain ⟨add, hadd, _⟩ := hdW _ _ hat
        have e2 : Int.toNat (k : Int) * 1 = k := by omega
        refine onP_mk hadd ⟨⟨by omega, hdn⟩, _, by rw [e2]; exact hdW.ld gInt hadd hat, ?_⟩
        refine deny_any H2.drew I1.dk ds[k] ?_
        intro w4 K
        refine ⟨rfl, ?_⟩
        obtain ⟨v, hv, H⟩ : ∃ v : Int, v ≤ 9223372036854775807 ∧ Hp [] w w4 (stL y1 x1 { s1 with d := s1.d.deny v } ++ (.blk b2 (op12C o) 30 :: .blk b [.slice z1.pa 12 z1.pc, .slice z1.qa 12 z1.qc, .int .i64 (m : Int)] 46 :: rfL z1 pg1 pin1)) := ⟨ds[k], hds _ (List.getElem_mem hkd), K⟩
        clear K H2
        have Iv := I1.denyD hv
        refine ⟨_, _, _, _, _, _, _, H.ldA (o := 0) (cs := [.slice z1.pa 12 z1.pc, .slice z1.qa 12 z1.qc, .int .i64 (m : Int)]) (by exact ⟨rfl, rfl, rfl, rfl⟩) gaggRP (List.mem_append_right _ (.tail _ (.head _))) rfl rfl, _, _, _, _, _, _, _, _, _, H.ldA (o := 0) (cs := op12C o) (by exact ⟨rfl, rfl, rfl, rfl⟩) gaggO12 (List.mem_append_right _ (.head _)) rfl rfl, ?_⟩
        have H2 : Hp [] w w4 (rfL z1 pg1 pin1 ++ (.blk b2 (op12C o) 30 :: .blk b [.slice z1.pa 12 z1.pc, .slice z1.qa 12 z1.qc, .int .i64 (m : Int)] 46 :: stL y1 x1 { s1 with d := s1.d.deny v })) := H.perm (by (refine perm_cnt fun ff gg h0 hc ha hpm => ?_; simp only [ha, hc, h0]; omega))
        clear H
        have hpl : ∀ n, pin1 n ≤ 1000000 := fun n => by have := I1.inv.pin_le n; omega
        refine callV (qdo_pure z1 pg1 pin1 m o I1.rp hpl hfew.stamp.1 w4 H2.std1) ?_
        rintro e w4 ⟨z2, T, G, rfl, H', hperm⟩
        have H3 := H2.useL H'
        clear H2 H'
        refine ⟨_, _, _, _, _, _, _, _, rfl, ?_⟩
        intro b4 w5 hn
        replace H3 := H3.new (cs := [.slice none 0 0, .slice none 0 0, .int .i64 0]) (by exact ⟨rfl, rfl, rfl, rfl⟩) hn; clear hn
        refine Hp.stA (o := 0) H3 (by exact ⟨rfl, rfl, rfl, rfl⟩) gaggRP (vs := [.slice z2.pa 12 z2.pc, .slice z2.qa 12 z2.qc, .int .i64 (m : Int)]) rfl rfl (by simp) (cs' := [.slice z2.pa 12 z2.pc, .slice z2.qa 12 z2.qc, .int .i64 (m : Int)]) rfl ?_
        clear H3; intro w6 H
        have H2 : Hp [] w w6 (stL y1 x1 { s1 with d := s1.d.deny v } ++ (.blk b2 (op12C o) 30 :: .blk b4 [.slice z2.pa 12 z2.pc, .slice z2.qa 12 z2.qc, .int .i64 (m : Int)] 46 :: .blk b [.slice z1.pa 12 z1.pc, .slice z1.qa 12 z1.qc, .int .i64 (m : Int)] 46 :: (rfL z1 pg1 pin1 ++ T))) := H.perm (by (refine perm_cnt fun ff gg h0 hc ha hpm => ?_; simp only [ha, hc, h0]; omega))
        clear H
        refine ⟨_, _, _, _, _, _, _, _, _, H2.ldA (o := 0) (cs := op12C o) (by exact ⟨rfl, rfl, rfl, rfl⟩) gaggO12 (List.mem_append_right _ (.head _)) rfl rfl, ?_⟩
        refine callV (does_spec (C := 0 + k) (by omega) y1 x1 { s1 with d := s1.d.deny v } Iv o hfew (fun h2 n hon hn12 => ⟨hpn h2 n hon hn12, P1.got n hn12 (hpn h2 n hon hn12)⟩) w6 H2.std1) ?_
        rintro e w7 ⟨y2, x2, s2, c, rfl, H', D⟩
        have H3 := H2.useL H'
        clear H2 H'
        have hgo := D.gotOk P1.got Iv
        have hm2 := D.mv
        have hd2 : s2.deny = false := by rw [hm2.deny]; exact P1.deny
        have hmany2 : s2.many = m := by rw [hm2.many]; exact hmany
        have hkb2 := D.kb
        rw [show ({ s1 with d := s1.d.deny v } : St).many = m from hmany] at hgo
        rw [← hkb2]
        have dk2 : x2.Ok s2.d := by
          rcases D.res with ⟨_, D2⟩ | ⟨_, _, D2⟩ <;> exact D2.dk
        refine ⟨_, rfl, onP_mk rfl ⟨_, ldDisk H3 (by exact ⟨rfl, rfl, rfl, rfl⟩) (List.mem_append_left _ (mem_kb y2 x2 s2)), deny_any H3 dk2 0 ?_⟩⟩
        clear H3; intro w8 H3
        refine ⟨rfl, br_dec (fun hcw => ?_) (fun hcw => ?_)⟩
        · rcases D.res with ⟨_, D2⟩ | ⟨_, hne, _⟩
          · rw [if_pos hcw] at hgo
            rw [show ({ s1 with d := s1.d.deny v } : St).many = m from hmany] at D2
            have H4 : Hp [] w w8 (.blk b [.slice z1.pa 12 z1.pc, .slice z1.qa 12 z1.qc, .int .i64 (m : Int)] 46 :: .blk b4 [.slice z2.pa 12 z2.pc, .slice z2.qa 12 z2.qc, .int .i64 (m : Int)] 46 :: (stL y2 x2 { s2 with d := s2.d.deny 0 } ++ (.blk b2 (op12C o) 30 :: (rfL z1 pg1 pin1 ++ T)))) := H3.perm (by (refine perm_cnt fun ff gg h0 hc ha hpm => ?_; simp only [ha, hc, h0]; omega))
            clear H3
            refine ⟨_, _, _, _, _, _, _, H4.ldA (o := 0) (cs := [.slice z2.pa 12 z2.pc, .slice z2.qa 12 z2.qc, .int .i64 (m : Int)]) (by exact ⟨rfl, rfl, rfl, rfl⟩) gaggRP (.tail _ (.head _)) rfl rfl, ?_⟩
            refine Hp.stA (o := 0) H4 (by exact ⟨rfl, rfl, rfl, rfl⟩) gaggRP (vs := [.slice z2.pa 12 z2.pc, .slice z2.qa 12 z2.qc, .int .i64 (m : Int)]) rfl rfl (by simp) (cs' := [.slice z2.pa 12 z2.pc, .slice z2.qa 12 z2.qc, .int .i64 (m : Int)]) rfl ?_
            clear H4; intro w9 H
            have H5 : Hp [] w w9 ((.blk b [.slice z2.pa 12 z2.pc, .slice z2.qa 12 z2.qc, .int .i64 (m : Int)] 46 :: (stL y2 x2 { s2 with d := s2.d.deny 0 } ++ rfL z2 (refDo m pg1 pin1 o).1 (refDo m pg1 pin1 o).2.1)) ++ (G ++ [.blk b4 [.slice z2.pa 12 z2.pc, .slice z2.qa 12 z2.qc, .int .i64 (m : Int)] 46, .blk b2 (op12C o) 30])) := H.perm (by
              refine perm_cnt fun ff gg h0 hc ha hpm => ?_
              have h9 := hpm _ _ hperm
              simp only [ha, hc, h0] at h9 ⊢
              omega)
            exact ⟨inR64.2 (by omega), hnext (ops.length - (k + 1)) _ _ (by omega) ⟨k + 1, z2, y2, x2, { s2 with d := s2.d.deny 0 }, _, _, rfl, by omega, by simp, ⟨hkb2.trans hkb, D2.denyD (by omega), hgo, hd2, rfl, hmany2⟩, H5.takeL⟩⟩
          · exact absurd (by rw [show ({ s1 with d := s1.d.deny v } : St).many = m from hmany]; exact hcw) hne
        · rcases D.res with ⟨hcw2, _⟩ | ⟨hT, _, D2⟩
          · exact absurd (by rw [show ({ s1 with d := s1.d.deny v } : St).many = m from hmany] at hcw2; exact hcw2) hcw
          · rw [if_neg hcw] at hgo
            have H5 : Hp [] w w8 ((.blk b [.slice z1.pa 12 z1.pc, .slice z1.qa 12 z1.qc, .int .i64 (m : Int)] 46 :: (stL y2 x2 { s2 with d := s2.d.deny 0 } ++ rfL z1 pg1 pin1)) ++ (T ++ [.blk b4 [.slice z2.pa 12 z2.pc, .slice z2.qa 12 z2.qc, .int .i64 (m : Int)] 46, .blk b2 (op12C o) 30])) := H3.perm (by (refine perm_cnt fun ff gg h0 hc ha hpm => ?_; simp only [ha, hc, h0]; omega))
            exact br_ndec (fun h => absurd (trouble95 hT P1.deny) h) (fun _ => ⟨inR64.2 (by omega), hnext (ops.length - (k + 1)) _ _ (by omega) ⟨k + 1, z1, y2, x2, { s2 with d := s2.d.deny 0 }, pg1, pin1, rfl, by omega, by simp, ⟨hkb2.trans hkb, D2.denyD (by omega), hgo, hd2, rfl, hmany2⟩, H5.takeL⟩⟩)
      case nodeny =>
        have : ({ s1 with d := s1.d.deny 0 } : St) = s1 := by
          have h0 := P1.denied
          obtain ⟨d, a, b', c', e', f', g'⟩ := s1
          obtain ⟨q1, q2, q3, q4, q5, q6, q7⟩ := d
          simp only [Dk.deny] at h0 ⊢
          rw [h0]; rfl
        obtain ⟨v, hv, H⟩ : ∃ v : Int, v ≤ 9223372036854775807 ∧ Hp [] w w3 (stL y1 x1 { s1 with d := s1.d.deny v } ++ (.blk b2 (op12C o) 30 :: .blk b [.slice z1.pa 12 z1.pc, .slice z1.qa 12 z1.qc, .int .i64 (m : Int)] 46 :: rfL z1 pg1 pin1)) := ⟨0, by omega, by rw [this]; exact H2⟩
        clear H2 this
        have Iv := I1.denyD hv
        refine ⟨_, _, _, _, _, _, _, H.ldA (o := 0) (cs := [.slice z1.pa 12 z1.pc, .slice z1.qa 12 z1.qc, .int .i64 (m : Int)]) (by exact ⟨rfl, rfl, rfl, rfl⟩) gaggRP (List.mem_append_right _ (.tail _ (.head _))) rfl rfl, _, _, _, _, _, _, _, _, _, H.ldA (o := 0) (cs := op12C o) (by exact ⟨rfl, rfl, rfl, rfl⟩) gaggO12 (List.mem_append_right _ (.head _)) rfl rfl, ?_⟩
        have H2 : Hp [] w w3 (rfL z1 pg1 pin1 ++ (.blk b2 (op12C o) 30 :: .blk b [.slice z1.pa 12 z1.pc, .slice z1.qa 12 z1.qc, .int .i64 (m : Int)] 46 :: stL y1 x1 { s1 with d := s1.d.deny v })) := H.perm (by (refine perm_cnt fun ff gg h0 hc ha hpm => ?_; simp only [ha, hc, h0]; omega))
        clear H
        have hpl : ∀ n, pin1 n ≤ 1000000 := fun n => by have := I1.inv.pin_le n; omega
        refine callV (qdo_pure z1 pg1 pin1 m o I1.rp hpl hfew.stamp.1 w3 H2.std1) ?_
        rintro e w4 ⟨z2, T, G, rfl, H', hperm⟩
        have H3 := H2.useL H'
        clear H2 H'
        refine ⟨_, _, _, _, _, _, _, _, rfl, ?_⟩
        intro b4 w5 hn
        replace H3 := H3.new (cs := [.slice none 0 0, .slice none 0 0, .int .i64 0]) (by exact ⟨rfl, rfl, rfl, rfl⟩) hn; clear hn
        refine Hp.stA (o := 0) H3 (by exact ⟨rfl, rfl, rfl, rfl⟩) gaggRP (vs := [.slice z2.pa 12 z2.pc, .slice z2.qa 12 z2.qc, .int .i64 (m : Int)]) rfl rfl (by simp) (cs' := [.slice z2.pa 12 z2.pc, .slice z2.qa 12 z2.qc, .int .i64 (m : Int)]) rfl ?_
        clear H3; intro w6 H
        have H2 : Hp [] w w6 (stL y1 x1 { s1 with d := s1.d.deny v } ++ (.blk b2 (op12C o) 30 :: .blk b4 [.slice z2.pa 12 z2.pc, .slice z2.qa 12 z2.qc, .int .i64 (m : Int)] 46 :: .blk b [.slice z1.pa 12 z1.pc, .slice z1.qa 12 z1.qc, .int .i64 (m : Int)] 46 :: (rfL z1 pg1 pin1 ++ T))) := H.perm (by (refine perm_cnt fun ff gg h0 hc ha hpm => ?_; simp only [ha, hc, h0]; omega))
        clear H
        refine ⟨_, _, _, _, _, _, _, _, _, H2.ldA (o := 0) (cs := op12C o) (by exact ⟨rfl, rfl, rfl, rfl⟩) gaggO12 (List.mem_append_right _ (.head _)) rfl rfl, ?_⟩
        refine callV (does_spec (C := 0 + k) (by omega) y1 x1 { s1 with d := s1.d.deny v } Iv o hfew (fun h2 n hon hn12 => ⟨hpn h2 n hon hn12, P1.got n hn12 (hpn h2 n hon hn12)⟩) w6 H2.std1) ?_
        rintro e w7 ⟨y2, x2, s2, c, rfl, H', D⟩
        have H3 := H2.useL H'
        clear H2 H'
        have hgo := D.gotOk P1.got Iv
        have hm2 := D.mv
        have hd2 : s2.deny = false := by rw [hm2.deny]; exact P1.deny
        have hmany2 : s2.many = m := by rw [hm2.many]; exact hmany
        have hkb2 := D.kb
        rw [show ({ s1 with d := s1.d.deny v } : St).many = m from hmany] at hgo
        rw [← hkb2]
        have dk2 : x2.Ok s2.d := by
          rcases D.res with ⟨_, D2⟩ | ⟨_, _, D2⟩ <;> exact D2.dk
        refine ⟨_, rfl, onP_mk rfl ⟨_, ldDisk H3 (by exact ⟨rfl, rfl, rfl, rfl⟩) (List.mem_append_left _ (mem_kb y2 x2 s2)), deny_any H3 dk2 0 ?_⟩⟩
        clear H3; intro w8 H3
        refine ⟨rfl, br_dec (fun hcw => ?_) (fun hcw => ?_)⟩
        · rcases D.res with ⟨_, D2⟩ | ⟨_, hne, _⟩
          · rw [if_pos hcw] at hgo
            rw [show ({ s1 with d := s1.d.deny v } : St).many = m from hmany] at D2
            have H4 : Hp [] w w8 (.blk b [.slice z1.pa 12 z1.pc, .slice z1.qa 12 z1.qc, .int .i64 (m : Int)] 46 :: .blk b4 [.slice z2.pa 12 z2.pc, .slice z2.qa 12 z2.qc, .int .i64 (m : Int)] 46 :: (stL y2 x2 { s2 with d := s2.d.deny 0 } ++ (.blk b2 (op12C o) 30 :: (rfL z1 pg1 pin1 ++ T)))) := H3.perm (by (refine perm_cnt fun ff gg h0 hc ha hpm => ?_; simp only [ha, hc, h0]; omega))
            clear H3
            refine ⟨_, _, _, _, _, _, _, H4.ldA (o := 0) (cs := [.slice z2.pa 12 z2.pc, .slice z2.qa 12 z2.qc, .int .i64 (m : Int)]) (by exact ⟨rfl, rfl, rfl, rfl⟩) gaggRP (.tail _ (.head _)) rfl rfl, ?_⟩
            refine Hp.stA (o := 0) H4 (by exact ⟨rfl, rfl, rfl, rfl⟩) gaggRP (vs := [.slice z2.pa 12 z2.pc, .slice z2.qa 12 z2.qc, .int .i64 (m : Int)]) rfl rfl (by simp) (cs' := [.slice z2.pa 12 z2.pc, .slice z2.qa 12 z2.qc, .int .i64 (m : Int)]) rfl ?_
            clear H4; intro w9 H
            have H5 : Hp [] w w9 ((.blk b [.slice z2.pa 12 z2.pc, .slice z2.qa 12 z2.qc, .int .i64 (m : Int)] 46 :: (stL y2 x2 { s2 with d := s2.d.deny 0 } ++ rfL z2 (refDo m pg1 pin1 o).1 (refDo m pg1 pin1 o).2.1)) ++ (G ++ [.blk b4 [.slice z2.pa 12 z2.pc, .slice z2.qa 12 z2.qc, .int .i64 (m : Int)] 46, .blk b2 (op12C o) 30])) := H.perm (by
              refine perm_cnt fun ff gg h0 hc ha hpm => ?_
              have h9 := hpm _ _ hperm
              simp only [ha, hc, h0] at h9 ⊢
              omega)
            exact ⟨inR64.2 (by omega), hnext (ops.length - (k + 1)) _ _ (by omega) ⟨k + 1, z2, y2, x2, { s2 with d := s2.d.deny 0 }, _, _, rfl, by omega, by simp, ⟨hkb2.trans hkb, D2.denyD (by omega), hgo, hd2, rfl, hmany2⟩, H5.takeL⟩⟩
          · exact absurd (by rw [show ({ s1 with d := s1.d.deny v } : St).many = m from hmany]; exact hcw) hne
        · rcases D.res with ⟨hcw2, _⟩ | ⟨hT, _, D2⟩
          · exact absurd (by rw [show ({ s1 with d := s1.d.deny v } : St).many = m from hmany] at hcw2; exact hcw2) hcw
          · rw [if_neg hcw] at hgo
            have H5 : Hp [] w w8 ((.blk b [.slice z1.pa 12 z1.pc, .slice z1.qa 12 z1.qc, .int .i64 (m : Int)] 46 :: (stL y2 x2 { s2 with d := s2.d.deny 0 } ++ rfL z1 pg1 pin1)) ++ (T ++ [.blk b4 [.slice z2.pa 12 z2.pc, .slice z2.qa 12 z2.qc, .int .i64 (m : Int)] 46, .blk b2 (op12C o) 30])) := H3.perm (by (refine perm_cnt fun ff gg h0 hc ha hpm => ?_; simp only [ha, hc, h0]; omega))
            exact br_ndec (fun h => absurd (trouble95 hT P1.deny) h) (fun _ => ⟨inR64.2 (by omega), hnext (ops.length - (k + 1)) _ _ (by omega) ⟨k + 1, z1, y2, x2, { s2 with d := s2.d.deny 0 }, pg1, pin1, rfl, by omega, by simp, ⟨hkb2.trans hkb, D2.denyD (by omega), hgo, hd2, rfl, hmany2⟩, H5.takeL⟩⟩)
  · refine callV (alive_spec w1) ?_
    rintro e w4 ⟨rfl, H'⟩
    replace H := H.ext0 H'; clear H'
    refine ⟨_, rfl, br_true ⟨_, _, _, _, _, _, _, H.ldA (o := 0) (cs := [.slice z1.pa 12 z1.pc, .slice z1.qa 12 z1.qc, .int .i64 (m : Int)]) (by exact ⟨rfl, rfl, rfl, rfl⟩) gaggRP (.head _) rfl rfl, ?_⟩⟩
    refine callV (stands_spec (C := 0 + k) (by omega) y1 x1 s1 I1 P1.deny P1.denied z1 m w4 H.drop.std) ?_
    rintro e w5 ⟨rfl, H'⟩
    exact ⟨_, rfl, rfl, H.drop.useAll H'⟩
end Go.Proofs.Ytiagjabdfppgkaa
