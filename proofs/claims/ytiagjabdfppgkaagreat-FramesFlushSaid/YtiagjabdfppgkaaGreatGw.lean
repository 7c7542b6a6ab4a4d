/- Frames: the law of a Flush, and of any crash behind it. -/
import Derived.Test.YtiagjabdfppgkaaGreatGl
set_option linter.unusedVariables false
set_option linter.unusedSimpArgs false
set_option maxRecDepth 100000
namespace Go.Proofs.YtiagjabdfppgkaaGreat
open Go Go.Vc Go.Vault

theorem DD.syncNames {d : Dk} (h : DD d) : d.syncNames = ({ d with firm := d.names, chs := [] }, 0) := by
  have e : d.dies = d := by
    unfold Dk.dies
    rw [if_neg (by rw [h.armed]; omega)]
  unfold Dk.syncNames
  rw [if_neg (by rw [h.dead]; simp)]
  simp only [e]
  rw [if_neg (by rw [h.dead]; simp)]
theorem DD.named {d : Dk} (h : DD d) : DD { d with firm := d.names, chs := [] } := by
  have hn := h.names
  exact ⟨⟨h.ok.room, h.ok.files, fun p hp => h.ok.nms p hp, by simp, h.ok.names, h.ok.armed, h.ok.denied⟩, h.dead, h.armed, h.room, h.one, .inr ⟨hn, rfl⟩⟩
/-- what any crash leaves where all lasts -/
theorem DD.crash {d : Dk} (h : DD d) (hf : d.firm = [⟨nData, 0⟩] ∧ d.chs = []) (h1 : (d.file 0).firm = (d.file 0).now) (h2 : (d.file 0).since = []) (ps : List Int) : DD (d.crash 0 ps) ∧ (d.crash 0 ps).len 0 = d.len 0 ∧ ∀ n, pageB (d.crash 0 ps) 0 n = pageB d 0 n := by
  have hff := h.files
  have e1 : (d.file 0).found ps = ⟨(d.file 0).now, (d.file 0).now, []⟩ := by
    simp only [Fl.found, h2, foundL, h1]
  have e2 : d.crash 0 ps = ⟨d.room, [⟨(d.file 0).now, (d.file 0).now, []⟩], [⟨nData, 0⟩], [], 0, 0, false⟩ := by
    unfold Dk.crash
    rw [hff, foundF, e1, foundF, hf.1, hf.2]
    rfl
  have e3 : (d.crash 0 ps).file 0 = ⟨(d.file 0).now, (d.file 0).now, []⟩ := by rw [e2]; rfl
  have hok : Fl.Ok ⟨(d.file 0).now, (d.file 0).now, []⟩ := ⟨h.fok.now, h.fok.now, by simp, by simp, Nat.le_refl _⟩
  refine ⟨?_, by rw [Dk.len, e3]; rfl, fun n => pageB_same fun t _ => by rw [secAt, e3]; rfl⟩
  rw [e2]
  refine ⟨⟨h.ok.room, fun f hf => ?_, fun p hp => ?_, by simp, by simp [Rising], by show (0 : Int) ≤ _; omega, by show (0 : Int) ≤ _; omega⟩, rfl, rfl, h.room, rfl, .inr ⟨rfl, rfl⟩⟩
  · rw [List.mem_singleton.1 hf]; exact hok
  · rw [List.mem_singleton.1 hp]; exact ⟨by show 0 < 1; omega, by decide⟩
theorem pins_made {z : RW} {B : List Nat} {w0 w : World} {L : List Asn} (pg : Nat → AP) (pin : Nat → Nat) {a : Option Addr} (H : Hp B w0 w (.own 3 1 a 12 12 (pinC pin0) :: (rfL z pg pin ++ L))) : Hp B w0 w (rfL { z with qa := a, qc := 12 } pg pin0 ++ (rfQ z pin :: L)) := by
  refine H.perm ?_
  rw [rfL, rfL]
  show List.Perm (rfQ { z with qa := a, qc := 12 } pin0 :: (rfP z pg :: rfQ z pin :: (List.range 12).map (recF z.rs pg) ++ L)) (rfP z pg :: rfQ { z with qa := a, qc := 12 } pin0 :: (List.range 12).map (recF z.rs pg) ++ (rfQ z pin :: L))
  (refine perm_cnt fun ff gg h0 hc ha hpm => ?_; simp only [ha, hc, h0]; omega)
set_option maxHeartbeats 4000000 in
theorem framesFlush_law (many : Int) (sa : Option Addr) (sc : Nat) (ops : List Op12) (hmx : ops.length ≤ 9223372036854775807) (pa : Option Addr) (pc : Nat) (ps : List Int) (hpl : ps.length ≤ pc) (w : World) (hs : Cells w sa (scrC ops)) (hp : Cells w pa (ints ps)) :
    Calls Tryz.prog 3 #[.int .i64 many, .slice sa ops.length sc, .slice pa ps.length pc] w fun e w' => e = .returned (.bool true) ∧ Hp [] w w' [] := by
  apply framesFlush.ok; unfold framesFlush.vc
  refine JoinP.mk (fun (q : Bool) w' => (q = false → 4 ≤ many ∧ many ≤ 64 ∧ Few12 ops) ∧ Hp [] w w' []) ?hR ?hX
  case hX =>
    intro J hJ
    have H := Hp.start w
    refine br_dec (fun _ => hJ true w ⟨fun h => (by cases h), H⟩) (fun h4 => br_dec (fun _ => hJ true w ⟨fun h => (by cases h), H⟩) (fun h64 => ?_))
    refine callV (few_spec sa sc ops hmx w hs) ?_
    rintro e w1 ⟨r, rfl, hfew, H'⟩
    exact ⟨_, rfl, br_not (fun _ => hJ true w1 ⟨fun h => (by cases h), H'⟩) (fun hr => hJ _ w1 ⟨fun _ => ⟨by omega, by omega, hfew hr⟩, H'⟩)⟩
  rintro q w1 ⟨hq, H⟩
  refine br_mk (fun _ => ?_) (fun hqf => ?_)
  · refine callV (alive_spec w1) ?_
    rintro e w2 ⟨rfl, K'⟩
    exact ⟨_, rfl, rfl, H.ext0 K'⟩
  obtain ⟨hm4, hm64, hf⟩ := hq hqf
  obtain ⟨m, rfl⟩ : ∃ m : Nat, many = (m : Int) := ⟨many.toNat, by omega⟩
  have hm : 4 ≤ m ∧ m ≤ 64 := by omega
  refine callV (begun_spec m hm w1) ?_
  rintro e w2 ⟨y, x, rfl, hg, hfs, hx, H'⟩
  replace H : Hp [] w w2 (stL y x (stN dk0 m [] false)) := (H.ext H').takeL; clear H'
  refine ⟨_, rfl, _, eqvK, br_mk (fun h => by cases h) (fun _ => ?_)⟩
  refine callV (qnew_spec m w2) ?_
  rintro e w3 ⟨z, rfl, H'⟩
  have H2 : Hp [] w w3 (stL y x (stN dk0 m [] false) ++ rfL z pg0 pin0) := (H.ext H').perm List.perm_append_comm
  clear H H'
  refine ⟨_, _, _, _, _, _, _, rfl, ?_⟩
  have I0 := di0 m hm hg hfs hx
  refine callV (plays_spec (C := 0) (by omega) y x (stN dk0 m [] false) I0 (got0 _ _) rfl rfl z sa sc ops hf w3 H2.std (fun W hW => by
    have K := H2.useAll (M := []) ⟨hW, by simp, by simp, .nil⟩
    exact hs.chg K.chg (by simp))) ?_
  rintro e w4 ⟨z1, y1, x1, s1, pg1, pin1, rfl, P, H'⟩
  have H3 := H2.useAll H'
  clear H2 H'
  refine ⟨_, _, _, _, _, _, _, _, rfl, ?_⟩
  intro b1 w5 hn
  replace H3 := H3.new (cs := [.slice none 0 0, .slice none 0 0, .int .i64 0]) (by exact ⟨rfl, rfl, rfl, rfl⟩) hn; clear hn
  refine Hp.stA (o := 0) H3 (by exact ⟨rfl, rfl, rfl, rfl⟩) gaggRP (vs := [.slice z1.pa 12 z1.pc, .slice z1.qa 12 z1.qc, .int .i64 (m : Int)]) rfl rfl (by simp) (cs' := [.slice z1.pa 12 z1.pc, .slice z1.qa 12 z1.qc, .int .i64 (m : Int)]) rfl ?_
  clear H3; intro w6 H
  have ekb := P.kb
  have I1 : DI 200 y1 x1 s1 pg1 pin1 := by have := P.di; rw [Nat.zero_add] at this; exact this
  rw [← ekb]
  refine br_not (fun h => by cases h) (fun _ => onP_mk rfl ⟨_, ldPool H (by exact ⟨rfl, rfl, rfl, rfl⟩) (.tail _ (List.mem_append_left _ (mem_kb y1 x1 s1))), ?_⟩)
  have H2 : Hp [] w w6 (stL y1 x1 s1 ++ (.blk b1 [.slice z1.pa 12 z1.pc, .slice z1.qa 12 z1.qc, .int .i64 (m : Int)] 30 :: rfL z1 pg1 pin1)) := H.perm (by (refine perm_cnt fun ff gg h0 hc ha hpm => ?_; simp only [ha, hc, h0]; omega))
  clear H
  refine callV (fflush_spec (C := 200) (by omega) y1 x1 s1 I1.inv I1.dk I1.len I1.got w6 H2.std1) ?_
  rintro e w7 ⟨y2, x2, s2, c, hd2, H', rfl, hpg2, I2, hres⟩
  have H3 := H2.useL H'
  clear H2 H'
  have ekb2 := hd2.seat.kb
  have hg2 : y2.got.length = 12 := by rw [hd2.seat.got]; exact I1.got
  rw [← ekb2]
  have hmk : ∀ {L : List Asn}, Asn.blk y2.kb (deskC y2 x2 s2) 40 ∈ stL y2 x2 s2 ++ L := List.mem_append_left _ (mem_kb y2 x2 s2)
  rcases hres with ⟨rfl, hpin⟩ | ⟨rfl, hpin, hcl, _, _⟩ | ⟨_, hT⟩
  · -- one is pinned: so it is told again
    refine ⟨_, rfl, br_ndec (fun _ => ?_) (fun h => by cases h)⟩
    refine callV (alive_spec w7) ?_
    rintro e w8 ⟨rfl, H'⟩
    replace H3 := H3.ext0 H'; clear H'
    refine ⟨_, rfl, br_true (onP_mk rfl ⟨_, ldPool H3 (by exact ⟨rfl, rfl, rfl, rfl⟩) hmk, ?_⟩)⟩
    refine callV (fflush_spec (C := 201) (by omega) y2 x2 s2 I2 hd2.dk hd2.len hg2 w8 H3.std1) ?_
    rintro e w9 ⟨y3, x3, s3, c, hd3, H', rfl, _, _, hres⟩
    refine ⟨_, rfl, ?_, (H3.useL H').done⟩
    rcases hres with ⟨rfl, _⟩ | ⟨_, h, _⟩ | ⟨h, _⟩
    · rfl
    · omega
    · omega
  · have hpin0 : ∀ n, pin1 n = 0 := fun n => by
      by_cases hx : ∀ f ∈ s2.fs, f.n ≠ n
      · exact I2.core.free n hx
      · apply Classical.byContradiction
        intro hne
        exact hx fun f hf e => hne (by rw [← e, ← I2.pin hf]; exact (hcl.clean f hf).2)
    refine ⟨_, rfl, br_ndec (fun h => absurd rfl h) (fun _ => ?_)⟩
    have dd2 := I2.dd
    have hsn := dd2.syncNames
    refine JoinP.mk (fun (q : Bool) w' => q = false ∧ ∃ x3 : DW, x3.b = x2.b ∧ x3.Ok { s2.d with firm := s2.d.names, chs := [] } ∧ Hp [] w w' (stL y2 x3 { s2 with d := { s2.d with firm := s2.d.names, chs := [] } } ++ (.blk b1 [.slice z1.pa 12 z1.pc, .slice z1.qa 12 z1.qc, .int .i64 (m : Int)] 30 :: rfL z1 pg1 pin1))) ?hR3 ?hX3
    case hX3 =>
      intro J hJ
      refine onP_mk rfl ⟨_, H3.ld (o := 0) (cs := deskC y2 x2 s2) (by exact ⟨rfl, rfl, rfl, rfl⟩) gPD hmk rfl, ?_⟩
      have H4 : Hp [] w w7 (dkL x2 s2.d ++ (poolA y2 x2 s2 :: fsA y2 s2 :: (deskL y2 x2 s2 ++ (frsL y2.fs s2.fs ++ (.blk b1 [.slice z1.pa 12 z1.pc, .slice z1.qa 12 z1.qc, .int .i64 (m : Int)] 30 :: rfL z1 pg1 pin1))))) := H3.perm (by rw [stL]; (refine perm_cnt fun ff gg h0 hc ha hpm => ?_; simp only [ha, hc, h0]; omega))
      clear H3
      refine callV (syncNames_spec x2 s2.d hd2.dk w7 H4.std1) ?_
      rw [hsn]
      rintro e w8 ⟨rfl, x3, hx3b, hx3, H'⟩
      have H5 := H4.useL H'
      clear H4 H'
      have H6 : Hp [] w w8 (stL y2 x3 { s2 with d := { s2.d with firm := s2.d.names, chs := [] } } ++ (.blk b1 [.slice z1.pa 12 z1.pc, .slice z1.qa 12 z1.qc, .int .i64 (m : Int)] 30 :: rfL z1 pg1 pin1)) := by
        refine H5.perm ?_
        have e1 : poolA y2 x3 { s2 with d := { s2.d with firm := s2.d.names, chs := [] } } = poolA y2 x2 s2 := by simp [poolA, poolC, hx3b]
        have e2 : deskL y2 x3 { s2 with d := { s2.d with firm := s2.d.names, chs := [] } } = deskL y2 x2 s2 := by simp [deskL, deskC, hx3b]
        rw [stL, e1, e2]
        show List.Perm (dkL x3 { s2.d with firm := s2.d.names, chs := [] } ++ (poolA y2 x2 s2 :: fsA y2 s2 :: (deskL y2 x2 s2 ++ (frsL y2.fs s2.fs ++ (.blk b1 [.slice z1.pa 12 z1.pc, .slice z1.qa 12 z1.qc, .int .i64 (m : Int)] 30 :: rfL z1 pg1 pin1))))) (poolA y2 x2 s2 :: fsA y2 s2 :: (deskL y2 x2 s2 ++ (frsL y2.fs s2.fs ++ dkL x3 { s2.d with firm := s2.d.names, chs := [] })) ++ (.blk b1 [.slice z1.pa 12 z1.pc, .slice z1.qa 12 z1.qc, .int .i64 (m : Int)] 30 :: rfL z1 pg1 pin1))
        (refine perm_cnt fun ff gg h0 hc ha hpm => ?_; simp only [ha, hc, h0]; omega)
      clear H5
      refine ⟨_, rfl, br_ndec (fun h => absurd rfl h) (fun _ => onP_mk rfl ⟨_, ldPool H6 (by exact ⟨rfl, rfl, rfl, rfl⟩) (List.mem_append_left _ (mem_kb y2 x3 _)), ?_⟩)⟩
      have ok3 : StOk y2 x3 { s2 with d := { s2.d with firm := s2.d.names, chs := [] } } := by
        have := I2.stOk (by omega) hd2.dk hd2.len hg2
        exact ⟨this.fs, this.got, hx3, this.len, this.num, this.pins, this.asked, this.hand, this.pages, this.many⟩
      refine callV (dirty_spec y2 x3 _ ok3 w8 H6.std1) ?_
      rintro e w9 ⟨a9, c9, rfl, H'⟩
      have H7 := H6.chg0 H'.chg
      clear H6 H'
      have hn0 : (nums isDirty s2.fs).length = 0 := by
        have : s2.fs.filter isDirty = [] := List.filter_eq_nil_iff.2 fun f hf => by simp [isDirty, (hcl.clean f hf).1]
        rw [nums, this]; rfl
      refine ⟨_, _, _, rfl, hJ _ w9 ⟨?_, x3, hx3b, hx3, H7⟩⟩
      show decide ((0 : Int) < ((nums isDirty s2.fs).length : Int)) = false
      rw [hn0]; rfl
    clear H3 w7
    rintro q w7 ⟨rfl, x3, hx3b, hx3, H3⟩
    obtain ⟨d3, hd3⟩ : ∃ d3 : Dk, d3 = { s2.d with firm := s2.d.names, chs := [] } := ⟨_, rfl⟩
    have dd3 : DD d3 := by rw [hd3]; exact dd2.named
    rw [← hd3] at hx3 H3
    have hfirm : d3.firm = [⟨nData, 0⟩] ∧ d3.chs = [] := by rw [hd3]; exact ⟨dd2.names, rfl⟩
    have hfile : d3.file 0 = s2.d.file 0 := by rw [hd3]; rfl
    have hpB3 : ∀ n, pageB d3 0 n = pageB s2.d 0 n := fun n => by rw [hd3]; rfl
    have hlen3 : d3.len 0 = s2.d.len 0 := by rw [hd3]; rfl
    obtain ⟨dd4, hlen4, hpB4⟩ := dd3.crash hfirm (by rw [hfile]; exact hcl.firm) (by rw [hfile]; exact hcl.since) ps
    have hlenle := I2.len
    have hpgle := I2.pages
    refine br_false (onP_mk rfl ⟨_, H3.ld (o := 0) (cs := deskC y2 x3 { s2 with d := d3 }) (by exact ⟨rfl, rfl, rfl, rfl⟩) gPD (List.mem_append_left _ (mem_kb y2 x3 _)) rfl, ?_⟩)
    have H4 : Hp [] w w7 (dkL x3 d3 ++ (.blk y2.kb (deskC y2 x3 { s2 with d := d3 }) 40 :: .blk y2.kv [.pointer (some ⟨y2.kb, 0, none⟩)] 26 :: .own 3 1 y2.aa s2.asked.length y2.ac (Sl.intC s2.asked) :: poolA y2 x3 { s2 with d := d3 } :: fsA y2 s2 :: (frsL y2.fs s2.fs ++ (.blk b1 [.slice z1.pa 12 z1.pc, .slice z1.qa 12 z1.qc, .int .i64 (m : Int)] 30 :: rfL z1 pg1 pin1)))) := H3.perm (by
      rw [stL, deskL]
      show List.Perm (poolA y2 x3 { s2 with d := d3 } :: fsA y2 s2 :: ([.blk y2.kb (deskC y2 x3 { s2 with d := d3 }) 40, .blk y2.kv [.pointer (some ⟨y2.kb, 0, none⟩)] 26, .own 3 1 y2.aa s2.asked.length y2.ac (Sl.intC s2.asked)] ++ (frsL y2.fs s2.fs ++ dkL x3 d3)) ++ (.blk b1 [.slice z1.pa 12 z1.pc, .slice z1.qa 12 z1.qc, .int .i64 (m : Int)] 30 :: rfL z1 pg1 pin1)) _
      (refine perm_cnt fun ff gg h0 hc ha hpm => ?_; simp only [ha, hc, h0]; omega))
    clear H3
    have hKst : ∀ W, Chg (feet (dkL x3 d3)) w7 W → Cells W pa (ints ps) := fun W hW => by
      have K := H4.useL (M := []) ⟨hW, by simp, by simp, .nil⟩
      exact hp.chg K.chg (by simp)
    refine callV (crash_spec x3 d3 hx3 (dd3.fit (N := 1000) (by omega) (by omega)).few (by omega) 0 pa pc ps w7 H4.std1 hKst hpl) ?_
    rintro e w8 ⟨x4, rfl, hx4, H'⟩
    have H5 := H4.useL H'
    clear H4 H' hKst
    have H6 : Hp [] w w8 (.blk y2.kb (deskC y2 x3 { s2 with d := d3 }) 40 :: (dkL x4 (d3.crash 0 ps) ++ (.own 3 1 y2.aa s2.asked.length y2.ac (Sl.intC s2.asked) :: .blk b1 [.slice z1.pa 12 z1.pc, .slice z1.qa 12 z1.qc, .int .i64 (m : Int)] 30 :: (rfL z1 pg1 pin1 ++ (dkL x3 d3 ++ (.blk y2.kv [.pointer (some ⟨y2.kb, 0, none⟩)] 26 :: poolA y2 x3 { s2 with d := d3 } :: fsA y2 s2 :: frsL y2.fs s2.fs)))))) := H5.perm (by (refine perm_cnt fun ff gg h0 hc ha hpm => ?_; simp only [ha, hc, h0]; omega))
    clear H5
    refine ⟨_, rfl, onP_mk rfl (Hp.st (o := 0) H6 (by exact ⟨rfl, rfl, rfl, rfl⟩) gPD rfl rfl (by simp [deskC]) (cs' := [.pointer (some ⟨x4.b, 0, none⟩), .pointer (some ⟨y2.pb, 0, none⟩), .slice y2.aa s2.asked.length y2.ac, .bool s2.deny] ++ y2.got.map .pointer) (by simp [deskC]) ?_)⟩
    clear H6; intro w9 H7
    have H8 : Hp [] w w9 (deskN y2.kb x4 (d3.crash 0 ps) (some ⟨y2.pb, 0, none⟩) y2.aa y2.ac s2.asked s2.deny y2.got ++ (.blk b1 [.slice z1.pa 12 z1.pc, .slice z1.qa 12 z1.qc, .int .i64 (m : Int)] 30 :: (rfL z1 pg1 pin1 ++ (dkL x3 d3 ++ (.blk y2.kv [.pointer (some ⟨y2.kb, 0, none⟩)] 26 :: poolA y2 x3 { s2 with d := d3 } :: fsA y2 s2 :: frsL y2.fs s2.fs))))) := H7.perm (by rw [deskN]; (refine perm_cnt fun ff gg h0 hc ha hpm => ?_; simp only [ha, hc, h0]; omega))
    clear H7
    refine JoinP.mk (fun (q : Bool) w' => q = false ∧ ∃ (y5 : GW) (x5 : DW), y5.kb = y2.kb ∧ y5.got = List.replicate 12 none ∧ y5.fs = [] ∧ x5.Ok (d3.crash 0 ps) ∧ Hp [] w w' (stL y5 x5 (stN (d3.crash 0 ps) m s2.asked s2.deny) ++ (.blk b1 [.slice z1.pa 12 z1.pc, .slice z1.qa 12 z1.qc, .int .i64 (m : Int)] 30 :: (rfL z1 pg1 pin1 ++ (dkL x3 d3 ++ (.blk y2.kv [.pointer (some ⟨y2.kb, 0, none⟩)] 26 :: poolA y2 x3 { s2 with d := d3 } :: fsA y2 s2 :: frsL y2.fs s2.fs)))))) ?hR2 ?hX2
    case hX2 =>
      intro J hJ
      refine onP_mk rfl ⟨_, H8.ld (o := 0) (cs := [.pointer (some ⟨x4.b, 0, none⟩), .pointer (some ⟨y2.pb, 0, none⟩), .slice y2.aa s2.asked.length y2.ac, .bool s2.deny] ++ y2.got.map .pointer) (by exact ⟨rfl, rfl, rfl, rfl⟩) gPD (List.mem_append_left _ (.head _)) rfl, _, eqvD, br_mk (fun h => by cases h) (fun _ => ?_)⟩
      refine callV (dopen_spec y2.kb x4 (d3.crash 0 ps) (d3.crash 0 ps) hx4 (.inr ⟨dd4, by omega, rfl⟩) (some ⟨y2.pb, 0, none⟩) y2.aa y2.ac s2.asked s2.deny y2.got hg2 m hm w9 H8.std1) ?_
      rintro e w10 ⟨rfl, y5, x5, hk5, hg5, hf5, hb5, hx5, H'⟩
      exact ⟨_, rfl, _, eqvK, hJ _ w10 ⟨rfl, y5, x5, hk5, hg5, hf5, hx5, H8.useL H'⟩⟩
    clear H8 w8 w9
    rintro q w8 ⟨rfl, y5, x5, hk5, hg5, hf5, hx5, H⟩
    refine br_false ?_
    refine Hp.mkS geltI H (by exact ⟨rfl, rfl, rfl, rfl⟩) (by omega) (by simp only [maxLen]; omega) (by omega) gzInt ?_
    clear H; intro a9 w9 H
    rw [made_int] at H
    have H2 : Hp [] w w9 (.blk b1 [.slice z1.pa 12 z1.pc, .slice z1.qa 12 z1.qc, .int .i64 (m : Int)] 30 :: (stL y5 x5 (stN (d3.crash 0 ps) m s2.asked s2.deny) ++ (.own 3 1 a9 12 12 (pinC pin0) :: (rfL z1 pg1 pin1 ++ (dkL x3 d3 ++ (.blk y2.kv [.pointer (some ⟨y2.kb, 0, none⟩)] 26 :: poolA y2 x3 { s2 with d := d3 } :: fsA y2 s2 :: frsL y2.fs s2.fs)))))) := H.perm (by
      show List.Perm (Asn.own 3 1 a9 12 12 (pinC pin0) :: _) _
      (refine perm_cnt fun ff gg h0 hc ha hpm => ?_; simp only [ha, hc, h0]; omega))
    clear H
    refine Hp.st (o := 1) H2 (by exact ⟨rfl, rfl, rfl, rfl⟩) gSI rfl rfl (by simp) (cs' := [.slice z1.pa 12 z1.pc, .slice a9 12 12, .int .i64 (m : Int)]) rfl ?_
    clear H2; intro w10 H
    refine callV (alive_spec w10) ?_
    rintro e w11 ⟨rfl, H'⟩
    replace H := H.ext0 H'; clear H'
    refine ⟨_, rfl, br_true ⟨_, _, _, _, _, _, _, H.ldA (o := 0) (cs := [.slice z1.pa 12 z1.pc, .slice a9 12 12, .int .i64 (m : Int)]) (by exact ⟨rfl, rfl, rfl, rfl⟩) gaggRP (.head _) rfl rfl, ?_⟩⟩
    rw [← hk5]
    have hd : s2.deny = false := by rw [hd2.mv.deny]; exact P.deny
    have I5 : DI 201 y5 x5 (stN (d3.crash 0 ps) m s2.asked s2.deny) pg1 pin0 := by
      refine ⟨⟨⟨by simp [stN], by simp [stN], by simp [stN], fun _ _ => rfl, fun n _ => ?_⟩, dd4, ?_, by simp [stN], ?_, hm, by simp [stN], .inl rfl, by simp [stN], I2.ca⟩, hx5, by rw [hf5]; rfl, by rw [hg5]; simp, I1.good⟩
      · obtain ⟨g, q1, q2⟩ := I2.core.file n fun f hf _ => hcl.clean f hf
        exact ⟨g, q1, by show pageB (d3.crash 0 ps) 0 n = _; rw [hpB4, hpB3]; exact q2⟩
      · show (d3.crash 0 ps).len 0 ≤ 8 * (((d3.crash 0 ps).len 0 + 7) / 8)
        omega
      · show ((d3.crash 0 ps).len 0 + 7) / 8 ≤ 12
        omega
    have H3 : Hp [] w w11 (stL y5 x5 (stN (d3.crash 0 ps) m s2.asked s2.deny) ++ rfL { z1 with qa := a9, qc := 12 } pg1 pin0) := by
      have K := pins_made pg1 pin1 (z := z1) (a := a9) (L := stL y5 x5 (stN (d3.crash 0 ps) m s2.asked s2.deny) ++ (dkL x3 d3 ++ (.blk y2.kv [.pointer (some ⟨y2.kb, 0, none⟩)] 26 :: poolA y2 x3 { s2 with d := d3 } :: fsA y2 s2 :: frsL y2.fs s2.fs))) (H.drop.perm (by (refine perm_cnt fun ff gg h0 hc ha hpm => ?_; simp only [ha, hc, h0]; omega)))
      exact (K.perm (by (refine perm_cnt fun ff gg h0 hc ha hpm => ?_; simp only [ha, hc, h0]; omega)) : Hp [] w w11 ((stL y5 x5 (stN (d3.crash 0 ps) m s2.asked s2.deny) ++ rfL { z1 with qa := a9, qc := 12 } pg1 pin0) ++ (rfQ z1 pin1 :: (dkL x3 d3 ++ (.blk y2.kv [.pointer (some ⟨y2.kb, 0, none⟩)] 26 :: poolA y2 x3 { s2 with d := d3 } :: fsA y2 s2 :: frsL y2.fs s2.fs))))).takeL
    refine callV (stands_spec (C := 201) (by omega) y5 x5 (stN (d3.crash 0 ps) m s2.asked s2.deny) I5 hd rfl { z1 with qa := a9, qc := 12 } m w11 H3.std) ?_
    rintro e w12 ⟨rfl, H'⟩
    exact ⟨_, rfl, rfl, H3.useAll H'⟩
  · exact (hT.not P.deny P.denied).elim
end Go.Proofs.YtiagjabdfppgkaaGreat
