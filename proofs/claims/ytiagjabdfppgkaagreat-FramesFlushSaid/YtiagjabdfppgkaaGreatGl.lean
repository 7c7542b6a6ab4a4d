/- Frames: stands, plays. -/
import Derived.Test.YtiagjabdfppgkaaGreatGh
set_option linter.unusedVariables false
set_option linter.unusedSimpArgs false
set_option maxRecDepth 100000
namespace Go.Proofs.YtiagjabdfppgkaaGreat
open Go Go.Vc Go.Vault

def GotOk (y : GW) (s : St) (pin : Nat → Nat) : Prop := ∀ n : Nat, n < 12 → 0 < pin n → ∃ a, y.got[n]? = some (some ⟨a, 0, none⟩) ∧ PA y s n a
theorem Inv.pin_le {C : Nat} {s : St} {pg : Nat → AP} {pin : Nat → Nat} (h : Inv C s pg pin) (n : Nat) : pin n ≤ C := by
  by_cases hx : ∀ f ∈ s.fs, f.n ≠ n
  · rw [h.core.free n hx]; omega
  · apply Classical.byContradiction
    intro hne
    exact hx fun f hf e => hne (by rw [← e, ← h.pin hf]; exact h.cp f hf)
theorem DI.rp {C : Nat} {y : GW} {x : DW} {s : St} {pg : Nat → AP} {pin : Nat → Nat} (h : DI C y x s pg pin) (n : Nat) : Sl.RP (pg n).1 := by
  obtain ⟨g, hR⟩ := h.good n
  exact hR.rp
theorem DI.ups {C : Nat} {y : GW} {x : DW} {s : St} {pg : Nat → AP} {pin : Nat → Nat} (h : DI C y x s pg pin) : ∀ n, DI (C + n) y x s pg pin
  | 0 => h
  | n + 1 => (DI.ups h n).up
/-- what is Got, behind a call -/
theorem DoesP.gotOk {C : Nat} {y : GW} {x : DW} {s : St} {pg : Nat → AP} {pin : Nat → Nat} {o : Op12} {y1 : GW} {x1 : DW} {s1 : St} {c : Int} (h : DoesP C y x s pg pin o y1 x1 s1 c) (hg : GotOk y s pin) (I : DI C y x s pg pin) :
    GotOk y1 s1 (if c = (refDo s.many pg pin o).2.2 then (refDo s.many pg pin o).2.1 else pin) := by
  have base : ∀ n : Nat, n < 12 → 0 < pin n → (∀ m a : Nat, o.n = (m : Int) → o.kind = 0 → c = 0 → y1.got = y.got.set m (some ⟨a, 0, none⟩) → PA y1 s1 m a → m ≠ n) → ∃ a, y1.got[n]? = some (some ⟨a, 0, none⟩) ∧ PA y1 s1 n a := by
    intro n hn hp hne
    obtain ⟨a, h1, h2⟩ := hg n hn hp
    refine ⟨a, ?_, h.keep n a hp h2⟩
    rcases h.got with ⟨hk, hc, m, a', hom, hm, hgs, hPA⟩ | ⟨hgs, _⟩
    · rw [hgs, List.getElem?_set_ne (hne m a' hom hk hc hgs hPA)]; exact h1
    · rw [hgs]; exact h1
  intro n hn hp
  by_cases hset : ∃ m a : Nat, o.n = (m : Int) ∧ o.kind = 0 ∧ c = 0 ∧ y1.got = y.got.set m (some ⟨a, 0, none⟩) ∧ PA y1 s1 m a ∧ m = n
  · obtain ⟨m, a, _, _, _, hgs, hPA, rfl⟩ := hset
    exact ⟨a, by rw [hgs, List.getElem?_set_self (by rw [I.got]; exact hn)], hPA⟩
  · refine base n hn ?_ fun m a h1 h2 h3 h4 h5 h6 => hset ⟨m, a, h1, h2, h3, h4, h5, h6⟩
    split at hp
    · rename_i hcw
      apply Classical.byContradiction
      intro hp0
      have hp0 : pin n = 0 := by omega
      -- only a Get pins one that was not pinned
      by_cases hk : o.kind = 0
      · by_cases hin : 0 ≤ o.n ∧ o.n < 12
        · obtain ⟨m, hom⟩ : ∃ m : Nat, o.n = (m : Int) := ⟨o.n.toNat, by omega⟩
          have href := refDo_in (many := s.many) (pg := pg) (pin := pin) (o := o) (by omega) hom (by omega)
          rw [if_pos hk] at href
          by_cases hf : pin m = 0 ∧ s.many ≤ pinN pin
          · rw [if_pos hf] at href
            rw [href] at hp
            have hp : 0 < pin n := hp
            omega
          · rw [if_neg hf] at href
            rw [href] at hp hcw
            have hp : 0 < upd pin m (pin m + 1) n := hp
            have hmn : m = n := by
              apply Classical.byContradiction
              intro hne
              rw [upd_ne _ _ (Ne.symm hne)] at hp; omega
            subst hmn
            rcases h.got with ⟨_, hc, m', a', hom', hm', hgs, hPA⟩ | ⟨_, hno⟩
            · have : m' = m := by omega
              subst this
              exact hset ⟨m', a', hom', hk, hc, hgs, hPA, rfl⟩
            · exact hno ⟨hk, hcw⟩
        · have href := refDo_out (many := s.many) (pg := pg) (pin := pin) (o := o) (by omega) hin
          rw [href] at hp
          have hp : 0 < pin n := hp
          omega
      · have hle : (refDo s.many pg pin o).2.1 n ≤ pin n := by
          by_cases h3 : o.kind = 3
          · rw [refDo_flush h3]; exact Nat.le_refl _
          · by_cases hkk : 0 ≤ o.kind ∧ o.kind ≤ 4
            · by_cases hin : 0 ≤ o.n ∧ o.n < 12
              · rw [refDo_in (k := o.n.toNat) ⟨hkk.1, hkk.2, h3⟩ (by omega) (by omega), if_neg hk]
                split
                · split
                  · exact Nat.le_refl _
                  · by_cases e : n = o.n.toNat
                    · subst e
                      show upd pin _ _ _ ≤ _
                      rw [upd_self]; omega
                    · show upd pin _ _ _ ≤ _
                      rw [upd_ne _ _ e]; exact Nat.le_refl _
                · split
                  · split <;> exact Nat.le_refl _
                  · split <;> exact Nat.le_refl _
              · rw [refDo_out ⟨hkk.1, hkk.2, h3⟩ hin]; exact Nat.le_refl _
            · rw [refDo_none hkk]; exact Nat.le_refl _
        omega
    · exact hp
theorem page_mem {y : GW} {x : DW} {s : St} {n a : Nat} (h : PA y s n a) : ∃ f ∈ s.fs, f.n = n ∧ pageA a f.pg ∈ stL y x s := by
  obtain ⟨j, wf, f, hw, hf, hfn, rfl⟩ := h
  exact ⟨f, List.mem_of_getElem? hf, hfn, .tail _ (.tail _ (List.mem_append_right _ (List.mem_append_left _ (frL_mem hw hf _ (.tail _ (.head _))))))⟩
set_option maxHeartbeats 2000000 in
theorem stands_spec {C : Nat} (hC : C ≤ 800) (y : GW) (x : DW) (s : St) {pg : Nat → AP} {pin : Nat → Nat} (I : DI C y x s pg pin) (hdeny : s.deny = false) (hden : s.d.denied = 0) (z : RW) (many : Nat) (w : World) (st : Std w (stL y x s ++ rfL z pg pin)) :
    Calls Tryz.prog 14 #[.pointer (some ⟨y.kb, 0, none⟩), rfV z many] w fun e w' => e = .returned (.bool true) ∧ Hp (feet (stL y x s ++ rfL z pg pin)) w w' [] := by
  have H := Hp.startL st
  generalize hB : feet (stL y x s ++ rfL z pg pin) = B at H ⊢
  apply stands.ok; unfold stands.vc
  intro b w1 hn
  replace H := H.new (cs := [.slice z.pa 12 z.pc, .slice z.qa 12 z.qc, .int .i64 (many : Int)]) (by exact ⟨rfl, rfl, rfl, rfl⟩) hn; clear hn
  refine LoopP.mk (fun m (i : Int) w' => ∃ (k : Nat) (y1 : GW) (x1 : DW) (s1 : St), m = 12 - k ∧ k ≤ 12 ∧ i = (k : Int) ∧ y1.kb = y.kb ∧ DI (C + 2 * k) y1 x1 s1 pg pin ∧ s1.deny = false ∧ s1.d.denied = 0 ∧ Hp B w w' (.blk b [.slice z.pa 12 z.pc, .slice z.qa 12 z.qc, .int .i64 (many : Int)] 30 :: (stL y1 x1 s1 ++ rfL z pg pin))) 12 ⟨0, y, x, s, rfl, by omega, rfl, rfl, I, hdeny, hden, H⟩ ?_
  clear H w1
  rintro m i w1 next ⟨k, y1, x1, s1, rfl, hk, rfl, hkb, I1, hd1, hn1, H⟩ hnext
  rw [← hkb]
  refine br_dec (fun h => ?_) (fun h => ⟨rfl, H.done⟩)
  have hk12 : k < 12 := by omega
  have mq : rfQ z pin ∈ Asn.blk b [.slice z.pa 12 z.pc, .slice z.qa 12 z.qc, .int .i64 (many : Int)] 30 :: (stL y1 x1 s1 ++ rfL z pg pin) := .tail _ (List.mem_append_right _ (.tail _ (.head _)))
  obtain ⟨hc, hne⟩ := rf_pins (pg := pg) H mq
  obtain ⟨ad, had⟩ := Option.ne_none_iff_exists'.1 hne
  have e1 : Int.toNat (k : Int) * 1 = k := by omega
  have e2 : Int.toNat (k : Int) * 2 = k * 2 := by omega
  refine ⟨_, _, _, H.ld (o := 1) (by exact ⟨rfl, rfl, rfl, rfl⟩) gSI (.head _) rfl, onP_mk had ⟨⟨by omega, by omega⟩, _, by rw [e1]; exact hc.ld gInt had (pinC_at pin hk12), br_dec (fun hp => ?_) (fun hp => ?_)⟩⟩
  · exact ⟨inR64.2 (by omega), hnext (12 - (k + 1)) _ _ (by omega) ⟨k + 1, y1, x1, s1, rfl, by omega, by simp, hkb, I1.up.up, hd1, hn1, H⟩⟩
  have hp0 : pin k = 0 := by omega
  refine onP_mk rfl ⟨_, ldPool H (by exact ⟨rfl, rfl, rfl, rfl⟩) (.tail _ (List.mem_append_left _ (mem_kb y1 x1 s1))), ?_⟩
  have H2 : Hp B w w1 (stL y1 x1 s1 ++ (.blk b [.slice z.pa 12 z.pc, .slice z.qa 12 z.qc, .int .i64 (many : Int)] 30 :: rfL z pg pin)) := H.perm (by (refine perm_cnt fun ff gg h0 hc ha hpm => ?_; simp only [ha, hc, h0]; omega))
  clear H hc
  refine callV (get_spec (by omega) y1 x1 s1 I1.inv I1.dk I1.len I1.got k hk12 w1 H2.std1) ?_
  rintro e w2 ⟨y2, x2, s2, hdn, H', _, hres⟩
  have H3 := H2.useL H'
  clear H2 H'
  have hm2 := hdn.mv
  have hd2 : s2.deny = false := by rw [hm2.deny]; exact hd1
  have hn2 := (hm2.calm hn1).1
  have hg2 : y2.got.length = 12 := by rw [hdn.seat.got]; exact I1.got
  have hkb2 : y2.kb = y.kb := by rw [hdn.seat.kb]; exact hkb
  rcases hres with ⟨a, rfl, hPA, I2, _, hno, hfile⟩ | ⟨c, rfl, _, hc0, I2, _, herr⟩
  · refine ⟨_, _, rfl, br_dec (fun h => by cases h) (fun _ => br_ndec (fun h => absurd rfl h) (fun _ => ⟨_, eqvG, br_mk (fun h => by cases h) (fun _ => ?_)⟩))⟩
    have mp : rfP z pg ∈ stL y2 x2 s2 ++ (Asn.blk b [.slice z.pa 12 z.pc, .slice z.qa 12 z.qc, .int .i64 (many : Int)] 30 :: rfL z pg pin) := List.mem_append_right _ (.tail _ (.head _))
    obtain ⟨hcp, hnp⟩ := rf_pages (z := z) H3 mp
    obtain ⟨adp, hadp⟩ := Option.ne_none_iff_exists'.1 hnp
    refine ⟨_, _, _, H3.ld (o := 0) (cs := [.slice z.pa 12 z.pc, .slice z.qa 12 z.qc, .int .i64 (many : Int)]) (by exact ⟨rfl, rfl, rfl, rfl⟩) gSRP (List.mem_append_right _ (.head _)) rfl, onP_mk hadp ⟨⟨by omega, by omega⟩, _, _, _, _, by rw [e2]; exact hcp.ldA gaggRG hadp (pgC_at z.rs pg hk12) rfl, ?_⟩⟩
    obtain ⟨f, hfm, hfn, hpm⟩ := page_mem (x := x2) hPA
    obtain ⟨g, hR, hblk⟩ := page_get (H3.ok _ (List.mem_append_left _ hpm))
    have hfp := (I2.core.held f hfm).1
    rw [hfn] at hfp
    rw [hfp] at hR
    have hrec : Cells w2 (z.rs k).1 (Sl.recC (pg k).1) := (H3.ownA (List.mem_append_right _ (.tail _ (mem_rec hk12)))).cells
    refine callV (same_spec hR hblk (z.rs k).1 (z.rs k).2 hrec) ?_
    rintro e w3 ⟨rfl, H'⟩
    replace H3 := H3.ext0 H'; clear H'
    refine ⟨_, rfl, br_not (fun h => by cases h) (fun _ => ?_)⟩
    rw [← hkb2.trans hkb.symm]
    refine onP_mk rfl ⟨_, ldPool H3 (by exact ⟨rfl, rfl, rfl, rfl⟩) (List.mem_append_left _ (mem_kb y2 x2 s2)), ?_⟩
    refine callV (fdone_spec (C := C + 2 * k + 1) (by omega) y2 x2 s2 I2 hdn.dk hdn.len hg2 (k : Int) false (.inr fun f hf e hd => ?_) w3 H3.std1) ?_
    · have : f.n = k := by omega
      rw [this]
      exact hfile hp0 f hf this hd
    rintro e w4 ⟨s3, r, rfl, hd3, H', _, hr, _⟩
    have H4 := H3.useL H'
    clear H3 H'
    rcases hr with ⟨rfl, m, hm, _, I3⟩ | ⟨rfl, hno3, _⟩
    · have : m = k := by omega
      subst this
      have e : upd (upd pin m (pin m + 1)) m (upd pin m (pin m + 1) m - 1) = pin := by
        funext n
        by_cases hnm : n = m
        · subst hnm; rw [upd_self, upd_self]; omega
        · rw [upd_ne _ _ hnm, upd_ne _ _ hnm]
      rw [e] at I3
      refine ⟨_, rfl, br_not (fun h => by cases h) (fun _ => ⟨inR64.2 (by omega), hnext (12 - (m + 1)) _ _ (by omega) ⟨m + 1, y2, x2, s3, rfl, by omega, by simp, hkb2, ⟨I3, hd3.dk, hd3.len, hg2, I.good⟩, by rw [hd3.mv.deny]; exact hd2, (hd3.mv.calm hn2).1, H4.perm (by (refine perm_cnt fun ff gg h0 hc ha hpm => ?_; simp only [ha, hc, h0]; omega))⟩⟩)⟩
    · have := hno3 k rfl
      rw [upd_self] at this; omega
  · rcases herr with ⟨rfl, _⟩ | hT
    · refine ⟨_, _, rfl, br_dec (fun _ => ⟨inR64.2 (by omega), hnext (12 - (k + 1)) _ _ (by omega) ⟨k + 1, y2, x2, s2, rfl, by omega, by simp, hkb2, DI.up ⟨I2, hdn.dk, hdn.len, hg2, I.good⟩, hd2, hn2, H3.perm (by (refine perm_cnt fun ff gg h0 hc ha hpm => ?_; simp only [ha, hc, h0]; omega))⟩⟩) (fun h => absurd rfl h)⟩
    · exact (hT.not hd1 hn1).elim

/-! ### plays -/
structure PlayP (C : Nat) (y : GW) (s : St) (y1 : GW) (x1 : DW) (s1 : St) (pg1 : Nat → AP) (pin1 : Nat → Nat) : Prop where
  kb : y1.kb = y.kb
  di : DI C y1 x1 s1 pg1 pin1
  got : GotOk y1 s1 pin1
  deny : s1.deny = false
  denied : s1.d.denied = 0
  many : s1.many = s.many
set_option maxHeartbeats 4000000 in
theorem plays_spec {C : Nat} (hC : C ≤ 500) (y : GW) (x : DW) (s : St) {pg : Nat → AP} {pin : Nat → Nat} (I : DI C y x s pg pin) (hgot : GotOk y s pin) (hdeny : s.deny = false) (hden : s.d.denied = 0) (z : RW) (sa : Option Addr) (sc : Nat) (ops : List Op12) (hf : Few12 ops) (w : World) (st : Std w (stL y x s ++ rfL z pg pin)) (hs : ∀ W, Chg (feet (stL y x s ++ rfL z pg pin)) w W → Cells W sa (scrC ops)) :
    Calls Tryz.prog 7 #[.pointer (some ⟨y.kb, 0, none⟩), rfV z s.many, .slice sa ops.length sc] w fun e w' => ∃ (z1 : RW) (y1 : GW) (x1 : DW) (s1 : St) (pg1 : Nat → AP) (pin1 : Nat → Nat), e = .returned (.tuple #[rfV z1 s.many, .bool true]) ∧ PlayP (C + 200) y s y1 x1 s1 pg1 pin1 ∧ Hp (feet (stL y x s ++ rfL z pg pin)) w w' (stL y1 x1 s1 ++ rfL z1 pg1 pin1) := by
  have H := Hp.startL st
  generalize hB : feet (stL y x s ++ rfL z pg pin) = B at H hs ⊢
  have hlen := hf.len
  apply plays.ok; unfold plays.vc
  intro b w1 hn
  replace H := H.new (cs := [.slice z.pa 12 z.pc, .slice z.qa 12 z.qc, .int .i64 (s.many : Int)]) (by exact ⟨rfl, rfl, rfl, rfl⟩) hn; clear hn
  intro b1 w2 hn
  replace H := H.new (cs := [.slice none 0 0, .slice none 0 0, .int .i64 0]) (by exact ⟨rfl, rfl, rfl, rfl⟩) hn; clear hn
  refine LoopP.mk (fun m (i : Int) w' => ∃ (k : Nat) (z1 : RW) (y1 : GW) (x1 : DW) (s1 : St) (pg1 : Nat → AP) (pin1 : Nat → Nat), m = ops.length - k ∧ k ≤ ops.length ∧ i = (k : Int) ∧ PlayP (C + k) y s y1 x1 s1 pg1 pin1 ∧ Hp B w w' (.blk b1 [.slice none 0 0, .slice none 0 0, .int .i64 0] 30 :: .blk b [.slice z1.pa 12 z1.pc, .slice z1.qa 12 z1.qc, .int .i64 (s.many : Int)] 30 :: (stL y1 x1 s1 ++ rfL z1 pg1 pin1))) ops.length ⟨0, z, y, x, s, pg, pin, rfl, by omega, rfl, ⟨rfl, I, hgot, hdeny, hden, rfl⟩, H⟩ ?_
  clear H w1 w2
  rintro m i w1 next ⟨k, z1, y1, x1, s1, pg1, pin1, rfl, hk, rfl, P1, H⟩ hnext
  refine br_dec (fun h1 => ?_) (fun h1 => ?_)
  · have hkl : k < ops.length := by omega
    have hsW := hs _ H.chg
    obtain ⟨ad, ha⟩ := hsW.some (scrC_ne hkl)
    have e1 : Int.toNat (k : Int) * 9 = 9 * k := by omega
    have hfew := hf.all _ (List.getElem_mem hkl)
    refine onP_mk ha ⟨⟨by omega, h1⟩, _, _, _, _, _, _, _, _, _, by rw [e1]; exact hsW.ldA gaggO12 ha (scrC_nine hkl) rfl, ?_⟩
    generalize ops[k] = o at hfew ⊢
    intro b3 w2 hn
    replace H := H.new (cs := [.int .i64 0, .int .i64 0, .bool false, .int .i64 0, .int .i64 0, .int .i64 0, .string ⟨#[]⟩, .string ⟨#[]⟩, .int .i64 0]) (by exact ⟨rfl, rfl, rfl, rfl⟩) hn; clear hn
    refine Hp.stA (o := 0) H (by exact ⟨rfl, rfl, rfl, rfl⟩) gaggO12 (vs := op12C o) rfl rfl (by simp) (cs' := op12C o) rfl ?_
    clear H; intro w3 H
    refine ⟨_, _, _, _, _, _, _, H.ldA (o := 0) (cs := [.slice z1.pa 12 z1.pc, .slice z1.qa 12 z1.qc, .int .i64 (s.many : Int)]) (by exact ⟨rfl, rfl, rfl, rfl⟩) gaggRP (.tail _ (.tail _ (.head _))) rfl rfl, _, _, _, _, _, _, _, _, _, H.ldA (o := 0) (cs := op12C o) (by exact ⟨rfl, rfl, rfl, rfl⟩) gaggO12 (.head _) rfl rfl, ?_⟩
    have H2 : Hp B w w3 (rfL z1 pg1 pin1 ++ (.blk b3 (op12C o) 49 :: .blk b1 [.slice none 0 0, .slice none 0 0, .int .i64 0] 30 :: .blk b [.slice z1.pa 12 z1.pc, .slice z1.qa 12 z1.qc, .int .i64 (s.many : Int)] 30 :: stL y1 x1 s1)) := H.perm (by (refine perm_cnt fun ff gg h0 hc ha hpm => ?_; simp only [ha, hc, h0]; omega))
    clear H
    have hpl : ∀ n, pin1 n ≤ 1000000 := fun n => by have := P1.di.inv.pin_le n; omega
    refine callV (qdo_spec z1 pg1 pin1 s.many o P1.di.rp hpl hfew.stamp.1 w3 H2.std1) ?_
    rintro e w4 ⟨z2, rfl, H'⟩
    have H3 := H2.useL H'
    clear H2 H'
    refine ⟨_, _, _, _, _, _, _, _, rfl, ?_⟩
    intro b5 w5 hn
    replace H3 := H3.new (cs := [.slice none 0 0, .slice none 0 0, .int .i64 0]) (by exact ⟨rfl, rfl, rfl, rfl⟩) hn; clear hn
    refine Hp.stA (o := 0) H3 (by exact ⟨rfl, rfl, rfl, rfl⟩) gaggRP (vs := [.slice z2.pa 12 z2.pc, .slice z2.qa 12 z2.qc, .int .i64 (s.many : Int)]) rfl rfl (by simp) (cs' := [.slice z2.pa 12 z2.pc, .slice z2.qa 12 z2.qc, .int .i64 (s.many : Int)]) rfl ?_
    clear H3; intro w6 H
    refine ⟨_, _, _, _, _, _, _, H.ldA (o := 0) (by exact ⟨rfl, rfl, rfl, rfl⟩) gaggRP (.head _) rfl rfl, ?_⟩
    have H2 : Hp B w w6 (.blk b [.slice z1.pa 12 z1.pc, .slice z1.qa 12 z1.qc, .int .i64 (s.many : Int)] 30 :: .blk b3 (op12C o) 49 :: .blk b1 [.slice none 0 0, .slice none 0 0, .int .i64 0] 30 :: (stL y1 x1 s1 ++ rfL z2 (refDo s.many pg1 pin1 o).1 (refDo s.many pg1 pin1 o).2.1)) := H.drop.perm (by (refine perm_cnt fun ff gg h0 hc ha hpm => ?_; simp only [ha, hc, h0]; omega))
    clear H
    refine Hp.stA (o := 0) H2 (by exact ⟨rfl, rfl, rfl, rfl⟩) gaggRP (vs := [.slice z2.pa 12 z2.pc, .slice z2.qa 12 z2.qc, .int .i64 (s.many : Int)]) rfl rfl (by simp) (cs' := [.slice z2.pa 12 z2.pc, .slice z2.qa 12 z2.qc, .int .i64 (s.many : Int)]) rfl ?_
    clear H2; intro w7 H
    have ldK : ∀ (i : Nat) (v : Int), (op12C o)[i]? = some (.int .i64 v) → Ld Tryz.prog 3 w7 ⟨b3, i, none⟩ (.int .i64 v) := fun i v hv => H.ld (o := i) (cs := op12C o) (by exact ⟨rfl, rfl, rfl, rfl⟩) gInt (.tail _ (.head _)) hv
    obtain ⟨hcq, hnq⟩ := rf_pins (z := z2) (pg := (refDo s.many pg1 pin1 o).1) (pin := (refDo s.many pg1 pin1 o).2.1) H (.tail _ (.tail _ (.tail _ (List.mem_append_right _ (.tail _ (.head _))))))
    obtain ⟨adq, hadq⟩ := Option.ne_none_iff_exists'.1 hnq
    refine ⟨_, ldK 0 _ rfl, ?_⟩
    have hpin2 : o.kind = 2 → (refDo s.many pg1 pin1 o).2.1 = pin1 := fun h2 => by
      by_cases hin : 0 ≤ o.n ∧ o.n < 12
      · rw [refDo_in (k := o.n.toNat) (by omega) (by omega) (by omega), if_neg (by omega), if_neg (by omega), if_pos h2]
        split <;> rfl
      · rw [refDo_out (by omega) hin]
    refine (fun (kk : (o.kind = 2 → ∀ n : Nat, o.n = (n : Int) → n < 12 → 0 < pin1 n) → _) => br_dec (fun h2 => ⟨_, ldK 1 _ rfl, br_dec (fun h3 => ⟨_, ldK 1 _ rfl, br_dec (fun h4 => ?skip) (fun h4 => kk (fun _ n hn hn12 => by omega))⟩) (fun h3 => kk (fun _ n hn hn12 => by omega))⟩) (fun h2 => kk (fun h => absurd h h2))) ?cont
    case skip =>
      obtain ⟨n, hon⟩ : ∃ n : Nat, o.n = (n : Int) := ⟨o.n.toNat, by omega⟩
      have hn12 : n < 12 := by omega
      have e2 : Int.toNat (n : Int) * 1 = n := by omega
      refine ⟨_, _, _, H.ld (o := 1) (by exact ⟨rfl, rfl, rfl, rfl⟩) gSI (.head _) rfl, _, ldK 1 _ rfl, ?_⟩
      rw [hon]
      refine onP_mk hadq ⟨⟨by omega, by omega⟩, _, by rw [e2]; exact hcq.ld gInt hadq (pinC_at _ hn12), br_dec (fun h5 => ?_) (fun h5 => kk (fun _ n' hn' _ => ?_))⟩
      · have hp0 : pin1 n = 0 := by rw [hpin2 h2] at h5; omega
        have href := refDo_in (many := s.many) (pg := pg1) (pin := pin1) (o := o) (by omega) hon hn12
        rw [if_neg (by omega), if_neg (by omega), if_pos h2, if_pos hp0] at href
        rw [href] at H
        refine ⟨inR64.2 (by omega), hnext (ops.length - (k + 1)) _ _ (by omega) ⟨k + 1, z2, y1, x1, s1, pg1, pin1, rfl, by omega, by simp, ⟨P1.kb, P1.di.up, P1.got, P1.deny, P1.denied, P1.many⟩, ?_⟩⟩
        exact (H.del1).pull1
      · rw [hpin2 h2] at h5
        have : n' = n := by omega
        subst this; omega
    case cont =>
      intro hpn
      refine ⟨_, _, _, _, _, _, _, _, _, H.ldA (o := 0) (cs := op12C o) (by exact ⟨rfl, rfl, rfl, rfl⟩) gaggO12 (.tail _ (.head _)) rfl rfl, ?_⟩
      have hkb := P1.kb
      rw [← hkb]
      have H2 : Hp B w w7 (stL y1 x1 s1 ++ (.blk b1 [.slice none 0 0, .slice none 0 0, .int .i64 0] 30 :: .blk b [.slice z2.pa 12 z2.pc, .slice z2.qa 12 z2.qc, .int .i64 (s.many : Int)] 30 :: rfL z2 (refDo s.many pg1 pin1 o).1 (refDo s.many pg1 pin1 o).2.1)) := (H.del1).perm (by (refine perm_cnt fun ff gg h0 hc ha hpm => ?_; simp only [ha, hc, h0]; omega))
      clear H ldK hcq
      refine callV (does_spec (C := C + k) (by omega) y1 x1 s1 P1.di o hfew (fun h2 n hon hn12 => ⟨hpn h2 n hon hn12, P1.got n hn12 (hpn h2 n hon hn12)⟩) w7 H2.std1) ?_
      rintro e w8 ⟨y2, x2, s2, c, rfl, H', D⟩
      have H3 := H2.useL H'
      clear H2 H'
      have hgo := D.gotOk P1.got P1.di
      have hm2 := D.mv
      have hd2 : s2.deny = false := by rw [hm2.deny]; exact P1.deny
      have hn2 := (hm2.calm P1.denied).1
      rcases D.res with ⟨hcw, D2⟩ | ⟨hT, _, _⟩
      · rw [if_pos hcw] at hgo
        rw [P1.many] at hcw D2 hgo
        refine ⟨_, rfl, br_ndec (fun h => absurd hcw h) (fun _ => ?_)⟩
        have hkb2 := D.kb
        rw [← hkb2]
        have mk : Asn.blk y2.kb (deskC y2 x2 s2) 40 ∈ stL y2 x2 s2 ++ (.blk b1 [.slice none 0 0, .slice none 0 0, .int .i64 0] 30 :: .blk b [.slice z2.pa 12 z2.pc, .slice z2.qa 12 z2.qc, .int .i64 (s.many : Int)] 30 :: rfL z2 (refDo s.many pg1 pin1 o).1 (refDo s.many pg1 pin1 o).2.1) := List.mem_append_left _ (mem_kb y2 x2 s2)
        have ok2 := D2.inv.stOk (by omega) D2.dk D2.len D2.got
        refine onP_mk rfl ⟨_, ldPool H3 (by exact ⟨rfl, rfl, rfl, rfl⟩) mk, onP_mk rfl ⟨_, ldPool H3 (by exact ⟨rfl, rfl, rfl, rfl⟩) mk, ?_⟩⟩
        refine callV (held_spec y2 x2 s2 ok2 w8.drew H3.drew.std1) ?_
        rintro e w9 ⟨a9, c9, rfl, H'⟩
        have H4 := H3.drew.chg0 H'.chg
        clear H3 H'
        refine ⟨_, _, _, rfl, ldPool H4 (by exact ⟨rfl, rfl, rfl, rfl⟩) mk, ?_⟩
        refine callV (dirty_spec y2 x2 s2 ok2 w9 H4.std1) ?_
        rintro e w10 ⟨a10, c10, rfl, H'⟩
        have H5 := H4.chg0 H'.chg
        clear H4 H'
        have hfl := D2.inv.fl
        have hmm : s2.many = s.many := by rw [hm2.many]; exact P1.many
        have hl1 : (nums (fun _ => true) s2.fs).length = s2.fs.length := by rw [nums, List.length_map, List.filter_eq_self.2 (fun _ _ => rfl)]
        have hl2 : (nums isDirty s2.fs).length ≤ s2.fs.length := by rw [nums, List.length_map]; exact List.length_filter_le _ _
        refine ⟨_, _, _, rfl, _, H5.ld (o := 2) (cs := [.slice z2.pa 12 z2.pc, .slice z2.qa 12 z2.qc, .int .i64 (s.many : Int)]) (by exact ⟨rfl, rfl, rfl, rfl⟩) gInt (List.mem_append_right _ (.tail _ (.head _))) rfl, br_dec (fun h => by omega) (fun _ => br_dec (fun h => by omega) (fun _ => ?_))⟩
        exact ⟨inR64.2 (by omega), hnext (ops.length - (k + 1)) _ _ (by omega) ⟨k + 1, z2, y2, x2, s2, _, _, rfl, by omega, by simp, ⟨by rw [hkb2]; exact P1.kb, D2, hgo, hd2, hn2, hmm⟩, H5.perm (by (refine perm_cnt fun ff gg h0 hc ha hpm => ?_; simp only [ha, hc, h0]; omega))⟩⟩
      · exact (hT.not P1.deny P1.denied).elim
  · have hke : k = ops.length := by omega
    subst hke
    refine ⟨_, _, _, _, _, _, _, H.ldA (o := 0) (cs := [.slice z1.pa 12 z1.pc, .slice z1.qa 12 z1.qc, .int .i64 (s.many : Int)]) (by exact ⟨rfl, rfl, rfl, rfl⟩) gaggRP (.tail _ (.head _)) rfl rfl, ?_⟩
    refine Hp.stA (o := 0) H (by exact ⟨rfl, rfl, rfl, rfl⟩) gaggRP (vs := [.slice z1.pa 12 z1.pc, .slice z1.qa 12 z1.qc, .int .i64 (s.many : Int)]) rfl rfl (by simp) (cs' := [.slice z1.pa 12 z1.pc, .slice z1.qa 12 z1.qc, .int .i64 (s.many : Int)]) rfl ?_
    clear H; intro w2 H
    refine ⟨_, _, _, _, _, _, _, H.ldA (o := 0) (by exact ⟨rfl, rfl, rfl, rfl⟩) gaggRP (.head _) rfl rfl, z1, y1, x1, s1, pg1, pin1, rfl, ⟨P1.kb, ?_, P1.got, P1.deny, P1.denied, P1.many⟩, H.drop.drop⟩
    have : C + 200 = (C + ops.length) + (200 - ops.length) := by omega
    rw [this]
    exact DI.ups P1.di _
theorem di0 {y : GW} {x : DW} (many : Nat) (hm : 4 ≤ many ∧ many ≤ 64) (hg : y.got = List.replicate 12 none) (hf : y.fs = []) (hx : x.Ok dk0) : DI 0 y x (stN dk0 many [] false) pg0 pin0 :=
  ⟨inv0 many hm false, hx, by rw [hf]; rfl, by rw [hg]; simp, fun n => ⟨Sl.gZ 4096, Sl.gZ_rep⟩⟩
theorem got0 (y : GW) (s : St) : GotOk y s pin0 := fun n _ h => by simp [pin0] at h
end Go.Proofs.YtiagjabdfppgkaaGreat
