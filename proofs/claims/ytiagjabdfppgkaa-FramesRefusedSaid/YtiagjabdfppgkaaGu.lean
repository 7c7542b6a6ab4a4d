/- Frames: the law of what is asked ahead. -/
import Derived.Test.YtiagjabdfppgkaaGp
set_option linter.unusedVariables false
set_option linter.unusedSimpArgs false
set_option maxRecDepth 100000
namespace Go.Proofs.Ytiagjabdfppgkaa
open Go Go.Vc Go.Vault

/-- what the desk has Got is pinned, and lies there -/
def GotIn (y : GW) (s : St) (pin : Nat → Nat) : Prop := ∀ (n : Nat) (a : Addr), n < 12 → y.got[n]? = some (some a) → ∃ b, a = ⟨b, 0, none⟩ ∧ PA y s n b ∧ 0 < pin n
theorem refDo_pin {many : Nat} {pg : Nat → AP} {pin : Nat → Nat} {o : Op12} (n : Nat) (h : ¬ (o.kind = 1 ∧ o.n = (n : Int))) (hp : 0 < pin n) : 0 < (refDo many pg pin o).2.1 n := by
  by_cases h3 : o.kind = 3
  · rw [refDo_flush h3]; exact hp
  · by_cases hkk : 0 ≤ o.kind ∧ o.kind ≤ 4
    · by_cases hin : 0 ≤ o.n ∧ o.n < 12
      · rw [refDo_in (k := o.n.toNat) ⟨hkk.1, hkk.2, h3⟩ (by omega) (by omega)]
        split
        · split
          · exact hp
          · show 0 < upd pin _ _ n
            by_cases e : n = o.n.toNat
            · subst e; rw [upd_self]; omega
            · rw [upd_ne _ _ e]; exact hp
        · split
          · split
            · exact hp
            · show 0 < upd pin _ _ n
              rw [upd_ne _ _ (by omega)]; exact hp
          · split
            · split <;> exact hp
            · split <;> exact hp
      · rw [refDo_out ⟨hkk.1, hkk.2, h3⟩ hin]; exact hp
    · rw [refDo_none hkk]; exact hp
theorem DoesP.gotIn {C : Nat} {y : GW} {x : DW} {s : St} {pg : Nat → AP} {pin : Nat → Nat} {o : Op12} {y1 : GW} {x1 : DW} {s1 : St} {c : Int} (h : DoesP C y x s pg pin o y1 x1 s1 c) (hg : GotIn y s pin) (I : DI C y x s pg pin) (hc : c = (refDo s.many pg pin o).2.2) :
    ∀ (n : Nat) (a : Addr), n < 12 → y1.got[n]? = some (some a) → ¬ (o.kind = 1 ∧ o.n = (n : Int)) → ∃ b, a = ⟨b, 0, none⟩ ∧ PA y1 s1 n b ∧ 0 < (refDo s.many pg pin o).2.1 n := by
  intro n a hn ha hne
  have old : y.got[n]? = some (some a) → ∃ b, a = ⟨b, 0, none⟩ ∧ PA y1 s1 n b ∧ 0 < (refDo s.many pg pin o).2.1 n := fun h2 => by
    obtain ⟨b, e, hP, hp⟩ := hg n a hn h2
    exact ⟨b, e, h.keep n b hp hP, refDo_pin n hne hp⟩
  rcases h.got with ⟨hk, hc0, m, b, hom, hm, hgs, hPA⟩ | ⟨hgs, _⟩
  · by_cases e : m = n
    · subst e
      rw [hgs, List.getElem?_set_self (by rw [I.got]; exact hn)] at ha
      cases ha
      refine ⟨b, rfl, hPA, ?_⟩
      have href := refDo_in (many := s.many) (pg := pg) (pin := pin) (o := o) (by omega) hom hm
      rw [if_pos hk] at href
      rw [href] at hc ⊢
      split at hc
      · rw [hc0] at hc; cases hc
      · rename_i hx
        rw [if_neg hx]
        show 0 < upd pin _ _ m
        rw [upd_self]; omega
    · rw [hgs, List.getElem?_set_ne e] at ha
      exact old ha
  · rw [hgs] at ha; exact old ha
/-- a page that was Got is forgotten -/
theorem forget {y : GW} {x : DW} {s : St} {B : List Nat} {w0 w : World} {L : List Asn} (H : Hp B w0 w (stL y x s ++ L)) (hg : y.got.length = 12) {n : Nat} (hn : n < 12) {G : World → Prop} (k : ∀ w1, Hp B w0 w1 (stL { y with got := y.got.set n none } x s ++ L) → G w1) :
    ∃ w1, Go.Vc.St Try.prog 31 w ((((⟨y.kb, 0, none⟩ : Addr).add 4).add (Int.toNat (n : Int) * 1))) (.pointer none) w1 ∧ G w1 := by
  have H2 : Hp B w0 w (.blk y.kb (deskC y x s) 37 :: (.blk y.kv [.pointer (some ⟨y.kb, 0, none⟩)] 25 :: .own 3 1 y.aa s.asked.length y.ac (Sl.intC s.asked) :: poolA y x s :: fsA y s :: (frsL y.fs s.fs ++ (dkL x s.d ++ L)))) := H.perm (by rw [stL, deskL]; (refine perm_cnt fun ff gg h0 hc ha hpm => ?_; simp only [ha, hc, h0]; omega))
  clear H
  have e1 : Int.toNat (n : Int) * 1 = n := by omega
  rw [e1, show ((⟨y.kb, 0, none⟩ : Addr).add 4).add n = ⟨y.kb, 4 + n, none⟩ by rw [add_add, add_lit, Nat.zero_add]]
  refine Hp.st (o := 4 + n) H2 (by exact ⟨rfl, rfl, rfl, rfl⟩) gPG rfl rfl (by simp [deskC, hg]; omega) (cs' := deskC { y with got := y.got.set n none } x s) ?_ ?_
  · simp only [deskC]
    rw [List.set_append_right _ _ (by simp), List.map_set]
    congr 2
    simp
  intro w1 K
  refine k w1 (K.perm ?_)
  rw [stL, deskL]
  show List.Perm (.blk y.kb (deskC { y with got := y.got.set n none } x s) 37 :: (.blk y.kv [.pointer (some ⟨y.kb, 0, none⟩)] 25 :: .own 3 1 y.aa s.asked.length y.ac (Sl.intC s.asked) :: poolA y x s :: fsA y s :: (frsL y.fs s.fs ++ (dkL x s.d ++ L)))) (poolA y x s :: fsA y s :: ([.blk y.kb (deskC { y with got := y.got.set n none } x s) 37, .blk y.kv [.pointer (some ⟨y.kb, 0, none⟩)] 25, .own 3 1 y.aa s.asked.length y.ac (Sl.intC s.asked)] ++ (frsL y.fs s.fs ++ dkL x s.d)) ++ L)
  (refine perm_cnt fun ff gg h0 hc ha hpm => ?_; simp only [ha, hc, h0]; omega)
set_option maxHeartbeats 8000000 in
theorem framesAhead_law (many : Int) (sa : Option Addr) (sc : Nat) (ops : List Op12) (hmx : ops.length ≤ 9223372036854775807) (w : World) (hs : Cells w sa (scrC ops)) :
    Calls Try.prog 3 #[.int .i64 many, .slice sa ops.length sc] w fun e w' => e = .returned (.bool true) ∧ Hp [] w w' [] := by
  apply framesAhead.ok; unfold framesAhead.vc
  refine JoinP.mk (fun (q : Bool) w' => (q = false → 4 ≤ many ∧ many ≤ 64 ∧ Few12 ops) ∧ Hp [] w w' []) ?hR ?hX
  case hX =>
    intro J hJ
    have H := Hp.start w
    refine br_dec (fun _ => hJ true w ⟨fun h => (by cases h), H⟩) (fun h4 => br_dec (fun _ => hJ true w ⟨fun h => (by cases h), H⟩) (fun h64 => ?_))
    refine callV (few_spec sa sc ops hmx w hs) ?_
    rintro e w1 ⟨r, rfl, hfew, H'⟩
    refine ⟨_, rfl, hJ (!r) w1 ⟨fun h => ⟨by omega, by omega, hfew (by simpa using h)⟩, H'⟩⟩
  rintro q w1 ⟨hq, H⟩
  refine br_mk (fun _ => ?_) (fun hqf => ?_)
  · refine callV (alive_spec w1) ?_
    rintro e w2 ⟨rfl, K'⟩
    exact ⟨_, rfl, rfl, H.ext0 K'⟩
  obtain ⟨hm4, hm64, hf⟩ := hq hqf
  obtain ⟨m, rfl⟩ : ∃ m : Nat, many = (m : Int) := ⟨many.toNat, by omega⟩
  have hm : 4 ≤ m ∧ m ≤ 64 := by omega
  refine callV (begun_spec m hm w1) ?_
  rintro e w2 ⟨y, x, rfl, hg, hfs, hx, H'⟩
  replace H : Hp [] w w2 (stL y x (stN dk0 m [] false)) := (H.ext H').takeL
  clear H'
  refine ⟨_, rfl, _, eqvK, br_mk (fun h => by cases h) (fun _ => ?_)⟩
  have I0 := di0 m hm hg hfs hx
  have hlen := hf.len
  have hgi0 : GotIn y (stN dk0 m [] false) pin0 := fun n a hn ha => by
    rw [hg, List.getElem?_replicate] at ha
    split at ha <;> cases ha
  refine LoopP.mk (fun mm (i : Int) w' => ∃ (k : Nat) (y1 : GW) (x1 : DW) (s1 : St) (pg1 : Nat → AP) (pin1 : Nat → Nat), mm = ops.length - k ∧ k ≤ ops.length ∧ i = (k : Int) ∧ y1.kb = y.kb ∧ DI (0 + k) y1 x1 s1 pg1 pin1 ∧ GotIn y1 s1 pin1 ∧ Ah s1 ∧ s1.deny = false ∧ s1.d.denied = 0 ∧ Hp [] w w' (stL y1 x1 s1)) ops.length ⟨0, y, x, _, pg0, pin0, rfl, by omega, rfl, rfl, I0, hgi0, ah0 m false, rfl, rfl, H⟩ ?_
  clear H w1 w2
  rintro mm i w1 next ⟨k, y1, x1, s1, pg1, pin1, rfl, hk, rfl, hkb, I1, hgi1, hA1, hd1, hn1, H⟩ hnext
  dsimp only
  rw [← hkb]
  refine br_dec (fun h1 => ?_) (fun h1 => ?_)
  rotate_left
  · refine callV (alive_spec w1) ?_
    rintro e w4 ⟨rfl, H'⟩
    exact ⟨_, rfl, rfl, (H.ext0 H').done⟩
  have hkl : k < ops.length := by omega
  have hsW := hs.chg H.chg (by simp)
  obtain ⟨ad, ha⟩ := hsW.some (scrC_ne hkl)
  have e1 : Int.toNat (k : Int) * 9 = 9 * k := by omega
  have hfew := hf.all _ (List.getElem_mem hkl)
  refine onP_mk ha ⟨⟨by omega, h1⟩, _, _, _, _, _, _, _, _, _, by rw [e1]; exact hsW.ldA gaggO12 ha (scrC_nine hkl) rfl, ?_⟩
  generalize ops[k] = o at hfew ⊢
  intro b1 w2 hn
  replace H := H.new (cs := [.int .i64 0, .int .i64 0, .bool false, .int .i64 0, .int .i64 0, .int .i64 0, .string ⟨#[]⟩, .string ⟨#[]⟩, .int .i64 0]) (by exact ⟨rfl, rfl, rfl, rfl⟩) hn; clear hn
  refine Hp.stA (o := 0) H (by exact ⟨rfl, rfl, rfl, rfl⟩) gaggO12 (vs := op12C o) rfl rfl (by simp) (cs' := op12C o) rfl ?_
  clear H; intro w3 H
  replace H := H.drew
  generalize w3.drew = w3 at H ⊢
  have ldK : ∀ (i : Nat) (v : Int), (op12C o)[i]? = some (.int .i64 v) → Ld Try.prog 3 w3 ⟨b1, i, none⟩ (.int .i64 v) := fun i v hv => H.ld (o := i) (cs := op12C o) (by exact ⟨rfl, rfl, rfl, rfl⟩) gInt (.head _) hv
  have skip : inR .i64 ((k : Int) + 1) ∧ next ((k : Int) + 1) w3 := ⟨inR64.2 (by omega), hnext (ops.length - (k + 1)) _ _ (by omega) ⟨k + 1, y1, x1, s1, pg1, pin1, rfl, by omega, by simp, hkb, I1.up, hgi1, hA1, hd1, hn1, H.drop⟩⟩
  refine ⟨_, ldK 0 _ rfl, ?_⟩
  refine (fun (kk : (o.kind = 2 → ∀ n : Nat, o.n = (n : Int) → n < 12 → 0 < pin1 n ∧ ∃ a, y1.got[n]? = some (some ⟨a, 0, none⟩) ∧ PA y1 s1 n a) → _) => br_dec (fun h2 => ⟨_, ldK 1 _ rfl, br_dec (fun h3 => skip) (fun h3 => ⟨_, ldK 1 _ rfl, br_dec (fun h4 => skip) (fun h4 => ?mid)⟩)⟩) (fun h2 => kk (fun h => absurd h h2))) ?cont
  case mid =>
    obtain ⟨n, hon⟩ : ∃ n : Nat, o.n = (n : Int) := ⟨o.n.toNat, by omega⟩
    have hn12 : n < 12 := by omega
    have e2 : Int.toNat (n : Int) * 1 = n := by omega
    refine ⟨_, ldK 1 _ rfl, ?_⟩
    rw [hon]
    have hgl : n < y1.got.length := by rw [I1.got]; exact hn12
    have hcell : (deskC y1 x1 s1)[4 + n]? = some (.pointer y1.got[n]) := by
      simp only [deskC]
      rw [List.getElem?_append_right (by simp)]
      simp [hgl]
    refine onP_mk rfl ⟨⟨by omega, by omega⟩, _, by
      rw [e2, show ((⟨y1.kb, 0, none⟩ : Addr).add 4).add n = ⟨y1.kb, 4 + n, none⟩ by rw [add_add, add_lit, Nat.zero_add]]
      exact H.ld (o := 4 + n) (cs := deskC y1 x1 s1) (by exact ⟨rfl, rfl, rfl, rfl⟩) gPG (.tail _ (mem_kb y1 x1 s1)) hcell, _, eqvG, br_mk (fun h => skip) (fun h => kk (fun _ n' hn' _ => ?_))⟩
    have : n' = n := by omega
    subst this
    cases hgn : y1.got[n'] with
    | none => rw [hgn] at h; cases h
    | some a =>
      have h9 : y1.got[n']? = some (some a) := by rw [List.getElem?_eq_getElem hgl, hgn]
      obtain ⟨b, rfl, hP, hp⟩ := hgi1 n' a hn12 h9
      exact ⟨hp, b, h9, hP⟩
  case cont =>
    intro hpn
    clear skip ldK
    refine ⟨_, _, _, _, _, _, _, _, _, H.ldA (o := 0) (cs := op12C o) (by exact ⟨rfl, rfl, rfl, rfl⟩) gaggO12 (.head _) rfl rfl, ?_⟩
    have H2 : Hp [] w w3 (stL y1 x1 s1 ++ [.blk b1 (op12C o) 30]) := H.perm (List.perm_append_comm (l₁ := [_]))
    clear H
    refine callV (does_spec (C := 0 + k) (by omega) y1 x1 s1 I1 o hfew hpn w3 H2.std1) ?_
    rintro e w7 ⟨y2, x2, s2, c, rfl, H', D⟩
    have H3 := H2.useL H'
    clear H2 H'
    have hm2 := D.mv
    have hd2 : s2.deny = false := by rw [hm2.deny]; exact hd1
    have hn2 := (hm2.calm hn1).1
    have hA2 := (hm2.calm hn1).2 hA1
    have hkb2 := D.kb
    rcases D.res with ⟨hcw, D2⟩ | ⟨hT, _, _⟩
    rotate_left
    · exact (hT.not hd1 hn1).elim
    have hgi := D.gotIn hgi1 I1 hcw
    rw [← hkb2]
    have mo : Asn.blk b1 (op12C o) 30 ∈ stL y2 x2 s2 ++ [.blk b1 (op12C o) 30] := List.mem_append_right _ (.head _)
    refine ⟨_, rfl, _, H3.ld (o := 0) (cs := op12C o) (by exact ⟨rfl, rfl, rfl, rfl⟩) gInt mo rfl, br_dec (fun hk1 => ⟨_, H3.ld (o := 1) (cs := op12C o) (by exact ⟨rfl, rfl, rfl, rfl⟩) gInt mo rfl, br_dec (fun h5 => ⟨_, H3.ld (o := 1) (cs := op12C o) (by exact ⟨rfl, rfl, rfl, rfl⟩) gInt mo rfl, br_dec (fun h6 => ?cA) (fun h6 => ?cB)⟩) (fun h5 => ?cC)⟩) (fun hk1 => ?cD)⟩
    case cA =>
      obtain ⟨n, hon⟩ : ∃ n : Nat, o.n = (n : Int) := ⟨o.n.toNat, by omega⟩
      have hn12 : n < 12 := by omega
      refine ⟨_, H3.ld (o := 1) (cs := op12C o) (by exact ⟨rfl, rfl, rfl, rfl⟩) gInt mo rfl, ?_⟩
      rw [hon]
      refine onP_mk rfl ⟨⟨by omega, by omega⟩, forget H3.drew D2.got hn12 ?_⟩
      clear H3 mo; intro w8 H3
      have HH := H3.takeL
      have hgiY : GotIn { y2 with got := y2.got.set n none } s2 (refDo s1.many pg1 pin1 o).2.1 := fun n' a hn' ha => by
        have ha : (y2.got.set n none)[n']? = some (some a) := ha
        by_cases e : n = n'
        · subst e
          rw [List.getElem?_set_self (by rw [D2.got]; exact hn12)] at ha
          cases ha
        · rw [List.getElem?_set_ne e] at ha
          obtain ⟨b, e2, hP, hp⟩ := hgi n' a hn' ha (by omega)
          exact ⟨b, e2, hP, hp⟩
      have hkbY : y2.kb = y.kb := hkb2.trans hkb
      replace D2 : DI (0 + k + 1) { y2 with got := y2.got.set n none } x2 s2 (refDo s1.many pg1 pin1 o).1 (refDo s1.many pg1 pin1 o).2.1 := ⟨D2.inv, D2.dk, D2.len, by show (y2.got.set n none).length = 12; rw [List.length_set]; exact D2.got, D2.good⟩
      clear H3
      show LoopP _ _ _
      have dd := D2.inv.dd
      have hsubT : ∀ {W' : World}, Hp [] w W' (stL ({ y2 with got := y2.got.set n none } : GW) x2 s2) → Std W' (dkL x2 s2.d) := fun K => by
        have := K
        rw [stL] at this
        exact this.drop.drop |>.perm (by rw [← List.append_assoc]; exact List.perm_append_comm) |>.std1
      have mkb := mem_kb ({ y2 with got := y2.got.set n none } : GW) x2 s2
      have mas : Asn.own 3 1 ({ y2 with got := y2.got.set n none } : GW).aa s2.asked.length ({ y2 with got := y2.got.set n none } : GW).ac (Sl.intC s2.asked) ∈ stL ({ y2 with got := y2.got.set n none } : GW) x2 s2 := mem_desk (.tail _ (.tail _ (.head _)))
      have has := D2.inv.ca
      refine LoopP.mk (fun mm (i : Int) w' => ∃ j : Nat, mm = 12 - j ∧ j ≤ 12 ∧ i = (j : Int) ∧ Hp [] w w' (stL ({ y2 with got := y2.got.set n none } : GW) x2 s2)) 12 ⟨0, rfl, by omega, rfl, HH⟩ ?_
      clear HH
      rintro mm i W1 next1 ⟨j, rfl, hj, rfl, K⟩ hnext1
      refine br_dec (fun h9 => ?_) (fun h9 => ⟨inR64.2 (by omega), hnext (ops.length - (k + 1)) _ _ (by omega) ⟨k + 1, ({ y2 with got := y2.got.set n none } : GW), x2, s2, _, _, rfl, by omega, by simp, hkbY, D2, hgiY, hA2, hd2, hn2, K⟩⟩)
      have hj12 : j < 12 := by omega
      obtain ⟨P, hP, hPs⟩ := hA2 j
      refine callV (onDisk_spec ({ y2 with got := y2.got.set n none } : GW).kb (deskC ({ y2 with got := y2.got.set n none } : GW) x2 s2) x2 s2.d D2.dk dd rfl j hj12 P hP W1 (K.blk mkb) (hsubT K)) ?_
      rintro e W2 (⟨rfl, K'⟩ | ⟨bp, rfl, K'⟩)
      · replace K := K.ext0 K'; clear K'
        refine ⟨_, _, rfl, br_not (fun _ => onP_mk rfl ⟨_, _, _, K.ld (o := 2) (cs := deskC ({ y2 with got := y2.got.set n none } : GW) x2 s2) (by exact ⟨rfl, rfl, rfl, rfl⟩) gSI mkb rfl, ?_⟩) (fun h => by cases h)⟩
        refine LoopP.mk (fun mm (i : Bool × Int) w' => ∃ t : Nat, mm = s2.asked.length - t ∧ t ≤ s2.asked.length ∧ i = (true, (t : Int)) ∧ Hp [] w w' (stL ({ y2 with got := y2.got.set n none } : GW) x2 s2)) s2.asked.length ⟨0, rfl, by omega, rfl, K⟩ ?_
        clear K
        rintro mm i W3 next2 ⟨t, rfl, ht, rfl, K⟩ hnext2
        dsimp only
        refine br_dec (fun h8 => ?_) (fun h8 => br_not (fun h => by cases h) (fun _ => ⟨inR64.2 (by omega), hnext1 (12 - (j + 1)) _ _ (by omega) ⟨j + 1, rfl, by omega, by simp, K⟩⟩))
        have htl : t < s2.asked.length := by omega
        have hc := (K.ownA mas).cells
        have hat : (Sl.intC s2.asked)[t]? = some (.int .i64 (s2.asked[t] : Int)) := intC_get htl
        obtain ⟨ad, had, _⟩ := hc _ _ hat
        have e3 : Int.toNat (t : Int) * 1 = t := by omega
        exact onP_mk had ⟨⟨by omega, by omega⟩, _, by rw [e3]; exact hc.ld gInt had hat, br_true ⟨inR64.2 (by omega), hnext2 (s2.asked.length - (t + 1)) _ _ (by omega) ⟨t + 1, rfl, by omega, by simp, K⟩⟩⟩
      · replace K := K.ext1 K'; clear K'
        obtain ⟨g, hR, K2⟩ := Hp.openP K
        clear K
        refine ⟨_, _, rfl, br_not (fun h => by cases h) (fun _ => ?_)⟩
        refine callV (Sl.stamp_any hR (K2.blk (.head _))) ?_
        rintro e W3 ⟨rfl, K'⟩
        replace K2 := K2.ext0 K'; clear K'
        refine ⟨_, rfl, onP_mk rfl ⟨_, _, _, K2.ld (o := 2) (cs := deskC ({ y2 with got := y2.got.set n none } : GW) x2 s2) (by exact ⟨rfl, rfl, rfl, rfl⟩) gSI (.tail _ mkb) rfl, ?_⟩⟩
        refine LoopP.mk (fun mm (i : Bool × Int) w' => ∃ t : Nat, mm = s2.asked.length - t ∧ t ≤ s2.asked.length ∧ i = (decide (P.2 = 0 ∨ P.2 ∈ s2.asked.take t), (t : Int)) ∧ Hp [] w w' (Sl.pgA bp g :: stL ({ y2 with got := y2.got.set n none } : GW) x2 s2)) s2.asked.length ⟨0, rfl, by omega, ?_, K2⟩ ?_
        · have : decide ((P.2 : Int) = 0) = decide (P.2 = 0 ∨ P.2 ∈ s2.asked.take 0) := by rw [decide_eq_decide]; simp
          rw [this]; rfl
        clear K2
        rintro mm i W4 next2 ⟨t, rfl, ht, rfl, K⟩ hnext2
        dsimp only
        refine br_dec (fun h8 => ?_) (fun h8 => ?_)
        · have htl : t < s2.asked.length := by omega
          have hc := (K.ownA (.tail _ mas)).cells
          have hat : (Sl.intC s2.asked)[t]? = some (.int .i64 (s2.asked[t] : Int)) := intC_get htl
          obtain ⟨ad, had, _⟩ := hc _ _ hat
          have e3 : Int.toNat (t : Int) * 1 = t := by omega
          have htk : s2.asked.take (t + 1) = s2.asked.take t ++ [s2.asked[t]] := List.take_succ_eq_append_getElem htl
          refine onP_mk had ⟨⟨by omega, by omega⟩, _, by rw [e3]; exact hc.ld gInt had hat, br_mk (fun hkn => ?_) (fun hkn => ?_)⟩
          · have hkn := of_decide_eq_true hkn
            refine ⟨inR64.2 (by omega), hnext2 (s2.asked.length - (t + 1)) _ _ (by omega) ⟨t + 1, rfl, by omega, ?_, K⟩⟩
            have : decide (P.2 = 0 ∨ P.2 ∈ s2.asked.take (t + 1)) = true := by
              rw [decide_eq_true_eq, htk]
              rcases hkn with h | h
              · exact .inl h
              · exact .inr (List.mem_append_left _ h)
            rw [this]; simp
          · have hkn := of_decide_eq_false hkn
            refine callV (Sl.stamp_any hR (K.blk (.head _))) ?_
            rintro e W5 ⟨rfl, K'⟩
            replace K := K.ext0 K'; clear K'
            refine ⟨_, rfl, inR64.2 (by omega), hnext2 (s2.asked.length - (t + 1)) _ _ (by omega) ⟨t + 1, rfl, by omega, ?_, K⟩⟩
            have : decide ((s2.asked[t] : Int) = (P.2 : Int)) = decide (P.2 = 0 ∨ P.2 ∈ s2.asked.take (t + 1)) := by
              rw [decide_eq_decide, htk]
              constructor
              · intro h
                exact .inr (List.mem_append_right _ (by rw [List.mem_singleton]; omega))
              · rintro (h | h)
                · exact absurd (.inl h) hkn
                · rcases List.mem_append.1 h with h | h
                  · exact absurd (.inr h) hkn
                  · rw [List.mem_singleton] at h; omega
            rw [this]; simp
        · have hte : t = s2.asked.length := by omega
          subst hte
          rw [List.take_length]
          rw [decide_eq_true hPs]
          exact br_not (fun h => by cases h) (fun _ => ⟨inR64.2 (by omega), hnext1 (12 - (j + 1)) _ _ (by omega) ⟨j + 1, rfl, by omega, by simp, K.drop⟩⟩)
    case cB =>
      have HH := H3.takeL
      have hgiY : GotIn y2 s2 (refDo s1.many pg1 pin1 o).2.1 := fun n a hn' ha => hgi n a hn' ha (by omega)
      have hkbY : y2.kb = y.kb := hkb2.trans hkb
      clear H3 mo
      have dd := D2.inv.dd
      have hsubT : ∀ {W' : World}, Hp [] w W' (stL y2 x2 s2) → Std W' (dkL x2 s2.d) := fun K => by
        have := K
        rw [stL] at this
        exact this.drop.drop |>.perm (by rw [← List.append_assoc]; exact List.perm_append_comm) |>.std1
      have mkb := mem_kb y2 x2 s2
      have mas : Asn.own 3 1 y2.aa s2.asked.length y2.ac (Sl.intC s2.asked) ∈ stL y2 x2 s2 := mem_desk (.tail _ (.tail _ (.head _)))
      have has := D2.inv.ca
      refine LoopP.mk (fun mm (i : Int) w' => ∃ j : Nat, mm = 12 - j ∧ j ≤ 12 ∧ i = (j : Int) ∧ Hp [] w w' (stL y2 x2 s2)) 12 ⟨0, rfl, by omega, rfl, HH⟩ ?_
      clear HH
      rintro mm i W1 next1 ⟨j, rfl, hj, rfl, K⟩ hnext1
      refine br_dec (fun h9 => ?_) (fun h9 => ⟨inR64.2 (by omega), hnext (ops.length - (k + 1)) _ _ (by omega) ⟨k + 1, y2, x2, s2, _, _, rfl, by omega, by simp, hkbY, D2, hgiY, hA2, hd2, hn2, K⟩⟩)
      have hj12 : j < 12 := by omega
      obtain ⟨P, hP, hPs⟩ := hA2 j
      refine callV (onDisk_spec y2.kb (deskC y2 x2 s2) x2 s2.d D2.dk dd rfl j hj12 P hP W1 (K.blk mkb) (hsubT K)) ?_
      rintro e W2 (⟨rfl, K'⟩ | ⟨bp, rfl, K'⟩)
      · replace K := K.ext0 K'; clear K'
        refine ⟨_, _, rfl, br_not (fun _ => onP_mk rfl ⟨_, _, _, K.ld (o := 2) (cs := deskC y2 x2 s2) (by exact ⟨rfl, rfl, rfl, rfl⟩) gSI mkb rfl, ?_⟩) (fun h => by cases h)⟩
        refine LoopP.mk (fun mm (i : Bool × Int) w' => ∃ t : Nat, mm = s2.asked.length - t ∧ t ≤ s2.asked.length ∧ i = (true, (t : Int)) ∧ Hp [] w w' (stL y2 x2 s2)) s2.asked.length ⟨0, rfl, by omega, rfl, K⟩ ?_
        clear K
        rintro mm i W3 next2 ⟨t, rfl, ht, rfl, K⟩ hnext2
        dsimp only
        refine br_dec (fun h8 => ?_) (fun h8 => br_not (fun h => by cases h) (fun _ => ⟨inR64.2 (by omega), hnext1 (12 - (j + 1)) _ _ (by omega) ⟨j + 1, rfl, by omega, by simp, K⟩⟩))
        have htl : t < s2.asked.length := by omega
        have hc := (K.ownA mas).cells
        have hat : (Sl.intC s2.asked)[t]? = some (.int .i64 (s2.asked[t] : Int)) := intC_get htl
        obtain ⟨ad, had, _⟩ := hc _ _ hat
        have e3 : Int.toNat (t : Int) * 1 = t := by omega
        exact onP_mk had ⟨⟨by omega, by omega⟩, _, by rw [e3]; exact hc.ld gInt had hat, br_true ⟨inR64.2 (by omega), hnext2 (s2.asked.length - (t + 1)) _ _ (by omega) ⟨t + 1, rfl, by omega, by simp, K⟩⟩⟩
      · replace K := K.ext1 K'; clear K'
        obtain ⟨g, hR, K2⟩ := Hp.openP K
        clear K
        refine ⟨_, _, rfl, br_not (fun h => by cases h) (fun _ => ?_)⟩
        refine callV (Sl.stamp_any hR (K2.blk (.head _))) ?_
        rintro e W3 ⟨rfl, K'⟩
        replace K2 := K2.ext0 K'; clear K'
        refine ⟨_, rfl, onP_mk rfl ⟨_, _, _, K2.ld (o := 2) (cs := deskC y2 x2 s2) (by exact ⟨rfl, rfl, rfl, rfl⟩) gSI (.tail _ mkb) rfl, ?_⟩⟩
        refine LoopP.mk (fun mm (i : Bool × Int) w' => ∃ t : Nat, mm = s2.asked.length - t ∧ t ≤ s2.asked.length ∧ i = (decide (P.2 = 0 ∨ P.2 ∈ s2.asked.take t), (t : Int)) ∧ Hp [] w w' (Sl.pgA bp g :: stL y2 x2 s2)) s2.asked.length ⟨0, rfl, by omega, ?_, K2⟩ ?_
        · have : decide ((P.2 : Int) = 0) = decide (P.2 = 0 ∨ P.2 ∈ s2.asked.take 0) := by rw [decide_eq_decide]; simp
          rw [this]; rfl
        clear K2
        rintro mm i W4 next2 ⟨t, rfl, ht, rfl, K⟩ hnext2
        dsimp only
        refine br_dec (fun h8 => ?_) (fun h8 => ?_)
        · have htl : t < s2.asked.length := by omega
          have hc := (K.ownA (.tail _ mas)).cells
          have hat : (Sl.intC s2.asked)[t]? = some (.int .i64 (s2.asked[t] : Int)) := intC_get htl
          obtain ⟨ad, had, _⟩ := hc _ _ hat
          have e3 : Int.toNat (t : Int) * 1 = t := by omega
          have htk : s2.asked.take (t + 1) = s2.asked.take t ++ [s2.asked[t]] := List.take_succ_eq_append_getElem htl
          refine onP_mk had ⟨⟨by omega, by omega⟩, _, by rw [e3]; exact hc.ld gInt had hat, br_mk (fun hkn => ?_) (fun hkn => ?_)⟩
          · have hkn := of_decide_eq_true hkn
            refine ⟨inR64.2 (by omega), hnext2 (s2.asked.length - (t + 1)) _ _ (by omega) ⟨t + 1, rfl, by omega, ?_, K⟩⟩
            have : decide (P.2 = 0 ∨ P.2 ∈ s2.asked.take (t + 1)) = true := by
              rw [decide_eq_true_eq, htk]
              rcases hkn with h | h
              · exact .inl h
              · exact .inr (List.mem_append_left _ h)
            rw [this]; simp
          · have hkn := of_decide_eq_false hkn
            refine callV (Sl.stamp_any hR (K.blk (.head _))) ?_
            rintro e W5 ⟨rfl, K'⟩
            replace K := K.ext0 K'; clear K'
            refine ⟨_, rfl, inR64.2 (by omega), hnext2 (s2.asked.length - (t + 1)) _ _ (by omega) ⟨t + 1, rfl, by omega, ?_, K⟩⟩
            have : decide ((s2.asked[t] : Int) = (P.2 : Int)) = decide (P.2 = 0 ∨ P.2 ∈ s2.asked.take (t + 1)) := by
              rw [decide_eq_decide, htk]
              constructor
              · intro h
                exact .inr (List.mem_append_right _ (by rw [List.mem_singleton]; omega))
              · rintro (h | h)
                · exact absurd (.inl h) hkn
                · rcases List.mem_append.1 h with h | h
                  · exact absurd (.inr h) hkn
                  · rw [List.mem_singleton] at h; omega
            rw [this]; simp
        · have hte : t = s2.asked.length := by omega
          subst hte
          rw [List.take_length]
          rw [decide_eq_true hPs]
          exact br_not (fun h => by cases h) (fun _ => ⟨inR64.2 (by omega), hnext1 (12 - (j + 1)) _ _ (by omega) ⟨j + 1, rfl, by omega, by simp, K.drop⟩⟩)
    case cC =>
      have HH := H3.takeL
      have hgiY : GotIn y2 s2 (refDo s1.many pg1 pin1 o).2.1 := fun n a hn' ha => hgi n a hn' ha (by omega)
      have hkbY : y2.kb = y.kb := hkb2.trans hkb
      clear H3 mo
      have dd := D2.inv.dd
      have hsubT : ∀ {W' : World}, Hp [] w W' (stL y2 x2 s2) → Std W' (dkL x2 s2.d) := fun K => by
        have := K
        rw [stL] at this
        exact this.drop.drop |>.perm (by rw [← List.append_assoc]; exact List.perm_append_comm) |>.std1
      have mkb := mem_kb y2 x2 s2
      have mas : Asn.own 3 1 y2.aa s2.asked.length y2.ac (Sl.intC s2.asked) ∈ stL y2 x2 s2 := mem_desk (.tail _ (.tail _ (.head _)))
      have has := D2.inv.ca
      refine LoopP.mk (fun mm (i : Int) w' => ∃ j : Nat, mm = 12 - j ∧ j ≤ 12 ∧ i = (j : Int) ∧ Hp [] w w' (stL y2 x2 s2)) 12 ⟨0, rfl, by omega, rfl, HH⟩ ?_
      clear HH
      rintro mm i W1 next1 ⟨j, rfl, hj, rfl, K⟩ hnext1
      refine br_dec (fun h9 => ?_) (fun h9 => ⟨inR64.2 (by omega), hnext (ops.length - (k + 1)) _ _ (by omega) ⟨k + 1, y2, x2, s2, _, _, rfl, by omega, by simp, hkbY, D2, hgiY, hA2, hd2, hn2, K⟩⟩)
      have hj12 : j < 12 := by omega
      obtain ⟨P, hP, hPs⟩ := hA2 j
      refine callV (onDisk_spec y2.kb (deskC y2 x2 s2) x2 s2.d D2.dk dd rfl j hj12 P hP W1 (K.blk mkb) (hsubT K)) ?_
      rintro e W2 (⟨rfl, K'⟩ | ⟨bp, rfl, K'⟩)
      · replace K := K.ext0 K'; clear K'
        refine ⟨_, _, rfl, br_not (fun _ => onP_mk rfl ⟨_, _, _, K.ld (o := 2) (cs := deskC y2 x2 s2) (by exact ⟨rfl, rfl, rfl, rfl⟩) gSI mkb rfl, ?_⟩) (fun h => by cases h)⟩
        refine LoopP.mk (fun mm (i : Bool × Int) w' => ∃ t : Nat, mm = s2.asked.length - t ∧ t ≤ s2.asked.length ∧ i = (true, (t : Int)) ∧ Hp [] w w' (stL y2 x2 s2)) s2.asked.length ⟨0, rfl, by omega, rfl, K⟩ ?_
        clear K
        rintro mm i W3 next2 ⟨t, rfl, ht, rfl, K⟩ hnext2
        dsimp only
        refine br_dec (fun h8 => ?_) (fun h8 => br_not (fun h => by cases h) (fun _ => ⟨inR64.2 (by omega), hnext1 (12 - (j + 1)) _ _ (by omega) ⟨j + 1, rfl, by omega, by simp, K⟩⟩))
        have htl : t < s2.asked.length := by omega
        have hc := (K.ownA mas).cells
        have hat : (Sl.intC s2.asked)[t]? = some (.int .i64 (s2.asked[t] : Int)) := intC_get htl
        obtain ⟨ad, had, _⟩ := hc _ _ hat
        have e3 : Int.toNat (t : Int) * 1 = t := by omega
        exact onP_mk had ⟨⟨by omega, by omega⟩, _, by rw [e3]; exact hc.ld gInt had hat, br_true ⟨inR64.2 (by omega), hnext2 (s2.asked.length - (t + 1)) _ _ (by omega) ⟨t + 1, rfl, by omega, by simp, K⟩⟩⟩
      · replace K := K.ext1 K'; clear K'
        obtain ⟨g, hR, K2⟩ := Hp.openP K
        clear K
        refine ⟨_, _, rfl, br_not (fun h => by cases h) (fun _ => ?_)⟩
        refine callV (Sl.stamp_any hR (K2.blk (.head _))) ?_
        rintro e W3 ⟨rfl, K'⟩
        replace K2 := K2.ext0 K'; clear K'
        refine ⟨_, rfl, onP_mk rfl ⟨_, _, _, K2.ld (o := 2) (cs := deskC y2 x2 s2) (by exact ⟨rfl, rfl, rfl, rfl⟩) gSI (.tail _ mkb) rfl, ?_⟩⟩
        refine LoopP.mk (fun mm (i : Bool × Int) w' => ∃ t : Nat, mm = s2.asked.length - t ∧ t ≤ s2.asked.length ∧ i = (decide (P.2 = 0 ∨ P.2 ∈ s2.asked.take t), (t : Int)) ∧ Hp [] w w' (Sl.pgA bp g :: stL y2 x2 s2)) s2.asked.length ⟨0, rfl, by omega, ?_, K2⟩ ?_
        · have : decide ((P.2 : Int) = 0) = decide (P.2 = 0 ∨ P.2 ∈ s2.asked.take 0) := by rw [decide_eq_decide]; simp
          rw [this]; rfl
        clear K2
        rintro mm i W4 next2 ⟨t, rfl, ht, rfl, K⟩ hnext2
        dsimp only
        refine br_dec (fun h8 => ?_) (fun h8 => ?_)
        · have htl : t < s2.asked.length := by omega
          have hc := (K.ownA (.tail _ mas)).cells
          have hat : (Sl.intC s2.asked)[t]? = some (.int .i64 (s2.asked[t] : Int)) := intC_get htl
          obtain ⟨ad, had, _⟩ := hc _ _ hat
          have e3 : Int.toNat (t : Int) * 1 = t := by omega
          have htk : s2.asked.take (t + 1) = s2.asked.take t ++ [s2.asked[t]] := List.take_succ_eq_append_getElem htl
          refine onP_mk had ⟨⟨by omega, by omega⟩, _, by rw [e3]; exact hc.ld gInt had hat, br_mk (fun hkn => ?_) (fun hkn => ?_)⟩
          · have hkn := of_decide_eq_true hkn
            refine ⟨inR64.2 (by omega), hnext2 (s2.asked.length - (t + 1)) _ _ (by omega) ⟨t + 1, rfl, by omega, ?_, K⟩⟩
            have : decide (P.2 = 0 ∨ P.2 ∈ s2.asked.take (t + 1)) = true := by
              rw [decide_eq_true_eq, htk]
              rcases hkn with h | h
              · exact .inl h
              · exact .inr (List.mem_append_left _ h)
            rw [this]; simp
          · have hkn := of_decide_eq_false hkn
            refine callV (Sl.stamp_any hR (K.blk (.head _))) ?_
            rintro e W5 ⟨rfl, K'⟩
            replace K := K.ext0 K'; clear K'
            refine ⟨_, rfl, inR64.2 (by omega), hnext2 (s2.asked.length - (t + 1)) _ _ (by omega) ⟨t + 1, rfl, by omega, ?_, K⟩⟩
            have : decide ((s2.asked[t] : Int) = (P.2 : Int)) = decide (P.2 = 0 ∨ P.2 ∈ s2.asked.take (t + 1)) := by
              rw [decide_eq_decide, htk]
              constructor
              · intro h
                exact .inr (List.mem_append_right _ (by rw [List.mem_singleton]; omega))
              · rintro (h | h)
                · exact absurd (.inl h) hkn
                · rcases List.mem_append.1 h with h | h
                  · exact absurd (.inr h) hkn
                  · rw [List.mem_singleton] at h; omega
            rw [this]; simp
        · have hte : t = s2.asked.length := by omega
          subst hte
          rw [List.take_length]
          rw [decide_eq_true hPs]
          exact br_not (fun h => by cases h) (fun _ => ⟨inR64.2 (by omega), hnext1 (12 - (j + 1)) _ _ (by omega) ⟨j + 1, rfl, by omega, by simp, K.drop⟩⟩)
    case cD =>
      have HH := H3.takeL
      have hgiY : GotIn y2 s2 (refDo s1.many pg1 pin1 o).2.1 := fun n a hn' ha => hgi n a hn' ha (fun h => hk1 h.1)
      have hkbY : y2.kb = y.kb := hkb2.trans hkb
      clear H3 mo
      have dd := D2.inv.dd
      have hsubT : ∀ {W' : World}, Hp [] w W' (stL y2 x2 s2) → Std W' (dkL x2 s2.d) := fun K => by
        have := K
        rw [stL] at this
        exact this.drop.drop |>.perm (by rw [← List.append_assoc]; exact List.perm_append_comm) |>.std1
      have mkb := mem_kb y2 x2 s2
      have mas : Asn.own 3 1 y2.aa s2.asked.length y2.ac (Sl.intC s2.asked) ∈ stL y2 x2 s2 := mem_desk (.tail _ (.tail _ (.head _)))
      have has := D2.inv.ca
      refine LoopP.mk (fun mm (i : Int) w' => ∃ j : Nat, mm = 12 - j ∧ j ≤ 12 ∧ i = (j : Int) ∧ Hp [] w w' (stL y2 x2 s2)) 12 ⟨0, rfl, by omega, rfl, HH⟩ ?_
      clear HH
      rintro mm i W1 next1 ⟨j, rfl, hj, rfl, K⟩ hnext1
      refine br_dec (fun h9 => ?_) (fun h9 => ⟨inR64.2 (by omega), hnext (ops.length - (k + 1)) _ _ (by omega) ⟨k + 1, y2, x2, s2, _, _, rfl, by omega, by simp, hkbY, D2, hgiY, hA2, hd2, hn2, K⟩⟩)
      have hj12 : j < 12 := by omega
      obtain ⟨P, hP, hPs⟩ := hA2 j
      refine callV (onDisk_spec y2.kb (deskC y2 x2 s2) x2 s2.d D2.dk dd rfl j hj12 P hP W1 (K.blk mkb) (hsubT K)) ?_
      rintro e W2 (⟨rfl, K'⟩ | ⟨bp, rfl, K'⟩)
      · replace K := K.ext0 K'; clear K'
        refine ⟨_, _, rfl, br_not (fun _ => onP_mk rfl ⟨_, _, _, K.ld (o := 2) (cs := deskC y2 x2 s2) (by exact ⟨rfl, rfl, rfl, rfl⟩) gSI mkb rfl, ?_⟩) (fun h => by cases h)⟩
        refine LoopP.mk (fun mm (i : Bool × Int) w' => ∃ t : Nat, mm = s2.asked.length - t ∧ t ≤ s2.asked.length ∧ i = (true, (t : Int)) ∧ Hp [] w w' (stL y2 x2 s2)) s2.asked.length ⟨0, rfl, by omega, rfl, K⟩ ?_
        clear K
        rintro mm i W3 next2 ⟨t, rfl, ht, rfl, K⟩ hnext2
        dsimp only
        refine br_dec (fun h8 => ?_) (fun h8 => br_not (fun h => by cases h) (fun _ => ⟨inR64.2 (by omega), hnext1 (12 - (j + 1)) _ _ (by omega) ⟨j + 1, rfl, by omega, by simp, K⟩⟩))
        have htl : t < s2.asked.length := by omega
        have hc := (K.ownA mas).cells
        have hat : (Sl.intC s2.asked)[t]? = some (.int .i64 (s2.asked[t] : Int)) := intC_get htl
        obtain ⟨ad, had, _⟩ := hc _ _ hat
        have e3 : Int.toNat (t : Int) * 1 = t := by omega
        exact onP_mk had ⟨⟨by omega, by omega⟩, _, by rw [e3]; exact hc.ld gInt had hat, br_true ⟨inR64.2 (by omega), hnext2 (s2.asked.length - (t + 1)) _ _ (by omega) ⟨t + 1, rfl, by omega, by simp, K⟩⟩⟩
      · replace K := K.ext1 K'; clear K'
        obtain ⟨g, hR, K2⟩ := Hp.openP K
        clear K
        refine ⟨_, _, rfl, br_not (fun h => by cases h) (fun _ => ?_)⟩
        refine callV (Sl.stamp_any hR (K2.blk (.head _))) ?_
        rintro e W3 ⟨rfl, K'⟩
        replace K2 := K2.ext0 K'; clear K'
        refine ⟨_, rfl, onP_mk rfl ⟨_, _, _, K2.ld (o := 2) (cs := deskC y2 x2 s2) (by exact ⟨rfl, rfl, rfl, rfl⟩) gSI (.tail _ mkb) rfl, ?_⟩⟩
        refine LoopP.mk (fun mm (i : Bool × Int) w' => ∃ t : Nat, mm = s2.asked.length - t ∧ t ≤ s2.asked.length ∧ i = (decide (P.2 = 0 ∨ P.2 ∈ s2.asked.take t), (t : Int)) ∧ Hp [] w w' (Sl.pgA bp g :: stL y2 x2 s2)) s2.asked.length ⟨0, rfl, by omega, ?_, K2⟩ ?_
        · have : decide ((P.2 : Int) = 0) = decide (P.2 = 0 ∨ P.2 ∈ s2.asked.take 0) := by rw [decide_eq_decide]; simp
          rw [this]; rfl
        clear K2
        rintro mm i W4 next2 ⟨t, rfl, ht, rfl, K⟩ hnext2
        dsimp only
        refine br_dec (fun h8 => ?_) (fun h8 => ?_)
        · have htl : t < s2.asked.length := by omega
          have hc := (K.ownA (.tail _ mas)).cells
          have hat : (Sl.intC s2.asked)[t]? = some (.int .i64 (s2.asked[t] : Int)) := intC_get htl
          obtain ⟨ad, had, _⟩ := hc _ _ hat
          have e3 : Int.toNat (t : Int) * 1 = t := by omega
          have htk : s2.asked.take (t + 1) = s2.asked.take t ++ [s2.asked[t]] := List.take_succ_eq_append_getElem htl
          refine onP_mk had ⟨⟨by omega, by omega⟩, _, by rw [e3]; exact hc.ld gInt had hat, br_mk (fun hkn => ?_) (fun hkn => ?_)⟩
          · have hkn := of_decide_eq_true hkn
            refine ⟨inR64.2 (by omega), hnext2 (s2.asked.length - (t + 1)) _ _ (by omega) ⟨t + 1, rfl, by omega, ?_, K⟩⟩
            have : decide (P.2 = 0 ∨ P.2 ∈ s2.asked.take (t + 1)) = true := by
              rw [decide_eq_true_eq, htk]
              rcases hkn with h | h
              · exact .inl h
              · exact .inr (List.mem_append_left _ h)
            rw [this]; simp
          · have hkn := of_decide_eq_false hkn
            refine callV (Sl.stamp_any hR (K.blk (.head _))) ?_
            rintro e W5 ⟨rfl, K'⟩
            replace K := K.ext0 K'; clear K'
            refine ⟨_, rfl, inR64.2 (by omega), hnext2 (s2.asked.length - (t + 1)) _ _ (by omega) ⟨t + 1, rfl, by omega, ?_, K⟩⟩
            have : decide ((s2.asked[t] : Int) = (P.2 : Int)) = decide (P.2 = 0 ∨ P.2 ∈ s2.asked.take (t + 1)) := by
              rw [decide_eq_decide, htk]
              constructor
              · intro h
                exact .inr (List.mem_append_right _ (by rw [List.mem_singleton]; omega))
              · rintro (h | h)
                · exact absurd (.inl h) hkn
                · rcases List.mem_append.1 h with h | h
                  · exact absurd (.inr h) hkn
                  · rw [List.mem_singleton] at h; omega
            rw [this]; simp
        · have hte : t = s2.asked.length := by omega
          subst hte
          rw [List.take_length]
          rw [decide_eq_true hPs]
          exact br_not (fun h => by cases h) (fun _ => ⟨inR64.2 (by omega), hnext1 (12 - (j + 1)) _ _ (by omega) ⟨j + 1, rfl, by omega, by simp, K.drop⟩⟩)
end Go.Proofs.Ytiagjabdfppgkaa
