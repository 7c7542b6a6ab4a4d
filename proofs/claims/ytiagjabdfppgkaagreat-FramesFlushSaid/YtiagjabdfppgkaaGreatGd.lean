/- Frames: hold, Get, Done. -/
import Derived.Test.YtiagjabdfppgkaaGreatGm
set_option linter.unusedVariables false
set_option linter.unusedSimpArgs false
set_option maxRecDepth 100000
namespace Go.Proofs.YtiagjabdfppgkaaGreat
open Go Go.Vc Go.Vault

/-! ### hold -/
def holdL (y : GW) (x : DW) (s : St) (k b n : Nat) : List Asn := poolA y x { s with pages := max s.pages (n + 1) } :: .own 61 1 y.fa s.fs.length y.fc (ptrsF (y.fs.set k (b, 0))) :: (deskL y x s ++ (frsL (y.fs.eraseIdx k) (s.fs.eraseIdx k) ++ dkL x s.d))
theorem ptrsF_put {ws : List (Nat × Nat)} {k : Nat} (b p : Nat) : ptrsF (ws.set k (b, p)) = (ptrsF ws).set k (.pointer (some ⟨b, 0, none⟩)) := by simp [ptrsF, List.map_set]
theorem hold_shut {y : GW} {x : DW} {s : St} {k b p n : Nat} (hk : k < s.fs.length) (hl : y.fs.length = s.fs.length) (F : Fr) :
    (.blk b (frC (b, p) F) 63 :: pageA p F.pg :: holdL y x s k b n).Perm (stL { y with fs := y.fs.set k (b, p) } x { s with fs := s.fs.set k F, pages := max s.pages (n + 1) }) := by
  have := st_shut (y := y) (x := x) (s := { s with pages := max s.pages (n + 1) }) hk hl (b, p) F
  rw [ptrsF_put] at this
  rw [holdL, ptrsF_put]
  exact this.symm
def HoldBad (y : GW) (x : DW) (s : St) (B : List Nat) (w : World) (e : Ending) (w' : World) : Prop :=
  ∃ (y1 : GW) (x1 : DW) (s1 : St) (c : Int), c ≠ 0 ∧ e = .returned (.tuple #[.pointer none, .int .i64 c]) ∧ SeatY y y1 x x1 ∧ x1.Ok s1.d ∧ y1.fs = y.fs ∧ FreeBad s s1 c ∧ Hp B w w' (stL y1 x1 s1)
theorem hold_spec (y : GW) (x : DW) (s : St) (ok : StOk y x s) {N : Nat} (fit : s.d.Fit N) (hN : N ≤ 800000) (hsz : 0 ≤ s.d.size nData) (hfl : s.fs.length ≤ s.many) (hh : s.fs.length = s.many → s.hand < s.fs.length) (n : Nat) (hn : n < 4096) (pv : Option Addr) (w : World) (st : Std w (stL y x s)) :
    Calls Tryz.prog 37 #[.pointer (some ⟨y.pb, 0, none⟩), .int .i64 (n : Int), .pointer pv] w fun e w' =>
      (∃ (y1 : GW) (x1 : DW) (s1 : St) (k b : Nat), e = .returned (.tuple #[.pointer (some ⟨b, 0, none⟩), .int .i64 0]) ∧ SeatY y y1 x x1 ∧ x1.Ok s1.d ∧ y1.fs.length = s1.fs.length ∧ k < s1.fs.length ∧ (∀ i, i ≠ k → y1.fs[i]? = y.fs[i]?) ∧ FreeOk s s1 k ∧
        Hp (feet (stL y x s)) w w' (.blk b [.int .i64 (n : Int), .pointer pv, .int .i64 0, .bool false, .bool true] 63 :: holdL y1 x1 s1 k b n)) ∨
      HoldBad y x s (feet (stL y x s)) w e w' := by
  apply hold.ok; unfold hold.vc
  refine callV (free_spec y x s ok fit hN hsz hfl hh w st) ?_
  generalize hB : feet (stL y x s) = B
  rintro e w1 (⟨y1, x1, s1, k, rfl, hS, hx1, hl1, hk, hoth, hF, H⟩ | ⟨y1, x1, s1, c, hc, rfl, hS, hx1, hl1, hF, H⟩)
  · refine ⟨_, _, rfl, br_ndec (fun h => absurd rfl h) (fun _ => ?_)⟩
    have e1 : Int.toNat (k : Int) * 1 = k := by omega
    rw [stK] at H
    have epb := hS.pb
    rw [← epb]
    have hown := H.ownA (a := y1.fa) (n := s1.fs.length) (c := y1.fc) (xs := ptrsF y1.fs) (.tail _ (.head _))
    have hpl : k < (ptrsF y1.fs).length := by simp [ptrsF]; omega
    obtain ⟨ad, had, _⟩ := hown.at hpl
    have hpg : s1.pages ≤ 4096 := by
      have h9 := ok.pages
      rcases hF with ⟨_, _, F, rfl⟩ | ⟨_, fs1, h1, f, _, _, _, _, ⟨_, rfl⟩ | ⟨_, g, _, _, rfl⟩⟩ <;> exact h9
    refine onP_mk rfl ⟨_, _, _, H.ld (o := 4) (cs := poolC y1 x1 s1) (by exact ⟨rfl, rfl, rfl, rfl⟩) gSF (.head _) rfl, ?_⟩
    intro b w2 hn1
    replace H := H.new (cs := [.int .i64 (n : Int), .pointer pv, .int .i64 0, .bool false, .bool true]) (by exact ⟨rfl, rfl, rfl, rfl⟩) hn1; clear hn1
    have H2 := H.pull2
    clear H
    rw [fsA] at H2
    refine onP_mk had ⟨⟨by omega, by omega⟩, ?_⟩
    rw [e1]
    refine Hp.stO1 H2 (by exact ⟨rfl, rfl, rfl, rfl⟩) gPF had rfl rfl hpl ?_
    clear H2; intro w3 H
    refine onP_mk rfl ⟨_, H.ld (o := 6) (cs := poolC y1 x1 s1) (by exact ⟨rfl, rfl, rfl, rfl⟩) gInt (.tail _ (.tail _ (.head _))) rfl, inR64.2 (by omega), ?_⟩
    have em : max (s1.pages : Int) ((n : Int) + 1) = ((max s1.pages (n + 1) : Nat) : Int) := by omega
    rw [em]
    have H2 := H.pull2
    clear H
    rw [poolA] at H2
    refine onP_mk rfl (Hp.st (o := 6) H2 (by exact ⟨rfl, rfl, rfl, rfl⟩) gInt rfl rfl (by simp [poolC]) (cs' := poolC y1 x1 { s1 with pages := max s1.pages (n + 1) }) rfl ?_)
    clear H2; intro w4 H
    have K := (H.ownA (.tail _ (.head _))).cells
    have hat : ((ptrsF y1.fs).set k (.pointer (some ⟨b, 0, none⟩)))[k]? = some (.pointer (some ⟨b, 0, none⟩)) := by rw [List.getElem?_set_self hpl]
    refine onP_mk rfl ⟨_, _, _, H.ld (o := 4) (cs := poolC y1 x1 { s1 with pages := max s1.pages (n + 1) }) (by exact ⟨rfl, rfl, rfl, rfl⟩) gSF (.head _) rfl, onP_mk had ⟨⟨by omega, by show (k : Int) < (s1.fs.length : Int); omega⟩, _, K.ld gPF had hat, ?_⟩⟩
    left
    refine ⟨y1, x1, s1, k, b, rfl, hS, hx1, hl1, hk, hoth, hF, ?_⟩
    rw [holdL, ptrsF_put, poolA]
    exact H.pull2
  · refine ⟨_, _, rfl, br_ndec (fun _ => ?_) (fun h => absurd h hc)⟩
    right
    exact ⟨y1, x1, s1, c, hc, rfl, hS, hx1, hl1, hF, H⟩

/-! ### where a page lies -/
def PA (y : GW) (s : St) (n a : Nat) : Prop := ∃ (j : Nat) (w : Nat × Nat) (f : Fr), y.fs[j]? = some w ∧ s.fs[j]? = some f ∧ f.n = n ∧ w.2 = a
def Keep (pin : Nat → Nat) (y : GW) (s : St) (y1 : GW) (s1 : St) : Prop := ∀ n a, 0 < pin n → PA y s n a → PA y1 s1 n a
theorem Keep.refl (pin : Nat → Nat) (y : GW) (s : St) : Keep pin y s y s := fun _ _ _ h => h
theorem find_some {fs : List Fr} {n : Int} {j : Nat} (h : findN fs n = some j) : ∃ f, fs[j]? = some f ∧ (f.n : Int) = n := by
  rw [findN, List.findIdx?_eq_some_iff_getElem] at h
  obtain ⟨hj, h1, _⟩ := h
  exact ⟨_, List.getElem?_eq_getElem hj, by simpa using h1⟩
theorem find_no {fs : List Fr} {n : Int} (h : findN fs n = none) : ∀ f ∈ fs, (f.n : Int) ≠ n := by
  rw [findN, List.findIdx?_eq_none_iff] at h
  intro f hf
  simpa using h f hf
theorem SameFs.held {fs gs : List Fr} (h : SameFs fs gs) {n : Nat} (hn : ∀ f ∈ fs, f.n ≠ n) : ∀ g ∈ gs, g.n ≠ n := fun g hg => by
  obtain ⟨j, hj, rfl⟩ := List.getElem_of_mem hg
  have hl := h.len
  rw [(h.at_ j _ _ (List.getElem?_eq_getElem (by omega)) (List.getElem?_eq_getElem hj)).1]
  exact hn _ (List.getElem_mem _)
/-- what is pinned stays where it is, where a frame was made free -/
theorem free_keep {C : Nat} {s s1 : St} {pg : Nat → AP} {pin : Nat → Nat} (h : Inv C s pg pin) {y y1 : GW} {k : Nat} {w : Nat × Nat} {F : Fr} {p : Nat} (hk : k < s1.fs.length) (hl : y1.fs.length = s1.fs.length) (hyl : y.fs.length = s.fs.length) (hoth : ∀ i, i ≠ k → y1.fs[i]? = y.fs[i]?) (hF : FreeOk s s1 k) : Keep pin y s { y1 with fs := y1.fs.set k w } { s1 with fs := s1.fs.set k F, pages := p } := by
  rintro n a hp ⟨j, wj, f, hw, hf, hfn, hwa⟩
  have hpf : 0 < f.pins := by rw [(h.core.held f (List.mem_of_getElem? hf)).2, hfn]; exact hp
  have hjl := (List.getElem?_eq_some_iff.1 hf).1
  have key : j ≠ k ∧ ∃ f', s1.fs[j]? = some f' ∧ f'.n = f.n := by
    rcases hF with ⟨_, rfl, F', rfl⟩ | ⟨_, fs1, h1, f1, hs, _, hf1, hp0, hc⟩
    · exact ⟨by omega, f, by show (s.fs ++ [F'])[j]? = _; rw [List.getElem?_append_left hjl]; exact hf, rfl⟩
    · have hlen := hs.len
      have e1 : s1.fs = fs1 := by rcases hc with ⟨_, rfl⟩ | ⟨_, g, _, _, rfl⟩ <;> rfl
      refine ⟨fun e => ?_, fs1[j]'(by omega), by rw [e1]; exact List.getElem?_eq_getElem (by omega), ?_⟩
      · subst e
        have := (hs.at_ j f f1 hf hf1).2.2.1
        omega
      · exact (hs.at_ j f _ hf (List.getElem?_eq_getElem (by omega))).1
  obtain ⟨hjk, f', hf', hn'⟩ := key
  refine ⟨j, wj, f', ?_, ?_, hn'.trans hfn, hwa⟩
  · show (y1.fs.set k w)[j]? = _
    rw [List.getElem?_set_ne (Ne.symm hjk), hoth j hjk]; exact hw
  · show (s1.fs.set k F)[j]? = _
    rw [List.getElem?_set_ne (Ne.symm hjk)]; exact hf'
theorem bad_keep {s s1 : St} {pin : Nat → Nat} {y y1 : GW} {c : Int} (hy : y1.fs = y.fs) (hF : FreeBad s s1 c) : Keep pin y s y1 s1 ∧ s1.fs.length = s.fs.length := by
  obtain ⟨_, fs1, h1, hs, _, hc⟩ := hF
  have e1 : s1.fs = fs1 := by rcases hc with ⟨_, _, rfl⟩ | ⟨k, f, g, _, _, _, _, _, rfl⟩ <;> rfl
  have hlen := hs.len
  refine ⟨?_, by rw [e1]; exact hlen⟩
  rintro n a hp ⟨j, wj, f, hw, hf, hfn, hwa⟩
  have hjl := (List.getElem?_eq_some_iff.1 hf).1
  exact ⟨j, wj, fs1[j]'(by omega), by rw [hy]; exact hw, by rw [e1]; exact List.getElem?_eq_getElem (by omega), (hs.at_ j f _ hf (List.getElem?_eq_getElem (by omega))).1.trans hfn, hwa⟩
/-- one frame turned: the others stay -/
theorem turn_keep {pin : Nat → Nat} {y : GW} {s : St} {k : Nat} {f F : Fr} (hf : s.fs[k]? = some f) (hn : F.n = f.n) : Keep pin y s y { s with fs := s.fs.set k F } := by
  rintro n a hp ⟨j, wj, f2, hw, hf2, hfn, hwa⟩
  by_cases e : j = k
  · subst e
    rw [hf] at hf2; cases hf2
    exact ⟨j, wj, F, hw, by show (s.fs.set j F)[j]? = _; rw [List.getElem?_set_self (List.getElem?_eq_some_iff.1 hf).1], hn.trans hfn, hwa⟩
  · exact ⟨j, wj, f2, hw, by show (s.fs.set k F)[j]? = _; rw [List.getElem?_set_ne (Ne.symm e)]; exact hf2, hfn, hwa⟩
theorem eqvF {w : World} {p : Option Addr} {x y : Operand} : Eqv Tryz.prog .eql 61 x y w (.pointer p) (.pointer none) p.isNone := eqv_ptrE gundPF
theorem eqvFN {w : World} {p : Option Addr} {x y : Operand} : Eqv Tryz.prog .neq 61 x y w (.pointer p) (.pointer none) (!p.isNone) := eqv_ptrN gundPF

/-! ### Get -/
structure Done1 (y : GW) (x : DW) (s : St) (pin : Nat → Nat) (y1 : GW) (x1 : DW) (s1 : St) : Prop where
  seat : SeatY y y1 x x1
  dk : x1.Ok s1.d
  len : y1.fs.length = s1.fs.length
  mv : Mv s s1
  keep : Keep pin y s y1 s1
/-- an error, where all is held as it was -/
def Err (C : Nat) (s s1 : St) (pg : Nat → AP) (pin : Nat → Nat) (n : Nat) (c : Int) : Prop := c ≠ 0 ∧ Inv (C + 1) s1 pg pin ∧ s1.pages = s.pages ∧ ((c = 120 ∧ s.many ≤ pinN pin) ∨ Trouble s c)
def GetPost (C : Nat) (y : GW) (x : DW) (s : St) (pg : Nat → AP) (pin : Nat → Nat) (n : Nat) (B : List Nat) (w : World) (e : Ending) (w' : World) : Prop :=
  ∃ (y1 : GW) (x1 : DW) (s1 : St), Done1 y x s pin y1 x1 s1 ∧ Hp B w w' (stL y1 x1 s1) ∧ (s.fs = [] → s1.fs.map (·.n) = [n] ∧ s1.asked = s.asked) ∧
    ((∃ a, e = .returned (.tuple #[.pointer (some ⟨a, 0, none⟩), .int .i64 0]) ∧ PA y1 s1 n a ∧ Inv (C + 1) s1 pg (upd pin n (pin n + 1)) ∧ s1.pages = max s.pages (n + 1) ∧ ¬ (pin n = 0 ∧ s.many ≤ pinN pin) ∧ (pin n = 0 → ∀ f ∈ s1.fs, f.n = n → f.dirty = false → InFile s1.d n (pg n))) ∨
     (∃ c, e = .returned (.tuple #[.pointer none, .int .i64 c]) ∧ pin n = 0 ∧ Err C s s1 pg pin n c))
theorem Inv.pin {C : Nat} {s : St} {pg : Nat → AP} {pin : Nat → Nat} (h : Inv C s pg pin) {f : Fr} (hf : f ∈ s.fs) : f.pins = pin f.n := (h.core.held f hf).2
theorem Inv.hfl {C : Nat} {s : St} {pg : Nat → AP} {pin : Nat → Nat} (h : Inv C s pg pin) : s.fs.length = s.many → s.hand < s.fs.length := fun e => by
  have := h.many
  have := h.hand
  omega
theorem Inv.size {C : Nat} {s : St} {pg : Nat → AP} {pin : Nat → Nat} (h : Inv C s pg pin) : 0 ≤ s.d.size nData := by rw [h.dd.size]; omega
/-- a frame of one's own turned -/
theorem Inv.turn {C : Nat} {s : St} {pg pg' : Nat → AP} {pin pin' : Nat → Nat} (h : Inv C s pg pin) {j : Nat} {f F : Fr} (hf : s.fs[j]? = some f) (hn : F.n = f.n) (hp : F.pins ≤ C + 1) (hc : Core s.d (F :: s.fs.eraseIdx j) pg' pin') : Inv (C + 1) { s with fs := s.fs.set j F } pg' pin' := by
  have hj := (List.getElem?_eq_some_iff.1 hf).1
  refine ⟨hc.perm (set_perm hj F).symm, h.dd, h.len, fun g hg => ?_, h.pages, h.many, by show (s.fs.set j F).length ≤ s.many; rw [List.length_set]; exact h.fl, by show s.hand = 0 ∨ s.hand < (s.fs.set j F).length; rw [List.length_set]; exact h.hand, fun g hg => ?_, by have := h.ca; show s.asked.length ≤ _; omega⟩
  · rcases List.mem_or_eq_of_mem_set hg with hg | rfl
    · exact h.le g hg
    · rw [hn]; exact h.le f (List.mem_of_getElem? hf)
  · rcases List.mem_or_eq_of_mem_set hg with hg | rfl
    · have := h.cp g hg; omega
    · exact hp
theorem mv_fs (s : St) (fs : List Fr) : Mv s { s with fs := fs } := ⟨rfl, rfl, fun _ h => h, fun h => ⟨h, fun h => h⟩, fun _ => rfl⟩
set_option maxHeartbeats 2000000 in
theorem get_spec {C : Nat} (hC : C ≤ 900) (y : GW) (x : DW) (s : St) {pg : Nat → AP} {pin : Nat → Nat} (I : Inv C s pg pin) (hx : x.Ok s.d) (hyl : y.fs.length = s.fs.length) (hg12 : y.got.length = 12) (n : Nat) (hn : n < 12) (w : World) (st : Std w (stL y x s)) :
    Calls Tryz.prog 15 #[.pointer (some ⟨y.pb, 0, none⟩), .int .i64 (n : Int)] w fun e w' => GetPost C y x s pg pin n (feet (stL y x s)) w e w' := by
  have ok := I.stOk (by omega) hx hyl hg12
  apply fget.ok; unfold fget.vc
  refine br_dec (fun h => by omega) (fun _ => br_dec (fun h => by omega) (fun _ => ?_))
  refine callV (ffind_spec y x s ok n w st) ?_
  rintro e w1 ⟨rfl, rfl⟩
  refine ⟨_, rfl, _, eqvF, ?_⟩
  have H := Hp.startL st
  generalize hB : feet (stL y x s) = B at H ⊢
  cases hfd : findN s.fs (n : Int) with
  | some j =>
    obtain ⟨f, hf, hfn⟩ := find_some hfd
    have hj := (List.getElem?_eq_some_iff.1 hf).1
    obtain ⟨wf, f', hw, hf'⟩ := ok.at hj
    rw [hf] at hf'; cases hf'
    have hfn : f.n = n := by omega
    subst hfn
    have hpin := I.pin (List.mem_of_getElem? hf)
    have hpl : f.pins ≤ C := I.cp f (List.mem_of_getElem? hf)
    simp only [frP, hw, Option.map_some]
    refine br_mk (fun h => by cases h) (fun _ => ?_)
    have H2 : Hp B w1 w1 (.blk wf.1 (frC wf f) 63 :: pageA wf.2 f.pg :: stK y x s j) := H.perm (st_open hw hf)
    clear H
    refine onP_mk rfl ⟨_, H2.ld (o := 2) (cs := frC wf f) (by exact ⟨rfl, rfl, rfl, rfl⟩) gInt (.head _) rfl, inR64.2 (by omega), ?_⟩
    refine onP_mk rfl (Hp.st (o := 2) H2 (by exact ⟨rfl, rfl, rfl, rfl⟩) gInt rfl rfl (by simp [frC]) (cs' := frC wf { f with pins := f.pins + 1 }) rfl ?_)
    clear H2; intro w2 H
    refine onP_mk rfl (Hp.st (o := 4) H (by exact ⟨rfl, rfl, rfl, rfl⟩) gBool rfl rfl (by simp [frC]) (cs' := frC wf { f with pins := f.pins + 1, used := true }) rfl ?_)
    clear H; intro w3 H
    refine onP_mk rfl ⟨_, H.ld (o := 1) (cs := frC wf { f with pins := f.pins + 1, used := true }) (by exact ⟨rfl, rfl, rfl, rfl⟩) gPG (.head _) rfl, ?_⟩
    have H2 : Hp B w1 w3 (stL y x { s with fs := s.fs.set j { f with pins := f.pins + 1, used := true } }) := H.perm (st_turn1 (x := x) hw hj hyl _).symm
    have hc := I.core.perm (at_perm hf)
    refine ⟨y, x, { s with fs := s.fs.set j { f with pins := f.pins + 1, used := true } }, ⟨SeatY.refl y x, hx, by show _ = (s.fs.set j _).length; rw [List.length_set]; exact hyl, mv_fs _ _, turn_keep hf rfl⟩, H2, (fun h => by rw [h] at hj; simp at hj), .inl ⟨wf.2, rfl, ⟨j, wf, { f with pins := f.pins + 1, used := true }, hw, by show (s.fs.set j _)[j]? = _; rw [List.getElem?_set_self hj], rfl, rfl⟩, ?_, ?_, fun h => ?_, fun h g hg hgn hgd => ?_⟩⟩
    · refine I.turn hf rfl (by show f.pins + 1 ≤ _; omega) ?_
      have := hc.pins (f.pins + 1) (b := f.dirty) (u := true) (fun h => by omega)
      rw [← hpin]; exact this
    · have := I.le f (List.mem_of_getElem? hf)
      show s.pages = _
      omega
    · have h1 := I.core.pinned_lt (List.mem_of_getElem? hf) (by rw [hpin]; exact h.1)
      have := I.fl
      omega
    · refine I.core.file _ fun g' hg' e => ?_
      have hnd := I.core.nd
      have e1 : g' = f := by
        have hp := (at_perm hf).mem_iff.1 hg'
        rcases List.mem_cons.1 hp with h1 | h1
        · exact h1
        · exact absurd e (hc.other g' h1)
      subst e1
      have e2 : g.dirty = g'.dirty := by
        have hp := (set_perm hj { g' with pins := g'.pins + 1, used := true }).mem_iff.1 hg
        rcases List.mem_cons.1 hp with h1 | h1
        · rw [h1]
        · exact absurd hgn (hc.other g h1)
      exact ⟨by rw [← e2]; exact hgd, by rw [hpin]; exact h⟩
  | none =>
    have hno := find_no hfd
    have hno' : ∀ f ∈ s.fs, f.n ≠ n := fun f hf e => hno f hf (by omega)
    have hp0 := I.core.free n hno'
    refine br_mk (fun _ => ?_) (fun h => by cases h)
    obtain ⟨g, hR, hg⟩ := I.core.file n fun f hf e => absurd e (hno' f hf)
    have hsub : ∀ w', Chg [] w1 w' → Std w' (dkL x s.d) := fun w' hc => by
      have := (H.chg0 hc)
      rw [stL] at this
      exact this.drop.drop |>.perm (by rw [← List.append_assoc]; exact List.perm_append_comm) |>.std1
    refine callV (fread_spec y x s hx I.dd.dead I.dd.find n (by omega) (pg n) hR hg w1 (H.blk (mem_pool y x s)) (hsub w1 (Chg.refl _ _))) ?_
    rintro e w2 ⟨b, rfl, H'⟩
    have H2 : Hp B w1 w2 (stL y x s ++ [pageA b (pg n)]) := (H.ext H').perm List.perm_append_comm
    clear H H'
    refine ⟨_, _, rfl, br_ndec (fun h => absurd rfl h) (fun _ => ?_)⟩
    refine callV (hold_spec y x s ok I.fit (by omega) I.size I.fl I.hfl n (by omega) (some ⟨b, 0, none⟩) w2 H2.std1) ?_
    rintro e w3 (⟨y1, x1, s1, k, fb, rfl, hS, hx1, hl1, hk, hoth, hF, H'⟩ | ⟨y1, x1, s1, c, hc, rfl, hS, hx1, hl1, hF, H'⟩)
    · have H3 := H2.useL H'
      clear H2 H'
      refine ⟨_, _, rfl, br_ndec (fun h => absurd rfl h) (fun _ => ?_)⟩
      obtain ⟨c1, c2, c3, c4, c5, c6, c7, c8, c9, c10, c11⟩ := free_ok I hk hF
      replace H3 : Hp B w1 w3 (.blk fb [.int .i64 (n : Int), .pointer (some ⟨b, 0, none⟩), .int .i64 0, .bool false, .bool true] 63 :: (holdL y1 x1 s1 k fb n ++ [pageA b (pg n)])) := H3
      refine onP_mk rfl ⟨_, H3.ld (o := 2) (cs := [.int .i64 (n : Int), .pointer (some ⟨b, 0, none⟩), .int .i64 0, .bool false, .bool true]) (by exact ⟨rfl, rfl, rfl, rfl⟩) gInt (.head _) rfl, inR64.2 (by omega), ?_⟩
      refine onP_mk rfl (Hp.st (o := 2) H3 (by exact ⟨rfl, rfl, rfl, rfl⟩) gInt rfl rfl (by simp) (cs' := [.int .i64 (n : Int), .pointer (some ⟨b, 0, none⟩), .int .i64 1, .bool false, .bool true]) rfl ?_)
      clear H3; intro w4 H
      refine onP_mk rfl (Hp.st (o := 4) H (by exact ⟨rfl, rfl, rfl, rfl⟩) gBool rfl rfl (by simp) (cs' := frC (fb, b) ⟨n, pg n, 1, false, true⟩) rfl ?_)
      clear H; intro w5 H
      refine onP_mk rfl ⟨_, H.ld (o := 1) (cs := frC (fb, b) ⟨n, pg n, 1, false, true⟩) (by exact ⟨rfl, rfl, rfl, rfl⟩) gPG (.head _) rfl, ?_⟩
      have H2 : Hp B w1 w5 (stL { y1 with fs := y1.fs.set k (fb, b) } x1 { s1 with fs := s1.fs.set k ⟨n, pg n, 1, false, true⟩, pages := max s1.pages (n + 1) }) := H.perm ((List.Perm.cons _ (List.perm_append_comm (l₂ := [pageA b (pg n)]))).trans (hold_shut (p := b) hk hl1 ⟨n, pg n, 1, false, true⟩))
      have hadd := c1.add (f := ⟨n, pg n, 0, false, true⟩) (c11 n hno') hn rfl (.inr rfl) (fun _ => rfl)
      have hadd2 : Core s1.d (⟨n, pg n, 0, false, true⟩ :: s1.fs.eraseIdx k) pg pin := by
        rw [upd_same pg rfl] at hadd; exact hadd
      have hcore := hadd2.pins 1 (b := false) (u := true) (fun h => by omega)
      have hpe : upd pin n (pin n + 1) = upd pin n 1 := by rw [hp0]
      refine ⟨{ y1 with fs := y1.fs.set k (fb, b) }, x1, { s1 with fs := s1.fs.set k ⟨n, pg n, 1, false, true⟩, pages := max s1.pages (n + 1) }, ⟨⟨hS.kb, hS.kv, hS.pb, hS.got, hS.xb⟩, hx1, by simp [hl1], ?_, free_keep I hk hl1 hyl hoth hF⟩, H2, (fun h => by
        rcases hF with ⟨_, hk0, F, rfl⟩ | ⟨h9, _⟩
        · rw [h] at hk0
          have hk0 : k = 0 := hk0
          subst hk0
          refine ⟨?_, rfl⟩
          show ((s.fs ++ [F]).set 0 _).map _ = _
          rw [h]; rfl
        · rw [h] at h9
          have := I.many
          exact absurd (by simp; omega) h9), .inl ⟨b, rfl, ⟨k, (fb, b), ⟨n, pg n, 1, false, true⟩, by show (y1.fs.set k (fb, b))[k]? = _; rw [List.getElem?_set_self (by omega)], by show (s1.fs.set k _)[k]? = _; rw [List.getElem?_set_self hk], rfl, rfl⟩, ?_, by show max s1.pages (n + 1) = _; rw [c4], fun h => by omega, fun _ g hg hgn hgd => ?_⟩⟩
      · exact Mv.trans c9 ⟨rfl, rfl, fun _ h => h, fun h => ⟨h, fun h => h⟩, fun _ => rfl⟩
      · rw [hpe]
        have hpl := I.pages
        refine ⟨hcore.perm (set_perm hk _).symm, c2, ?_, fun g hg => ?_, ?_, ?_, ?_, ?_, fun g hg => ?_, ?_⟩
        · show s1.d.len 0 ≤ 8 * max s1.pages (n + 1)
          omega
        · rcases List.mem_cons.1 ((set_perm hk _).mem_iff.1 hg) with rfl | hg
          · show n < max s1.pages (n + 1)
            omega
          · have := (c5 g hg).1
            show g.n < max s1.pages (n + 1)
            omega
        · show max s1.pages (n + 1) ≤ 12
          omega
        · have := c9.many
          have := I.many
          show 4 ≤ s1.many ∧ s1.many ≤ 64
          omega
        · have := c9.many
          show (s1.fs.set k _).length ≤ s1.many
          rw [List.length_set]; omega
        · show s1.hand = 0 ∨ s1.hand < (s1.fs.set k _).length
          rw [List.length_set]; exact c8
        · rcases List.mem_cons.1 ((set_perm hk _).mem_iff.1 hg) with rfl | hg
          · show 1 ≤ C + 1
            omega
          · have := (c5 g hg).2
            omega
        · show s1.asked.length ≤ _
          omega
      · exact c1.file n fun f hf e => absurd e (c11 n hno' f hf)
    · have H3 := H2.useL H'
      clear H2 H'
      refine ⟨_, _, rfl, br_ndec (fun _ => ?_) (fun h => absurd h hc)⟩
      obtain ⟨b1, b2, b3, b4⟩ := free_bad I hc hF
      have hk := bad_keep (pin := pin) (y := y) hl1 hF
      exact ⟨y1, x1, s1, ⟨hS, hx1, by rw [hl1, hk.2]; exact hyl, b2, hk.1⟩, H3.takeL, (fun h => by
        obtain ⟨h9, _⟩ := hF
        rw [h] at h9
        have := I.many
        exact absurd (by simp; omega) h9), .inr ⟨c, rfl, hp0, hc, b1, b3, b4⟩⟩
end Go.Proofs.YtiagjabdfppgkaaGreat
/- Frames: Done, Set, Flush. -/
namespace Go.Proofs.YtiagjabdfppgkaaGreat
open Go Go.Vc Go.Vault

theorem Core.one {d : Dk} {fs : List Fr} {pg : Nat → AP} {pin : Nat → Nat} (h : Core d fs pg pin) {j : Nat} {f g : Fr} (hf : fs[j]? = some f) (hg : g ∈ fs) (e : g.n = f.n) : g = f := by
  rcases List.mem_cons.1 ((at_perm hf).mem_iff.1 hg) with h1 | h1
  · exact h1
  · exact absurd e ((h.perm (at_perm hf)).other g h1)
/-! ### Done -/
def DoneR (C : Nat) (s : St) (pg : Nat → AP) (pin : Nat → Nat) (n : Int) (s1 : St) (r : Bool) : Prop :=
  (r = true ∧ ∃ m : Nat, n = (m : Int) ∧ 0 < pin m ∧ Inv (C + 1) s1 pg (upd pin m (pin m - 1))) ∨ (r = false ∧ (∀ m : Nat, n = (m : Int) → pin m = 0) ∧ s1 = s)
/-- what it turns beside -/
structure DoneX (s : St) (n : Int) (ch : Bool) (s1 : St) (r : Bool) : Prop where
  asked : s1.asked = s.asked
  d : s1.d = s.d
  fs : s1.fs.map (·.n) = s.fs.map (·.n)
  dirty : r = true → ch = true → ∀ f ∈ s1.fs, (f.n : Int) = n → f.dirty = true
theorem DoneX.no (s : St) (n : Int) (ch : Bool) : DoneX s n ch s false := ⟨rfl, rfl, rfl, fun h => by cases h⟩
set_option maxHeartbeats 1000000 in
theorem fdone_spec {C : Nat} (hC : C ≤ 900) (y : GW) (x : DW) (s : St) {pg : Nat → AP} {pin : Nat → Nat} (I : Inv C s pg pin) (hx : x.Ok s.d) (hyl : y.fs.length = s.fs.length) (hg12 : y.got.length = 12) (n : Int) (ch : Bool)
    (hf : ch = true ∨ ∀ f ∈ s.fs, (f.n : Int) = n → f.dirty = false → InFile s.d f.n (pg f.n)) (w : World) (st : Std w (stL y x s)) :
    Calls Tryz.prog 17 #[.pointer (some ⟨y.pb, 0, none⟩), .int .i64 n, .bool ch] w fun e w' => ∃ (s1 : St) (r : Bool), e = .returned (.bool r) ∧ Done1 y x s pin y x s1 ∧ Hp (feet (stL y x s)) w w' (stL y x s1) ∧ s1.pages = s.pages ∧ DoneR C s pg pin n s1 r ∧ DoneX s n ch s1 r := by
  have ok := I.stOk (by omega) hx hyl hg12
  apply fdone.ok; unfold fdone.vc
  refine callV (ffind_spec y x s ok n w st) ?_
  rintro e w1 ⟨rfl, rfl⟩
  have H := Hp.startL st
  generalize hB : feet (stL y x s) = B at H ⊢
  have hrefl : Done1 y x s pin y x s := ⟨SeatY.refl y x, hx, hyl, Mv.refl s, Keep.refl _ _ _⟩
  refine ⟨_, rfl, br_dec (fun h => ⟨s, false, rfl, hrefl, H, rfl, .inr ⟨rfl, fun m hm => by omega, rfl⟩, DoneX.no _ _ _⟩) (fun h => ⟨_, eqvF, ?_⟩)⟩
  cases hfd : findN s.fs n with
  | none =>
    have hno := find_no hfd
    exact br_mk (fun _ => ⟨s, false, rfl, hrefl, H, rfl, .inr ⟨rfl, fun m hm => I.core.free m fun f hf e => hno f hf (by omega), rfl⟩, DoneX.no _ _ _⟩) (fun h => by cases h)
  | some j =>
    obtain ⟨f, hfj, hfn⟩ := find_some hfd
    have hj := (List.getElem?_eq_some_iff.1 hfj).1
    obtain ⟨wf, f', hw, hf'⟩ := ok.at hj
    rw [hfj] at hf'; cases hf'
    have hmem := List.mem_of_getElem? hfj
    have hpin := I.pin hmem
    simp only [frP, hw, Option.map_some]
    refine br_mk (fun h => by cases h) (fun _ => ?_)
    refine onP_mk rfl ⟨_, H.ld (o := 2) (cs := frC wf f) (by exact ⟨rfl, rfl, rfl, rfl⟩) gInt (mem_fr hw hfj) rfl, br_dec (fun h0 => ?_) (fun h0 => ?_)⟩
    · exact ⟨s, false, rfl, hrefl, H, rfl, .inr ⟨rfl, fun m hm => by
        have : m = f.n := by omega
        rw [this, ← hpin]; omega, rfl⟩, DoneX.no _ _ _⟩
    · have hpl := I.cp f hmem
      have H2 : Hp B w1 w1 (.blk wf.1 (frC wf f) 63 :: pageA wf.2 f.pg :: stK y x s j) := H.perm (st_open hw hfj)
      clear H
      refine onP_mk rfl ⟨_, H2.ld (o := 2) (cs := frC wf f) (by exact ⟨rfl, rfl, rfl, rfl⟩) gInt (.head _) rfl, inR64.2 (by omega), ?_⟩
      have ep : (f.pins : Int) - 1 = ((f.pins - 1 : Nat) : Int) := by omega
      rw [ep]
      refine onP_mk rfl (Hp.st (o := 2) H2 (by exact ⟨rfl, rfl, rfl, rfl⟩) gInt rfl rfl (by simp [frC]) (cs' := frC wf { f with pins := f.pins - 1 }) rfl ?_)
      clear H2; intro w2 H
      have fin : ∀ (b : Bool) (w3 : World), (b = false → ch = false ∧ f.dirty = false) → Hp B w1 w3 (.blk wf.1 (frC wf { f with pins := f.pins - 1, dirty := b }) 63 :: pageA wf.2 f.pg :: stK y x s j) → ∃ (s1 : St) (r : Bool), Ending.returned (.bool true) = .returned (.bool r) ∧ Done1 y x s pin y x s1 ∧ Hp B w1 w3 (stL y x s1) ∧ s1.pages = s.pages ∧ DoneR C s pg pin n s1 r ∧ DoneX s n ch s1 r := by
        intro b w3 hb H3
        have H4 : Hp B w1 w3 (stL y x { s with fs := s.fs.set j { f with pins := f.pins - 1, dirty := b } }) := H3.perm (st_turn1 (x := x) hw hj hyl _).symm
        have hc := I.core.perm (at_perm hfj)
        refine ⟨{ s with fs := s.fs.set j { f with pins := f.pins - 1, dirty := b } }, true, rfl, ⟨SeatY.refl y x, hx, by show _ = (s.fs.set j _).length; rw [List.length_set]; exact hyl, mv_fs _ _, turn_keep hfj rfl⟩, H4, rfl, .inl ⟨rfl, f.n, by omega, by omega, ?_⟩, rfl, rfl, ?_, fun _ hch g hg hgn => ?_⟩
        · refine I.turn hfj rfl (by show f.pins - 1 ≤ _; omega) ?_
          have := hc.pins (f.pins - 1) (b := b) (u := f.used) (fun h1 h2 => by
            obtain ⟨h3, h4⟩ := hb h2
            rcases hf with h5 | h5
            · rw [h3] at h5; cases h5
            · exact h5 f hmem hfn h4)
          rw [← hpin]; exact this
        · show (s.fs.set j _).map (·.n) = _
          rw [List.map_set]
          exact set_same (by rw [List.getElem?_map, hfj]; rfl)
        · rcases List.mem_cons.1 ((set_perm hj _).mem_iff.1 hg) with h1 | h1
          · rw [h1]
            show b = true
            cases hbb : b with
            | true => rfl
            | false => have := (hb hbb).1; rw [hch] at this; cases this
          · exact absurd (by omega) (hc.other g h1)
      refine onP_mk rfl ⟨_, H.ld (o := 3) (cs := frC wf { f with pins := f.pins - 1 }) (by exact ⟨rfl, rfl, rfl, rfl⟩) gBool (.head _) rfl, br_mk (fun hd => ?_) (fun hd => ?_)⟩
      · refine onP_mk rfl (Hp.st (o := 3) H (by exact ⟨rfl, rfl, rfl, rfl⟩) gBool rfl rfl (by simp [frC]) (cs' := frC wf { f with pins := f.pins - 1, dirty := true }) rfl ?_)
        clear H; intro w3 H
        exact fin true w3 (fun h => by cases h) H
      · refine onP_mk rfl (Hp.st (o := 3) H (by exact ⟨rfl, rfl, rfl, rfl⟩) gBool rfl rfl (by simp [frC]) (cs' := frC wf { f with pins := f.pins - 1, dirty := ch }) rfl ?_)
        clear H; intro w3 H
        exact fin ch w3 (fun h => ⟨h, hd⟩) H

/-! ### Set -/
def SetPost (C : Nat) (y : GW) (x : DW) (s : St) (pg : Nat → AP) (pin : Nat → Nat) (n : Nat) (P : AP) (B : List Nat) (w : World) (e : Ending) (w' : World) : Prop :=
  ∃ (y1 : GW) (x1 : DW) (s1 : St) (c : Int), Done1 y x s pin y1 x1 s1 ∧ Hp B w w' (stL y1 x1 s1) ∧ e = .returned (.int .i64 c) ∧
    ((c = 0 ∧ Inv (C + 1) s1 (upd pg n P) pin ∧ s1.pages = max s.pages (n + 1) ∧ pin n = 0 ∧ pinN pin < s.many) ∨
     (c = 120 ∧ 0 < pin n ∧ s1 = s) ∨ Err C s s1 pg pin n c)
set_option maxHeartbeats 2000000 in
theorem fset_spec {C : Nat} (hC : C ≤ 900) (y : GW) (x : DW) (s : St) {pg : Nat → AP} {pin : Nat → Nat} (I : Inv C s pg pin) (hx : x.Ok s.d) (hyl : y.fs.length = s.fs.length) (hg12 : y.got.length = 12) (n : Nat) (hn : n < 12) (b0 : Nat) (g0 : Sl.Pg) (P : AP) (hR0 : Sl.Rep g0 P.1 P.2) (w : World) (st : Std w (stL y x s ++ [Sl.pgA b0 g0])) :
    Calls Tryz.prog 50 #[.pointer (some ⟨y.pb, 0, none⟩), .int .i64 (n : Int), .pointer (some ⟨b0, 0, none⟩)] w fun e w' => SetPost C y x s pg pin n P (feet (stL y x s ++ [Sl.pgA b0 g0])) w e w' := by
  have ok := I.stOk (by omega) hx hyl hg12
  apply fset.ok; unfold fset.vc
  have H := Hp.startL st
  generalize hB : feet (stL y x s ++ [Sl.pgA b0 g0]) = B at H ⊢
  refine callV (ffind_spec y x s ok n w H.std1) ?_
  rintro e w1 ⟨rfl, rfl⟩
  refine ⟨_, rfl, br_dec (fun h => by omega) (fun _ => br_dec (fun h => by omega) (fun _ => ⟨_, eqvFN, ?_⟩))⟩
  -- the copy, and what is stored then, at a frame in front
  have lay : ∀ (w2 : World) (wb : Nat) (F : Fr) (pv : Value) (L : List Asn) (R : Ending → World → Prop), Hp B w1 w2 (.blk wb [.int .i64 (F.n : Int), pv, .int .i64 (F.pins : Int), .bool F.dirty, .bool F.used] 63 :: (L ++ [Sl.pgA b0 g0])) →
      (∀ w3 b, Hp B w1 w3 (.blk wb (frC (wb, b) { F with pg := P, dirty := true, used := true }) 63 :: pageA b P :: (L ++ [Sl.pgA b0 g0])) → R (.returned (.int .i64 0)) w3) →
      CallV Tryz.prog 79 [.pointer (some ⟨b0, 0, none⟩)] w2 fun e w' => ∃ p, e = .returned (.pointer p) ∧ onP (some (⟨wb, 0, none⟩ : Addr)) fun a => ∃ w1, Go.Vc.St Tryz.prog 37 w' (a.add 1) (.pointer p) w1 ∧ onP (some (⟨wb, 0, none⟩ : Addr)) fun a => ∃ w1_1, Go.Vc.St Tryz.prog 4 w1 (a.add 3) (.bool true) w1_1 ∧ onP (some (⟨wb, 0, none⟩ : Addr)) fun a => ∃ w1, Go.Vc.St Tryz.prog 4 w1_1 (a.add 4) (.bool true) w1 ∧ R (.returned (.int .i64 0)) w1 := by
    intro w2 wb F pv L R K hk
    refine callV (Sl.clone_any b0 g0 w2 ⟨hR0.ok, K.blk (.tail _ (List.mem_append_right _ (.head _)))⟩) ?_
    rintro e w3 ⟨b, rfl, H'⟩
    have K2 := (K.ext1 H').pull1
    clear K H'
    refine ⟨_, rfl, onP_mk rfl (Hp.st (o := 1) K2 (by exact ⟨rfl, rfl, rfl, rfl⟩) gPG rfl rfl (by simp) (cs' := [.int .i64 (F.n : Int), .pointer (some ⟨b, 0, none⟩), .int .i64 (F.pins : Int), .bool F.dirty, .bool F.used]) rfl ?_)⟩
    clear K2; intro w4 K
    refine onP_mk rfl (Hp.st (o := 3) K (by exact ⟨rfl, rfl, rfl, rfl⟩) gBool rfl rfl (by simp) (cs' := [.int .i64 (F.n : Int), .pointer (some ⟨b, 0, none⟩), .int .i64 (F.pins : Int), .bool true, .bool F.used]) rfl ?_)
    clear K; intro w5 K
    refine onP_mk rfl (Hp.st (o := 4) K (by exact ⟨rfl, rfl, rfl, rfl⟩) gBool rfl rfl (by simp) (cs' := frC (wb, b) { F with pg := P, dirty := true, used := true }) rfl ?_)
    clear K; intro w6 K
    exact hk w6 b (Hp.shutP (P := P) hR0 K.pull1).pull1
  cases hfd : findN s.fs (n : Int) with
  | some j =>
    obtain ⟨f, hf, hfn⟩ := find_some hfd
    have hj := (List.getElem?_eq_some_iff.1 hf).1
    obtain ⟨wf, f', hw, hf'⟩ := ok.at hj
    rw [hf] at hf'; cases hf'
    have hfn : f.n = n := by omega
    subst hfn
    have hmem := List.mem_of_getElem? hf
    have hpin := I.pin hmem
    simp only [frP, hw, Option.map_some]
    refine br_not (fun _ => ?_) (fun h => by cases h)
    refine onP_mk rfl ⟨_, H.ld (o := 2) (cs := frC wf f) (by exact ⟨rfl, rfl, rfl, rfl⟩) gInt (List.mem_append_left _ (mem_fr hw hf)) rfl, br_dec (fun h0 => ?_) (fun h0 => ⟨_, eqvF, br_mk (fun h => by cases h) (fun _ => ?_)⟩)⟩
    · exact ⟨y, x, s, 120, ⟨SeatY.refl y x, hx, hyl, Mv.refl s, Keep.refl _ _ _⟩, H.takeL, rfl, .inr (.inl ⟨rfl, by omega, rfl⟩)⟩
    · have H2 : Hp B w1 w1 (.blk wf.1 (frC wf f) 63 :: ((pageA wf.2 f.pg :: stK y x s j) ++ [Sl.pgA b0 g0])) := H.perm ((st_open hw hf).append_right _)
      refine lay w1 wf.1 f _ _ _ H2 ?_
      clear H2 H; intro w3 b H
      have H2 : Hp B w1 w3 (stL { y with fs := y.fs.set j (wf.1, b) } x { s with fs := s.fs.set j { f with pg := P, dirty := true, used := true } }) := by
        have H3 : Hp B w1 w3 ((frL (wf.1, b) { f with pg := P, dirty := true, used := true } ++ stK y x s j) ++ ([pageA wf.2 f.pg] ++ [Sl.pgA b0 g0])) := H.perm (by rw [frL]; (refine perm_cnt fun ff gg h0 hc ha hpm => ?_; simp only [ha, hc, h0]; omega))
        exact (H3.takeL).perm (st_turn (x := x) (w' := (wf.1, b)) hw hj hyl rfl _).symm
      have hc := (I.core.perm (at_perm hf)).page P (b := true) (u := true) (.inl rfl)
      refine ⟨{ y with fs := y.fs.set j (wf.1, b) }, x, { s with fs := s.fs.set j { f with pg := P, dirty := true, used := true } }, 0, ⟨⟨rfl, rfl, rfl, rfl, rfl⟩, hx, ?_, mv_fs _ _, ?_⟩, H2, rfl, .inl ⟨rfl, ?_, ?_, by omega, ?_⟩⟩
      · show (y.fs.set j _).length = (s.fs.set j _).length
        rw [List.length_set, List.length_set]; exact hyl
      · rintro m a hp ⟨i, wi, f2, hwi, hfi, hfm, hwa⟩
        have hij : i ≠ j := fun e => by
          subst e
          rw [hf] at hfi; cases hfi
          rw [hfm] at hpin
          omega
        exact ⟨i, wi, f2, by show (y.fs.set j _)[i]? = _; rw [List.getElem?_set_ne (Ne.symm hij)]; exact hwi, by show (s.fs.set j _)[i]? = _; rw [List.getElem?_set_ne (Ne.symm hij)]; exact hfi, hfm, hwa⟩
      · exact I.turn hf rfl (by have := I.cp f hmem; show f.pins ≤ _; omega) hc
      · have := I.le f hmem
        show s.pages = _
        omega
      · have := I.core.pinned_lt hmem (by omega)
        have := I.fl
        omega
  | none =>
    have hno := find_no hfd
    have hno' : ∀ f ∈ s.fs, f.n ≠ n := fun f hf e => hno f hf (by omega)
    have hp0 := I.core.free n hno'
    refine br_not (fun h => by cases h) (fun _ => ⟨_, eqvF, br_mk (fun _ => ?_) (fun h => by cases h)⟩)
    refine callV (hold_spec y x s ok I.fit (by omega) I.size I.fl I.hfl n (by omega) none w1 H.std1) ?_
    rintro e w3 (⟨y1, x1, s1, k, fb, rfl, hS, hx1, hl1, hk, hoth, hF, H'⟩ | ⟨y1, x1, s1, c, hc, rfl, hS, hx1, hl1, hF, H'⟩)
    · have H3 := H.useL H'
      clear H H'
      refine ⟨_, _, rfl, br_ndec (fun h => absurd rfl h) (fun _ => ?_)⟩
      obtain ⟨c1, c2, c3, c4, c5, c6, c7, c8, c9, c10, c11⟩ := free_ok I hk hF
      refine lay w3 fb ⟨n, P, 0, false, true⟩ _ _ _ H3 ?_
      clear H3; intro w4 b H
      have H2 : Hp B w1 w4 (stL { y1 with fs := y1.fs.set k (fb, b) } x1 { s1 with fs := s1.fs.set k ⟨n, P, 0, true, true⟩, pages := max s1.pages (n + 1) }) := by
        have H3 : Hp B w1 w4 ((.blk fb (frC (fb, b) ⟨n, P, 0, true, true⟩) 63 :: pageA b P :: holdL y1 x1 s1 k fb n) ++ [Sl.pgA b0 g0]) := H
        exact H3.takeL.perm (hold_shut (p := b) hk hl1 ⟨n, P, 0, true, true⟩)
      have hcore : Core s1.d (⟨n, P, 0, true, true⟩ :: s1.fs.eraseIdx k) (upd pg n P) pin := by
        have h1 := c1.add (f := ⟨n, pg n, 0, false, true⟩) (c11 n hno') hn rfl (.inr rfl) (fun _ => rfl)
        rw [upd_same pg rfl] at h1
        exact h1.page P (b := true) (u := true) (.inl rfl)
      refine ⟨{ y1 with fs := y1.fs.set k (fb, b) }, x1, { s1 with fs := s1.fs.set k ⟨n, P, 0, true, true⟩, pages := max s1.pages (n + 1) }, 0, ⟨⟨hS.kb, hS.kv, hS.pb, hS.got, hS.xb⟩, hx1, by simp [hl1], ?_, free_keep I hk hl1 hyl hoth hF⟩, H2, rfl, .inl ⟨rfl, ?_, by show max s1.pages (n + 1) = _; rw [c4], hp0, by omega⟩⟩
      · exact Mv.trans c9 ⟨rfl, rfl, fun _ h => h, fun h => ⟨h, fun h => h⟩, fun _ => rfl⟩
      · have hpl := I.pages
        refine ⟨hcore.perm (set_perm hk _).symm, c2, ?_, fun g hg => ?_, ?_, ?_, ?_, ?_, fun g hg => ?_, ?_⟩
        · show s1.d.len 0 ≤ 8 * max s1.pages (n + 1)
          omega
        · rcases List.mem_cons.1 ((set_perm hk _).mem_iff.1 hg) with rfl | hg
          · show n < max s1.pages (n + 1)
            omega
          · have := (c5 g hg).1
            show g.n < max s1.pages (n + 1)
            omega
        · show max s1.pages (n + 1) ≤ 12
          omega
        · have := c9.many
          have := I.many
          show 4 ≤ s1.many ∧ s1.many ≤ 64
          omega
        · have := c9.many
          show (s1.fs.set k _).length ≤ s1.many
          rw [List.length_set]; omega
        · show s1.hand = 0 ∨ s1.hand < (s1.fs.set k _).length
          rw [List.length_set]; exact c8
        · rcases List.mem_cons.1 ((set_perm hk _).mem_iff.1 hg) with rfl | hg
          · show 0 ≤ C + 1
            omega
          · have := (c5 g hg).2
            omega
        · show s1.asked.length ≤ _
          omega
    · have H3 := H.useL H'
      clear H H'
      refine ⟨_, _, rfl, br_ndec (fun _ => ?_) (fun h => absurd h hc)⟩
      obtain ⟨b1, b2, b3, b4⟩ := free_bad I hc hF
      have hk := bad_keep (pin := pin) (y := y) hl1 hF
      exact ⟨y1, x1, s1, c, ⟨hS, hx1, by rw [hl1, hk.2]; exact hyl, b2, hk.1⟩, H3.takeL, rfl, .inr (.inr ⟨hc, b1, b3, b4⟩)⟩
end Go.Proofs.YtiagjabdfppgkaaGreat
/- Frames: Flush. -/
namespace Go.Proofs.YtiagjabdfppgkaaGreat
open Go Go.Vc Go.Vault

/-- all that is held is clean, and the file lasts -/
structure Clean (s : St) : Prop where
  clean : ∀ f ∈ s.fs, f.dirty = false ∧ f.pins = 0
  firm : (s.d.file 0).firm = (s.d.file 0).now
  since : (s.d.file 0).since = []
def FlushPost (C : Nat) (y : GW) (x : DW) (s : St) (pg : Nat → AP) (pin : Nat → Nat) (B : List Nat) (w : World) (e : Ending) (w' : World) : Prop :=
  ∃ (y1 : GW) (x1 : DW) (s1 : St) (c : Int), Done1 y x s pin y1 x1 s1 ∧ Hp B w w' (stL y1 x1 s1) ∧ e = .returned (.int .i64 c) ∧ s1.pages = s.pages ∧ Inv (C + 1) s1 pg pin ∧
    ((c = 120 ∧ 0 < pinN pin) ∨ (c = 0 ∧ pinN pin = 0 ∧ Clean s1 ∧ s1.asked.length = s.asked.length + (nums isDirty s.fs).length ∧ ∀ f ∈ s.fs, f.dirty = true → f.n * 8 + 8 ≤ s1.d.len 0) ∨ (pinN pin = 0 ∧ Trouble s c))
theorem Inv.up {C : Nat} {s : St} {pg : Nat → AP} {pin : Nat → Nat} (h : Inv C s pg pin) : Inv (C + 1) s pg pin :=
  ⟨h.core, h.dd, h.len, h.le, h.pages, h.many, h.fl, h.hand, fun f hf => by have := h.cp f hf; omega, by have := h.ca; omega⟩
theorem mem_sortZ {z : Int} {l : List Int} : z ∈ sortZ l ↔ z ∈ l := (List.mergeSort_perm l _).mem_iff
theorem len_mem {α : Type} {l : List α} (h : 0 < l.length) : ∃ x, x ∈ l := by
  cases l with
  | nil => simp at h
  | cons x r => exact ⟨x, .head _⟩
theorem sync_core {d : Dk} (h : DD d) (f : Fl) (hf : f.now = (d.file 0).now) (n : Nat) : pageB (d.denies.put 0 f) 0 n = pageB d 0 n :=
  pageB_same fun t _ => by rw [secAt, h.denies.file_put, hf]; rfl
theorem wr_turn {y : GW} {x : DW} {s : St} {k : Nat} {w : Nat × Nat} (hw : y.fs[k]? = some w) (hk : k < s.fs.length) (hl : y.fs.length = s.fs.length) (F : Fr) : (stL y x { s with fs := s.fs.set k F }).Perm (wrL y x s w F ++ (fsA y s :: frsL (y.fs.eraseIdx k) (s.fs.eraseIdx k))) := by
  have hp := st_turn1 (x := x) hw hk hl F
  refine hp.trans ?_
  rw [frL, stK, wrL]
  (refine perm_cnt fun ff gg h0 hc ha hpm => ?_; simp only [ha, hc, h0]; omega)
set_option maxHeartbeats 2000000 in
theorem fflush_spec {C : Nat} (hC : C ≤ 900) (y : GW) (x : DW) (s : St) {pg : Nat → AP} {pin : Nat → Nat} (I : Inv C s pg pin) (hx : x.Ok s.d) (hyl : y.fs.length = s.fs.length) (hg12 : y.got.length = 12) (w : World) (st : Std w (stL y x s)) :
    Calls Tryz.prog 9 #[.pointer (some ⟨y.pb, 0, none⟩)] w fun e w' => FlushPost C y x s pg pin (feet (stL y x s)) w e w' := by
  have ok := I.stOk (by omega) hx hyl hg12
  apply fflush.ok; unfold fflush.vc
  have S := Hp.startL st
  generalize hB : feet (stL y x s) = B at S ⊢
  refine callV (numbers_spec y x s ok isPinned _ w st fun w' wf f h => fflushC_x w' wf f h) ?_
  rintro e w1 ⟨a0, c0, rfl, H0⟩
  have H1 := S.chg0 H0.chg
  clear S H0
  refine ⟨_, _, _, rfl, br_dec (fun h => ?_) (fun h => ?_)⟩
  · refine ⟨y, x, s, 120, ⟨SeatY.refl y x, hx, hyl, Mv.refl s, Keep.refl _ _ _⟩, H1, rfl, rfl, I.up, .inl ⟨rfl, ?_⟩⟩
    have : 0 < (nums isPinned s.fs).length := by omega
    rw [nums, List.length_map] at this
    rw [I.core.pinned]; exact this
  · have hz : pinN pin = 0 := by
      have : (nums isPinned s.fs).length = 0 := by omega
      rw [nums, List.length_map] at this
      rw [I.core.pinned]; exact this
    have hp0 : ∀ f ∈ s.fs, f.pins = 0 := fun f hf => by
      rcases Nat.eq_zero_or_pos f.pins with h0 | h0
      · exact h0
      · rw [I.core.pinned] at hz
        have : f ∈ s.fs.filter fun f => decide (0 < f.pins) := List.mem_filter.2 ⟨hf, by simpa using h0⟩
        have := List.length_pos_of_mem this
        omega
    have hk0 : ∀ n, pin n = 0 := fun n => by
      by_cases hx : ∀ f ∈ s.fs, f.n ≠ n
      · exact I.core.free n hx
      · apply Classical.byContradiction
        intro hne
        exact hx fun f hf e => hne (by rw [← e, ← I.pin hf]; exact hp0 f hf)
    have keepAll : ∀ y1 s1, Keep pin y s y1 s1 := fun y1 s1 n a hp => by rw [hk0 n] at hp; omega
    refine callV (dirty_spec y x s ok w1 H1.std) ?_
    rintro e w2 ⟨a, c, rfl, H'⟩
    obtain ⟨L, hL⟩ : ∃ L, L = sortZ (nums isDirty s.fs) := ⟨_, rfl⟩
    have hLl : (nums isDirty s.fs).length = L.length := by rw [hL, sortZ_len]
    have hLle : L.length ≤ 64 := by
      rw [← hLl, nums, List.length_map]
      have := List.length_filter_le isDirty s.fs
      have := ok.len
      omega
    have hLnd : L.Nodup := by
      rw [hL]
      refine (List.mergeSort_perm _ _).nodup_iff.2 ?_
      have h1 : ((s.fs.filter isDirty).map (·.n)).Nodup := I.core.nd.sublist (List.filter_sublist.map _)
      have h2 : nums isDirty s.fs = ((s.fs.filter isDirty).map (·.n)).map fun n : Nat => (n : Int) := by rw [nums, List.map_map]; rfl
      rw [h2]
      exact List.pairwise_map.2 (h1.imp fun h e => h (by omega))
    rw [← hL, hLl] at H'
    rw [hLl]
    have H2 : Hp B w w2 (stL y x s ++ [.own 3 1 a L.length c (L.map (.int .i64))]) := (H1.ext H').perm List.perm_append_comm
    clear H1 H'
    refine ⟨_, _, _, rfl, ?_⟩
    refine LoopP.mk (fun m (i : Int) w' => ∃ (k : Nat) (y1 : GW) (x1 : DW) (s1 : St), m = L.length - k ∧ k ≤ L.length ∧ i = (k : Int) ∧ SeatY y y1 x x1 ∧ x1.Ok s1.d ∧ y1.fs = y.fs ∧ s1.fs.length = s.fs.length ∧ Mv s s1 ∧ s1.pages = s.pages ∧ Core s1.d s1.fs pg pin ∧ DD s1.d ∧ s1.d.len 0 ≤ 8 * s1.pages ∧ (∀ f ∈ s1.fs, f.n < s1.pages) ∧ s1.hand = s.hand ∧ (∀ f ∈ s1.fs, f.pins = 0) ∧ s1.asked.length = s.asked.length + k ∧ (∀ z ∈ L.take k, z * 8 + 8 ≤ (s1.d.len 0 : Int)) ∧ (∀ f ∈ s1.fs, f.dirty = true ↔ (f.n : Int) ∈ L.drop k) ∧ (∀ z ∈ L, ∃ f ∈ s1.fs, (f.n : Int) = z) ∧ Hp B w w' (stL y1 x1 s1 ++ [.own 3 1 a L.length c (L.map (.int .i64))])) L.length ⟨0, y, x, s, rfl, by omega, rfl, SeatY.refl y x, hx, rfl, rfl, Mv.refl s, rfl, I.core, I.dd, I.len, I.le, rfl, hp0, rfl, by simp, ?_, ?_, H2⟩ ?_
    · intro f hf
      rw [List.drop_zero]
      constructor
      · intro hd
        rw [hL]
        exact mem_sortZ.2 (List.mem_map.2 ⟨f, List.mem_filter.2 ⟨hf, hd⟩, rfl⟩)
      · intro hm
        rw [hL] at hm
        obtain ⟨f', hf', e⟩ := List.mem_map.1 (mem_sortZ.1 hm)
        obtain ⟨j, hj, rfl⟩ := List.getElem_of_mem hf
        have h3 := List.mem_filter.1 hf'
        have := I.core.one (List.getElem?_eq_getElem hj) h3.1 (by omega)
        rw [← this]; exact h3.2
    · intro z hz2
      rw [hL] at hz2
      obtain ⟨f, hf, e⟩ := List.mem_map.1 (mem_sortZ.1 hz2)
      exact ⟨f, (List.mem_filter.1 hf).1, e⟩
    clear H2 w1 w2
    rintro m i w1 next ⟨k, y1, x1, s1, rfl, hk, rfl, hS, hx1, hyf, hsl, hmv, hpgs, hcore, hdd, hlen, hle, hhand, hp1, hask0, hlow, hdirty, hheld, H⟩ hnext
    have hask : s1.asked.length ≤ 100 * C + k := by have := I.ca; omega
    have I1 : ∀ s2 : St, s2.fs.length = s1.fs.length → Core s2.d s2.fs pg pin → DD s2.d → s2.d.len 0 ≤ 8 * s2.pages → (∀ f ∈ s2.fs, f.n < s2.pages) → s2.pages = s.pages → s2.many = s.many → s2.hand = s.hand → (∀ f ∈ s2.fs, f.pins = 0) → s2.asked.length ≤ 100 * C + 100 → Inv (C + 1) s2 pg pin := fun s2 h1 h2 h3 h4 h5 h6 h7 h8 h9 h10 =>
      ⟨h2, h3, h4, h5, by rw [h6]; exact I.pages, by rw [h7]; exact I.many, by rw [h7, h1, hsl]; exact I.fl, by rw [h8, h1, hsl]; exact I.hand, fun f hf => by rw [h9 f hf]; omega, by omega⟩
    have I2 := I1 s1 rfl hcore hdd hlen hle hpgs hmv.many hhand hp1 (by omega)
    have hy1l : y1.fs.length = s1.fs.length := by rw [hyf, hsl]; exact hyl
    have ok1 := I2.stOk (by omega) hx1 hy1l (by rw [hS.got]; exact hg12)
    have epb := hS.pb
    have exb := hS.xb
    rw [← epb]
    refine br_dec (fun h2 => ?_) (fun h2 => ?_)
    · have hkl : k < L.length := by omega
      have hown := (H.ownA (List.mem_append_right _ (.head _))).cells
      have hat : (L.map (Value.int .i64))[k]? = some (.int .i64 L[k]) := by simp [hkl]
      obtain ⟨ad, had, _⟩ := hown _ _ hat
      have e1 : Int.toNat (k : Int) * 1 = k := by omega
      refine onP_mk had ⟨⟨by omega, by omega⟩, _, by rw [e1]; exact hown.ld gInt had hat, ?_⟩
      refine callV (ffind_spec y1 x1 s1 ok1 _ w1 H.std1) ?_
      rintro e w2 ⟨rfl, rfl⟩
      obtain ⟨f0, hf0, ef0⟩ := hheld _ (List.getElem_mem hkl)
      cases hfd : findN s1.fs L[k] with
      | none => exact absurd ef0 (find_no hfd f0 hf0)
      | some j =>
        obtain ⟨f, hf, hfn⟩ := find_some hfd
        have hj := (List.getElem?_eq_some_iff.1 hf).1
        have hmem := List.mem_of_getElem? hf
        have hdk : L.drop k = L[k] :: L.drop (k + 1) := List.drop_eq_getElem_cons hkl
        have hfd2 : f.dirty = true := (hdirty f hmem).2 (by rw [hfn, hdk]; exact .head _)
        obtain ⟨wf, f', hw, hf'⟩ := ok1.at hj
        rw [hf] at hf'; cases hf'
        simp only [frP, hw, Option.map_some]
        refine ⟨_, rfl, ?_⟩
        have H3 : Hp B w w2 (wrL y1 x1 s1 wf f ++ ((fsA y1 s1 :: frsL (y1.fs.eraseIdx j) (s1.fs.eraseIdx j)) ++ [.own 3 1 a L.length c (L.map (.int .i64))])) := by
          rw [← List.append_assoc]
          exact H.perm ((wr_perm hw hf).append_right _)
        clear H hown
        have hsm := hcore.small f hmem
        refine callV (fwrite_spec y1 x1 s1 ok1 I2.fit (by omega) I2.size wf f (by omega) w2 H3.std1) ?_
        rintro e w3 ⟨g, hR, rfl, x2, a2, c2, hx2b, hx2, H'⟩
        have H4 := H3.useL H'
        clear H3 H'
        obtain ⟨v1, v2, v3, v4, v5, v6, v7, v8⟩ := wrote_step hdd hsm hR
        have hfl := hle f hmem
        refine ⟨_, rfl, br_ndec (fun hE => ?_) (fun hE => ?_)⟩
        · have hfw : f.wrote (wroteE s1 f g.bs) = f := by rw [Fr.wrote, if_neg hE]
          rw [hfw] at H4
          have H5 : Hp B w w3 (stL { y1 with aa := a2, ac := c2 } x2 (s1.wrote f g.bs) ++ [.own 3 1 a L.length c (L.map (.int .i64))]) := by
            refine H4.perm ?_
            rw [← List.append_assoc]
            exact ((wr_perm (y := { y1 with aa := a2, ac := c2 }) (x := x2) (s := s1.wrote f g.bs) hw hf).symm.append_right _)
          have hT : Trouble s1 (wroteE s1 f g.bs) := by
            rcases v4 with h9 | h9
            · exact absurd h9 hE
            · exact h9
          have hct : Core (s1.wrote f g.bs).d s1.fs pg pin := ((hcore.perm (at_perm hf)).torn hfd2 v2).perm (at_perm hf).symm
          refine ⟨{ y1 with aa := a2, ac := c2 }, x2, s1.wrote f g.bs, _, ⟨⟨hS.kb, hS.kv, hS.pb, hS.got, hx2b.trans hS.xb⟩, hx2, hy1l, hmv.trans v6, keepAll _ _⟩, H5.takeL, rfl, hpgs, ?_, .inr (.inr ⟨hz, hT.back hmv⟩)⟩
          exact I1 (s1.wrote f g.bs) rfl hct v1 (by show _ ≤ 8 * s1.pages; omega) hle hpgs hmv.many hhand hp1 (by simp only [St.wrote, List.length_append, List.length_singleton]; omega)
        · have hfw : f.wrote (wroteE s1 f g.bs) = { f with dirty := false } := by rw [Fr.wrote, if_pos hE]
          rw [hfw] at H4
          have H5 : Hp B w w3 (stL { y1 with aa := a2, ac := c2 } x2 { s1.wrote f g.bs with fs := s1.fs.set j { f with dirty := false } } ++ [.own 3 1 a L.length c (L.map (.int .i64))]) := by
            refine H4.perm ?_
            rw [← List.append_assoc]
            exact (wr_turn (y := { y1 with aa := a2, ac := c2 }) (x := x2) (s := s1.wrote f g.bs) hw hj hy1l { f with dirty := false }).symm.append_right _
          have hct := ((hcore.perm (at_perm hf)).wrote hR v2 (v3 hE)).perm (set_perm hj { f with dirty := false }).symm
          have hoth : ∀ h ∈ s1.fs.set j { f with dirty := false }, h = { f with dirty := false } ∨ (h ∈ s1.fs ∧ h.n ≠ f.n) := fun h hh => by
            rcases List.mem_cons.1 ((set_perm hj _).mem_iff.1 hh) with h1 | h1
            · exact .inl h1
            · exact .inr ⟨(at_perm hf).mem_iff.2 (.tail _ h1), (hcore.perm (at_perm hf)).other h h1⟩
          refine ⟨inR64.2 (by omega), hnext (L.length - (k + 1)) _ _ (by omega) ⟨k + 1, { y1 with aa := a2, ac := c2 }, x2, { s1.wrote f g.bs with fs := s1.fs.set j { f with dirty := false } }, rfl, by omega, by simp, ⟨hS.kb, hS.kv, hS.pb, hS.got, hx2b.trans hS.xb⟩, hx2, hyf, by show (s1.fs.set j _).length = _; rw [List.length_set]; exact hsl, (hmv.trans v6).trans (mv_fs _ _), hpgs, hct, v1, by show (s1.wrote f g.bs).d.len 0 ≤ 8 * s1.pages; omega, fun h hh => ?_, hhand, fun h hh => ?_, by simp only [St.wrote, List.length_append, List.length_singleton]; omega, fun z hz2 => ?_, fun h hh => ?_, fun z hz2 => ?_, H5⟩⟩
          · rcases hoth h hh with rfl | ⟨h1, _⟩
            · exact hfl
            · exact hle h h1
          · rcases hoth h hh with rfl | ⟨h1, _⟩
            · exact hp1 f hmem
            · exact hp1 h h1
          · have v7 := v7 hE
            rw [List.take_succ_eq_append_getElem hkl] at hz2
            show z * 8 + 8 ≤ ((s1.wrote f g.bs).d.len 0 : Int)
            rcases List.mem_append.1 hz2 with h9 | h9
            · have := hlow z h9; omega
            · rw [List.mem_singleton.1 h9]; omega
          · rcases hoth h hh with rfl | ⟨h1, h3⟩
            · constructor
              · intro h9; cases h9
              · intro h9
                have h9 : (f.n : Int) ∈ L.drop (k + 1) := h9
                have := List.Pairwise.sublist (List.drop_sublist k L) hLnd
                rw [hdk] at this
                rw [hfn] at h9
                exact absurd rfl ((List.pairwise_cons.1 this).1 _ h9)
            · rw [hdirty h h1, hdk, List.mem_cons]
              constructor
              · rintro (h9 | h9)
                · exact absurd (by omega) h3
                · exact h9
              · exact fun h9 => .inr h9
          · obtain ⟨h, h1, h3⟩ := hheld z hz2
            by_cases e : h.n = f.n
            · exact ⟨{ f with dirty := false }, (set_perm hj _).mem_iff.2 (.head _), by rw [← h3, e]⟩
            · refine ⟨h, (set_perm hj _).mem_iff.2 (.tail _ ?_), h3⟩
              rcases List.mem_cons.1 ((at_perm hf).mem_iff.1 h1) with h9 | h9
              · rw [h9] at e; exact absurd rfl e
              · exact h9
    · have hke : k = L.length := by omega
      subst hke
      have hcl : ∀ f ∈ s1.fs, f.dirty = false ∧ f.pins = 0 := fun f hf => by
        refine ⟨?_, hp1 f hf⟩
        cases hd : f.dirty with
        | false => rfl
        | true =>
          have := (hdirty f hf).1 hd
          simp at this
      clear hnext
      have H3 := H.takeL
      clear H
      refine onP_mk rfl ⟨_, H3.ld (o := 0) (cs := poolC y1 x1 s1) (by exact ⟨rfl, rfl, rfl, rfl⟩) gPD (.head _) rfl, onP_mk rfl ⟨_, H3.ld (o := 1) (cs := poolC y1 x1 s1) (by exact ⟨rfl, rfl, rfl, rfl⟩) gStr (.head _) rfl, ?_⟩⟩
      have H4 : Hp B w w1.drew (dkL x1 s1.d ++ (poolA y1 x1 s1 :: fsA y1 s1 :: (deskL y1 x1 s1 ++ frsL y1.fs s1.fs))) := H3.drew.perm (by rw [stL]; (refine perm_cnt fun ff gg h0 hc ha hpm => ?_; simp only [ha, hc, h0]; omega))
      clear H3
      refine callV (sync_spec x1 s1.d hx1 I2.fit.few (by omega) nData w1.drew H4.std1) ?_
      rintro e w2 ⟨rfl, x2, hx2b, hx2, H'⟩
      have H5 := H4.useL H'
      clear H4 H'
      refine ⟨_, rfl, ?_⟩
      have H6 : Hp B w w2 (stL y1 x2 { s1 with d := (s1.d.sync nData).1 }) := by
        refine H5.perm ?_
        have e1 : poolA y1 x2 { s1 with d := (s1.d.sync nData).1 } = poolA y1 x1 s1 := by simp [poolA, poolC, hx2b]
        have e2 : deskL y1 x2 { s1 with d := (s1.d.sync nData).1 } = deskL y1 x1 s1 := by simp [deskL, deskC, hx2b]
        rw [stL, e1, e2]
        show List.Perm (dkL x2 (s1.d.sync nData).1 ++ (poolA y1 x1 s1 :: fsA y1 s1 :: (deskL y1 x1 s1 ++ frsL y1.fs s1.fs))) (poolA y1 x1 s1 :: fsA y1 s1 :: (deskL y1 x1 s1 ++ (frsL y1.fs s1.fs ++ dkL x2 (s1.d.sync nData).1)))
        (refine perm_cnt fun ff gg h0 hc ha hpm => ?_; simp only [ha, hc, h0]; omega)
      clear H5
      have hsy := hdd.sync
      have hds : s1.d.denied = 1 ∨ s1.d.denied ≠ 1 := by omega
      rcases hds with hds | hds
      · rw [if_pos hds] at hsy
        rw [hsy] at H6 hx2 ⊢
        refine ⟨y1, x2, { s1 with d := s1.d.denies }, 95, ⟨⟨hS.kb, hS.kv, hS.pb, hS.got, hx2b.trans hS.xb⟩, hx2, hy1l, hmv.trans ⟨rfl, rfl, fun _ h => h, fun h => by omega, fun _ => rfl⟩, keepAll _ _⟩, H6, rfl, hpgs, ?_, .inr (.inr ⟨hz, Trouble.back (s' := s1) (.inr ⟨rfl, by omega⟩) hmv⟩)⟩
        exact I1 { s1 with d := s1.d.denies } rfl (hcore.disk (d' := s1.d.denies) fun n h => h) hdd.denies hlen hle hpgs hmv.many hhand hp1 (by show s1.asked.length ≤ _; omega)
      · rw [if_neg hds] at hsy
        rw [hsy] at H6 hx2 ⊢
        have hfo : (s1.d.file 0).sync.Ok := ⟨hdd.fok.now, hdd.fok.now, by simp [Fl.sync], by simp [Fl.sync], Nat.le_refl _⟩
        have hdd2 := hdd.denies.put hfo
        have hpB := fun n => sync_core hdd (s1.d.file 0).sync rfl n
        have hl2 : (s1.d.denies.put 0 (s1.d.file 0).sync).len 0 = s1.d.len 0 := by rw [Dk.len, hdd.denies.file_put]; rfl
        refine ⟨y1, x2, { s1 with d := s1.d.denies.put 0 (s1.d.file 0).sync }, 0, ⟨⟨hS.kb, hS.kv, hS.pb, hS.got, hx2b.trans hS.xb⟩, hx2, hy1l, hmv.trans ⟨rfl, rfl, fun _ h => h, fun h => ⟨by show s1.d.denied - 1 = 0; omega, fun hA n => ?_⟩, fun _ => hl2⟩, keepAll _ _⟩, H6, rfl, hpgs, ?_, .inr (.inl ⟨rfl, hz, ⟨hcl, ?_, ?_⟩, by show s1.asked.length = _; rw [hask0, hLl], fun f hf hd => ?_⟩)⟩
        · obtain ⟨P, ⟨g', q1, q2⟩, q3⟩ := hA n
          exact ⟨P, ⟨g', q1, by show pageB (s1.d.denies.put 0 (s1.d.file 0).sync) 0 n = _; rw [hpB]; exact q2⟩, q3⟩
        · exact I1 { s1 with d := s1.d.denies.put 0 (s1.d.file 0).sync } rfl (hcore.disk fun n ⟨g', q1, q2⟩ => ⟨g', q1, by rw [hpB]; exact q2⟩) hdd2 (by show (s1.d.denies.put 0 (s1.d.file 0).sync).len 0 ≤ _; rw [hl2]; exact hlen) hle hpgs hmv.many hhand hp1 (by show s1.asked.length ≤ _; omega)
        · show ((s1.d.denies.put 0 (s1.d.file 0).sync).file 0).firm = ((s1.d.denies.put 0 (s1.d.file 0).sync).file 0).now
          rw [hdd.denies.file_put]; rfl
        · show ((s1.d.denies.put 0 (s1.d.file 0).sync).file 0).since = []
          rw [hdd.denies.file_put]; rfl
        · have hm : (f.n : Int) ∈ L := by rw [hL]; exact mem_sortZ.2 (List.mem_map.2 ⟨f, List.mem_filter.2 ⟨hf, hd⟩, rfl⟩)
          have := hlow _ (by rw [List.take_length]; exact hm)
          show f.n * 8 + 8 ≤ (s1.d.denies.put 0 (s1.d.file 0).sync).len 0
          rw [hl2]; omega
end Go.Proofs.YtiagjabdfppgkaaGreat
