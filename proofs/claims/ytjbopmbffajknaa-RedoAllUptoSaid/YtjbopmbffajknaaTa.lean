/- Redo: a call of a script where nothing fails. -/
import Derived.Test.YtjbopmbffajknaaRy
import Derived.Test.YtjbopmbffajknaaRw
set_option linter.unusedVariables false
set_option linter.unusedSimpArgs false
set_option maxRecDepth 100000
namespace Go.Proofs.Ytjbopmbffajknaa
open Go Go.Vc Go.Vault Go.Redo

def opN (o : ROp) : Nat := o.s.size + (o.all.map fun s => s.size + 17).sum
def fewN (os : List ROp) : Nat := (os.map opN).sum
def fewB (os : List ROp) : Bool := match decide (os.length ≤ 100) with
  | true => decide (fewN os ≤ 200000)
  | false => false
def longO (o : ROp) : Bool := (decide (o.kind = 0) && decide (65536 < o.s.size)) || (decide (o.kind = 2) && tooLong o.all)
/-- what is there, and what lasts, behind a call -/
def nx (o : ROp) (s : List ByteArray × List ByteArray) : List ByteArray × List ByteArray :=
  if longO o then s else if o.kind = 0 then (s.1 ++ [o.s], s.2) else if o.kind = 1 then (s.1, s.1) else if o.kind = 2 then (o.all, o.all) else s
def stOf (l : Lg) : List ByteArray × List ByteArray := (l.all, l.all.take l.many)
theorem framedAll_len : ∀ l : List ByteArray, (framedAll l).length ≤ (l.map fun s => s.size + 17).sum := by
  intro l
  rw [framedAll_frames]
  induction l with
  | nil => exact Nat.le_refl _
  | cons s r ih =>
    rw [frames, List.flatMap_cons, List.length_append, frame_len, List.map_cons, List.sum_cons]
    rw [frames] at ih
    omega
theorem many_len : ∀ l : List ByteArray, l.length ≤ (l.map fun s => s.size + 17).sum := by
  intro l
  induction l with
  | nil => exact Nat.le_refl _
  | cons s r ih => rw [List.length_cons, List.map_cons, List.sum_cons]; omega
theorem framed_len2 (b : List UInt8) (s : ByteArray) : (framed b s).length = b.length + s.size + 4 := by
  have : (framed b s).length = b.length + (frame s).length := by rw [framed, List.length_append]; rfl
  rw [this, frame_len]; omega
structure Grew (l l' : Lg) (o : ROp) : Prop where
  b : l'.b.length ≤ l.b.length + opN o + 4
  all : l'.all.length ≤ l.all.length + opN o + 1
  mark : l'.mark ≤ l.mark + 1
theorem does_inv {d : Dk} {l : Lg} (h : Inv d l) (o : ROp) (hb : l.b.length + opN o ≤ 300000) (hm : l.mark ≤ 1000000) (hm1 : 1 ≤ l.mark) :
    ∃ d' l', doesP d l o = (d', l', if longO o then 101 else 0) ∧ Inv d' l' ∧ Grew l l' o ∧ stOf l' = nx o (stOf l) ∧ 1 ≤ l'.mark := by
  have hf := framedAll_len o.all
  have hml := many_len o.all
  have hn : o.s.size + (o.all.map fun s => s.size + 17).sum = opN o := rfl
  have g0 : Grew l l o := ⟨by omega, by omega, by omega⟩
  unfold doesP
  by_cases h0 : o.kind = 0
  · rw [if_pos h0]
    have hne2 : ¬ o.kind = 2 := by omega
    rcases inv_append h o.s with ⟨h1, e⟩ | ⟨h1, e, hi⟩
    · have hl : longO o = true := by simp [longO, h0, h1]
      rw [e, hl]
      exact ⟨d, l, rfl, h, g0, by rw [nx, if_pos hl], hm1⟩
    · have hl : longO o = false := by simp [longO, h0, Nat.not_lt.2 h1]
      rw [e, hl]
      refine ⟨d, _, rfl, hi, ⟨?_, ?_, Nat.le_succ _⟩, ?_, hm1⟩
      · show (framed l.b o.s).length ≤ _
        rw [framed_len2]; omega
      · show (l.all ++ [o.s]).length ≤ _
        rw [List.length_append, List.length_singleton]; omega
      · rw [nx, hl, if_neg (by simp), if_pos h0]
        show (l.all ++ [o.s], (l.all ++ [o.s]).take l.many) = _
        rw [List.take_append_of_le_length h.many]; rfl
  rw [if_neg h0]
  by_cases h1 : o.kind = 1
  · rw [if_pos h1]
    have hl : longO o = false := by simp [longO, h1]
    obtain ⟨d', e, hi⟩ := inv_flush h (by unfold nsec; omega) hm
    rw [e, hl]
    refine ⟨d', _, rfl, hi, ⟨?_, ?_, Nat.le_refl _⟩, ?_, by show 1 ≤ l.mark + 1; omega⟩
    · show l.b.length ≤ _; omega
    · show l.all.length ≤ _; omega
    · rw [nx, hl, if_neg (by simp), if_neg h0, if_pos h1]
      show (l.all, l.all.take l.all.length) = _
      rw [List.take_length]; rfl
  rw [if_neg h1]
  by_cases h2 : o.kind = 2
  · rw [if_pos h2]
    rcases inv_reset h o.all (by unfold nsec; omega) with ⟨ht, e⟩ | ⟨ht, d', e, hi⟩
    · have hl : longO o = true := by simp [longO, h2, ht]
      rw [e, hl]
      exact ⟨d, l, rfl, h, g0, by rw [nx, if_pos hl], hm1⟩
    · have hl : longO o = false := by simp [longO, h2, ht]
      rw [e, hl]
      refine ⟨d', _, rfl, hi, ⟨?_, ?_, ?_⟩, ?_, Nat.le_refl 1⟩
      · show (framedAll o.all).length ≤ _; omega
      · show o.all.length ≤ _; omega
      · show 1 ≤ _; omega
      · rw [nx, hl, if_neg (by simp), if_neg h0, if_neg h1, if_pos h2]
        show (o.all, o.all.take o.all.length) = _
        rw [List.take_length]
  · rw [if_neg h2]
    have hl : longO o = false := by simp [longO, h0, h2]
    rw [hl]
    exact ⟨d, l, rfl, h, g0, by rw [nx, hl, if_neg (by simp), if_neg h0, if_neg h1, if_neg h2], hm1⟩
theorem doesP_fit {d : Dk} {N : Nat} (h : d.Fit N) (l : Lg) (o : ROp) (hb : l.b.length + opN o ≤ 300000) : (doesP d l o).1.Fit (N + 1000) := by
  have hf := framedAll_len o.all
  have hn : o.s.size + (o.all.map fun s => s.size + 17).sum = opN o := rfl
  unfold doesP
  split
  · exact h.mono (by omega)
  · split
    · exact (flushP_fit h l).mono (by omega)
    · split
      · exact (resetP_fit h l o.all).mono (by omega)
      · exact h.mono (by omega)
theorem fewN_snoc (os : List ROp) (o : ROp) : fewN (os ++ [o]) = fewN os + opN o := by simp [fewN]
theorem fewN_take {os : List ROp} {k : Nat} {o : ROp} (h : os[k]? = some o) : fewN (os.take (k + 1)) = fewN (os.take k) + opN o := by rw [take_snoc h, fewN_snoc]
theorem fewN_le (os : List ROp) (k : Nat) : fewN (os.take k) ≤ fewN os := by
  have h : fewN os = fewN (os.take k) + fewN (os.drop k) := by
    rw [fewN, fewN, fewN, ← List.sum_append, ← List.map_append, List.take_append_drop]
  omega
/-- so far in a script -/
structure At (os : List ROp) (k : Nat) (d : Dk) (l : Lg) : Prop where
  inv : Inv d l
  fit : d.Fit (12 + k * 1000)
  b : l.b.length ≤ fewN (os.take k) + 4 * k
  all : l.all.length ≤ fewN (os.take k) + k
  mark : l.mark ≤ 1 + k
  mark1 : 1 ≤ l.mark
theorem at_first : ∃ d l, openP (Dk.new 2000) nLog = (d, 0, l) ∧ (∀ os, At os 0 d l) ∧ stOf l = ([], []) := by
  obtain ⟨d, l, e, hi, h1, h2, h3, h4⟩ := inv_first
  have hf := openP_fit (new_fit 2000 0) nLog
  rw [e] at hf
  exact ⟨d, l, e, fun os => ⟨hi, hf, by rw [h3]; exact Nat.zero_le _, by rw [h1]; exact Nat.zero_le _, by omega, by omega⟩, by simp [stOf, h1]⟩
theorem At.next {os : List ROp} {k : Nat} {d : Dk} {l : Lg} (h : At os k d l) (hf : fewB os = true) {o : ROp} (ho : os[k]? = some o) :
    ∃ d' l', doesP d l o = (d', l', if longO o then 101 else 0) ∧ At os (k + 1) d' l' ∧ stOf l' = nx o (stOf l) := by
  have hk : k < os.length := (List.getElem?_eq_some_iff.1 ho).1
  obtain ⟨hl, hN⟩ : os.length ≤ 100 ∧ fewN os ≤ 200000 := by
    unfold fewB at hf
    split at hf
    · rename_i h1; exact ⟨of_decide_eq_true h1, of_decide_eq_true hf⟩
    · cases hf
  have e1 := fewN_take ho
  have e2 := fewN_le os (k + 1)
  have hb := h.b
  have ha := h.all
  have hm := h.mark
  obtain ⟨d', l', e, hi, hg, hs, hm1⟩ := does_inv h.inv o (by omega) (by omega) h.mark1
  have hfit := doesP_fit h.fit l o (by omega)
  rw [e] at hfit
  have g1 := hg.b
  have g2 := hg.all
  have g3 := hg.mark
  exact ⟨d', l', e, ⟨hi, hfit.mono (by omega), by omega, by omega, by omega, hm1⟩, hs⟩
/-- bounds that the calls' contracts ask for -/
theorem At.bounds {os : List ROp} {k : Nat} {d : Dk} {l : Lg} (h : At os k d l) (hf : fewB os = true) (hk : k ≤ os.length) : 12 + k * 1000 ≤ 200000 ∧ l.b.length ≤ 300000 ∧ l.all.length ≤ 300000 ∧ l.firm ≤ 300000 ∧ l.mark ≤ 1000 ∧ l.name.size ≤ 1000 := by
  obtain ⟨hl, hN⟩ : os.length ≤ 100 ∧ fewN os ≤ 200000 := by
    unfold fewB at hf
    split at hf
    · rename_i h1; exact ⟨of_decide_eq_true h1, of_decide_eq_true hf⟩
    · cases hf
  have hb := h.b
  have ha := h.all
  have hm := h.mark
  have e2 := fewN_le os k
  have h3 := h.inv.firm
  refine ⟨by omega, by omega, by omega, by omega, by omega, ?_⟩
  rw [h.inv.name]; decide
end Go.Proofs.Ytjbopmbffajknaa
/- Redo: scripts in memory; are they few; a log on a new disk. -/
namespace Go.Proofs.Ytjbopmbffajknaa
open Go Go.Vc Go.Vault Go.Redo

def ropCs (os : List (RW × ROp)) : List Value := os.flatMap ropC
structure RScr (W : World) (a : Option Addr) (os : List (RW × ROp)) : Prop where
  cells : Cells W a (ropCs os)
  all : ∀ p ∈ os, Cells W p.1.a (p.2.all.map .string)
  nil : ∀ p ∈ os, p.1.a = none → p.2.all.length = 0
def ops (os : List (RW × ROp)) : List ROp := os.map (·.2)
theorem RScr.chg0 {W W' : World} {a : Option Addr} {os : List (RW × ROp)} (h : RScr W a os) (hc : Chg [] W W') : RScr W' a os := ⟨h.cells.chg hc (by simp), fun p hp => (h.all p hp).chg hc (by simp), h.nil⟩
theorem ropCs_at : ∀ {os : List (RW × ROp)} {k : Nat} {p : RW × ROp}, os[k]? = some p → ((ropCs os).drop (k * 3)).take 3 = ropC p
  | [], k, p, h => by simp at h
  | q :: r, 0, p, h => by
    simp at h; subst h
    rfl
  | q :: r, k + 1, p, h => by
    rw [List.getElem?_cons_succ] at h
    have ih := ropCs_at h
    have e : ropCs (q :: r) = ropC q ++ ropCs r := rfl
    rw [e, show (k + 1) * 3 = (ropC q).length + k * 3 by simp [ropC]; omega, List.drop_append, List.drop_eq_nil_of_le (by omega), List.nil_append, Nat.add_sub_cancel_left]
    exact ih
theorem RScr.ldA {W : World} {a : Option Addr} {os : List (RW × ROp)} (h : RScr W a os) {k : Nat} {p : RW × ROp} (hp : os[k]? = some p) : ∃ ad, a = some ad ∧ Ld Go.Proofs.Try.prog 51 W (ad.add (k * 3)) (.agg (ropC p).toArray) := by
  have hx : ropCs os ≠ [] := by
    intro h0
    have := ropCs_at hp
    rw [h0, List.drop_nil, List.take_nil] at this
    cases this
  obtain ⟨ad, ha⟩ := h.cells.some hx
  exact ⟨ad, ha, h.cells.ldA aggOp ha (ropCs_at hp) rfl⟩
theorem ops_at {os : List (RW × ROp)} {k : Nat} {p : RW × ROp} (h : os[k]? = some p) : (ops os)[k]? = some p.2 := by rw [ops, List.getElem?_map, h]; rfl
theorem ops_len (os : List (RW × ROp)) : (ops os).length = os.length := by simp [ops]
/-- the strings of a call stand whatever is done to what is one's own -/
theorem RScr.stable {W w : World} {a : Option Addr} {os : List (RW × ROp)} (h : RScr W a os) {L1 L2 : List Asn} (H : Hp [] W w (L1 ++ L2)) {p : RW × ROp} (hp : p ∈ os) : ∀ W', Chg (feet L1) w W' → Cells W' p.1.a (p.2.all.map .string) := fun W' hc =>
  (h.all p hp).chg (H.chg.trans hc (fun k hk => hk) fun k hk => by
    obtain ⟨b, hb, hbf⟩ := mem_feet.1 hk
    rcases H.own b (List.mem_append_left _ hb) k hbf with h | h
    · cases h
    · exact .inr h) (by simp)
theorem sum_snoc {α : Type} {f : α → Nat} {l : List α} {k : Nat} {x : α} (h : l[k]? = some x) : ((l.take (k + 1)).map f).sum = ((l.take k).map f).sum + f x := by rw [take_snoc h]; simp
theorem sum_le2 {α : Type} (f : α → Nat) (l : List α) (k : Nat) : ((l.take k).map f).sum ≤ (l.map f).sum := by
  have h : (l.map f).sum = ((l.take k).map f).sum + ((l.drop k).map f).sum := by rw [← List.sum_append, ← List.map_append, List.take_append_drop]
  omega
set_option maxHeartbeats 1000000 in
theorem few_spec (sa : Option Addr) (sc : Nat) (os : List (RW × ROp)) (w : World) (hs : RScr w sa os) (hl : os.length ≤ 1000000000) (hb : fewN (ops os) ≤ 1000000000) :
    Calls Go.Proofs.Try.prog 18 #[.slice sa os.length sc] w fun e w' => e = .returned (.bool (fewB (ops os))) ∧ Hp [] w w' [] := by
  apply few.ok; unfold few.vc
  refine LoopP.mk (fun (m : Nat) (s : Int × Int) (w' : World) => ∃ k : Nat, m = os.length - k ∧ k ≤ os.length ∧ s = ((fewN ((ops os).take k) : Int), (k : Int)) ∧ Hp [] w w' []) os.length ⟨0, rfl, by omega, rfl, Hp.start w⟩ ?_
  rintro m s w1 next ⟨k, rfl, hk, rfl, H⟩ hnext
  dsimp only
  refine br_dec (fun h3 => ?_) (fun h3 => ?_)
  · have hkl : k < os.length := by omega
    obtain ⟨p, hp⟩ : ∃ p, os[k]? = some p := ⟨_, List.getElem?_eq_getElem hkl⟩
    have e1 := fewN_take (ops_at hp)
    have e2 := fewN_le (ops os) (k + 1)
    have en : p.2.s.size + (p.2.all.map fun s => s.size + 17).sum = opN p.2 := rfl
    have hml := many_len p.2.all
    obtain ⟨ad, ha, hld⟩ := (hs.chg0 H.chg).ldA hp
    refine onP_mk ha ⟨⟨by omega, by omega⟩, _, _, _, _, _, by rw [Int.toNat_natCast]; exact hld, ?_⟩
    intro bo w2 hn; replace H := H.new (by exact ⟨rfl, rfl, rfl, rfl⟩) hn; clear hn
    refine Hp.stA H (by exact ⟨rfl, rfl, rfl, rfl⟩) aggOp (vs := ropC p) (cs' := ropC p) rfl rfl (by simp) rfl ?_
    clear H; intro w3 H
    refine ⟨_, H.ld (cs := ropC p) (by exact ⟨rfl, rfl, rfl, rfl⟩) sclStr (.head _) rfl, inR64.2 (by omega), ?_⟩
    refine ⟨_, _, _, H.ld (cs := ropC p) (by exact ⟨rfl, rfl, rfl, rfl⟩) sclTS (.head _) rfl, ?_⟩
    replace H := H.drop
    refine LoopP.mk (fun (m : Nat) (s : Int × Int) (w' : World) => ∃ j : Nat, m = p.2.all.length - j ∧ j ≤ p.2.all.length ∧ s = (((fewN ((ops os).take k) + p.2.s.size + ((p.2.all.take j).map fun s => s.size + 17).sum : Nat) : Int), (j : Int)) ∧ Hp [] w w' []) p.2.all.length ⟨0, rfl, by omega, by simp, H⟩ ?_
    clear H
    rintro m s w4 next2 ⟨j, rfl, hj, rfl, H⟩ hnext2
    dsimp only
    refine br_dec (fun h4 => ?_) (fun h4 => ?_)
    · have hjl : j < p.2.all.length := by omega
      obtain ⟨x, hx⟩ : ∃ x, p.2.all[j]? = some x := ⟨_, List.getElem?_eq_getElem hjl⟩
      have hcx := (hs.all p (List.mem_of_getElem? hp)).chg H.chg (by simp)
      have hv : (p.2.all.map Value.string)[j]? = some (.string x) := by rw [List.getElem?_map, hx]; rfl
      obtain ⟨ad2, ha2, _⟩ := hcx j _ hv
      have e3 := sum_snoc (f := fun s : ByteArray => s.size + 17) hx
      have e4 := sum_le2 (fun s : ByteArray => s.size + 17) p.2.all (j + 1)
      refine onP_mk ha2 ⟨⟨by omega, by omega⟩, _, by rw [Int.toNat_natCast, Nat.mul_one]; exact hcx.ld sclStr ha2 hv, inR64.2 (by omega), inR64.2 (by omega), inR64.2 (by omega), ?_⟩
      refine hnext2 (p.2.all.length - (j + 1)) _ _ (by omega) ⟨j + 1, rfl, by omega, ?_, H⟩
      rw [e3]
      refine Prod.ext ?_ ?_
      · show _ = _; dsimp only; omega
      · show _ = _; dsimp only; omega
    · have hje : j = p.2.all.length := by omega
      subst hje
      rw [List.take_length]
      refine ⟨inR64.2 (by omega), hnext (os.length - (k + 1)) _ _ (by omega) ⟨k + 1, rfl, by omega, ?_, H⟩⟩
      rw [e1]
      refine Prod.ext ?_ ?_
      · show _ = _; dsimp only; omega
      · show _ = _; dsimp only; omega
  · have hke : k = os.length := by omega
    subst hke
    have et : (ops os).take os.length = ops os := by rw [← ops_len, List.take_length]
    rw [et]
    have el := ops_len os
    refine br_dec (fun h4 => ?_) (fun h4 => ?_)
    · refine ⟨?_, H⟩
      unfold fewB
      rw [decide_eq_true (show (ops os).length ≤ 100 by omega)]
      congr 2
      exact decide_eq_decide.2 (by omega)
    · refine ⟨?_, H⟩
      unfold fewB
      rw [decide_eq_false (show ¬ (ops os).length ≤ 100 by omega)]
theorem opened_spec (w : World) : Calls Go.Proofs.Try.prog 19 #[] w fun e w' => ∃ (x : DW) (y : LW) (d : Dk) (l : Lg), e = .returned (.tuple #[.pointer (some ⟨x.b, 0, none⟩), .pointer (some ⟨y.b, 0, none⟩)]) ∧ x.Ok d ∧ (∀ os, At os 0 d l) ∧ stOf l = ([], []) ∧ Hp [] w w' (lgL y x d l) := by
  obtain ⟨d1, l1, eo, hat, hst⟩ := at_first
  apply opened.ok; unfold opened.vc
  have H := Hp.start w
  refine callV (new_spec 2000 w) ?_
  rintro e w1 ⟨x, rfl, hx, H'⟩
  replace H := H.ext H'; clear H'
  rw [List.append_nil] at H
  refine ⟨_, rfl, _, eqv_ptrE undPD, br_false ?_⟩
  have ho := open_spec x (Dk.new 2000) hx (new_fit 2000 0) (by omega) nLog w1 H.std
  rw [eo] at ho
  refine callV ho ?_
  clear ho
  rintro e w2 ⟨x2, hx2b, hx2, ⟨hr, _⟩ | ⟨_, y, LB, rfl, hLB, H'⟩⟩
  · exact absurd rfl hr
  have hsz : ¬ 2 ≤ (Dk.new 2000).size nLog := by
    have : (Dk.new 2000).size nLog = -1 := by kernel_rfl
    omega
  have e1 := hLB hsz
  subst e1
  dsimp only at H' hx2
  replace H := H.useAll H'; clear H'
  refine ⟨_, _, rfl, br_ndec (fun h => absurd rfl h) (fun _ => ?_)⟩
  refine ⟨x2, y, d1, l1, ?_, hx2, hat, hst, ?_⟩
  · rw [hx2b]
  · unfold lgL
    rw [hx2b]
    exact H.perm (perm_cnt fun ff gg h0 hc ha hpm => by simp only [ha, hc, h0]; omega)
end Go.Proofs.Ytjbopmbffajknaa
/- Redo: the law of RedoPrefix. -/
namespace Go.Proofs.Ytjbopmbffajknaa
open Go Go.Vc Go.Vault Go.Redo

/-- the last strings, as a slice of one's own -/
def laA (a : Option Addr) (c : Nat) (l : List ByteArray) : Asn := .own 9 1 a l.length c (l.map .string)
theorem stA1 {B : List Nat} {w0 w : World} {L : List Asn} {a : Asn} (H : Hp B w0 w L) (m : a ∈ L) : Std w [a] := ⟨fun b hb => by rw [List.mem_singleton.1 hb]; exact H.ok _ m, by simp⟩
theorem lgA_mem (y : LW) (x : DW) (d : Dk) (l : Lg) : lgA y x.b l ∈ lgL y x d l := by unfold lgL; exact .tail _ (.tail _ (.head _))
theorem lg_all {y : LW} {x : DW} {d : Dk} {l : Lg} {B : List Nat} {w0 w : World} {R : List Asn} (H : Hp B w0 w (lgL y x d l ++ R)) : Std w [lgA y x.b l, lgT y l] := by
  have : Hp B w0 w ([lgA y x.b l, lgT y l] ++ (lgB y l :: (dkL x d ++ R))) := by
    unfold lgL at H
    exact H.perm (perm_cnt fun ff gg h0 hc ha hpm => by simp only [ha, hc, h0]; omega)
  exact this.std1
theorem nx_first (o : ROp) (s : List ByteArray × List ByteArray) (h2 : ¬ o.kind = 2) : (nx o s).1 = s.1 ∨ (o.kind = 0 ∧ longO o = false ∧ (nx o s).1 = s.1 ++ [o.s]) := by
  unfold nx
  by_cases hl : longO o = true
  · rw [if_pos hl]; exact .inl rfl
  · rw [if_neg hl]
    have hl : longO o = false := by simpa using hl
    by_cases h0 : o.kind = 0
    · rw [if_pos h0]; exact .inr ⟨h0, hl, rfl⟩
    · rw [if_neg h0]
      by_cases h1 : o.kind = 1
      · rw [if_pos h1]; exact .inl rfl
      · rw [if_neg h1, if_neg h2]; exact .inl rfl
theorem nx_app (o : ROp) (s : List ByteArray × List ByteArray) (h0 : o.kind = 0) (hl : longO o = false) : (nx o s).1 = s.1 ++ [o.s] := by
  rw [nx, hl, if_neg (by simp), if_pos h0]
/-- a call on a log at work -/
theorem does_at {os : List (RW × ROp)} {W : World} {sa : Option Addr} (hs : RScr W sa os) (hf : fewB (ops os) = true) {k : Nat} {p : RW × ROp} (hp : os[k]? = some p) {x : DW} {y : LW} {d : Dk} {l : Lg} (hx : x.Ok d) (hat : At (ops os) k d l) {w : World} {R : List Asn} (H : Hp [] W w (lgL y x d l ++ R)) :
    Calls Go.Proofs.Try.prog 20 #[.pointer (some ⟨y.b, 0, none⟩), .agg (ropC p).toArray] w fun e w' => ∃ (x' : DW) (y' : LW) (d' : Dk) (l' : Lg), e = .returned (.int .i64 (if longO p.2 then 101 else 0)) ∧ x'.b = x.b ∧ y'.b = y.b ∧ x'.Ok d' ∧ At (ops os) (k + 1) d' l' ∧ stOf l' = nx p.2 (stOf l) ∧ Hp [] W w' (lgL y' x' d' l' ++ R) := by
  obtain ⟨d', l', e, hat', hst⟩ := hat.next hf (ops_at hp)
  have hk : k < os.length := (List.getElem?_eq_some_iff.1 hp).1
  obtain ⟨b1, b2, b3, b4, b5, b6⟩ := hat.bounds hf (by rw [ops_len]; omega)
  have e1 := fewN_take (ops_at hp)
  have e2 := fewN_le (ops os) (k + 1)
  have en : p.2.s.size + (p.2.all.map fun s => s.size + 17).sum = opN p.2 := rfl
  have hml := many_len p.2.all
  have hfl := framedAll_len p.2.all
  have hN : fewN (ops os) ≤ 200000 := by
    unfold fewB at hf
    split at hf
    · exact of_decide_eq_true hf
    · cases hf
  have hd := doesL_spec y x d l hx hat.fit (by omega) (by omega) (by omega) (by omega) (by omega) b6 p (by omega) (by omega) w H.std1 (hs.stable H (List.mem_of_getElem? hp)) (hs.nil p (List.mem_of_getElem? hp))
  rw [e] at hd
  refine hd.mono ?_
  rintro e w' ⟨rfl, x', y', hxb, hyb, hok, H'⟩
  exact ⟨x', y', d', l', rfl, hxb, hyb, hok, hat', hst, H.useL H'⟩
theorem aliveR {w w1 : World} (H : Hp [] w w1 []) : CallV Go.Proofs.Try.prog 8 [] w1 fun e w' => ∃ b, e = .returned (.bool b) ∧ (Ending.returned (.bool b) = .returned (.bool true) ∧ Hp [] w w' []) := by
  refine callV (alive_spec w1) ?_
  rintro e w2 ⟨rfl, H'⟩
  exact ⟨_, rfl, rfl, H.ext0 H'⟩
set_option maxHeartbeats 4000000 in
theorem redoPrefix_law (sa : Option Addr) (sc : Nat) (os : List (RW × ROp)) (W : World) (hs : RScr W sa os) (hl : os.length ≤ 1000000000) (hb : fewN (ops os) ≤ 1000000000) :
    Calls Go.Proofs.Try.prog 5 #[.slice sa os.length sc] W fun e W' => e = .returned (.bool true) ∧ Hp [] W W' [] := by
  apply redoPrefix.ok; unfold redoPrefix.vc
  have H := Hp.start W
  refine callV (few_spec sa sc os W hs hl hb) ?_
  rintro e w1 ⟨rfl, H'⟩
  replace H := H.ext0 H'; clear H'
  refine ⟨_, rfl, br_not (fun hfew => aliveR H) (fun hfew => ?_)⟩
  refine callV (opened_spec w1) ?_
  rintro e w2 ⟨x, y, d, l, rfl, hx, hat, hst, H'⟩
  replace H := H.ext H'; clear H'
  rw [List.append_nil] at H
  replace hat := hat (ops os)
  refine ⟨_, _, rfl, _, eqv_ptrE undPL, br_false ?_⟩
  have hall0 : l.all = [] := congrArg Prod.fst hst
  refine LoopP.mk (fun (m : Nat) (s : (Option Addr × Nat × Nat) × Int) (w' : World) => ∃ (k : Nat) (x2 : DW) (y2 : LW) (d2 : Dk) (l2 : Lg) (la : Option Addr) (lc : Nat), m = os.length - k ∧ k ≤ os.length ∧ s = ((la, l2.all.length, lc), (k : Int)) ∧ x2.b = x.b ∧ y2.b = y.b ∧ x2.Ok d2 ∧ At (ops os) k d2 l2 ∧
    Hp [] W w' (lgL y2 x2 d2 l2 ++ [laA la lc l2.all])) os.length ⟨0, x, y, d, l, none, 0, rfl, by omega, by rw [hall0]; rfl, rfl, rfl, hx, hat, ?_⟩ ?_
  · rw [hall0]
    exact (H.nilS 9 1).perm (List.perm_append_comm (l₁ := [_]))
  clear H hat hall0 hst hx
  rintro m s w1 next ⟨k, x1, y1, d1, l1, la, lc, rfl, hk, rfl, hxb, hyb, hx1, hat, H⟩ hnext
  dsimp only
  refine br_dec (fun h3 => ?_) (fun h3 => ?_)
  · have hkl : k < os.length := by omega
    obtain ⟨p, hp⟩ : ∃ p, os[k]? = some p := ⟨_, List.getElem?_eq_getElem hkl⟩
    obtain ⟨ad, ha, hld⟩ := (hs.chg0 H.chg).ldA hp
    refine onP_mk ha ⟨⟨by omega, by omega⟩, _, _, _, _, _, by rw [Int.toNat_natCast]; exact hld, ?_⟩
    intro bo w2 hn; replace H := H.new (by exact ⟨rfl, rfl, rfl, rfl⟩) hn; clear hn
    refine Hp.stA H (by exact ⟨rfl, rfl, rfl, rfl⟩) aggOp (vs := ropC p) (cs' := ropC p) rfl rfl (by simp) rfl ?_
    clear H; intro w3 H
    refine ⟨_, _, _, _, _, H.ldA (cs := ropC p) (by exact ⟨rfl, rfl, rfl, rfl⟩) aggOp (.head _) rfl rfl, ?_⟩
    have H2 : Hp [] W w3 (lgL y1 x1 d1 l1 ++ [.blk bo (ropC p) 51, laA la lc l1.all]) := H.perm (perm_cnt fun ff gg h0 hc ha hpm => by simp only [ha, hc, h0]; omega)
    clear H
    have hd := does_at hs hfew hp hx1 hat H2
    rw [hyb] at hd
    refine callV hd ?_
    clear hd H2
    rintro e w4 ⟨x2, y2, d2, l2, rfl, hx2b, hy2b, hx2, hat2, hst, H⟩
    refine ⟨_, rfl, ?_⟩
    obtain ⟨b1, b2, b3, b4, b5, b6⟩ := hat2.bounds hfew (by rw [ops_len]; omega)
    have c3 := (hat.bounds hfew (by rw [ops_len]; omega)).2.2.1
    have ey : y2.b = y.b := hy2b
    have s1 := lall_spec y2 x2.b l2 (by omega) w4 (lg_all H)
    rw [ey] at s1
    refine callV s1 ?_
    clear s1
    rintro e w5 ⟨a5, c5, rfl, H'⟩
    replace H := H.ext H'; clear H'
    have mA : lgA y2 x2.b l2 ∈ [laA a5 c5 l2.all] ++ (lgL y2 x2 d2 l2 ++ [.blk bo (ropC p) 51, laA la lc l1.all]) := List.mem_append_right _ (List.mem_append_left _ (lgA_mem _ _ _ _))
    have mB : Asn.blk bo (ropC p) 51 ∈ [laA a5 c5 l2.all] ++ (lgL y2 x2 d2 l2 ++ [.blk bo (ropC p) 51, laA la lc l1.all]) := List.mem_append_right _ (List.mem_append_right _ (.head _))
    have mN : laA a5 c5 l2.all ∈ [laA a5 c5 l2.all] ++ (lgL y2 x2 d2 l2 ++ [.blk bo (ropC p) 51, laA la lc l1.all]) := .head _
    have mO : laA la lc l1.all ∈ [laA a5 c5 l2.all] ++ (lgL y2 x2 d2 l2 ++ [.blk bo (ropC p) 51, laA la lc l1.all]) := List.mem_append_right _ (List.mem_append_right _ (.tail _ (.head _)))
    change Hp [] W w5 ([laA a5 c5 l2.all] ++ (lgL y2 x2 d2 l2 ++ [.blk bo (ropC p) 51, laA la lc l1.all])) at H
    generalize hLL : [laA a5 c5 l2.all] ++ (lgL y2 x2 d2 l2 ++ [.blk bo (ropC p) 51, laA la lc l1.all]) = LL at H mA mB mN mO
    refine ⟨_, _, _, rfl, ?_⟩
    have s1 := lfirm_spec y2 x2.b l2 w5 (stA1 H mA)
    rw [ey] at s1
    refine callV s1 ?_
    clear s1
    rintro e w6 ⟨rfl, H'⟩
    replace H := H.ext0 H'; clear H'
    refine ⟨_, rfl, ?_⟩
    have s1 := llen_spec y2 x2.b l2 w6 (stA1 H mA)
    rw [ey] at s1
    refine callV s1 ?_
    clear s1
    rintro e w7 ⟨rfl, H'⟩
    replace H := H.ext0 H'; clear H'
    have hmany := hat2.inv.many
    refine ⟨_, rfl, br_dec (fun h => by omega) (fun _ => ?_)⟩
    have s1 := llen_spec y2 x2.b l2 w7 (stA1 H mA)
    rw [ey] at s1
    refine callV s1 ?_
    clear s1
    rintro e w8 ⟨rfl, H'⟩
    replace H := H.ext0 H'; clear H'
    refine ⟨_, rfl, br_ndec (fun h => absurd rfl h) (fun _ => ?_)⟩
    refine ⟨_, H.ld (cs := ropC p) (by exact ⟨rfl, rfl, rfl, rfl⟩) sclInt mB rfl, ?_⟩
    have hown : Own _ 0 9 1 a5 l2.all.length c5 (l2.all.map .string) := H.ownA mN
    have hcap := hown.le
    -- what goes on behind the look at the last ones
    have goes : ∀ w', Hp [] W w' LL → inR .i64 ((k : Int) + 1) ∧ next ((a5, l2.all.length, c5), (k : Int) + 1) w' := by
      intro w' H
      refine ⟨inR64.2 (by omega), hnext (os.length - (k + 1)) _ _ (by omega) ⟨k + 1, x2, y2, d2, l2, a5, c5, rfl, by omega, by simp, by rw [hx2b, hxb], ey, hx2, hat2, ?_⟩⟩
      subst hLL
      have H3 : Hp [] W w' ((lgL y2 x2 d2 l2 ++ [laA a5 c5 l2.all]) ++ [.blk bo (ropC p) 51, laA la lc l1.all]) := H.perm (perm_cnt fun ff gg h0 hc ha hpm => by simp only [ha, hc, h0]; omega)
      exact H3.takeL
    have tail : ∀ w', Hp [] W w' LL → (∃ i_5 : Int, Ld Go.Proofs.Try.prog 3 w'.drew ⟨bo, 0, none⟩ (.int .i64 i_5) ∧ br (decide (i_5 = 0)) (br (decide ((if longO p.2 then (101 : Int) else 0) = 0)) (inR .i64 ((l2.all.length : Int) - 1) ∧ onP a5 fun a_2 => (0 ≤ (l2.all.length : Int) - 1 ∧ (l2.all.length : Int) - 1 < (l2.all.length : Int)) ∧
        ∃ s_3 : ByteArray, Ld Go.Proofs.Try.prog 9 w'.drew (a_2.add (((l2.all.length : Int) - 1).toNat * 1)) (.string s_3) ∧ ∃ s_4 : ByteArray, Ld Go.Proofs.Try.prog 9 w'.drew ⟨bo, 1, none⟩ (.string s_4) ∧ br (!decide (s_3 = s_4)) (Ending.returned (.bool false) = .returned (.bool true) ∧ Hp [] W w'.drew []) (inR .i64 ((k : Int) + 1) ∧ next ((a5, l2.all.length, c5), (k : Int) + 1) w'.drew))
        (inR .i64 ((k : Int) + 1) ∧ next ((a5, l2.all.length, c5), (k : Int) + 1) w'.drew)) (inR .i64 ((k : Int) + 1) ∧ next ((a5, l2.all.length, c5), (k : Int) + 1) w'.drew)) := by
      intro w' H
      replace H := H.drew
      refine ⟨_, H.ld (cs := ropC p) (by exact ⟨rfl, rfl, rfl, rfl⟩) sclInt mB rfl, br_dec (fun h0 => br_dec (fun hc => ?_) (fun _ => goes _ H)) (fun _ => goes _ H)⟩
      have hlo : longO p.2 = false := by
        cases h : longO p.2 with
        | false => rfl
        | true => rw [h, if_pos rfl] at hc; cases hc
      have e1 : l2.all = l1.all ++ [p.2.s] := (congrArg Prod.fst hst).trans (nx_app p.2 _ h0 hlo)
      have e2 : l2.all.length = l1.all.length + 1 := by rw [e1, List.length_append]; rfl
      have hv : (l2.all.map Value.string)[l1.all.length]? = some (.string p.2.s) := by rw [e1]; simp
      have hcl := (H.ownA mN : Own _ 0 9 1 a5 l2.all.length c5 (l2.all.map .string)).cells
      obtain ⟨ad5, ha5, _⟩ := hcl _ _ hv
      refine ⟨inR64.2 (by omega), onP_mk ha5 ⟨⟨by omega, by omega⟩, p.2.s, ?_, p.2.s, H.ld (cs := ropC p) (by exact ⟨rfl, rfl, rfl, rfl⟩) sclStr mB rfl, ?_⟩⟩
      · rw [show ((l2.all.length : Int) - 1).toNat * 1 = l1.all.length by omega]
        exact hcl.ld sclStr ha5 hv
      · exact br_ndec (fun h => absurd rfl h) (fun _ => goes _ H)
    refine br_ndec (fun hk2 => ?_) (fun _ => tail w8 H)
    have hfst : l2.all = (nx p.2 (stOf l1)).1 := congrArg Prod.fst hst
    have hpre : l1.all.length ≤ l2.all.length ∧ l2.all.take l1.all.length = l1.all := by
      rcases nx_first p.2 (stOf l1) hk2 with h | ⟨_, _, h⟩
      · have e1 : l2.all = l1.all := hfst.trans h
        rw [e1, List.take_length]; exact ⟨Nat.le_refl _, rfl⟩
      · have e1 : l2.all = l1.all ++ [p.2.s] := hfst.trans h
        rw [e1]
        exact ⟨by rw [List.length_append]; omega, List.take_left' rfl⟩
    refine br_dec (fun h => by have := hpre.1; omega) (fun _ => ⟨⟨by omega, by have := hpre.1; omega⟩, ?_⟩)
    have hownO : Own _ 0 9 1 la l1.all.length lc (l1.all.map .string) := H.ownA mO
    have hcA : Cells w8 a5 (l1.all.map .string) := by
      have := hown.cells.take l1.all.length
      rwa [← List.map_take, hpre.2] at this
    have hq := same_spec a5 c5 l1.all la lc l1.all (by omega) w8 hcA hownO.cells
    rw [Int.toNat_natCast]
    refine callV hq ?_
    rintro e w9 ⟨rfl, H'⟩
    replace H := H.ext0 H'; clear H'
    exact ⟨_, rfl, br_not (fun h => by simp at h) (fun _ => tail w9 H)⟩
  · have hke : k = os.length := by omega
    clear hnext
    have e1 := inv_open hat.inv
    obtain ⟨b1, b2, b3, b4, b5, b6⟩ := hat.bounds hfew (by rw [ops_len]; omega)
    have H2 : Hp [] W w1 ((dkL x1 d1 ++ [laA la lc l1.all]) ++ [lgT y1 l1, lgB y1 l1, lgA y1 x1.b l1]) := by
      unfold lgL at H
      exact H.perm (perm_cnt fun ff gg h0 hc ha hpm => by simp only [ha, hc, h0]; omega)
    clear H
    have H := H2.takeL
    clear H2
    have ho := open_spec x1 d1 hx1 hat.fit (by omega) nLog w1 H.std1
    rw [hxb, e1] at ho
    have hmany := hat.inv.many
    generalize hlf : Lg.mk nLog l1.mark (l1.b.take l1.firm) l1.firm (l1.all.take l1.many).length (l1.all.take l1.many) 0 = lf at ho
    refine callV ho ?_
    clear ho
    rintro e w2 ⟨x2, hx2b, hx2, ⟨hr, _⟩ | ⟨_, y2, LB, rfl, _, H'⟩⟩
    · exact absurd rfl hr
    replace H := H.useL H'; clear H'
    refine ⟨_, _, rfl, ?_⟩
    refine callV (alive_spec w2) ?_
    rintro e w3 ⟨rfl, H'⟩
    replace H := H.ext0 H'; clear H'
    refine ⟨_, rfl, br_true (br_dec (fun _ => ?_) (fun h => absurd rfl h))⟩
    refine ⟨_, eqv_ptrN undPL, br_mk (fun _ => ?_) (fun h => by simp at h)⟩
    have ef : lf.all = l1.all.take l1.many := by rw [← hlf]
    have efl : lf.all.length = l1.many := by rw [ef, List.length_take]; omega
    have mA : lgA y2 x1.b lf ∈ lgA y2 x1.b lf :: lgT y2 lf :: (LB ++ dkL x2 d1) ++ [laA la lc l1.all] := .head _
    have mO : laA la lc l1.all ∈ lgA y2 x1.b lf :: lgT y2 lf :: (LB ++ dkL x2 d1) ++ [laA la lc l1.all] := List.mem_append_right _ (.head _)
    have stT : ∀ w', Hp [] W w' (lgA y2 x1.b lf :: lgT y2 lf :: (LB ++ dkL x2 d1) ++ [laA la lc l1.all]) → Std w' [lgA y2 x1.b lf, lgT y2 lf] := fun w' H => Hp.std1 (B := []) (w0 := W) (L1 := [lgA y2 x1.b lf, lgT y2 lf]) (L2 := (LB ++ dkL x2 d1) ++ [laA la lc l1.all]) (by simpa using H)
    generalize lgA y2 x1.b lf :: lgT y2 lf :: (LB ++ dkL x2 d1) ++ [laA la lc l1.all] = LL at H mA mO stT
    refine callV (llen_spec y2 x1.b lf w3 (stA1 H mA)) ?_
    rintro e w4 ⟨rfl, H'⟩
    replace H := H.ext0 H'; clear H'
    refine ⟨_, rfl, br_dec (fun _ => ?_) (fun h => by omega)⟩
    refine callV (lall_spec y2 x1.b lf (by omega) w4 (stT w4 H)) ?_
    rintro e w5 ⟨a5, c5, rfl, H'⟩
    have hcN := (H'.ownA (.head _)).cells
    have hN := H'
    replace H := H.ext H'; clear H'
    refine ⟨_, _, _, rfl, ?_⟩
    refine callV (llen_spec y2 x1.b lf w5 (stA1 H (.tail _ mA))) ?_
    rintro e w6 ⟨rfl, H'⟩
    replace H := H.ext0 H'; clear H'
    have hownO : Own _ 0 9 1 la l1.all.length lc (l1.all.map .string) := H.ownA (.tail _ mO)
    have hownN : Own _ 0 9 1 a5 lf.all.length c5 (lf.all.map .string) := H.ownA (.head _)
    have hcap := hownO.le
    refine ⟨_, rfl, ⟨by omega, by omega⟩, ?_⟩
    have hcO : Cells w6 la (lf.all.map .string) := by
      rw [ef, List.map_take]
      exact hownO.cells.take _
    rw [Int.toNat_natCast]
    refine callV (same_spec a5 c5 lf.all la lc lf.all (by omega) w6 hownN.cells hcO) ?_
    rintro e w7 ⟨rfl, H'⟩
    exact ⟨_, rfl, by simp, (H.ext0 H').done⟩
end Go.Proofs.Ytjbopmbffajknaa
/- Redo: the document's state behind a call. -/
namespace Go.Vc
open Go
theorem Hp.blkOwn {B : List Nat} {w0 w : World} {L : List Asn} {b : Nat} {cs : List Value} {e : TypeId} {sz n : Nat} (H : Hp B w0 w (.blk b cs e :: L)) (hl : cs.length = n * sz) (hn : n ≤ maxLen) : Hp B w0 w (.own e sz (some ⟨b, 0, none⟩) n n cs :: L) :=
  H.set (Chg.refl _ _) ⟨hl, .inr ⟨b, cs.toArray, (0, 0), rfl, Nat.zero_le _, H.blk (.head _), Thaw.zero _, Nat.le_refl _, hn, by simpa using hl, by simp [← hl]⟩⟩ (fun k hk => .inl (by simpa [Asn.foot, blks] using hk))
end Go.Vc
namespace Go.Proofs.Ytjbopmbffajknaa
open Go Go.Vc Go.Vault Go.Redo

theorem aggSt : Agg Go.Proofs.Try.prog 56 2 := agg_of (by kernel_rfl)
theorem rlong_spec (aa : Option Addr) (ac : Nat) (all : List ByteArray) (hl : all.length ≤ 1000000000) (w : World) (hc : Cells w aa (all.map .string)) :
    Calls Go.Proofs.Try.prog 23 #[.slice aa all.length ac] w fun e w' => e = .returned (.bool (tooLong all)) ∧ Hp [] w w' [] := by
  apply rlong.ok; unfold rlong.vc
  refine LoopP.mk (fun m s w' => ∃ k : Nat, m = all.length - k ∧ k ≤ all.length ∧ s = (k : Int) ∧ tooLong (all.take k) = false ∧ Hp [] w w' []) all.length ⟨0, rfl, by omega, rfl, rfl, Hp.start w⟩ ?_
  rintro m s w1 next ⟨k, rfl, hk, rfl, hno, H⟩ hnext
  refine br_dec (fun h3 => ?_) (fun h3 => ?_)
  · have hkl : k < all.length := by omega
    have hv : (all.map Value.string)[k]? = some (.string all[k]) := by simp [hkl]
    have hcw := hc.chg H.chg (by simp)
    obtain ⟨ad, ha, _⟩ := hcw k _ hv
    refine onP_mk ha ⟨⟨by omega, by omega⟩, _, by rw [Int.toNat_natCast, Nat.mul_one]; exact hcw.ld sclStr ha hv, ?_⟩
    refine br_dec (fun h4 => ?_) (fun h4 => ?_)
    · have : tooLong all = true := by
        rw [tooLong, List.any_eq_true]
        exact ⟨all[k], List.getElem_mem hkl, by rw [decide_eq_true_eq]; omega⟩
      rw [this]
      exact ⟨rfl, H⟩
    · refine ⟨inR64.2 (by omega), hnext (all.length - (k + 1)) _ _ (by omega) ⟨k + 1, rfl, by omega, by omega, ?_, H⟩⟩
      rw [List.take_succ_eq_append_getElem hkl]
      rw [tooLong] at hno ⊢
      rw [List.any_append, hno]
      simp only [List.any_cons, List.any_nil, Bool.or_false, Bool.false_or, decide_eq_false_iff_not]
      omega
  · have : k = all.length := by omega
    subst this
    rw [List.take_length] at hno
    rw [hno]
    exact ⟨rfl, H⟩
def RdoPost (now firm : Value) (nl : Nat) (N : List ByteArray) (p : RW × ROp) (e : Int) (w : World) (r : Ending) (w' : World) : Prop :=
  (e = 0 ∧ p.2.kind = 0 ∧ ∃ a c, r = .returned (.agg #[.slice a (nl + 1) c, firm]) ∧ Hp [] w w' [laA a c (N ++ [p.2.s])]) ∨
  (¬ (e = 0 ∧ p.2.kind = 0) ∧ r = .returned (.agg (if e = 0 ∧ p.2.kind = 1 then #[now, now] else if e = 0 ∧ p.2.kind = 2 then #[.slice p.1.a p.2.all.length p.1.c, .slice p.1.a p.2.all.length p.1.c] else #[now, firm])) ∧ Hp [] w w' [])
set_option maxHeartbeats 2000000 in
theorem rdo_spec (na : Option Addr) (nc : Nat) (N : List ByteArray) (fa : Option Addr) (fn fc : Nat) (p : RW × ROp) (e : Int) (w : World) (hN : Cells w na (N.map .string)) (h0 : na = none → N.length = 0) (hl : N.length ≤ 1000000) :
    Calls Go.Proofs.Try.prog 24 #[.agg #[.slice na N.length nc, .slice fa fn fc], .agg (ropC p).toArray, .int .i64 e] w (RdoPost (.slice na N.length nc) (.slice fa fn fc) N.length N p e w) := by
  apply rdo.ok; unfold rdo.vc
  have H := Hp.start w
  intro b w1 hn1; replace H := H.new (cs := [.slice na N.length nc, .slice fa fn fc]) (by exact ⟨rfl, rfl, rfl, rfl⟩) hn1; clear hn1
  intro b1 w2 hn2; replace H := H.new (cs := ropC p) (by exact ⟨rfl, rfl, rfl, rfl⟩) hn2; clear hn2
  intro b2 w3 hn3; replace H := H.new (cs := [.slice none 0 0, .slice none 0 0]) (by exact ⟨rfl, rfl, rfl, rfl⟩) hn3; clear hn3
  unfold ropC at H
  -- handing it back
  have ret : ∀ (now firm : Value) (w4 : World) (L : List Asn), now.oneCell' = true → firm.oneCell' = true → now.cells = #[now] → firm.cells = #[firm] → Hp [] w w4 (.blk b2 [.slice none 0 0, .slice none 0 0] 56 :: .blk b [now, firm] 56 :: L) →
      ∃ w5, St Go.Proofs.Try.prog 56 w4 ⟨b2, 0, none⟩ (.agg #[now, firm]) w5 ∧ Ld Go.Proofs.Try.prog 56 w4 ⟨b, 0, none⟩ (.agg #[now, firm]) ∧ Ld Go.Proofs.Try.prog 56 w5 ⟨b2, 0, none⟩ (.agg #[now, firm]) ∧ Hp [] w w5 L := by
    intro now firm w4 L o1 o2 c1 c2 H
    refine Hp.stA H (by exact ⟨rfl, rfl, rfl, rfl⟩) aggSt (vs := [now, firm]) (cs' := [now, firm]) rfl (by simp [o1, o2]) (by simp) rfl ?_
    intro w5 H5
    exact ⟨H.ldA (by exact ⟨rfl, rfl, rfl, rfl⟩) aggSt (.tail _ (.head _)) rfl rfl, H5.ldA (by exact ⟨rfl, rfl, rfl, rfl⟩) aggSt (.head _) rfl rfl, H5.drop.drop⟩
  refine br_ndec (fun he => ?_) (fun he => ?_)
  · obtain ⟨w5, k1, k2, k3, H5⟩ := ret (.slice na N.length nc) (.slice fa fn fc) w3 _ rfl rfl rfl rfl (H.perm (perm_cnt (M := .blk b2 [.slice none 0 0, .slice none 0 0] 56 :: .blk b [.slice na N.length nc, .slice fa fn fc] 56 :: [.blk b1 [.int .i64 p.2.kind, .string p.2.s, .slice p.1.a p.2.all.length p.1.c] 51]) fun ff gg h0 hc ha hpm => by simp only [ha, hc, h0]; omega))
    refine ⟨_, _, _, _, _, _, k2, w5, k1, _, _, _, _, _, _, k3, .inr ⟨fun h => he h.1, ?_, H5.done⟩⟩
    rw [if_neg (fun h => he h.1), if_neg (fun h => he h.1)]
  · refine ⟨_, H.ld (by exact ⟨rfl, rfl, rfl, rfl⟩) sclInt (.tail _ (.head _)) rfl, br_dec (fun hk0 => ?_) (fun hk0 => ?_)⟩
    · intro b3 w4 hn4; replace H := H.new (cs := []) (by exact ⟨rfl, rfl, rfl, rfl⟩) hn4; clear hn4
      refine ⟨_, _, _, H.ld (by exact ⟨rfl, rfl, rfl, rfl⟩) sclTS (.tail _ (.tail _ (.tail _ (.head _)))) rfl, ?_⟩
      replace H := H.blkOwn (e := 9) (sz := 1) (n := 0) rfl (by omega)
      have hcN := hN.chg H.chg (by simp)
      refine Hp.app eltT (by omega) H (by exact ⟨rfl, rfl, rfl, rfl⟩) (Cells.src (n := N.length) undST hcN (by simp) (fun u hu => List.all_eq_true.1 (strs_ones N) u hu) h0) (by simp only [maxLen]; omega) (by omega) ?_
      clear H
      intro a5 c5 w5 H
      rw [List.nil_append, Nat.zero_add N.length] at H
      rw [Nat.zero_add N.length]
      refine ⟨_, H.ld (by exact ⟨rfl, rfl, rfl, rfl⟩) sclStr (.tail _ (.tail _ (.head _))) rfl, ?_⟩
      intro b4 w6 hn6; replace H := H.new (cs := [.string p.2.s]) (by exact ⟨rfl, rfl, rfl, rfl⟩) hn6; clear hn6
      refine Hp.app eltT (by omega) H.pull1 (by exact ⟨rfl, rfl, rfl, rfl⟩) (Blk.src (n := 1) undST (H.blk (.head _)) (by simp) (by rfl)) (by simp only [maxLen]; omega) (by omega) ?_
      clear H
      intro a7 c7 w7 H
      have e7 : N.map Value.string ++ [.string p.2.s] = (N ++ [p.2.s]).map Value.string := by simp
      rw [e7] at H
      have H : Hp [] w w7 (.blk b [.slice na N.length nc, .slice fa fn fc] 56 :: [.own 9 1 a7 (N.length + 1) c7 ((N ++ [p.2.s]).map .string), .blk b4 [.string p.2.s] 9, .blk b2 [.slice none 0 0, .slice none 0 0] 56, .blk b1 [.int .i64 p.2.kind, .string p.2.s, .slice p.1.a p.2.all.length p.1.c] 51]) := H.perm (perm_cnt fun ff gg h0 hc ha hpm => by simp only [ha, hc, h0]; omega)
      refine Hp.st H (by exact ⟨rfl, rfl, rfl, rfl⟩) sclTS rfl rfl (by simp) (cs' := [.slice a7 (N.length + 1) c7, .slice fa fn fc]) rfl ?_
      clear H
      intro w8 H
      have hk1 : ¬ p.2.kind = 1 := by omega
      have hk2 : ¬ p.2.kind = 2 := by omega
      refine ⟨_, H.ld (by exact ⟨rfl, rfl, rfl, rfl⟩) sclInt (by repeat first | exact .head _ | refine .tail _ ?_) rfl, br_dec (fun h => absurd h hk1) (fun _ => ?_)⟩
      refine ⟨_, H.ld (by exact ⟨rfl, rfl, rfl, rfl⟩) sclInt (by repeat first | exact .head _ | refine .tail _ ?_) rfl, br_dec (fun h => absurd h hk2) (fun _ => ?_)⟩
      obtain ⟨w9, k1, k2, k3, H5⟩ := ret (.slice a7 (N.length + 1) c7) (.slice fa fn fc) w8 _ rfl rfl rfl rfl (H.perm (perm_cnt (M := .blk b2 [.slice none 0 0, .slice none 0 0] 56 :: .blk b [.slice a7 (N.length + 1) c7, .slice fa fn fc] 56 :: [.own 9 1 a7 (N.length + 1) c7 ((N ++ [p.2.s]).map .string), .blk b4 [.string p.2.s] 9, .blk b1 [.int .i64 p.2.kind, .string p.2.s, .slice p.1.a p.2.all.length p.1.c] 51]) fun ff gg h0 hc ha hpm => by simp only [ha, hc, h0]; omega))
      refine ⟨_, _, _, _, _, _, k2, w9, k1, _, _, _, _, _, _, k3, .inl ⟨he, hk0, a7, c7, rfl, ?_⟩⟩
      have := H5.done1
      rw [laA, List.length_append]
      exact this
    · refine ⟨_, H.ld (by exact ⟨rfl, rfl, rfl, rfl⟩) sclInt (.tail _ (.head _)) rfl, br_dec (fun hk1 => ?_) (fun hk1 => ?_)⟩
      · refine ⟨_, _, _, H.ld (by exact ⟨rfl, rfl, rfl, rfl⟩) sclTS (.tail _ (.tail _ (.head _))) rfl, ?_⟩
        have H : Hp [] w w3 (.blk b [.slice na N.length nc, .slice fa fn fc] 56 :: [.blk b2 [.slice none 0 0, .slice none 0 0] 56, .blk b1 [.int .i64 p.2.kind, .string p.2.s, .slice p.1.a p.2.all.length p.1.c] 51]) := H.perm (perm_cnt fun ff gg h0 hc ha hpm => by simp only [ha, hc, h0]; omega)
        refine Hp.st H (by exact ⟨rfl, rfl, rfl, rfl⟩) sclTS rfl rfl (by simp) (cs' := [.slice na N.length nc, .slice na N.length nc]) rfl ?_
        clear H
        intro w8 H
        have hk2 : ¬ p.2.kind = 2 := by omega
        refine ⟨_, H.ld (by exact ⟨rfl, rfl, rfl, rfl⟩) sclInt (.tail _ (.tail _ (.head _))) rfl, br_dec (fun h => absurd h hk2) (fun _ => ?_)⟩
        obtain ⟨w9, k1, k2, k3, H5⟩ := ret (.slice na N.length nc) (.slice na N.length nc) w8 _ rfl rfl rfl rfl H.pull1
        refine ⟨_, _, _, _, _, _, k2, w9, k1, _, _, _, _, _, _, k3, .inr ⟨fun h => hk0 h.2, ?_, H5.done⟩⟩
        rw [if_pos ⟨he, hk1⟩]
      · refine ⟨_, H.ld (by exact ⟨rfl, rfl, rfl, rfl⟩) sclInt (.tail _ (.head _)) rfl, br_dec (fun hk2 => ?_) (fun hk2 => ?_)⟩
        · refine ⟨_, _, _, H.ld (by exact ⟨rfl, rfl, rfl, rfl⟩) sclTS (.tail _ (.head _)) rfl, ?_⟩
          have H : Hp [] w w3 (.blk b [.slice na N.length nc, .slice fa fn fc] 56 :: [.blk b2 [.slice none 0 0, .slice none 0 0] 56, .blk b1 [.int .i64 p.2.kind, .string p.2.s, .slice p.1.a p.2.all.length p.1.c] 51]) := H.perm (perm_cnt fun ff gg h0 hc ha hpm => by simp only [ha, hc, h0]; omega)
          refine Hp.st H (by exact ⟨rfl, rfl, rfl, rfl⟩) sclTS rfl rfl (by simp) (cs' := [.slice p.1.a p.2.all.length p.1.c, .slice fa fn fc]) rfl ?_
          clear H
          intro w8 H
          refine ⟨_, _, _, H.ld (by exact ⟨rfl, rfl, rfl, rfl⟩) sclTS (.tail _ (.tail _ (.head _))) rfl, ?_⟩
          refine Hp.st H (by exact ⟨rfl, rfl, rfl, rfl⟩) sclTS rfl rfl (by simp) (cs' := [.slice p.1.a p.2.all.length p.1.c, .slice p.1.a p.2.all.length p.1.c]) rfl ?_
          clear H
          intro w9 H
          obtain ⟨w10, k1, k2, k3, H5⟩ := ret (.slice p.1.a p.2.all.length p.1.c) (.slice p.1.a p.2.all.length p.1.c) w9 _ rfl rfl rfl rfl H.pull1
          refine ⟨_, _, _, _, _, _, k2, w10, k1, _, _, _, _, _, _, k3, .inr ⟨fun h => hk0 h.2, ?_, H5.done⟩⟩
          rw [if_neg (fun h => hk1 h.2), if_pos ⟨he, hk2⟩]
        · obtain ⟨w5, k1, k2, k3, H5⟩ := ret (.slice na N.length nc) (.slice fa fn fc) w3 _ rfl rfl rfl rfl (H.perm (perm_cnt (M := .blk b2 [.slice none 0 0, .slice none 0 0] 56 :: .blk b [.slice na N.length nc, .slice fa fn fc] 56 :: [.blk b1 [.int .i64 p.2.kind, .string p.2.s, .slice p.1.a p.2.all.length p.1.c] 51]) fun ff gg h0 hc ha hpm => by simp only [ha, hc, h0]; omega))
          refine ⟨_, _, _, _, _, _, k2, w5, k1, _, _, _, _, _, _, k3, .inr ⟨fun h => hk0 h.2, ?_, H5.done⟩⟩
          rw [if_neg (fun h => hk1 h.2), if_neg (fun h => hk2 h.2)]
end Go.Proofs.Ytjbopmbffajknaa
/- Redo: the law of RedoAll. -/
namespace Go.Proofs.Ytjbopmbffajknaa
open Go Go.Vc Go.Vault Go.Redo

/-- what the law asks behind each call -/
def AllTail (p_1 : Option Addr) (b b_1 : Nat) (i s : Int) (R : Ending → World → Prop) (next : Int → World → Prop) (w' : World) : Prop :=
  ∃ (a : Option Addr), ∃ (l : Nat), ∃ (c : Nat), ∃ (a_2 : Option Addr), ∃ (l_1 : Nat), ∃ (c_1 : Nat), Ld Go.Proofs.Try.prog 56 w' (Addr.mk b 0 none) (Value.agg #[Value.slice a l c, Value.slice a_2 l_1 c_1]) ∧
  ∃ (i_2 : Int), ∃ (s_4 : ByteArray), ∃ (a_3 : Option Addr), ∃ (l_2 : Nat), ∃ (c_2 : Nat), Ld Go.Proofs.Try.prog 51 w' (Addr.mk b_1 0 none) (Value.agg #[Value.int IntKind.i64 i_2, Value.string s_4, Value.slice a_3 l_2 c_2]) ∧
  CallV Go.Proofs.Try.prog 24 [Value.agg #[Value.slice a l c, Value.slice a_2 l_1 c_1], Value.agg #[Value.int IntKind.i64 i_2, Value.string s_4, Value.slice a_3 l_2 c_2], Value.int IntKind.i64 i] w' fun (e : Ending) (w' : World) =>
  ∃ (a : Option Addr), ∃ (l : Nat), ∃ (c : Nat), ∃ (a_4 : Option Addr), ∃ (l_3 : Nat), ∃ (c_3 : Nat), e = Ending.returned (Value.agg #[Value.slice a l c, Value.slice a_4 l_3 c_3]) ∧
  ∃ (w1 : World), St Go.Proofs.Try.prog 56 w' (Addr.mk b 0 none) (Value.agg #[Value.slice a l c, Value.slice a_4 l_3 c_3]) w1 ∧
  ∃ (a : Option Addr), ∃ (l : Nat), ∃ (c : Nat), Ld Go.Proofs.Try.prog 49 (World.drew w1) (Addr.mk b 0 none) (Value.slice a l c) ∧
  CallV Go.Proofs.Try.prog 21 [Value.pointer p_1] (World.drew w1) fun (e : Ending) (w' : World) => ∃ (a_5 : Option Addr), ∃ (l_4 : Nat), ∃ (c_4 : Nat), e = Ending.returned (Value.slice a_5 l_4 c_4) ∧
  Ld Go.Proofs.Try.prog 49 w' (Addr.mk b 0 none) (Value.slice a l c) ∧
  CallV Go.Proofs.Try.prog 22 [Value.slice a_5 l_4 c_4, Value.slice a l c] w' fun (e : Ending) (w' : World) => ∃ (b_2 : Bool), e = Ending.returned (Value.bool b_2) ∧
  br (!b_2) (R (Ending.returned (Value.bool false)) w') (∃ (a : Option Addr), ∃ (l : Nat), ∃ (c : Nat), Ld Go.Proofs.Try.prog 49 w' (Addr.mk b 0 none) (Value.slice a l c) ∧
  CallV Go.Proofs.Try.prog 13 [Value.pointer p_1] w' fun (e : Ending) (w' : World) => ∃ (i : Int), e = Ending.returned (Value.int IntKind.i64 i) ∧ Ld Go.Proofs.Try.prog 49 w' (Addr.mk b 0 none) (Value.slice a l c) ∧
  br (!decide (i = (l : Int))) (R (Ending.returned (Value.bool false)) w') (∃ (a : Option Addr), ∃ (l : Nat), ∃ (c : Nat), Ld Go.Proofs.Try.prog 49 w' (Addr.mk b 1 none) (Value.slice a l c) ∧
  CallV Go.Proofs.Try.prog 12 [Value.pointer p_1] w' fun (e : Ending) (w' : World) => ∃ (i : Int), e = Ending.returned (Value.int IntKind.i64 i) ∧ Ld Go.Proofs.Try.prog 49 w' (Addr.mk b 1 none) (Value.slice a l c) ∧
  br (!decide (i = (l : Int))) (R (Ending.returned (Value.bool false)) w') (CallV Go.Proofs.Try.prog 14 [Value.pointer p_1] w' fun (e : Ending) (w' : World) => ∃ (i : Int), e = Ending.returned (Value.int IntKind.i64 i) ∧
  br (!decide (i = (0 : Int))) (R (Ending.returned (Value.bool false)) w') (inR IntKind.i64 (s + (1 : Int)) ∧ next (s + (1 : Int)) w'))))

/-- strings that are one of those of one's own, or stand in the arguments -/
def SrcL (W : World) (own : List Asn) (a : Option Addr) (l : List ByteArray) : Prop := (∃ c, laA a c l ∈ own) ∨ (Cells W a (l.map .string) ∧ (a = none → l.length = 0))
theorem SrcL.at {W w : World} {own L : List Asn} {a : Option Addr} {l : List ByteArray} (h : SrcL W own a l) (H : Hp [] W w L) (hs : ∀ x ∈ own, x ∈ L) : Cells w a (l.map .string) ∧ (a = none → l.length = 0) := by
  rcases h with ⟨c, h⟩ | ⟨h1, h2⟩
  · have ho : Own _ 0 9 1 a l.length c (l.map .string) := H.ownA (hs _ h)
    exact ⟨ho.cells, ownNil ho⟩
  · exact ⟨h1.chg H.chg (by simp), h2⟩
theorem SrcL.more {W : World} {own own' : List Asn} {a : Option Addr} {l : List ByteArray} (h : SrcL W own a l) (hs : ∀ x ∈ own, x ∈ own') : SrcL W own' a l := by
  rcases h with ⟨c, h⟩ | h
  · exact .inl ⟨c, hs _ h⟩
  · exact .inr h
/-- the document's state, in a block -/
def stC (na : Option Addr) (nc : Nat) (fa : Option Addr) (fc : Nat) (s : List ByteArray × List ByteArray) : List Value := [.slice na s.1.length nc, .slice fa s.2.length fc]
set_option maxHeartbeats 2000000 in
theorem allTail {W : World} {sa : Option Addr} {os : List (RW × ROp)} (hs : RScr W sa os) (hf : fewB (ops os) = true) {k : Nat} {p : RW × ROp} (hp : os[k]? = some p) {x : DW} {y : LW} {d : Dk} {l : Lg} (hat : At (ops os) (k + 1) d l) {s : List ByteArray × List ByteArray} (hst : stOf l = nx p.2 s) (hsl : s.1.length ≤ 300000)
    {bs bo : Nat} {na fa : Option Addr} {nc fc : Nat} {own : List Asn} (hN : SrcL W own na s.1) (hF : SrcL W own fa s.2) {w : World} (H : Hp [] W w (lgL y x d l ++ (.blk bs (stC na nc fa fc s) 56 :: .blk bo (ropC p) 51 :: own)))
    {R : Ending → World → Prop} {next : Int → World → Prop} {i : Int} (hi : i = if longO p.2 then 101 else 0)
    (hnext : ∀ (w' : World) (na fa : Option Addr) (nc fc : Nat) (own : List Asn), SrcL W own na (stOf l).1 → SrcL W own fa (stOf l).2 → Hp [] W w' (lgL y x d l ++ (.blk bs (stC na nc fa fc (stOf l)) 56 :: .blk bo (ropC p) 51 :: own)) → next ((k : Int) + 1) w') :
    AllTail (some ⟨y.b, 0, none⟩) bs bo i (k : Int) R next w := by
  unfold AllTail
  have hk : k < os.length := (List.getElem?_eq_some_iff.1 hp).1
  obtain ⟨b1, b2, b3, b4, b5, b6⟩ := hat.bounds hf (by rw [ops_len]; omega)
  have hl100 : os.length ≤ 100 := by
    have := b1
    unfold fewB at hf
    split at hf
    · rename_i h; have := of_decide_eq_true h; rw [ops_len] at this; exact this
    · cases hf
  have mS : Asn.blk bs (stC na nc fa fc s) 56 ∈ lgL y x d l ++ (.blk bs (stC na nc fa fc s) 56 :: .blk bo (ropC p) 51 :: own) := List.mem_append_right _ (.head _)
  have mO : Asn.blk bo (ropC p) 51 ∈ lgL y x d l ++ (.blk bs (stC na nc fa fc s) 56 :: .blk bo (ropC p) 51 :: own) := List.mem_append_right _ (.tail _ (.head _))
  refine ⟨_, _, _, _, _, _, H.ldA (cs := stC na nc fa fc s) (by exact ⟨rfl, rfl, rfl, rfl⟩) aggSt mS rfl rfl, ?_⟩
  refine ⟨_, _, _, _, _, H.ldA (cs := ropC p) (by exact ⟨rfl, rfl, rfl, rfl⟩) aggOp mO rfl rfl, ?_⟩
  obtain ⟨cN, nN⟩ := hN.at H fun x hx => List.mem_append_right _ (.tail _ (.tail _ hx))
  refine callV (rdo_spec na nc s.1 fa s.2.length fc p i w cN nN (by omega)) ?_
  -- what it hands back is the document's state
  have key : ∀ e w1, RdoPost (.slice na s.1.length nc) (.slice fa s.2.length fc) s.1.length s.1 p i w e w1 → ∃ (na' fa' : Option Addr) (nc' fc' : Nat) (own' : List Asn), e = .returned (.agg #[.slice na' (stOf l).1.length nc', .slice fa' (stOf l).2.length fc']) ∧ SrcL W own' na' (stOf l).1 ∧ SrcL W own' fa' (stOf l).2 ∧
      Hp [] W w1 (lgL y x d l ++ (.blk bs (stC na nc fa fc s) 56 :: .blk bo (ropC p) 51 :: own')) := by
    rintro e w1 (⟨h1, h2, a, c, rfl, H'⟩ | ⟨h1, rfl, H'⟩)
    · have hlo : longO p.2 = false := by
        cases h : longO p.2 with
        | false => rfl
        | true => rw [h, if_pos rfl] at hi; omega
      have e1 : stOf l = (s.1 ++ [p.2.s], s.2) := by rw [hst, nx, hlo, if_neg (by simp), if_pos h2]
      rw [e1]
      refine ⟨a, fa, c, fc, laA a c (s.1 ++ [p.2.s]) :: own, by simp, .inl ⟨c, .head _⟩, hF.more fun x hx => .tail _ hx, ?_⟩
      exact (H.ext H').perm (perm_cnt fun ff gg h0 hc ha hpm => by simp only [ha, hc, h0]; omega)
    · have H2 := H.ext0 H'
      have hall : SrcL W own p.1.a p.2.all := .inr ⟨hs.all p (List.mem_of_getElem? hp), hs.nil p (List.mem_of_getElem? hp)⟩
      cases hlo : longO p.2 with
      | true =>
        rw [hlo, if_pos rfl] at hi
        have hne : ¬ i = 0 := by omega
        have e1 : stOf l = s := by rw [hst, nx, if_pos hlo]
        rw [if_neg (fun h => hne h.1), if_neg (fun h => hne h.1), e1]
        exact ⟨na, fa, nc, fc, own, rfl, hN, hF, H2⟩
      | false =>
        rw [hlo, if_neg (by simp)] at hi
        have hk0 : ¬ p.2.kind = 0 := fun h => h1 ⟨hi, h⟩
        have e1 : stOf l = if p.2.kind = 1 then (s.1, s.1) else if p.2.kind = 2 then (p.2.all, p.2.all) else s := by rw [hst, nx, hlo, if_neg (by simp), if_neg hk0]
        by_cases hk1 : p.2.kind = 1
        · rw [if_pos ⟨hi, hk1⟩, e1, if_pos hk1]
          exact ⟨na, na, nc, nc, own, rfl, hN, hN, H2⟩
        · rw [if_neg (fun h => hk1 h.2)]
          rw [if_neg hk1] at e1
          by_cases hk2 : p.2.kind = 2
          · rw [if_pos ⟨hi, hk2⟩, e1, if_pos hk2]
            exact ⟨p.1.a, p.1.a, p.1.c, p.1.c, own, rfl, hall, hall, H2⟩
          · rw [if_neg (fun h => hk2 h.2), e1, if_neg hk2]
            exact ⟨na, fa, nc, fc, own, rfl, hN, hF, H2⟩
  intro e w1 hpost
  obtain ⟨na', fa', nc', fc', own', rfl, hN', hF', H1⟩ := key e w1 hpost
  clear key hpost H hN hF mS mO cN nN
  refine ⟨_, _, _, _, _, _, rfl, ?_⟩
  have H1 : Hp [] W w1 (.blk bs (stC na nc fa fc s) 56 :: (lgL y x d l ++ (.blk bo (ropC p) 51 :: own'))) := H1.perm (perm_cnt fun ff gg h0 hc ha hpm => by simp only [ha, hc, h0]; omega)
  refine Hp.stA H1 (by exact ⟨rfl, rfl, rfl, rfl⟩) aggSt (vs := stC na' nc' fa' fc' (stOf l)) (cs' := stC na' nc' fa' fc' (stOf l)) rfl rfl (by simp [stC]) rfl ?_
  clear H1
  intro w2 H
  have H : Hp [] W w2 (lgL y x d l ++ (.blk bs (stC na' nc' fa' fc' (stOf l)) 56 :: .blk bo (ropC p) 51 :: own')) := H.perm (perm_cnt fun ff gg h0 hc ha hpm => by simp only [ha, hc, h0]; omega)
  replace H := H.drew
  generalize w2.drew = w2 at H ⊢
  have mS : Asn.blk bs (stC na' nc' fa' fc' (stOf l)) 56 ∈ lgL y x d l ++ (.blk bs (stC na' nc' fa' fc' (stOf l)) 56 :: .blk bo (ropC p) 51 :: own') := List.mem_append_right _ (.head _)
  have mA : lgA y x.b l ∈ lgL y x d l ++ (.blk bs (stC na' nc' fa' fc' (stOf l)) 56 :: .blk bo (ropC p) 51 :: own') := List.mem_append_left _ (lgA_mem _ _ _ _)
  refine ⟨_, _, _, H.ld (cs := stC na' nc' fa' fc' (stOf l)) (by exact ⟨rfl, rfl, rfl, rfl⟩) sclTS mS rfl, ?_⟩
  refine callV (lall_spec y x.b l (by omega) w2 (lg_all H)) ?_
  rintro e w3 ⟨a5, c5, rfl, H'⟩
  have hc5 : Cells w3 a5 (l.all.map .string) := (H'.ownA (e := 9) (.head _)).cells
  replace H := H.ext0 (⟨H'.chg, by simp, by simp, .nil⟩ : Hp [] w2 w3 [])
  refine ⟨_, _, _, rfl, H.ld (cs := stC na' nc' fa' fc' (stOf l)) (by exact ⟨rfl, rfl, rfl, rfl⟩) sclTS mS rfl, ?_⟩
  obtain ⟨cN', nN'⟩ := hN'.at H fun x hx => List.mem_append_right _ (.tail _ (.tail _ hx))
  refine callV (same_spec a5 c5 l.all na' nc' (stOf l).1 (by omega) w3 hc5 cN') ?_
  rintro e w4 ⟨rfl, H'⟩
  replace H := H.ext0 H'; clear H'
  refine ⟨_, rfl, br_not (fun h => absurd rfl (of_decide_eq_false h)) (fun _ => ?_)⟩
  refine ⟨_, _, _, H.ld (cs := stC na' nc' fa' fc' (stOf l)) (by exact ⟨rfl, rfl, rfl, rfl⟩) sclTS mS rfl, ?_⟩
  refine callV (llen_spec y x.b l w4 (stA1 H mA)) ?_
  rintro e w5 ⟨rfl, H'⟩
  replace H := H.ext0 H'; clear H'
  refine ⟨_, rfl, H.ld (cs := stC na' nc' fa' fc' (stOf l)) (by exact ⟨rfl, rfl, rfl, rfl⟩) sclTS mS rfl, br_ndec (fun h => absurd rfl h) (fun _ => ?_)⟩
  refine ⟨_, _, _, H.ld (cs := stC na' nc' fa' fc' (stOf l)) (by exact ⟨rfl, rfl, rfl, rfl⟩) sclTS mS rfl, ?_⟩
  refine callV (lfirm_spec y x.b l w5 (stA1 H mA)) ?_
  rintro e w6 ⟨rfl, H'⟩
  replace H := H.ext0 H'; clear H'
  have hm : ((l.many : Nat) : Int) = ((stOf l).2.length : Int) := by
    have := hat.inv.many
    show _ = ((l.all.take l.many).length : Int)
    rw [List.length_take]; omega
  refine ⟨_, rfl, H.ld (cs := stC na' nc' fa' fc' (stOf l)) (by exact ⟨rfl, rfl, rfl, rfl⟩) sclTS mS rfl, br_ndec (fun h => absurd hm h) (fun _ => ?_)⟩
  refine callV (lstuck_spec y x.b l w6 (stA1 H mA)) ?_
  rintro e w7 ⟨rfl, H'⟩
  replace H := H.ext0 H'; clear H'
  refine ⟨_, rfl, br_ndec (fun h => absurd hat.inv.code h) (fun _ => ?_)⟩
  exact ⟨inR64.2 (by omega), hnext w7 na' fa' nc' fc' own' hN' hF' H⟩
set_option maxHeartbeats 4000000 in
theorem redoAll_law (sa : Option Addr) (sc : Nat) (os : List (RW × ROp)) (W : World) (hs : RScr W sa os) (hl : os.length ≤ 1000000000) (hb : fewN (ops os) ≤ 1000000000) :
    Calls Go.Proofs.Try.prog 6 #[.slice sa os.length sc] W fun e W' => e = .returned (.bool true) ∧ Hp [] W W' [] := by
  apply redoAll.ok; unfold redoAll.vc
  have H := Hp.start W
  refine callV (few_spec sa sc os W hs hl hb) ?_
  rintro e w1 ⟨rfl, H'⟩
  replace H := H.ext0 H'; clear H'
  refine ⟨_, rfl, br_not (fun hfew => aliveR H) (fun hfew => ?_)⟩
  refine callV (opened_spec w1) ?_
  rintro e w2 ⟨x, y, d, l, rfl, hx, hat, hst, H'⟩
  replace H := H.ext H'; clear H'
  rw [List.append_nil] at H
  replace hat := hat (ops os)
  refine ⟨_, _, rfl, _, eqv_ptrE undPL, br_false ?_⟩
  intro bs w3 hn; replace H := H.new (cs := stC none 0 none 0 (stOf l)) (by exact ⟨rfl, rfl, rfl, rfl⟩) (by rw [hst]; exact hn); clear hn
  refine LoopP.mk (fun (m : Nat) (s : Int) (w' : World) => ∃ (k : Nat) (x2 : DW) (y2 : LW) (d2 : Dk) (l2 : Lg) (na fa : Option Addr) (nc fc : Nat) (own : List Asn), m = os.length - k ∧ k ≤ os.length ∧ s = (k : Int) ∧ x2.b = x.b ∧ y2.b = y.b ∧ x2.Ok d2 ∧ At (ops os) k d2 l2 ∧
    SrcL W own na (stOf l2).1 ∧ SrcL W own fa (stOf l2).2 ∧ Hp [] W w' (lgL y2 x2 d2 l2 ++ (.blk bs (stC na nc fa fc (stOf l2)) 56 :: own))) os.length ⟨0, x, y, d, l, none, none, 0, 0, [], rfl, by omega, rfl, rfl, rfl, hx, hat, ?_, ?_, ?_⟩ ?_
  · rw [hst]; exact .inr ⟨by intro j v hj; simp at hj, fun _ => rfl⟩
  · rw [hst]; exact .inr ⟨by intro j v hj; simp at hj, fun _ => rfl⟩
  · exact H.perm (List.perm_append_comm (l₁ := [_]))
  clear H hat hst hx
  rintro m s w1 next ⟨k, x1, y1, d1, l1, na, fa, nc, fc, own, rfl, hk, rfl, hxb, hyb, hx1, hat, hN, hF, H⟩ hnext
  refine br_dec (fun h3 => ?_) (fun h3 => ?_)
  · have hkl : k < os.length := by omega
    obtain ⟨p, hp⟩ : ∃ p, os[k]? = some p := ⟨_, List.getElem?_eq_getElem hkl⟩
    obtain ⟨ad, ha, hld⟩ := (hs.chg0 H.chg).ldA hp
    refine onP_mk ha ⟨⟨by omega, by omega⟩, _, _, _, _, _, by rw [Int.toNat_natCast]; exact hld, ?_⟩
    intro bo w2 hn; replace H := H.new (by exact ⟨rfl, rfl, rfl, rfl⟩) hn; clear hn
    refine Hp.stA H (by exact ⟨rfl, rfl, rfl, rfl⟩) aggOp (vs := ropC p) (cs' := ropC p) rfl rfl (by simp) rfl ?_
    clear H; intro w3 H
    refine ⟨_, _, _, _, _, H.ldA (cs := ropC p) (by exact ⟨rfl, rfl, rfl, rfl⟩) aggOp (.head _) rfl rfl, ?_⟩
    have H2 : Hp [] W w3 (lgL y1 x1 d1 l1 ++ (.blk bs (stC na nc fa fc (stOf l1)) 56 :: .blk bo (ropC p) 51 :: own)) := H.perm (perm_cnt fun ff gg h0 hc ha hpm => by simp only [ha, hc, h0]; omega)
    clear H
    have hd := does_at hs hfew hp hx1 hat H2
    rw [hyb] at hd
    refine callV hd ?_
    clear hd H2
    rintro e w4 ⟨x2, y2, d2, l2, rfl, hx2b, hy2b, hx2, hat2, hst, H⟩
    refine ⟨_, rfl, ?_⟩
    have c3 := (hat.bounds hfew (by rw [ops_len]; omega)).2.2.1
    have mO : Asn.blk bo (ropC p) 51 ∈ lgL y2 x2 d2 l2 ++ (.blk bs (stC na nc fa fc (stOf l1)) 56 :: .blk bo (ropC p) 51 :: own) := List.mem_append_right _ (.tail _ (.head _))
    obtain ⟨i, hi⟩ : ∃ i : Int, i = if longO p.2 then 101 else 0 := ⟨_, rfl⟩
    rw [← hi]
    have tail : ∀ w', Hp [] W w' (lgL y2 x2 d2 l2 ++ (.blk bs (stC na nc fa fc (stOf l1)) 56 :: .blk bo (ropC p) 51 :: own)) → AllTail (some ⟨y.b, 0, none⟩) bs bo i (k : Int) (fun e W' => e = .returned (.bool true) ∧ Hp [] W W' []) next w' := by
      intro w' H
      have := allTail (R := fun e W' => e = .returned (.bool true) ∧ Hp [] W W' []) (next := next) hs hfew hp hat2 hst (show l1.all.length ≤ 300000 by omega) hN hF H hi (fun w5 na' fa' nc' fc' own' hN' hF' H5 => hnext (os.length - (k + 1)) _ _ (by omega) ⟨k + 1, x2, y2, d2, l2, na', fa', nc', fc', own', rfl, by omega, by simp, by rw [hx2b, hxb], hy2b, hx2, hat2, hN', hF', by
        have h5 : Hp [] W w5 ((lgL y2 x2 d2 l2 ++ (.blk bs (stC na' nc' fa' fc' (stOf l2)) 56 :: own')) ++ [.blk bo (ropC p) 51]) := H5.perm (perm_cnt fun ff gg h0 hc ha hpm => by simp only [ha, hc, h0]; omega)
        exact h5.takeL⟩)
      rwa [hy2b] at this
    clear hnext
    have h101 : (i = 101 ↔ longO p.2 = true) ∧ (i = 0 ↔ longO p.2 = false) := by
      cases h : longO p.2 with
      | true => rw [h, if_pos rfl] at hi; simp [hi]
      | false => rw [h, if_neg (by simp)] at hi; simp [hi]
    clear hi
    have hall := fun w' (H : Hp [] W w' (lgL y2 x2 d2 l2 ++ (.blk bs (stC na nc fa fc (stOf l1)) 56 :: .blk bo (ropC p) 51 :: own))) => (hs.all p (List.mem_of_getElem? hp)).chg H.chg (by simp)
    have hN200 : fewN (ops os) ≤ 200000 := by
      unfold fewB at hfew
      split at hfew
      · exact of_decide_eq_true hfew
      · cases hfew
    have f1 := fewN_take (ops_at hp)
    have f2 := fewN_le (ops os) (k + 1)
    have f3 : p.2.s.size + (p.2.all.map fun s => s.size + 17).sum = opN p.2 := rfl
    have f4 := many_len p.2.all
    refine ⟨_, H.ld (cs := ropC p) (by exact ⟨rfl, rfl, rfl, rfl⟩) sclInt mO rfl, br_dec (fun hk0 => ?_) (fun hk0 => ?_)⟩
    · refine ⟨_, H.ld (cs := ropC p) (by exact ⟨rfl, rfl, rfl, rfl⟩) sclStr mO rfl, br_dec (fun hk1 => ?_) (fun hk1 => ?_)⟩
      · have hlo : longO p.2 = true := by simp [longO, hk0]; omega
        rw [decide_eq_true (h101.1.2 hlo)]
        exact br_false (tail w4 H)
      · have hlo : longO p.2 = false := by simp [longO, hk0]; omega
        have hne : ¬ i = 101 := fun h => by rw [h101.1.1 h] at hlo; cases hlo
        have h00 : i = 0 := h101.2.2 hlo
        have hk2 : ¬ p.2.kind = 2 := by omega
        refine ⟨_, H.ld (cs := ropC p) (by exact ⟨rfl, rfl, rfl, rfl⟩) sclInt mO rfl, br_dec (fun h => absurd h hk2) (fun _ => ?_)⟩
        rw [decide_eq_false hne]
        exact br_false (br_ndec (fun h => absurd h00 h) (fun _ => tail w4 H))
    · refine ⟨_, H.ld (cs := ropC p) (by exact ⟨rfl, rfl, rfl, rfl⟩) sclInt mO rfl, br_dec (fun hk2 => ?_) (fun hk2 => ?_)⟩
      · refine ⟨_, _, _, H.ld (cs := ropC p) (by exact ⟨rfl, rfl, rfl, rfl⟩) sclTS mO rfl, ?_⟩
        refine callV (rlong_spec p.1.a p.1.c p.2.all (by omega) w4 (hall w4 H)) ?_
        rintro e w5 ⟨rfl, H'⟩
        replace H := H.ext0 H'; clear H'
        have hlo : longO p.2 = tooLong p.2.all := by simp [longO, hk2]
        rw [hlo] at h101
        refine ⟨_, rfl, ?_⟩
        cases htl : tooLong p.2.all with
        | true =>
          rw [htl] at h101
          rw [decide_eq_true (h101.1.2 rfl)]
          exact br_false (br_false (tail w5 H))
        | false =>
          rw [htl] at h101
          rw [decide_eq_false (fun h => by have := h101.1.1 h; cases this)]
          exact br_false (br_true (br_ndec (fun h => absurd (h101.2.2 rfl) h) (fun _ => tail w5 H)))
      · have hlo : longO p.2 = false := by simp [longO, hk0, hk2]
        have hne : ¬ i = 101 := fun h => by rw [h101.1.1 h] at hlo; cases hlo
        have h00 : i = 0 := h101.2.2 hlo
        rw [decide_eq_false hne]
        exact br_false (br_ndec (fun h => absurd h00 h) (fun _ => tail w4 H))
  · have hke : k = os.length := by omega
    clear hnext
    have e1 := inv_open hat.inv
    obtain ⟨b1, b2, b3, b4, b5, b6⟩ := hat.bounds hfew (by rw [ops_len]; omega)
    have H2 : Hp [] W w1 ((dkL x1 d1 ++ (.blk bs (stC na nc fa fc (stOf l1)) 56 :: own)) ++ [lgT y1 l1, lgB y1 l1, lgA y1 x1.b l1]) := by
      unfold lgL at H
      exact H.perm (perm_cnt fun ff gg h0 hc ha hpm => by simp only [ha, hc, h0]; omega)
    clear H
    have H := H2.takeL
    clear H2
    have ho := open_spec x1 d1 hx1 hat.fit (by omega) nLog w1 H.std1
    rw [hxb, e1] at ho
    have hmany := hat.inv.many
    generalize hlf : Lg.mk nLog l1.mark (l1.b.take l1.firm) l1.firm (l1.all.take l1.many).length (l1.all.take l1.many) 0 = lf at ho
    refine callV ho ?_
    clear ho
    rintro e w2 ⟨x2, hx2b, hx2, ⟨hr, _⟩ | ⟨_, y2, LB, rfl, _, H'⟩⟩
    · exact absurd rfl hr
    replace H := H.useL H'; clear H'
    refine ⟨_, _, rfl, ?_⟩
    have ef : lf.all = (stOf l1).2 := by rw [← hlf]; rfl
    have ef2 : lf.many = (stOf l1).2.length := by rw [← hlf]; rfl
    have efl : lf.all.length ≤ 1000000 := by rw [ef]; show (l1.all.take l1.many).length ≤ _; rw [List.length_take]; omega
    have mA : lgA y2 x1.b lf ∈ lgA y2 x1.b lf :: lgT y2 lf :: (LB ++ dkL x2 d1) ++ (.blk bs (stC na nc fa fc (stOf l1)) 56 :: own) := .head _
    have mS : Asn.blk bs (stC na nc fa fc (stOf l1)) 56 ∈ lgA y2 x1.b lf :: lgT y2 lf :: (LB ++ dkL x2 d1) ++ (.blk bs (stC na nc fa fc (stOf l1)) 56 :: own) := List.mem_append_right _ (.head _)
    have mW : ∀ x ∈ own, x ∈ lgA y2 x1.b lf :: lgT y2 lf :: (LB ++ dkL x2 d1) ++ (.blk bs (stC na nc fa fc (stOf l1)) 56 :: own) := fun x hx => List.mem_append_right _ (.tail _ hx)
    have stT : ∀ w', Hp [] W w' (lgA y2 x1.b lf :: lgT y2 lf :: (LB ++ dkL x2 d1) ++ (.blk bs (stC na nc fa fc (stOf l1)) 56 :: own)) → Std w' [lgA y2 x1.b lf, lgT y2 lf] := fun w' H => Hp.std1 (B := []) (w0 := W) (L1 := [lgA y2 x1.b lf, lgT y2 lf]) (L2 := (LB ++ dkL x2 d1) ++ (.blk bs (stC na nc fa fc (stOf l1)) 56 :: own)) (by simpa using H)
    generalize lgA y2 x1.b lf :: lgT y2 lf :: (LB ++ dkL x2 d1) ++ (.blk bs (stC na nc fa fc (stOf l1)) 56 :: own) = LL at H mA mS mW stT
    replace H := H.drew
    refine callV (alive_spec _) ?_
    rintro e w3 ⟨rfl, H'⟩
    replace H := H.ext0 H'; clear H'
    refine ⟨_, rfl, br_true (br_dec (fun _ => ?_) (fun h => absurd rfl h))⟩
    refine ⟨_, _, _, H.ld (cs := stC na nc fa fc (stOf l1)) (by exact ⟨rfl, rfl, rfl, rfl⟩) sclTS mS rfl, ?_⟩
    refine callV (lall_spec y2 x1.b lf (by omega) w3 (stT w3 H)) ?_
    rintro e w5 ⟨a5, c5, rfl, H'⟩
    have hcN : Cells w5 a5 (lf.all.map .string) := (H'.ownA (e := 9) (.head _)).cells
    replace H := H.ext0 (⟨H'.chg, by simp, by simp, .nil⟩ : Hp [] w3 w5 [])
    clear H'
    refine ⟨_, _, _, rfl, H.ld (cs := stC na nc fa fc (stOf l1)) (by exact ⟨rfl, rfl, rfl, rfl⟩) sclTS mS rfl, ?_⟩
    have hcF := (hF.at H mW).1
    refine callV (same_spec a5 c5 lf.all fa fc (stOf l1).2 (by omega) w5 hcN hcF) ?_
    rintro e w6 ⟨rfl, H'⟩
    replace H := H.ext0 H'; clear H'
    refine ⟨_, rfl, ?_⟩
    rw [decide_eq_true ef]
    refine br_true ⟨_, _, _, H.ld (cs := stC na nc fa fc (stOf l1)) (by exact ⟨rfl, rfl, rfl, rfl⟩) sclTS mS rfl, ?_⟩
    refine callV (lfirm_spec y2 x1.b lf w6 (stA1 H mA)) ?_
    rintro e w7 ⟨rfl, H'⟩
    replace H := H.ext0 H'; clear H'
    refine ⟨_, rfl, H.ld (cs := stC na nc fa fc (stOf l1)) (by exact ⟨rfl, rfl, rfl, rfl⟩) sclTS mS rfl, ?_, H.done⟩
    rw [decide_eq_true (by rw [ef2])]
end Go.Proofs.Ytjbopmbffajknaa
