/- Redo: bytes written, a seal. -/
import Derived.Test.YtjbopmbffajknaaRa
import Derived.Test.YtjbopmbffajknaaFit
set_option linter.unusedVariables false
set_option linter.unusedSimpArgs false
set_option maxRecDepth 100000
namespace Go.Proofs.Ytjbopmbffajknaa
open Go Go.Vc Go.Vault Go.Redo

section
variable {B : List Nat} {w0 w w' : World} {L M : List Asn} {a : Asn}
theorem _root_.Go.Vc.Hp.useT (H : Hp B w0 w (a :: L)) (H' : Hp (feet L) w w' M) : Hp B w0 w' (a :: M) :=
  ((H.perm (List.perm_append_comm (l₁ := [a]) (l₂ := L)) : Hp B w0 w (L ++ [a])).useL H').perm (List.perm_append_comm (l₁ := M) (l₂ := [a]))
theorem _root_.Go.Vc.Hp.later (H : Hp B w0 w L) (hW : Chg (feet L) w w') : Chg B w0 w' := H.chg.trans hW (fun k hk => hk) fun k hk => by
  obtain ⟨a, ha, h2⟩ := mem_feet.1 hk
  exact H.own a ha k h2
end
/-- what a call on a log leaves -/
def LPost (lb : Nat) (cs : List Value) (x : DW) (d : Dk) (w : World) (v : Value) (d' : Dk) (e : Ending) (w' : World) : Prop :=
  e = .returned v ∧ ∃ x' : DW, x'.b = x.b ∧ x'.Ok d' ∧ Hp (feet (.blk lb cs 79 :: dkL x d)) w w' (.blk lb cs 79 :: dkL x' d')
theorem chunk_cells {w : World} {a : Option Addr} {bs : List UInt8} {i e : Nat} (h : Cells w a (bcells bs)) (he : e = min (i + 512) bs.length) (hi : i < bs.length) : Cells w (slA a e i 1) (bcells ((bs.drop i).take 512)) := by
  have h1 := (h.take e).slA (c := e) (i := i) (by rw [List.length_take]; omega)
  have e1 : ((bcells bs).take e).drop i = bcells ((bs.drop i).take 512) := by
    rw [List.drop_take, bcells, bcells, ← List.map_drop, ← List.map_take]
    congr 1
    by_cases hx : e - i = 512
    · rw [hx]
    · rw [List.take_of_length_le (by rw [List.length_drop]; omega), List.take_of_length_le (by rw [List.length_drop]; omega)]
  rw [← e1]; exact h1
theorem slA_none {a : Option Addr} {m i : Nat} (h : slA a m i 1 = none) : a = none := by
  unfold slA at h
  split at h
  · exact h
  · cases a with
    | none => rfl
    | some _ => cases h
theorem dput_stop (name : ByteArray) (b : List UInt8) (m k : Nat) (d : Dk) (h : b.length ≤ k * 512) : dput name b m k d = (d, 0) := by
  cases m with
  | zero => rfl
  | succ m => rw [dput, if_pos h]

set_option maxHeartbeats 1000000 in
theorem lwrite_spec (lb : Nat) (cs : List Value) (x : DW) (d : Dk) (hok : x.Ok d) {N : Nat} (fit : d.Fit N) (name : ByteArray) (a : Option Addr) (c : Nat) (bs : List UInt8) (hN : N + bs.length / 512 + 1 ≤ 900000) (from_ : Nat) (hf : from_ ≤ 1000000000) (hcs : cs[0]? = some (.pointer (some ⟨x.b, 0, none⟩)))
    (w : World) (st : Std w (.blk lb cs 79 :: dkL x d)) (hc : ∀ W, Chg (feet (.blk lb cs 79 :: dkL x d)) w W → Cells W a (bcells bs)) (h0 : a = none → bs.length = 0) (hcap : bs.length ≤ c) :
    Calls Go.Proofs.Try.prog 44 #[.pointer (some ⟨lb, 0, none⟩), .string name, .slice a bs.length c, .int .i64 (from_ : Int)] w (LPost lb cs x d w (.int .i64 (dwrite d name bs from_).2) (dwrite d name bs from_).1) := by
  apply lwrite.ok; unfold lwrite.vc LPost
  have H := Hp.startL st
  generalize hB : feet (.blk lb cs 79 :: dkL x d) = B at H hc ⊢
  have q1 : Int.tdiv (from_ : Int) 512 = ((from_ / 512 : Nat) : Int) := rfl
  rw [q1]
  refine ⟨by omega, inR64.2 (by omega), inR64.2 (by omega), ?_⟩
  obtain ⟨k0, hk0⟩ : ∃ k0, k0 = from_ / 512 := ⟨_, rfl⟩
  obtain ⟨M, hM⟩ : ∃ M, M = bs.length / 512 + 1 := ⟨_, rfl⟩
  have hgoal : dwrite d name bs from_ = dput name bs (M - k0) k0 d := by rw [dwrite, hk0, hM]
  rw [← hk0, hgoal]
  refine LoopP.mk (fun m s w' => ∃ (k : Nat) (x1 : DW) (d1 : Dk), m = M - k ∧ s = ((k * 512 : Nat) : Int) ∧ k0 ≤ k ∧ (k ≤ M ∨ k = k0) ∧ x1.b = x.b ∧ x1.Ok d1 ∧ d1.Fit (N + (k - k0)) ∧ dput name bs (M - k) k d1 = dput name bs (M - k0) k0 d ∧
    Hp B w w' (.blk lb cs 79 :: dkL x1 d1)) (M - k0) ⟨k0, x, d, rfl, by omega, Nat.le_refl _, .inr rfl, rfl, hok, by rw [Nat.sub_self]; exact fit, rfl, H⟩ ?_
  clear H
  rintro m s w1 next ⟨k, x1, d1, rfl, rfl, hk, hkM, hxb, hx1, fit1, hd, H⟩ hnext
  refine br_dec (fun h3 => ?_) (fun h3 => ?_)
  · have hkl : k * 512 < bs.length := by omega
    have hkM2 : k < M := by omega
    refine ⟨inR64.2 (by omega), onP_mk rfl ⟨_, H.ld (by exact ⟨rfl, rfl, rfl, rfl⟩) sclDP (.head _) hcs, ?_⟩⟩
    have q2 : Int.tdiv ((k * 512 : Nat) : Int) 512 = (k : Int) := by
      rw [show Int.tdiv ((k * 512 : Nat) : Int) 512 = ((k * 512 / 512 : Nat) : Int) from rfl, Nat.mul_div_cancel _ (by omega)]
    rw [q2]
    have q3 : min (((k * 512 : Nat) : Int) + 512) (bs.length : Int) = ((min (k * 512 + 512) bs.length : Nat) : Int) := by omega
    rw [q3, Int.toNat_natCast, Int.toNat_natCast]
    refine ⟨by omega, inR64.2 (by omega), inR64.2 (by omega), ⟨by omega, by omega, by omega, by omega⟩, ?_⟩
    obtain ⟨ch, hch⟩ : ∃ ch, ch = (bs.drop (k * 512)).take 512 := ⟨_, rfl⟩
    have hchl : ch.length = min (k * 512 + 512) bs.length - k * 512 := by rw [hch, List.length_take, List.length_drop]; omega
    have hws := write_spec x1 d1 hx1 fit1.few (by omega) (fit1.used (by omega)) name (2 + (k : Int)) (slA a (min (k * 512 + 512) bs.length) (k * 512) 1) (min (k * 512 + 512) bs.length - k * 512) ch w1.drew H.drew.drop.std
      (fun W hW => by
        have h4 := hc W (H.drew.drop.later hW)
        rw [hch]; exact chunk_cells h4 rfl hkl)
      (fun h4 => by have := h0 (slA_none h4); omega)
    rw [hxb, hchl] at hws
    refine callV hws ?_
    rintro e w2 ⟨rfl, x2, hx2b, hx2, H'⟩
    replace H := H.drew.useT H'; clear H' hws
    refine ⟨_, rfl, ?_⟩
    obtain ⟨m2, hm2⟩ : ∃ m2, M - k = m2 + 1 := ⟨M - k - 1, by omega⟩
    have hstep : dput name bs (M - k) k d1 = thn (d1.write name (2 + (k : Int)) ch) (dput name bs (M - (k + 1)) (k + 1)) := by
      rw [hm2, dput, if_neg (by omega), ← hch, show M - (k + 1) = m2 by omega]
      rfl
    rw [hstep] at hd
    refine br_not (fun h5 => ?_) (fun h5 => ?_)
    · have h5 := of_decide_eq_false h5
      rw [thn, if_neg h5] at hd
      rw [← hd]
      exact ⟨rfl, x2, by rw [hx2b, hxb], hx2, H⟩
    · have h5 := of_decide_eq_true h5
      rw [thn, if_pos h5] at hd
      refine ⟨inR64.2 (by omega), hnext (M - (k + 1)) _ _ (by omega) ⟨k + 1, x2, _, rfl, by omega, by omega, .inl (by omega), by rw [hx2b, hxb], hx2, (Fit.write fit1 name _ _).mono (by omega), hd, H⟩⟩
  · rw [dput_stop name bs _ k d1 (by omega)] at hd
    rw [← hd]
    exact ⟨rfl, x1, hxb, hx1, H⟩
end Go.Proofs.Ytjbopmbffajknaa
