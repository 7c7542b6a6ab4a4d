/- Redo: a file filled, a log made anew. -/
import Derived.Test.YtjbopmbffajknaaRc
set_option linter.unusedVariables false
set_option linter.unusedSimpArgs false
set_option maxRecDepth 100000
namespace Go.Redo
open Go Go.Vc Go.Vault
def dmarks (d : Dk) (name : ByteArray) : Nat → Dk × Int
  | 0 => d.create name
  | k + 1 => thn (dmarks d name k) fun d => d.write name (k : Int) []
theorem dfill_eq (d : Dk) (name : ByteArray) (b : List UInt8) : dfill d name b = thn (thn (dmarks d name 2) fun d => dwrite d name b 0) fun d => dseal d name 1 b.length := rfl
theorem dmarks_stop {d : Dk} {name : ByteArray} {k : Nat} (h : (dmarks d name k).2 ≠ 0) : ∀ j, dmarks d name (k + j) = dmarks d name k
  | 0 => rfl
  | j + 1 => by
    have e := dmarks_stop h j
    show thn (dmarks d name (k + j)) _ = _
    rw [e, thn, if_neg h]
theorem framedAll_snoc (l : List ByteArray) (s : ByteArray) : framedAll (l ++ [s]) = framed (framedAll l) s := by simp [framedAll]
theorem foldl_ge (l : List ByteArray) : ∀ b : List UInt8, b.length ≤ (l.foldl framed b).length := by
  induction l with
  | nil => intro b; exact Nat.le_refl _
  | cons s r ih =>
    intro b
    refine Nat.le_trans ?_ (ih (framed b s))
    rw [framed, List.length_append]; omega
theorem framedAll_take (l : List ByteArray) (k : Nat) : (framedAll (l.take k)).length ≤ (framedAll l).length := by
  have e : framedAll l = (l.drop k).foldl framed (framedAll (l.take k)) := by
    rw [framedAll, framedAll, ← List.foldl_append, List.take_append_drop]
  rw [e]; exact foldl_ge _ _
end Go.Redo
namespace Go.Proofs.Ytjbopmbffajknaa
open Go Go.Vc Go.Vault Go.Redo

section
variable {B : List Nat} {w0 w w' : World} {L M : List Asn} {a b : Asn}
theorem _root_.Go.Vc.Hp.ownSt {e : TypeId} {sz n c : Nat} {p : Option Addr} {xs : List Value} (H : Hp B w0 w (.own e sz p n c xs :: L)) : ∀ W, Chg (feet L) w W → Cells W p xs := fun W hW =>
  (H.ownA (.head _)).cells.chg hW fun k hk hf => by
    obtain ⟨c, hc, h2⟩ := mem_feet.1 hf
    exact (List.pairwise_cons.1 H.sep).1 c hc k (by simpa [Asn.foot] using hk) h2
end
theorem dput_fit (name : ByteArray) (b : List UInt8) : ∀ (m k : Nat) {d : Dk} {N : Nat}, d.Fit N → (dput name b m k d).1.Fit (N + m)
  | 0, k, d, N, h => h
  | m + 1, k, d, N, h => by
    rw [dput]
    split
    · exact h.mono (by omega)
    · rw [thn]
      split
      · exact (dput_fit name b m (k + 1) (Fit.write h name _ _)).mono (by omega)
      · exact (Fit.write h name _ _).mono (by omega)
theorem dwrite_fit {d : Dk} {N : Nat} (h : d.Fit N) (name : ByteArray) (b : List UInt8) : (dwrite d name b 0).1.Fit (N + b.length / 512 + 1) :=
  (dput_fit name b _ _ h).mono (by omega)
theorem ownNil {w : World} {e : TypeId} {sz n c : Nat} {a : Option Addr} {xs : List Value} (h : Own w 0 e sz a n c xs) (ha : a = none) : n = 0 := by
  rcases h.2 with ⟨_, rfl, _⟩ | ⟨g, _, _, hg, _⟩
  · rfl
  · rw [ha] at hg; cases hg
theorem strs_ones (l : List ByteArray) : (l.map Value.string).all (·.oneCell') = true := by
  simp only [List.all_map, List.all_eq_true]; intro b hb; rfl
theorem cloneT_spec (a : Option Addr) (c : Nat) (l : List ByteArray) (hl : l.length ≤ 1000000000) (w : World) (hc : Cells w a (l.map .string)) (h0 : a = none → l.length = 0) :
    Calls Go.Proofs.Try.prog 42 #[.slice a l.length c] w fun e w' => ∃ a' c', e = .returned (.slice a' l.length c') ∧ Hp [] w w' [.own 9 1 a' l.length c' (l.map .string)] := by
  apply cloneT.ok; unfold cloneT.vc
  refine ⟨_, eqv_slcE undST, ?_⟩
  refine br_mk (fun hnone => ?_) (fun hs => ?_)
  · have ha : a = none := by simpa using hnone
    have hx : l = [] := List.eq_nil_of_length_eq_zero (h0 ha)
    subst hx
    exact ⟨none, 0, rfl, (Hp.start w).nilS _ _⟩
  · have K := Hp.start w
    intro b w1 hw
    have hch := hw.chg
    replace K := K.new (by exact ⟨rfl, rfl, rfl, rfl⟩) hw
    replace K := K.reown 1 0 rfl (by simp)
    refine Hp.app eltT (by omega) K (by exact ⟨rfl, rfl, rfl, rfl⟩) (Cells.src (n := l.length) undST (hc.chg hch (by simp)) (by simp) (fun u hu => List.all_eq_true.1 (strs_ones l) u hu) h0) (by simp only [maxLen]; omega) (by omega) ?_
    intro a' c' w2 K
    simp only [List.nil_append, Nat.zero_add] at K ⊢
    exact ⟨_, _, rfl, K⟩

set_option maxHeartbeats 1000000 in
theorem lfill_spec (lb : Nat) (cs : List Value) (x : DW) (d : Dk) (hok : x.Ok d) {N : Nat} (fit : d.Fit N) (name : ByteArray) (a : Option Addr) (c : Nat) (bs : List UInt8) (hbs : bs.length ≤ 1000000000) (hN : N + bs.length / 512 + 100 ≤ 900000) (hcs : cs[0]? = some (.pointer (some ⟨x.b, 0, none⟩)))
    (w : World) (st : Std w (.blk lb cs 79 :: dkL x d)) (hc : ∀ W, Chg (feet (.blk lb cs 79 :: dkL x d)) w W → Cells W a (bcells bs)) (h0 : a = none → bs.length = 0) (hcap : bs.length ≤ c) :
    Calls Go.Proofs.Try.prog 51 #[.pointer (some ⟨lb, 0, none⟩), .string name, .slice a bs.length c] w (LPost lb cs x d w (.int .i64 (dfill d name bs).2) (dfill d name bs).1) := by
  apply lfill.ok; unfold lfill.vc LPost
  have H := Hp.startL st
  generalize hB : feet (.blk lb cs 79 :: dkL x d) = B at H hc ⊢
  refine onP_mk rfl ⟨_, H.ld (by exact ⟨rfl, rfl, rfl, rfl⟩) sclDP (.head _) hcs, ?_⟩
  refine callV (create_spec x d hok (by have := fit.chs; omega) (by have := fit.files; omega) name w H.drop.std) ?_
  rintro e w1 ⟨rfl, x1, hx1b, hx1, H'⟩
  replace H := H.useT H'; clear H'
  refine ⟨_, rfl, ?_⟩
  -- the seal, and the end
  have fin : ∀ (w2 : World) (x2 : DW) (r : Dk × Int) (N2 : Nat), N2 ≤ 900000 → x2.b = x.b → x2.Ok r.1 → r.1.Fit N2 → r.2 = 0 → Hp B w w2 (.blk lb cs 79 :: dkL x2 r.1) → dfill d name bs = thn r (fun d => dseal d name 1 bs.length) →
      CallV Go.Proofs.Try.prog 45 [.pointer (some ⟨lb, 0, none⟩), .string name, .int .u64 1, .int .i64 (bs.length : Int)] w2 fun e w' => ∃ i, e = .returned (.int .i64 i) ∧ Ending.returned (.int .i64 i) = .returned (.int .i64 (dfill d name bs).2) ∧ ∃ x' : DW, x'.b = x.b ∧ x'.Ok (dfill d name bs).1 ∧ Hp B w w' (.blk lb cs 79 :: dkL x' (dfill d name bs).1) := by
    intro w2 x2 r N2 hN2 hxb hx2 fit2 hr H hd
    rw [thn, if_pos hr] at hd
    rw [hd]
    refine callV (lseal_spec lb cs x2 r.1 hx2 fit2 hN2 name 1 bs.length (by omega) hbs (by rw [hxb]; exact hcs) w2 H.std) ?_
    rintro e w3 ⟨rfl, x3, hx3b, hx3, H'⟩
    exact ⟨_, rfl, rfl, x3, by rw [hx3b, hxb], hx3, H.useAll H'⟩
  refine LoopP.mk (fun m s w' => ∃ (k : Nat) (x1 : DW), m = 2 - k ∧ k ≤ 2 ∧ s = ((dmarks d name k).2, (k : Int)) ∧ x1.b = x.b ∧ x1.Ok (dmarks d name k).1 ∧ (dmarks d name k).1.Fit (N + 1 + k) ∧
    Hp B w w' (.blk lb cs 79 :: dkL x1 (dmarks d name k).1)) 2 ⟨0, x1, rfl, by omega, rfl, hx1b, hx1, Fit.create fit name, H⟩ ?_
  clear H hx1 hx1b x1 w1
  rintro m s w1 next ⟨k, x1, rfl, hk, rfl, hxb, hx1, fit1, H⟩ hnext
  refine br_dec (fun h3 => ?_) (fun h3 => ?_)
  · have hk2 : k < 2 := by simp only at h3; omega
    refine br_dec (fun h4 => ?_) (fun h4 => br_dec (fun h5 => absurd h5 h4) (fun _ => br_dec (fun h5 => absurd h5 h4) (fun _ => ?_)))
    · simp only at h4
      have hstep : dmarks d name (k + 1) = (dmarks d name k).1.write name (k : Int) [] := by rw [dmarks, thn, if_pos h4]
      have fit2 : (dmarks d name (k + 1)).1.Fit (N + 1 + (k + 1)) := by rw [hstep]; exact Fit.write fit1 name _ _
      have hws := write_spec x1 (dmarks d name k).1 hx1 fit1.few (by omega) (fit1.used (by omega)) name (k : Int) none 0 [] w1 H.drop.std (fun W _ => by intro j v hj; simp [bcells] at hj) (fun _ => rfl)
      rw [← hstep] at hws
      generalize dmarks d name k = r0 at hws H hx1 fit1 h4 ⊢
      refine onP_mk rfl ⟨_, H.ld (by exact ⟨rfl, rfl, rfl, rfl⟩) sclDP (.head _) hcs, ?_⟩
      rw [hxb] at hws
      refine callV hws ?_
      rintro e w2 ⟨rfl, x2, hx2b, hx2, H'⟩
      replace H := H.useT H'; clear H' hws
      exact ⟨_, rfl, inR64.2 (by simp only; omega), hnext (2 - (k + 1)) _ _ (by omega) ⟨k + 1, x2, rfl, by omega, rfl, by rw [hx2b, hxb], hx2, fit2, H⟩⟩
    · simp only at h4
      have e1 : dfill d name bs = dmarks d name k := by
        have h5 := dmarks_stop h4 (2 - k)
        rw [show k + (2 - k) = 2 by omega] at h5
        rw [dfill_eq, h5, thn, thn, if_neg h4, if_neg h4]
      rw [e1]
      exact ⟨rfl, x1, hxb, hx1, H⟩
  · have hk2 : k = 2 := by simp only at h3; omega
    subst hk2
    refine br_dec (fun h4 => ?_) (fun h4 => br_dec (fun h5 => absurd h5 h4) (fun _ => ?_))
    · simp only at h4
      have e1 : dfill d name bs = thn (dwrite (dmarks d name 2).1 name bs 0) fun d => dseal d name 1 bs.length := by rw [dfill_eq]; congr 1; rw [thn, if_pos h4]
      have fit2 := dwrite_fit fit1 name bs
      generalize (dmarks d name 2).1 = q at H hx1 fit1 fit2 e1
      refine callV (lwrite_spec lb cs x1 q hx1 fit1 name a c bs (by omega) 0 (by omega) (by rw [hxb]; exact hcs) w1 H.std (fun W hW => hc W (H.later hW)) h0 hcap) ?_
      rintro e w2 ⟨rfl, x2, hx2b, hx2, H'⟩
      replace H := H.useAll H'; clear H'
      refine ⟨_, rfl, ?_⟩
      refine br_dec (fun h5 => ?_) (fun h5 => ?_)
      · exact fin w2 x2 _ _ (by omega) (by rw [hx2b, hxb]) hx2 fit2 h5 H e1
      · rw [thn, if_neg h5] at e1
        rw [e1]
        exact ⟨rfl, x2, by rw [hx2b, hxb], hx2, H⟩
    · simp only at h4
      have e1 : dfill d name bs = dmarks d name 2 := by rw [dfill_eq, thn, thn, if_neg h4, if_neg h4]
      rw [e1]
      exact ⟨rfl, x1, hxb, hx1, H⟩
end Go.Proofs.Ytjbopmbffajknaa
