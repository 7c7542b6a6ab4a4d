/- Redo: a log on a new disk; a call on it. -/
import Derived.Test.YtjbopmbffajknaaRo
set_option linter.unusedVariables false
set_option linter.unusedSimpArgs false
set_option maxRecDepth 100000
namespace Go.Proofs.Ytjbopmbffajknaa
open Go Go.Vc Go.Vault Go.Redo

theorem aggOp : Agg Go.Proofs.Try.prog 51 3 := agg_of (by kernel_rfl)
structure ROp where
  kind : Int
  s : ByteArray
  all : List ByteArray
structure RW where
  a : Option Addr
  c : Nat
def ropC (p : RW × ROp) : List Value := [.int .i64 p.2.kind, .string p.2.s, .slice p.1.a p.2.all.length p.1.c]
/-- what a call does -/
def doesP (d : Dk) (l : Lg) (o : ROp) : Dk × Lg × Int :=
  if o.kind = 0 then (d, (l.append o.s).1, (l.append o.s).2) else
  if o.kind = 1 then flushP d l else
  if o.kind = 2 then resetP d l o.all else (d, l, 0)
set_option maxHeartbeats 1000000 in
theorem doesL_spec (y : LW) (x : DW) (d : Dk) (l : Lg) (hok : x.Ok d) {N : Nat} (fit : d.Fit N) (hN : N ≤ 400000) (hb : l.b.length ≤ 90000000) (ha : l.all.length ≤ 1000000) (hf : l.firm ≤ 100000000) (hm : l.mark ≤ 100000000) (hn : l.name.size ≤ 1000) (p : RW × ROp)
    (hS : (framedAll p.2.all).length ≤ 100000000) (hl : p.2.all.length ≤ 100000000) (w : World) (st : Std w (lgL y x d l))
    (hA : ∀ W, Chg (feet (lgL y x d l)) w W → Cells W p.1.a (p.2.all.map .string)) (h0 : p.1.a = none → p.2.all.length = 0) :
    Calls Go.Proofs.Try.prog 20 #[.pointer (some ⟨y.b, 0, none⟩), .agg (ropC p).toArray] w (LogPost y x w (feet (lgL y x d l)) (doesP d l p.2)) := by
  apply does.ok; unfold does.vc LogPost
  have H := Hp.startL st
  generalize hB : feet (lgL y x d l) = B at H hA ⊢
  intro b w1 hn1; replace H := H.new (cs := ropC p) (by exact ⟨rfl, rfl, rfl, rfl⟩) hn1; clear hn1
  refine ⟨_, H.ld (cs := ropC p) (by exact ⟨rfl, rfl, rfl, rfl⟩) sclInt (.head _) rfl, ?_⟩
  have stL : Std w1 (lgL y x d l) := H.drop.std
  refine br_dec (fun h1 => ?_) (fun h1 => ?_)
  · refine ⟨_, H.ld (cs := ropC p) (by exact ⟨rfl, rfl, rfl, rfl⟩) sclStr (.head _) rfl, ?_⟩
    have e1 : doesP d l p.2 = (d, (l.append p.2.s).1, (l.append p.2.s).2) := by rw [doesP, if_pos h1]
    rw [e1]
    have H1 : Hp B w w1 ([lgA y x.b l, lgT y l, lgB y l] ++ dkL x d) := by
      have h2 := H.drop
      unfold lgL at h2
      exact h2.perm (perm_cnt fun ff gg h0 hc ha hpm => by simp only [ha, hc, h0]; omega)
    refine callV (lappend_spec y x.b l p.2.s (by omega) ha w1 H1.std1) ?_
    rintro e w2 ⟨⟨i, rfl⟩, y', hy', H'⟩
    replace H1 := H1.useL H'
    refine ⟨_, _, rfl, rfl, x, y', rfl, hy', hok, ?_⟩
    unfold lgL
    exact H1.perm (perm_cnt fun ff gg h0 hc ha hpm => by simp only [ha, hc, h0]; omega)
  refine br_dec (fun h2 => ?_) (fun h2 => ?_)
  · have e1 : doesP d l p.2 = flushP d l := by rw [doesP, if_neg h1, if_pos h2]
    rw [e1]
    refine callV (lflush_spec y x d l hok fit hN (by omega) hf hm w1 stL) ?_
    rintro e w2 ⟨rfl, x', y', hx', hy', hok', H'⟩
    exact ⟨_, rfl, rfl, x', y', hx', hy', hok', H.drop.useAll H'⟩
  refine br_dec (fun h3 => ?_) (fun h3 => ?_)
  · have e1 : doesP d l p.2 = resetP d l p.2.all := by rw [doesP, if_neg h1, if_neg h2, if_pos h3]
    rw [e1]
    refine ⟨_, _, _, H.ld (cs := ropC p) (by exact ⟨rfl, rfl, rfl, rfl⟩) sclTS (.head _) rfl, ?_⟩
    refine callV (lreset_spec y x d l hok fit hN hn p.1.a p.1.c p.2.all hS hl w1 stL (fun W hW => hA W (H.drop.later hW)) h0) ?_
    rintro e w2 ⟨rfl, x', y', hx', hy', hok', H'⟩
    exact ⟨_, rfl, rfl, x', y', hx', hy', hok', H.drop.useAll H'⟩
  · have e1 : doesP d l p.2 = (d, l, 0) := by rw [doesP, if_neg h1, if_neg h2, if_neg h3]
    rw [e1]
    exact ⟨rfl, x, y, rfl, rfl, hok, H.drop⟩
end Go.Proofs.Ytjbopmbffajknaa
