/- Vault: scripts, by the program and by the document. -/
import Derived.Test.YtdpkamajecmebaaDo
import Derived.Test.YtdpkamajecmebaaEq
set_option linter.unusedVariables false
set_option linter.unusedSimpArgs false
set_option maxRecDepth 100000
namespace Go.Proofs.Ytdpkamajecmebaa
open Go Go.Vc Go.Vault

/-- the document's disk, as a thing of one's own -/
def refA (F : List Nat) (v : RV) (d : Dk) : Asn := .any F fun x => RD F x v d
theorem refA_ok {F : List Nat} {w : World} {v : RV} {d : Dk} (h : RD F w v d) (hF : ∀ k ∈ F, k < w.heap.size) : (refA F v d).ok w := ⟨hF, fun x hx => h.agree hx⟩
theorem refA_rd {F : List Nat} {w : World} {v : RV} {d : Dk} (h : (refA F v d).ok w) : RD F w v d ∧ ∀ k ∈ F, k < w.heap.size := ⟨h.2 w fun _ _ => rfl, h.1⟩
theorem RPostK.use {K : Value → Ending} {B F : List Nat} {w0 ws w' : World} {v : RV} {d d' : Dk} {L : List Asn} {e : Ending} (H : Hp B w0 ws (refA F v d :: L)) (hp : RPostK K F ws d' e w') : ∃ v' F', e = K (v'.val d') ∧ Hp B w0 w' (refA F' v' d' :: L) := by
  obtain ⟨v', F', rfl, hc, h1, h2, h3⟩ := hp
  exact ⟨v', F', rfl, H.set (hc.more (by simp)) (refA_ok h3 h2) h1⟩
/-- a document's disk more, this one kept -/
theorem RPostK.fork {K : Value → Ending} {B F : List Nat} {w0 ws w' : World} {L : List Asn} {d' : Dk} {e : Ending} (H : Hp B w0 ws L) (hp : RPostK K F ws d' e w') : Hp B w0 w' L := by
  obtain ⟨v', F', rfl, hc, h1, h2, h3⟩ := hp
  exact H.chg0 hc
theorem rd0 (w : World) (room : Int) : RD [] w RV0 (Dk.new room) := ⟨SC.ofNil _ _ _ _, rfl, by simp [RV0], SC.ofNil _ _ _ _, SC.ofNil _ _ _ _, SC.ofNil _ _ _ _, rfl, by simp [RV0]⟩
theorem val0 (room : Int) : RV0.val (Dk.new room) = .agg #[.int .i64 ((Dk.new room).room : Int), .slice none 0 0, .slice none 0 0, .slice none 0 0, .slice none 0 0, .int .i64 0, .int .i64 0, .bool false] := rfl

/-! ### Scripts -/
def opC (p : OW × Op) : List Value := [.int .i64 p.2.kind, .int .i64 p.2.n, .string p.2.name, .string p.2.to, .slice p.1.ba p.2.b.length p.1.bc, .slice p.1.pa p.2.picks.length p.1.pc]
def opCs (os : List (OW × Op)) : List Value := os.flatMap opC
def opF (p : OW × Op) : List Nat := blks p.1.ba ++ blks p.1.pa
structure Scr (W : World) (a : Option Addr) (os : List (OW × Op)) : Prop where
  cells : Cells W a (opCs os)
  ops : ∀ p ∈ os, OD (opF p) W p.1 p.2
  rng : ∀ p ∈ os, p.2.n ≤ 9223372036854775807
theorem Scr.chg0 {W W' : World} {a : Option Addr} {os : List (OW × Op)} (h : Scr W a os) (hc : Chg [] W W') : Scr W' a os := ⟨h.cells.chg hc (by simp), fun p hp => (h.ops p hp).chg0 hc, h.rng⟩
theorem opCs_at : ∀ {os : List (OW × Op)} {k : Nat} {p : OW × Op}, os[k]? = some p → ((opCs os).drop (k * 6)).take 6 = opC p
  | [], k, p, h => by simp at h
  | q :: r, 0, p, h => by
    simp at h; subst h
    rfl
  | q :: r, k + 1, p, h => by
    rw [List.getElem?_cons_succ] at h
    have ih := opCs_at h
    have e : opCs (q :: r) = opC q ++ opCs r := rfl
    rw [e, show (k + 1) * 6 = (opC q).length + k * 6 by simp [opC]; omega, List.drop_append, List.drop_eq_nil_of_le (by omega), List.nil_append, Nat.add_sub_cancel_left]
    exact ih
theorem Scr.ldA {W : World} {a : Option Addr} {os : List (OW × Op)} (h : Scr W a os) {k : Nat} {p : OW × Op} (hp : os[k]? = some p) : ∃ ad, a = some ad ∧ Ld Go.Proofs.Try.prog 49 W (ad.add (k * 6)) (.agg (opC p).toArray) := by
  have hx : opCs os ≠ [] := by
    intro h0
    have := opCs_at hp
    rw [h0, List.drop_nil, List.take_nil] at this
    cases this
  obtain ⟨ad, ha⟩ := h.cells.some hx
  exact ⟨ad, ha, h.cells.ldA raggO ha (opCs_at hp) rfl⟩
def playD (d : Dk) (os : List (OW × Op)) : Dk := os.foldl (fun d p => (doP d p.2).1) d
theorem playD_snoc (d : Dk) (os : List (OW × Op)) (p : OW × Op) : playD d (os ++ [p]) = (doP (playD d os) p.2).1 := by simp [playD]
theorem new_ok (room : Int) : (Dk.new room).Ok := ⟨by simp only [Dk.new]; omega, by simp [Dk.new], by simp [Dk.new], by simp [Dk.new], by simp [Dk.new, Rising], by simp [Dk.new], by simp [Dk.new]⟩
theorem flatAns : FlatT Go.Proofs.Try.prog 53 [(0, .inr 1), (1, .inl .i64)] := flat_of (by kernel_rfl)
theorem eqv_ptrD {p : Option Addr} {x y : Operand} {w : World} : Eqv Go.Proofs.Try.prog .eql 23 x y w (.pointer p) (.pointer none) p.isNone := eqv_ptrE (by kernel_rfl)
theorem eqv_ptrDN {p : Option Addr} {x y : Operand} {w : World} : Eqv Go.Proofs.Try.prog .neq 23 x y w (.pointer p) (.pointer none) (!p.isNone) := eqv_ptrN (by kernel_rfl)
/-- the call's data stand whatever the disk does -/
theorem Scr.stable {W w : World} {a : Option Addr} {os : List (OW × Op)} (h : Scr W a os) {L1 L2 : List Asn} (H : Hp [] W w (L1 ++ L2)) {p : OW × Op} (hp : p ∈ os) : ∀ W', Chg (feet L1) w W' → OD (opF p) W' p.1 p.2 := fun W' hc =>
  (h.ops p hp).chg0 (H.chg.trans hc (fun k hk => hk) fun k hk => by
    obtain ⟨b, hb, hbf⟩ := mem_feet.1 hk
    rcases H.own b (List.mem_append_left _ hb) k hbf with h | h
    · cases h
    · exact .inr h)
theorem over_same (xs ys : List Value) (h : xs.length = ys.length) : over xs 0 ys = xs := over_all xs ys h

end Go.Proofs.Ytdpkamajecmebaa
