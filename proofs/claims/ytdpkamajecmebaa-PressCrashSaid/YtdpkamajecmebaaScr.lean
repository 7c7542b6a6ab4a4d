/- Scripts of a disk's calls in memory. -/
import Derived.Test.YtdpkamajecmebaaUg
set_option linter.unusedVariables false
set_option linter.unusedSimpArgs false
set_option maxRecDepth 100000
namespace Go.Proofs.Ytdpkamajecmebaa
open Go Go.Vc Go.Vault

theorem raggO : Agg Go.Proofs.Try.prog 49 6 := agg_of (by kernel_rfl)
theorem rsclU : Scl Go.Proofs.Try.prog 46 := scl_of (by kernel_rfl)
theorem rsclSI : Scl Go.Proofs.Try.prog 47 := scl_of (by kernel_rfl)
/-- a slice that is read: its cells, in blocks of F -/
structure SC (F : List Nat) (w : World) (a : Option Addr) (n c sz : Nat) (xs : List Value) : Prop where
  cells : Cells w a xs
  inF : ∀ k ∈ blks a, k ∈ F
  len : xs.length = n * sz
  le : n ≤ c
  nil : a = none → n = 0
section
variable {F G : List Nat} {w w' : World} {a : Option Addr} {n c sz o m : Nat} {xs : List Value} {t : TypeId} {v : Value} {P : Program}
theorem SC.ofNil (F : List Nat) (w : World) (c sz : Nat) : SC F w none 0 c sz [] := ⟨fun j v hj => by simp at hj, by simp [blks], by simp, Nat.zero_le _, fun _ => rfl⟩
theorem SC.chg {S : List Nat} (h : SC F w a n c sz xs) (hc : Chg S w w') (hs : ∀ k ∈ F, k ∉ S) : SC F w' a n c sz xs := ⟨h.cells.chg hc fun k hk => hs k (h.inF k hk), h.inF, h.len, h.le, h.nil⟩
theorem SC.chg0 (h : SC F w a n c sz xs) (hc : Chg [] w w') : SC F w' a n c sz xs := h.chg hc (by simp)
theorem SC.more (h : SC F w a n c sz xs) (hs : ∀ k ∈ F, k ∈ G) : SC G w a n c sz xs := ⟨h.cells, fun k hk => hs k (h.inF k hk), h.len, h.le, h.nil⟩
theorem SC.agree (h : SC F w a n c sz xs) (hs : ∀ k ∈ F, w'.heap[k]? = w.heap[k]?) : SC F w' a n c sz xs := by
  refine ⟨fun j v hj => ?_, h.inF, h.len, h.le, h.nil⟩
  obtain ⟨ad, ha, hcell⟩ := h.cells j v hj
  refine ⟨ad, ha, ?_⟩
  have hb : (ad.add j).block = ad.block := add_block ad j
  rw [World.cell?_of_block (hs _ (by rw [hb]; exact h.inF _ (by rw [ha]; simp [blks])))]
  exact hcell
theorem SC.ld (h : SC F w a n c sz xs) (S : Scl P t) (ho : xs[o]? = some v) : ∃ ad, a = some ad ∧ Ld P t w (ad.add o) v := by
  obtain ⟨ad, ha, _⟩ := h.cells o v ho
  exact ⟨ad, ha, h.cells.ld S ha ho⟩
theorem SC.ldA (h : SC F w a n c sz xs) (S : Agg P t m) (hm : 0 < m) {vs : List Value} (ho : (xs.drop o).take m = vs) (hl : vs.length = m) : ∃ ad, a = some ad ∧ Ld P t w (ad.add o) (.agg vs.toArray) := by
  have hx : xs ≠ [] := by
    rintro rfl
    rw [List.drop_nil, List.take_nil] at ho
    subst ho; simp at hl; omega
  obtain ⟨ad, ha⟩ := h.cells.some hx
  exact ⟨ad, ha, h.cells.ldA S ha ho hl⟩
theorem SC.src {tx e' : TypeId} (h : SC F w a n c sz xs) (hk : P.underlying tx = some (.slice e')) (h1 : xs.all (·.oneCell') = true) : Src P sz tx (.slice a n c) n xs w :=
  h.cells.src hk h.len (fun u hu => List.all_eq_true.1 h1 u hu) h.nil
theorem SC.ofOwn {e : TypeId} (h : Own w 0 e sz a n c xs) (hF : ∀ k ∈ blks a, k ∈ F) : SC F w a n c sz xs := by
  refine ⟨h.cells, hF, h.1, h.le.1, ?_⟩
  rintro rfl
  rcases h.2 with ⟨_, h, _⟩ | ⟨_, _, _, h, _⟩
  · exact h
  · cases h
end

theorem SC.stable {F : List Nat} {W w : World} {a : Option Addr} {n c sz : Nat} {xs : List Value} (h : SC F W a n c sz xs) {L1 L2 : List Asn} (H : Hp [] W w (L1 ++ L2)) : ∀ W', Chg (feet L1) w W' → SC F W' a n c sz xs := fun W' hc =>
  h.chg0 (H.chg.trans hc (fun k hk => hk) fun k hk => by
    obtain ⟨b, hb, hbf⟩ := mem_feet.1 hk
    rcases H.own b (List.mem_append_left _ hb) k hbf with h | h
    · cases h
    · exact .inr h)
structure Op where
  kind : Int
  n : Int
  name : ByteArray
  to : ByteArray
  b : List UInt8
  picks : List Int
structure OW where
  ba : Option Addr
  bc : Nat
  pa : Option Addr
  pc : Nat
def OW.val (ow : OW) (o : Op) : Value := .agg #[.int .i64 o.kind, .int .i64 o.n, .string o.name, .string o.to, .slice ow.ba o.b.length ow.bc, .slice ow.pa o.picks.length ow.pc]
structure OD (F : List Nat) (w : World) (ow : OW) (o : Op) : Prop where
  b : SC F w ow.ba o.b.length ow.bc 1 (bcells o.b)
  picks : SC F w ow.pa o.picks.length ow.pc 1 (ints o.picks)
theorem OD.chg0 {F : List Nat} {w w' : World} {ow : OW} {o : Op} (h : OD F w ow o) (hc : Chg [] w w') : OD F w' ow o := ⟨h.b.chg0 hc, h.picks.chg0 hc⟩

/-! ### Scripts -/
def opC (p : OW × Op) : List Value := [.int .i64 p.2.kind, .int .i64 p.2.n, .string p.2.name, .string p.2.to, .slice p.1.ba p.2.b.length p.1.bc, .slice p.1.pa p.2.picks.length p.1.pc]
def opCs (os : List (OW × Op)) : List Value := os.flatMap opC
def opF (p : OW × Op) : List Nat := blks p.1.ba ++ blks p.1.pa
structure Scr (W : World) (a : Option Addr) (os : List (OW × Op)) : Prop where
  cells : Cells W a (opCs os)
  ops : ∀ p ∈ os, OD (opF p) W p.1 p.2
  rng : ∀ p ∈ os, p.2.n ≤ 9223372036854775807
theorem Scr.chg0 {W W' : World} {a : Option Addr} {os : List (OW × Op)} (h : Scr W a os) (hc : Chg [] W W') : Scr W' a os := ⟨h.cells.chg hc (by simp), fun p hp => (h.ops p hp).chg0 hc, h.rng⟩
theorem opCs_at : ∀ {os : List (OW × Op)} {k : Nat} {p : OW × Op}, os[k]? = some p → ((opCs os).drop (k * 6)).take 6 = opC p
  | [], k, p, h => by simp at h
  | q :: r, 0, p, h => by
    simp at h; subst h
    rfl
  | q :: r, k + 1, p, h => by
    rw [List.getElem?_cons_succ] at h
    have ih := opCs_at h
    have e : opCs (q :: r) = opC q ++ opCs r := rfl
    rw [e, show (k + 1) * 6 = (opC q).length + k * 6 by simp [opC]; omega, List.drop_append, List.drop_eq_nil_of_le (by omega), List.nil_append, Nat.add_sub_cancel_left]
    exact ih
theorem Scr.ldA {W : World} {a : Option Addr} {os : List (OW × Op)} (h : Scr W a os) {k : Nat} {p : OW × Op} (hp : os[k]? = some p) : ∃ ad, a = some ad ∧ Ld Go.Proofs.Try.prog 49 W (ad.add (k * 6)) (.agg (opC p).toArray) := by
  have hx : opCs os ≠ [] := by
    intro h0
    have := opCs_at hp
    rw [h0, List.drop_nil, List.take_nil] at this
    cases this
  obtain ⟨ad, ha⟩ := h.cells.some hx
  exact ⟨ad, ha, h.cells.ldA raggO ha (opCs_at hp) rfl⟩
/-- the call's data stand whatever the disk does -/
theorem Scr.stable {W w : World} {a : Option Addr} {os : List (OW × Op)} (h : Scr W a os) {L1 L2 : List Asn} (H : Hp [] W w (L1 ++ L2)) {p : OW × Op} (hp : p ∈ os) : ∀ W', Chg (feet L1) w W' → OD (opF p) W' p.1 p.2 := fun W' hc =>
  (h.ops p hp).chg0 (H.chg.trans hc (fun k hk => hk) fun k hk => by
    obtain ⟨b, hb, hbf⟩ := mem_feet.1 hk
    rcases H.own b (List.mem_append_left _ hb) k hbf with h | h
    · cases h
    · exact .inr h)
end Go.Proofs.Ytdpkamajecmebaa
