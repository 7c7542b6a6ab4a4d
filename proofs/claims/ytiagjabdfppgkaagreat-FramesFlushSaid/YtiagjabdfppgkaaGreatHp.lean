/- Worlds by a list of what is one's own in them: each with the blocks that it stands on, no two alike. -/
import Derived.Test.YtiagjabdfppgkaaGreatLib
import Derived.Test.YtiagjabdfppgkaaGreatMaps
import Derived.Laws.IdiomStrings
set_option linter.unusedVariables false
set_option linter.unusedSimpArgs false
namespace Go.Vc
open Go

inductive Asn where
  | blk (b : Nat) (cs : List Value) (T : TypeId)
  | own (e : TypeId) (sz : Nat) (a : Option Addr) (n c : Nat) (xs : List Value)
  | imap (b : Nat) (k : IntKind) (al : List (Int × Value))
  | smap (b : Nat) (al : List (ByteArray × Value))
  | any (foot : List Nat) (p : World → Prop)

def Asn.foot : Asn → List Nat
  | .blk b _ _ => [b]
  | .own _ _ a _ _ _ => blks a
  | .imap b _ _ => [b]
  | .smap b _ => [b]
  | .any f _ => f
def Asn.ok : Asn → World → Prop
  | .blk b cs T, w => Blk w b cs T
  | .own e sz a n c xs, w => Own w 0 e sz a n c xs
  | .imap b k al, w => MapAt (intKey k) w b al
  | .smap b al, w => MapAt strKey w b al
  | .any f p, w => (∀ k ∈ f, k < w.heap.size) ∧ ∀ w', (∀ k ∈ f, w'.heap[k]? = w.heap[k]?) → p w'

theorem Asn.ok_lt {a : Asn} {w : World} (h : a.ok w) : ∀ k ∈ a.foot, k < w.heap.size := by
  intro k hk
  cases a with
  | blk b cs T => simp only [Asn.foot, List.mem_singleton] at hk; subst hk; exact Blk.lt h
  | own e sz a n c xs => exact (Own.mem (show Own w 0 e sz a n c xs from h) k hk).2
  | imap b kd al => simp only [Asn.foot, List.mem_singleton] at hk; subst hk; exact MapAt.lt h
  | smap b al => simp only [Asn.foot, List.mem_singleton] at hk; subst hk; exact MapAt.lt h
  | any f p => exact h.1 k hk
theorem lt_of_eq {w w' : World} {k : Nat} (h : k < w.heap.size) (e : w'.heap[k]? = w.heap[k]?) : k < w'.heap.size := by
  rw [Array.getElem?_eq_getElem h] at e
  exact (Array.getElem?_eq_some_iff.1 e).1
theorem Asn.ok_of {a : Asn} {w w' : World} (h : a.ok w) (e : ∀ k ∈ a.foot, w'.heap[k]? = w.heap[k]?) : a.ok w' := by
  cases a with
  | blk b cs T => exact (e b (by simp [Asn.foot])).trans h
  | own el sz a n c xs =>
    refine ⟨h.1, ?_⟩
    rcases h.2 with hn | ⟨g, cur, fz, rfl, hb, hg, rest⟩
    · exact .inl hn
    · exact .inr ⟨g, cur, fz, rfl, hb, (e g (by simp [Asn.foot, blks])).trans hg, rest⟩
  | imap b kd al =>
    obtain ⟨es, clock, h1, h2⟩ := h
    exact ⟨es, clock, (e b (by simp [Asn.foot])).trans h1, h2⟩
  | smap b al =>
    obtain ⟨es, clock, h1, h2⟩ := h
    exact ⟨es, clock, (e b (by simp [Asn.foot])).trans h1, h2⟩
  | any f p => exact ⟨fun k hk => lt_of_eq (h.1 k hk) (e k hk), fun w2 h2 => h.2 w2 fun k hk => (h2 k hk).trans (e k hk)⟩

/-- since the world w0 nothing has turned but the blocks B and what is new; there stand the things of L -/
structure Hp (B : List Nat) (w0 w : World) (L : List Asn) : Prop where
  chg : Chg B w0 w
  ok : ∀ a ∈ L, a.ok w
  own : ∀ a ∈ L, ∀ k ∈ a.foot, k ∈ B ∨ w0.heap.size ≤ k
  sep : L.Pairwise fun a b => ∀ k ∈ a.foot, k ∉ b.foot

theorem Hp.start (w : World) : Hp [] w w [] := ⟨Chg.refl _ _, by simp, by simp, .nil⟩
theorem Hp.start1 {w : World} {a : Asn} (h : a.ok w) : Hp a.foot w w [a] := ⟨Chg.refl _ _, by simpa using h, by simp; intro k hk; exact .inl hk, by simp⟩

section
variable {B S : List Nat} {w0 w w' : World} {L L1 L2 M : List Asn} {a a' x y z u v p q : Asn}

theorem Hp.use (H : Hp B w0 w (L1 ++ L2)) (H' : Hp S w w' M) (hS : ∀ k ∈ S, ∃ a ∈ L1, k ∈ a.foot) : Hp B w0 w' (M ++ L2) := by
  have hB : ∀ k ∈ S, k ∈ B ∨ w0.heap.size ≤ k := fun k hk => by
    obtain ⟨a, ha, hf⟩ := hS k hk
    exact H.own a (List.mem_append_left _ ha) k hf
  have hsep := List.pairwise_append.1 H.sep
  have hnS : ∀ b ∈ L2, ∀ k ∈ b.foot, k ∉ S := fun b hb k hk hs => by
    obtain ⟨a, ha, hf⟩ := hS k hs
    exact hsep.2.2 a ha b hb k hf hk
  refine ⟨H.chg.trans H'.chg (fun k hk => hk) hB, ?_, ?_, ?_⟩
  · intro b hb
    rcases List.mem_append.1 hb with hb | hb
    · exact H'.ok b hb
    · have hok := H.ok b (List.mem_append_right _ hb)
      exact Asn.ok_of hok fun k hk => H'.chg.2.2.2.2 k (Asn.ok_lt hok k hk) (hnS b hb k hk)
  · intro b hb k hk
    rcases List.mem_append.1 hb with hb | hb
    · rcases H'.own b hb k hk with h | h
      · exact hB k h
      · exact .inr (Nat.le_trans H.chg.size h)
    · exact H.own b (List.mem_append_right _ hb) k hk
  · refine List.pairwise_append.2 ⟨H'.sep, hsep.2.1, fun b hb d hd k hk hkd => ?_⟩
    rcases H'.own b hb k hk with h | h
    · exact hnS d hd k hkd h
    · have := Asn.ok_lt (H.ok d (List.mem_append_right _ hd)) k hkd
      omega
theorem Hp.ext (H : Hp B w0 w L) (H' : Hp [] w w' M) : Hp B w0 w' (M ++ L) := Hp.use (L1 := []) H H' (by simp)
theorem Hp.ext0 (H : Hp B w0 w L) (H' : Hp [] w w' []) : Hp B w0 w' L := Hp.use (L1 := []) H H' (by simp)
theorem Hp.ext1 (H : Hp B w0 w L) (H' : Hp [] w w' [x]) : Hp B w0 w' (x :: L) := Hp.use (L1 := []) H H' (by simp)
theorem Hp.ext2 (H : Hp B w0 w L) (H' : Hp [] w w' [x, y]) : Hp B w0 w' (x :: y :: L) := Hp.use (L1 := []) H H' (by simp)
theorem Hp.use1 (H : Hp B w0 w (a :: L)) (H' : Hp a.foot w w' M) : Hp B w0 w' (M ++ L) := Hp.use (L1 := [a]) H H' (by simp)
theorem Hp.use11 (H : Hp B w0 w (a :: L)) (H' : Hp a.foot w w' [x]) : Hp B w0 w' (x :: L) := Hp.use (L1 := [a]) H H' (by simp)
theorem Hp.chg0 (H : Hp B w0 w L) (h : Chg [] w w') : Hp B w0 w' L := H.ext0 ⟨h, by simp, by simp, .nil⟩
/-- one of them turned -/
theorem Hp.set (H : Hp B w0 w (a :: L)) (h : Chg a.foot w w') (hok : a'.ok w') (hf : ∀ k ∈ a'.foot, k ∈ a.foot ∨ w.heap.size ≤ k) : Hp B w0 w' (a' :: L) :=
  H.use11 ⟨h, by simpa using hok, by simpa using hf, by simp⟩
theorem Hp.add (H : Hp B w0 w L) (h : Chg [] w w') (hok : a'.ok w') (hf : ∀ k ∈ a'.foot, w.heap.size ≤ k) : Hp B w0 w' (a' :: L) :=
  H.ext1 ⟨h, by simpa using hok, by simp; intro k hk; exact hf k hk, by simp⟩
theorem Hp.perm (H : Hp B w0 w L) (h : L.Perm M) : Hp B w0 w M :=
  ⟨H.chg, fun a ha => H.ok a (h.mem_iff.2 ha), fun a ha => H.own a (h.mem_iff.2 ha), (h.pairwise_iff (fun h1 k hk hk' => h1 k hk' hk)).1 H.sep⟩
theorem Hp.drop (H : Hp B w0 w (a :: L)) : Hp B w0 w L := ⟨H.chg, fun b hb => H.ok b (.tail _ hb), fun b hb => H.own b (.tail _ hb), (List.pairwise_cons.1 H.sep).2⟩
theorem Hp.drop1 (H : Hp B w0 w (x :: a :: L)) : Hp B w0 w (x :: L) := (H.perm (.swap a x L)).drop
theorem Hp.done (H : Hp B w0 w L) : Hp B w0 w [] := ⟨H.chg, by simp, by simp, .nil⟩
theorem Hp.done1 (H : Hp B w0 w (x :: L)) : Hp B w0 w [x] := ⟨H.chg, fun b hb => H.ok b (by simp at hb; simp [hb]), fun b hb => H.own b (by simp at hb; simp [hb]), by simp⟩
theorem Hp.pull1 (H : Hp B w0 w (x :: a :: L)) : Hp B w0 w (a :: x :: L) := H.perm (.swap a x L)
theorem Hp.pull2 (H : Hp B w0 w (x :: y :: a :: L)) : Hp B w0 w (a :: x :: y :: L) := H.perm (((List.Perm.swap a y L).cons x).trans (.swap a x _))
theorem perm_pull (L1 : List Asn) (a : Asn) (L : List Asn) : (L1 ++ a :: L).Perm (a :: (L1 ++ L)) := List.perm_middle
theorem Hp.pull3 (H : Hp B w0 w (x :: y :: z :: a :: L)) : Hp B w0 w (a :: x :: y :: z :: L) := H.perm (perm_pull [x, y, z] a L)
theorem Hp.pull4 (H : Hp B w0 w (x :: y :: z :: u :: a :: L)) : Hp B w0 w (a :: x :: y :: z :: u :: L) := H.perm (perm_pull [x, y, z, u] a L)
theorem Hp.pull5 (H : Hp B w0 w (x :: y :: z :: u :: v :: a :: L)) : Hp B w0 w (a :: x :: y :: z :: u :: v :: L) := H.perm (perm_pull [x, y, z, u, v] a L)
theorem Hp.pull6 (H : Hp B w0 w (x :: y :: z :: u :: v :: p :: a :: L)) : Hp B w0 w (a :: x :: y :: z :: u :: v :: p :: L) := H.perm (perm_pull [x, y, z, u, v, p] a L)
theorem Hp.pull7 (H : Hp B w0 w (x :: y :: z :: u :: v :: p :: q :: a :: L)) : Hp B w0 w (a :: x :: y :: z :: u :: v :: p :: q :: L) := H.perm (perm_pull [x, y, z, u, v, p, q] a L)
theorem Hp.del1 (H : Hp B w0 w (x :: a :: L)) : Hp B w0 w (x :: L) := (H.pull1).drop
theorem Hp.del2 (H : Hp B w0 w (x :: y :: a :: L)) : Hp B w0 w (x :: y :: L) := (H.pull2).drop
theorem Hp.del3 (H : Hp B w0 w (x :: y :: z :: a :: L)) : Hp B w0 w (x :: y :: z :: L) := (H.pull3).drop
theorem Hp.del4 (H : Hp B w0 w (x :: y :: z :: u :: a :: L)) : Hp B w0 w (x :: y :: z :: u :: L) := (H.pull4).drop
theorem Hp.del5 (H : Hp B w0 w (x :: y :: z :: u :: v :: a :: L)) : Hp B w0 w (x :: y :: z :: u :: v :: L) := (H.pull5).drop
theorem Hp.del6 (H : Hp B w0 w (x :: y :: z :: u :: v :: p :: a :: L)) : Hp B w0 w (x :: y :: z :: u :: v :: p :: L) := (H.pull6).drop
theorem Hp.del7 (H : Hp B w0 w (x :: y :: z :: u :: v :: p :: q :: a :: L)) : Hp B w0 w (x :: y :: z :: u :: v :: p :: q :: L) := (H.pull7).drop
end

/-- worlds alike but for what they draw -/
structure Eqw (w w' : World) : Prop where
  heap : w'.heap = w.heap
  os : w'.os = w.os
  tape : w'.tape = w.tape
  output : w'.output = w.output
theorem Eqw.chg {w w' : World} (e : Eqw w w') : Chg [] w w' := ⟨e.os, e.tape, e.output, by rw [e.heap]; exact Nat.le_refl _, fun k _ _ => by rw [e.heap]⟩
theorem Hp.go {B : List Nat} {w0 w w' : World} {L : List Asn} (H : Hp B w0 w L) (e : Eqw w w') : Hp B w0 w' L := H.chg0 e.chg
theorem Hp.drew {B : List Nat} {w0 w : World} {L : List Asn} (H : Hp B w0 w L) : Hp B w0 w.drew L := H.go ⟨rfl, rfl, rfl, rfl⟩

/-- what is known of a type of the table -/
structure Scl (P : Program) (t : TypeId) : Prop where
  agg : aggB P t = some false
  size : sizeV P t = some 1
structure Agg (P : Program) (t : TypeId) (n : Nat) : Prop where
  agg : aggB P t = some true
  size : sizeV P t = some n
def sclB (P : Program) (t : TypeId) : Bool := match aggB P t, sizeV P t with
  | some false, some 1 => true
  | _, _ => false
def sagB (P : Program) (t n : Nat) : Bool := match aggB P t, sizeV P t with
  | some true, some m => Nat.beq m n
  | _, _ => false
theorem scl_of {P : Program} {t : TypeId} (h : sclB P t = true) : Scl P t := by
  unfold sclB at h
  split at h
  · exact ⟨by assumption, by assumption⟩
  · cases h
theorem agg_of {P : Program} {t n : Nat} (h : sagB P t n = true) : Agg P t n := by
  unfold sagB at h
  split at h
  · rename_i h1 h2
    have := Nat.eq_of_beq_eq_true h; subst this
    exact ⟨h1, h2⟩
  · cases h

section
variable {P : Program} {B : List Nat} {w0 w w' : World} {L : List Asn} {b o n : Nat} {cs : List Value} {T t : TypeId}

theorem Hp.new (H : Hp B w0 w L) (e : Eqw w w') {w1 : World} (h : New w' (.cells cs.toArray T) b w1) : Hp B w0 w1 (.blk b cs T :: L) :=
  (H.go e).add h.chg h.cells (by simp [Asn.foot]; exact h.num ▸ Nat.le_refl _)
theorem Hp.newI (H : Hp B w0 w L) (e : Eqw w w') {w1 : World} (k : IntKind) (h : New w' (.map #[] 0) b w1) : Hp B w0 w1 (.imap b k [] :: L) :=
  (H.go e).add h.chg (MapAt.new h) (by simp [Asn.foot]; exact h.num ▸ Nat.le_refl _)
theorem Hp.newS (H : Hp B w0 w L) (e : Eqw w w') {w1 : World} (h : New w' (.map #[] 0) b w1) : Hp B w0 w1 (.smap b [] :: L) :=
  (H.go e).add h.chg (MapAt.new h) (by simp [Asn.foot]; exact h.num ▸ Nat.le_refl _)
theorem Hp.blk (H : Hp B w0 w L) (m : Asn.blk b cs T ∈ L) : Blk w b cs T := H.ok _ m
theorem Hp.ownA {e : TypeId} {sz : Nat} {a : Option Addr} {n c : Nat} {xs : List Value} (H : Hp B w0 w L) (m : Asn.own e sz a n c xs ∈ L) : Own w 0 e sz a n c xs := H.ok _ m
theorem Hp.ld (H : Hp B w0 w L) (e : Eqw w w') (S : Scl P t) (m : Asn.blk b cs T ∈ L) {v : Value} (hv : cs[o]? = some v) : Ld P t w' ⟨b, o, none⟩ v :=
  Blk.ld ((H.go e).blk m) S.agg hv
theorem Hp.ldA (H : Hp B w0 w L) (e : Eqw w w') (S : Agg P t n) (m : Asn.blk b cs T ∈ L) {vs : List Value} (hv : (cs.drop o).take n = vs) (hl : vs.length = n) : Ld P t w' ⟨b, o, none⟩ (.agg vs.toArray) := by
  subst hl
  exact Blk.ldA ((H.go e).blk m) S.agg S.size hv
theorem Hp.st (H : Hp B w0 w (.blk b cs T :: L)) (e : Eqw w w') (S : Scl P t) {v : Value} {G : World → Prop} (hv : v.cells = #[v]) (h1 : v.oneCell' = true) (ho : o < cs.length) {cs' : List Value} (hc : cs.set o v = cs')
    (k : ∀ w1, Hp B w0 w1 (.blk b cs' T :: L) → G w1) : ∃ w1, St P t w' ⟨b, o, none⟩ v w1 ∧ G w1 := by
  obtain ⟨w1, h1, h2, h3⟩ := Blk.st (P := P) (t := t) ((H.go e).blk (.head _)) (o := o) (v := v) (by rw [hv]; exact S.size) (by rw [hv]; simpa using h1) (by rw [hv]; exact ho)
  refine ⟨w1, h1, k w1 ((H.go e).set h3 ?_ (fun k hk => .inl hk))⟩
  rw [hv] at h2
  rw [← hc]
  have e2 : over #[v].toList o cs = cs.set o v := by
    rw [show #[v].toList = [v] from rfl, over_cons v [] o cs ho, over_nil]
  rw [e2] at h2; exact h2
theorem Hp.stA (H : Hp B w0 w (.blk b cs T :: L)) (e : Eqw w w') (S : Agg P t n) {vs : List Value} {G : World → Prop} (hn : vs.length = n) (h1 : vs.all (·.oneCell') = true) (ho : o + n ≤ cs.length) {cs' : List Value} (hc : over vs o cs = cs')
    (k : ∀ w1, Hp B w0 w1 (.blk b cs' T :: L) → G w1) : ∃ w1, St P t w' ⟨b, o, none⟩ (.agg vs.toArray) w1 ∧ G w1 := by
  subst hn
  obtain ⟨w1, h1, h2, h3⟩ := Blk.st (P := P) (t := t) ((H.go e).blk (.head _)) (o := o) (v := .agg vs.toArray) (by simpa [Value.cells] using S.size) (by simpa [Value.cells] using h1) (by simpa [Value.cells] using ho)
  refine ⟨w1, h1, k w1 ((H.go e).set h3 ?_ (fun k hk => .inl hk))⟩
  rw [← hc]; exact h2

/-! ### append, conversions, new slices -/
variable {tx ty e : TypeId} {sz by_ : Nat} {a : Option Addr} {c m : Nat} {xs news : List Value} {x : Value} {G : Option Addr → Nat → Nat → World → Prop}
theorem Hp.app (T : Elt P t e sz by_) (hsz : 0 < sz) (H : Hp B w0 w (.own e sz a n c xs :: L)) (eq : Eqw w w') (hx : Src P sz tx x m news w') (h63 : n + m ≤ maxLen) (hby : (n + m) * by_ ≤ 140737488355328)
    (k : ∀ a' c' w1, Hp B w0 w1 (.own e sz a' (n + m) c' (xs ++ news) :: L) → G a' (n + m) c' w1) :
    ∃ a' n' c' w1, App P #[t, tx] ty w' (.slice a n c) x (.slice a' n' c') w1 ∧ G a' n' c' w1 := by
  have hown : Own w' 0 e sz a n c xs := (H.go eq).ok _ (.head _)
  obtain ⟨a', c', w1, h1, h2, h3, h4⟩ := app_own (P := P) (ty := ty) T hsz hown hx h63 hby (Nat.zero_le _)
  exact ⟨a', _, c', w1, h1, k a' c' w1 ((H.go eq).set h3 h2 h4)⟩
end
theorem Blk.src {P : Program} {w : World} {b : Nat} {cs : List Value} {T tx e' : TypeId} {sz n c : Nat} (hk : P.underlying tx = some (.slice e')) (h : Blk w b cs T) (hl : cs.length = n * sz) (h1 : cs.all (·.oneCell') = true) : Src P sz tx (.slice (some ⟨b, 0, none⟩) n c) n cs w :=
  Src.ofSlice w hk ⟨b, 0, none⟩ n c cs hl (fun j u hj => by rw [add_lit]; exact h.cell (by simpa using hj)) (fun u hu => List.all_eq_true.1 h1 u hu)
theorem Cells.src {P : Program} {w : World} {a : Option Addr} {cs : List Value} {tx e' : TypeId} {sz n c : Nat} (hk : P.underlying tx = some (.slice e')) (h : Cells w a cs) (hl : cs.length = n * sz) (h1 : ∀ u ∈ cs, u.oneCell' = true) (h0 : a = none → n = 0) : Src P sz tx (.slice a n c) n cs w := by
  cases a with
  | none =>
    have := h0 rfl; subst this
    have : cs = [] := List.eq_nil_of_length_eq_zero (by simpa using hl)
    subst this
    exact Src.ofNil w hk c
  | some ad => exact Src.ofSlice w hk ad n c cs hl (fun j u hj => by obtain ⟨ad', e1, e2⟩ := h j u hj; cases e1; exact e2) h1

theorem byteCells_one (s : ByteArray) : ∀ u ∈ byteCells s, u.oneCell' = true := by
  intro u hu
  obtain ⟨_, _, rfl⟩ := List.mem_map.1 hu
  rfl

section
variable {P : Program} {B : List Nat} {w0 w w' : World} {L : List Asn}
/-- a string's bytes as a slice of one's own -/
theorem Hp.s2b {src dst e : TypeId} {s : ByteArray} (H : Hp B w0 w L) (eq : Eqw w w') (hs : P.underlying src = some .string) (hd : P.underlying dst = some (.slice e)) (he : P.underlying e = some (.int .u8)) (hl : s.size ≤ maxLen)
    {G : Option Addr → Nat → Nat → World → Prop} (k : ∀ a c w1, Hp B w0 w1 (.own e 1 a s.size c (byteCells s) :: L) → G a s.size c w1) :
    ∃ a n c w1, S2B P src dst w' (.string s) (.slice a n c) w1 ∧ G a n c w1 := by
  refine ⟨_, _, _, _, run_bytes_of_string w' src dst e s hs hd he, k _ _ _ ((H.go eq).add ?_ ?_ ?_)⟩
  · exact ⟨rfl, rfl, rfl, by simp, fun k hk _ => alloc_old w'.drew _ k hk⟩
  · refine ⟨by rw [byteCells_length, Nat.mul_one], .inr ⟨_, _, _, rfl, Nat.zero_le _, alloc_new w'.drew _, Thaw.behind _ _, grownCap_ge _ _ _ _, grownCap_le_maxLen _ _ _ _ hl, ?_, ?_⟩⟩
    · have := grownCap_ge w' s.size 0 e
      simp only [bytesRow, Array.size_append, Array.size_map, Array.size_replicate, Nat.mul_one]
      have e2 : s.data.size = s.size := rfl
      omega
    · have e2 : (byteCells s).length = s.size := byteCells_length s
      rw [Nat.mul_one, bytesRow, Array.toList_append, Array.toList_map, ← e2]
      exact List.take_left' rfl
  · intro k hk; simp [Asn.foot, blks] at hk; subst hk; exact Nat.le_refl _
/-- bytes as a string -/
theorem b2s {src dst e : TypeId} {a : Option Addr} {n c : Nat} {s : ByteArray} (hs : P.underlying src = some (.slice e)) (he : P.underlying e = some (.int .u8)) (hd : P.underlying dst = some .string) (hc : Cells w a (byteCells s)) (hn : n = s.size) :
    B2S P src dst w (.slice a n c) (.string s) := by
  subst hn
  cases a with
  | none =>
    have : byteCells s = [] := by
      cases h : byteCells s with
      | nil => rfl
      | cons v r => obtain ⟨ad, e1, _⟩ := hc 0 v (by rw [h]; rfl); cases e1
    have h0 : s = ByteArray.empty := by
      have h1 : s.data.toList = [] := by simpa [byteCells] using this
      obtain ⟨d⟩ := s
      have : d = #[] := by apply Array.ext'; simpa using h1
      subst this; rfl
    subst h0
    exact run_convert_bytes_nil w src e hs he _ _ dst hd
  | some ad =>
    have := run_convert_bytes_back w src dst e ad c s.data.toList hs he hd (fun j hj => by
      have h1 : (byteCells s)[j]? = some (.int .u8 (s.data.toList[j].toNat : Int)) := by
        simp [byteCells, List.getElem?_map, List.getElem?_eq_getElem hj]
      obtain ⟨ad', e1, e2⟩ := hc j _ h1
      cases e1; exact e2)
    rw [show (s.data.toList.toArray) = s.data by simp] at this
    simpa [B2S, Array.length_toList] using this
/-- a new slice -/
theorem Hp.mkS {t e : TypeId} {sz by_ : Nat} {kl kc : IntKind} {n : Int} (T : Elt P t e sz by_) (H : Hp B w0 w L) (eq : Eqw w w') (h0 : 0 ≤ n) (hl : n.toNat ≤ maxLen) (hby : (by_ : Int) * n ≤ 281474976710656) {z : Value} (hz : zeroOf P e = some z)
    {G : Option Addr → Nat → Nat → World → Prop} (k : ∀ a w1, Hp B w0 w1 (.own e sz a n.toNat n.toNat (madeCells z.cells (n.toNat * sz)).toList :: L) → G a n.toNat n.toNat w1) :
    ∃ a l c w1, MkS P t w' (.int kl n) (.int kc n) (.slice a l c) w1 ∧ G a l c w1 := by
  obtain ⟨hu, i, z', hi, hz', rfl, rfl, hzs⟩ := T
  have hzz : z' = z := by
    simp only [zeroOf, hi, hz', Option.some.injEq] at hz; exact hz
  subst hzz
  refine ⟨_, _, _, _, run_make w' t e i z' hu hi hz' kl kc n n h0 (Int.le_refl _) hby (by simp only [maxLen] at hl; omega), k _ _ ((H.go eq).add ?_ ?_ ?_)⟩
  · exact ⟨rfl, rfl, rfl, by simp, fun k hk _ => alloc_old w' _ k hk⟩
  · refine ⟨by rw [Array.length_toList, size_madeCells], .inr ⟨_, _, _, rfl, Nat.zero_le _, alloc_new w' _, Thaw.zero _, Nat.le_refl _, hl, size_madeCells _ _, ?_⟩⟩
    rw [List.take_of_length_le]
    rw [Array.length_toList, size_madeCells]; exact Nat.le_refl _
  · intro k hk; simp [Asn.foot, blks] at hk; subst hk; exact Nat.le_refl _
end
section
variable {P : Program} {B : List Nat} {w0 w w' : World} {L : List Asn} {t kT eT : TypeId} {z v : Value} {b : Nat}
theorem Hp.lkI {k : IntKind} {al : List (Int × Value)} (T : MapT P (intKey k) t kT eT z) (H : Hp B w0 w L) (e : Eqw w w') (m : Asn.imap b k al ∈ L) {x : Int} (hv : (aget al x).getD z = v) : Lk P t false w' (.map (some b)) (.int k x) v := by
  subst hv; exact (lk_map T ((H.go e).ok _ m) x).1
theorem Hp.lkIok {k : IntKind} {al : List (Int × Value)} (T : MapT P (intKey k) t kT eT z) (H : Hp B w0 w L) (e : Eqw w w') (m : Asn.imap b k al ∈ L) {x : Int} {o : Bool} (hv : (aget al x).getD z = v) (ho : (aget al x).isSome = o) : Lk P t true w' (.map (some b)) (.int k x) (.tuple #[v, .bool o]) := by
  subst hv; subst ho; exact (lk_map T ((H.go e).ok _ m) x).2
theorem Hp.lkS {al : List (ByteArray × Value)} (T : MapT P strKey t kT eT z) (H : Hp B w0 w L) (e : Eqw w w') (m : Asn.smap b al ∈ L) {x : ByteArray} (hv : (aget al x).getD z = v) : Lk P t false w' (.map (some b)) (.string x) v := by
  subst hv; exact (lk_map T ((H.go e).ok _ m) x).1
theorem Hp.lkSok {al : List (ByteArray × Value)} (T : MapT P strKey t kT eT z) (H : Hp B w0 w L) (e : Eqw w w') (m : Asn.smap b al ∈ L) {x : ByteArray} {o : Bool} (hv : (aget al x).getD z = v) (ho : (aget al x).isSome = o) : Lk P t true w' (.map (some b)) (.string x) (.tuple #[v, .bool o]) := by
  subst hv; subst ho; exact (lk_map T ((H.go e).ok _ m) x).2
theorem Hp.mupI {k : IntKind} {al : List (Int × Value)} (T : MapT P (intKey k) t kT eT z) (H : Hp B w0 w (.imap b k al :: L)) (e : Eqw w w') {x : Int} {G : World → Prop}
    (kk : ∀ w1, Hp B w0 w1 (.imap b k (aput al x v) :: L) → G w1) : ∃ w1, MUp P t w' (.map (some b)) (.int k x) v w1 ∧ G w1 := by
  obtain ⟨w1, h1, h2, h3⟩ := mup_map T ((H.go e).ok _ (.head _)) x v
  exact ⟨w1, h1, kk w1 ((H.go e).set h3 h2 fun k hk => .inl hk)⟩
theorem Hp.mupS {al : List (ByteArray × Value)} (T : MapT P strKey t kT eT z) (H : Hp B w0 w (.smap b al :: L)) (e : Eqw w w') {x : ByteArray} {G : World → Prop}
    (kk : ∀ w1, Hp B w0 w1 (.smap b (aput al x v) :: L) → G w1) : ∃ w1, MUp P t w' (.map (some b)) (.string x) v w1 ∧ G w1 := by
  obtain ⟨w1, h1, h2, h3⟩ := mup_map T ((H.go e).ok _ (.head _)) x v
  exact ⟨w1, h1, kk w1 ((H.go e).set h3 h2 fun k hk => .inl hk)⟩
end
theorem Own.nil' (e : TypeId) (sz : Nat) (w : World) : (Asn.own e sz none 0 0 []).ok w := Own.nil w 0 e sz
theorem Hp.nilS {B : List Nat} {w0 w : World} {L : List Asn} (H : Hp B w0 w L) (e : TypeId) (sz : Nat) : Hp B w0 w (.own e sz none 0 0 [] :: L) :=
  H.add (Chg.refl _ _) (Own.nil' e sz w) (by simp [Asn.foot, blks])
end Go.Vc
