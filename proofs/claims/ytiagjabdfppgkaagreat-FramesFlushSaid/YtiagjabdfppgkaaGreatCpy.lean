/- copy into, and clear of, a part of a block of one's own. -/
import Derived.Test.YtiagjabdfppgkaaGreatNum
import Derived.Laws.Pointers
set_option linter.unusedVariables false
set_option linter.unusedSimpArgs false
namespace Go.Vc
open Go
section
variable {P : Program} {w : World} {b : Nat} {cs : List Value} {T e : TypeId} {o n c m : Nat}
theorem storeBlk (h : Blk w b cs T) (vs : List Value) (one : ∀ u ∈ vs, u.oneCell' = true) (hfit : o + vs.length ≤ cs.length) : ∃ w1, (storeCells ⟨b, o, none⟩ vs).run P w = .ok () w1 ∧ Blk w1 b (over vs o cs) T ∧ Chg [b] w w1 := by
  have hrun := run_storeCells_blk (P := P) (b := b) (T := T) (fz := (0, 0)) vs w cs ⟨b, o, none⟩ o 0 rfl (fun j => by simp [add_lit]) h hfit (fun k _ _ => by simp) one
  refine ⟨_, hrun, ?_, ?_⟩
  · split
    · rename_i hn; rw [hn, over_nil]; exact h
    · exact setB_at h.lt
  · split
    · exact Chg.refl _ _
    · exact setB_chg _ _ _
theorem Blk.cpy {dT tx ty : TypeId} {x : Value} {news : List Value} (h : Blk w b cs T) (hd : P.underlying dT = some (.slice e)) (hs : sizeV P e = some 1) (hx : Src P 1 tx x m news w) (hmn : m ≤ n) (hfit : o + m ≤ cs.length) :
    ∃ w1, Cpy P #[dT, tx] ty w (.slice (some ⟨b, o, none⟩) n c) x (.int .i64 (m : Int)) w1 ∧ Blk w1 b (over news o cs) T ∧ Chg [b] w w1 := by
  have hl := hx.newsLen
  obtain ⟨w1, h1, h2, h3⟩ := storeBlk (P := P) (o := o) h news hx.one (by omega)
  refine ⟨w1, ?_, h2, h3⟩
  have hmin : Nat.min m n = m := Nat.min_eq_left hmn
  have hz : (sizeOf e).run P w = .ok 1 w := run_size hs w
  have hc := hx.cells
  simp only [Cpy, Builtin.copy_]
  simp [run_und hd, hx.len w, hmin, hz, hc, h1, goInt]
theorem Blk.clr {dT ty : TypeId} {z : Value} (h : Blk w b cs T) (hd : P.underlying dT = some (.slice e)) (hz : zeroOf P e = some z) (hz1 : z.cells = #[z]) (hone : z.oneCell' = true) (hfit : o + n ≤ cs.length) :
    ∃ w1, Clr P #[dT] ty w (.slice (some ⟨b, o, none⟩) n c) w1 ∧ Blk w1 b (over (List.replicate n z) o cs) T ∧ Chg [b] w w1 := by
  cases n with
  | zero =>
    refine ⟨w, ?_, by rw [List.replicate_zero, over_nil]; exact h, Chg.refl _ _⟩
    simp only [Clr, Builtin.clear_]
    simp [run_und hd]
  | succ n =>
    obtain ⟨w1, h1, h2, h3⟩ := storeBlk (P := P) (o := o) h (List.replicate (n + 1) z) (fun u hu => by rw [List.eq_of_mem_replicate hu]; exact hone) (by simpa using hfit)
    refine ⟨w1, ?_, h2, h3⟩
    have hzv : (zeroValue e).run P w = .ok z w := run_zero hz w
    have hcell : (Builtin.zeroCells z.cells (n + 1)).toList = List.replicate (n + 1) z := by
      rw [hz1]
      apply List.ext_getElem?
      intro k
      simp only [Builtin.zeroCells, List.size_toArray, List.length_cons, List.length_nil, Array.toList_map, Array.toList_range, List.getElem?_map, List.getElem?_replicate]
      by_cases hk : k < n + 1
      · rw [if_pos hk, List.getElem?_range (by omega)]
        simp [Nat.mod_one]
      · rw [if_neg hk, List.getElem?_eq_none (by rw [List.length_range]; omega)]; rfl
    simp only [Clr, Builtin.clear_]
    simp [run_und hd, hzv, hcell, h1]
end
section
variable {P : Program} {B : List Nat} {w0 w w' : World} {L : List Asn} {b : Nat} {cs : List Value} {T e : TypeId} {o n c m : Nat}
theorem Hp.cpy {dT tx ty : TypeId} {x : Value} {news : List Value} (H : Hp B w0 w (.blk b cs T :: L)) (eq : Eqw w w') (hd : P.underlying dT = some (.slice e)) (hs : sizeV P e = some 1) (hx : Src P 1 tx x m news w') (hmn : m ≤ n) (hfit : o + m ≤ cs.length) {G : Int → World → Prop}
    (k : ∀ w1, Hp B w0 w1 (.blk b (over news o cs) T :: L) → G (m : Int) w1) : ∃ (i : Int) (w1 : World), Cpy P #[dT, tx] ty w' (.slice (some ⟨b, o, none⟩) n c) x (.int .i64 i) w1 ∧ G i w1 := by
  obtain ⟨w1, h1, h2, h3⟩ := Blk.cpy (P := P) (o := o) (n := n) (c := c) (ty := ty) ((H.go eq).blk (.head _)) hd hs hx hmn hfit
  exact ⟨_, w1, h1, k w1 ((H.go eq).set h3 h2 fun k hk => .inl hk)⟩
theorem Hp.clr {dT ty : TypeId} {z : Value} (H : Hp B w0 w (.blk b cs T :: L)) (eq : Eqw w w') (hd : P.underlying dT = some (.slice e)) (hz : zeroOf P e = some z) (hz1 : z.cells = #[z]) (hone : z.oneCell' = true) (hfit : o + n ≤ cs.length) {G : World → Prop}
    (k : ∀ w1, Hp B w0 w1 (.blk b (over (List.replicate n z) o cs) T :: L) → G w1) : ∃ (w1 : World), Clr P #[dT] ty w' (.slice (some ⟨b, o, none⟩) n c) w1 ∧ G w1 := by
  obtain ⟨w1, h1, h2, h3⟩ := Blk.clr (P := P) (o := o) (n := n) (c := c) (ty := ty) ((H.go eq).blk (.head _)) hd hz hz1 hone hfit
  exact ⟨w1, h1, k w1 ((H.go eq).set h3 h2 fun k hk => .inl hk)⟩
end
section
variable {x : Asn} {L L1 L' : List Asn} {a b c d e f g h i j k : Asn}
theorem perm_step (h : L.Perm (x :: L1)) (h2 : L1.Perm L') : L.Perm (x :: L') := h.trans (h2.cons x)
theorem perm_p0 : (a :: L).Perm (a :: L) := .refl _
theorem perm_p1 : (a :: b :: L).Perm (b :: a :: L) := perm_pull [a] b L
theorem perm_p2 : (a :: b :: c :: L).Perm (c :: a :: b :: L) := perm_pull [a, b] c L
theorem perm_p3 : (a :: b :: c :: d :: L).Perm (d :: a :: b :: c :: L) := perm_pull [a, b, c] d L
theorem perm_p4 : (a :: b :: c :: d :: e :: L).Perm (e :: a :: b :: c :: d :: L) := perm_pull [a, b, c, d] e L
theorem perm_p5 : (a :: b :: c :: d :: e :: f :: L).Perm (f :: a :: b :: c :: d :: e :: L) := perm_pull [a, b, c, d, e] f L
theorem perm_p6 : (a :: b :: c :: d :: e :: f :: g :: L).Perm (g :: a :: b :: c :: d :: e :: f :: L) := perm_pull [a, b, c, d, e, f] g L
theorem perm_p7 : (a :: b :: c :: d :: e :: f :: g :: h :: L).Perm (h :: a :: b :: c :: d :: e :: f :: g :: L) := perm_pull [a, b, c, d, e, f, g] h L
theorem perm_p8 : (a :: b :: c :: d :: e :: f :: g :: h :: i :: L).Perm (i :: a :: b :: c :: d :: e :: f :: g :: h :: L) := perm_pull [a, b, c, d, e, f, g, h] i L
theorem perm_p9 : (a :: b :: c :: d :: e :: f :: g :: h :: i :: j :: L).Perm (j :: a :: b :: c :: d :: e :: f :: g :: h :: i :: L) := perm_pull [a, b, c, d, e, f, g, h, i] j L
end
theorem over_app (v a x c : List Value) (h : v.length = x.length) : over v a.length (a ++ (x ++ c)) = a ++ (v ++ c) := by
  apply List.ext_getElem?
  intro k
  rw [over_get _ _ _ (by simp [h])]
  by_cases h1 : k < a.length
  · rw [if_neg (by omega), List.getElem?_append_left h1, List.getElem?_append_left h1]
  · by_cases h2 : k < a.length + v.length
    · rw [if_pos (by omega), List.getElem?_append_right (by omega), List.getElem?_append_left (by omega)]
    · rw [if_neg (by omega), List.getElem?_append_right (by omega), List.getElem?_append_right (by omega), List.getElem?_append_right (by omega), List.getElem?_append_right (by omega), h]
theorem eqv_ptrE {P : Program} {t : TypeId} {p : Option Addr} {x y : Operand} {w : World} (h : P.underlying t = some (.pointer (P.pointee t))) : Eqv P .eql t x y w (.pointer p) (.pointer none) p.isNone := by
  have := run_eql_pointer_nil (P := P) (w := w) t p h
  simp only [Eqv, Sem.run_bind, eqGuard]
  simp [this]
theorem eqv_ptrN {P : Program} {t : TypeId} {p : Option Addr} {x y : Operand} {w : World} (h : P.underlying t = some (.pointer (P.pointee t))) : Eqv P .neq t x y w (.pointer p) (.pointer none) (!p.isNone) := by
  have := run_neq_pointer_nil (P := P) (w := w) t p h
  simp only [Eqv, Sem.run_bind, eqGuard]
  simp [this]
section
variable {B : List Nat} {w0 w w' : World} {L : List Asn} {x y x' y' : Asn}
theorem Hp.two (H : Hp B w0 w (x :: y :: L)) : Hp (x.foot ++ y.foot) w w [x, y] :=
  ⟨Chg.refl _ _, fun a ha => H.ok a (by simp at ha ⊢; rcases ha with h | h <;> simp [h]), fun a ha k hk => .inl (by
      simp only [List.mem_cons, List.not_mem_nil, or_false] at ha
      rcases ha with rfl | rfl
      · exact List.mem_append_left _ hk
      · exact List.mem_append_right _ hk), by
    have := H.sep
    simp only [List.pairwise_cons] at this ⊢
    exact ⟨fun u hu => this.1 u (by simp at hu ⊢; simp [hu]), by simp, .nil⟩⟩
theorem Hp.use2 (H : Hp B w0 w (x :: y :: L)) (H' : Hp (x.foot ++ y.foot) w w' [x', y']) : Hp B w0 w' (x' :: y' :: L) :=
  Hp.use (L1 := [x, y]) (L2 := L) H H' fun k hk => by
    rcases List.mem_append.1 hk with h | h
    · exact ⟨x, by simp, h⟩
    · exact ⟨y, by simp, h⟩
end
theorem Hp.one {B : List Nat} {w0 w : World} {L : List Asn} {x : Asn} (H : Hp B w0 w L) (m : x ∈ L) : Hp B w0 w [x] :=
  ⟨H.chg, fun b hb => by rw [List.mem_singleton] at hb; subst hb; exact H.ok _ m, fun b hb => by rw [List.mem_singleton] at hb; subst hb; exact H.own _ m, by simp⟩
theorem Hp.takeL {B : List Nat} {w0 w : World} {L R : List Asn} (H : Hp B w0 w (L ++ R)) : Hp B w0 w L :=
  ⟨H.chg, fun b hb => H.ok b (List.mem_append_left _ hb), fun b hb => H.own b (List.mem_append_left _ hb), (List.pairwise_append.1 H.sep).1⟩
end Go.Vc
