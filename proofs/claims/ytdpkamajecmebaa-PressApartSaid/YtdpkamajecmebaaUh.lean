/- Vault: the document's names and numbers. -/
import Derived.Test.YtdpkamajecmebaaUg
set_option linter.unusedVariables false
set_option linter.unusedSimpArgs false
set_option maxRecDepth 100000
namespace Go.Proofs.Ytdpkamajecmebaa
open Go Go.Vc Go.Vault

theorem rsclN : Scl Go.Proofs.Try.prog 41 := scl_of (by kernel_rfl)
theorem rsclF : Scl Go.Proofs.Try.prog 40 := scl_of (by kernel_rfl)
theorem rsclNN : Scl Go.Proofs.Try.prog 42 := scl_of (by kernel_rfl)
theorem rsclSS : Scl Go.Proofs.Try.prog 33 := scl_of (by kernel_rfl)
theorem rsclSI : Scl Go.Proofs.Try.prog 47 := scl_of (by kernel_rfl)
theorem rsclU : Scl Go.Proofs.Try.prog 46 := scl_of (by kernel_rfl)
theorem raggN : Agg Go.Proofs.Try.prog 130 2 := agg_of (by kernel_rfl)
theorem raggF : Agg Go.Proofs.Try.prog 106 3 := agg_of (by kernel_rfl)
theorem raggD : Agg Go.Proofs.Try.prog 44 8 := agg_of (by kernel_rfl)
theorem raggO : Agg Go.Proofs.Try.prog 49 6 := agg_of (by kernel_rfl)
theorem raggA : Agg Go.Proofs.Try.prog 53 2 := agg_of (by kernel_rfl)
theorem eltNm : Elt Go.Proofs.Try.prog 41 130 2 24 := elt_of (by kernel_rfl)
theorem eltStr : Elt Go.Proofs.Try.prog 33 9 1 16 := elt_of (by kernel_rfl)
theorem eltInt : Elt Go.Proofs.Try.prog 47 3 1 8 := elt_of (by kernel_rfl)
theorem eltRF : Elt Go.Proofs.Try.prog 40 106 3 72 := elt_of (by kernel_rfl)
theorem eltNN : Elt Go.Proofs.Try.prog 42 41 1 24 := elt_of (by kernel_rfl)
theorem eltU8 : Elt Go.Proofs.Try.prog 46 5 1 1 := elt_of (by kernel_rfl)
theorem eltStS : Elt Go.Proofs.Try.prog 114 33 1 24 := elt_of (by kernel_rfl)
theorem undNm : Go.Proofs.Try.prog.underlying 41 = some (.slice 130) := by kernel_rfl
theorem undStr : Go.Proofs.Try.prog.underlying 33 = some (.slice 9) := by kernel_rfl
theorem undInt : Go.Proofs.Try.prog.underlying 47 = some (.slice 3) := by kernel_rfl
theorem undRF : Go.Proofs.Try.prog.underlying 40 = some (.slice 106) := by kernel_rfl
theorem undNN : Go.Proofs.Try.prog.underlying 42 = some (.slice 41) := by kernel_rfl
theorem undStS : Go.Proofs.Try.prog.underlying 114 = some (.slice 33) := by kernel_rfl

/-- a slice that is read: its cells, in blocks of F -/
structure SC (F : List Nat) (w : World) (a : Option Addr) (n c sz : Nat) (xs : List Value) : Prop where
  cells : Cells w a xs
  inF : ∀ k ∈ blks a, k ∈ F
  len : xs.length = n * sz
  le : n ≤ c
  nil : a = none → n = 0
section
variable {F G : List Nat} {w w' : World} {a : Option Addr} {n c sz o m : Nat} {xs : List Value} {t : TypeId} {v : Value} {P : Program}
theorem SC.ofNil (F : List Nat) (w : World) (c sz : Nat) : SC F w none 0 c sz [] := ⟨fun j v hj => by simp at hj, by simp [blks], by simp, Nat.zero_le _, fun _ => rfl⟩
theorem SC.chg {S : List Nat} (h : SC F w a n c sz xs) (hc : Chg S w w') (hs : ∀ k ∈ F, k ∉ S) : SC F w' a n c sz xs := ⟨h.cells.chg hc fun k hk => hs k (h.inF k hk), h.inF, h.len, h.le, h.nil⟩
theorem SC.chg0 (h : SC F w a n c sz xs) (hc : Chg [] w w') : SC F w' a n c sz xs := h.chg hc (by simp)
theorem SC.more (h : SC F w a n c sz xs) (hs : ∀ k ∈ F, k ∈ G) : SC G w a n c sz xs := ⟨h.cells, fun k hk => hs k (h.inF k hk), h.len, h.le, h.nil⟩
theorem SC.agree (h : SC F w a n c sz xs) (hs : ∀ k ∈ F, w'.heap[k]? = w.heap[k]?) : SC F w' a n c sz xs := by
  refine ⟨fun j v hj => ?_, h.inF, h.len, h.le, h.nil⟩
  obtain ⟨ad, ha, hcell⟩ := h.cells j v hj
  refine ⟨ad, ha, ?_⟩
  have hb : (ad.add j).block = ad.block := add_block ad j
  rw [World.cell?_of_block (hs _ (by rw [hb]; exact h.inF _ (by rw [ha]; simp [blks])))]
  exact hcell
theorem SC.ld (h : SC F w a n c sz xs) (S : Scl P t) (ho : xs[o]? = some v) : ∃ ad, a = some ad ∧ Ld P t w (ad.add o) v := by
  obtain ⟨ad, ha, _⟩ := h.cells o v ho
  exact ⟨ad, ha, h.cells.ld S ha ho⟩
theorem SC.ldA (h : SC F w a n c sz xs) (S : Agg P t m) (hm : 0 < m) {vs : List Value} (ho : (xs.drop o).take m = vs) (hl : vs.length = m) : ∃ ad, a = some ad ∧ Ld P t w (ad.add o) (.agg vs.toArray) := by
  have hx : xs ≠ [] := by
    rintro rfl
    rw [List.drop_nil, List.take_nil] at ho
    subst ho; simp at hl; omega
  obtain ⟨ad, ha⟩ := h.cells.some hx
  exact ⟨ad, ha, h.cells.ldA S ha ho hl⟩
theorem SC.src {tx e' : TypeId} (h : SC F w a n c sz xs) (hk : P.underlying tx = some (.slice e')) (h1 : xs.all (·.oneCell') = true) : Src P sz tx (.slice a n c) n xs w :=
  h.cells.src hk h.len (fun u hu => List.all_eq_true.1 h1 u hu) h.nil
theorem SC.ofOwn {e : TypeId} (h : Own w 0 e sz a n c xs) (hF : ∀ k ∈ blks a, k ∈ F) : SC F w a n c sz xs := by
  refine ⟨h.cells, hF, h.1, h.le.1, ?_⟩
  rintro rfl
  rcases h.2 with ⟨_, h, _⟩ | ⟨_, _, _, h, _⟩
  · exact h
  · cases h
end

def nmCells (l : List Nm) : List Value := l.flatMap fun p => [.string p.name, .int .i64 (p.file : Int)]
theorem nmCells_len (l : List Nm) : (nmCells l).length = l.length * 2 := by
  induction l with
  | nil => rfl
  | cons p r ih =>
    simp only [nmCells, List.flatMap_cons, List.length_append, List.length_cons, List.length_nil] at ih ⊢
    omega
theorem nmCells_append (a b : List Nm) : nmCells (a ++ b) = nmCells a ++ nmCells b := by simp [nmCells]
theorem nmCells_one (p : Nm) : nmCells [p] = [.string p.name, .int .i64 (p.file : Int)] := rfl
theorem nmCells_cons (p : Nm) (r : List Nm) : nmCells (p :: r) = .string p.name :: .int .i64 (p.file : Int) :: nmCells r := rfl
theorem nmCells_ones (l : List Nm) : (nmCells l).all (·.oneCell') = true := by
  induction l with
  | nil => rfl
  | cons p r ih => rw [nmCells_cons]; simp only [List.all_cons, ih]; rfl
theorem nmCells_at : ∀ {l : List Nm} {k : Nat} {p : Nm}, l[k]? = some p → (nmCells l)[k * 2]? = some (.string p.name) ∧ (nmCells l)[k * 2 + 1]? = some (.int .i64 (p.file : Int)) ∧ ((nmCells l).drop (k * 2)).take 2 = [.string p.name, .int .i64 (p.file : Int)]
  | [], k, p, h => by simp at h
  | q :: r, 0, p, h => by
    simp at h; subst h
    rw [nmCells_cons]
    exact ⟨rfl, rfl, rfl⟩
  | q :: r, k + 1, p, h => by
    rw [List.getElem?_cons_succ] at h
    obtain ⟨h1, h2, h3⟩ := nmCells_at h
    rw [nmCells_cons, show (k + 1) * 2 = k * 2 + 1 + 1 by omega, show k * 2 + 1 + 1 + 1 = (k * 2 + 1) + 1 + 1 by omega]
    exact ⟨h1, h2, h3⟩

theorem rright_spec (n : ByteArray) (w : World) : Calls Go.Proofs.Try.prog 67 #[.string n] w fun e w' => e = .returned (.bool (Vault.right n)) ∧ Hp [] w w' [] := by
  apply rright.ok; unfold rright.vc
  refine br_dec (fun h => ⟨?_, Hp.start w⟩) (fun h => ⟨?_, Hp.start w⟩)
  · have h1 : 1 ≤ n.size := by omega
    have e2 : decide ((n.size : Int) ≤ 60) = decide (n.size ≤ 60) := by congr 1; exact propext (by omega)
    rw [e2]; simp [Vault.right, h1]
  · have h1 : ¬ 1 ≤ n.size := by omega
    simp [Vault.right, h1]
theorem nget_drop {l : List Nm} {k : Nat} {p : Nm} (h : l[k]? = some p) (n : ByteArray) : nget (l.drop k) n = if p.name = n then some p.file else nget (l.drop (k + 1)) n := by
  have hk := (List.getElem?_eq_some_iff.1 h).1
  rw [List.drop_eq_getElem_cons hk, nget]
  rw [List.getElem?_eq_getElem hk] at h
  rw [Option.some.inj h]
def fcode (o : Option Nat) : Int := match o with
  | some k => k
  | none => -1
theorem rfind_spec {F : List Nat} {w : World} {a : Option Addr} {c : Nat} {l : List Nm} (h : SC F w a l.length c 2 (nmCells l)) (hl : l.length ≤ 1073741824) (n : ByteArray) : Calls Go.Proofs.Try.prog 50 #[.slice a l.length c, .string n] w fun e w' => e = .returned (.int .i64 (fcode (nget l n))) ∧ Hp [] w w' [] := by
  apply rfind.ok; unfold rfind.vc
  refine LoopP.mk (fun (m : Nat) (s : Int) (w' : World) => ∃ k : Nat, m = l.length - k ∧ k ≤ l.length ∧ s = (k : Int) ∧ w' = w ∧ nget (l.drop k) n = nget l n) l.length ⟨0, by omega, by omega, rfl, rfl, rfl⟩ ?_
  rintro m s w' next ⟨k, rfl, hk, rfl, rfl, hg⟩ hnext
  refine br_dec (fun h1 => ?_) (fun h1 => ?_)
  · have hkl : k < l.length := by omega
    obtain ⟨p, hp⟩ : ∃ p, l[k]? = some p := ⟨_, List.getElem?_eq_getElem hkl⟩
    obtain ⟨c1, c2, _⟩ := nmCells_at hp
    obtain ⟨ad, ha, hld⟩ := h.ld (P := Go.Proofs.Try.prog) sclStr c1
    refine onP_mk ha ⟨⟨by omega, by omega⟩, p.name, by rw [Int.toNat_natCast]; exact hld, ?_⟩
    rw [nget_drop hp] at hg
    refine br_dec (fun h2 => ?_) (fun h2 => ?_)
    · rw [if_pos h2] at hg
      obtain ⟨ad', ha', hld'⟩ := h.ld (P := Go.Proofs.Try.prog) sclInt c2
      refine onP_mk ha' ⟨⟨by omega, by omega⟩, (p.file : Int), by rw [Int.toNat_natCast, add_add]; exact hld', ?_⟩
      rw [← hg]
      exact ⟨rfl, Hp.start _⟩
    · rw [if_neg h2] at hg
      refine ⟨inR64.2 (by omega), hnext (l.length - (k + 1)) _ _ (by omega) ⟨k + 1, rfl, by omega, by simp, rfl, hg⟩⟩
  · have : k = l.length := by omega
    subst this
    rw [List.drop_length] at hg
    rw [← hg]
    exact ⟨rfl, Hp.start _⟩

set_option maxHeartbeats 1000000 in
theorem rwithout_spec {F : List Nat} {w : World} {a : Option Addr} {c : Nat} {l : List Nm} (h : SC F w a l.length c 2 (nmCells l)) (hl : l.length ≤ 1073741824) (n : ByteArray) : Calls Go.Proofs.Try.prog 73 #[.slice a l.length c, .string n] w fun e w' => ∃ a' c', e = .returned (.slice a' (without l n).length c') ∧ Hp [] w w' [.own 130 2 a' (without l n).length c' (nmCells (without l n))] := by
  apply rwithout.ok; unfold rwithout.vc
  refine LoopP.mk (fun (m : Nat) (s : (Option Addr × Nat × Nat) × Int) (w' : World) => ∃ (k : Nat) (a' : Option Addr) (c' : Nat), m = l.length - k ∧ k ≤ l.length ∧ s = ((a', (without (l.take k) n).length, c'), (k : Int)) ∧ Hp [] w w' [.own 130 2 a' (without (l.take k) n).length c' (nmCells (without (l.take k) n))]) l.length ⟨0, none, 0, by omega, by omega, rfl, (Hp.start w).nilS _ _⟩ ?_
  rintro m s w' next ⟨k, a', c', rfl, hk, rfl, H⟩ hnext
  dsimp only
  have hwl : (without (l.take k) n).length ≤ l.length := by
    have := without_len (l.take k) n
    rw [List.length_take] at this; omega
  have h' := h.chg0 H.chg
  refine br_dec (fun h1 => ?_) (fun h1 => ?_)
  · have hkl : k < l.length := by omega
    obtain ⟨p, hp⟩ : ∃ p, l[k]? = some p := ⟨_, List.getElem?_eq_getElem hkl⟩
    obtain ⟨c1, c2, c3⟩ := nmCells_at hp
    have htk := take_snoc hp
    obtain ⟨ad, ha, hld⟩ := h'.ld (P := Go.Proofs.Try.prog) sclStr c1
    refine onP_mk ha ⟨⟨by omega, by omega⟩, p.name, by rw [Int.toNat_natCast]; exact hld, ?_⟩
    refine br_ndec (fun h2 => ?_) (fun h2 => ?_)
    · have hwo : without (l.take (k + 1)) n = without (l.take k) n ++ [p] := by
        rw [htk, without, List.filter_append]; simp [without, h2]
      obtain ⟨ad', ha', hld'⟩ := h'.ldA (P := Go.Proofs.Try.prog) raggN (by omega) c3 rfl
      refine onP_mk ha' ⟨⟨by omega, by omega⟩, p.name, (p.file : Int), by rw [Int.toNat_natCast]; exact hld', ?_⟩
      intro b w1 hn; replace H := H.new (by exact ⟨rfl, rfl, rfl, rfl⟩) hn; clear hn
      refine Hp.app eltNm (by omega) H.pull1 (by exact ⟨rfl, rfl, rfl, rfl⟩) (Blk.src undNm ((H.go (w' := w1.drew) (by exact ⟨rfl, rfl, rfl, rfl⟩)).blk (.head _)) rfl rfl) (by simp only [maxLen]; omega) (by omega) ?_
      clear H; intro a2 c2 w2 H
      replace H := H.drop1
      refine ⟨inR64.2 (by omega), hnext (l.length - (k + 1)) _ _ (by omega) ⟨k + 1, a2, c2, rfl, by omega, by rw [hwo]; simp, ?_⟩⟩
      rw [hwo, nmCells_append, List.length_append]
      exact H
    · have hwo : without (l.take (k + 1)) n = without (l.take k) n := by
        rw [htk, without, List.filter_append]; simp [without, h2]
      refine ⟨inR64.2 (by omega), hnext (l.length - (k + 1)) _ _ (by omega) ⟨k + 1, a', c', rfl, by omega, by rw [hwo]; simp, by rw [hwo]; exact H⟩⟩
  · have : k = l.length := by omega
    subst this
    rw [List.take_length] at H ⊢
    exact ⟨a', c', rfl, H⟩

/-- names, as far as they were put, and the one put or not -/
def insStep (n : Nm) (s : List Nm × Bool) (p : Nm) : List Nm × Bool :=
  match s.2, nameLe p.name n.name with
  | true, _ => (s.1 ++ [p], true)
  | false, true => (s.1 ++ [p], false)
  | false, false => (s.1 ++ [n, p], true)
def insTo (n : Nm) (l : List Nm) : List Nm × Bool := l.foldl (insStep n) ([], false)
theorem insTo_snoc (n : Nm) (l : List Nm) (p : Nm) : insTo n (l ++ [p]) = insStep n (insTo n l) p := by
  rw [insTo, List.foldl_append]; rfl
theorem insTo_len (n : Nm) (l : List Nm) : (insTo n l).1.length ≤ l.length + 1 := by
  have key : ∀ (l : List Nm) (s : List Nm × Bool), (l.foldl (insStep n) s).1.length ≤ s.1.length + l.length + (match s.2 with | true => 0 | false => 1) := by
    intro l
    induction l with
    | nil => intro s; simp
    | cons p r ih =>
      intro s
      obtain ⟨q, b⟩ := s
      have h1 := ih (insStep n (q, b) p)
      simp only [List.foldl_cons, List.length_cons]
      cases b <;> cases hb : nameLe p.name n.name <;> simp only [insStep, hb, List.length_append, List.length_cons, List.length_nil] at h1 ⊢ <;> omega
  have := key l ([], false)
  simp only [List.length_nil] at this
  simp only [insTo]; omega
theorem ins_to (n : Nm) (l : List Nm) : ins n l = (insTo n l).1 ++ (match (insTo n l).2 with | true => [] | false => [n]) := by
  have key : ∀ (l pre : List Nm), l.foldl (insStep n) (pre, true) = (pre ++ l, true) := by
    intro l
    induction l with
    | nil => intro pre; simp
    | cons p r ih =>
      intro pre
      have e : insStep n (pre, true) p = (pre ++ [p], true) := rfl
      rw [List.foldl_cons, e, ih]; simp
  have key2 : ∀ (l pre : List Nm), pre ++ ins n l = (l.foldl (insStep n) (pre, false)).1 ++ (match (l.foldl (insStep n) (pre, false)).2 with | true => [] | false => [n]) := by
    intro l
    induction l with
    | nil => intro pre; simp [ins]
    | cons p r ih =>
      intro pre
      rw [List.foldl_cons, ins]
      cases hb : nameLe p.name n.name with
      | true =>
        have e : insStep n (pre, false) p = (pre ++ [p], false) := by simp only [insStep, hb]
        rw [e, ← ih (pre ++ [p])]
        simp
      | false =>
        have e : insStep n (pre, false) p = (pre ++ [n, p], true) := by simp only [insStep, hb]
        rw [e, key]
        simp
  have := key2 l []
  rw [List.nil_append] at this
  exact this

set_option maxHeartbeats 1000000 in
theorem rwith_spec {F : List Nat} {w : World} {a : Option Addr} {c : Nat} {l : List Nm} (h : SC F w a l.length c 2 (nmCells l)) (hl : l.length ≤ 1073741823) (n : Nm) : Calls Go.Proofs.Try.prog 71 #[.slice a l.length c, .agg #[.string n.name, .int .i64 (n.file : Int)]] w fun e w' => ∃ a' c', e = .returned (.slice a' (with_ l n).length c') ∧ Hp [] w w' [.own 130 2 a' (with_ l n).length c' (nmCells (with_ l n))] := by
  apply rwith.ok; unfold rwith.vc
  have H := Hp.start w
  (intro _ _ hn; replace H := H.new (by exact ⟨rfl, rfl, rfl, rfl⟩) hn; clear hn)
  rename_i b w1
  ((repeat apply Exists.intro); first | refine ⟨H.ld (by exact ⟨rfl, rfl, rfl, rfl⟩) (by first | exact sclInt | exact sclBool | exact sclStr | exact rsclN | exact rsclF | exact rsclNN | exact rsclSS | exact rsclSI | exact rsclU) (by repeat first | exact .head _ | refine .tail _ ?_) rfl, ?_⟩ | refine ⟨H.ldA (by exact ⟨rfl, rfl, rfl, rfl⟩) (by first | exact raggN | exact raggF | exact raggD | exact raggO | exact raggA) (by repeat first | exact .head _ | refine .tail _ ?_) rfl rfl, ?_⟩)
  refine callV (rwithout_spec (h.chg0 H.chg) (by omega) n.name) ?_
  rintro e w2 ⟨a0, c0, rfl, H'⟩; replace H := H.ext H'; clear H'
  refine ⟨_, _, _, rfl, ?_⟩
  simp only [List.cons_append, List.nil_append] at H
  have hwl := without_len l n.name
  rw [with_]
  generalize without l n.name = q at H hwl ⊢
  refine LoopP.mk (fun (m : Nat) (s : (Option Addr × Nat × Nat) × Bool × Int) (w' : World) => ∃ (k : Nat) (a' : Option Addr) (c' : Nat), m = q.length - k ∧ k ≤ q.length ∧ s = ((a', (insTo n (q.take k)).1.length, c'), (insTo n (q.take k)).2, (k : Int)) ∧
      Hp [] w w' [.own 130 2 a' (insTo n (q.take k)).1.length c' (nmCells (insTo n (q.take k)).1), .own 130 2 a0 q.length c0 (nmCells q), .blk b [.string n.name, .int .i64 (n.file : Int)] 130]) q.length ⟨0, none, 0, by omega, by omega, rfl, H.nilS _ _⟩ ?_
  clear H w1 w2
  rintro m s w1 next ⟨k, a', c', rfl, hk, rfl, H⟩ hnext
  dsimp only
  have hil := insTo_len n (q.take k)
  rw [List.length_take] at hil
  refine br_dec (fun h1 => ?_) (fun h1 => ?_)
  · have hkl : k < q.length := by omega
    obtain ⟨p, hp⟩ : ∃ p, q[k]? = some p := ⟨_, List.getElem?_eq_getElem hkl⟩
    obtain ⟨c1, c2, c3⟩ := nmCells_at hp
    have htk := take_snoc hp
    have hsn := insTo_snoc n (q.take k) p
    rw [← htk] at hsn
    have hld : ∀ (w' : World) (L : List Asn), Hp [] w w' L → Asn.own 130 2 a0 q.length c0 (nmCells q) ∈ L → ∃ ad, a0 = some ad ∧ Ld Go.Proofs.Try.prog 9 w' (ad.add (k * 2)) (.string p.name) := fun w' L H hm => H.ldO (P := Go.Proofs.Try.prog) (by exact ⟨rfl, rfl, rfl, rfl⟩) sclStr hm c1
    have hlA : ∀ (w' : World) (L : List Asn), Hp [] w w' L → Asn.own 130 2 a0 q.length c0 (nmCells q) ∈ L → ∃ ad, a0 = some ad ∧ Ld Go.Proofs.Try.prog 130 w' (ad.add (k * 2)) (.agg #[.string p.name, .int .i64 (p.file : Int)]) := fun w' L H hm => H.ldOA (P := Go.Proofs.Try.prog) (by exact ⟨rfl, rfl, rfl, rfl⟩) raggN (by omega) hm c3 rfl
    refine JoinP.mk (fun (s : Bool) (w' : World) => s = (!(insTo n (q.take k)).2 && !nameLe p.name n.name) ∧ Hp [] w w' [.own 130 2 a' (insTo n (q.take k)).1.length c' (nmCells (insTo n (q.take k)).1), .own 130 2 a0 q.length c0 (nmCells q), .blk b [.string n.name, .int .i64 (n.file : Int)] 130]) ?_ ?_
    · clear H
      rintro s w2 ⟨hs, H⟩
      rw [Int.toNat_natCast]
      refine br_mk (fun ht => ?_) (fun ht => ?_)
      · rw [ht] at hs
        obtain ⟨h2, h3⟩ : (insTo n (q.take k)).2 = false ∧ nameLe p.name n.name = false := by simpa using hs.symm
        have hst : insTo n (q.take (k + 1)) = ((insTo n (q.take k)).1 ++ [n, p], true) := by rw [hsn]; simp only [insStep, h2, h3]
        refine ⟨_, _, H.ldA (by exact ⟨rfl, rfl, rfl, rfl⟩) raggN (.tail _ (.tail _ (.head _))) rfl rfl, ?_⟩
        intro b1 w3 hn; replace H := H.new (by exact ⟨rfl, rfl, rfl, rfl⟩) hn; clear hn
        refine Hp.app eltNm (by omega) H.pull1 (by exact ⟨rfl, rfl, rfl, rfl⟩) (Blk.src undNm ((H.go (w' := w3.drew) (by exact ⟨rfl, rfl, rfl, rfl⟩)).blk (.head _)) rfl rfl) (by simp only [maxLen]; omega) (by omega) ?_
        clear H; intro a2 c2 w4 H
        replace H := H.drop1
        obtain ⟨ad, ha, hl2⟩ := hlA w4 _ H (.tail _ (.head _))
        refine onP_mk ha ⟨⟨by omega, by omega⟩, _, _, hl2, ?_⟩
        intro b2 w5 hn; replace H := H.new (by exact ⟨rfl, rfl, rfl, rfl⟩) hn; clear hn
        refine Hp.app eltNm (by omega) H.pull1 (by exact ⟨rfl, rfl, rfl, rfl⟩) (Blk.src undNm ((H.go (w' := w5.drew) (by exact ⟨rfl, rfl, rfl, rfl⟩)).blk (.head _)) rfl rfl) (by simp only [maxLen]; omega) (by omega) ?_
        clear H; intro a3 c3 w6 H
        replace H := H.drop1
        refine ⟨inR64.2 (by omega), hnext (q.length - (k + 1)) _ _ (by omega) ⟨k + 1, a3, c3, rfl, by omega, by rw [hst]; simp, ?_⟩⟩
        rw [hst]
        have e1 : nmCells ((insTo n (q.take k)).1 ++ [n, p]) = nmCells (insTo n (q.take k)).1 ++ [.string n.name, .int .i64 (n.file : Int)] ++ [.string p.name, .int .i64 (p.file : Int)] := by
          rw [nmCells_append, List.append_assoc]; rfl
        simp only [e1, List.length_append, List.length_cons, List.length_nil]
        exact H
      · rw [ht] at hs
        have hst : insTo n (q.take (k + 1)) = ((insTo n (q.take k)).1 ++ [p], (insTo n (q.take k)).2) := by
          rw [hsn]
          cases h2 : (insTo n (q.take k)).2 with
          | true => simp only [insStep, h2]
          | false =>
            rw [h2] at hs
            have h3 : nameLe p.name n.name = true := by simpa using hs
            simp only [insStep, h2, h3]
        obtain ⟨ad, ha, hl2⟩ := hlA w2 _ H (.tail _ (.head _))
        refine onP_mk ha ⟨⟨by omega, by omega⟩, _, _, hl2, ?_⟩
        intro b2 w5 hn; replace H := H.new (by exact ⟨rfl, rfl, rfl, rfl⟩) hn; clear hn
        refine Hp.app eltNm (by omega) H.pull1 (by exact ⟨rfl, rfl, rfl, rfl⟩) (Blk.src undNm ((H.go (w' := w5.drew) (by exact ⟨rfl, rfl, rfl, rfl⟩)).blk (.head _)) rfl rfl) (by simp only [maxLen]; omega) (by omega) ?_
        clear H; intro a3 c3 w6 H
        replace H := H.drop1
        refine ⟨inR64.2 (by omega), hnext (q.length - (k + 1)) _ _ (by omega) ⟨k + 1, a3, c3, rfl, by omega, by rw [hst]; simp, ?_⟩⟩
        rw [hst]
        simp only [nmCells_append, List.length_append, List.length_cons, List.length_nil]
        exact H
    · intro J hJ
      replace H := H.drew
      refine br_not (fun h2 => ?_) (fun h2 => ?_)
      · obtain ⟨ad, ha, hl2⟩ := hld w1.drew _ H (.tail _ (.head _))
        refine onP_mk ha ⟨⟨by omega, by omega⟩, p.name, by rw [Int.toNat_natCast]; exact hl2, ?_⟩
        refine ⟨_, H.ld (by exact ⟨rfl, rfl, rfl, rfl⟩) sclStr (.tail _ (.tail _ (.head _))) rfl, ?_⟩
        exact hJ _ _ ⟨by rw [h2]; rfl, H⟩
      · exact hJ _ _ ⟨by rw [h2]; rfl, H⟩
  · have hk2 : k = q.length := by omega
    subst hk2
    rw [List.take_length] at H ⊢
    have hi := ins_to n q
    have hil := insTo_len n q
    refine br_not (fun h2 => ?_) (fun h2 => ?_)
    · rw [h2] at hi
      refine ⟨_, _, H.ldA (by exact ⟨rfl, rfl, rfl, rfl⟩) raggN (.tail _ (.tail _ (.head _))) rfl rfl, ?_⟩
      intro b1 w3 hn; replace H := H.new (by exact ⟨rfl, rfl, rfl, rfl⟩) hn; clear hn
      refine Hp.app eltNm (by omega) H.pull1 (by exact ⟨rfl, rfl, rfl, rfl⟩) (Blk.src undNm ((H.go (w' := w3.drew) (by exact ⟨rfl, rfl, rfl, rfl⟩)).blk (.head _)) rfl rfl) (by simp only [maxLen]; omega) (by omega) ?_
      clear H; intro a2 c2 w4 H
      rw [hi]
      simp only [nmCells_append, List.length_append, List.length_cons, List.length_nil]
      exact ⟨a2, c2, rfl, H.done1⟩
    · rw [h2, List.append_nil] at hi
      rw [hi]
      exact ⟨a', c', rfl, H.done1⟩

def natC (l : List Nat) : List Value := l.map fun n : Nat => .int .i64 (n : Int)
theorem natC_append (a b : List Nat) : natC (a ++ b) = natC a ++ natC b := by simp [natC]
def addStep (n : Nat) (s : List Nat × Bool) (x : Nat) : List Nat × Bool :=
  let t := if s.2 = false ∧ n ≤ x then (s.1 ++ [n], true) else s
  if x = n then t else (t.1 ++ [x], t.2)
def addTo (n : Nat) (l : List Nat) : List Nat × Bool := l.foldl (addStep n) ([], false)
theorem addTo_snoc (n : Nat) (l : List Nat) (p : Nat) : addTo n (l ++ [p]) = addStep n (addTo n l) p := by
  rw [addTo, List.foldl_append]; rfl
theorem addTo_len (n : Nat) (l : List Nat) : (addTo n l).1.length ≤ 2 * l.length := by
  have key : ∀ (l : List Nat) (s : List Nat × Bool), (l.foldl (addStep n) s).1.length ≤ s.1.length + 2 * l.length := by
    intro l
    induction l with
    | nil => intro s; simp
    | cons p r ih =>
      intro s
      have h1 := ih (addStep n s p)
      have h2 : (addStep n s p).1.length ≤ s.1.length + 2 := by
        simp only [addStep]
        split <;> split <;> simp
      simp only [List.foldl_cons, List.length_cons]
      omega
  have := key l ([], false)
  simpa [addTo] using this
theorem add_to (n : Nat) (l : List Nat) (hl : l.Pairwise (· < ·)) : addN n l = (addTo n l).1 ++ (match (addTo n l).2 with | true => [] | false => [n]) := by
  have key : ∀ (l pre : List Nat), (∀ x ∈ l, n < x) → l.foldl (addStep n) (pre, true) = (pre ++ l, true) := by
    intro l
    induction l with
    | nil => intro pre _; simp
    | cons p r ih =>
      intro pre hx
      have h1 := hx p (.head _)
      have e : addStep n (pre, true) p = (pre ++ [p], true) := by
        have hne : p ≠ n := by omega
        simp [addStep, hne]
      rw [List.foldl_cons, e, ih _ fun x h => hx x (.tail _ h)]; simp
  have key2 : ∀ (l pre : List Nat), l.Pairwise (· < ·) → pre ++ addN n l = (l.foldl (addStep n) (pre, false)).1 ++ (match (l.foldl (addStep n) (pre, false)).2 with | true => [] | false => [n]) := by
    intro l
    induction l with
    | nil => intro pre _; simp [addN]
    | cons p r ih =>
      intro pre hs
      have hp := List.pairwise_cons.1 hs
      rw [List.foldl_cons, addN]
      by_cases h1 : n < p
      · have e : addStep n (pre, false) p = (pre ++ [n, p], true) := by
          have hne : p ≠ n := by omega
          have hle : n ≤ p := by omega
          simp [addStep, hne, hle]
        rw [if_pos h1, e, key _ _ fun x hx => by have := hp.1 x hx; omega]; simp
      · by_cases h2 : n = p
        · subst h2
          have e : addStep n (pre, false) n = (pre ++ [n], true) := by
            simp [addStep]
          rw [if_neg h1, if_pos rfl, e, key _ _ fun x hx => hp.1 x hx]; simp
        · have e : addStep n (pre, false) p = (pre ++ [p], false) := by
            have hne : ¬ p = n := by omega
            have hle : ¬ n ≤ p := by omega
            simp [addStep, hne, hle]
          rw [if_neg h1, if_neg h2, e, ← ih (pre ++ [p]) hp.2]; simp
  have := key2 l [] hl
  rw [List.nil_append] at this
  exact this
theorem natC_at {l : List Nat} {k x : Nat} (h : l[k]? = some x) : (natC l)[k]? = some (.int .i64 (x : Int)) := by simp [natC, h]

set_option maxHeartbeats 1000000 in
theorem radd_spec {F : List Nat} {w : World} {a : Option Addr} {c : Nat} {l : List Nat} (h : SC F w a l.length c 1 (natC l)) (hl : l.length ≤ 536870911) (hs : l.Pairwise (· < ·)) (n : Nat) : Calls Go.Proofs.Try.prog 82 #[.slice a l.length c, .int .i64 (n : Int)] w fun e w' => ∃ a' c', e = .returned (.slice a' (addN n l).length c') ∧ Hp [] w w' [.own 3 1 a' (addN n l).length c' (natC (addN n l))] := by
  apply radd.ok; unfold radd.vc
  refine LoopP.mk (fun (m : Nat) (s : (Option Addr × Nat × Nat) × Bool × Int) (w' : World) => ∃ (k : Nat) (a' : Option Addr) (c' : Nat), m = l.length - k ∧ k ≤ l.length ∧ s = ((a', (addTo n (l.take k)).1.length, c'), (addTo n (l.take k)).2, (k : Int)) ∧
      Hp [] w w' [.own 3 1 a' (addTo n (l.take k)).1.length c' (natC (addTo n (l.take k)).1)]) l.length ⟨0, none, 0, by omega, by omega, rfl, (Hp.start w).nilS _ _⟩ ?_
  rintro m s w1 next ⟨k, a', c', rfl, hk, rfl, H⟩ hnext
  dsimp only
  have hil := addTo_len n (l.take k)
  rw [List.length_take] at hil
  refine br_dec (fun h1 => ?_) (fun h1 => ?_)
  · have hkl : k < l.length := by omega
    obtain ⟨p, hp⟩ : ∃ p, l[k]? = some p := ⟨_, List.getElem?_eq_getElem hkl⟩
    have htk := take_snoc hp
    have hsn := addTo_snoc n (l.take k) p
    rw [← htk] at hsn
    have hld : ∀ (w' : World) (L : List Asn), Hp [] w w' L → ∃ ad, a = some ad ∧ Ld Go.Proofs.Try.prog 3 w' (ad.add (Int.toNat (k : Int) * 1)) (.int .i64 (p : Int)) := fun w' L H => (h.chg0 H.chg).ld (P := Go.Proofs.Try.prog) sclInt (by rw [Int.toNat_natCast, Nat.mul_one]; exact natC_at hp)
    obtain ⟨t, ht⟩ : ∃ t : List Nat × Bool, t = if (addTo n (l.take k)).2 = false ∧ n ≤ p then ((addTo n (l.take k)).1 ++ [n], true) else addTo n (l.take k) := ⟨_, rfl⟩
    have htl : t.1.length ≤ (addTo n (l.take k)).1.length + 1 := by rw [ht]; split <;> simp
    have hst : addTo n (l.take (k + 1)) = if p = n then t else (t.1 ++ [p], t.2) := by rw [hsn, addStep, ht]
    refine JoinP.mk (fun (s : (Option Addr × Nat × Nat) × Bool) (w' : World) => ∃ a2 c2, s = ((a2, t.1.length, c2), t.2) ∧ Hp [] w w' [.own 3 1 a2 t.1.length c2 (natC t.1)]) ?_ ?_
    · clear H
      rintro s w2 ⟨a2, c2, rfl, H⟩
      dsimp only
      obtain ⟨ad, ha, hl2⟩ := hld w2 _ H
      refine onP_mk ha ⟨⟨by omega, by omega⟩, _, hl2, ?_⟩
      refine br_ndec (fun h2 => ?_) (fun h2 => ?_)
      · rw [if_neg (by omega)] at hst
        refine onP_mk ha ⟨⟨by omega, by omega⟩, _, hl2, ?_⟩
        intro b2 w5 hn; replace H := H.new (by exact ⟨rfl, rfl, rfl, rfl⟩) hn; clear hn
        refine Hp.app eltInt (by omega) H.pull1 (by exact ⟨rfl, rfl, rfl, rfl⟩) (Blk.src undInt ((H.go (w' := w5.drew) (by exact ⟨rfl, rfl, rfl, rfl⟩)).blk (.head _)) rfl rfl) (by simp only [maxLen]; omega) (by omega) ?_
        clear H; intro a3 c3 w6 H
        replace H := H.drop1
        refine ⟨inR64.2 (by omega), hnext (l.length - (k + 1)) _ _ (by omega) ⟨k + 1, a3, c3, rfl, by omega, by rw [hst]; simp, ?_⟩⟩
        rw [hst]
        simp only [natC_append, List.length_append, List.length_cons, List.length_nil]
        exact H
      · rw [if_pos (by omega)] at hst
        refine ⟨inR64.2 (by omega), hnext (l.length - (k + 1)) _ _ (by omega) ⟨k + 1, a2, c2, rfl, by omega, by rw [hst]; simp, ?_⟩⟩
        rw [hst]
        exact H
    · intro J hJ
      refine br_not (fun h2 => ?_) (fun h2 => ?_)
      · obtain ⟨ad, ha, hl2⟩ := hld w1 _ H
        refine onP_mk ha ⟨⟨by omega, by omega⟩, _, hl2, ?_⟩
        refine br_dec (fun h3 => ?_) (fun h3 => ?_)
        · rw [if_pos ⟨h2, by omega⟩] at ht
          intro b2 w5 hn; replace H := H.new (by exact ⟨rfl, rfl, rfl, rfl⟩) hn; clear hn
          refine Hp.app eltInt (by omega) H.pull1 (by exact ⟨rfl, rfl, rfl, rfl⟩) (Blk.src undInt ((H.go (w' := w5.drew) (by exact ⟨rfl, rfl, rfl, rfl⟩)).blk (.head _)) rfl rfl) (by simp only [maxLen]; omega) (by omega) ?_
          clear H; intro a3 c3 w6 H
          replace H := H.drop1
          refine hJ _ _ ⟨a3, c3, by rw [ht]; simp, ?_⟩
          rw [ht]
          simp only [natC_append, List.length_append, List.length_cons, List.length_nil]
          exact H
        · rw [if_neg (by omega)] at ht
          exact hJ _ _ ⟨a', c', by rw [ht], by rw [ht]; exact H⟩
      · rw [if_neg (by rw [h2]; simp)] at ht
        exact hJ _ _ ⟨a', c', by rw [ht], by rw [ht]; exact H⟩
  · have hk2 : k = l.length := by omega
    subst hk2
    rw [List.take_length] at H ⊢
    have hi := add_to n l hs
    have hil := addTo_len n l
    refine br_not (fun h2 => ?_) (fun h2 => ?_)
    · rw [h2] at hi
      intro b1 w3 hn; replace H := H.new (by exact ⟨rfl, rfl, rfl, rfl⟩) hn; clear hn
      refine Hp.app eltInt (by omega) H.pull1 (by exact ⟨rfl, rfl, rfl, rfl⟩) (Blk.src undInt ((H.go (w' := w3.drew) (by exact ⟨rfl, rfl, rfl, rfl⟩)).blk (.head _)) rfl rfl) (by simp only [maxLen]; omega) (by omega) ?_
      clear H; intro a2 c2 w4 H
      rw [hi]
      simp only [natC_append, List.length_append, List.length_cons, List.length_nil]
      exact ⟨a2, c2, rfl, H.done1⟩
    · rw [h2, List.append_nil] at hi
      rw [hi]
      exact ⟨a', c', rfl, H⟩
end Go.Proofs.Ytdpkamajecmebaa
