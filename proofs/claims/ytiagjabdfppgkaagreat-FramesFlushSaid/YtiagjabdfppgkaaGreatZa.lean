/- Slate: what a page's cells are; 'two', 'lay', 'slot', 'set'. -/
import Derived.Test.YtiagjabdfppgkaaGreatNum
import Derived.Test.YtiagjabdfppgkaaGreatEq
import Derived.Test.YtiagjabdfppgkaaGreatFns
set_option linter.unusedVariables false
set_option linter.unusedSimpArgs false
set_option maxRecDepth 100000
namespace Go.Proofs.YtiagjabdfppgkaaGreat.Sl
open Go Go.Vc
theorem scl3 : Scl Tryz.prog 3 := scl_of (by kernel_rfl)
theorem scl4 : Scl Tryz.prog 4 := scl_of (by kernel_rfl)
theorem scl5 : Scl Tryz.prog 5 := scl_of (by kernel_rfl)
theorem scl9 : Scl Tryz.prog 9 := scl_of (by kernel_rfl)
theorem scl23 : Scl Tryz.prog 37 := scl_of (by kernel_rfl)
theorem scl32 : Scl Tryz.prog 23 := scl_of (by kernel_rfl)
theorem agg54 : Agg Tryz.prog 132 4098 := agg_of (by kernel_rfl)
theorem agg52 : Agg Tryz.prog 130 4096 := agg_of (by kernel_rfl)

/-- a page: its stamp's bytes, the count that is written, the directory, the records' bytes; how many slots, where the first record begins -/
structure Pg where
  st : List UInt8
  hdr : Nat
  dir : List (Nat × Nat)
  data : List UInt8
  many : Nat
  low : Nat
def dirB (d : List (Nat × Nat)) : List UInt8 := d.flatMap fun p => be p.1 2 ++ be p.2 2
def Pg.bs (g : Pg) : List UInt8 := g.st ++ (be g.hdr 2 ++ (dirB g.dir ++ g.data))
def Pg.cells (g : Pg) : List Value := bcells g.bs ++ [.int .i64 (g.many : Int), .int .i64 (g.low : Int)]
structure Pg.Ok (g : Pg) : Prop where
  st : g.st.length = 8
  hdr : g.hdr < 65536
  dir : g.dir.length = 120
  data : g.data.length = 3606
  many : g.many ≤ 120
  ent : ∀ p ∈ g.dir, p.1 < 65536 ∧ p.2 < 65536
  low : g.low ≤ 4096
def pgA (b : Nat) (g : Pg) : Asn := .blk b g.cells 132

theorem dirB_len (d : List (Nat × Nat)) : (dirB d).length = 4 * d.length := by
  induction d with
  | nil => rfl
  | cons p r ih =>
    simp only [dirB, List.flatMap_cons, List.length_append, be_length, List.length_cons] at ih ⊢
    omega
theorem dirB_append (x y : List (Nat × Nat)) : dirB (x ++ y) = dirB x ++ dirB y := by simp [dirB]
theorem dirB_cons (p : Nat × Nat) (r : List (Nat × Nat)) : dirB (p :: r) = be p.1 2 ++ be p.2 2 ++ dirB r := by simp [dirB]
theorem dir_split {d : List (Nat × Nat)} {k : Nat} (h : k < d.length) : d = d.take k ++ d[k] :: d.drop (k + 1) := by
  rw [← List.drop_eq_getElem_cons h, List.take_append_drop]
theorem Pg.Ok.len {g : Pg} (h : g.Ok) : g.bs.length = 4096 := by
  simp only [Pg.bs, List.length_append, be_length, dirB_len, h.st, h.dir, h.data]
theorem Pg.Ok.clen {g : Pg} (h : g.Ok) : g.cells.length = 4098 := by
  simp only [Pg.cells, List.length_append, bcells_length, h.len, List.length_cons, List.length_nil]
theorem Pg.Ok.byte {g : Pg} (h : g.Ok) {i : Nat} (hi : i < 4096) : g.cells[i]? = some (.int .u8 ((g.bs[i]'(by rw [h.len]; exact hi)).toNat : Int)) := by
  rw [Pg.cells, List.getElem?_append_left (by rw [bcells_length, h.len]; exact hi)]
  simp [bcells, List.getElem?_eq_getElem (show i < g.bs.length by rw [h.len]; exact hi)]
theorem Pg.Ok.manyC {g : Pg} (h : g.Ok) : g.cells[4096]? = some (.int .i64 (g.many : Int)) := by
  rw [Pg.cells, List.getElem?_append_right (by rw [bcells_length, h.len]; exact Nat.le_refl _), bcells_length, h.len]; rfl
theorem Pg.Ok.lowC {g : Pg} (h : g.Ok) : g.cells[4097]? = some (.int .i64 (g.low : Int)) := by
  rw [Pg.cells, List.getElem?_append_right (by rw [bcells_length, h.len]; omega), bcells_length, h.len]; rfl
theorem Pg.Ok.entry {g : Pg} (h : g.Ok) {k : Nat} (hk : k < 120) : (g.bs.drop (10 + 4 * k)).take 4 = be (g.dir[k]'(by rw [h.dir]; exact hk)).1 2 ++ be (g.dir[k]'(by rw [h.dir]; exact hk)).2 2 := by
  have hk' : k < g.dir.length := by rw [h.dir]; exact hk
  have e : g.bs = (g.st ++ be g.hdr 2 ++ dirB (g.dir.take k)) ++ ((be g.dir[k].1 2 ++ be g.dir[k].2 2) ++ (dirB (g.dir.drop (k + 1)) ++ g.data)) := by
    conv => lhs; rw [Pg.bs, dir_split hk']
    rw [dirB_append, dirB_cons]; simp only [List.append_assoc]
  have hl : (g.st ++ be g.hdr 2 ++ dirB (g.dir.take k)).length = 10 + 4 * k := by
    simp only [List.length_append, be_length, dirB_len, List.length_take, h.st]; omega
  rw [e, drop_left _ _ _ hl]
  exact take_left _ _ 4 (by simp [be_length])
theorem take2 {l : List UInt8} {i : Nat} (h : i + 1 < l.length) : (l.drop i).take 2 = [l[i], l[i + 1]] := by
  rw [List.drop_eq_getElem_cons (by omega), List.drop_eq_getElem_cons (by omega)]; rfl
theorem valN_two (x y : UInt8) : valN [x, y] = x.toNat * 256 + y.toNat := by simp [valN]
theorem Pg.Ok.ent1 {g : Pg} (h : g.Ok) {k : Nat} (hk : k < 120) : valN ((g.bs.drop (10 + 4 * k)).take 2) = (g.dir[k]'(by rw [h.dir]; exact hk)).1 := by
  have e := h.entry hk
  have hm := h.ent _ (List.getElem_mem (show k < g.dir.length by rw [h.dir]; exact hk))
  have : (g.bs.drop (10 + 4 * k)).take 2 = ((g.bs.drop (10 + 4 * k)).take 4).take 2 := by rw [List.take_take]; rfl
  rw [this, e, take_left _ _ 2 (be_length _ _)]
  have := valN_be' (n := ((g.dir[k]'(by rw [h.dir]; exact hk)).1 : Int)) (k := 2) (by omega) (by omega)
  omega
theorem Pg.Ok.ent2 {g : Pg} (h : g.Ok) {k : Nat} (hk : k < 120) : valN ((g.bs.drop (10 + 4 * k + 2)).take 2) = (g.dir[k]'(by rw [h.dir]; exact hk)).2 := by
  have e := h.entry hk
  have hm := h.ent _ (List.getElem_mem (show k < g.dir.length by rw [h.dir]; exact hk))
  have : (g.bs.drop (10 + 4 * k + 2)).take 2 = ((g.bs.drop (10 + 4 * k)).take 4).drop 2 := by rw [List.drop_take, List.drop_drop]
  rw [this, e, drop_left _ _ 2 (be_length _ _)]
  have := valN_be' (n := ((g.dir[k]'(by rw [h.dir]; exact hk)).2 : Int)) (k := 2) (by omega) (by omega)
  omega

/-- a page stands in a world -/
def PgAt (w : World) (b : Nat) (g : Pg) : Prop := g.Ok ∧ Blk w b g.cells 132
theorem PgAt.chg {w w' : World} {b : Nat} {g : Pg} {S : List Nat} (h : PgAt w b g) (hc : Chg S w w') (hs : b ∉ S) : PgAt w' b g := ⟨h.1, h.2.chg hc hs⟩
theorem PgAt.ldB {w : World} {b : Nat} {g : Pg} (h : PgAt w b g) {i : Nat} (hi : i < 4096) : Ld Tryz.prog 5 w ⟨b, i, none⟩ (.int .u8 ((g.bs[i]'(by rw [h.1.len]; exact hi)).toNat : Int)) := h.2.ld scl5.agg (h.1.byte hi)
theorem PgAt.ldMany {w : World} {b : Nat} {g : Pg} (h : PgAt w b g) : Ld Tryz.prog 3 w ⟨b, 4096, none⟩ (.int .i64 (g.many : Int)) := h.2.ld scl3.agg h.1.manyC
theorem PgAt.ldLow {w : World} {b : Nat} {g : Pg} (h : PgAt w b g) : Ld Tryz.prog 3 w ⟨b, 4097, none⟩ (.int .i64 (g.low : Int)) := h.2.ld scl3.agg h.1.lowC
theorem addB (b i : Nat) : (⟨b, 0, none⟩ : Addr).add i = ⟨b, i, none⟩ := by rw [add_lit, Nat.zero_add]

theorem two_spec (b : Nat) (g : Pg) (i : Nat) (hi : i + 1 < 4096) (w : World) (h : PgAt w b g) :
    Calls Tryz.prog 89 #[.pointer (some ⟨b, 0, none⟩), .int .i64 (i : Int)] w fun e w' => e = .returned (.int .i64 (valN ((g.bs.drop i).take 2) : Int)) ∧ Hp [] w w' [] := by
  apply two.ok
  unfold two.vc
  have H := (Hp.start w).drew
  have hd := h.chg H.chg (by simp)
  have hl := h.1.len
  have e1 : Int.toNat (i : Int) * 1 = i := by omega
  have e2 : Int.toNat ((i : Int) + 1) * 1 = i + 1 := by omega
  refine onP_mk rfl ⟨⟨by omega, by omega⟩, _, by rw [e1, addB]; exact hd.ldB (by omega), by omega, ?_⟩
  have hx := (g.bs[i]'(by omega)).toNat_lt
  have hy := (g.bs[i + 1]'(by omega)).toNat_lt
  rw [wrapByte]
  have e3 : (2 : Int) ^ min (Int.toNat 8) (IntKind.bits .i64) = 256 := by decide
  refine ⟨inR64.2 (by rw [e3]; omega), inR64.2 (by omega), onP_mk rfl ⟨⟨by omega, by omega⟩, _, by rw [e2, addB]; exact hd.ldB (by omega), ?_, H⟩⟩
  rw [or_byte2 _ _ (by omega) hy, take2 (by omega), valN_two]
theorem slot_spec (b : Nat) (g : Pg) (k : Int) (w : World) (h : PgAt w b g) :
    Calls Tryz.prog 68 #[.pointer (some ⟨b, 0, none⟩), .int .i64 k] w fun e w' => e = .returned (.tuple #[.int .i64 (if 0 ≤ k ∧ k < g.many then ((g.dir.getD k.toNat (0, 0)).1 : Int) else 0), .int .i64 (if 0 ≤ k ∧ k < g.many then ((g.dir.getD k.toNat (0, 0)).2 : Int) else 0)]) ∧ Hp [] w w' [] := by
  apply slot.ok
  unfold slot.vc
  have H := Hp.start w
  have hm := h.1.many
  refine br_dec (fun h1 => ?_) (fun h1 => onP_mk rfl ⟨_, by rw [addB]; exact h.ldMany, br_dec (fun h2 => ?_) (fun h2 => ?_)⟩)
  · rw [if_neg (by omega), if_neg (by omega)]; exact ⟨rfl, H⟩
  · rw [if_neg (by omega), if_neg (by omega)]; exact ⟨rfl, H⟩
  · obtain ⟨K, rfl⟩ : ∃ K : Nat, k = K := ⟨k.toNat, by omega⟩
    have hK : K < 120 := by omega
    rw [if_pos (by omega), if_pos (by omega)]
    have e1 : (10 : Int) + 4 * (K : Int) = ((10 + 4 * K : Nat) : Int) := by omega
    have e2 : ((10 + 4 * K : Nat) : Int) + 2 = ((10 + 4 * K + 2 : Nat) : Int) := by omega
    rw [e1, e2]
    refine ⟨inR64.2 (by omega), inR64.2 (by omega), callV (two_spec b g _ (by omega) _ h) ?_⟩
    (rintro _ _ ⟨rfl, H'⟩; (first | replace H := H.ext0 H' | replace H := H.drew.ext0 H' | replace H := H.drew.drew.ext0 H'); clear H'; refine ⟨_, rfl, ?_⟩)
    refine ⟨inR64.2 (by omega), inR64.2 (by omega), inR64.2 (by omega), callV (two_spec b g _ (by omega) _ (h.chg H.chg (by simp))) ?_⟩
    (rintro _ _ ⟨rfl, H'⟩; (first | replace H := H.ext0 H' | replace H := H.drew.ext0 H' | replace H := H.drew.drew.ext0 H'); clear H'; refine ⟨_, rfl, ?_⟩)
    have hd : K < g.dir.length := by rw [h.1.dir]; exact hK
    rw [h.1.ent1 hK, h.1.ent2 hK]
    simp only [Int.toNat_natCast, List.getD_eq_getElem?_getD, List.getElem?_eq_getElem hd, Option.getD_some]
    exact ⟨trivial, H⟩

/-! ### Stores into a page -/
theorem bcells_set (l : List UInt8) (i : Nat) (x : UInt8) : (bcells l).set i (.int .u8 (x.toNat : Int)) = bcells (l.set i x) := by simp [bcells, List.map_set]
theorem Pg.cells_set {g : Pg} (h : g.Ok) {i : Nat} (hi : i < 4096) (x : UInt8) : g.cells.set i (.int .u8 (x.toNat : Int)) = bcells (g.bs.set i x) ++ [.int .i64 (g.many : Int), .int .i64 (g.low : Int)] := by
  rw [Pg.cells, List.set_append, if_pos (by rw [bcells_length, h.len]; exact hi), bcells_set]
theorem set2 (l : List UInt8) (a x c : List UInt8) (p q : UInt8) (hx : x.length = 2) (i : Nat) (hi : i = a.length) (hl : l = a ++ (x ++ c)) : (l.set i p).set (i + 1) q = a ++ ([p, q] ++ c) := by
  subst hl hi
  match x, hx with
  | [x1, x2], _ =>
    rw [List.set_append, if_neg (by omega), Nat.sub_self]
    rw [List.set_append, if_neg (by omega), show a.length + 1 - a.length = 1 by omega]
    rfl
theorem be2 (n : Nat) : be (n : Int) 2 = [bt n 1, bt n 0] := rfl
theorem lay_bytes (n : Nat) : IntKind.u8.wrap (Int.fdiv (n : Int) (2 ^ min (Int.toNat 8) (IntKind.bits .i64))) = ((bt n 1).toNat : Int) ∧ IntKind.u8.wrap (n : Int) = ((bt n 0).toNat : Int) := by
  have h1 := shr_byte (n : Int) 1 (by omega) 1 rfl
  have h0 := shr_byte (n : Int) 0 (by omega) 0 rfl
  refine ⟨h1, ?_⟩
  rw [← h0]
  simp
/-- 'lay', where the two bytes stand by themselves -/
theorem lay_spec (b : Nat) (g g' : Pg) (a x c : List UInt8) (i n : Nat) (hx : x.length = 2) (ha : a.length = i) (hi : i + 1 < 4096) (hb : g.bs = a ++ (x ++ c)) (hb' : g'.bs = a ++ (be (n : Int) 2 ++ c)) (hmm : g'.many = g.many) (hll : g'.low = g.low) (w : World) (h : PgAt w b g) :
    Calls Tryz.prog 72 #[.pointer (some ⟨b, 0, none⟩), .int .i64 (i : Int), .int .i64 (n : Int)] w fun e w' => e = .returned (.tuple #[]) ∧ Hp [b] w w' [pgA b g'] := by
  apply lay.ok
  unfold lay.vc
  have H : Hp [b] w w [pgA b g] := Hp.start1 (a := pgA b g) h.2
  replace H := H.drew
  have hcl := h.1.clen
  obtain ⟨l1, l0⟩ := lay_bytes n
  have e1 : Int.toNat (i : Int) * 1 = i := by omega
  have e2 : Int.toNat ((i : Int) + 1) * 1 = i + 1 := by omega
  refine ⟨inR64.2 (by omega), by omega, onP_mk rfl ⟨⟨by omega, by omega⟩, onP_mk rfl ?_⟩⟩
  rw [e1, e2, addB, addB, l1, l0]
  refine Hp.st H (by exact ⟨rfl, rfl, rfl, rfl⟩) scl5 rfl rfl (by rw [hcl]; omega) rfl ?_
  clear H
  intro w1 H
  rw [Pg.cells_set h.1 (by omega)] at H
  refine ⟨⟨by omega, by omega⟩, Hp.st H (by exact ⟨rfl, rfl, rfl, rfl⟩) scl5 rfl rfl (by rw [List.length_append, bcells_length, List.length_set, h.1.len]; simp; omega) rfl ?_⟩
  clear H
  intro w2 H
  rw [List.set_append, if_pos (by rw [bcells_length, List.length_set, h.1.len]; omega), bcells_set, set2 g.bs a x c _ _ hx i ha.symm hb, ← be2, ← hb', ← hmm, ← hll, ← Pg.cells] at H
  exact ⟨rfl, H⟩
theorem Pg.bs_at {g : Pg} (h : g.Ok) {k : Nat} (hk : k < 120) (p q : Nat) : ({ g with dir := g.dir.set k (p, q) } : Pg).bs = (g.st ++ be g.hdr 2 ++ dirB (g.dir.take k)) ++ (be p 2 ++ (be q 2 ++ (dirB (g.dir.drop (k + 1)) ++ g.data))) := by
  have hk' : k < g.dir.length := by rw [h.dir]; exact hk
  have e : g.dir.set k (p, q) = g.dir.take k ++ (p, q) :: g.dir.drop (k + 1) := by
    rw [List.set_eq_take_append_cons_drop, if_pos hk']
  simp only [Pg.bs, e, dirB_append, dirB_cons, List.append_assoc]
def setD (g : Pg) (k at_ long : Nat) : Pg := { g with dir := g.dir.set k (at_, long) }
theorem setD_ok {g : Pg} (h : g.Ok) {k at_ long : Nat} (h1 : at_ < 65536) (h2 : long < 65536) : (setD g k at_ long).Ok :=
  ⟨h.st, h.hdr, by simp [setD, h.dir], h.data, h.many, fun p hp => by
    rcases List.mem_or_eq_of_mem_set hp with hp | rfl
    · exact h.ent p hp
    · exact ⟨h1, h2⟩, h.low⟩
theorem set_spec (b : Nat) (g : Pg) (k at_ long : Nat) (hk : k < 120) (h1 : at_ < 65536) (h2 : long < 65536) (w : World) (h : PgAt w b g) :
    Calls Tryz.prog 71 #[.pointer (some ⟨b, 0, none⟩), .int .i64 (k : Int), .int .i64 (at_ : Int), .int .i64 (long : Int)] w fun e w' => e = .returned (.tuple #[]) ∧ (setD g k at_ long).Ok ∧ Hp [b] w w' [pgA b (setD g k at_ long)] := by
  apply set.ok
  unfold set.vc
  have hk' : k < g.dir.length := by rw [h.1.dir]; exact hk
  have e1 : (10 : Int) + 4 * (k : Int) = ((10 + 4 * k : Nat) : Int) := by omega
  have e2 : ((10 + 4 * k : Nat) : Int) + 2 = ((10 + 4 * k + 2 : Nat) : Int) := by omega
  rw [e1, e2]
  have hl : (g.st ++ be g.hdr 2 ++ dirB (g.dir.take k)).length = 10 + 4 * k := by
    simp only [List.length_append, be_length, dirB_len, List.length_take, h.1.st]; omega
  have hself : g.bs = (g.st ++ be g.hdr 2 ++ dirB (g.dir.take k)) ++ (be g.dir[k].1 2 ++ (be g.dir[k].2 2 ++ (dirB (g.dir.drop (k + 1)) ++ g.data))) := by
    conv => lhs; rw [Pg.bs, dir_split hk']
    rw [dirB_append, dirB_cons]; simp only [List.append_assoc]
  have hent := h.1.ent _ (List.getElem_mem hk')
  refine ⟨inR64.2 (by omega), inR64.2 (by omega), callV (lay_spec b g (setD g k at_ g.dir[k].2) _ _ _ _ at_ (be_length _ 2) hl (by omega) hself (Pg.bs_at h.1 hk _ _) rfl rfl w h) ?_⟩
  rintro e w1 ⟨rfl, H⟩
  have ok1 := setD_ok (k := k) h.1 h1 hent.2
  have hA : PgAt w1 b (setD g k at_ g.dir[k].2) := ⟨ok1, H.ok _ (.head _)⟩
  refine ⟨rfl, inR64.2 (by omega), inR64.2 (by omega), inR64.2 (by omega), ?_⟩
  have hl2 : (g.st ++ be g.hdr 2 ++ dirB (g.dir.take k) ++ be (at_ : Int) 2).length = 10 + 4 * k + 2 := by rw [List.length_append, hl, be_length]
  have hb1 := Pg.bs_at h.1 hk at_ g.dir[k].2
  have hb2 := Pg.bs_at h.1 hk at_ long
  rw [← List.append_assoc] at hb1 hb2
  refine callV (lay_spec b _ (setD g k at_ long) _ _ _ _ long (be_length _ 2) hl2 (by omega) hb1 hb2 rfl rfl w1 hA) ?_
  rintro e w2 ⟨rfl, H'⟩
  exact ⟨rfl, rfl, setD_ok h.1 h1 h2, H.use11 H'⟩
end Go.Proofs.YtiagjabdfppgkaaGreat.Sl
