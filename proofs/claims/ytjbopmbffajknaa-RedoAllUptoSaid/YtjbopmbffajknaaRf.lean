/- Redo: a mark is looked at; records are told apart. -/
import Derived.Test.YtjbopmbffajknaaRe
import Derived.Test.YtjbopmbffajknaaEq
set_option linter.unusedVariables false
set_option linter.unusedSimpArgs false
set_option maxRecDepth 100000
namespace Go.Vc
open Go
section
variable {P : Program} {w : World}
theorem run_items {d : Nat} {e : TypeId} (hk : kdB P e (.inl .u8) = true) (xs ys : List UInt8) : ∀ is : List Nat, (∀ i ∈ is, i < xs.length ∧ i < ys.length) →
    (Op.eqItems (d + 1) e 1 (bcells xs).toArray (bcells ys).toArray is).run P w = .ok (is.all fun i => xs[i]? == ys[i]?) w
  | [], _ => rfl
  | i :: is, h => by
    have ih := run_items (d := d) hk xs ys is fun j hj => h j (.tail _ hj)
    obtain ⟨h1, h2⟩ := h i (.head _)
    have ha : (bcells xs)[i]? = some (.int .u8 (xs[i].toNat : Int)) := by simp [bcells, h1]
    have hb : (bcells ys)[i]? = some (.int .u8 (ys[i].toNat : Int)) := by simp [bcells, h2]
    simp only [Op.eqItems, Nat.mul_one]
    simp only [Sem.run_bind, run_part_kd (w := w) hk (show (bcells xs).toArray[i]? = some _ by simpa using ha), run_part_kd (w := w) hk (show (bcells ys).toArray[i]? = some _ by simpa using hb), Result.andThen_ok, run_sEq (d := d) (w := w) hk (show (fromV (.inl .u8) (.int .u8 (xs[i].toNat : Int))).isSome = true from rfl) (show (fromV (.inl .u8) (.int .u8 (ys[i].toNat : Int))).isSome = true from rfl)]
    rw [List.all_cons, List.getElem?_eq_getElem h1, List.getElem?_eq_getElem h2]
    have e1 : sEq (.int .u8 (xs[i].toNat : Int)) (.int .u8 (ys[i].toNat : Int)) = (some xs[i] == some ys[i]) := by
      rw [sEq, Bool.eq_iff_iff, decide_eq_true_eq, beq_iff_eq, Option.some.injEq, Int.ofNat_inj]
      exact UInt8.toNat_inj
    rw [e1]
    cases (some xs[i] == some ys[i]) with
    | true => simpa using ih
    | false => simp
theorem all_eq {xs ys : List UInt8} {n : Nat} (hx : xs.length = n) (hy : ys.length = n) : ((List.range n).all fun i => xs[i]? == ys[i]?) = decide (xs = ys) := by
  rw [Bool.eq_iff_iff, List.all_eq_true, decide_eq_true_eq]
  constructor
  · intro h
    refine List.ext_getElem? fun i => ?_
    by_cases hi : i < n
    · exact beq_iff_eq.1 (h i (List.mem_range.2 hi))
    · rw [List.getElem?_eq_none (by omega), List.getElem?_eq_none (by omega)]
  · rintro rfl i _
    simp
theorem eqv_bytes {t e : TypeId} {n : Nat} {i : TypeInfo} (hu : P.underlying t = some (.array n e)) (hi : P.info? e = some i) (hk : kdB P e (.inl .u8) = true) (hc : P.cellsOf e = 1) (hg : P.eqGuardType P.depth t = false)
    {xs ys : List UInt8} (hx : xs.length = n) (hy : ys.length = n) (x y : Operand) : Eqv P .neq t x y w (.agg (bcells xs).toArray) (.agg (bcells ys).toArray) (!decide (xs = ys)) := by
  have h1 := run_items (P := P) (w := w) (d := 9998) hk xs ys (List.range n) fun j hj => by have := List.mem_range.1 hj; omega
  rw [all_eq hx hy] at h1
  simp only [Eqv, Sem.run_bind, run_eqGuard_agg w .neq t x y _ _ hg, Result.andThen_ok, run_neq_struct, run_equalIn_array w 9999 _ _ hu hi, hc, h1]
end
end Go.Vc
namespace Go.Proofs.Ytjbopmbffajknaa
open Go Go.Vc Go.Vault Go.Redo

theorem undNo : Go.Proofs.Try.prog.underlying 112 = some (.array 8 5) := by kernel_rfl
theorem infU8 : ∃ i, Go.Proofs.Try.prog.info? 5 = some i := Option.isSome_iff_exists.1 (show (Go.Proofs.Try.prog.info? 5).isSome = true by kernel_rfl)
theorem kdU8 : kdB Go.Proofs.Try.prog 5 (.inl .u8) = true := by kernel_rfl
theorem cellsU8 : Go.Proofs.Try.prog.cellsOf 5 = 1 := by kernel_rfl
theorem guardNo : Go.Proofs.Try.prog.eqGuardType Go.Proofs.Try.prog.depth 112 = false := by kernel_rfl
theorem read512 {d : Dk} (hok : d.Ok) {n : ByteArray} {i : Int} (h : (d.read n i).2 = 0) : (d.read n i).1.length = 512 := by
  cases hd : d.dead with
  | true => simp [Dk.read, hd] at h
  | false =>
    cases hk : d.find n with
    | none => simp [Dk.read, hd, hk] at h
    | some k =>
      by_cases hi : i < 0 ∨ (d.len k : Int) ≤ i
      · simp [Dk.read, hd, hk, hi] at h
      · have e : d.read n i = ((d.file k).now.getD i.toNat [], 0) := by simp only [Dk.read, hd, hk, Bool.false_eq_true, if_false, if_neg hi]
        rw [e]
        have hlt : i.toNat < (d.file k).now.length := by
          have : d.len k = (d.file k).now.length := rfl
          omega
        have hf := hok.find hk
        have hm : d.file k ∈ d.files := by
          rw [Dk.file, List.getD_eq_getElem?_getD, List.getElem?_eq_getElem hf]
          exact List.getElem_mem _
        show ((d.file k).now.getD i.toNat []).length = 512
        rw [List.getD_eq_getElem?_getD, List.getElem?_eq_getElem hlt]
        exact (hok.files _ hm).now _ (List.getElem_mem _)
set_option maxHeartbeats 1000000 in
theorem look_spec (y : LW) (x : DW) (d : Dk) (l : Lg) (hok : x.Ok d) (n : Nat) (w : World) (st : Std w (lgA y x.b l :: dkL x d)) :
    Calls Go.Proofs.Try.prog 48 #[.pointer (some ⟨y.b, 0, none⟩), .int .i64 (n : Int)] w fun e w' =>
      e = .returned (match lookP d l.name n with
        | some (m, f) => .tuple #[.int .u64 (m : Int), .int .u64 (f : Int), .bool true]
        | none => .tuple #[.int .u64 0, .int .u64 0, .bool false]) ∧ Hp [] w w' [] := by
  apply look.ok; unfold look.vc
  have H := (Hp.startL st).drew
  refine onP_mk rfl ⟨_, H.ld (cs := lgC y x.b l) (by exact ⟨rfl, rfl, rfl, rfl⟩) sclDP (.head _) rfl, ?_⟩
  refine onP_mk rfl ⟨_, H.ld (cs := lgC y x.b l) (by exact ⟨rfl, rfl, rfl, rfl⟩) sclStr (.head _) rfl, ?_⟩
  refine callV (read_spec x d hok l.name (n : Int) w.drew H.drop.std) ?_
  rintro e w1 ⟨a, c, rfl, K⟩
  replace K := (Hp.start w).drew.ext K
  simp only [List.append_nil] at K
  refine ⟨_, _, _, _, rfl, ?_⟩
  refine br_not (fun h1 => ?_) (fun h1 => ?_)
  · have h1 := of_decide_eq_false h1
    have e1 : lookP d l.name n = none := by rw [lookP, if_neg (fun h => h1 h.1)]
    rw [e1]
    exact ⟨rfl, K.drew.done⟩
  · have h1 := of_decide_eq_true h1
    have hlen := read512 hok.dk h1
    have hlook : lookP d l.name n = if (d.read l.name n).1.take 8 = (d.read l.name n).1.drop 504 then some (valN ((d.read l.name n).1.take 8), valN (((d.read l.name n).1.drop 8).take 8)) else none := by
      rw [lookP]
      by_cases h2 : (d.read l.name n).1.take 8 = (d.read l.name n).1.drop 504
      · rw [if_pos ⟨h1, h2⟩, if_pos h2]
      · rw [if_neg (fun h => h2 h.2), if_neg h2]
    rw [hlook]
    generalize (d.read l.name n).1 = b at K hlen ⊢
    replace K := K.drew
    have hown := K.ownA (.head _)
    have hcap := hown.le.1
    have hcells := hown.cells
    obtain ⟨ad, ha⟩ := hcells.some (by intro h; have := congrArg List.length h; rw [bcells_length, hlen] at this; simp at this)
    subst ha
    have e8 : (bcells b).take 8 = bcells (b.take 8) := by rw [bcells, bcells, List.map_take]
    have e504 : (bcells b).drop 504 = bcells (b.drop 504) := by rw [bcells, bcells, List.map_drop]
    have l8 : (b.take 8).length = 8 := by rw [List.length_take]; omega
    have l504 : (b.drop 504).length = 8 := by rw [List.length_drop]; omega
    have a0 : ad.add 0 = ad := by simp [Addr.add]
    have hld0 := hcells.ldA (P := Go.Proofs.Try.prog) aggNo rfl (o := 0) (vs := bcells (b.take 8)) (by rw [List.drop_zero, e8]) (by rw [bcells_length, l8])
    have hld1 := hcells.ldA (P := Go.Proofs.Try.prog) aggNo rfl (o := 504) (vs := bcells (b.drop 504)) (by rw [e504, List.take_of_length_le (by rw [bcells_length, l504]; exact Nat.le_refl _)]) (by rw [bcells_length, l504])
    rw [a0] at hld0
    have hs504 : slA (some ad) c (Int.toNat 504) 1 = some (ad.add 504) := by
      unfold slA; rw [if_neg (by show c ≠ 504; omega)]; rfl
    have hs8 : slA (some ad) c (Int.toNat 8) 1 = some (ad.add 8) := by
      unfold slA; rw [if_neg (by show c ≠ 8; omega)]; rfl
    obtain ⟨inf, hinf⟩ := infU8
    refine ⟨⟨by omega, by omega⟩, by omega, _, onP_mk rfl hld0, ⟨by omega, by omega⟩, by show 8 ≤ b.length - 504; omega, _, onP_mk hs504 hld1, _, eqv_bytes undNo hinf kdU8 cellsU8 guardNo l8 l504 _ _, ?_⟩
    refine br_not (fun h2 => ?_) (fun h2 => ?_)
    · rw [if_neg (of_decide_eq_false h2)]
      exact ⟨rfl, K.done⟩
    · rw [if_pos (of_decide_eq_true h2)]
      refine ⟨⟨by omega, by omega⟩, ⟨by omega, by omega, by omega⟩, ?_⟩
      replace K := K.drew
      have hc0 : Cells w1.drew.drew (some ad) (bcells (b.take 8)) := by rw [← e8]; exact (K.ownA (.head _)).cells.take 8
      have ht := take_spec (some ad) (b.take 8) c (by omega) w1.drew.drew hc0
      rw [l8] at ht
      refine callV ht ?_
      rintro e w2 ⟨rfl, H'⟩
      replace K := K.ext0 H'; clear H'
      refine ⟨_, rfl, ?_⟩
      rw [hs8]
      have hc1 : Cells w2 (some (ad.add 8)) (bcells ((b.drop 8).take 8)) := by
        have h3 := ((K.ownA (.head _)).cells.slA (c := c) (i := 8) (by rw [bcells_length]; omega))
        have h4 : slA (some ad) c 8 1 = some (ad.add 8) := hs8
        rw [h4] at h3
        have h5 := h3.take 8
        have e9 : ((bcells b).drop 8).take 8 = bcells ((b.drop 8).take 8) := by simp only [bcells, List.map_take, List.map_drop]
        rw [e9] at h5; exact h5
      have l88 : ((b.drop 8).take 8).length = 8 := by rw [List.length_take, List.length_drop]; omega
      have ht := take_spec (some (ad.add 8)) ((b.drop 8).take 8) (c - 8) (by omega) w2 hc1
      rw [l88] at ht
      refine callV ht ?_
      rintro e w3 ⟨rfl, H'⟩
      replace K := K.ext0 H'; clear H'
      exact ⟨_, rfl, rfl, K.done⟩
end Go.Proofs.Ytjbopmbffajknaa
