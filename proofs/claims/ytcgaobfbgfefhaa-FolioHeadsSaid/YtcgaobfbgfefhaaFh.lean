/- Folio: 'joined'. -/
import Derived.Test.YtcgaobfbgfefhaaFg
set_option linter.unusedVariables false
set_option linter.unusedSimpArgs false
namespace Go.Proofs.Ytcgaobfbgfefhaa
open Go Go.Vc

/-- a slice that reads as strings -/
structure StrS (w : World) (a : Option Addr) (n : Nat) (l : List (List UInt8)) : Prop where
  len : n = l.length
  cells : Cells w a (l.map sv)
theorem StrS.chg {w w' : World} {a : Option Addr} {n : Nat} {l : List (List UInt8)} {B : List Nat} (h : StrS w a n l) (hc : Chg B w w') (hs : ∀ k ∈ blks a, k ∉ B) : StrS w' a n l := ⟨h.len, h.cells.chg hc hs⟩
theorem StrS.ld {w : World} {a : Option Addr} {n : Nat} {l : List (List UInt8)} (h : StrS w a n l) {k : Nat} {s : List UInt8} (hk : l[k]? = some s) : ∃ ad, a = some ad ∧ Ld Go.Proofs.Try.prog 9 w (ad.add (k * 1)) (.string ⟨s.toArray⟩) := by
  obtain ⟨ad, had, hc⟩ := h.cells k (sv s) (by simp [hk])
  exact ⟨ad, had, ld_cell scl9.agg (by rw [Nat.mul_one]; exact hc)⟩
theorem StrS.ld0 {w : World} {a : Option Addr} {n : Nat} {l : List (List UInt8)} (h : StrS w a n l) {s : List UInt8} (hk : l[0]? = some s) {ad : Addr} (ha : a = some ad) : Ld Go.Proofs.Try.prog 9 w ad (.string ⟨s.toArray⟩) := by
  obtain ⟨ad', had, hc⟩ := h.cells 0 (sv s) (by simp [hk])
  have : ad = ad' := by rw [ha] at had; exact Option.some.inj had
  subst this
  exact ld_cell scl9.agg (by simpa [Addr.add, sv] using hc)

theorem headF_len {l : List UInt8} {x : Nat × Nat × Nat} (h : headF l = some x) : 6 ≤ l.length ∧ l.length ≤ 906 ∧ x.2.2 < 256 := by
  unfold headF at h
  split at h
  · cases h
  · split at h
    · cases h
    · cases h
      have := valN_lt ((l.drop 5).take 1)
      have h1 : ((l.drop 5).take 1).length ≤ 1 := by rw [List.length_take]; omega
      have h2 : 256 ^ ((l.drop 5).take 1).length ≤ 256 ^ 1 := Nat.pow_le_pow_right (by omega) h1
      refine ⟨by omega, by omega, ?_⟩
      show valN _ < 256
      omega
theorem headV_shape (x : Option (Nat × Nat × Nat)) : ∃ (i j m : Nat) (b : Bool), headV x = .tuple #[.int .i64 (i : Int), .int .i64 (j : Int), .int .i64 (m : Int), .bool b] ∧ (x = none → i = 0 ∧ b = false) ∧ (∀ y, x = some y → (i, j, m) = y ∧ b = true) := by
  cases x with
  | none => exact ⟨0, 0, 0, false, rfl, fun _ => ⟨rfl, rfl⟩, by simp⟩
  | some y =>
    obtain ⟨i, j, m⟩ := y
    exact ⟨i, j, m, true, rfl, by simp, fun y h => by cases h; exact ⟨rfl, rfl⟩⟩
theorem fid_head {l : List (List UInt8)} {s : List UInt8} (h : l[0]? = some s) {i : Nat} (h0 : headF s = none → i = 0) (h1 : ∀ y, headF s = some y → i = y.1) : fid l = i := by
  cases l with
  | nil => cases h
  | cons t r =>
    simp at h; subst h
    simp only [fid]
    cases hh : headF t with
    | none => simp [h0 hh]
    | some y => obtain ⟨a, b, c⟩ := y; simp [h1 _ hh]

theorem ext_mk (l : List UInt8) (i j : Nat) : (ByteArray.mk l.toArray).extract i j = ⟨((l.take j).drop i).toArray⟩ := by
  apply ByteArray.ext
  apply Array.ext'
  rw [ByteArray.data_extract, Array.toList_extract, List.extract_eq_take_drop]
  simp only [List.drop_take]
def zrec : Value := .agg #[.int .i64 0, .int .i64 0, .int .i64 0, .int .i64 0, .int .i64 0, .int .i64 0, .string ⟨#[]⟩, .slice none 0 0]
theorem attrCells_snoc (A : List (Int × ByteArray)) (p : Int × ByteArray) : attrCells (A ++ [p]) = attrCells A ++ [.int .i64 p.1, .string p.2] := by simp [attrCells, attrCell]
theorem mk_inj {x y : List UInt8} : (ByteArray.mk x.toArray = ByteArray.mk y.toArray) ↔ x = y := by
  constructor
  · intro h; have := congrArg (fun b : ByteArray => b.data.toList) h; simpa using this
  · rintro rfl; rfl

theorem joined_spec (l : List (List UInt8)) (a : Option Addr) (n c : Nat) (w : World) (hS : StrS w a n l) (hn : n ≤ maxLen) :
    Calls Go.Proofs.Try.prog 27 #[.slice a n c] w fun e w' => (good l ∧ ∃ a' c', e = .returned (.tuple #[.slice a' (joinB l).length c', .bool (decide (0 < (joinB l).length))]) ∧ (joinB l).length ≤ 900 * 256 ∧ l.length ≤ 256 ∧ Hp [] w w' [.own 5 1 a' (joinB l).length c' (bcells (joinB l))]) ∨
      (¬ good l ∧ e = .returned (.tuple #[.slice none 0 0, .bool false]) ∧ Hp [] w w' []) := by
  have H := Hp.start w
  have hmax : maxLen = 9223372036854775807 := by simp [maxLen]
  have hlen := hS.len
  apply joined.ok
  unfold joined.vc
  refine LoopP.mk (fun m s w' => ∃ k a' n' c', m = l.length - k ∧ s = ((a', n', c'), (k : Int)) ∧ k ≤ l.length ∧ n' = (joinB (l.take k)).length ∧ (joinB (l.take k)).length ≤ 900 * k ∧ (0 < k → l.length ≤ 256) ∧ (∀ j s, j < k → l[j]? = some s → headF s = some (fid l, j, l.length)) ∧
    Hp [] w w' [.own 5 1 a' n' c' (bcells (joinB (l.take k)))]) l.length ⟨0, none, 0, 0, rfl, rfl, Nat.zero_le _, rfl, Nat.zero_le _, by omega, by omega, H.nilS 5 1⟩ ?_
  clear H
  rintro m s w' next ⟨k, a', n', c', rfl, rfl, hk, rfl, h9, h256, hg, H⟩ hnext
  dsimp only
  refine br_dec (fun h => ?_) (fun h => ?_)
  · have hkl : k < l.length := by omega
    have hp : l[k]? = some l[k] := List.getElem?_eq_getElem hkl
    have hp0 : l[0]? = some l[0] := List.getElem?_eq_getElem (by omega)
    obtain ⟨ad, had, hld⟩ := (hS.chg H.chg (by simp)).ld hp
    refine onP_mk had ⟨⟨by omega, h⟩, _, hld, callV (head_spec _ _) ?_⟩
    rintro e w2 ⟨rfl, H'⟩
    replace H := H.ext0 H'
    clear H'
    obtain ⟨i, j, m, b, ev, f1, f2⟩ := headV_shape (headF l[k])
    have f1' : headF l[k] = none → i = 0 ∧ b = false := f1
    refine ⟨i, j, m, b, by simp only [ev], onP_mk had ⟨⟨by omega, by omega⟩, _, (hS.chg H.chg (by simp)).ld0 hp0 had, callV (head_spec _ _) ?_⟩⟩
    rintro e w3 ⟨rfl, H'⟩
    replace H := H.ext0 H'
    clear H'
    obtain ⟨i2, j2, m2, b2, ev2, g1, g2⟩ := headV_shape (headF l[0])
    have hfid : fid l = i2 := fid_head hp0 (fun h => (g1 h).1) (fun y hy => by have := (g2 y hy).1; rw [← this])
    refine ⟨i2, j2, m2, b2, by simp only [ev2], ?_⟩
    have bad : (¬ headF l[k] = some (fid l, k, l.length)) → ¬ good l := fun hb hgd => hb (hgd k _ hp)
    refine br_not (fun hb => .inr ⟨bad ?_, rfl, H.done⟩) (fun hb => ?_)
    · intro hh; have := (f2 _ hh).2; rw [hb] at this; cases this
    cases hh : headF l[k] with
    | none => have := (f1 hh).2; rw [hb] at this; cases this
    | some y =>
      obtain ⟨y1, y2⟩ := f2 y hh
      subst y1
      refine br_ndec (fun hi => .inr ⟨bad ?_, rfl, H.done⟩) (fun hi => br_ndec (fun hj => .inr ⟨bad ?_, rfl, H.done⟩) (fun hj => br_ndec (fun hm => .inr ⟨bad ?_, rfl, H.done⟩) (fun hm => ?_)))
      · rw [hh, Option.some.injEq, Prod.mk.injEq]; omega
      · rw [hh, Option.some.injEq, Prod.mk.injEq, Prod.mk.injEq]; omega
      · rw [hh, Option.some.injEq, Prod.mk.injEq, Prod.mk.injEq]; omega
      have hhl := headF_len hh
      have hsz : (ByteArray.mk l[k].toArray).size = l[k].length := by simp [ByteArray.size]
      have hext : (ByteArray.mk l[k].toArray).extract (Int.toNat 6) (ByteArray.mk l[k].toArray).size = ⟨(l[k].drop 6).toArray⟩ := by
        rw [hsz]
        rw [ext_mk, List.take_length]; rfl
      have hm' : m < 256 := hhl.2.2
      rw [hext]
      have hd : (l[k].drop 6).length = l[k].length - 6 := List.length_drop
      have hsz2 : (ByteArray.mk (l[k].drop 6).toArray).size = (l[k].drop 6).length := by simp [ByteArray.size]
      refine ⟨⟨by omega, by rw [hsz]; omega⟩, Hp.app elt53 (by omega) H (by exact ⟨rfl, rfl, rfl, rfl⟩) (Src.ofString _ und9 ⟨(l[k].drop 6).toArray⟩) (by omega) (by omega) ?_⟩
      clear H
      intro a5 c5 w5 H
      rw [byteCells_mk, ← bcells_append, hsz2, ← List.length_append] at H
      rw [hsz2, ← List.length_append]
      have ej : joinB (l.take (k + 1)) = joinB (l.take k) ++ l[k].drop 6 := by
        rw [List.take_succ_eq_append_getElem hkl, joinB, List.flatMap_append]
        simp [joinB]
      rw [← ej] at H ⊢
      refine ⟨inR64.2 (by omega), hnext (l.length - (k + 1)) _ _ (by omega) ⟨k + 1, a5, _, c5, rfl, rfl, by omega, rfl, ?_, by omega, ?_, H⟩⟩
      · rw [ej, List.length_append]; omega
      · intro j' s' hj' hs'
        by_cases hjk : j' = k
        · subst hjk
          rw [hp] at hs'; cases hs'
          rw [hh, Option.some.injEq, Prod.mk.injEq, Prod.mk.injEq]; omega
        · exact hg j' s' (by omega) hs'
  · have hkl : k = l.length := by omega
    subst hkl
    rw [List.take_length] at H h9 ⊢
    left
    refine ⟨fun j s hs => hg j s (List.getElem?_eq_some_iff.1 hs).1 hs, a', c', ?_, ?_, ?_, H⟩
    · have hd : decide ((0 : Int) < ((joinB l).length : Int)) = decide (0 < (joinB l).length) := decide_eq_decide.2 (by omega)
      rw [hd]
    · by_cases h0 : l.length = 0
      · omega
      · have := h256 (by omega); omega
    · by_cases h0 : l.length = 0
      · omega
      · exact h256 (by omega)
end Go.Proofs.Ytcgaobfbgfefhaa
