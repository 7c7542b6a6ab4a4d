/- Press: lists of texts in memory. -/
import Derived.Test.YtdpkamajecmebaaQb
import Derived.Test.YtdpkamajecmebaaQi
set_option linter.unusedVariables false
set_option linter.unusedSimpArgs false
set_option maxRecDepth 100000
namespace Go.Proofs.Ytdpkamajecmebaa
open Go Go.Vc Go.Vault Go.Redo Go.Press

theorem aggTx : Agg Go.Proofs.Try.prog 28 2 := agg_of (by kernel_rfl)
theorem eltTx : Elt Go.Proofs.Try.prog 22 28 2 32 := elt_of (by kernel_rfl)
theorem undTx : Go.Proofs.Try.prog.underlying 22 = some (.slice 28) := by kernel_rfl
def txC (t : Tx) : List Value := [.string t.1, .string t.2]
def txCs (l : List Tx) : List Value := l.flatMap txC
theorem txCs_append (a b : List Tx) : txCs (a ++ b) = txCs a ++ txCs b := by simp [txCs]
theorem txCs_at : ∀ {l : List Tx} {k : Nat} {t : Tx}, l[k]? = some t → (txCs l)[k * 2]? = some (.string t.1) ∧ (txCs l)[k * 2 + 1]? = some (.string t.2) ∧ ((txCs l).drop (k * 2)).take 2 = txC t
  | [], k, t, h => by simp at h
  | q :: r, 0, t, h => by
    simp at h; subst h
    exact ⟨rfl, rfl, rfl⟩
  | q :: r, k + 1, t, h => by
    rw [List.getElem?_cons_succ] at h
    obtain ⟨h1, h2, h3⟩ := txCs_at h
    have e : txCs (q :: r) = .string q.1 :: .string q.2 :: txCs r := rfl
    rw [e, show (k + 1) * 2 = k * 2 + 1 + 1 by omega]
    exact ⟨h1, h2, h3⟩
theorem txCs_len : ∀ l : List Tx, (txCs l).length = l.length * 2
  | [] => rfl
  | x :: r => by
    have := txCs_len r
    have e : txCs (x :: r) = .string x.1 :: .string x.2 :: txCs r := rfl
    rw [e, List.length_cons, List.length_cons, List.length_cons, this]; omega
theorem tx_some {w : World} {a : Option Addr} {l : List Tx} (h : Cells w a (txCs l)) {k : Nat} {t : Tx} (ht : l[k]? = some t) : ∃ ad, a = some ad := by
  obtain ⟨ad, ha, _⟩ := h _ _ (txCs_at ht).1
  exact ⟨ad, ha⟩
theorem filt_len (l : List Tx) (n : ByteArray) : (l.filter fun x => !decide (x.1 = n)).length ≤ l.length := List.length_filter_le _ _

theorem pfind_spec (a : Option Addr) (c : Nat) (l : List Tx) (n : ByteArray) (hl : l.length ≤ 1000000) (w : World) (hc : Cells w a (txCs l)) :
    Calls Go.Proofs.Try.prog 15 #[.slice a l.length c, .string n] w fun e w' => e = .returned (.tuple #[.string (findT l n).1, .bool (findT l n).2]) ∧ w' = w := by
  apply pfind.ok; unfold pfind.vc
  refine LoopP.mk (fun m s w' => ∃ k : Nat, m = l.length - k ∧ k ≤ l.length ∧ s = (k : Int) ∧ findT l n = findT (l.drop k) n ∧ w' = w) l.length ⟨0, rfl, by omega, rfl, rfl, rfl⟩ ?_
  rintro m s w1 next ⟨k, rfl, hk, rfl, hf, rfl⟩ hnext
  refine br_dec (fun h => ?_) (fun h => ?_)
  · have hkl : k < l.length := by omega
    have hg : l[k]? = some l[k] := List.getElem?_eq_getElem hkl
    obtain ⟨ad, ha⟩ := tx_some hc hg
    obtain ⟨h1, h2, h3⟩ := txCs_at hg
    rw [List.drop_eq_getElem_cons hkl, findT] at hf
    have e1 : Int.toNat (k : Int) * 2 = k * 2 := by omega
    refine onP_mk ha ⟨⟨by omega, by omega⟩, _, by rw [e1]; exact hc.ld sclStr ha h1, br_dec (fun h4 => ?_) (fun h4 => ?_)⟩
    · rw [if_pos h4] at hf
      refine onP_mk ha ⟨⟨by omega, by omega⟩, _, by rw [e1, add_add]; exact hc.ld sclStr ha h2, by rw [hf], rfl⟩
    · rw [if_neg h4] at hf
      exact ⟨inR64.2 (by omega), hnext (l.length - (k + 1)) _ _ (by omega) ⟨k + 1, rfl, by omega, by simp, hf, rfl⟩⟩
  · rw [List.drop_eq_nil_of_le (by omega)] at hf
    rw [hf]; exact ⟨rfl, rfl⟩
theorem pwith_spec (a : Option Addr) (c : Nat) (l : List Tx) (t : Tx) (hl : l.length ≤ 1000000) (w : World) (hc : Cells w a (txCs l)) :
    Calls Go.Proofs.Try.prog 12 #[.slice a l.length c, .agg #[.string t.1, .string t.2]] w fun e w' => ∃ a' c', e = .returned (.slice a' (withT l t).length c') ∧ Hp [] w w' [.own 28 2 a' (withT l t).length c' (txCs (withT l t))] := by
  apply pwith.ok; unfold pwith.vc
  have H := Hp.start w
  intro b w1 hn
  replace H := H.new (cs := [.string t.1, .string t.2]) (by exact ⟨rfl, rfl, rfl, rfl⟩) hn; clear hn
  replace H := (H.nilS 28 2)
  obtain ⟨fN, hfN⟩ : ∃ f : Tx → Bool, f = fun x => !decide (x.1 = t.1) := ⟨_, rfl⟩
  refine LoopP.mk (fun m s w' => ∃ (k : Nat) (a2 : Option Addr) (c2 : Nat), m = l.length - k ∧ k ≤ l.length ∧ s = ((a2, ((l.take k).filter fN).length, c2), (k : Int)) ∧ Hp [] w w' [.own 28 2 a2 ((l.take k).filter fN).length c2 (txCs ((l.take k).filter fN)), .blk b [.string t.1, .string t.2] 28]) l.length ⟨0, none, 0, rfl, by omega, by simp, by simpa [txCs] using H⟩ ?_
  clear H w1
  rintro m s w1 next ⟨k, a2, c2, rfl, hk, rfl, H⟩ hnext
  dsimp only
  have hle : ((l.take k).filter fN).length ≤ k := Nat.le_trans (List.length_filter_le _ _) (by rw [List.length_take]; omega)
  refine br_dec (fun h => ?_) (fun h => ?_)
  · have hkl : k < l.length := by omega
    have hg : l[k]? = some l[k] := List.getElem?_eq_getElem hkl
    have hc1 := hc.chg H.drew.chg (by simp)
    obtain ⟨ad, ha⟩ := tx_some hc hg
    obtain ⟨h1, h2, h3⟩ := txCs_at hg
    have hstep : (l.take (k + 1)).filter fN = ((l.take k).filter fN) ++ (if fN l[k] then [l[k]] else []) := by
      rw [List.take_succ_eq_append_getElem hkl, List.filter_append]
      congr 1
      rw [List.filter_cons]; rfl
    generalize ((l.take k).filter fN) = F at *
    have e1 : Int.toNat (k : Int) * 2 = k * 2 := by omega
    refine onP_mk ha ⟨⟨by omega, by omega⟩, _, by rw [e1]; exact hc1.ld sclStr ha h1, _, H.ld (cs := [.string t.1, .string t.2]) (by exact ⟨rfl, rfl, rfl, rfl⟩) sclStr (.tail _ (.head _)) rfl, br_not (fun h4 => ?_) (fun h4 => ?_)⟩
    · have hfk : fN l[k] = true := by rw [hfN]; simpa using h4
      rw [hfk, if_pos rfl] at hstep
      refine onP_mk ha ⟨⟨by omega, by omega⟩, _, _, by rw [e1]; exact hc1.ldA aggTx ha h3 rfl, ?_⟩
      intro b2 w2 hn
      replace H := H.drew.new (cs := txC l[k]) (by exact ⟨rfl, rfl, rfl, rfl⟩) hn; clear hn
      refine Hp.app eltTx (by omega) H.pull1 (by exact ⟨rfl, rfl, rfl, rfl⟩) (Blk.src (n := 1) undTx (H.blk (.head _)) (by simp [txC]) (by rfl)) (by simp only [maxLen]; omega) (by omega) ?_
      clear H; intro a5 c5 w5 H
      replace H := H.del1
      exact ⟨inR64.2 (by omega), hnext (l.length - (k + 1)) _ _ (by omega) ⟨k + 1, a5, c5, rfl, by omega, by rw [hstep, List.length_append]; rfl, by rw [hstep, List.length_append, txCs_append]; exact H⟩⟩
    · have hfk : fN l[k] = false := by rw [hfN]; simpa using h4
      rw [hfk, if_neg (by simp), List.append_nil] at hstep
      exact ⟨inR64.2 (by omega), hnext (l.length - (k + 1)) _ _ (by omega) ⟨k + 1, a2, c2, rfl, by omega, by rw [hstep]; rfl, by rw [hstep]; exact H.drew⟩⟩
  · have hkl : k = l.length := by omega
    subst hkl
    rw [List.take_length] at H hle ⊢
    have hw : withT l t = l.filter fN ++ [t] := by rw [withT, hfN]
    generalize l.filter fN = F at *
    refine ⟨_, _, H.ldA (cs := [.string t.1, .string t.2]) (by exact ⟨rfl, rfl, rfl, rfl⟩) aggTx (.tail _ (.head _)) rfl rfl, ?_⟩
    intro b2 w2 hn
    replace H := H.new (cs := txC t) (by exact ⟨rfl, rfl, rfl, rfl⟩) hn; clear hn
    refine Hp.app eltTx (by omega) H.pull1 (by exact ⟨rfl, rfl, rfl, rfl⟩) (Blk.src (n := 1) undTx (H.blk (.head _)) (by simp [txC]) (by rfl)) (by simp only [maxLen]; omega) (by omega) ?_
    clear H; intro a5 c5 w5 H
    rw [hw, List.length_append, txCs_append]
    exact ⟨a5, c5, rfl, H.takeL (L := [_])⟩
def sumT (l : List Tx) : Nat := (l.map fun t => t.2.size).sum
def fewT (l : List Tx) : Bool := decide (l.length ≤ 30 ∧ sumT l ≤ 30000)
theorem sumT_le {l : List Tx} {t : Tx} (h : t ∈ l) : t.2.size ≤ sumT l := by
  induction l with
  | nil => cases h
  | cons x r ih =>
    rw [sumT, List.map_cons, List.sum_cons]
    rcases List.mem_cons.1 h with rfl | h
    · omega
    · have := ih h; rw [sumT] at this; omega
theorem wrap_add (a b : Int) : IntKind.i64.wrap (IntKind.i64.wrap a + b) = IntKind.i64.wrap (a + b) := by
  rw [wrap64_def, wrap64_def, wrap64_def]
  split <;> split <;> split <;> omega
theorem sumT_max (l : List Tx) (h : ∀ t ∈ l, t.2.size ≤ reachBytes) : sumT l ≤ l.length * reachBytes := by
  induction l with
  | nil => simp [sumT]
  | cons x r ih =>
    have := ih fun t ht => h t (.tail _ ht)
    have h2 := h x (.head _)
    rw [sumT, List.map_cons, List.sum_cons, List.length_cons, Nat.add_mul]
    rw [sumT] at this
    omega
theorem few_spec (a : Option Addr) (c : Nat) (l : List Tx) (hl : l.length ≤ maxLen) (hs : ∀ t ∈ l, t.2.size ≤ reachBytes) (w : World) (hc : Cells w a (txCs l)) :
    Calls Go.Proofs.Try.prog 9 #[.slice a l.length c] w fun e w' => e = .returned (.bool (fewT l)) ∧ Hp [] w w' [] := by
  apply few.ok; unfold few.vc
  have hmax : maxLen = 9223372036854775807 := by simp [maxLen]
  have H := Hp.start w
  refine LoopP.mk (fun m s w' => ∃ k : Nat, m = l.length - k ∧ k ≤ l.length ∧ s = (IntKind.i64.wrap (sumT (l.take k) : Int), (k : Int)) ∧ Hp [] w w' []) l.length ⟨0, rfl, by omega, by simp [sumT]; rfl, H⟩ ?_
  clear H
  rintro m s w1 next ⟨k, rfl, hk, rfl, H⟩ hnext
  dsimp only
  refine br_dec (fun h => ?_) (fun h => ?_)
  · have hkl : k < l.length := by omega
    have hg : l[k]? = some l[k] := List.getElem?_eq_getElem hkl
    have hc1 := hc.chg H.chg (by simp)
    obtain ⟨ad, ha⟩ := tx_some hc hg
    obtain ⟨h1, h2, h3⟩ := txCs_at hg
    have e1 : Int.toNat (k : Int) * 2 = k * 2 := by omega
    refine onP_mk ha ⟨⟨by omega, by omega⟩, _, _, by rw [e1]; exact hc1.ldA aggTx ha h3 rfl, ?_⟩
    intro b2 w2 hn
    replace H := H.new (cs := [.string ⟨#[]⟩, .string ⟨#[]⟩]) (by exact ⟨rfl, rfl, rfl, rfl⟩) hn; clear hn
    refine Hp.stA H (by exact ⟨rfl, rfl, rfl, rfl⟩) aggTx (vs := txC l[k]) (cs' := txC l[k]) rfl rfl (by simp) rfl ?_
    clear H; intro w3 H
    refine ⟨_, H.ld (cs := txC l[k]) (by exact ⟨rfl, rfl, rfl, rfl⟩) sclStr (.head _) rfl, ?_⟩
    refine hnext (l.length - (k + 1)) _ _ (by omega) ⟨k + 1, rfl, by omega, ?_, H.done⟩
    have e2 : sumT (l.take (k + 1)) = sumT (l.take k) + l[k].2.size := by
      rw [List.take_succ_eq_append_getElem hkl, sumT, List.map_append, List.sum_append]; simp [sumT]
    rw [e2, wrap_add, wrap64_id (z := (k : Int) + 1) (by omega)]
    simp
  · have hkl : k = l.length := by omega
    subst hkl
    rw [List.take_length]
    unfold fewT
    refine br_dec (fun h2 => ?_) (fun h2 => ?_)
    · have h3 := sumT_max l hs
      have hr : reachBytes ≤ 281474976710656 := by decide
      have h4 : l.length * reachBytes ≤ 30 * 281474976710656 := Nat.mul_le_mul (by omega) hr
      rw [wrap64_id (by omega)]
      refine ⟨?_, H⟩
      congr 2
      rw [decide_eq_decide]
      omega
    · rw [decide_eq_false (fun h3 => h2 (by omega))]
      exact ⟨rfl, H⟩
theorem few_true {l : List Tx} (h : fewT l = true) : l.length ≤ 30 ∧ ∀ t ∈ l, t.2.size ≤ 30000 := by
  have := of_decide_eq_true h
  exact ⟨this.1, fun t ht => Nat.le_trans (sumT_le ht) this.2⟩
end Go.Proofs.Ytdpkamajecmebaa
