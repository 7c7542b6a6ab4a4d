/- Slate: the document's own page: 'Room', 'Get', 'without', 'with', 'Put', 'Insert', 'Delete', 'Do'. -/
import Derived.Test.YtiagjabdfppgkaaGreatZh
set_option linter.unusedVariables false
set_option linter.unusedSimpArgs false
set_option maxRecDepth 100000
namespace Go.Proofs.YtiagjabdfppgkaaGreat.Sl
open Go Go.Vc
theorem scl26 : Scl Tryz.prog 86 := scl_of (by kernel_rfl)
theorem agg28 : Agg Tryz.prog 88 2 := agg_of (by kernel_rfl)
theorem agg64 : Agg Tryz.prog 123 2 := agg_of (by kernel_rfl)
theorem agg43 : Agg Tryz.prog 47 4 := agg_of (by kernel_rfl)
theorem elt26 : Elt Tryz.prog 86 123 2 24 := elt_of (by kernel_rfl)
theorem und26 : Tryz.prog.underlying 86 = some (.slice 123) := by kernel_rfl

def recC (L : Recs) : List Value := L.flatMap fun p => [.int .i64 (p.1 : Int), sv p.2]
theorem recC_append (x y : Recs) : recC (x ++ y) = recC x ++ recC y := by simp [recC]
theorem recC_len (L : Recs) : (recC L).length = 2 * L.length := by
  induction L with
  | nil => rfl
  | cons p r ih =>
    show (([Value.int .i64 (p.1 : Int), sv p.2] : List Value) ++ recC r).length = _
    rw [List.length_append, ih]; simp; omega
theorem recC_drop (L : Recs) (k : Nat) : (recC L).drop (2 * k) = recC (L.drop k) := by
  by_cases hk : k ≤ L.length
  · conv => lhs; rw [← List.take_append_drop k L, recC_append]
    exact drop_left _ _ _ (by rw [recC_len, List.length_take]; omega)
  · rw [List.drop_eq_nil_of_le (by rw [recC_len]; omega), List.drop_eq_nil_of_le (by omega)]; rfl
theorem recC_two {L : Recs} {k : Nat} (h : k < L.length) : ((recC L).drop (2 * k)).take 2 = [.int .i64 ((L[k]).1 : Int), sv (L[k]).2] := by
  rw [recC_drop, List.drop_eq_getElem_cons h]; rfl
theorem recC_0 {L : Recs} {k : Nat} (h : k < L.length) : (recC L)[2 * k]? = some (.int .i64 ((L[k]).1 : Int)) := by
  have := recC_two h
  have h2 : ((recC L).drop (2 * k))[0]? = some (.int .i64 ((L[k]).1 : Int)) := by
    rw [recC_drop, List.drop_eq_getElem_cons h]; rfl
  simpa using h2
theorem recC_1 {L : Recs} {k : Nat} (h : k < L.length) : (recC L)[2 * k + 1]? = some (sv (L[k]).2) := by
  have h2 : ((recC L).drop (2 * k))[1]? = some (sv (L[k]).2) := by
    rw [recC_drop, List.drop_eq_getElem_cons h]; rfl
  simpa using h2
/-- what the document's page keeps to -/
structure RP (L : Recs) : Prop where
  sorted : L.Pairwise fun a b => a.1 < b.1
  len : L.length ≤ 120
  small : tot L ≤ 3600
theorem Rep.rp {g : Pg} {L : Recs} {stamp : Nat} (h : Rep g L stamp) : RP L := ⟨h.sorted, by
    have := live_len g g.many
    rw [h.live_eq, List.length_map] at this
    have := h.ok.many
    omega, h.small⟩
theorem RP.wo {L : Recs} (h : RP L) (k : Nat) : RP (wo L k) := ⟨h.sorted.filter _, by have := List.length_filter_le (fun p : Nat × List UInt8 => p.1 != k) L; have := h.len; show (List.filter _ L).length ≤ 120; omega, by have := tot_sub L (fun p => p.1 != k); have := h.small; show tot (List.filter _ L) ≤ 3600; omega⟩
/-- a page's records in memory of one's own -/
def pO (a : Option Addr) (c : Nat) (L : Recs) : Asn := .own 123 2 a L.length c (recC L)
theorem lk_drop {L : Recs} {k : Nat} (h : k < L.length) (i : Int) : lk (L.drop k) i = if ((L[k]).1 : Int) = i then some (L[k]).2 else lk (L.drop (k + 1)) i := by
  unfold lk
  rw [List.drop_eq_getElem_cons h, List.find?_cons]
  split
  · rename_i h1
    rw [if_pos (by simpa using h1)]; rfl
  · rename_i h1
    rw [if_neg (by simpa using h1)]

section
variable {w : World} {L : Recs} {a : Option Addr} {n c : Nat}
theorem recC_ne {k : Nat} (h : k < L.length) : recC L ≠ [] := by
  intro e
  have := recC_len L
  rw [e] at this
  simp at this; omega

theorem rget_spec (hL : L.length ≤ 120) (h : Cells w a (recC L)) (st k : Int) :
    Calls Tryz.prog 90 #[.agg #[.slice a L.length c, .int .i64 st], .int .i64 k] w fun e w' => e = .returned (.tuple #[sv ((lk L k).getD []), .bool (lk L k).isSome]) ∧ Hp [] w w' [] := by
  apply rget.ok
  unfold rget.vc
  have H := Hp.start w
  (intro _ _ hn; replace H := H.new (by exact ⟨rfl, rfl, rfl, rfl⟩) hn; clear hn)
  rename_i b _
  refine LoopP.mk (fun m s w' => ∃ j : Nat, m = L.length - j ∧ j ≤ L.length ∧ s = (j : Int) ∧ lk L k = lk (L.drop j) k ∧ Hp [] w w' [.blk b [.slice a L.length c, .int .i64 st] 88]) L.length ⟨0, rfl, Nat.zero_le _, rfl, rfl, H⟩ ?_
  clear H
  rintro m s w' next ⟨j, rfl, hj, rfl, he, H⟩ hnext
  ((repeat apply Exists.intro); first | refine ⟨H.ld (by exact ⟨rfl, rfl, rfl, rfl⟩) (by first | exact scl3 | exact scl9 | exact scl26) (by repeat first | exact .head _ | refine .tail _ ?_) rfl, ?_⟩ | refine ⟨H.ldA (by exact ⟨rfl, rfl, rfl, rfl⟩) (by first | exact agg28 | exact agg43 | exact agg64) (by repeat first | exact .head _ | refine .tail _ ?_) rfl rfl, ?_⟩)
  refine br_dec (fun h1 => ?_) (fun h1 => ?_)
  · have hj' : j < L.length := by omega
    obtain ⟨ad, ha⟩ := h.some (recC_ne hj')
    have e1 : Int.toNat (j : Int) * 2 = 2 * j := by omega
    have hd := lk_drop hj' k
    ((repeat apply Exists.intro); first | refine ⟨H.ld (by exact ⟨rfl, rfl, rfl, rfl⟩) (by first | exact scl3 | exact scl9 | exact scl26) (by repeat first | exact .head _ | refine .tail _ ?_) rfl, ?_⟩ | refine ⟨H.ldA (by exact ⟨rfl, rfl, rfl, rfl⟩) (by first | exact agg28 | exact agg43 | exact agg64) (by repeat first | exact .head _ | refine .tail _ ?_) rfl rfl, ?_⟩)
    refine onP_mk ha ⟨⟨by omega, h1⟩, _, by rw [e1]; exact (h.chg H.chg (by simp)).ld scl3 ha (recC_0 hj'), ?_⟩
    refine br_dec (fun h2 => ?_) (fun h2 => ?_)
    · rw [if_pos h2] at hd
      rw [he, hd]
      ((repeat apply Exists.intro); first | refine ⟨H.ld (by exact ⟨rfl, rfl, rfl, rfl⟩) (by first | exact scl3 | exact scl9 | exact scl26) (by repeat first | exact .head _ | refine .tail _ ?_) rfl, ?_⟩ | refine ⟨H.ldA (by exact ⟨rfl, rfl, rfl, rfl⟩) (by first | exact agg28 | exact agg43 | exact agg64) (by repeat first | exact .head _ | refine .tail _ ?_) rfl rfl, ?_⟩)
      refine onP_mk ha ⟨⟨by omega, h1⟩, _, by rw [e1, add_add]; exact (h.chg H.chg (by simp)).ld scl9 ha (recC_1 hj'), ?_⟩
      exact ⟨rfl, H.done⟩
    · rw [if_neg h2] at hd
      exact ⟨inR64.2 (by omega), hnext (L.length - (j + 1)) _ _ (by omega) ⟨j + 1, rfl, by omega, by omega, by rw [he, hd], H⟩⟩
  · have hj' : j = L.length := by omega
    rw [he, hj', List.drop_length]
    exact ⟨rfl, H.done⟩

theorem rroom_spec (hL : L.length ≤ 120) (ht : tot L ≤ 9000000000000000) (h : Cells w a (recC L)) (st : Int) :
    Calls Tryz.prog 76 #[.agg #[.slice a L.length c, .int .i64 st]] w fun e w' => e = .returned (.int .i64 (3600 - (tot L : Int))) ∧ Hp [] w w' [] := by
  apply rroom.ok
  unfold rroom.vc
  have H := Hp.start w
  (intro _ _ hn; replace H := H.new (by exact ⟨rfl, rfl, rfl, rfl⟩) hn; clear hn)
  rename_i b _
  refine LoopP.mk (fun m s w' => ∃ j : Nat, m = L.length - j ∧ j ≤ L.length ∧ s = (3600 - (tot (L.take j) : Int), (j : Int)) ∧ Hp [] w w' [.blk b [.slice a L.length c, .int .i64 st] 88]) L.length ⟨0, rfl, Nat.zero_le _, rfl, H⟩ ?_
  clear H
  rintro m s w' next ⟨j, rfl, hj, rfl, H⟩ hnext
  ((repeat apply Exists.intro); first | refine ⟨H.ld (by exact ⟨rfl, rfl, rfl, rfl⟩) (by first | exact scl3 | exact scl9 | exact scl26) (by repeat first | exact .head _ | refine .tail _ ?_) rfl, ?_⟩ | refine ⟨H.ldA (by exact ⟨rfl, rfl, rfl, rfl⟩) (by first | exact agg28 | exact agg43 | exact agg64) (by repeat first | exact .head _ | refine .tail _ ?_) rfl rfl, ?_⟩)
  refine br_dec (fun h1 => ?_) (fun h1 => ?_)
  · have hj' : j < L.length := by have h9 : (j : Int) < (L.length : Int) := h1; omega
    obtain ⟨ad, ha⟩ := h.some (recC_ne hj')
    have e1 : Int.toNat (j : Int) * 2 = 2 * j := by omega
    have e2 : tot (L.take (j + 1)) = tot (L.take j) + (L[j]).2.length := by
      rw [List.take_succ_eq_append_getElem hj', tot_append]; simp [tot]
    have e3 : tot (L.take (j + 1)) ≤ tot L := by
      conv => rhs; rw [← List.take_append_drop (j + 1) L, tot_append]
      omega
    ((repeat apply Exists.intro); first | refine ⟨H.ld (by exact ⟨rfl, rfl, rfl, rfl⟩) (by first | exact scl3 | exact scl9 | exact scl26) (by repeat first | exact .head _ | refine .tail _ ?_) rfl, ?_⟩ | refine ⟨H.ldA (by exact ⟨rfl, rfl, rfl, rfl⟩) (by first | exact agg28 | exact agg43 | exact agg64) (by repeat first | exact .head _ | refine .tail _ ?_) rfl rfl, ?_⟩)
    refine onP_mk ha ⟨⟨by simp only; omega, h1⟩, _, by rw [e1, add_add]; exact (h.chg H.chg (by simp)).ld scl9 ha (recC_1 hj'), ?_⟩
    rw [mk_size]
    simp only
    refine ⟨inR64.2 (by omega), inR64.2 (by omega), hnext (L.length - (j + 1)) _ _ (by omega) ⟨j + 1, rfl, by omega, ?_, H⟩⟩
    rw [e2]
    refine Prod.ext ?_ ?_ <;> simp only <;> omega
  · have hj' : j = L.length := by have h9 : ¬ (j : Int) < (L.length : Int) := h1; omega
    rw [hj', List.take_length]
    exact ⟨rfl, H.done⟩

theorem without_spec (hL : L.length ≤ 120) (h : Cells w a (recC L)) (K : Nat) :
    Calls Tryz.prog 75 #[.slice a L.length c, .int .i64 (K : Int)] w fun e w' => ∃ a' c', e = .returned (.slice a' (wo L K).length c') ∧ Hp [] w w' [pO a' c' (wo L K)] := by
  apply without.ok
  unfold without.vc
  have H := Hp.start w
  have hmax : maxLen = 9223372036854775807 := by simp [maxLen]
  refine LoopP.mk (fun m s w' => ∃ (j : Nat) (a' : Option Addr) (c' : Nat), m = L.length - j ∧ j ≤ L.length ∧ s = ((a', (wo (L.take j) K).length, c'), (j : Int)) ∧ Hp [] w w' [pO a' c' (wo (L.take j) K)]) L.length ⟨0, none, 0, rfl, Nat.zero_le _, rfl, H.nilS 123 2⟩ ?_
  clear H
  rintro m s w' next ⟨j, a', c', rfl, hj, rfl, H⟩ hnext
  refine br_dec (fun h1 => ?_) (fun h1 => ?_)
  · have hj' : j < L.length := by have h9 : (j : Int) < (L.length : Int) := h1; omega
    obtain ⟨ad, ha⟩ := h.some (recC_ne hj')
    have e1 : Int.toNat (j : Int) * 2 = 2 * j := by omega
    have e2 : wo (L.take (j + 1)) K = wo (L.take j) K ++ wo [L[j]] K := by
      rw [List.take_succ_eq_append_getElem hj']; exact List.filter_append _ _
    have hlen : (wo (L.take j) K).length ≤ j := by
      have := List.length_filter_le (fun p : Nat × List UInt8 => p.1 != K) (L.take j)
      rw [List.length_take] at this
      show (List.filter _ _).length ≤ j; omega
    refine onP_mk ha ⟨⟨by simp only; omega, h1⟩, _, by rw [e1]; exact (h.chg H.chg (by simp)).ld scl3 ha (recC_0 hj'), ?_⟩
    refine br_ndec (fun h2 => ?_) (fun h2 => ?_)
    · have h2' : (L[j]).1 ≠ K := fun e => h2 (by rw [e])
      have e3 : wo [L[j]] K = [L[j]] := by simp [wo, h2']
      refine onP_mk ha ⟨⟨by simp only; omega, h1⟩, _, _, by rw [e1]; exact (h.chg H.chg (by simp)).ldA agg64 ha (recC_two hj') rfl, ?_⟩
      (intro _ _ hn; replace H := H.new (by exact ⟨rfl, rfl, rfl, rfl⟩) hn; clear hn)
      refine Hp.app elt26 (by omega) H.pull1 (by exact ⟨rfl, rfl, rfl, rfl⟩) (Blk.src (n := 1) und26 (H.blk (.head _)) rfl rfl) (by simp only; omega) (by simp only; omega) ?_
      clear H
      intro a6 c6 w6 H
      have H : Hp [] w w6 [.own 123 2 a6 ((wo (L.take j) K).length + 1) c6 (recC (wo (L.take j) K) ++ recC [L[j]]), .blk _ _ _] := H
      rw [← e3, ← recC_append, ← e2] at H
      have el : (wo (L.take j) K).length + 1 = (wo (L.take (j + 1)) K).length := by rw [e2, e3]; simp
      rw [el] at H ⊢
      exact ⟨inR64.2 (by dsimp only; omega), hnext (L.length - (j + 1)) _ _ (by omega) ⟨j + 1, a6, c6, rfl, by omega, rfl, H.del1⟩⟩
    · have h2' : (L[j]).1 = K := by have h9 : ((L[j]).1 : Int) = (K : Int) := h2; omega
      have e3 : wo [L[j]] K = [] := by simp [wo, h2']
      rw [e3, List.append_nil] at e2
      rw [← e2] at H ⊢
      exact ⟨inR64.2 (by dsimp only; omega), hnext (L.length - (j + 1)) _ _ (by omega) ⟨j + 1, a', c', rfl, by omega, rfl, H⟩⟩
  · have hj' : j = L.length := by have h9 : ¬ (j : Int) < (L.length : Int) := h1; omega
    rw [hj', List.take_length] at H ⊢
    exact ⟨a', c', rfl, H⟩

theorem insR_len (x : Nat × List UInt8) (L : Recs) : (insR x L).length = L.length + 1 := (insR_perm x L).length_eq
theorem rwith_spec (hL : L.length ≤ 120) (h : Cells w a (recC L)) (K : Nat) (s : List UInt8) :
    Calls Tryz.prog 77 #[.slice a L.length c, .agg #[.int .i64 (K : Int), sv s]] w fun e w' => ∃ a' c', e = .returned (.slice a' (insR (K, s) L).length c') ∧ Hp [] w w' [pO a' c' (insR (K, s) L)] := by
  apply rwith.ok
  unfold rwith.vc
  have H := Hp.start w
  have hmax : maxLen = 9223372036854775807 := by simp [maxLen]
  (intro _ _ hn; replace H := H.new (by exact ⟨rfl, rfl, rfl, rfl⟩) hn; clear hn)
  rename_i b _
  refine LoopP.mk (fun m s' w' => ∃ (j : Nat) (o : Recs) (dn : Bool) (a' : Option Addr) (c' : Nat), m = L.length - j ∧ j ≤ L.length ∧ o.length ≤ j + dn.toNat ∧ insR (K, s) L = o ++ (if dn then L.drop j else insR (K, s) (L.drop j)) ∧ s' = ((a', o.length, c'), dn, (j : Int)) ∧ Hp [] w w' [pO a' c' o, .blk b [.int .i64 (K : Int), sv s] 123]) L.length ⟨0, [], false, none, 0, rfl, Nat.zero_le _, by simp, rfl, rfl, H.nilS 123 2⟩ ?_
  clear H
  rintro m s' w' next ⟨j, o, dn, a', c', rfl, hj, ho, hins, rfl, H⟩ hnext
  have hdn : dn.toNat ≤ 1 := by cases dn <;> decide
  -- one record is laid behind what is there
  have step : ∀ (w' : World) (a' : Option Addr) (c' : Nat) (o : Recs) (i : Nat) (t : List UInt8) {G : Option Addr → Nat → Nat → World → Prop}, o.length ≤ 130 → Hp [] w w' [pO a' c' o, .blk b [.int .i64 (K : Int), sv s] 123] →
      (∀ a6 c6 w6, Hp [] w w6 [pO a6 c6 (o ++ [(i, t)]), .blk b [.int .i64 (K : Int), sv s] 123] → G a6 (o ++ [(i, t)]).length c6 w6) →
      ∀ (b5 : Nat) (w5 : World), New w' (.cells #[.int .i64 (i : Int), sv t] 123) b5 w5 → ∃ a n m w1, App Tryz.prog #[86, 86] 86 w5 (.slice a' o.length c') (.slice (some ⟨b5, 0, none⟩) 1 1) (.slice a n m) w1 ∧ G a n m w1 := by
    clear H hins ho hnext hj
    intro w' a' c' o i t G ho H hG
    (intro _ _ hn; replace H := H.new (by exact ⟨rfl, rfl, rfl, rfl⟩) hn; clear hn)
    rename_i b5 _
    refine Hp.app elt26 (by omega) H.pull1 (by exact ⟨rfl, rfl, rfl, rfl⟩) (Blk.src (n := 1) und26 (H.blk (.head _)) rfl rfl) (by omega) (by omega) ?_
    clear H
    intro a6 c6 w6 H
    have H : Hp [] w w6 [.own 123 2 a6 (o.length + 1) c6 (recC o ++ recC [(i, t)]), .blk b5 _ _, .blk b _ _] := H
    have el : o.length + 1 = (o ++ [(i, t)]).length := by simp
    rw [← recC_append, el] at H
    rw [el]
    exact hG a6 c6 w6 H.del1
  refine br_dec (fun h1 => ?_) (fun h1 => ?_)
  · have hj' : j < L.length := by have h9 : (j : Int) < (L.length : Int) := h1; omega
    obtain ⟨ad, ha⟩ := h.some (recC_ne hj')
    have e1 : Int.toNat (j : Int) * 2 = 2 * j := by omega
    have ed := List.drop_eq_getElem_cons hj'
    have einR : insR (K, s) (L.drop j) = if K < (L[j]).1 then (K, s) :: L[j] :: L.drop (j + 1) else L[j] :: insR (K, s) (L.drop (j + 1)) := by rw [ed]; rfl
    refine JoinP.mk (fun sb w2 => sb = (!dn && decide (K < (L[j]).1)) ∧ Hp [] w w2 [pO a' c' o, .blk b [.int .i64 (K : Int), sv s] 123]) ?_ ?_
    · clear H
      rintro sb w2 ⟨rfl, H⟩
      refine br_mk (fun hb => ?_) (fun hb => ?_)
      · simp only [Bool.and_eq_true, Bool.not_eq_true', decide_eq_true_eq] at hb
        obtain ⟨rfl, hb⟩ := hb
        rw [if_pos hb] at einR
        simp only [Bool.false_eq_true, if_false, einR] at hins
        refine ⟨_, _, H.ldA (by exact ⟨rfl, rfl, rfl, rfl⟩) agg64 (.tail _ (.head _)) rfl rfl, ?_⟩
        refine step w2 a' c' o K s (by omega) H ?_
        clear H
        intro a6 c6 w6 H
        refine onP_mk ha ⟨⟨by simp only; omega, h1⟩, _, _, by rw [e1]; exact (h.chg H.chg (by simp)).ldA agg64 ha (recC_two hj') rfl, ?_⟩
        refine step w6 a6 c6 _ _ _ (by simp; omega) H ?_
        clear H
        intro a7 c7 w7 H
        refine ⟨inR64.2 (by dsimp only; omega), hnext (L.length - (j + 1)) _ _ (by omega) ⟨j + 1, _, true, a7, c7, rfl, by omega, by simp at ho ⊢; omega, ?_, rfl, H⟩⟩
        rw [hins]; simp; exact ed
      · refine onP_mk ha ⟨⟨by simp only; omega, h1⟩, _, _, by rw [e1]; exact (h.chg H.chg (by simp)).ldA agg64 ha (recC_two hj') rfl, ?_⟩
        refine step w2 a' c' o _ _ (by omega) H ?_
        clear H
        intro a7 c7 w7 H
        refine ⟨inR64.2 (by dsimp only; omega), hnext (L.length - (j + 1)) _ _ (by omega) ⟨j + 1, _, dn, a7, c7, rfl, by omega, by simp; omega, ?_, rfl, H⟩⟩
        rw [hins]
        cases dn with
        | true => simp; exact ed
        | false =>
          simp only [Bool.not_false, Bool.true_and, decide_eq_false_iff_not] at hb
          rw [if_neg hb] at einR
          simp [einR]
    · intro J hJ
      refine br_not (fun hd => ?_) (fun hd => ?_)
      · have hd' : dn = false := hd
        subst hd'
        refine onP_mk ha ⟨⟨by simp only; omega, h1⟩, _, by rw [e1]; exact (h.chg H.drew.chg (by simp)).ld scl3 ha (recC_0 hj'), ?_⟩
        refine ⟨_, H.ld (by exact ⟨rfl, rfl, rfl, rfl⟩) scl3 (.tail _ (.head _)) rfl, hJ _ _ ⟨?_, H.drew⟩⟩
        simp only [Bool.not_false, Bool.true_and, decide_eq_decide]; omega
      · have hd' : dn = true := hd
        subst hd'
        exact hJ _ _ ⟨rfl, H.drew⟩
  · have hj' : j = L.length := by have h9 : ¬ (j : Int) < (L.length : Int) := h1; omega
    rw [hj', List.drop_length] at hins
    refine br_not (fun hd => ?_) (fun hd => ?_)
    · have hd' : dn = false := hd
      subst hd'
      refine ⟨_, _, H.ldA (by exact ⟨rfl, rfl, rfl, rfl⟩) agg64 (.tail _ (.head _)) rfl rfl, ?_⟩
      refine step w' a' c' o K s (by omega) H ?_
      clear H
      intro a6 c6 w6 H
      have e : insR (K, s) L = o ++ [(K, s)] := hins
      rw [e]
      exact ⟨a6, c6, rfl, H.done1⟩
    · have hd' : dn = true := hd
      subst hd'
      have e : insR (K, s) L = o := by rw [hins]; simp
      rw [e]
      exact ⟨a', c', rfl, H.done1⟩
end
end Go.Proofs.YtiagjabdfppgkaaGreat.Sl
