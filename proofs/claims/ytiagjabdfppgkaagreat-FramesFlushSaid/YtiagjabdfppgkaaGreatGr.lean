/- Frames: the document's pool in memory, and its calls. -/
import Derived.Test.YtiagjabdfppgkaaGreatGd
set_option linter.unusedVariables false
set_option linter.unusedSimpArgs false
set_option maxRecDepth 100000
namespace Go.Vc
theorem Blk.own {w : World} {b : Nat} {cs : List Value} {e : TypeId} {sz n : Nat} (h : Blk w b cs e) (hl : cs.length = n * sz) (hn : n ≤ maxLen) : Own w 0 e sz (some ⟨b, 0, none⟩) n n cs :=
  ⟨hl, .inr ⟨b, cs.toArray, (0, 0), rfl, Nat.zero_le _, h, Thaw.zero _, Nat.le_refl _, hn, by simpa using hl, by simp [← hl]⟩⟩
theorem Hp.toOwn {B : List Nat} {w0 w : World} {L : List Asn} {b : Nat} {cs : List Value} {e : TypeId} {sz n : Nat} (H : Hp B w0 w (.blk b cs e :: L)) (hl : cs.length = n * sz) (hn : n ≤ maxLen) : Hp B w0 w (.own e sz (some ⟨b, 0, none⟩) n n cs :: L) :=
  H.set (Chg.refl _ _) (Blk.own (H.blk (.head _)) hl hn) (fun k hk => .inl (by simpa [Asn.foot, blks] using hk))
end Go.Vc
namespace Go.Proofs.YtiagjabdfppgkaaGreat
open Go Go.Vc Go.Vault

theorem gSRP : Scl Tryz.prog 28 := scl_of (by kernel_rfl)
theorem gaggRP : Agg Tryz.prog 30 3 := agg_of (by kernel_rfl)
theorem gaggRG : Agg Tryz.prog 88 2 := agg_of (by kernel_rfl)
theorem gaggO11 : Agg Tryz.prog 47 4 := agg_of (by kernel_rfl)
theorem gaggO12 : Agg Tryz.prog 49 9 := agg_of (by kernel_rfl)
theorem geltRG : Elt Tryz.prog 28 88 2 32 := elt_of (by kernel_rfl)
theorem gundRG : Tryz.prog.underlying 28 = some (.slice 88) := by kernel_rfl
theorem gzInt : zeroOf Tryz.prog 3 = some (.int .i64 0) := by kernel_rfl
theorem gzRG : zeroOf Tryz.prog 88 = some (.agg #[.slice none 0 0, .int .i64 0]) := by kernel_rfl

/-! ### Rows of twelve -/
theorem range_split {n k : Nat} (h : k < n) : List.range n = List.range k ++ k :: List.range' (k + 1) (n - k - 1) := by
  rw [List.range_eq_range', List.range_eq_range']
  have e1 : List.range' 0 n = List.range' 0 k ++ List.range' k (n - k) := by
    have := List.range'_append (s := 0) (m := k) (n := n - k) (step := 1)
    rw [show k + (n - k) = n by omega, show 0 + 1 * k = k by omega] at this
    exact this.symm
  rw [e1]
  congr 1
  have e2 : n - k = (n - k - 1) + 1 := by omega
  rw [e2, List.range'_succ]
  congr 1
def restR {α : Type} (f : Nat → α) (k : Nat) : List α := (List.range k).map f ++ (List.range' (k + 1) (12 - k - 1)).map f
theorem row_split {α : Type} (f : Nat → α) {k : Nat} (h : k < 12) : (List.range 12).map f = (List.range k).map f ++ f k :: (List.range' (k + 1) (12 - k - 1)).map f := by
  rw [range_split h]; simp
theorem row_perm {k : Nat} (h : k < 12) (f : Nat → Asn) : ((List.range 12).map f).Perm (f k :: restR f k) := by
  rw [row_split f h]; exact List.perm_middle
theorem rest_congr {α : Type} {f f' : Nat → α} {k : Nat} (h : ∀ n, n ≠ k → f n = f' n) : restR f k = restR f' k := by
  unfold restR
  congr 1
  · exact List.map_congr_left fun n hn => h n (by have := List.mem_range.1 hn; omega)
  · exact List.map_congr_left fun n hn => h n (by have := List.mem_range'_1.1 hn; omega)
theorem flat_len2 {f : Nat → List Value} {m : Nat} (hf : ∀ n, (f n).length = m) : ∀ l : List Nat, (l.flatMap f).length = m * l.length
  | [] => by simp
  | a :: r => by rw [List.flatMap_cons, List.length_append, hf, flat_len2 hf r, List.length_cons, Nat.mul_succ]; omega
theorem flat_split {f : Nat → List Value} {k : Nat} (h : k < 12) : (List.range 12).flatMap f = (List.range k).flatMap f ++ (f k ++ (List.range' (k + 1) (12 - k - 1)).flatMap f) := by
  rw [range_split h]; simp
theorem flat_at {f : Nat → List Value} {m k : Nat} (hf : ∀ n, (f n).length = m) (h : k < 12) : (((List.range 12).flatMap f).drop (k * m)).take m = f k := by
  have e : k * m = ((List.range k).flatMap f).length := by rw [flat_len2 hf, List.length_range, Nat.mul_comm]
  rw [flat_split h, e, List.drop_left, List.take_append_of_le_length (by rw [hf]; exact Nat.le_refl _), List.take_of_length_le (by rw [hf]; exact Nat.le_refl _)]
theorem flat_over {f f' : Nat → List Value} {m k : Nat} (hf : ∀ n, (f n).length = m) (hf' : ∀ n, (f' n).length = m) (h : k < 12) (he : ∀ n, n ≠ k → f n = f' n) : over (f' k) (k * m) ((List.range 12).flatMap f) = (List.range 12).flatMap f' := by
  have e : k * m = ((List.range k).flatMap f).length := by rw [flat_len2 hf, List.length_range, Nat.mul_comm]
  rw [flat_split h, e, over_app _ _ _ _ (by rw [hf', hf]), flat_split (f := f') h]
  have e1 : (List.range k).flatMap f = (List.range k).flatMap f' := by
    rw [List.flatMap_def, List.flatMap_def]; congr 1
    exact List.map_congr_left fun n hn => he n (by have := List.mem_range.1 hn; omega)
  have e2 : (List.range' (k + 1) (12 - k - 1)).flatMap f = (List.range' (k + 1) (12 - k - 1)).flatMap f' := by
    rw [List.flatMap_def, List.flatMap_def]; congr 1
    exact List.map_congr_left fun n hn => he n (by have := List.mem_range'_1.1 hn; omega)
  rw [e1, e2]

structure RW where
  pa : Option Addr
  pc : Nat
  qa : Option Addr
  qc : Nat
  rs : Nat → Option Addr × Nat
def pgF (rs : Nat → Option Addr × Nat) (pg : Nat → AP) (n : Nat) : List Value := [.slice (rs n).1 (pg n).1.length (rs n).2, .int .i64 ((pg n).2 : Int)]
def pgC (rs : Nat → Option Addr × Nat) (pg : Nat → AP) : List Value := (List.range 12).flatMap (pgF rs pg)
def pinC (pin : Nat → Nat) : List Value := (List.range 12).map fun n => .int .i64 (pin n : Int)
def rfV (z : RW) (many : Nat) : Value := .agg #[.slice z.pa 12 z.pc, .slice z.qa 12 z.qc, .int .i64 (many : Int)]
def recF (rs : Nat → Option Addr × Nat) (pg : Nat → AP) (n : Nat) : Asn := Sl.pO (rs n).1 (rs n).2 (pg n).1
def rfP (z : RW) (pg : Nat → AP) : Asn := .own 88 2 z.pa 12 z.pc (pgC z.rs pg)
def rfQ (z : RW) (pin : Nat → Nat) : Asn := .own 3 1 z.qa 12 z.qc (pinC pin)
def rfL (z : RW) (pg : Nat → AP) (pin : Nat → Nat) : List Asn := rfP z pg :: rfQ z pin :: (List.range 12).map (recF z.rs pg)
theorem pgF_len (rs : Nat → Option Addr × Nat) (pg : Nat → AP) (n : Nat) : (pgF rs pg n).length = 2 := rfl
theorem pgC_at (rs : Nat → Option Addr × Nat) (pg : Nat → AP) {k : Nat} (h : k < 12) : ((pgC rs pg).drop (k * 2)).take 2 = pgF rs pg k := flat_at (pgF_len rs pg) h
theorem pgC_len (rs : Nat → Option Addr × Nat) (pg : Nat → AP) : (pgC rs pg).length = 24 := flat_len2 (pgF_len rs pg) _
theorem pinC_at (pin : Nat → Nat) {k : Nat} (h : k < 12) : (pinC pin)[k]? = some (.int .i64 (pin k : Int)) := by simp [pinC, h]
theorem pinC_len (pin : Nat → Nat) : (pinC pin).length = 12 := by simp [pinC]
theorem pinC_set (pin : Nat → Nat) {k : Nat} (h : k < 12) (p : Nat) : (pinC pin).set k (.int .i64 (p : Int)) = pinC (upd pin k p) := by
  apply List.ext_getElem?
  intro i
  rw [List.getElem?_set, pinC_len]
  by_cases hi : k = i
  · subst hi
    rw [if_pos rfl, if_pos h, pinC_at _ h, upd_self]
  · rw [if_neg hi]
    by_cases h2 : i < 12
    · rw [pinC_at _ h2, pinC_at _ h2, upd_ne _ _ (Ne.symm hi)]
    · rw [List.getElem?_eq_none (by rw [pinC_len]; omega), List.getElem?_eq_none (by rw [pinC_len]; omega)]
theorem pgC_over (rs : Nat → Option Addr × Nat) (pg : Nat → AP) {k : Nat} (h : k < 12) (r : Option Addr × Nat) (P : AP) : over [.slice r.1 P.1.length r.2, .int .i64 (P.2 : Int)] (k * 2) (pgC rs pg) = pgC (upd rs k r) (upd pg k P) := by
  have := flat_over (f := pgF rs pg) (f' := pgF (upd rs k r) (upd pg k P)) (pgF_len _ _) (pgF_len _ _) h (fun n hn => by simp only [pgF, upd_ne _ _ hn])
  simp only [pgF, upd_self] at this
  exact this
theorem pinC_one (pin : Nat → Nat) : ∀ u ∈ pinC pin, u.oneCell' = true := fun u hu => by
  obtain ⟨_, _, rfl⟩ := List.mem_map.1 hu; rfl
theorem pgC_one (rs : Nat → Option Addr × Nat) (pg : Nat → AP) : ∀ u ∈ pgC rs pg, u.oneCell' = true := fun u hu => by
  obtain ⟨n, _, h⟩ := List.mem_flatMap.1 hu
  simp only [pgF, List.mem_cons, List.not_mem_nil, or_false] at h
  rcases h with rfl | rfl <;> rfl
theorem mem_rec {z : RW} {pg : Nat → AP} {pin : Nat → Nat} {k : Nat} (h : k < 12) : recF z.rs pg k ∈ rfL z pg pin := .tail _ (.tail _ (List.mem_map.2 ⟨k, List.mem_range.2 h, rfl⟩))
/-- pinned among the first ones -/
def pinTo (pin : Nat → Nat) (j : Nat) : Nat := ((List.range j).filter fun n => decide (0 < pin n)).length
theorem pinTo_succ (pin : Nat → Nat) (j : Nat) : pinTo pin (j + 1) = if 0 < pin j then pinTo pin j + 1 else pinTo pin j := by
  rw [pinTo, List.range_succ, List.filter_append, List.length_append]
  by_cases h : 0 < pin j <;> simp [pinTo, h]
theorem pinTo_le (pin : Nat → Nat) (j : Nat) : pinTo pin j ≤ j := by
  have := List.length_filter_le (fun n => decide (0 < pin n)) (List.range j)
  rw [List.length_range] at this
  exact this
theorem qpinned_spec (z : RW) (pg : Nat → AP) (pin : Nat → Nat) (many : Nat) (w : World) (h : Cells w z.qa (pinC pin)) :
    Calls Tryz.prog 41 #[rfV z many] w fun e w' => e = .returned (.int .i64 (pinN pin : Int)) ∧ Hp [] w w' [] := by
  apply qpinned.ok; unfold qpinned.vc
  have H := Hp.start w
  intro b w1 hn
  replace H := H.new (cs := [.slice z.pa 12 z.pc, .slice z.qa 12 z.qc, .int .i64 (many : Int)]) (by exact ⟨rfl, rfl, rfl, rfl⟩) hn; clear hn
  refine LoopP.mk (fun m i w' => ∃ j : Nat, m = 12 - j ∧ j ≤ 12 ∧ i = ((pinTo pin j : Int), (j : Int)) ∧ Hp [] w w' [.blk b [.slice z.pa 12 z.pc, .slice z.qa 12 z.qc, .int .i64 (many : Int)] 30]) 12 ⟨0, rfl, by omega, rfl, H⟩ ?_
  clear H
  rintro m i w2 next ⟨j, rfl, hj, rfl, H⟩ hnext
  dsimp only
  refine ⟨_, _, _, H.ld (o := 1) (by exact ⟨rfl, rfl, rfl, rfl⟩) gSI (.head _) rfl, br_dec (fun h1 => ?_) (fun h1 => ?_)⟩
  · have hj2 : j < 12 := by omega
    have hc := h.chg H.chg (by simp)
    obtain ⟨ad, had, _⟩ := hc _ _ (pinC_at pin hj2)
    have e1 : Int.toNat (j : Int) * 1 = j := by omega
    have hle := pinTo_le pin j
    refine ⟨_, _, _, H.ld (o := 1) (by exact ⟨rfl, rfl, rfl, rfl⟩) gSI (.head _) rfl, onP_mk had ⟨⟨by omega, by omega⟩, _, by rw [e1]; exact hc.ld gInt had (pinC_at pin hj2), br_dec (fun h2 => ?_) (fun h2 => ?_)⟩⟩
    · exact ⟨inR64.2 (by omega), inR64.2 (by omega), hnext (12 - (j + 1)) _ _ (by omega) ⟨j + 1, rfl, by omega, by rw [pinTo_succ, if_pos (by omega)]; simp, H⟩⟩
    · exact ⟨inR64.2 (by omega), hnext (12 - (j + 1)) _ _ (by omega) ⟨j + 1, rfl, by omega, by rw [pinTo_succ, if_neg (by omega)]; simp, H⟩⟩
  · have : j = 12 := by omega
    subst this
    exact ⟨rfl, H.done⟩
theorem qin_spec (z : RW) (many : Nat) (n : Int) (w : World) :
    Calls Tryz.prog 42 #[rfV z many, .int .i64 n] w fun e w' => e = .returned (.bool (decide (0 ≤ n ∧ n < 12))) ∧ Hp [] w w' [] := by
  apply qin.ok; unfold qin.vc
  have H := Hp.start w
  intro b w1 hn
  replace H := H.new (cs := [.slice z.pa 12 z.pc, .slice z.qa 12 z.qc, .int .i64 (many : Int)]) (by exact ⟨rfl, rfl, rfl, rfl⟩) hn; clear hn
  refine br_dec (fun h => ⟨_, _, _, H.ld (o := 0) (by exact ⟨rfl, rfl, rfl, rfl⟩) gSRP (.head _) rfl, ?_, H.done⟩) (fun h => ⟨?_, H.done⟩)
  · have : decide (0 ≤ n ∧ n < 12) = decide (n < ((12 : Nat) : Int)) := by rw [decide_eq_decide]; omega
    rw [this]
  · have : decide (0 ≤ n ∧ n < 12) = false := by rw [decide_eq_false_iff_not]; omega
    rw [this]
theorem qpins_spec (z : RW) (pin : Nat → Nat) (many k : Nat) (hk : k < 12) (more : Int) (p : Nat) (hp : (pin k : Int) + more = (p : Int)) (hin : inR .i64 ((pin k : Int) + more)) (w : World) (h : Cells w z.qa (pinC pin)) (h0 : z.qa ≠ none) :
    Calls Tryz.prog 43 #[rfV z many, .int .i64 (k : Int), .int .i64 more] w fun e w' => ∃ a c, e = .returned (rfV { z with qa := a, qc := c } many) ∧ Hp [] w w' [rfQ { z with qa := a, qc := c } (upd pin k p)] := by
  apply qpins.ok; unfold qpins.vc
  have H := Hp.start w
  intro b w1 hn
  replace H := H.new (cs := [.slice z.pa 12 z.pc, .slice z.qa 12 z.qc, .int .i64 (many : Int)]) (by exact ⟨rfl, rfl, rfl, rfl⟩) hn; clear hn
  intro b1 w2 hn
  replace H := H.new (cs := [.slice none 0 0, .slice none 0 0, .int .i64 0]) (by exact ⟨rfl, rfl, rfl, rfl⟩) hn; clear hn
  intro b2 w3 hn
  replace H := (H.new (cs := []) (by exact ⟨rfl, rfl, rfl, rfl⟩) hn).toOwn (sz := 1) (n := 0) rfl (by simp [maxLen]); clear hn
  refine ⟨_, _, _, H.ld (o := 1) (cs := [.slice z.pa 12 z.pc, .slice z.qa 12 z.qc, .int .i64 (many : Int)]) (by exact ⟨rfl, rfl, rfl, rfl⟩) gSI (.tail _ (.tail _ (.head _))) rfl, ?_⟩
  refine Hp.app geltI (by omega) H (by exact ⟨rfl, rfl, rfl, rfl⟩) (Cells.src (n := 12) gundI (h.chg H.chg (by simp)) (by rw [pinC_len]) (pinC_one pin) (fun e => absurd e h0)) (by simp only [maxLen]; omega) (by omega) ?_
  clear H; intro a c w4 H
  rw [List.nil_append] at H
  have hc := (H.ownA (.head _)).cells
  obtain ⟨ad, had, _⟩ := hc _ _ (pinC_at pin hk)
  have e1 : Int.toNat (k : Int) * 1 = k := by omega
  refine onP_mk had ⟨⟨by omega, by omega⟩, _, by rw [e1]; exact hc.ld gInt had (pinC_at pin hk), hin, onP_mk had ⟨⟨by omega, by omega⟩, ?_⟩⟩
  rw [e1, hp]
  refine Hp.stO1 H (by exact ⟨rfl, rfl, rfl, rfl⟩) gInt had rfl rfl (by rw [pinC_len]; exact hk) ?_
  clear H hc; intro w5 H
  rw [pinC_set pin hk p] at H
  replace H := H.pull2
  refine Hp.st (o := 1) H (by exact ⟨rfl, rfl, rfl, rfl⟩) gSI rfl rfl (by simp) (cs' := [.slice z.pa 12 z.pc, .slice a 12 c, .int .i64 (many : Int)]) rfl ?_
  clear H; intro w6 H
  refine ⟨_, _, _, _, _, _, _, H.ldA (o := 0) (by exact ⟨rfl, rfl, rfl, rfl⟩) gaggRP (.head _) rfl rfl, ?_⟩
  replace H := H.pull2
  refine Hp.stA (o := 0) H (by exact ⟨rfl, rfl, rfl, rfl⟩) gaggRP (vs := [.slice z.pa 12 z.pc, .slice a 12 c, .int .i64 (many : Int)]) rfl rfl (by simp) (cs' := [.slice z.pa 12 z.pc, .slice a 12 c, .int .i64 (many : Int)]) rfl ?_
  clear H; intro w7 H
  refine ⟨_, _, _, _, _, _, _, H.ldA (o := 0) (by exact ⟨rfl, rfl, rfl, rfl⟩) gaggRP (.head _) rfl rfl, a, c, rfl, ?_⟩
  exact (H.pull2).done1
theorem qlaid_spec (z : RW) (pg : Nat → AP) (many k : Nat) (hk : k < 12) (r : Option Addr × Nat) (P : AP) (w : World) (h : Cells w z.pa (pgC z.rs pg)) (h0 : z.pa ≠ none) :
    Calls Tryz.prog 45 #[rfV z many, .int .i64 (k : Int), Sl.pv r.1 r.2 P.1 (P.2 : Int)] w fun e w' => ∃ a c, e = .returned (rfV { z with pa := a, pc := c } many) ∧ Hp [] w w' [rfP { z with pa := a, pc := c, rs := upd z.rs k r } (upd pg k P)] := by
  apply qlaid.ok; unfold qlaid.vc
  have H := Hp.start w
  intro b w1 hn
  replace H := H.new (cs := [.slice z.pa 12 z.pc, .slice z.qa 12 z.qc, .int .i64 (many : Int)]) (by exact ⟨rfl, rfl, rfl, rfl⟩) hn; clear hn
  intro b1 w2 hn
  replace H := H.new (cs := [.slice r.1 P.1.length r.2, .int .i64 (P.2 : Int)]) (by exact ⟨rfl, rfl, rfl, rfl⟩) hn; clear hn
  intro b2 w3 hn
  replace H := H.new (cs := [.slice none 0 0, .slice none 0 0, .int .i64 0]) (by exact ⟨rfl, rfl, rfl, rfl⟩) hn; clear hn
  intro b3 w4 hn
  replace H := (H.new (cs := []) (by exact ⟨rfl, rfl, rfl, rfl⟩) hn).toOwn (sz := 2) (n := 0) rfl (by simp [maxLen]); clear hn
  refine ⟨_, _, _, H.ld (o := 0) (cs := [.slice z.pa 12 z.pc, .slice z.qa 12 z.qc, .int .i64 (many : Int)]) (by exact ⟨rfl, rfl, rfl, rfl⟩) gSRP (.tail _ (.tail _ (.tail _ (.head _)))) rfl, ?_⟩
  refine Hp.app geltRG (by omega) H (by exact ⟨rfl, rfl, rfl, rfl⟩) (Cells.src (n := 12) gundRG (h.chg H.chg (by simp)) (by rw [pgC_len]) (pgC_one z.rs pg) (fun e => absurd e h0)) (by simp only [maxLen]; omega) (by omega) ?_
  clear H; intro a c w5 H
  rw [List.nil_append] at H
  have hne : a ≠ none := (H.ownA (.head _)).pos (by omega)
  obtain ⟨ad, had⟩ := Option.ne_none_iff_exists'.1 hne
  have e1 : Int.toNat (k : Int) * 2 = k * 2 := by omega
  refine ⟨_, _, _, _, H.ldA (o := 0) (cs := [.slice r.1 P.1.length r.2, .int .i64 (P.2 : Int)]) (by exact ⟨rfl, rfl, rfl, rfl⟩) gaggRG (.tail _ (.tail _ (.head _))) rfl rfl, onP_mk had ⟨⟨by omega, by omega⟩, ?_⟩⟩
  rw [e1]
  refine Hp.stO (o := k * 2) H (by exact ⟨rfl, rfl, rfl, rfl⟩) had (v := .agg #[.slice r.1 P.1.length r.2, .int .i64 (P.2 : Int)]) gaggRG.size rfl (by rw [pgC_len]; show k * 2 + 2 ≤ 24; omega) (xs' := pgC (upd z.rs k r) (upd pg k P)) (pgC_over z.rs pg hk r P) ?_
  clear H; intro w6 H
  replace H := H.pull3
  refine Hp.st (o := 0) H (by exact ⟨rfl, rfl, rfl, rfl⟩) gSRP rfl rfl (by simp) (cs' := [.slice a 12 c, .slice z.qa 12 z.qc, .int .i64 (many : Int)]) rfl ?_
  clear H; intro w7 H
  refine ⟨_, _, _, _, _, _, _, H.ldA (o := 0) (by exact ⟨rfl, rfl, rfl, rfl⟩) gaggRP (.head _) rfl rfl, ?_⟩
  replace H := H.pull2
  refine Hp.stA (o := 0) H (by exact ⟨rfl, rfl, rfl, rfl⟩) gaggRP (vs := [.slice a 12 c, .slice z.qa 12 z.qc, .int .i64 (many : Int)]) rfl rfl (by simp) (cs' := [.slice a 12 c, .slice z.qa 12 z.qc, .int .i64 (many : Int)]) rfl ?_
  clear H; intro w8 H
  refine ⟨_, _, _, _, _, _, _, H.ldA (o := 0) (by exact ⟨rfl, rfl, rfl, rfl⟩) gaggRP (.head _) rfl rfl, a, c, rfl, ?_⟩
  exact (H.pull2).done1
end Go.Proofs.YtiagjabdfppgkaaGreat
/- Frames: the document's pool: a new one, a call. -/
namespace Go.Proofs.YtiagjabdfppgkaaGreat
open Go Go.Vc Go.Vault

def pg0 : Nat → AP := fun _ => ([], 0)
def pin0 : Nat → Nat := fun _ => 0
def rs0 : Nat → Option Addr × Nat := fun _ => (none, 0)
theorem made_rg : (madeCells (Value.agg #[.slice none 0 0, .int .i64 0]).cells (Int.toNat 12 * 2)).toList = pgC rs0 pg0 := by kernel_rfl
theorem made_int : (madeCells (Value.int .i64 0).cells (Int.toNat 12 * 1)).toList = pinC pin0 := by kernel_rfl
theorem nils {B : List Nat} {w0 w : World} {L : List Asn} (H : Hp B w0 w L) : ∀ l : List Nat, Hp B w0 w (l.map (recF rs0 pg0) ++ L)
  | [] => H
  | n :: r => (nils H r).nilS 123 2
theorem qnew_spec (many : Nat) (w : World) : Calls Tryz.prog 8 #[.int .i64 12, .int .i64 (many : Int)] w fun e w' => ∃ z : RW, e = .returned (rfV z many) ∧ Hp [] w w' (rfL z pg0 pin0) := by
  apply qnew.ok; unfold qnew.vc
  have H := Hp.start w
  intro b w1 hn
  replace H := H.new (cs := [.slice none 0 0, .slice none 0 0, .int .i64 0]) (by exact ⟨rfl, rfl, rfl, rfl⟩) hn; clear hn
  constructor
  · refine Hp.mkS geltRG H (by exact ⟨rfl, rfl, rfl, rfl⟩) (by omega) (by simp only [maxLen]; omega) (by omega) gzRG ?_
    clear H; intro a w2 H
    rw [made_rg] at H
    refine Hp.mkS geltI H (by exact ⟨rfl, rfl, rfl, rfl⟩) (by omega) (by simp only [maxLen]; omega) (by omega) gzInt ?_
    clear H; intro a2 w3 H
    rw [made_int] at H
    replace H := H.pull2
    refine Hp.stA (o := 0) H (by exact ⟨rfl, rfl, rfl, rfl⟩) gaggRP (vs := [.slice a 12 12, .slice a2 12 12, .int .i64 (many : Int)]) rfl rfl (by simp) (cs' := [.slice a 12 12, .slice a2 12 12, .int .i64 (many : Int)]) rfl ?_
    clear H; intro w4 H
    refine ⟨_, _, _, _, _, _, _, H.ldA (o := 0) (by exact ⟨rfl, rfl, rfl, rfl⟩) gaggRP (.head _) rfl rfl, ⟨a, 12, a2, 12, rs0⟩, rfl, ?_⟩
    exact (nils H.drop.pull1 (List.range 12)).perm (by rw [rfL]; exact List.perm_append_comm)
  · refine Hp.mkS geltI H (by exact ⟨rfl, rfl, rfl, rfl⟩) (by omega) (by simp only [maxLen]; omega) (by omega) gzInt ?_
    clear H; intro a2 w2 H
    rw [made_int] at H
    refine Hp.mkS geltRG H (by exact ⟨rfl, rfl, rfl, rfl⟩) (by omega) (by simp only [maxLen]; omega) (by omega) gzRG ?_
    clear H; intro a w3 H
    rw [made_rg] at H
    replace H := H.pull2
    refine Hp.stA (o := 0) H (by exact ⟨rfl, rfl, rfl, rfl⟩) gaggRP (vs := [.slice a 12 12, .slice a2 12 12, .int .i64 (many : Int)]) rfl rfl (by simp) (cs' := [.slice a 12 12, .slice a2 12 12, .int .i64 (many : Int)]) rfl ?_
    clear H; intro w4 H
    refine ⟨_, _, _, _, _, _, _, H.ldA (o := 0) (by exact ⟨rfl, rfl, rfl, rfl⟩) gaggRP (.head _) rfl rfl, ⟨a, 12, a2, 12, rs0⟩, rfl, ?_⟩
    exact (nils H.drop (List.range 12)).perm (by rw [rfL]; exact List.perm_append_comm)

/-! ### A call -/
structure Op12 where
  kind : Int
  n : Int
  changed : Bool
  o : Sl.Op'
  s : List UInt8
  stamp : Int
def op12C (o : Op12) : List Value := [.int .i64 o.kind, .int .i64 o.n, .bool o.changed, .int .i64 o.o.kind, .int .i64 o.o.slot, .int .i64 o.o.n, sv o.o.s, sv o.s, .int .i64 o.stamp]
def op12V (o : Op12) : Value := .agg (op12C o).toArray
def refDo (many : Nat) (pg : Nat → AP) (pin : Nat → Nat) (o : Op12) : (Nat → AP) × (Nat → Nat) × Int :=
  if o.kind < 0 ∨ 4 < o.kind then (pg, pin, 0)
  else if o.kind = 3 then (pg, pin, if 0 < pinN pin then 120 else 0)
  else if ¬ (0 ≤ o.n ∧ o.n < 12) then (pg, pin, if o.kind = 1 ∨ o.kind = 2 then 1 else 121)
  else if o.kind = 0 then (if pin o.n.toNat = 0 ∧ many ≤ pinN pin then (pg, pin, 120) else (pg, upd pin o.n.toNat (pin o.n.toNat + 1), 0))
  else if o.kind = 1 then (if pin o.n.toNat = 0 then (pg, pin, 1) else (pg, upd pin o.n.toNat (pin o.n.toNat - 1), 0))
  else if o.kind = 2 then (if pin o.n.toNat = 0 then (pg, pin, 1) else (upd pg o.n.toNat ((Sl.ado (pg o.n.toNat).1 (pg o.n.toNat).2 o.o).1, (Sl.ado (pg o.n.toNat).1 (pg o.n.toNat).2 o.o).2.1), pin, (Sl.ado (pg o.n.toNat).1 (pg o.n.toNat).2 o.o).2.2.2))
  else if 0 < pin o.n.toNat ∨ many ≤ pinN pin then (pg, pin, 120) else (upd pg o.n.toNat ((Sl.aput [] 0 o.s).1, o.stamp.toNat), pin, 0)
theorem rf_pins {z : RW} {pg : Nat → AP} {pin : Nat → Nat} {B : List Nat} {w0 w : World} {L : List Asn} (H : Hp B w0 w L) (m : rfQ z pin ∈ L) : Cells w z.qa (pinC pin) ∧ z.qa ≠ none := ⟨(H.ownA m).cells, (H.ownA m).pos (by omega)⟩
theorem rf_pages {z : RW} {pg : Nat → AP} {B : List Nat} {w0 w : World} {L : List Asn} (H : Hp B w0 w L) (m : rfP z pg ∈ L) : Cells w z.pa (pgC z.rs pg) ∧ z.pa ≠ none := ⟨(H.ownA m).cells, (H.ownA m).pos (by omega)⟩
/-- another page in the document's -/
theorem rf_lay {z : RW} {pg : Nat → AP} {pin : Nat → Nat} {k : Nat} (hk : k < 12) (a : Option Addr) (c : Nat) (r : Option Addr × Nat) (P : AP) : (rfL { z with pa := a, pc := c, rs := upd z.rs k r } (upd pg k P) pin).Perm (rfP { z with pa := a, pc := c, rs := upd z.rs k r } (upd pg k P) :: Sl.pO r.1 r.2 P.1 :: rfQ z pin :: restR (recF z.rs pg) k) := by
  have h1 := row_perm hk (recF (upd z.rs k r) (upd pg k P))
  have h2 : restR (recF (upd z.rs k r) (upd pg k P)) k = restR (recF z.rs pg) k := rest_congr fun n hn => by simp only [recF, upd_ne _ _ hn]
  have h3 : recF (upd z.rs k r) (upd pg k P) k = Sl.pO r.1 r.2 P.1 := by simp only [recF, upd_self]
  rw [h2, h3] at h1
  rw [rfL]
  exact ((h1.cons _).cons _).trans ((List.Perm.swap _ _ _).cons _)
theorem rf_open {z : RW} {pg : Nat → AP} {pin : Nat → Nat} {k : Nat} (hk : k < 12) : (rfL z pg pin).Perm (rfP z pg :: Sl.pO (z.rs k).1 (z.rs k).2 (pg k).1 :: rfQ z pin :: restR (recF z.rs pg) k) := by
  have h1 := row_perm hk (recF z.rs pg)
  rw [rfL]
  exact ((h1.cons _).cons _).trans ((List.Perm.swap _ _ _).cons _)
set_option maxHeartbeats 4000000 in
theorem qdo_pure (z : RW) (pg : Nat → AP) (pin : Nat → Nat) (many : Nat) (o : Op12) (hRP : ∀ n, Sl.RP (pg n).1) (hpin : ∀ n, pin n ≤ 1000000) (hst : 0 ≤ o.stamp) (w : World) (st : Std w (rfL z pg pin)) :
    Calls Tryz.prog 20 #[rfV z many, op12V o] w fun e w' => ∃ z' T G, e = .returned (.tuple #[rfV z' many, .int .i64 (refDo many pg pin o).2.2]) ∧ Hp (feet (rfL z pg pin)) w w' (rfL z pg pin ++ T) ∧ (rfL z pg pin ++ T).Perm (rfL z' (refDo many pg pin o).1 (refDo many pg pin o).2.1 ++ G) := by
  obtain ⟨kind, n, changed, o11, s, stamp⟩ := o
  have hst : 0 ≤ stamp := hst
  have H := Hp.startL st
  generalize hB : feet (rfL z pg pin) = B at H ⊢
  obtain ⟨D, hD⟩ : ∃ D, D = refDo many pg pin ⟨kind, n, changed, o11, s, stamp⟩ := ⟨_, rfl⟩
  rw [← hD]
  obtain ⟨R, hR⟩ : ∃ R : Ending → World → Prop, R = fun e w' => ∃ z' T G, e = .returned (.tuple #[rfV z' many, .int .i64 D.2.2]) ∧ Hp B w w' (rfL z pg pin ++ T) ∧ (rfL z pg pin ++ T).Perm (rfL z' D.1 D.2.1 ++ G) := ⟨_, rfl⟩
  have done : ∀ (pg' : Nat → AP) (pin' : Nat → Nat) (c : Int), refDo many pg pin ⟨kind, n, changed, o11, s, stamp⟩ = (pg', pin', c) → ∀ w' z' T G, Hp B w w' (rfL z pg pin ++ T) → (rfL z pg pin ++ T).Perm (rfL z' pg' pin' ++ G) → R (.returned (.tuple #[rfV z' many, .int .i64 c])) w' := by
    intro pg' pin' c e w' z' T G K hp
    rw [e] at hD
    rw [hR, hD]
    exact ⟨z', T, G, rfl, K, hp⟩
  show Calls Tryz.prog 20 #[rfV z many, op12V ⟨kind, n, changed, o11, s, stamp⟩] w fun e w' => ∃ z' T G, e = .returned (.tuple #[rfV z' many, .int .i64 D.2.2]) ∧ Hp B w w' (rfL z pg pin ++ T) ∧ (rfL z pg pin ++ T).Perm (rfL z' D.1 D.2.1 ++ G)
  rw [← hR]
  clear hR hD
  apply qdo.ok; unfold qdo.vc
  intro b w1 hn
  replace H := H.new (cs := [.slice z.pa 12 z.pc, .slice z.qa 12 z.qc, .int .i64 (many : Int)]) (by exact ⟨rfl, rfl, rfl, rfl⟩) hn; clear hn
  intro b1 w2 hn
  replace H := H.new (cs := op12C ⟨kind, n, changed, o11, s, stamp⟩) (by exact ⟨rfl, rfl, rfl, rfl⟩) hn; clear hn
  intro b2 w3 hn
  replace H := H.new (cs := [.slice none 0 0, .slice none 0 0, .int .i64 0]) (by exact ⟨rfl, rfl, rfl, rfl⟩) hn; clear hn
  -- what is handed back: a copy of a pool
  have out : ∀ {wc : World} {L : List Asn} {x : List Value} (z' : RW) (c : Int) (R : Ending → World → Prop), Hp B w wc (.blk b2 [.slice none 0 0, .slice none 0 0, .int .i64 0] 30 :: L) → (∀ w', Hp B w w' (.blk b2 [.slice z'.pa 12 z'.pc, .slice z'.qa 12 z'.qc, .int .i64 (many : Int)] 30 :: L) → R (.returned (.tuple #[rfV z' many, .int .i64 c])) w') →
      ∃ w1, Go.Vc.St Tryz.prog 30 wc ⟨b2, 0, none⟩ (.agg #[.slice z'.pa 12 z'.pc, .slice z'.qa 12 z'.qc, .int .i64 (many : Int)]) w1 ∧ ∃ (a : Option Addr) (l c1 : Nat) (a3 : Option Addr) (l3 c3 : Nat) (i : Int), Ld Tryz.prog 30 w1 ⟨b2, 0, none⟩ (.agg #[.slice a l c1, .slice a3 l3 c3, .int .i64 i]) ∧ R (.returned (.tuple #[.agg #[.slice a l c1, .slice a3 l3 c3, .int .i64 i], .int .i64 c])) w1 := by
    intro wc L x z' c R K hk
    refine Hp.stA (o := 0) K (by exact ⟨rfl, rfl, rfl, rfl⟩) gaggRP (vs := [.slice z'.pa 12 z'.pc, .slice z'.qa 12 z'.qc, .int .i64 (many : Int)]) rfl rfl (by simp) (cs' := [.slice z'.pa 12 z'.pc, .slice z'.qa 12 z'.qc, .int .i64 (many : Int)]) rfl ?_
    intro w' K'
    exact ⟨_, _, _, _, _, _, _, K'.ldA (o := 0) (by exact ⟨rfl, rfl, rfl, rfl⟩) gaggRP (.head _) rfl rfl, hk w' K'⟩
  have ldR : ∀ {wa wb : World} {L : List Asn}, Hp B w wa L → Eqw wa wb → Asn.blk b [.slice z.pa 12 z.pc, .slice z.qa 12 z.qc, .int .i64 (many : Int)] 30 ∈ L → Ld Tryz.prog 30 wb ⟨b, 0, none⟩ (.agg #[.slice z.pa 12 z.pc, .slice z.qa 12 z.qc, .int .i64 (many : Int)]) := fun K e m => K.ldA (o := 0) e gaggRP m rfl rfl
  have ldK : ∀ {wa wb : World} {L : List Asn}, Hp B w wa L → Eqw wa wb → Asn.blk b1 (op12C ⟨kind, n, changed, o11, s, stamp⟩) 49 ∈ L → Ld Tryz.prog 3 wb ⟨b1, 0, none⟩ (.int .i64 kind) := fun K e m => K.ld (o := 0) (cs := op12C ⟨kind, n, changed, o11, s, stamp⟩) e gInt m rfl
  have ldN : ∀ {wa wb : World} {L : List Asn}, Hp B w wa L → Eqw wa wb → Asn.blk b1 (op12C ⟨kind, n, changed, o11, s, stamp⟩) 49 ∈ L → Ld Tryz.prog 3 wb ⟨b1, 1, none⟩ (.int .i64 n) := fun K e m => K.ld (o := 1) (cs := op12C ⟨kind, n, changed, o11, s, stamp⟩) e gInt m rfl
  have same : ∀ {wa : World} (c : Int) (L : List Asn), Hp B w wa (.blk b2 [.slice none 0 0, .slice none 0 0, .int .i64 0] 30 :: L) → Asn.blk b [.slice z.pa 12 z.pc, .slice z.qa 12 z.qc, .int .i64 (many : Int)] 30 ∈ L → ∀ (R : Ending → World → Prop), (∀ w', Hp B w w' (.blk b2 [.slice z.pa 12 z.pc, .slice z.qa 12 z.qc, .int .i64 (many : Int)] 30 :: L) → R (.returned (.tuple #[rfV z many, .int .i64 c])) w') → ∃ (a : Option Addr) (l c_0 : Nat) (a_1 : Option Addr) (l_1 c_1 : Nat) (i : Int), Ld Tryz.prog 30 wa ⟨b, 0, none⟩ (.agg #[.slice a l c_0, .slice a_1 l_1 c_1, .int .i64 i]) ∧ ∃ w1, Go.Vc.St Tryz.prog 30 wa ⟨b2, 0, none⟩ (.agg #[.slice a l c_0, .slice a_1 l_1 c_1, .int .i64 i]) w1 ∧ ∃ (a : Option Addr) (l c1 : Nat) (a3 : Option Addr) (l3 c3 : Nat) (i : Int), Ld Tryz.prog 30 w1 ⟨b2, 0, none⟩ (.agg #[.slice a l c1, .slice a3 l3 c3, .int .i64 i]) ∧ R (.returned (.tuple #[.agg #[.slice a l c1, .slice a3 l3 c3, .int .i64 i], .int .i64 c])) w1 := by
    intro wa c L K m R hk
    exact ⟨_, _, _, _, _, _, _, ldR K (by exact ⟨rfl, rfl, rfl, rfl⟩) (.tail _ m), out (x := []) z c R K hk⟩
  have mb : ∀ {x y : Asn} {L : List Asn}, Asn.blk b [.slice z.pa 12 z.pc, .slice z.qa 12 z.qc, .int .i64 (many : Int)] 30 ∈ x :: y :: Asn.blk b [.slice z.pa 12 z.pc, .slice z.qa 12 z.qc, .int .i64 (many : Int)] 30 :: L := .tail _ (.tail _ (.head _))
  have mb1 : ∀ {x : Asn} {L : List Asn}, Asn.blk b1 (op12C ⟨kind, n, changed, o11, s, stamp⟩) 49 ∈ x :: Asn.blk b1 (op12C ⟨kind, n, changed, o11, s, stamp⟩) 49 :: L := .tail _ (.head _)
  have fin : ∀ {w' : World} {x : Asn}, Hp B w w' (x :: Asn.blk b1 (op12C ⟨kind, n, changed, o11, s, stamp⟩) 49 :: Asn.blk b [.slice z.pa 12 z.pc, .slice z.qa 12 z.qc, .int .i64 (many : Int)] 30 :: rfL z pg pin) → Hp B w w' (rfL z pg pin) := fun K => K.drop.drop.drop
  refine ⟨_, ldK H (by exact ⟨rfl, rfl, rfl, rfl⟩) mb1, br_dec (fun h0 => ?_) (fun h0 => ⟨_, ldK H (by exact ⟨rfl, rfl, rfl, rfl⟩) mb1, br_dec (fun h4 => ?_) (fun h4 => ⟨_, ldK H (by exact ⟨rfl, rfl, rfl, rfl⟩) mb1, br_dec (fun h3 => ?_) (fun h3 => ?_)⟩)⟩)⟩
  · have e : refDo many pg pin ⟨kind, n, changed, o11, s, stamp⟩ = (pg, pin, 0) := by rw [refDo, if_pos (.inl h0)]
    exact same 0 _ H (.tail _ (.head _)) R fun w' K => done _ _ _ e w' z [] [] (by rw [List.append_nil]; exact fin K) (.refl _)
  · have e : refDo many pg pin ⟨kind, n, changed, o11, s, stamp⟩ = (pg, pin, 0) := by rw [refDo, if_pos (.inr h4)]
    exact same 0 _ H (.tail _ (.head _)) R fun w' K => done _ _ _ e w' z [] [] (by rw [List.append_nil]; exact fin K) (.refl _)
  · have e : refDo many pg pin ⟨kind, n, changed, o11, s, stamp⟩ = (pg, pin, if 0 < pinN pin then 120 else 0) := by rw [refDo, if_neg (by simp only; omega), if_pos h3]
    refine ⟨_, _, _, _, _, _, _, ldR H (by exact ⟨rfl, rfl, rfl, rfl⟩) mb, callV (qpinned_spec z pg pin many w3 (rf_pins (pg := pg) H (.tail _ (.tail _ (.tail _ (.tail _ (.head _)))))).1) ?_⟩
    rintro e w4 ⟨rfl, H'⟩
    replace H := H.ext0 H'; clear H'
    refine ⟨_, rfl, br_dec (fun h5 => ?_) (fun h5 => ?_)⟩
    · rw [if_pos (by omega)] at e
      exact same 120 _ H (.tail _ (.head _)) R fun w' K => done _ _ _ e w' z [] [] (by rw [List.append_nil]; exact fin K) (.refl _)
    · rw [if_neg (by omega)] at e
      exact same 0 _ H (.tail _ (.head _)) R fun w' K => done _ _ _ e w' z [] [] (by rw [List.append_nil]; exact fin K) (.refl _)
  refine ⟨_, _, _, _, _, _, _, ldR H (by exact ⟨rfl, rfl, rfl, rfl⟩) mb, _, ldN H (by exact ⟨rfl, rfl, rfl, rfl⟩) mb1, callV (qin_spec z many n w3) ?_⟩
  rintro e w4 ⟨rfl, H'⟩
  replace H := H.ext0 H'; clear H' w3
  have hk04 : ¬ (kind < 0 ∨ 4 < kind) := by omega
  refine ⟨_, rfl, br_not (fun hin => ?_) (fun hin => ?_)⟩
  · have hin : ¬ (0 ≤ n ∧ n < 12) := of_decide_eq_false hin
    have e : refDo many pg pin ⟨kind, n, changed, o11, s, stamp⟩ = (pg, pin, if kind = 1 ∨ kind = 2 then 1 else 121) := by rw [refDo, if_neg hk04, if_neg h3, if_pos hin]
    refine ⟨_, ldK H (by exact ⟨rfl, rfl, rfl, rfl⟩) mb1, br_dec (fun h1 => ?_) (fun h1 => ⟨_, ldK H (by exact ⟨rfl, rfl, rfl, rfl⟩) mb1, br_dec (fun h2 => ?_) (fun h2 => ?_)⟩)⟩
    · rw [if_pos (.inl h1)] at e
      exact same 1 _ H (.tail _ (.head _)) R fun w' K => done _ _ _ e w' z [] [] (by rw [List.append_nil]; exact fin K) (.refl _)
    · rw [if_pos (.inr h2)] at e
      exact same 1 _ H (.tail _ (.head _)) R fun w' K => done _ _ _ e w' z [] [] (by rw [List.append_nil]; exact fin K) (.refl _)
    · rw [if_neg (by omega)] at e
      exact same 121 _ H (.tail _ (.head _)) R fun w' K => done _ _ _ e w' z [] [] (by rw [List.append_nil]; exact fin K) (.refl _)
  have hin : 0 ≤ n ∧ n < 12 := of_decide_eq_true hin
  obtain ⟨k, rfl⟩ : ∃ k : Nat, n = (k : Int) := ⟨n.toNat, by omega⟩
  have hk : k < 12 := by omega
  have hbase : refDo many pg pin ⟨kind, (k : Int), changed, o11, s, stamp⟩ = if kind = 0 then (if pin k = 0 ∧ many ≤ pinN pin then (pg, pin, 120) else (pg, upd pin k (pin k + 1), 0))
      else if kind = 1 then (if pin k = 0 then (pg, pin, 1) else (pg, upd pin k (pin k - 1), 0))
      else if kind = 2 then (if pin k = 0 then (pg, pin, 1) else (upd pg k ((Sl.ado (pg k).1 (pg k).2 o11).1, (Sl.ado (pg k).1 (pg k).2 o11).2.1), pin, (Sl.ado (pg k).1 (pg k).2 o11).2.2.2))
      else if 0 < pin k ∨ many ≤ pinN pin then (pg, pin, 120) else (upd pg k ((Sl.aput [] 0 s).1, stamp.toNat), pin, 0) := by
    rw [refDo, if_neg hk04, if_neg h3, if_neg (by simp only; omega)]
    rfl
  have e1 : Int.toNat (k : Int) * 1 = k := by omega
  have hpk := hpin k
  have pinAt : ∀ {wa wb : World} {L : List Asn}, Hp B w wa L → Eqw wa wb → rfQ z pin ∈ L → Asn.blk b [.slice z.pa 12 z.pc, .slice z.qa 12 z.qc, .int .i64 (many : Int)] 30 ∈ L → Asn.blk b1 (op12C ⟨kind, (k : Int), changed, o11, s, stamp⟩) 49 ∈ L → ∀ (C : Int → Prop), C (pin k : Int) → ∃ (a : Option Addr) (l c : Nat), Ld Tryz.prog 23 wb ⟨b, 1, none⟩ (.slice a l c) ∧ ∃ i : Int, Ld Tryz.prog 3 wb ⟨b1, 1, none⟩ (.int .i64 i) ∧ onP a fun a => (0 ≤ i ∧ i < (l : Int)) ∧ ∃ i_2 : Int, Ld Tryz.prog 3 wb (a.add (Int.toNat i * 1)) (.int .i64 i_2) ∧ C i_2 := by
    intro wa wb L K e m1 m2 m3 C hC
    obtain ⟨hc, _⟩ := rf_pins (pg := pg) (K.go e) m1
    obtain ⟨ad, had, _⟩ := hc _ _ (pinC_at pin hk)
    exact ⟨_, _, _, K.ld (o := 1) e gSI m2 rfl, _, ldN K e m3, onP_mk had ⟨⟨by omega, by omega⟩, _, by rw [e1]; exact hc.ld gInt had (pinC_at pin hk), hC⟩⟩
  have mq : ∀ {x y u : Asn}, rfQ z pin ∈ x :: y :: u :: rfL z pg pin := .tail _ (.tail _ (.tail _ (.tail _ (.head _))))
  have mp : ∀ {x y u : Asn}, rfP z pg ∈ x :: y :: u :: rfL z pg pin := .tail _ (.tail _ (.tail _ (.head _)))
  -- other pins
  have pinned : ∀ (wa : World) (more : Int) (p : Nat) (R : Ending → World → Prop), (pin k : Int) + more = (p : Int) → inR .i64 ((pin k : Int) + more) → Hp B w wa (.blk b2 [.slice none 0 0, .slice none 0 0, .int .i64 0] 30 :: .blk b1 (op12C ⟨kind, (k : Int), changed, o11, s, stamp⟩) 49 :: .blk b [.slice z.pa 12 z.pc, .slice z.qa 12 z.qc, .int .i64 (many : Int)] 30 :: rfL z pg pin) → (∀ w' z' T G, Hp B w w' (rfL z pg pin ++ T) → (rfL z pg pin ++ T).Perm (rfL z' pg (upd pin k p) ++ G) → R (.returned (.tuple #[rfV z' many, .int .i64 0])) w') →
      CallV Tryz.prog 43 [rfV z many, .int .i64 (k : Int), .int .i64 more] wa fun e w' => ∃ (a : Option Addr) (l c : Nat) (a_4 : Option Addr) (l_4 c_4 : Nat) (i : Int), e = .returned (.agg #[.slice a l c, .slice a_4 l_4 c_4, .int .i64 i]) ∧ ∃ w1, Go.Vc.St Tryz.prog 30 w' ⟨b2, 0, none⟩ (.agg #[.slice a l c, .slice a_4 l_4 c_4, .int .i64 i]) w1 ∧ ∃ (a : Option Addr) (l c1 : Nat) (a3 : Option Addr) (l3 c3 : Nat) (i : Int), Ld Tryz.prog 30 w1 ⟨b2, 0, none⟩ (.agg #[.slice a l c1, .slice a3 l3 c3, .int .i64 i]) ∧ R (.returned (.tuple #[.agg #[.slice a l c1, .slice a3 l3 c3, .int .i64 i], .int .i64 0])) w1 := by
    intro wa more p R hp hin K hk2
    obtain ⟨hc, hne⟩ := rf_pins (pg := pg) K mq
    refine callV (qpins_spec z pin many k hk more p hp hin wa hc hne) ?_
    rintro e w5 ⟨a, c, rfl, K'⟩
    have K2 := (K.ext1 K').pull1
    clear K K'
    refine ⟨_, _, _, _, _, _, _, rfl, out (x := []) { z with qa := a, qc := c } 0 R K2 fun w' K3 => hk2 w' { z with qa := a, qc := c } [rfQ { z with qa := a, qc := c } (upd pin k p)] [rfQ z pin] ?_ ?_⟩
    · have K4 : Hp B w w' (.blk b2 [.slice z.pa 12 z.pc, .slice a 12 c, .int .i64 (many : Int)] 30 :: .blk b1 (op12C ⟨kind, (k : Int), changed, o11, s, stamp⟩) 49 :: .blk b [.slice z.pa 12 z.pc, .slice z.qa 12 z.qc, .int .i64 (many : Int)] 30 :: (rfL z pg pin ++ [rfQ { z with qa := a, qc := c } (upd pin k p)])) := K3.perm (by (refine perm_cnt fun ff gg h0 hc ha hpm => ?_; simp only [ha, hc, h0]; omega))
      exact K4.drop.drop.drop
    · rw [rfL, rfL]
      show List.Perm (rfP z pg :: rfQ z pin :: (List.range 12).map (recF z.rs pg) ++ [rfQ { z with qa := a, qc := c } (upd pin k p)]) (rfP z pg :: rfQ { z with qa := a, qc := c } (upd pin k p) :: (List.range 12).map (recF z.rs pg) ++ [rfQ z pin])
      (refine perm_cnt fun ff gg h0 hc ha hpm => ?_; simp only [ha, hc, h0]; omega)
  -- another page
  have laid : ∀ (wa : World) (r : Option Addr × Nat) (P : AP) (c : Int) (T : List Asn) (L0 : List Asn) (R : Ending → World → Prop), (T = [] ∧ r = z.rs k ∧ P.1 = (pg k).1 ∨ T = [Sl.pO r.1 r.2 P.1]) → Hp B w wa (.blk b2 [.slice none 0 0, .slice none 0 0, .int .i64 0] 30 :: .blk b1 (op12C ⟨kind, (k : Int), changed, o11, s, stamp⟩) 49 :: .blk b [.slice z.pa 12 z.pc, .slice z.qa 12 z.qc, .int .i64 (many : Int)] 30 :: (rfL z pg pin ++ (T ++ L0))) → (∀ w' z' T G, Hp B w w' (rfL z pg pin ++ T) → (rfL z pg pin ++ T).Perm (rfL z' (upd pg k P) pin ++ G) → R (.returned (.tuple #[rfV z' many, .int .i64 c])) w') →
      CallV Tryz.prog 45 [rfV z many, .int .i64 (k : Int), Sl.pv r.1 r.2 P.1 (P.2 : Int)] wa fun e w' => ∃ (a : Option Addr) (l c1 : Nat) (a_4 : Option Addr) (l_4 c_4 : Nat) (i : Int), e = .returned (.agg #[.slice a l c1, .slice a_4 l_4 c_4, .int .i64 i]) ∧ ∃ w1, Go.Vc.St Tryz.prog 30 w' ⟨b2, 0, none⟩ (.agg #[.slice a l c1, .slice a_4 l_4 c_4, .int .i64 i]) w1 ∧ ∃ (a : Option Addr) (l c1 : Nat) (a3 : Option Addr) (l3 c3 : Nat) (i : Int), Ld Tryz.prog 30 w1 ⟨b2, 0, none⟩ (.agg #[.slice a l c1, .slice a3 l3 c3, .int .i64 i]) ∧ R (.returned (.tuple #[.agg #[.slice a l c1, .slice a3 l3 c3, .int .i64 i], .int .i64 c])) w1 := by
    intro wa r P c T L0 R hT K hk2
    obtain ⟨hc, hne⟩ := rf_pages (z := z) K (.tail _ (.tail _ (.tail _ (.head _))))
    refine callV (qlaid_spec z pg many k hk r P wa hc hne) ?_
    rintro e w5 ⟨a, ca, rfl, K'⟩
    have K2 := (K.ext1 K').pull1
    clear K K'
    refine ⟨_, _, _, _, _, _, _, rfl, out (x := []) { z with pa := a, pc := ca, rs := upd z.rs k r } c R K2 fun w' K3 => hk2 w' { z with pa := a, pc := ca, rs := upd z.rs k r } (rfP { z with pa := a, pc := ca, rs := upd z.rs k r } (upd pg k P) :: T) (if T = [] then [rfP z pg] else [rfP z pg, Sl.pO (z.rs k).1 (z.rs k).2 (pg k).1]) ?_ ?_⟩
    · have K4 : Hp B w w' ((rfL z pg pin ++ (rfP { z with pa := a, pc := ca, rs := upd z.rs k r } (upd pg k P) :: T)) ++ (L0 ++ [.blk b2 [.slice a 12 ca, .slice z.qa 12 z.qc, .int .i64 (many : Int)] 30, .blk b1 (op12C ⟨kind, (k : Int), changed, o11, s, stamp⟩) 49, .blk b [.slice z.pa 12 z.pc, .slice z.qa 12 z.qc, .int .i64 (many : Int)] 30])) := K3.perm (by (refine perm_cnt fun ff gg h0 hc ha hpm => ?_; simp only [ha, hc, h0]; omega))
      exact K4.takeL
    · have h1 := rf_open (z := z) (pg := pg) (pin := pin) hk
      have h2 := rf_lay (z := z) (pg := pg) (pin := pin) hk a ca r P
      rcases hT with ⟨rfl, hr, hP⟩ | rfl
      · rw [if_pos rfl]
        refine perm_cnt fun ff gg h0 hc ha hpm => ?_
        have h8 := hpm _ _ h1
        have h9 := hpm _ _ h2
        rw [hr, hP] at h9
        rw [hr]
        simp only [ha, hc, h0] at h8 h9 ⊢
        omega
      · rw [if_neg (by simp)]
        refine perm_cnt fun ff gg h0 hc ha hpm => ?_
        have h8 := hpm _ _ h1
        have h9 := hpm _ _ h2
        simp only [ha, hc, h0] at h8 h9 ⊢
        omega
  refine ⟨_, ldK H (by exact ⟨rfl, rfl, rfl, rfl⟩) mb1, br_dec (fun hq0 => ?_) (fun hq0 => br_dec (fun hq1 => ?_) (fun hq1 => br_dec (fun hq2 => ?_) (fun hq2 => br_dec (fun hq4 => ?_) (fun hq4 => by omega))))⟩
  · rw [if_pos hq0] at hbase
    refine pinAt H.drew (by exact ⟨rfl, rfl, rfl, rfl⟩) mq mb mb1 _ (br_dec (fun hz => ?_) (fun hz => ?_))
    · refine ⟨_, _, _, _, _, _, _, ldR H (by exact ⟨rfl, rfl, rfl, rfl⟩) mb, _, H.ld (o := 2) (cs := [.slice z.pa 12 z.pc, .slice z.qa 12 z.qc, .int .i64 (many : Int)]) (by exact ⟨rfl, rfl, rfl, rfl⟩) gInt mb rfl, callV (qpinned_spec z pg pin many _ (rf_pins (pg := pg) H.drew mq).1) ?_⟩
      rintro e w5 ⟨rfl, H'⟩
      replace H := H.drew.ext0 H'; clear H'
      refine ⟨_, rfl, H.ld (o := 2) (cs := [.slice z.pa 12 z.pc, .slice z.qa 12 z.qc, .int .i64 (many : Int)]) (by exact ⟨rfl, rfl, rfl, rfl⟩) gInt mb rfl, br_dec (fun hm => ?_) (fun hm => ?_)⟩
      · rw [if_pos (by omega)] at hbase
        exact same 120 _ H (.tail _ (.head _)) R fun w' K => done _ _ _ hbase w' z [] [] (by rw [List.append_nil]; exact fin K) (.refl _)
      · rw [if_neg (by omega)] at hbase
        refine ⟨_, _, _, _, _, _, _, ldR H (by exact ⟨rfl, rfl, rfl, rfl⟩) mb, _, ldN H (by exact ⟨rfl, rfl, rfl, rfl⟩) mb1, ?_⟩
        exact pinned w5 1 (pin k + 1) R (by omega) (inR64.2 (by omega)) H fun w' z' T G K hp => done _ _ _ hbase w' z' T G K hp
    · rw [if_neg (by omega)] at hbase
      refine ⟨_, _, _, _, _, _, _, ldR H (by exact ⟨rfl, rfl, rfl, rfl⟩) mb, _, ldN H (by exact ⟨rfl, rfl, rfl, rfl⟩) mb1, ?_⟩
      exact pinned _ 1 (pin k + 1) R (by omega) (inR64.2 (by omega)) H.drew fun w' z' T G K hp => done _ _ _ hbase w' z' T G K hp
  · rw [if_neg hq0, if_pos hq1] at hbase
    refine pinAt H (by exact ⟨rfl, rfl, rfl, rfl⟩) mq mb mb1 _ (br_dec (fun hz => ?_) (fun hz => ?_))
    · rw [if_pos (by omega)] at hbase
      exact same 1 _ H (.tail _ (.head _)) R fun w' K => done _ _ _ hbase w' z [] [] (by rw [List.append_nil]; exact fin K) (.refl _)
    · rw [if_neg (by omega)] at hbase
      refine ⟨_, _, _, _, _, _, _, ldR H (by exact ⟨rfl, rfl, rfl, rfl⟩) mb, _, ldN H (by exact ⟨rfl, rfl, rfl, rfl⟩) mb1, ?_⟩
      exact pinned _ (-1) (pin k - 1) R (by omega) (inR64.2 (by omega)) H fun w' z' T G K hp => done _ _ _ hbase w' z' T G K hp
  · rw [if_neg hq0, if_neg hq1, if_pos hq2] at hbase
    refine pinAt H (by exact ⟨rfl, rfl, rfl, rfl⟩) mq mb mb1 _ (br_dec (fun hz => ?_) (fun hz => ?_))
    · rw [if_pos (by omega)] at hbase
      exact same 1 _ H (.tail _ (.head _)) R fun w' K => done _ _ _ hbase w' z [] [] (by rw [List.append_nil]; exact fin K) (.refl _)
    · rw [if_neg (by omega)] at hbase
      have e2 : Int.toNat (k : Int) * 2 = k * 2 := by omega
      have hRk := hRP k
      -- the page's own call
      have call : ∀ (wa : World) (L0 : List Asn) (R : Ending → World → Prop), Hp B w wa (.blk b2 [.slice none 0 0, .slice none 0 0, .int .i64 0] 30 :: .blk b1 (op12C ⟨kind, (k : Int), changed, o11, s, stamp⟩) 49 :: .blk b [.slice z.pa 12 z.pc, .slice z.qa 12 z.qc, .int .i64 (many : Int)] 30 :: (rfL z pg pin ++ L0)) →
          (∀ w' r T, (T = [] ∧ r = z.rs k ∧ (Sl.ado (pg k).1 (pg k).2 o11).1 = (pg k).1 ∨ T = [Sl.pO r.1 r.2 (Sl.ado (pg k).1 (pg k).2 o11).1]) → Hp B w w' (.blk b2 [.slice none 0 0, .slice none 0 0, .int .i64 0] 30 :: .blk b1 (op12C ⟨kind, (k : Int), changed, o11, s, stamp⟩) 49 :: .blk b [.slice z.pa 12 z.pc, .slice z.qa 12 z.qc, .int .i64 (many : Int)] 30 :: (rfL z pg pin ++ (T ++ L0))) → R (.returned (.tuple #[Sl.pv r.1 r.2 (Sl.ado (pg k).1 (pg k).2 o11).1 (Sl.ado (pg k).1 (pg k).2 o11).2.1, .int .i64 (Sl.ado (pg k).1 (pg k).2 o11).2.2.1, .int .i64 (Sl.ado (pg k).1 (pg k).2 o11).2.2.2])) w') →
          CallV Tryz.prog 44 [Sl.pv (z.rs k).1 (z.rs k).2 (pg k).1 (pg k).2, Sl.opv o11] wa R := by
        intro wa L0 R K hk2
        have hrec : Cells wa (z.rs k).1 (Sl.recC (pg k).1) := (K.ownA (.tail _ (.tail _ (.tail _ (List.mem_append_left _ (mem_rec hk)))))).cells
        refine callV (Sl.rdo_spec hRk hrec (pg k).2 o11) ?_
        rintro e w5 ⟨a', c', rfl, hres⟩
        obtain ⟨T, K2, hT⟩ := hres.out K
        refine hk2 w5 (a', c') T ?_ (K2.perm (by (refine perm_cnt fun ff gg h0 hc ha hpm => ?_; simp only [ha, hc, h0]; omega)))
        rcases hT with ⟨h1, h2, h3, h4⟩ | h4
        · left
          refine ⟨h4, ?_, h3⟩
          rw [h1, h2]
        · exact .inr h4
      have ldP : ∀ {wa wb : World} {L : List Asn}, Hp B w wa L → Eqw wa wb → rfP z pg ∈ L → ∀ {ad : Addr}, z.pa = some ad → Ld Tryz.prog 88 wb (ad.add (k * 2)) (.agg #[.slice (z.rs k).1 (pg k).1.length (z.rs k).2, .int .i64 ((pg k).2 : Int)]) := fun K e m ad had => (rf_pages (K.go e) m).1.ldA gaggRG had (pgC_at z.rs pg hk) rfl
      have ldO : ∀ {wa wb : World} {L : List Asn}, Hp B w wa L → Eqw wa wb → Asn.blk b1 (op12C ⟨kind, (k : Int), changed, o11, s, stamp⟩) 49 ∈ L → Ld Tryz.prog 47 wb ⟨b1, 3, none⟩ (.agg #[.int .i64 o11.kind, .int .i64 o11.slot, .int .i64 o11.n, sv o11.s]) := fun K e m => K.ldA (o := 3) e gaggO11 m rfl rfl
      have ldS : ∀ {wa wb : World} {L : List Asn}, Hp B w wa L → Eqw wa wb → Asn.blk b [.slice z.pa 12 z.pc, .slice z.qa 12 z.qc, .int .i64 (many : Int)] 30 ∈ L → Ld Tryz.prog 28 wb ⟨b, 0, none⟩ (.slice z.pa 12 z.pc) := fun K e m => K.ld (o := 0) e gSRP m rfl
      obtain ⟨hc, hne⟩ := rf_pages (z := z) H mp
      obtain ⟨ad, had⟩ := Option.ne_none_iff_exists'.1 hne
      have H0 : Hp B w w4 (.blk b2 [.slice none 0 0, .slice none 0 0, .int .i64 0] 30 :: .blk b1 (op12C ⟨kind, (k : Int), changed, o11, s, stamp⟩) 49 :: .blk b [.slice z.pa 12 z.pc, .slice z.qa 12 z.qc, .int .i64 (many : Int)] 30 :: (rfL z pg pin ++ [])) := by rw [List.append_nil]; exact H
      constructor
      · refine ⟨_, _, _, ldS H (by exact ⟨rfl, rfl, rfl, rfl⟩) mb, _, ldN H (by exact ⟨rfl, rfl, rfl, rfl⟩) mb1, onP_mk had ⟨⟨by omega, by omega⟩, _, _, _, _, by rw [e2]; exact ldP H (by exact ⟨rfl, rfl, rfl, rfl⟩) mp had, _, _, _, _, ldO H (by exact ⟨rfl, rfl, rfl, rfl⟩) mb1, ?_⟩⟩
        refine call _ [] _ H0.drew ?_
        intro w5 r T hT K
        refine ⟨_, _, _, _, _, _, rfl, ?_⟩
        intro b4 w6 hn
        have K2 := K.new (cs := [.slice none 0 0, .int .i64 0]) (by exact ⟨rfl, rfl, rfl, rfl⟩) hn
        clear hn K
        refine Hp.stA (o := 0) K2 (by exact ⟨rfl, rfl, rfl, rfl⟩) gaggRG (vs := [.slice r.1 (Sl.ado (pg k).1 (pg k).2 o11).1.length r.2, .int .i64 ((Sl.ado (pg k).1 (pg k).2 o11).2.1 : Int)]) rfl rfl (by simp) (cs' := [.slice r.1 (Sl.ado (pg k).1 (pg k).2 o11).1.length r.2, .int .i64 ((Sl.ado (pg k).1 (pg k).2 o11).2.1 : Int)]) rfl ?_
        clear K2; intro w7 K
        refine ⟨_, _, _, _, _, _, _, ldR K (by exact ⟨rfl, rfl, rfl, rfl⟩) (.tail _ mb), _, ldN K (by exact ⟨rfl, rfl, rfl, rfl⟩) (.tail _ mb1), _, _, _, _, K.ldA (o := 0) (by exact ⟨rfl, rfl, rfl, rfl⟩) gaggRG (.head _) rfl rfl, ?_⟩
        refine laid w7 r ((Sl.ado (pg k).1 (pg k).2 o11).1, (Sl.ado (pg k).1 (pg k).2 o11).2.1) (Sl.ado (pg k).1 (pg k).2 o11).2.2.2 T [.blk b4 [.slice r.1 (Sl.ado (pg k).1 (pg k).2 o11).1.length r.2, .int .i64 ((Sl.ado (pg k).1 (pg k).2 o11).2.1 : Int)] 88] R hT (K.perm (by (refine perm_cnt fun ff gg h0 hc ha hpm => ?_; simp only [ha, hc, h0]; omega))) fun w' z' T G K hp => done _ _ _ hbase w' z' T G K hp
      · refine ⟨_, _, _, ldS H (by exact ⟨rfl, rfl, rfl, rfl⟩) mb, _, ldN H (by exact ⟨rfl, rfl, rfl, rfl⟩) mb1, onP_mk had ⟨⟨by omega, by omega⟩, _, _, _, _, by rw [e2]; exact ldP H (by exact ⟨rfl, rfl, rfl, rfl⟩) mp had, _, _, _, _, ldO H (by exact ⟨rfl, rfl, rfl, rfl⟩) mb1, ?_⟩⟩
        intro b4 w6 hn
        have K2 := H0.drew.new (cs := [.slice none 0 0, .int .i64 0]) (by exact ⟨rfl, rfl, rfl, rfl⟩) hn
        clear hn
        refine ⟨ldO K2 (by exact ⟨rfl, rfl, rfl, rfl⟩) (.tail _ mb1), by rw [e2]; exact ldP K2 (by exact ⟨rfl, rfl, rfl, rfl⟩) (.tail _ (.tail _ (.tail _ (.tail _ (.head _))))) had, ldN K2 (by exact ⟨rfl, rfl, rfl, rfl⟩) (.tail _ mb1), ldS K2 (by exact ⟨rfl, rfl, rfl, rfl⟩) (.tail _ mb), ?_⟩
        refine call w6 [.blk b4 [.slice none 0 0, .int .i64 0] 88] _ (K2.perm (by (refine perm_cnt fun ff gg h0 hc ha hpm => ?_; simp only [ha, hc, h0]; omega))) ?_
        clear K2
        intro w5 r T hT K
        refine ⟨_, _, _, _, _, _, rfl, ?_⟩
        have K2 : Hp B w w5 (.blk b4 [.slice none 0 0, .int .i64 0] 88 :: (.blk b2 [.slice none 0 0, .slice none 0 0, .int .i64 0] 30 :: .blk b1 (op12C ⟨kind, (k : Int), changed, o11, s, stamp⟩) 49 :: .blk b [.slice z.pa 12 z.pc, .slice z.qa 12 z.qc, .int .i64 (many : Int)] 30 :: (rfL z pg pin ++ T))) := K.perm (by (refine perm_cnt fun ff gg h0 hc ha hpm => ?_; simp only [ha, hc, h0]; omega))
        clear K
        refine Hp.stA (o := 0) K2 (by exact ⟨rfl, rfl, rfl, rfl⟩) gaggRG (vs := [.slice r.1 (Sl.ado (pg k).1 (pg k).2 o11).1.length r.2, .int .i64 ((Sl.ado (pg k).1 (pg k).2 o11).2.1 : Int)]) rfl rfl (by simp) (cs' := [.slice r.1 (Sl.ado (pg k).1 (pg k).2 o11).1.length r.2, .int .i64 ((Sl.ado (pg k).1 (pg k).2 o11).2.1 : Int)]) rfl ?_
        clear K2; intro w7 K
        refine ⟨_, _, _, _, _, _, _, ldR K (by exact ⟨rfl, rfl, rfl, rfl⟩) (.tail _ mb), _, ldN K (by exact ⟨rfl, rfl, rfl, rfl⟩) (.tail _ mb1), _, _, _, _, K.ldA (o := 0) (by exact ⟨rfl, rfl, rfl, rfl⟩) gaggRG (.head _) rfl rfl, ?_⟩
        refine laid w7 r ((Sl.ado (pg k).1 (pg k).2 o11).1, (Sl.ado (pg k).1 (pg k).2 o11).2.1) (Sl.ado (pg k).1 (pg k).2 o11).2.2.2 T [.blk b4 [.slice r.1 (Sl.ado (pg k).1 (pg k).2 o11).1.length r.2, .int .i64 ((Sl.ado (pg k).1 (pg k).2 o11).2.1 : Int)] 88] R hT (K.perm (by (refine perm_cnt fun ff gg h0 hc ha hpm => ?_; simp only [ha, hc, h0]; omega))) fun w' z' T G K hp => done _ _ _ hbase w' z' T G K hp
  · rw [if_neg hq0, if_neg hq1, if_neg hq2] at hbase
    refine pinAt H.drew (by exact ⟨rfl, rfl, rfl, rfl⟩) mq mb mb1 _ (br_dec (fun hz => ?_) (fun hz => ?_))
    · rw [if_pos (.inl (by omega))] at hbase
      exact same 120 _ H.drew (.tail _ (.head _)) R fun w' K => done _ _ _ hbase w' z [] [] (by rw [List.append_nil]; exact fin K) (.refl _)
    · refine ⟨_, _, _, _, _, _, _, ldR H (by exact ⟨rfl, rfl, rfl, rfl⟩) mb, _, H.ld (o := 2) (cs := [.slice z.pa 12 z.pc, .slice z.qa 12 z.qc, .int .i64 (many : Int)]) (by exact ⟨rfl, rfl, rfl, rfl⟩) gInt mb rfl, callV (qpinned_spec z pg pin many _ (rf_pins (pg := pg) H.drew mq).1) ?_⟩
      rintro e w5 ⟨rfl, H'⟩
      replace H := H.drew.ext0 H'; clear H'
      refine ⟨_, rfl, H.ld (o := 2) (cs := [.slice z.pa 12 z.pc, .slice z.qa 12 z.qc, .int .i64 (many : Int)]) (by exact ⟨rfl, rfl, rfl, rfl⟩) gInt mb rfl, br_dec (fun hm => ?_) (fun hm => ?_)⟩
      · rw [if_pos (.inr (by omega))] at hbase
        exact same 120 _ H (.tail _ (.head _)) R fun w' K => done _ _ _ hbase w' z [] [] (by rw [List.append_nil]; exact fin K) (.refl _)
      · rw [if_neg (by omega)] at hbase
        refine ⟨_, H.ld (o := 8) (cs := op12C ⟨kind, (k : Int), changed, o11, s, stamp⟩) (by exact ⟨rfl, rfl, rfl, rfl⟩) gInt mb1 rfl, _, H.ld (o := 7) (cs := op12C ⟨kind, (k : Int), changed, o11, s, stamp⟩) (by exact ⟨rfl, rfl, rfl, rfl⟩) gStr mb1 rfl, ?_⟩
        have hnil : Cells w5 none (Sl.recC []) := by intro j v hj; simp [Sl.recC] at hj
        refine callV (Sl.rput_spec (a := none) (c := 0) (L := []) ⟨by simp, by simp, by simp [Sl.tot]⟩ hnil stamp 0 s) ?_
        rintro e w6 ⟨a', c', rfl, hcode, hres⟩
        obtain ⟨T, K, hT⟩ := hres.out H
        clear H
        refine ⟨_, _, _, _, _, rfl, ?_⟩
        intro b4 w7 hn
        have K2 := K.new (cs := [.slice none 0 0, .int .i64 0]) (by exact ⟨rfl, rfl, rfl, rfl⟩) hn
        clear hn K
        have estamp : ((stamp.toNat : Nat) : Int) = stamp := by omega
        refine Hp.stA (o := 0) K2 (by exact ⟨rfl, rfl, rfl, rfl⟩) gaggRG (vs := [.slice a' (Sl.aput [] 0 s).1.length c', .int .i64 stamp]) rfl rfl (by simp) (cs' := [.slice a' (Sl.aput [] 0 s).1.length c', .int .i64 stamp]) rfl ?_
        clear K2; intro w8 K
        refine ⟨_, _, _, _, _, _, _, ldR K (by exact ⟨rfl, rfl, rfl, rfl⟩) (.tail _ mb), _, ldN K (by exact ⟨rfl, rfl, rfl, rfl⟩) (.tail _ mb1), _, _, _, _, K.ldA (o := 0) (by exact ⟨rfl, rfl, rfl, rfl⟩) gaggRG (.head _) rfl rfl, ?_⟩
        have hT2 : ∃ T2, T2 = [Sl.pO a' c' (Sl.aput [] 0 s).1] ∧ Hp B w w8 (.blk b4 [.slice a' (Sl.aput [] 0 s).1.length c', .int .i64 stamp] 88 :: ((.blk b2 [.slice none 0 0, .slice none 0 0, .int .i64 0] 30 :: .blk b1 (op12C ⟨kind, (k : Int), changed, o11, s, stamp⟩) 49 :: .blk b [.slice z.pa 12 z.pc, .slice z.qa 12 z.qc, .int .i64 (many : Int)] 30 :: rfL z pg pin) ++ T2)) := by
          rcases hT with ⟨h1, h2, h3, rfl⟩ | rfl
          · refine ⟨_, rfl, ?_⟩
            rw [h1, h2, h3] at K ⊢
            exact (K.nilS 123 2).perm (by
              show List.Perm (Sl.pO none 0 [] :: _) _
              (refine perm_cnt fun ff gg h0 hc ha hpm => ?_; simp only [ha, hc, h0]; omega))
          · exact ⟨_, rfl, K⟩
        obtain ⟨T2, hT2, K3⟩ := hT2
        have := laid w8 (a', c') ((Sl.aput [] 0 s).1, stamp.toNat) 0 T2 [.blk b4 [.slice a' (Sl.aput [] 0 s).1.length c', .int .i64 stamp] 88] R (.inr hT2) (K3.perm (by (refine perm_cnt fun ff gg h0 hc ha hpm => ?_; simp only [ha, hc, h0]; omega))) fun w' z' T G K hp => done _ _ _ hbase w' z' T G K hp
        rw [estamp] at this
        exact this
theorem qdo_spec (z : RW) (pg : Nat → AP) (pin : Nat → Nat) (many : Nat) (o : Op12) (hRP : ∀ n, Sl.RP (pg n).1) (hpin : ∀ n, pin n ≤ 1000000) (hst : 0 ≤ o.stamp) (w : World) (st : Std w (rfL z pg pin)) :
    Calls Tryz.prog 20 #[rfV z many, op12V o] w fun e w' => ∃ z', e = .returned (.tuple #[rfV z' many, .int .i64 (refDo many pg pin o).2.2]) ∧ Hp (feet (rfL z pg pin)) w w' (rfL z' (refDo many pg pin o).1 (refDo many pg pin o).2.1) := by
  refine (qdo_pure z pg pin many o hRP hpin hst w st).mono ?_
  rintro e w' ⟨z', T, G, rfl, K, hp⟩
  exact ⟨z', rfl, (K.perm hp).takeL⟩
end Go.Proofs.YtiagjabdfppgkaaGreat
