/- Slate: the laws of what fills, of stamps. -/
import Derived.Test.YtmaocnnhfmledaaSl
set_option linter.unusedVariables false
set_option linter.unusedSimpArgs false
set_option maxRecDepth 100000
namespace Go.Proofs.Ytmaocnnhfmledaa
open Go Go.Vc
theorem elt37 : Elt Go.Proofs.Try.prog 37 5 1 1 := elt_of (by kernel_rfl)

theorem made_zeros (n : Nat) : (madeCells (Value.int .u8 0).cells (n * 1)).toList = List.replicate n (Value.int .u8 0) := by
  apply List.ext_getElem?
  intro k
  rw [Nat.mul_one]
  by_cases hk : k < n
  · have : (madeCells (Value.int .u8 0).cells n).toList.length = n := by rw [Array.length_toList, size_madeCells]
    rw [List.getElem?_eq_getElem (by omega), List.getElem?_replicate, if_pos hk]
    simp [madeCells, Value.cells, Nat.mod_one]
  · rw [List.getElem?_eq_none (by rw [Array.length_toList, size_madeCells]; omega), List.getElem?_replicate, if_neg hk]
theorem ff_key : ∀ (l : List Nat) (a : Nat), l.Pairwise (· < ·) → (∀ k ∈ l, a ≤ k) → a ≤ ff l a ∧ ff l a ∉ l := by
  intro l
  induction l with
  | nil => intro a _ _; exact ⟨Nat.le_refl _, by simp⟩
  | cons k r ih =>
    intro a hp hge
    obtain ⟨p1, p2⟩ := List.pairwise_cons.1 hp
    have hka := hge k (.head _)
    rw [ff]
    by_cases hk : k = a
    · rw [if_pos hk]
      obtain ⟨i1, i2⟩ := ih (a + 1) p2 fun j hj => by have := p1 j hj; omega
      refine ⟨by omega, fun hm => ?_⟩
      rcases List.mem_cons.1 hm with e | m
      · omega
      · exact i2 m
    · rw [if_neg hk]
      have hr : ∀ j ∈ r, a + 1 ≤ j := fun j hj => by have := p1 j hj; omega
      have hfr : ∀ (r : List Nat) , (∀ j ∈ r, a + 1 ≤ j) → ff r a = a := by
        intro r
        induction r with
        | nil => intro _; rfl
        | cons x r ihr =>
          intro hx
          have := hx x (.head _)
          rw [ff, if_neg (by omega)]
          exact ihr fun j hj => hx j (.tail _ hj)
      rw [hfr r hr]
      refine ⟨Nat.le_refl _, fun hm => ?_⟩
      rcases List.mem_cons.1 hm with e | m
      · exact hk e.symm
      · have := hr a m; omega
theorem ff_not {L : Recs} (hs : L.Pairwise fun a b => a.1 < b.1) : ∀ s, (ff (L.map (·.1)) 0, s) ∉ L := fun s hm =>
  (ff_key (L.map (·.1)) 0 (by rw [List.pairwise_map]; exact hs) fun _ _ => Nat.zero_le _).2 (List.mem_map_of_mem (f := (·.1)) hm)
theorem ains_err {g : Pg} {L : Recs} {st : Nat} (hR : Rep g L st) (s : List UInt8) : (ains L s).2.2 = if tot L + s.length ≤ 3600 ∧ L.length < 120 then 0 else 111 := by
  have hrp := hR.rp
  have hlen := hrp.len
  have hle := ff_le (L.map (·.1)) 0
  rw [List.length_map] at hle
  have hnot := ff_not hrp.sorted
  unfold ains
  simp only
  by_cases hl : L.length < 120
  · rw [if_neg (by omega)]
    have e : aput L ((ff (L.map (·.1)) 0 : Nat) : Int) s = if 3600 < tot L + s.length then (L, 111) else (insR (ff (L.map (·.1)) 0, s) L, 0) := by
      rw [aput, if_neg (by omega), Int.toNat_natCast, wo_none hnot]
    rw [e]
    by_cases hf : 3600 < tot L + s.length
    · rw [if_pos hf]
      show (111 : Int) = _
      rw [if_neg (by omega)]
    · rw [if_neg hf]
      show (0 : Int) = _
      rw [if_pos ⟨by omega, hl⟩]
  · have hm := hR.ok.many
    have hlv := hR.live_eq
    have h1 := live_len g g.many
    have h2 : (live g g.many).length = L.length := by rw [hlv, List.length_map]
    have hall : ∀ j : Nat, j < 120 → (lk L (j : Int)).isSome = true := by
      have h3 : ((List.range g.many).filter fun j => decide (0 < atOf g j)).length = (List.range g.many).length := by
        rw [List.length_range]
        have : (live g g.many).length = g.many := by omega
        exact this
      have h4 := List.length_filter_eq_length_iff.1 h3
      intro j hj
      obtain ⟨s, hs⟩ := hR.mem_live.1 ⟨show j < g.many by omega, by have := h4 j (List.mem_range.2 (by omega)); simpa using this⟩
      rw [lk_some hrp.sorted hs]; rfl
    have := ff_full hrp.sorted hlen hall
    rw [if_pos this, if_neg (by omega)]

set_option maxHeartbeats 1000000 in
theorem slateFills_law (sa : Option Addr) (sc : Nat) (ops : List Op') (long : Int) (w : World) (hs : Cells w sa (opC ops)) :
    Calls Go.Proofs.Try.prog 3 #[.slice sa ops.length sc, .int .i64 long] w fun e w' => e = .returned (.bool true) ∧ Hp [] w w' [] := by
  apply slateFills.ok
  unfold slateFills.vc
  have H := Hp.start w
  have hmax : maxLen = 9223372036854775807 := by simp [maxLen]
  refine callV (new_any _) ?_
  rintro e w1 ⟨p, rfl, H'⟩; replace H := H.ext1 H'; clear H'
  refine ⟨_, rfl, _, eqv_ptrE und23, br_mk (fun h => by cases h) (fun _ => ?_)⟩
  have quick : ∃ b, Eqv Go.Proofs.Try.prog .neq 23 (Operand.tmp 27) (Operand.const (.pointer none)) w1 (.pointer (some ⟨p, 0, none⟩)) (.pointer none) b ∧ br b (CallV Go.Proofs.Try.prog 9 [] w1 fun e w' => ∃ b, e = .returned (.bool b) ∧ (fun e w' => e = Ending.returned (.bool true) ∧ Hp [] w w' []) (.returned (.bool b)) w') ((fun e w' => e = Ending.returned (.bool true) ∧ Hp [] w w' []) (.returned (.bool false)) w1) := by
    refine ⟨_, eqv_ptrN und23, br_mk (fun _ => ?_) (fun h => by cases h)⟩
    refine callV (alive_spec _) ?_
    rintro e w2 ⟨rfl, H'⟩; replace H := H.ext0 H'; clear H'
    exact ⟨_, rfl, rfl, H.done⟩
  refine br_dec (fun _ => quick) (fun hl => br_dec (fun _ => quick) (fun h0 => br_dec (fun _ => quick) (fun h5 => ?_)))
  clear quick
  refine callV (plays_new (w' := w) H sa sc ops (by omega) hs) ?_
  clear H
  rintro e w2 ⟨a', c', g', rfl, hR, H⟩
  refine ⟨_, _, _, _, _, rfl, ?_⟩
  obtain ⟨N, rfl⟩ : ∃ N : Nat, long = N := ⟨long.toNat, by omega⟩
  refine LoopP.mk (fun m s w' => ∃ (j : Nat) (g' : Pg) (L : Recs) (st : Nat), m = 121 - j ∧ j ≤ 121 ∧ s = (j : Int) ∧ Rep g' L st ∧ Hp [] w w' [pgA p g']) 121 ⟨0, g', _, _, rfl, by omega, rfl, hR, H.done1⟩ ?_
  clear H hR
  rintro m s w3 next ⟨j, g', L, st, rfl, hj, rfl, hR, H⟩ hnext
  have hsm := hR.small
  refine br_dec (fun h1 => ?_) (fun h1 => ?_)
  · refine callV (room_any hR (H.ok _ (.head _))) ?_
    rintro e w4 ⟨rfl, H'⟩; replace H := H.ext0 H'; clear H'
    refine ⟨_, rfl, ?_⟩
    refine callV (slots_any hR (H.ok _ (.head _))) ?_
    rintro e w5 ⟨a5, c5, rfl, H'⟩; replace H := (H.ext1 H').drop; clear H'
    refine ⟨_, _, _, rfl, ?_⟩
    refine Hp.mkS elt37 H (by exact ⟨rfl, rfl, rfl, rfl⟩) (by omega) (by omega) (by omega) zero5 ?_
    clear H
    intro a6 w6 H
    rw [Int.toNat_natCast, made_zeros, bcells_zero] at H
    rw [Int.toNat_natCast]
    refine ⟨⟨(List.replicate N 0).toArray⟩, b2s und37 und5 und9 (by rw [byteCells_mk]; exact (H.ownA (.head _)).cells) (by rw [mk_size, List.length_replicate]), ?_⟩
    replace H := H.drop
    refine callV (insert_any hR (H.ok _ (.head _)) (List.replicate N 0)) ?_
    rintro e w7 ⟨rfl, g7, hR7, H'⟩; replace H := Hp.use11 (a := pgA p g') H H'; clear H'
    refine ⟨_, _, rfl, ?_⟩
    have hae := ains_err hR (List.replicate N 0)
    rw [List.length_replicate] at hae
    rw [hae]
    have hnx : next ((j : Int) + 1) w7 := hnext (121 - (j + 1)) _ _ (by omega) ⟨j + 1, g7, _, _, rfl, by omega, by omega, hR7, H⟩
    have hin : inR .i64 ((j : Int) + 1) := inR64.2 (by omega)
    refine br_dec (fun h2 => ?_) (fun h2 => ?_)
    · by_cases h3 : L.length < 120
      · rw [if_pos ⟨by omega, h3⟩, decide_eq_true (show ((L.length : Nat) : Int) < 120 by omega)]
        exact ⟨hin, hnx⟩
      · rw [if_neg (by omega), decide_eq_false (show ¬ ((L.length : Nat) : Int) < 120 by omega)]
        exact ⟨hin, hnx⟩
    · rw [if_neg (by omega)]
      exact ⟨hin, hnx⟩
  · refine callV (alive_spec _) ?_
    rintro e w4 ⟨rfl, H'⟩; replace H := H.ext0 H'; clear H'
    refine ⟨_, rfl, br_true ?_⟩
    refine callV (room_any hR (H.ok _ (.head _))) ?_
    rintro e w5 ⟨rfl, H'⟩; replace H := H.ext0 H'; clear H'
    refine ⟨_, rfl, ?_, H.done⟩
    rw [decide_eq_true (by omega)]
end Go.Proofs.Ytmaocnnhfmledaa
