/- Redo: records are told apart. -/
import Derived.Test.YtjbopmbffajknaaRf
set_option linter.unusedVariables false
set_option linter.unusedSimpArgs false
set_option maxRecDepth 100000
namespace Go.Proofs.Ytjbopmbffajknaa
open Go Go.Vc Go.Vault Go.Redo

theorem undU8 : Go.Proofs.Try.prog.underlying 5 = some (.int .u8) := by kernel_rfl
def RecPost (r : Option (List ByteArray)) (w : World) (e : Ending) (w' : World) : Prop := match r with
  | some l => ∃ a c, e = .returned (.tuple #[.slice a l.length c, .bool true]) ∧ Hp [] w w' [.own 9 1 a l.length c (l.map .string)]
  | none => e = .returned (.tuple #[.slice none 0 0, .bool false]) ∧ Hp [] w w' []
theorem rec_none {r : Option (List ByteArray)} (h : r = none) {w w' : World} {L : List Asn} (H : Hp [] w w' L) : RecPost r w (.returned (.tuple #[.slice none 0 0, .bool false])) w' := by
  subst h; exact ⟨rfl, H.done⟩
set_option maxHeartbeats 1000000 in
theorem records_spec (a : Option Addr) (c : Nat) (bs : List UInt8) (hcap : bs.length ≤ c) (hl : bs.length ≤ 1000000000) (w : World) (hc : Cells w a (bcells bs)) :
    Calls Go.Proofs.Try.prog 50 #[.slice a bs.length c] w (RecPost (records bs) w) := by
  apply records.ok; unfold records.vc
  refine LoopP.mk (fun m s w' => ∃ (a1 : Option Addr) (c1 : Nat) (bs1 : List UInt8) (ta : Option Addr) (tc : Nat) (l1 : List ByteArray) (m1 : Nat), m = bs1.length ∧ s = ((a1, bs1.length, c1), (ta, l1.length, tc)) ∧ Cells w a1 (bcells bs1) ∧ bs1.length ≤ c1 ∧ bs1.length ≤ m1 ∧
    l1.length + bs1.length ≤ bs.length ∧ Redo.records bs = (recordsF m1 bs1).map (l1 ++ ·) ∧ Hp [] w w' [.own 9 1 ta l1.length tc (l1.map .string)]) bs.length
    ⟨a, c, bs, none, 0, [], bs.length, rfl, rfl, hc, hcap, Nat.le_refl _, by simp, by rw [Redo.records]; simp, (Hp.start w).nilS _ _⟩ ?_
  rintro m s w1 next ⟨a1, c1, bs1, ta, tc, l1, m1, rfl, rfl, hc1, hcap1, hm1, hsum, hrec, H⟩ hnext
  refine br_dec (fun h3 => ?_) (fun h3 => ?_)
  · simp only at h3 ⊢
    have hne : bs1 ≠ [] := by rintro rfl; simp at h3
    obtain ⟨m2, rfl⟩ : ∃ m2, m1 = m2 + 1 := ⟨m1 - 1, by omega⟩
    rw [recordsF, if_neg hne] at hrec
    refine br_dec (fun h4 => ?_) (fun h4 => ?_)
    · rw [if_pos (by omega)] at hrec
      exact rec_none hrec H
    rw [if_neg (by omega)] at hrec
    refine ⟨⟨by omega, by omega⟩, ?_⟩
    have l4 : (bs1.take 4).length = 4 := by rw [List.length_take]; omega
    have e4 : (bcells bs1).take 4 = bcells (bs1.take 4) := by simp only [bcells, List.map_take]
    have ht := take_spec a1 (bs1.take 4) c1 (by omega) w1 (by rw [← e4]; exact (hc1.chg H.chg (by simp)).take 4)
    rw [l4] at ht
    have hlt := valN_lt (bs1.take 4)
    rw [l4] at hlt
    refine callV ht ?_
    rintro e w2 ⟨rfl, H'⟩
    replace H := H.ext0 H'; clear H' ht
    refine ⟨_, rfl, ?_⟩
    obtain ⟨n, hn⟩ : ∃ n, n = valN (bs1.take 4) := ⟨_, rfl⟩
    rw [← hn] at hrec hlt ⊢
    have hn2 : n < 4294967296 := hlt
    have hw : IntKind.i64.wrap (n : Int) = (n : Int) := wrap64_id (by omega)
    rw [hw]
    refine br_dec (fun h5 => ?_) (fun h5 => ?_)
    · rw [if_pos (by omega)] at hrec
      exact rec_none hrec H
    rw [if_neg (by omega)] at hrec
    refine ⟨inR64.2 (by omega), ?_⟩
    refine br_dec (fun h6 => ?_) (fun h6 => ?_)
    · rw [if_pos (by omega)] at hrec
      exact rec_none hrec H
    rw [if_neg (by omega)] at hrec
    refine ⟨inR64.2 (by omega), ⟨by omega, by omega, by omega⟩, ?_⟩
    have t1 : Int.toNat (4 + (n : Int)) = 4 + n := by omega
    have t2 : Int.toNat (4 : Int) = 4 := rfl
    rw [t1, t2]
    have hcs : Cells w2 (slA a1 c1 4 1) (bcells ((bs1.drop 4).take n)) := by
      have h7 := ((hc1.chg H.chg (by simp)).slA (c := c1) (i := 4) (by rw [bcells_length]; omega)).take n
      have e7 : ((bcells bs1).drop 4).take n = bcells ((bs1.drop 4).take n) := by simp only [bcells, List.map_take, List.map_drop]
      rw [e7] at h7; exact h7
    have lr : ((bs1.drop 4).take n).length = n := by rw [List.length_take, List.length_drop]; omega
    refine ⟨⟨((bs1.drop 4).take n).toArray⟩, b2s undSU8 undU8 undStr (by rw [byteCells_mk]; exact hcs) (by show 4 + n - 4 = ((bs1.drop 4).take n).toArray.size; rw [List.size_toArray, lr]; omega), ?_⟩
    intro b w3 hnw; replace H := H.new (cs := [.string ⟨((bs1.drop 4).take n).toArray⟩]) (by exact ⟨rfl, rfl, rfl, rfl⟩) hnw; clear hnw
    refine Hp.app eltT (by omega) H.pull1 (by exact ⟨rfl, rfl, rfl, rfl⟩) (Blk.src (n := 1) undST (H.blk (.head _)) (by simp) (by rfl)) (by simp only [maxLen]; omega) (by omega) ?_
    clear H; intro a5 c5 w5 H
    refine ⟨inR64.2 (by omega), ⟨by omega, by omega⟩, ?_⟩
    have ld : (bs1.drop (4 + n)).length = bs1.length - (4 + n) := List.length_drop
    refine hnext (bs1.drop (4 + n)).length _ _ (by omega) ⟨_, _, bs1.drop (4 + n), a5, c5, l1 ++ [⟨((bs1.drop 4).take n).toArray⟩], m2, rfl, by rw [ld, List.length_append]; rfl, ?_, by omega, by omega, by rw [List.length_append, ld]; simp; omega, ?_, ?_⟩
    · have h7 := hc1.slA (c := c1) (i := 4 + n) (by rw [bcells_length]; omega)
      have e7 : (bcells bs1).drop (4 + n) = bcells (bs1.drop (4 + n)) := by simp only [bcells, List.map_drop]
      rw [e7] at h7; exact h7
    · rw [hrec, Option.map_map]
      congr 1; funext q
      simp
    · rw [List.length_append, List.map_append]
      exact H.done1
  · simp only at h3 ⊢
    have hb : bs1 = [] := List.eq_nil_of_length_eq_zero (by omega)
    subst hb
    have hr : Redo.records bs = some l1 := by
      rw [hrec]
      cases m1 <;> simp [recordsF]
    rw [hr]
    exact ⟨_, _, rfl, H⟩
end Go.Proofs.Ytjbopmbffajknaa
