/- Press: the law of PressLong. -/
import Derived.Test.YtdpkamajecmebaaQe
set_option linter.unusedVariables false
set_option linter.unusedSimpArgs false
set_option maxRecDepth 100000
namespace Go.Proofs.Ytdpkamajecmebaa
open Go Go.Vc Go.Vault Go.Redo Go.Press

theorem pright_spec (n : ByteArray) (w : World) : Calls Go.Proofs.Try.prog 11 #[.string n] w fun e w' => e = .returned (.bool (nright n)) ∧ Hp [] w w' [] := by
  apply pright.ok; unfold pright.vc nright
  refine br_dec (fun h => ?_) (fun h => ?_)
  · rw [decide_eq_true (p := 1 ≤ n.size) (by omega), Bool.true_and]
    have : decide ((n.size : Int) ≤ 50) = decide (n.size ≤ 50) := by rw [decide_eq_decide]; omega
    rw [this]
    exact ⟨rfl, Hp.start w⟩
  · rw [decide_eq_false (p := 1 ≤ n.size) (by omega), Bool.false_and]
    exact ⟨rfl, Hp.start w⟩
theorem qzeroU8 : zeroOf Go.Proofs.Try.prog 5 = some (.int .u8 0) := by kernel_rfl
theorem made_bcells (k : Nat) : (madeCells (Value.int .u8 0).cells (k * 1)).toList = bcells (List.replicate k 0) := by
  rw [Nat.mul_one]
  have e : (Value.int .u8 0).cells = #[.int .u8 0] := rfl
  apply List.ext_getElem?
  intro i
  rw [Array.getElem?_toList, e, madeCells]
  by_cases h : i < k
  · simp [h, bcells, Nat.mod_one]
  · simp [h, bcells]

set_option maxHeartbeats 1000000 in
theorem pressLong_law (n : ByteArray) (more : Int) (W : World) : Calls Go.Proofs.Try.prog 5 #[.string n, .int .i64 more] W fun e W' => e = .returned (.bool true) ∧ Hp [] W W' [] := by
  apply pressLong.ok; unfold pressLong.vc
  have H := Hp.start W
  refine callV (new_spec 100 W) ?_
  rintro e w1 ⟨x, rfl, hx, H'⟩
  replace H := H.ext H'; clear H'
  rw [List.append_nil] at H
  refine ⟨_, rfl, _, eqv_ptrE undPD, br_false ?_⟩
  refine br_dec (fun _ => ⟨_, eqv_ptrN undPD, br_true (aliveRet H)⟩) (fun h1 => ?_)
  refine br_dec (fun _ => ⟨_, eqv_ptrN undPD, br_true (aliveRet H)⟩) (fun h2 => ?_)
  refine callV (pright_spec n w1) ?_
  rintro e w2 ⟨rfl, H'⟩
  replace H := H.ext0 H'; clear H'
  refine ⟨_, rfl, br_not (fun _ => ⟨_, eqv_ptrN undPD, br_true (aliveRet H)⟩) (fun hr => ?_)⟩
  refine ⟨inR64.2 (by omega), ?_⟩
  obtain ⟨k, hk⟩ : ∃ k : Nat, 1048576 + more = (k : Int) := ⟨(1048576 + more).toNat, by omega⟩
  rw [hk]
  have hk2 : 1048576 < k ∧ k ≤ 1049576 := by omega
  refine Hp.mkS qeltU8 H (by exact ⟨rfl, rfl, rfl, rfl⟩) (by omega) (by rw [Int.toNat_natCast]; simp only [maxLen]; omega) (by omega) qzeroU8 ?_
  clear H; intro a w3 H
  rw [Int.toNat_natCast, made_bcells] at H
  have hcl := (H.ownA (.head _)).cells
  have hsz : (ByteArray.mk (List.replicate k (0 : UInt8)).toArray).size = k := by simp [ByteArray.size]
  refine ⟨_, b2s (s := ⟨(List.replicate k 0).toArray⟩) undBS undU8s qundStr (by rw [byteCells_mk]; exact hcl) (by rw [hsz, Int.toNat_natCast]), ?_⟩
  generalize ByteArray.mk (List.replicate k (0 : UInt8)).toArray = t at hsz ⊢
  replace H := H.drop
  have hd : dexport (Dk.new 100) n t = (Dk.new 100, 91) := by
    unfold dexport
    rw [hr, if_neg (by simp), if_pos (by omega)]
  have he := export_spec x (Dk.new 100) hx (new_fit 100 0) (by omega) n t w3 H.std
  rw [hd] at he
  refine callV he ?_
  clear he
  rintro e w4 ⟨rfl, x1, hx1b, hx1, H'⟩
  replace H := H.useAll H'; clear H'
  refine ⟨_, rfl, ?_⟩
  refine callV (alive_spec w4) ?_
  rintro e w5 ⟨rfl, H'⟩
  replace H := H.ext0 H'; clear H'
  refine ⟨_, rfl, br_true (br_true ?_)⟩
  have hn := names_spec x1 (Dk.new 100) hx1 (by decide) w5 H.std
  rw [hx1b] at hn
  refine callV hn ?_
  rintro e w6 ⟨a6, c6, rfl, H'⟩
  replace H := H.ext1 H'; clear H'
  exact ⟨_, _, _, rfl, rfl, H.done⟩
end Go.Proofs.Ytdpkamajecmebaa
