/- Folio: 'number', 'Head', 'joined'. -/
import Derived.Test.YtcgaobfbgfefhaaFe
set_option linter.unusedVariables false
set_option linter.unusedSimpArgs false
namespace Go.Proofs.Ytcgaobfbgfefhaa
open Go Go.Vc

theorem valN_snoc (l : List UInt8) (x : UInt8) : valN (l ++ [x]) = valN l * 256 + x.toNat := by simp [valN, List.foldl_append]
theorem valN_lt (l : List UInt8) : valN l < 256 ^ l.length := by
  have : ∀ (l : List UInt8) (a : Nat), l.foldl (fun n x => n * 256 + x.toNat) a < (a + 1) * 256 ^ l.length := by
    intro l
    induction l with
    | nil => intro a; simp
    | cons x r ih =>
      intro a
      have h1 := ih (a * 256 + x.toNat)
      have h2 := x.toNat_lt
      rw [List.foldl_cons, List.length_cons, Nat.pow_succ]
      have h3 : (a * 256 + x.toNat + 1) * 256 ^ r.length ≤ ((a + 1) * 256) * 256 ^ r.length := Nat.mul_le_mul_right _ (by omega)
      have h4 : (a + 1) * (256 ^ r.length * 256) = ((a + 1) * 256) * 256 ^ r.length := by rw [Nat.mul_comm (256 ^ r.length) 256, Nat.mul_assoc]
      omega
  simpa [valN] using this l 0
theorem num_small {l : List UInt8} (h : l.length ≤ 7) : num l = (valN l : Int) := by
  have h1 := valN_lt l
  have h2 : 256 ^ l.length ≤ 256 ^ 7 := Nat.pow_le_pow_right (by omega) h
  rw [num, wrap64_def, if_neg (by omega)]
  omega

theorem number_spec (b : Nat) (f : List Nat) (bs : List UInt8) (sh : Bool) (long : Nat) (h8 : long ≤ 8) (w : World) (h : (rdr b f bs sh).ok w) :
    Calls Go.Proofs.Try.prog 28 #[.pointer (some ⟨b, 0, none⟩), .int .i64 long] w fun e w' => e = .returned (.int .i64 (num (tk bs long))) ∧ Hp (b :: f) w w' [rdr b f (dr bs long) (sh || decide (bs.length < long))] := by
  apply number.ok
  unfold number.vc
  refine callV (text_spec b f bs sh long w h) ?_
  rintro e w1 ⟨rfl, H⟩
  have hl : (tk bs long).length ≤ 8 := by unfold tk; split <;> simp; omega
  have hmax : maxLen = 9223372036854775807 := by simp [maxLen]
  have hsz : (ByteArray.mk (tk bs long).toArray).size = (tk bs long).length := by simp [ByteArray.size]
  refine ⟨_, rfl, Hp.s2b H (by exact ⟨rfl, rfl, rfl, rfl⟩) und9 und53 und5 (by rw [hsz]; omega) ?_⟩
  clear H
  intro a c w2 H
  rw [byteCells_mk, hsz] at H
  rw [hsz]
  refine LoopP.mk (fun m s w' => ∃ k, m = (tk bs long).length - k ∧ s = (num ((tk bs long).take k), (k : Int)) ∧ k ≤ (tk bs long).length ∧ Hp (b :: f) w w' [.own 5 1 a (tk bs long).length c (bcells (tk bs long)), rdr b f (dr bs long) (sh || decide (bs.length < long))]) (tk bs long).length ⟨0, rfl, by simp [num, valN, wrap64_def], Nat.zero_le _, H⟩ ?_
  clear H
  rintro m s w' next ⟨k, rfl, rfl, hk, H⟩ hnext
  dsimp only
  refine br_dec (fun h1 => ?_) (fun h1 => ?_)
  · have hkl : k < (tk bs long).length := by omega
    have hc := (H.ownA (.head _)).cells
    obtain ⟨ad, had, hcell⟩ := hc k (.int .u8 ((tk bs long)[k].toNat : Int)) (by simp [bcells, List.getElem?_map, List.getElem?_eq_getElem hkl])
    refine onP_mk had ⟨⟨by omega, h1⟩, _, ld_cell scl5.agg (by rw [Nat.mul_one]; exact hcell), by omega, inR64.2 (by omega), ?_⟩
    refine hnext ((tk bs long).length - (k + 1)) _ _ (by omega) ⟨k + 1, rfl, ?_, by omega, H⟩
    rw [num, or_byte _ _ (tk bs long)[k].toNat_lt, List.take_succ_eq_append_getElem hkl, num, valN_snoc]
    simp
  · have hkl : k = (tk bs long).length := by omega
    subst hkl
    rw [List.take_length]
    exact ⟨rfl, H.drop⟩

def headF (l : List UInt8) : Option (Nat × Nat × Nat) :=
  if l.length < 6 ∨ 906 < l.length then none
  else if valN (l.take 4) < 1 ∨ 2147483647 < valN (l.take 4) ∨ valN ((l.drop 5).take 1) ≤ valN ((l.drop 4).take 1) then none
  else some (valN (l.take 4), valN ((l.drop 4).take 1), valN ((l.drop 5).take 1))
def headV : Option (Nat × Nat × Nat) → Value
  | none => .tuple #[.int .i64 0, .int .i64 0, .int .i64 0, .bool false]
  | some (a, b, c) => .tuple #[.int .i64 a, .int .i64 b, .int .i64 c, .bool true]

theorem head_spec (s : ByteArray) (w : World) : Calls Go.Proofs.Try.prog 21 #[.string s] w fun e w' => e = .returned (headV (headF s.data.toList)) ∧ Hp [] w w' [] := by
  have hs : s.data.toList.length = s.size := Array.length_toList
  have H := Hp.start w
  have hmax : maxLen = 9223372036854775807 := by simp [maxLen]
  apply head.ok
  unfold head.vc
  refine br_dec (fun h1 => ⟨by rw [headF, if_pos (by omega)]; rfl, H⟩) (fun h1 => br_dec (fun h2 => ⟨by rw [headF, if_pos (by omega)]; rfl, H⟩) (fun h2 => ?_))
  refine Hp.s2b H (by exact ⟨rfl, rfl, rfl, rfl⟩) und9 und53 und5 (by omega) ?_
  clear H
  intro a c w1 H
  intro b w2 hn
  replace H := H.new (by exact ⟨rfl, rfl, rfl, rfl⟩) hn
  clear hn
  have hown := H.ownA (.tail _ (.head _))
  have hok : (rdr b (blks a) s.data.toList false).ok w2 := by
    refine rdr_ok ⟨?_, a, c, ?_, hown.cells, by rw [hs]; exact hown.le.1, fun k hk => hk⟩ fun k hk => (hown.mem k hk).2
    · exact fun hb => (List.pairwise_cons.1 H.sep).1 _ (.head _) b (by simp [Asn.foot]) hb
    · rw [hs]; exact H.blk (.head _)
  have hsub : ∀ k ∈ b :: blks a, ∃ x ∈ [Asn.blk b [.slice a s.size c, .bool false] 64, .own 5 1 a s.size c (byteCells s)], k ∈ x.foot := by
    intro k hk
    rcases List.mem_cons.1 hk with rfl | hk
    · exact ⟨_, .head _, by simp [Asn.foot]⟩
    · exact ⟨_, .tail _ (.head _), hk⟩
  refine callV (number_spec b (blks a) s.data.toList false 4 (by omega) w2 hok) ?_
  rintro e w3 ⟨rfl, H'⟩
  replace H := Hp.use (L1 := [_, _]) (L2 := []) H H' hsub
  clear H'
  refine ⟨_, rfl, callV (number_spec b (blks a) _ _ 1 (by omega) w3 (H.ok _ (.head _))) ?_⟩
  rintro e w4 ⟨rfl, H'⟩
  replace H := H.use11 H'
  clear H'
  refine ⟨_, rfl, callV (number_spec b (blks a) _ _ 1 (by omega) w4 (H.ok _ (.head _))) ?_⟩
  rintro e w5 ⟨rfl, H'⟩
  replace H := H.use11 H'
  clear H'
  refine ⟨_, rfl, ?_⟩
  have e1 : tk s.data.toList 4 = s.data.toList.take 4 := by rw [tk, if_pos (by omega)]
  have e2 : dr s.data.toList 4 = s.data.toList.drop 4 := by rw [dr, if_pos (by omega)]
  have hl4 : (s.data.toList.drop 4).length = s.size - 4 := by rw [List.length_drop, hs]
  have e3 : tk (s.data.toList.drop 4) 1 = (s.data.toList.drop 4).take 1 := by rw [tk, if_pos (by omega)]
  have e4 : dr (s.data.toList.drop 4) 1 = s.data.toList.drop 5 := by rw [dr, if_pos (by omega), List.drop_drop]
  have hl5 : (s.data.toList.drop 5).length = s.size - 5 := by rw [List.length_drop, hs]
  have e5 : tk (s.data.toList.drop 5) 1 = (s.data.toList.drop 5).take 1 := by rw [tk, if_pos (by omega)]
  rw [e2, e4, e1, e3, e5]
  have ht : ∀ (x : List UInt8) (n : Nat), n ≤ 7 → num (x.take n) = (valN (x.take n) : Int) := fun x n hn => num_small (by rw [List.length_take]; omega)
  rw [ht _ 4 (by omega), ht _ 1 (by omega), ht _ 1 (by omega)]
  have en : ¬ (s.data.toList.length < 6 ∨ 906 < s.data.toList.length) := by omega
  refine br_dec (fun h3 => ⟨by rw [headF, if_neg en, if_pos (by omega)]; rfl, H.done⟩) (fun h3 => br_dec (fun h4 => ⟨by rw [headF, if_neg en, if_pos (by omega)]; rfl, H.done⟩) (fun h4 => br_dec (fun h5 => ⟨by rw [headF, if_neg en, if_pos (by omega)]; rfl, H.done⟩) (fun h5 => ⟨by rw [headF, if_neg en, if_neg (by omega)]; rfl, H.done⟩)))
end Go.Proofs.Ytcgaobfbgfefhaa
