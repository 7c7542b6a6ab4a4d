/- Press: Import. -/
import Derived.Test.YtdpkamajecmebaaQc
set_option linter.unusedVariables false
set_option linter.unusedSimpArgs false
set_option maxRecDepth 100000
namespace Go.Proofs.Ytdpkamajecmebaa
open Go Go.Vc Go.Vault Go.Redo Go.Press

theorem valN_grow (b : List UInt8) : ∀ (j i : Nat), i + j ≤ b.length → valN (b.take i) ≤ valN (b.take (i + j))
  | 0, i, _ => Nat.le_refl _
  | j + 1, i, h => by
    have h1 := valN_grow b j i (by omega)
    have h2 := valN_take_succ b (i + j) (by omega)
    rw [show i + (j + 1) = i + j + 1 by omega, h2]
    omega
theorem many_spec (ba : Option Addr) (bc : Nat) (b : List UInt8) (w : World) (hc : Cells w ba (bcells b)) (hl : 8 ≤ b.length) (hbc : b.length ≤ bc) :
    Calls Go.Proofs.Try.prog 37 #[.slice ba b.length bc] w fun e w' => (∃ v : Nat, e = .returned (.int .i64 (v : Int)) ∧ (v = many8 b ∨ 1048576 < v ∧ 1048576 < many8 b)) ∧ Hp [] w w' [] := by
  apply many.ok; unfold many.vc
  refine ⟨⟨by omega, by omega⟩, ?_⟩
  obtain ⟨ad, had⟩ := hc.some (by intro h; have := congrArg List.length h; rw [bcells_length, List.length_nil] at this; omega)
  refine LoopP.mk (fun m s w' => ∃ i : Nat, m = 8 - i ∧ i ≤ 8 ∧ s = ((valN (b.take i) : Int), (i : Int)) ∧ w' = w) 8 ⟨0, rfl, by omega, rfl, rfl⟩ ?_
  rintro m s w1 next ⟨i, rfl, hi, rfl, rfl⟩ hnext
  refine br_dec (fun h => ?_) (fun h => ?_)
  · dsimp only at h ⊢
    have hi8 : i < 8 := by omega
    have hlt : i < b.length := by omega
    have hld : (bcells b)[i]? = some (.int .u8 (b[i].toNat : Int)) := by simp [bcells, hlt]
    have hld := hc.ld sclU8 had hld
    have e1 : Int.toNat (i : Int) * 1 = i := by omega
    refine onP_mk had ⟨⟨by omega, by omega⟩, _, by rw [e1]; exact hld, br_dec (fun h2 => ?_) (fun h2 => ?_)⟩
    · refine ⟨⟨valN (b.take i), rfl, .inr ⟨by omega, ?_⟩⟩, Hp.start _⟩
      have := valN_grow b (8 - i) i (by omega)
      rw [show i + (8 - i) = 8 by omega] at this
      show 1048576 < valN (b.take 8)
      omega
    · have hsm : valN (b.take i) ≤ 1048576 := by omega
      have hb := b[i].toNat_lt
      refine ⟨by omega, ?_, inR64.2 (by omega), hnext (8 - (i + 1)) _ _ (by omega) ⟨i + 1, rfl, by omega, ?_, rfl⟩⟩
      · have e2 : (2 : Int) ^ min (Int.toNat 8) (IntKind.bits .i64) = 256 := by decide
        rw [e2]; exact inR64.2 (by omega)
      · rw [or_byte2 _ _ (by omega) (by omega), valN_take_succ b i hlt]
        rfl
  · have hi8 : i = 8 := by omega
    subst hi8
    exact ⟨⟨_, rfl, .inl rfl⟩, Hp.start _⟩
theorem read512 {d : Dk} (hok : d.Ok) {n : ByteArray} {i : Int} (h : (d.read n i).2 = 0) : (d.read n i).1.length = 512 := by
  cases hd : d.dead with
  | true => simp [Dk.read, hd] at h
  | false =>
    cases hk : d.find n with
    | none => simp [Dk.read, hd, hk] at h
    | some k =>
      by_cases hi : i < 0 ∨ (d.len k : Int) ≤ i
      · simp [Dk.read, hd, hk, hi] at h
      · have e : d.read n i = ((d.file k).now.getD i.toNat [], 0) := by simp only [Dk.read, hd, hk, Bool.false_eq_true, if_false, if_neg hi]
        rw [e]
        have hlt : i.toNat < (d.file k).now.length := by
          have : d.len k = (d.file k).now.length := rfl
          omega
        have hf := hok.find hk
        have hm : d.file k ∈ d.files := by
          rw [Dk.file, List.getD_eq_getElem?_getD, List.getElem?_eq_getElem hf]
          exact List.getElem_mem _
        show ((d.file k).now.getD i.toNat []).length = 512
        rw [List.getD_eq_getElem?_getD, List.getElem?_eq_getElem hlt]
        exact (hok.files _ hm).now _ (List.getElem_mem _)
theorem size_le {d : Dk} {N : Nat} (h : d.Fit N) (n : ByteArray) : -1 ≤ d.size n ∧ d.size n ≤ N := by
  unfold Dk.size
  split
  · rename_i k _
    have := Fit.file h k
    exact ⟨by omega, by show ((d.file k).now.length : Int) ≤ N; omega⟩
  · omega
theorem own_pos {w : World} {e : TypeId} {sz n c : Nat} {a : Option Addr} {xs : List Value} (h : Own w 0 e sz a n c xs) (hn : 0 < n) : ∃ ad, a = some ad := by
  rcases h.2 with ⟨_, h, _⟩ | ⟨g, _, _, rfl, _⟩
  · omega
  · exact ⟨_, rfl⟩
theorem Hp.cellsSt {B : List Nat} {w0 w : World} {L1 L2 : List Asn} {e : TypeId} {sz n c : Nat} {a : Option Addr} {xs : List Value} (H : Hp B w0 w (L1 ++ L2)) (m : Asn.own e sz a n c xs ∈ L2) : ∀ W, Chg (feet L1) w W → Cells W a xs := fun W hW =>
  (H.ownA (List.mem_append_right _ m)).cells.chg hW fun k hk hf => by
    obtain ⟨b, hb, h2⟩ := mem_feet.1 hf
    exact (List.pairwise_append.1 H.sep).2.2 b hb _ m k h2 hk

set_option maxHeartbeats 1000000 in
theorem import_spec (x : DW) (d : Dk) (hok : x.Ok d) {N : Nat} (fit : d.Fit N) (hN : N ≤ 1000000) (n : ByteArray) (w : World) (st : Std w (dkL x d)) :
    Calls Go.Proofs.Try.prog 16 #[.pointer (some ⟨x.b, 0, none⟩), .string n] w fun e w' => e = .returned (.tuple #[.string ⟨(dimport d n).1.toArray⟩, .int .i64 (dimport d n).2]) ∧ Hp [] w w' [] := by
  apply import_.ok; unfold import_.vc
  have stw : ∀ w', Chg [] w w' → Std w' (dkL x d) := fun w' h => ((Hp.startL st).chg0 h).std
  have H := Hp.start w
  refine callV (file_spec n w) ?_
  rintro e w1 ⟨rfl, H'⟩
  replace H := H.ext0 H'; clear H'
  refine ⟨_, _, rfl, br_not (fun h => ?_) (fun h => ?_)⟩
  · have e0 : dimport d n = ([], 92) := by unfold dimport; rw [h]; rfl
    rw [e0]; exact ⟨rfl, H⟩
  rw [h, if_pos rfl]
  refine callV (read_spec x d hok (pfile n) 0 w1 (stw _ H.chg)) ?_
  rintro e w2 ⟨a, c, rfl, H'⟩
  replace H := H.ext1 H'; clear H'
  have e0 : dimport d n = if (d.read (pfile n) 0).2 = 0 then
    if 1048576 < many8 (d.read (pfile n) 0).1 ∨ (d.size (pfile n) - 1) * 512 < many8 (d.read (pfile n) 0).1 then ([], 91) else gat d (pfile n) (many8 (d.read (pfile n) 0).1) (many8 (d.read (pfile n) 0).1 + 1) 1 []
    else ([], (d.read (pfile n) 0).2) := by unfold dimport; rw [h]; rfl
  rw [e0]; clear e0
  refine ⟨_, _, _, _, rfl, br_not (fun h2 => ?_) (fun h2 => ?_)⟩
  · rw [if_neg (of_decide_eq_false h2)]; exact ⟨rfl, H.done⟩
  have h2 := of_decide_eq_true h2
  rw [if_pos h2]
  have h512 := read512 hok.dk h2
  have hown := H.ownA (.head _)
  refine callV (many_spec a c _ w2 hown.cells (by omega) hown.le.1) ?_
  rintro e w3 ⟨⟨v, rfl, hv⟩, H'⟩
  replace H := H.ext0 H'; clear H' hown
  generalize many8 (d.read (pfile n) 0).1 = M at hv ⊢
  refine ⟨_, rfl, br_dec (fun h3 => ?_) (fun h3 => ?_)⟩
  · rw [if_pos (.inl (by omega))]; exact ⟨rfl, H.done⟩
  have hvM : v = M := by omega
  subst hvM
  clear hv
  refine callV (size_spec x d hok (pfile n) w3 (stw _ H.chg)) ?_
  rintro e w4 ⟨rfl, H'⟩
  replace H := H.ext0 H'; clear H'
  have hsz := size_le fit (pfile n)
  refine ⟨_, rfl, inR64.2 (by omega), inR64.2 (by omega), br_dec (fun h4 => ?_) (fun h4 => ?_)⟩
  · rw [if_pos (.inr h4)]; exact ⟨rfl, H.done⟩
  rw [if_neg (by omega)]
  replace H := H.done
  intro b w5 hn
  -- the builder's own world
  have K : Hp [] w4 w5 (sbL b false none 0 0 []) := ((Hp.start w4).add (a' := rowA none 0 0 []) (Chg.refl _ _) (row_ok (World.ownsRow_nil _ _ _ _)) (by simp [rowA, Asn.foot, blks])).new (by exact ⟨rfl, rfl, rfl, rfl⟩) hn
  clear hn
  refine LoopP.mk (fun m s w' => ∃ (k : Nat) (bs : List UInt8) (u : Bool) (a : Option Addr) (c : Nat), s = (k : Int) ∧ k + m = v + 2 ∧ bs.length ≤ v ∧ v < m + bs.length ∧ gat d (pfile n) v m k bs = gat d (pfile n) v (v + 1) 1 [] ∧ Hp [] w4 w' (sbL b u a bs.length c (bcells bs))) (v + 1) ⟨1, [], false, none, 0, rfl, by omega, by simp, by simp, rfl, K⟩ ?_
  clear K
  rintro m s w6 next ⟨k, bs, u, a1, c1, rfl, hkm, hle, hlt, hg, K⟩ hnext
  obtain ⟨m, rfl⟩ : ∃ m', m = m' + 1 := ⟨m - 1, by omega⟩
  refine callV (sbLen_spec b _ a1 bs.length c1 w6 (K.blk (.head _))) ?_
  rintro e w7 ⟨rfl, H'⟩
  replace K := K.ext0 H'; clear H'
  refine ⟨_, rfl, br_dec (fun h5 => ?_) (fun h5 => ?_)⟩
  · refine callV (read_spec x d hok (pfile n) (k : Int) w7 (stw _ (H.chg.ext K.chg))) ?_
    rintro e w8 ⟨a2, c2, rfl, H'⟩
    replace K := K.ext1 H'; clear H'
    rw [gat, if_neg (by omega)] at hg
    refine ⟨_, _, _, _, rfl, br_not (fun h6 => ?_) (fun h6 => ?_)⟩
    · rw [if_neg (of_decide_eq_false h6)] at hg
      rw [← hg]; exact ⟨rfl, H.ext0 K.done⟩
    · have h6 := of_decide_eq_true h6
      rw [if_pos h6] at hg
      have h512 := read512 hok.dk h6
      have hown := K.ownA (.head _)
      obtain ⟨ad, rfl⟩ := own_pos hown (by omega)
      have hc2 := hown.le
      refine callV (sbLen_spec b _ a1 bs.length c1 w8 (K.blk (.tail _ (.head _)))) ?_
      rintro e w9 ⟨rfl, H'⟩
      replace K := K.ext0 H'; clear H' hown
      refine ⟨_, rfl, inR64.2 (by omega), ⟨by omega, by omega⟩, ?_⟩
      have e1 : Int.toNat (min ((d.read (pfile n) (k : Int)).1.length : Int) ((v : Int) - (bs.length : Int))) = ((d.read (pfile n) (k : Int)).1.take (v - bs.length)).length := by rw [List.length_take]; omega
      rw [e1]
      generalize hB : (d.read (pfile n) (k : Int)).1 = B at *
      have K2 : Hp [] w4 w9 (sbL b u a1 bs.length c1 (bcells bs) ++ [.own 102 1 (some ad) B.length c2 (bcells B)]) := K.perm (List.perm_append_comm (l₁ := [_]))
      have hl2 : (B.take (v - bs.length)).length = min (v - bs.length) 512 := by rw [List.length_take]; omega
      have hwr := sbWrite_spec b u a1 bs.length c1 (bcells bs) ad c2 (B.take (v - bs.length)) w9 K2.std1 (fun W hW => by
        rw [bcells_take]; exact (Hp.cellsSt (sz := 1) K2 (.head _) W hW).take _) (by omega)
      refine callV hwr ?_
      clear hwr
      rintro e w10 ⟨rfl, a3, c3, H'⟩
      replace K2 := (K2.useL H').takeL; clear H' K
      refine ⟨_, _, rfl, inR64.2 (by omega), hnext m _ _ (by omega) ⟨k + 1, bs ++ B.take (v - bs.length), true, a3, c3, by omega, by omega, ?_, ?_, hg, ?_⟩⟩
      · rw [List.length_append]; omega
      · rw [List.length_append]; omega
      · rw [List.length_append, bcells_append]; exact K2
  · refine callV (sbString_spec b u a1 c1 bs w4 w7 K) ?_
    rintro e w8 ⟨rfl, H'⟩
    refine ⟨_, rfl, ?_, H.ext0 H'⟩
    rw [gat, if_pos (by omega)] at hg
    rw [← hg]
end Go.Proofs.Ytdpkamajecmebaa
