/- Press: the document's Import. -/
import Derived.Test.YtdpkamajecmebaaQs
import Derived.Test.YtdpkamajecmebaaQb
import Derived.Test.YtdpkamajecmebaaQi
set_option linter.unusedVariables false
set_option linter.unusedSimpArgs false
set_option maxRecDepth 100000
namespace Go.Proofs.Ytdpkamajecmebaa
open Go Go.Vc Go.Vault Go.Redo Go.Press

def valC (v : RV) (d : Dk) : List Value := [.int .i64 (d.room : Int), .slice v.fa d.files.length v.fc, .slice v.na d.names.length v.nc, .slice v.ia d.firm.length v.ic, .slice v.sa d.snaps.length v.sc, .int .i64 (d.armed : Int), .int .i64 (d.denied : Int), .bool d.dead]
def valZ : List Value := [.int .i64 0, .slice none 0 0, .slice none 0 0, .slice none 0 0, .slice none 0 0, .int .i64 0, .int .i64 0, .bool false]
def ansC (b : List UInt8) (e : Int) : List Value := [sv b, .int .i64 e]
def ansZ : List Value := [.string ⟨#[]⟩, .int .i64 0]
/-- a reading, by the document -/
def readO (f : ByteArray) (k : Int) : Op := ⟨2, k, f, ⟨#[]⟩, [], []⟩
def readW : OW := ⟨none, 0, none, 0⟩
theorem read_od (w : World) (f : ByteArray) (k : Int) : OD [] w readW (readO f k) := ⟨SC.ofNil _ _ _ _, SC.ofNil _ _ _ _⟩
theorem doR_read (d : Dk) (f : ByteArray) (k : Int) : doR d (readO f k) = (d, (d.read f k).1, (d.read f k).2) := by rw [← doP_doR]; rfl
theorem rread_spec {F : List Nat} {w : World} {v : RV} {d : Dk} (h : RD F w v d) (hF : ∀ k ∈ F, k < w.heap.size) (hok : d.Ok) {N : Nat} (fit : d.Fit N) (hN : N ≤ 1000000) (f : ByteArray) (k : Int) :
    Calls Go.Proofs.Try.prog 20 #[v.val d, readW.val (readO f k)] w fun e w' => ∃ v' : RV, e = .returned (.tuple #[.agg (valC v' d).toArray, .agg (ansC (d.read f k).1 (d.read f k).2).toArray]) ∧ Hp [] w w' [] := by
  have hdo := rdo_spec h hF hok fit.few (by omega) (fit.since hok (by omega)) (fit.used (by omega)) (read_od w f k)
  rw [doR_read] at hdo
  refine hdo.mono ?_
  rintro e w' ⟨v', F', rfl, hc, _⟩
  exact ⟨v', rfl, hc, by simp, by simp, .nil⟩

/-! ### Without a look at the size -/
def dimport2 (d : Dk) (n : ByteArray) : List UInt8 × Int :=
  if !nright n then ([], 92) else if (d.read (pfile n) 0).2 = 0 then
    if 1048576 < many8 (d.read (pfile n) 0).1 then ([], 91) else gat d (pfile n) (many8 (d.read (pfile n) 0).1) (many8 (d.read (pfile n) 0).1 + 1) 1 []
  else ([], (d.read (pfile n) 0).2)
theorem read_at {d : Dk} {f : ByteArray} {K : Nat} (hd : d.dead = false) (hf : d.find f = some K) (k : Nat) : d.read f (k : Int) = if d.len K ≤ k then ([], 91) else ((d.file K).now.getD k [], 0) := by
  unfold Dk.read
  rw [hd, hf]
  simp only [Bool.false_eq_true, if_false, Int.toNat_natCast]
  by_cases h : d.len K ≤ k
  · rw [if_pos h, if_pos (by omega)]
  · rw [if_neg h, if_neg (by omega)]
theorem gat_short {d : Dk} (hok : d.Ok) {f : ByteArray} {K n : Nat} (hd : d.dead = false) (hf : d.find f = some K) (hn : (d.len K - 1) * 512 < n) : ∀ (m k : Nat) (b : List UInt8), b.length = k * 512 → k + 1 ≤ d.len K → d.len K ≤ m + k → gat d f n m (k + 1) b = ([], 91)
  | 0, k, b, hb, hk, hm => by omega
  | m + 1, k, b, hb, hk, hm => by
    have h1 : k * 512 ≤ (d.len K - 1) * 512 := Nat.mul_le_mul_right _ (by omega)
    have hr : ((d.read f ((k + 1 : Nat) : Int)).2 = 0) → (d.read f ((k + 1 : Nat) : Int)).1.length = 512 := fun h => read512 hok h
    rw [gat, if_neg (by omega)]
    have hra := read_at hd hf (k + 1)
    by_cases h2 : d.len K ≤ k + 1
    · rw [if_pos h2] at hra
      rw [hra, if_neg (by decide)]
    · rw [if_neg h2] at hra
      have h0 : (d.read f ((k + 1 : Nat) : Int)).2 = 0 := by rw [hra]
      have hl := hr h0
      rw [if_pos h0]
      have h3 : (k + 1) * 512 ≤ (d.len K - 1) * 512 := Nat.mul_le_mul_right _ (by omega)
      exact gat_short hok hd hf hn m (k + 1) _ (by rw [List.length_append, List.length_take]; omega) (by omega) (by omega)
theorem dimport_eq {d : Dk} (hok : d.Ok) (n : ByteArray) : dimport2 d n = dimport d n := by
  unfold dimport2 dimport
  split
  · rfl
  · split
    · rename_i h0
      by_cases h1 : 1048576 < many8 (d.read (pfile n) 0).1
      · rw [if_pos h1, if_pos (.inl h1)]
      · rw [if_neg h1]
        by_cases h2 : (d.size (pfile n) - 1) * 512 < many8 (d.read (pfile n) 0).1
        · rw [if_pos (.inr h2)]
          have hd : d.dead = false := by
            cases h : d.dead with
            | true => simp [Dk.read, h] at h0
            | false => rfl
          cases hf : d.find (pfile n) with
          | none => simp [Dk.read, hd, hf] at h0
          | some K =>
            have hs : d.size (pfile n) = (d.len K : Int) := by rw [Dk.size, hf]
            have hlen : 0 < d.len K := by
              have hra := read_at hd hf 0
              by_cases hz : d.len K ≤ 0
              · rw [if_pos hz] at hra
                have : (d.read (pfile n) 0) = ([], 91) := hra
                rw [this] at h0; cases h0
              · omega
            rw [hs] at h2
            exact gat_short hok hd hf (n := many8 (d.read (pfile n) 0).1) (by omega) (many8 (d.read (pfile n) 0).1 + 1) 0 [] (by simp) (by omega) (by omega)
        · rw [if_neg (by omega)]
    · rfl

set_option maxHeartbeats 2000000 in
theorem rimport_spec {F : List Nat} {w : World} {v : RV} {d : Dk} (h : RD F w v d) (hF : ∀ k ∈ F, k < w.heap.size) (hok : d.Ok) {N : Nat} (fit : d.Fit N) (hN : N ≤ 1000000) (n : ByteArray) (hns : n.size ≤ 4611686018427387904) :
    Calls Go.Proofs.Try.prog 21 #[v.val d, .string n] w fun e w' => e = .returned (.tuple #[.string ⟨(dimport d n).1.toArray⟩, .int .i64 (dimport d n).2]) ∧ Hp [] w w' [] := by
  apply rimport.ok; unfold rimport.vc
  rw [← dimport_eq hok n]
  have hF' : ∀ w', Chg [] w w' → ∀ k ∈ F, k < w'.heap.size := fun w' hc k hk => Nat.lt_of_lt_of_le (hF k hk) hc.size
  have H := Hp.start w
  intro b w1 hn
  replace H := H.new (cs := valC v d) (by exact ⟨rfl, rfl, rfl, rfl⟩) hn; clear hn
  refine callV (pright_spec n w1) ?_
  rintro e w2 ⟨rfl, H'⟩
  replace H := H.ext0 H'; clear H'
  refine ⟨_, rfl, br_not (fun hr => ?_) (fun hr => ?_)⟩
  · have e0 : dimport2 d n = ([], 92) := by unfold dimport2; rw [hr]; rfl
    rw [e0]; exact ⟨rfl, H.done⟩
  have hsz : ((nAhead.size + n.size : Nat) : Int) ≤ 9223372036854775807 := by
    have : nAhead.size = 2 := rfl
    omega
  refine ⟨_, _, _, _, _, _, _, _, _, _, _, _, _, _, _, _, H.ldA (cs := valC v d) (by exact ⟨rfl, rfl, rfl, rfl⟩) raggD (.head _) rfl rfl, hsz, ?_⟩
  refine callV (rread_spec (h.chg0 H.chg) (hF' _ H.chg) hok fit hN (pfile n) 0) ?_
  rintro e w3 ⟨v1, rfl, H'⟩
  replace H := H.ext0 H'; clear H'
  have e0 : dimport2 d n = if (d.read (pfile n) 0).2 = 0 then
    if 1048576 < many8 (d.read (pfile n) 0).1 then ([], 91) else gat d (pfile n) (many8 (d.read (pfile n) 0).1) (many8 (d.read (pfile n) 0).1 + 1) 1 []
    else ([], (d.read (pfile n) 0).2) := by unfold dimport2; rw [hr]; rfl
  rw [e0]; clear e0
  have h512 : (d.read (pfile n) 0).2 = 0 → (d.read (pfile n) 0).1.length = 512 := fun h => read512 hok h
  obtain ⟨rb, rc, hrd⟩ : ∃ rb rc, d.read (pfile n) 0 = (rb, rc) := ⟨_, _, rfl⟩
  rw [hrd] at h512 ⊢
  dsimp only at h512 ⊢
  refine ⟨_, _, _, _, _, _, _, _, _, _, _, _, _, _, _, _, _, _, rfl, ?_⟩
  intro b4 w4 hn
  replace H := H.new (cs := valZ) (by exact ⟨rfl, rfl, rfl, rfl⟩) hn; clear hn
  intro b5 w5 hn
  replace H := H.new (cs := ansZ) (by exact ⟨rfl, rfl, rfl, rfl⟩) hn; clear hn
  refine Hp.stA H.pull1 (by exact ⟨rfl, rfl, rfl, rfl⟩) raggD (vs := valC v1 d) (cs' := valC v1 d) rfl rfl (by simp [valZ]) rfl ?_
  clear H; intro w6 H
  refine Hp.stA H.pull1 (by exact ⟨rfl, rfl, rfl, rfl⟩) raggA (vs := ansC rb rc) (cs' := ansC rb rc) rfl rfl (by simp [ansZ]) rfl ?_
  clear H; intro w7 H
  refine ⟨_, H.ld (cs := ansC rb rc) (by exact ⟨rfl, rfl, rfl, rfl⟩) sclEr (.head _) rfl, br_ndec (fun h2 => ?_) (fun h2 => ?_)⟩
  · rw [if_neg h2]
    exact ⟨_, H.ld (cs := ansC rb rc) (by exact ⟨rfl, rfl, rfl, rfl⟩) sclEr (.head _) rfl, rfl, H.drew.done⟩
  rw [if_pos h2]
  have hl := h512 h2
  have H2 : Hp [] w w7 [.blk b5 (ansC rb rc) 53, .blk b (valC v d) 44] := H.del1
  clear H
  refine LoopP.mk (fun m s w' => ∃ i : Nat, m = 8 - i ∧ i ≤ 8 ∧ s = ((valN (rb.take i) : Int), (i : Int)) ∧ valN (rb.take i) ≤ 1048576 ∧ Hp [] w w' [.blk b5 (ansC rb rc) 53, .blk b (valC v d) 44]) 8 ⟨0, rfl, by omega, rfl, by simp [valN], H2⟩ ?_
  clear H2 w1 w2 w3 w4 w5 w6 w7
  rintro m s w1 next ⟨i, rfl, hi, rfl, hv, H⟩ hnext
  dsimp only
  refine br_dec (fun h3 => ?_) (fun h3 => ?_)
  · have hi8 : i < 8 := by omega
    have hlt : i < rb.length := by omega
    have hb := rb[i].toNat_lt
    have hvs := valN_take_succ rb i hlt
    have hsb := sb_get rb i hlt
    refine ⟨inR64.2 (by omega), _, H.ld (cs := ansC rb rc) (by exact ⟨rfl, rfl, rfl, rfl⟩) sclStr (.head _) rfl, ⟨by omega, by rw [mk_size]; omega⟩, ?_⟩
    rw [hsb, wrap64_id (z := (rb[i].toNat : Int)) (by omega)]
    have e2 : (valN (rb.take i) : Int) * 256 + (rb[i].toNat : Int) = (valN (rb.take (i + 1)) : Int) := by rw [hvs]; omega
    rw [e2]
    refine ⟨inR64.2 (by omega), br_dec (fun h4 => ?_) (fun h4 => ?_)⟩
    · have := valN_grow rb (8 - (i + 1)) (i + 1) (by omega)
      rw [show i + 1 + (8 - (i + 1)) = 8 by omega] at this
      rw [if_pos (show 1048576 < many8 rb by unfold many8; omega)]
      exact ⟨rfl, H.done⟩
    · exact ⟨inR64.2 (by omega), hnext (8 - (i + 1)) _ _ (by omega) ⟨i + 1, rfl, by omega, rfl, by omega, H⟩⟩
  · have hi8 : i = 8 := by omega
    subst hi8
    clear hnext
    obtain ⟨M, hM⟩ : ∃ M, M = many8 rb := ⟨_, rfl⟩
    have hM' : valN (rb.take 8) = M := hM.symm
    rw [hM'] at hv ⊢
    rw [← hM, if_neg (by omega)]
    refine LoopP.mk (fun m s w' => ∃ (k : Nat) (out : List UInt8), s = ((⟨out.toArray⟩ : ByteArray), (k : Int)) ∧ k + m = M + 2 ∧ M < m + out.length ∧ out.length ≤ M + 512 ∧ gat d (pfile n) M m k (out.take M) = gat d (pfile n) M (M + 1) 1 [] ∧ Hp [] w w' [.blk b5 (ansC rb rc) 53, .blk b (valC v d) 44]) (M + 1) ⟨1, [], rfl, by omega, by simp, by simp, by simp, H⟩ ?_
    clear H w1
    rintro m s w1 next ⟨k, out, rfl, hkm, hlt, hole, hg, H⟩ hnext
    dsimp only
    rw [mk_size]
    refine br_dec (fun h5 => ?_) (fun h5 => ?_)
    · obtain ⟨m, rfl⟩ : ∃ m', m = m' + 1 := ⟨m - 1, by omega⟩
      refine ⟨_, _, _, _, _, _, _, _, _, _, _, _, _, _, _, _, H.ldA (cs := valC v d) (by exact ⟨rfl, rfl, rfl, rfl⟩) raggD (.tail _ (.head _)) rfl rfl, hsz, ?_⟩
      refine callV (rread_spec (h.chg0 H.chg) (hF' _ H.chg) hok fit hN (pfile n) (k : Int)) ?_
      rintro e w3 ⟨v2, rfl, H'⟩
      replace H := H.ext0 H'; clear H'
      have h512k : (d.read (pfile n) (k : Int)).2 = 0 → (d.read (pfile n) (k : Int)).1.length = 512 := fun h => read512 hok h
      rw [gat, List.take_of_length_le (by omega), if_neg (by omega)] at hg
      obtain ⟨sb_, sc_, hrk⟩ : ∃ rb rc, d.read (pfile n) (k : Int) = (rb, rc) := ⟨_, _, rfl⟩
      rw [hrk] at h512k hg ⊢
      dsimp only at h512k hg ⊢
      refine ⟨_, _, _, _, _, _, _, _, _, _, _, _, _, _, _, _, _, _, rfl, ?_⟩
      intro b6 w4 hn
      replace H := H.new (cs := valZ) (by exact ⟨rfl, rfl, rfl, rfl⟩) hn; clear hn
      intro b7 w5 hn
      replace H := H.new (cs := ansZ) (by exact ⟨rfl, rfl, rfl, rfl⟩) hn; clear hn
      refine Hp.stA H.pull1 (by exact ⟨rfl, rfl, rfl, rfl⟩) raggD (vs := valC v2 d) (cs' := valC v2 d) rfl rfl (by simp [valZ]) rfl ?_
      clear H; intro w6 H
      refine Hp.stA H.pull1 (by exact ⟨rfl, rfl, rfl, rfl⟩) raggA (vs := ansC sb_ sc_) (cs' := ansC sb_ sc_) rfl rfl (by simp [ansZ]) rfl ?_
      clear H; intro w7 H
      refine ⟨_, H.ld (cs := ansC sb_ sc_) (by exact ⟨rfl, rfl, rfl, rfl⟩) sclEr (.head _) rfl, br_ndec (fun h6 => ?_) (fun h6 => ?_)⟩
      · rw [if_neg h6] at hg
        rw [← hg]
        exact ⟨_, H.ld (cs := ansC sb_ sc_) (by exact ⟨rfl, rfl, rfl, rfl⟩) sclEr (.head _) rfl, rfl, H.drew.done⟩
      · rw [if_pos h6] at hg
        have hls := h512k h6
        refine ⟨_, H.ld (cs := ansC sb_ sc_) (by exact ⟨rfl, rfl, rfl, rfl⟩) sclStr (.head _) rfl, by rw [mk_size]; omega, inR64.2 (by omega), ?_⟩
        rw [mk_append]
        refine hnext m _ _ (by omega) ⟨k + 1, out ++ sb_, rfl, by omega, by rw [List.length_append]; omega, by rw [List.length_append]; omega, ?_, H.drop.drop⟩
        rw [List.take_append, List.take_of_length_le (by omega)]
        exact hg
    · refine ⟨⟨by omega, by omega⟩, ?_, H.done⟩
      have hgo : gat d (pfile n) M m k (out.take M) = (out.take M, 0) := by
        cases m with
        | zero => rw [gat]
        | succ m => rw [gat, if_pos (by rw [List.length_take]; omega)]
      rw [← hg, hgo, Int.toNat_natCast, ext_mk]
      simp
end Go.Proofs.Ytdpkamajecmebaa
