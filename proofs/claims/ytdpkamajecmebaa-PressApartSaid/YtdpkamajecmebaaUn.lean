/- Vault: what the document finds of a file. -/
import Derived.Test.YtdpkamajecmebaaUl
set_option linter.unusedVariables false
set_option linter.unusedSimpArgs false
set_option maxRecDepth 100000
namespace Go.Proofs.Ytdpkamajecmebaa
open Go Go.Vc Go.Vault

theorem vmk_append (x y : List UInt8) : (ByteArray.mk x.toArray) ++ (ByteArray.mk y.toArray) = ⟨(x ++ y).toArray⟩ := by
  apply ByteArray.ext
  simp
theorem vmk_size (x : List UInt8) : (ByteArray.mk x.toArray).size = x.length := by simp [ByteArray.size]
theorem headD_drop (l : List Int) (k : Nat) : (l.drop k).headD 0 = (l[k]?).getD 0 := by simp
theorem ints_at {l : List Int} {k : Nat} {x : Int} (h : l[k]? = some x) : (ints l)[k]? = some (.int .i64 x) := by simp [ints, h]
theorem Hp.merge {B : List Nat} {w0 w : World} {L : List Asn} {p q : Asn} (H : Hp B w0 w (p :: q :: L)) (r : Asn) (hok : r.ok w) (hf : ∀ k ∈ r.foot, k ∈ p.foot ∨ k ∈ q.foot) : Hp B w0 w (r :: L) := by
  have h1 := List.pairwise_cons.1 H.sep
  have h2 := List.pairwise_cons.1 h1.2
  refine ⟨H.chg, fun a ha => ?_, fun a ha k hk => ?_, List.pairwise_cons.2 ⟨fun b hb k hk hkb => ?_, h2.2⟩⟩
  · rcases List.mem_cons.1 ha with rfl | ha
    · exact hok
    · exact H.ok a (.tail _ (.tail _ ha))
  · rcases List.mem_cons.1 ha with rfl | ha
    · rcases hf k hk with h | h
      · exact H.own p (.head _) k h
      · exact H.own q (.tail _ (.head _)) k h
    · exact H.own a (.tail _ (.tail _ ha)) k hk
  · rcases hf k hk with h | h
    · exact h1.1 b (.tail _ hb) k h hkb
    · exact h2.1 b hb k h hkb

set_option maxHeartbeats 4000000 in
theorem rfound_spec {F Fp : List Nat} {w : World} {x : RF} {f : Fl} (h : RFD F w x f) (hf : f.Ok) (hN : f.now.length ≤ 536870000) {pa : Option Addr} {pc : Nat} {ps : List Int} (hp : SC Fp w pa ps.length pc 1 (ints ps)) :
    Calls Go.Proofs.Try.prog 66 #[.agg #[.slice x.na f.now.length x.nc, .slice x.fa f.firm.length x.fc, .slice x.sa f.since.length x.sc], .slice pa ps.length pc] w fun e w' =>
      ∃ a c, e = .returned (.tuple #[.agg #[.slice a (f.found ps).now.length c, .slice a (f.found ps).now.length c, .slice none 0 0], .int .i64 (f.since.length : Int)]) ∧ Hp [] w w' [.own 9 1 a (f.found ps).now.length c (strs (f.found ps).now)] := by
  apply rfound.ok; unfold rfound.vc
  have hfl := hf.len
  have hsl : f.since.length ≤ f.now.length := by
    have : ∀ (l : List Nat) (lo N : Nat), l.Pairwise (· < ·) → (∀ n ∈ l, lo ≤ n ∧ n < N) → lo ≤ N → l.length ≤ N - lo := by
      intro l
      induction l with
      | nil => intro lo N _ _ _; simp
      | cons x r ih =>
        intro lo N hs hb hlo
        have hp := List.pairwise_cons.1 hs
        have hx := hb x (.head _)
        have := ih (x + 1) N hp.2 (fun n hn => ⟨hp.1 n hn, (hb n (.tail _ hn)).2⟩) (by omega)
        simp only [List.length_cons]; omega
    have := this f.since 0 f.now.length hf.since (fun n hn => ⟨Nat.zero_le _, hf.below n hn⟩) (Nat.zero_le _)
    omega
  have H := Hp.start w
  intro bf w1 hn1; replace H := H.new (by exact ⟨rfl, rfl, rfl, rfl⟩) hn1; clear hn1
  intro bo w2 hn1; replace H := H.new (by exact ⟨rfl, rfl, rfl, rfl⟩) hn1; clear hn1
  intro b3 w3 hn1; replace H := H.new (by exact ⟨rfl, rfl, rfl, rfl⟩) hn1; clear hn1
  replace H := H.reown 1 0 rfl (by simp)
  ((repeat apply Exists.intro); first | refine ⟨H.ld (by exact ⟨rfl, rfl, rfl, rfl⟩) (by first | exact sclInt | exact sclBool | exact sclStr | exact rsclN | exact rsclF | exact rsclNN | exact rsclSS | exact rsclSI | exact rsclU) (by repeat first | exact .head _ | refine .tail _ ?_) rfl, ?_⟩ | refine ⟨H.ldA (by exact ⟨rfl, rfl, rfl, rfl⟩) (by first | exact raggD | exact raggF | exact raggO | exact raggN | exact raggA) (by repeat first | exact .head _ | refine .tail _ ?_) rfl rfl, ?_⟩)
  refine Hp.app eltStr (by omega) H (by exact ⟨rfl, rfl, rfl, rfl⟩) ((h.chg0 H.chg).firm.src undStr (strs_ones _)) (by simp only [maxLen]; omega) (by omega) ?_
  clear H; intro a4 c4 w4 H
  simp only [List.nil_append, Nat.zero_add] at H ⊢
  refine Hp.mkS eltU8 H (by exact ⟨rfl, rfl, rfl, rfl⟩) (by omega) (by simp [maxLen]) (by omega) zeroU8 ?_
  clear H; intro a5 w5 H
  rw [made512] at H
  refine ⟨⟨zsec.toArray⟩, b2s undSU8 undU8 undString (by rw [byteCells_mk]; exact (H.ownA (.head _)).cells) (by rw [vmk_size]; simp [zsec]), ?_⟩
  replace H := H.drop
  obtain ⟨LL, hLL⟩ : ∃ LL : List Asn, LL = [.blk bo [.slice none 0 0, .slice none 0 0, .slice none 0 0] 106, .blk bf [.slice x.na f.now.length x.nc, .slice x.fa f.firm.length x.fc, .slice x.sa f.since.length x.sc] 106] := ⟨_, rfl⟩
  have mf : Asn.blk bf [.slice x.na f.now.length x.nc, .slice x.fa f.firm.length x.fc, .slice x.sa f.since.length x.sc] 106 ∈ LL := by rw [hLL]; exact .tail _ (.head _)
  rw [← hLL] at H
  refine LoopP.mk (fun (m : Nat) (s : (Option Addr × Nat × Nat) × Int) (w' : World) => ∃ (k : Nat) (L : List (List UInt8)) (a : Option Addr) (c : Nat), m = f.since.length - k ∧ k ≤ f.since.length ∧ s = ((a, L.length, c), (k : Int)) ∧ (∀ s ∈ L, s.length = 512) ∧ L.length ≤ f.now.length ∧
      foundL f.now (f.since.drop k) (ps.drop k) L = foundL f.now f.since ps f.firm ∧ Hp [] w w' (.own 9 1 a L.length c (strs L) :: LL)) f.since.length ⟨0, f.firm, a4, c4, by omega, by omega, rfl, hf.firm, hf.len, rfl, H⟩ ?_
  clear H w1 w2 w3 w4 w5
  rintro m s w4 next ⟨k, L, a, c, rfl, hkl2, rfl, hL, hLn, hfd, H⟩ hnext
  dsimp only
  refine ⟨_, _, _, H.ld (by exact ⟨rfl, rfl, rfl, rfl⟩) rsclSI (.tail _ mf) rfl, ?_⟩
  refine br_dec (fun h1 => ?_) (fun h1 => ?_)
  · have hk2 : k < f.since.length := by omega
    obtain ⟨n, hn⟩ : ∃ n, f.since[k]? = some n := ⟨_, List.getElem?_eq_getElem hk2⟩
    have hnb := hf.below n (List.mem_of_getElem? hn)
    have hdrop : f.since.drop k = n :: f.since.drop (k + 1) := by
      rw [List.drop_eq_getElem_cons hk2]
      rw [List.getElem?_eq_getElem hk2] at hn
      rw [Option.some.inj hn]
    have htail : (ps.drop k).tail = ps.drop (k + 1) := by rw [List.tail_drop]
    have hfd2 : foundL f.now (f.since.drop (k + 1)) (ps.drop (k + 1)) (mend f.now L n (pick ((ps.drop k).headD 0))) = foundL f.now f.since ps f.firm := by
      rw [← hfd, hdrop, foundL, htail]
    obtain ⟨p, hpp⟩ : ∃ p, p = pick ((ps.drop k).headD 0) := ⟨_, rfl⟩
    have hp512 : p ≤ 512 := by rw [hpp]; simp only [pick]; omega
    rw [← hpp] at hfd2
    refine JoinP.mk (fun (s : Int) (w' : World) => s = (p : Int) ∧ Hp [] w w' (.own 9 1 a L.length c (strs L) :: LL)) ?_ ?_
    rotate_left
    · intro J hJ
      refine br_dec (fun h2 => ?_) (fun h2 => ?_)
      · have hkp : k < ps.length := by omega
        obtain ⟨q, hq⟩ : ∃ q, ps[k]? = some q := ⟨_, List.getElem?_eq_getElem hkp⟩
        obtain ⟨ad, ha, hld⟩ := (hp.chg0 H.chg).ld (P := Go.Proofs.Try.prog) sclInt (ints_at hq)
        refine onP_mk ha ⟨⟨by omega, by omega⟩, q, by rw [Int.toNat_natCast, Nat.mul_one]; exact hld, hJ _ _ ⟨?_, H⟩⟩
        have : (ps.drop k).headD 0 = q := by rw [headD_drop, hq]; rfl
        rw [hpp, this]; simp only [pick]; omega
      · refine hJ _ _ ⟨?_, H⟩
        rw [hpp, headD_drop, List.getElem?_eq_none (by omega)]; rfl
    clear H w4
    rintro s w4 ⟨rfl, H⟩
    refine ⟨_, _, _, H.ld (by exact ⟨rfl, rfl, rfl, rfl⟩) rsclSI (.tail _ mf) rfl, ?_⟩
    obtain ⟨ad, ha, hld⟩ := (h.chg0 H.chg).since.ld (P := Go.Proofs.Try.prog) sclInt (natC_at hn)
    refine onP_mk ha ⟨⟨by omega, by omega⟩, (n : Int), by rw [Int.toNat_natCast, Nat.mul_one]; exact hld, ?_⟩
    by_cases hp0 : p = 0
    · -- nothing of it is found
      rw [hp0, mend, if_pos rfl] at hfd2
      have hnx : ∀ w', Hp [] w w' (.own 9 1 a L.length c (strs L) :: LL) → next ((a, L.length, c), (k : Int) + 1) w' := fun w' H => hnext (f.since.length - (k + 1)) _ _ (by omega) ⟨k + 1, L, a, c, rfl, by omega, by simp, hL, hLn, hfd2, H⟩
      refine LoopP.mk (fun (m : Nat) (s : Option Addr × Nat × Nat) (w' : World) => s = (a, L.length, c) ∧ Hp [] w w' (.own 9 1 a L.length c (strs L) :: LL)) 0 ⟨rfl, H⟩ ?_
      clear hld H w4
      rintro m s w4 next2 ⟨rfl, H⟩ hnext2
      dsimp only
      refine br_dec (fun h2 => ?_) (fun h2 => ?_)
      · refine br_dec (fun h3 => by omega) (fun _ => ?_)
        refine br_dec (fun h3 => by omega) (fun _ => ?_)
        exact ⟨inR64.2 (by omega), hnx _ H⟩
      · refine br_dec (fun h3 => by omega) (fun _ => ?_)
        exact ⟨inR64.2 (by omega), hnx _ H⟩
    · have hpi : (0 : Int) < (p : Int) := by omega
      refine LoopP.mk (fun (m : Nat) (s : Option Addr × Nat × Nat) (w' : World) => ∃ (j : Nat) (a : Option Addr) (c : Nat), m = n + 1 - (L.length + j) ∧ (j = 0 ∨ L.length + j ≤ n + 1) ∧ s = (a, L.length + j, c) ∧
        Hp [] w w' (.own 9 1 a (L.length + j) c (strs (L ++ List.replicate j zsec)) :: LL)) (n + 1 - (L.length + 0)) ⟨0, a, c, rfl, .inl rfl, rfl, by rw [List.replicate_zero, List.append_nil]; exact H⟩ ?_
      clear hld H w4
      rintro m s w5 next2 ⟨j, a, c, rfl, hj, rfl, H⟩ hnext2
      dsimp only
      refine br_dec (fun h2 => ?_) (fun h2 => ?_)
      · refine br_dec (fun _ => ?_) (fun h3 => absurd hpi h3)
        intro b1 w6 hn; replace H := H.new (by exact ⟨rfl, rfl, rfl, rfl⟩) hn; clear hn
        refine Hp.app (m := 1) eltStr (by omega) H.pull1 (by exact ⟨rfl, rfl, rfl, rfl⟩) (Blk.src undStr ((H.go (w' := w6.drew) (by exact ⟨rfl, rfl, rfl, rfl⟩)).blk (.head _)) rfl rfl) (by simp only [maxLen]; omega) (by omega) ?_
        clear H; intro a7 c7 w7 H
        replace H := H.drop1
        refine hnext2 (n + 1 - (L.length + (j + 1))) _ _ (by omega) ⟨j + 1, a7, c7, rfl, .inr (by omega), rfl, ?_⟩
        have e1 : strs (L ++ List.replicate j zsec) ++ [.string ⟨zsec.toArray⟩] = strs (L ++ List.replicate (j + 1) zsec) := by
          rw [List.replicate_succ', ← List.append_assoc, strs_append (L ++ List.replicate j zsec)]; rfl
        rw [e1] at H
        exact H
      · refine br_dec (fun _ => ?_) (fun h3 => absurd hpi h3)
        have hfl2 : L ++ List.replicate j zsec = fill L n := by
          rw [fill]; congr 2; omega
        have hlen : (fill L n).length = L.length + j := by rw [← hfl2]; simp
        rw [hfl2, ← hlen] at H
        rw [← hlen]
        rw [← hlen] at h2
        have hfo := fill_ok hL n
        have hnl : n < (fill L n).length := by omega
        replace H := H.drew
        refine ⟨_, _, _, H.ld (by exact ⟨rfl, rfl, rfl, rfl⟩) rsclSS (.tail _ mf) rfl, ?_⟩
        have hsn := hf.now _ (List.getElem_mem hnb)
        obtain ⟨an, han, hldn⟩ := (h.chg0 H.chg).now.ld (P := Go.Proofs.Try.prog) sclStr (strs_at (List.getElem?_eq_getElem hnb))
        refine onP_mk han ⟨⟨by omega, by omega⟩, _, by rw [Int.toNat_natCast, Nat.mul_one]; exact hldn, ?_⟩
        refine ⟨⟨by omega, by rw [vmk_size, hsn]; omega⟩, ?_⟩
        obtain ⟨al, hal, hldl⟩ := H.ldO (P := Go.Proofs.Try.prog) (w' := w5.drew) (t := 9) (o := n) (by exact ⟨rfl, rfl, rfl, rfl⟩) sclStr (.head _) (strs_at (List.getElem?_eq_getElem hnl))
        have hsl2 := hfo _ (List.getElem_mem hnl)
        refine onP_mk hal ⟨⟨by omega, by omega⟩, _, by rw [Int.toNat_natCast, Nat.mul_one]; exact hldl, ?_⟩
        refine ⟨⟨by omega, by rw [vmk_size, hsl2]; omega⟩, ?_⟩
        rw [Int.toNat_natCast, Int.toNat_natCast, vmk_size, ext_mk, ext_mk, vmk_append, vmk_size, vmk_size, List.drop_zero, List.take_of_length_le (Nat.le_refl _)]
        refine ⟨by rw [List.length_take, List.length_drop]; omega, ?_⟩
        refine onP_mk hal ⟨⟨by omega, by omega⟩, ?_⟩
        refine Hp.stO1 (o := n * 1) H (by exact ⟨rfl, rfl, rfl, rfl⟩) sclStr hal rfl rfl (by simp [strs]; omega) ?_
        clear H; intro w6 H
        have hsv : (Value.string ⟨(f.now[n].take p ++ (fill L n)[n].drop p).toArray⟩) = sv (f.now[n].take p ++ (fill L n)[n].drop p) := rfl
        rw [Nat.mul_one, hsv, strs_set] at H
        have hm : mend f.now L n p = (fill L n).set n (f.now[n].take p ++ (fill L n)[n].drop p) := by
          rw [mend, if_neg hp0]
          simp [hnb, hnl]
        rw [← hm] at H
        have hml : (mend f.now L n p).length = (fill L n).length := by rw [hm, List.length_set]
        rw [← hml] at H ⊢
        obtain ⟨hm1, hm2, _⟩ := mend_ok hf.now hL (n := n) (p := p) hp512 hnb
        refine ⟨inR64.2 (by omega), ?_⟩
        exact hnext (f.since.length - (k + 1)) _ _ (by omega) ⟨k + 1, mend f.now L n p, a, c, rfl, by omega, by simp, hm1, hm2 hLn, hfd2, H⟩
  · have hk3 : k = f.since.length := by omega
    subst hk3
    have hfd3 : L = foundL f.now f.since ps f.firm := by rw [← hfd, List.drop_length]; rfl
    have hLf : (f.found ps).now = L := hfd3.symm
    rw [hLf]
    replace H := H.drew
    rw [hLL] at H
    ((repeat apply Exists.intro); first | refine ⟨H.ld (by exact ⟨rfl, rfl, rfl, rfl⟩) (by first | exact sclInt | exact sclBool | exact sclStr | exact rsclN | exact rsclF | exact rsclNN | exact rsclSS | exact rsclSI | exact rsclU) (by repeat first | exact .head _ | refine .tail _ ?_) rfl, ?_⟩ | refine ⟨H.ldA (by exact ⟨rfl, rfl, rfl, rfl⟩) (by first | exact raggD | exact raggF | exact raggO | exact raggN | exact raggA) (by repeat first | exact .head _ | refine .tail _ ?_) rfl rfl, ?_⟩)
    refine Hp.stA H.pull1 (by exact ⟨rfl, rfl, rfl, rfl⟩) raggF rfl rfl (by simp) rfl ?_
    clear H; intro w6 H
    refine ⟨H.ld (by exact ⟨rfl, rfl, rfl, rfl⟩) rsclSI (.tail _ (.tail _ (.head _))) rfl, ?_⟩
    refine ⟨_, _, _, _, _, _, _, _, _, H.ldA (by exact ⟨rfl, rfl, rfl, rfl⟩) raggF (.head _) rfl rfl, ?_⟩
    exact ⟨a, c, rfl, H.pull1.done1⟩
end Go.Proofs.Ytdpkamajecmebaa
