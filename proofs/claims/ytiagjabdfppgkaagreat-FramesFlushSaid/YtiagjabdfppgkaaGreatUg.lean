/- Vault: Crash. -/
import Derived.Test.YtiagjabdfppgkaaGreatUf
set_option linter.unusedVariables false
set_option linter.unusedSimpArgs false
set_option maxRecDepth 100000
namespace Go.Proofs.YtiagjabdfppgkaaGreat
open Go Go.Vc Go.Vault

theorem perm_cnt {L M : List Asn} (h : ∀ (f : List Asn → Nat) (g : Asn → Nat), f [] = 0 → (∀ x l, f (x :: l) = g x + f l) → (∀ a b, f (a ++ b) = f a + f b) → (∀ a b, List.Perm a b → f a = f b) → f L = f M) : L.Perm M := by
  classical
  rw [List.perm_iff_count]
  intro z
  refine h (fun l => l.count z) (fun x => if x == z then 1 else 0) rfl (fun x l => ?_) (fun a b => List.count_append) (fun a b hp => hp.count_eq z)
  show List.count z (x :: l) = _
  rw [List.count_cons, Nat.add_comm]

def sinceTot (fs : List Fl) : Nat := (fs.map fun f => f.since.length).sum
theorem foundF_snoc : ∀ (fs : List Fl) (g : Fl) (ps : List Int), foundF (fs ++ [g]) ps = foundF fs ps ++ [g.found (ps.drop (sinceTot fs))]
  | [], g, ps => by simp [foundF, sinceTot]
  | f :: r, g, ps => by
    simp only [List.cons_append, foundF, foundF_snoc r g, sinceTot, List.map_cons, List.sum_cons, List.drop_drop]
theorem foundF_len : ∀ (fs : List Fl) (ps : List Int), (foundF fs ps).length = fs.length
  | [], _ => rfl
  | f :: r, ps => by simp [foundF, foundF_len r]
theorem foundF_mem : ∀ {fs : List Fl} {ps : List Int} {g : Fl}, g ∈ foundF fs ps → ∃ f ∈ fs, ∃ qs, g = f.found qs
  | f :: r, ps, g, h => by
    rcases List.mem_cons.1 h with rfl | h
    · exact ⟨f, .head _, _, rfl⟩
    · obtain ⟨f', h1, h2⟩ := foundF_mem h
      exact ⟨f', .tail _ h1, h2⟩
theorem take_snoc {α : Type} {l : List α} {k : Nat} {x : α} (h : l[k]? = some x) : l.take (k + 1) = l.take k ++ [x] := by
  rw [List.take_add_one, h]; rfl
theorem new_room (r : Nat) (h : r ≤ 65536) : Dk.new (r : Int) = ⟨r, [], [], [], 0, 0, false⟩ := by
  have : (min (max (r : Int) 0) 65536).toNat = r := by omega
  simp only [Dk.new, this]
theorem chsL_get {xs : List CW} {cs : List Ch} {k : Nat} {x : CW} {c : Ch} (h : xs[k]? = some x) (h' : cs[k]? = some c) : (chsL xs cs).Perm (chL x c ++ chsL (xs.eraseIdx k) (cs.eraseIdx k)) := zipL_get chL h h'
theorem chVs_get {xs : List CW} {cs : List Ch} {k : Nat} {x : CW} {c : Ch} (h : xs[k]? = some x) (h' : cs[k]? = some c) : (chVs xs cs)[k]? = some (chV x c) := by
  simp [chVs, List.getElem?_zipWith, h, h']
def dkC (x : DW) (d : Dk) (k : Nat) : List Asn :=
  .blk x.b [.int .i64 (d.room : Int), .slice x.fa d.files.length x.fc, .map (some x.mn), .map (some x.mf), .slice x.ca d.chs.length x.cc, .int .i64 (d.armed : Int), .int .i64 (d.denied : Int), .bool d.dead] 76 ::
  .own 79 1 x.fa d.files.length x.fc (ptrs x.fs) :: .smap x.mn x.na :: .smap x.mf x.fi :: .own 82 1 x.ca d.chs.length x.cc (chVs x.cs d.chs) :: (filesL x.fs d.files ++ chsL (x.cs.eraseIdx k) (d.chs.eraseIdx k))
theorem dk_openC {x : DW} {d : Dk} {k : Nat} {f : CW} {g : Ch} (h1 : x.cs[k]? = some f) (h2 : d.chs[k]? = some g) : (dkL x d).Perm (chL f g ++ dkC x d k) := by
  refine perm_cnt fun ff gg h0 hc ha hpm => ?_
  have := hpm _ _ (chsL_get h1 h2)
  simp only [dkL_eq, dkR, dkC, ha, hc, h0] at this ⊢
  omega
theorem mem_blk (x : DW) (d : Dk) : Asn.blk x.b [.int .i64 (d.room : Int), .slice x.fa d.files.length x.fc, .map (some x.mn), .map (some x.mf), .slice x.ca d.chs.length x.cc, .int .i64 (d.armed : Int), .int .i64 (d.denied : Int), .bool d.dead] 76 ∈ dkL x d := by rw [dkL_eq]; exact .head _
theorem mem_files (x : DW) (d : Dk) : Asn.own 79 1 x.fa d.files.length x.fc (ptrs x.fs) ∈ dkL x d := by rw [dkL_eq]; exact .tail _ (.head _)
theorem mem_mf (x : DW) (d : Dk) : Asn.smap x.mf x.fi ∈ dkL x d := by rw [dkL_eq]; exact .tail _ (.tail _ (.tail _ (.head _)))
theorem mem_chs (x : DW) (d : Dk) : Asn.own 82 1 x.ca d.chs.length x.cc (chVs x.cs d.chs) ∈ dkL x d := by rw [dkL_eq]; exact .tail _ (.tail _ (.tail _ (.tail _ (.head _))))

set_option maxHeartbeats 4000000 in
theorem crash_spec (x : DW) (d : Dk) (hok : x.Ok d) {N : Nat} (few : d.Few N) (hN : N ≤ 1073741824) (names : Int) (pa : Option Addr) (pc : Nat) (ps : List Int) (w : World) (st : Std w (dkL x d))
    (hc : ∀ W, Chg (feet (dkL x d)) w W → Cells W pa (ints ps)) (hl : ps.length ≤ pc) :
    Calls Tryz.prog 12 #[.pointer (some ⟨x.b, 0, none⟩), .int .i64 names, .slice pa ps.length pc] w fun e w' => ∃ y : DW, e = .returned (.pointer (some ⟨y.b, 0, none⟩)) ∧ y.Ok (d.crash names ps) ∧
      Hp (feet (dkL x d)) w w' (dkL y (d.crash names ps) ++ dkL x d) := by
  apply crash.ok; unfold crash.vc
  have H := Hp.startL st
  generalize hB : feet (dkL x d) = B at H hc ⊢
  intro q w1 hn
  have hqn : w.heap.size ≤ q := hn.num ▸ Nat.le_refl _
  replace H := H.new (by exact ⟨rfl, rfl, rfl, rfl⟩) hn; clear hn
  refine onP_mk rfl ?_
  refine ⟨_, H.ld (by exact ⟨rfl, rfl, rfl, rfl⟩) sclInt (.tail _ (mem_blk x d)) rfl, ?_⟩
  refine callV (new_spec (d.room : Int) w1) ?_
  rintro e w2 ⟨y, rfl, hy, H'⟩; replace H := H.ext H'; clear H'
  rw [new_room d.room hok.dk.room] at hy H
  refine ⟨_, rfl, ?_⟩
  refine onP_mk rfl ?_
  refine ⟨_, _, _, H.ld (by exact ⟨rfl, rfl, rfl, rfl⟩) sclSF (List.mem_append_right _ (.tail _ (mem_blk x d))) rfl, ?_⟩
  have hfl := few.files
  have hcl := few.chs
  refine LoopP.mk (fun (m : Nat) (s : Int) (w' : World) => ∃ (k : Nat) (z : DW) (a' : Option Addr) (c' : Nat), m = d.files.length - k ∧ k ≤ d.files.length ∧ s = (k : Int) ∧ z.b = y.b ∧ z.Ok ⟨d.room, foundF (d.files.take k) ps, [], [], 0, 0, false⟩ ∧
      Hp B w w' (.blk q [.slice a' (ps.drop (sinceTot (d.files.take k))).length c'] 23 :: (dkL z ⟨d.room, foundF (d.files.take k) ps, [], [], 0, 0, false⟩ ++ dkL x d)) ∧
      (∀ W, Cells W pa (ints ps) → Cells W a' (ints (ps.drop (sinceTot (d.files.take k))))) ∧ (∀ j ∈ blks a', j ∈ blks pa) ∧ (ps.drop (sinceTot (d.files.take k))).length ≤ c') d.files.length ⟨0, y, pa, pc, by omega, by omega, rfl, rfl, hy, ?_, fun _ h => h, fun _ h => h, hl⟩ ?_
  · simp only [List.take_zero, sinceTot, List.map_nil, List.sum_nil, List.drop_zero, foundF]
    refine H.perm ?_
    (refine perm_cnt fun ff gg h0 hc ha hpm => ?_; simp only [ha, hc, h0]; omega)
  clear H hy w1 w2
  rintro m s w1 next ⟨k, z, a', c', rfl, hk, rfl, hzb, hz, H, hcc, hbb, hll⟩ hnext
  refine br_dec (fun h => ?_) (fun h => ?_)
  · have hkl : k < d.files.length := by omega
    obtain ⟨f, g, h1, h2, h3⟩ := hok.at hkl
    have hg := fileOk hok h2
    have htk := take_snoc h2
    obtain ⟨ad, ha, hld⟩ := H.ldO (P := Tryz.prog) (w' := w1) (t := 79) (o := Int.toNat (k : Int) * 1) (by exact ⟨rfl, rfl, rfl, rfl⟩) sclPF (.tail _ (List.mem_append_right _ (mem_files x d))) (by rw [Int.toNat_natCast, Nat.mul_one]; exact ptrs_get h1)
    refine onP_mk ha ⟨⟨by omega, by omega⟩, _, hld, ?_⟩
    generalize hE : (⟨d.room, foundF (d.files.take k) ps, [], [], 0, 0, false⟩ : Dk) = E at hz H
    have hEl : E.files.length = k := by rw [← hE]; simp only [foundF_len, List.length_take]; omega
    replace H := H.drew
    rw [← hzb]
    refine onP_mk rfl ?_
    refine ⟨_, _, _, H.ld (by exact ⟨rfl, rfl, rfl, rfl⟩) sclSF (.tail _ (List.mem_append_left _ (mem_blk z E))) rfl, ?_⟩
    generalize hqs : ps.drop (sinceTot (d.files.take k)) = qs at H hcc hll
    have hqs2 : ps.drop (sinceTot (d.files.take (k + 1))) = qs.drop g.since.length := by
      rw [htk, ← hqs, List.drop_drop]
      congr 1
      simp [sinceTot]
    have hop := dk_open h1 h2
    have H1 : Hp B w w1.drew ((flL f g ++ [.blk q [.slice a' qs.length c'] 23]) ++ (dkL z E ++ dkB x d k)) := by
      refine H.perm (perm_cnt fun ff gg h0 hc ha hpm => ?_)
      have := hpm _ _ hop
      simp only [ha, hc, h0] at this ⊢
      omega
    have hown : ∀ j ∈ feet (flL f g ++ [.blk q [.slice a' qs.length c'] 23]), j ∈ B ∨ w.heap.size ≤ j := by
      intro j hf
      obtain ⟨b, hb, hbf⟩ := mem_feet.1 hf
      exact H1.own b (List.mem_append_left _ hb) j hbf
    refine callV (found_spec f g hg (hok.keys k f g h1 h2) (by have := few.now g (List.mem_of_getElem? h2); omega) q a' c' qs w1.drew H1.std1 (fun W hW => hcc W (hc W (H1.chg.trans hW (fun k hk => hk) hown))) hll) ?_
    rintro e w2 ⟨f', a2, c2, rfl, hal, H', hc2, hb2, hl2⟩
    replace H1 := H1.useL H'; clear H'
    have hc2w : ∀ W, Cells W pa (ints ps) → Cells W a2 (ints (qs.drop g.since.length)) := fun W hW => hc2 W (hcc W hW)
    obtain ⟨hgf, hgl⟩ := found_ok hg qs
    have hEn : (⟨d.room, foundF (d.files.take (k + 1)) ps, [], [], 0, 0, false⟩ : Dk) = { E with files := E.files ++ [g.found qs] } := by
      rw [htk, foundF_snoc, hqs, ← hE]
    refine ⟨_, rfl, ?_⟩
    have H2 : Hp B w w2 (.blk z.b [.int .i64 (E.room : Int), .slice z.fa E.files.length z.fc, .map (some z.mn), .map (some z.mf), .slice z.ca E.chs.length z.cc, .int .i64 (E.armed : Int), .int .i64 (E.denied : Int), .bool E.dead] 76 ::
        .own 79 1 z.fa E.files.length z.fc (ptrs z.fs) :: (flL f' (g.found qs) ++ (.blk q [.slice a2 (qs.drop g.since.length).length c2] 23 :: (.smap z.mn z.na :: .smap z.mf z.fi :: .own 82 1 z.ca E.chs.length z.cc (chVs z.cs E.chs) :: (dkR z E ++ dkL x d))))) := by
      refine H1.perm (perm_cnt fun ff gg h0 hc ha hpm => ?_)
      have := hpm _ _ hop
      rw [dkL_eq z E]
      simp only [ha, hc, h0] at this ⊢
      omega
    refine ⟨H2.ld (by exact ⟨rfl, rfl, rfl, rfl⟩) sclSF (.head _) rfl, ?_⟩
    intro b w3 hn; replace H2 := H2.new (by exact ⟨rfl, rfl, rfl, rfl⟩) hn; clear hn
    refine ⟨H2.ld (by exact ⟨rfl, rfl, rfl, rfl⟩) sclSF (.tail _ (.head _)) rfl, ?_⟩
    refine Hp.app eltPF (by omega) H2.pull2 (by exact ⟨rfl, rfl, rfl, rfl⟩) (Blk.src undSPF ((H2.go (w' := w3.drew) (by exact ⟨rfl, rfl, rfl, rfl⟩)).blk (.head _)) rfl rfl) (by simp only [maxLen]; omega) (by omega) ?_
    clear H2 H1; intro a7 c7 w4 H2
    replace H2 := H2.drop1
    refine onP_mk rfl ?_
    refine Hp.st H2.pull1 (by exact ⟨rfl, rfl, rfl, rfl⟩) sclSF rfl rfl (by simp) rfl ?_
    clear H2; intro w5 H2
    simp only [List.set_cons_zero, List.set_cons_succ] at H2
    refine ⟨inR64.2 (by omega), ?_⟩
    refine hnext (d.files.length - (k + 1)) _ _ (by omega) ⟨k + 1, { z with fa := a7, fc := c7, fs := z.fs ++ [f'] }, a2, c2, rfl, by omega, by simp, hzb, ?_, ?_, by rw [hqs2]; exact hc2w, fun j hj => hbb j (hb2 j hj), by rw [hqs2]; exact hl2⟩
    · rw [hEn]
      exact hz.file f' (g.found qs) hgf (by rw [hal]; simp [Fl.found]) a7 c7
    · rw [hEn, hqs2]
      refine H2.perm (perm_cnt fun ff gg h0 hc ha hpm => ?_)
      have := hpm _ _ (dkR_file hz f' (g.found qs) a7 c7)
      rw [dkL_eq { z with fa := a7, fc := c7, fs := z.fs ++ [f'] }]
      simp only [ha, hc, h0, List.length_append, List.length_singleton, ptrs_snoc] at this ⊢
      omega
  · have hk2 : k = d.files.length := by omega
    subst hk2
    rw [List.take_length] at hz H
    generalize hE : (⟨d.room, foundF d.files ps, [], [], 0, 0, false⟩ : Dk) = E at hz H
    clear hcc hbb hll
    obtain ⟨BX, hBX⟩ : ∃ BX : Asn, BX = .blk q [.slice a' (ps.drop (sinceTot d.files)).length c'] 23 := ⟨_, rfl⟩
    rw [← hBX] at H
    refine onP_mk rfl ?_
    refine ⟨_, H.ld (by exact ⟨rfl, rfl, rfl, rfl⟩) sclMSI (.tail _ (List.mem_append_right _ (mem_blk x d))) rfl, ?_⟩
    refine callV (mclone_spec x.mf x.fi w1 (H.ok (.smap x.mf x.fi) (.tail _ (List.mem_append_right _ (mem_mf x d))))) ?_
    rintro e w2 ⟨b1, rfl, H'⟩; replace H := H.ext H'; clear H'
    refine ⟨_, rfl, ?_⟩
    rw [← hzb]
    refine onP_mk rfl ?_
    have H2 : Hp B w w2 (.blk z.b [.int .i64 (E.room : Int), .slice z.fa E.files.length z.fc, .map (some z.mn), .map (some z.mf), .slice z.ca E.chs.length z.cc, .int .i64 (E.armed : Int), .int .i64 (E.denied : Int), .bool E.dead] 76 ::
        .own 79 1 z.fa E.files.length z.fc (ptrs z.fs) :: .smap b1 x.fi :: BX :: (.smap z.mn z.na :: .smap z.mf z.fi :: .own 82 1 z.ca E.chs.length z.cc (chVs z.cs E.chs) :: (dkR z E ++ dkL x d))) := by
      refine H.perm (perm_cnt fun ff gg h0 hc ha hpm => ?_)
      rw [dkL_eq z E]
      simp only [ha, hc, h0]
      omega
    refine Hp.st H2 (by exact ⟨rfl, rfl, rfl, rfl⟩) sclMSI rfl rfl (by simp) rfl ?_
    clear H H2; intro w3 H
    simp only [List.set_cons_zero, List.set_cons_succ] at H
    replace H := H.drew
    refine onP_mk rfl ?_
    have mx : ∀ a, a ∈ dkL x d → ∀ l : List Asn, ∀ (p1 p2 p3 p4 p5 p6 p7 : Asn), a ∈ p1 :: p2 :: p3 :: p4 :: p5 :: p6 :: p7 :: (l ++ dkL x d) := fun a ha l p1 p2 p3 p4 p5 p6 p7 => by simp [ha]
    refine ⟨_, _, _, H.ld (by exact ⟨rfl, rfl, rfl, rfl⟩) sclSC (mx _ (mem_blk x d) _ _ _ _ _ _ _ _) rfl, ?_⟩
    refine onP_mk rfl ?_
    refine ⟨_, _, _, H.ld (by exact ⟨rfl, rfl, rfl, rfl⟩) sclSC (mx _ (mem_blk x d) _ _ _ _ _ _ _ _) rfl, ?_⟩
    have hcap := (H.ownA (mx _ (mem_chs x d) _ _ _ _ _ _ _ _)).le
    refine ⟨⟨by omega, by omega⟩, ?_⟩
    obtain ⟨M, hM⟩ : ∃ M : Nat, M = (min (max names 0) (d.chs.length : Int)).toNat := ⟨_, rfl⟩
    rw [← hM]
    have hMl : M ≤ d.chs.length := by omega
    obtain ⟨YR, hYR⟩ : ∃ YR : List Asn, YR = .own 79 1 z.fa E.files.length z.fc (ptrs z.fs) :: BX :: (.smap z.mn z.na :: .smap z.mf z.fi :: .own 82 1 z.ca E.chs.length z.cc (chVs z.cs E.chs) :: dkR z E) := ⟨_, rfl⟩
    refine LoopP.mk (fun (m : Nat) (s : Int) (w' : World) => ∃ (j : Nat) (al : List (ByteArray × Value)), m = M - j ∧ j ≤ M ∧ s = (j : Int) ∧ al.Perm (nvl (ons d.firm (d.chs.take j))) ∧
        Hp B w w' (.smap b1 al :: .blk z.b [.int .i64 (E.room : Int), .slice z.fa E.files.length z.fc, .map (some b1), .map (some z.mf), .slice z.ca E.chs.length z.cc, .int .i64 (E.armed : Int), .int .i64 (E.denied : Int), .bool E.dead] 76 :: (YR ++ dkL x d))) M ⟨0, x.fi, by omega, by omega, rfl, hok.fi, ?_⟩ ?_
    · rw [hYR]
      refine H.perm ?_
      (refine perm_cnt fun ff gg h0 hc ha hpm => ?_; simp only [ha, hc, h0]; omega)
    clear H w1 w2 w3 mx
    rintro m s w1 next ⟨j, al, rfl, hj, rfl, hal, H⟩ hnext
    have hri : Rising (ons d.firm (d.chs.take j)) := rising_ons _ hok.dk.rise
    refine br_dec (fun h => ?_) (fun h => ?_)
    · have hjl : j < d.chs.length := by omega
      have hjc : j < x.cs.length := by rw [hok.cl]; exact hjl
      obtain ⟨cw, hcw⟩ : ∃ cw, x.cs[j]? = some cw := ⟨_, List.getElem?_eq_getElem hjc⟩
      obtain ⟨c, hcc⟩ : ∃ c, d.chs[j]? = some c := ⟨_, List.getElem?_eq_getElem hjl⟩
      obtain ⟨ad, ha, hld⟩ := H.ldO (P := Tryz.prog) (w' := w1) (t := 82) (o := Int.toNat (j : Int) * 1) (v := chV cw c) (by exact ⟨rfl, rfl, rfl, rfl⟩) sclC (.tail _ (.tail _ (List.mem_append_right _ (mem_chs x d)))) (by rw [Int.toNat_natCast, Nat.mul_one]; exact chVs_get hcw hcc)
      refine onP_mk ha ⟨⟨by omega, by omega⟩, _, hld, ?_⟩
      refine onP_mk rfl ?_
      refine ⟨_, H.ld (by exact ⟨rfl, rfl, rfl, rfl⟩) sclMSI (.tail _ (.head _)) rfl, ?_⟩
      have hop := dk_openC hcw hcc
      have H1 : Hp B w w1 ((.smap b1 al :: chL cw c) ++ (.blk z.b [.int .i64 (E.room : Int), .slice z.fa E.files.length z.fc, .map (some b1), .map (some z.mf), .slice z.ca E.chs.length z.cc, .int .i64 (E.armed : Int), .int .i64 (E.denied : Int), .bool E.dead] 76 :: (YR ++ dkC x d j))) := by
        refine H.perm (perm_cnt fun ff gg h0 hc ha hpm => ?_)
        have := hpm _ _ hop
        simp only [ha, hc, h0] at this ⊢
        omega
      refine callX (chX_spec cw c (hok.dk.chs c (List.mem_of_getElem? hcc)) b1 al w1 H1.std1) ?_
      rintro e w2 ⟨rfl, H'⟩
      replace H1 := H1.useL H'; clear H'
      refine ⟨rfl, inR64.2 (by omega), ?_⟩
      refine hnext (M - (j + 1)) _ _ (by omega) ⟨j + 1, onA al c, rfl, by omega, by simp, ?_, ?_⟩
      · have e1 : ons d.firm (d.chs.take (j + 1)) = c.on (ons d.firm (d.chs.take j)) := by rw [take_snoc hcc]; simp [ons]
        rw [e1]
        exact onA_perm hri hal c
      · refine H1.perm (perm_cnt fun ff gg h0 hc ha hpm => ?_)
        have := hpm _ _ hop
        simp only [ha, hc, h0] at this ⊢
        omega
    · have hj2 : j = M := by omega
      subst hj2
      refine onP_mk rfl ?_
      refine ⟨_, H.ld (by exact ⟨rfl, rfl, rfl, rfl⟩) sclMSI (.tail _ (.head _)) rfl, ?_⟩
      refine callV (mclone_spec b1 al w1 (H.ok (.smap b1 al) (.head _))) ?_
      rintro e w2 ⟨b2, rfl, H'⟩; replace H := H.ext H'; clear H'
      refine ⟨_, rfl, ?_⟩
      refine onP_mk rfl ?_
      refine Hp.st (H.pull2) (by exact ⟨rfl, rfl, rfl, rfl⟩) sclMSI rfl rfl (by simp) rfl ?_
      clear H; intro w3 H
      simp only [List.set_cons_zero, List.set_cons_succ] at H
      have hEf : E.files = foundF d.files ps ∧ E.room = d.room ∧ E.chs = [] ∧ E.armed = 0 ∧ E.denied = 0 ∧ E.dead = false := by rw [← hE]; simp
      have hcr : d.crash names ps = { E with firm := ons d.firm (d.chs.take j) } := by
        rw [← hE, Dk.crash, hM]
      refine ⟨{ z with mn := b1, na := al, mf := b2, fi := al }, rfl, ?_, ?_⟩
      · rw [hcr]
        have hzl := hz.fl
        have hlen : E.files.length = d.files.length := by rw [hEf.1, foundF_len]
        have hno := ons_file (m := d.files.length) (d.chs.take j) hok.dk.firm fun c hc => hok.dk.chs c (List.mem_of_mem_take hc)
        refine ⟨⟨hz.dk.room, hz.dk.files, fun p hp => by rw [hlen]; exact hno p hp, hz.dk.chs, hri, hz.dk.armed, hz.dk.denied⟩, hz.fl, hz.cl, hz.keys, ?_, hal⟩
        show al.Perm (nvl (ons (ons d.firm (d.chs.take j)) E.chs))
        rw [hEf.2.2.1]
        exact hal
      · rw [hcr]
        have H3 : Hp B w w3 ((BX :: .smap z.mn z.na :: .smap z.mf z.fi :: []) ++ (dkL { z with mn := b1, na := al, mf := b2, fi := al } { E with firm := ons d.firm (d.chs.take j) } ++ dkL x d)) := by
          refine H.perm (perm_cnt fun ff gg h0 hc ha hpm => ?_)
          rw [dkL_eq { z with mn := b1, na := al, mf := b2, fi := al }, hYR]
          simp only [ha, hc, h0, dkR]
          omega
        exact H3.drop.drop.drop
end Go.Proofs.YtiagjabdfppgkaaGreat
