/- Part 4 of 6 of the proof of journalRaw_holds: for every input, from every world that may be reached. -/
import Derived.WalkKit
import Derived.RangeFuncSeq
import Derived.KernelRfl
import Derived.RangeFuncLeaves
import Derived.Test.YtdeebigmpffnbaaGreatChecked
import Derived.Deep.AppendSrc
import Derived.Laws.MakeOwn
import Derived.Laws.BytesArg
import Derived.Laws.BytesString
import Derived.Laws.IdiomStrings
import Derived.Maps.RangeRun
import Derived.Shelf.SlIter.Nil
import Derived.Shelf.SlIterI.Nil
import Derived.Shelf.SortM.Plain
import Derived.Shelf.SortM.SortNone
import Derived.Shelf.SlMaps.Clone
import Derived.StringKeys
import Derived.Laws.Pointers
import Derived.Sort.Walk0
import Derived.Lib.SliceRun
import Derived.Test.YtdeebigmpffnbaaGreatRows
import Derived.ProofKit
import Derived.Laws.StructEq
import Derived.ChangeKeysEq
import Derived.WideKeyRuns
import Derived.Test.YtdeebigmpffnbaaGreatPra1
import Derived.Test.YtdeebigmpffnbaaGreatPra2
import Derived.Test.YtdeebigmpffnbaaGreatPra3
set_option linter.unusedVariables false
set_option linter.unusedSimpArgs false
set_option maxRecDepth 100000
namespace Go.Proofs.YtdeebigmpffnbaaGreat
open Go Go.Vc Go.Vault
theorem perm_cnt {L M : List Asn} (h : ∀ (f : List Asn → Nat) (g : Asn → Nat),f [] = 0 → (∀ x l,f (x :: l) = g x + f l) → (∀ a b,f (a ++ b) = f a + f b) → (∀ a b,List.Perm a b → f a = f b) → f L = f M) : L.Perm M := by
 classical
 rw [List.perm_iff_count]
 intro z
 refine h (fun l => l.count z) (fun x => if x == z then 1 else 0) rfl (fun x l => ?_) (fun a b => List.count_append) (fun a b hp => hp.count_eq z)
 show List.count z (x :: l) = _
 rw [List.count_cons,Nat.add_comm]
def sinceTot (fs : List Fl) : Nat := (fs.map fun f => f.since.length).sum
theorem foundF_snoc : ∀ (fs : List Fl) (g : Fl) (ps : List Int),foundF (fs ++ [g]) ps = foundF fs ps ++ [g.found (ps.drop (sinceTot fs))]
 | [],g,ps => by simp [foundF,sinceTot]
 | f :: r,g,ps => by
  simp only [List.cons_append,foundF,foundF_snoc r g,sinceTot,List.map_cons,List.sum_cons,List.drop_drop]
theorem foundF_len : ∀ (fs : List Fl) (ps : List Int),(foundF fs ps).length = fs.length
 | [],_ => rfl
 | f :: r,ps => by simp [foundF,foundF_len r]
theorem foundF_mem : ∀ {fs : List Fl} {ps : List Int} {g : Fl},g ∈ foundF fs ps → ∃ f ∈ fs,∃ qs,g = f.found qs
 | f :: r,ps,g,h => by
  rcases List.mem_cons.1 h with rfl | h
  ·exact ⟨f,.head _,_,rfl⟩
  ·obtain ⟨f',h1,h2⟩ := foundF_mem h
   exact ⟨f',.tail _ h1,h2⟩
theorem take_snoc {α : Type} {l : List α} {k : Nat} {x : α} (h : l[k]? = some x) : l.take (k + 1) = l.take k ++ [x] := by
 rw [List.take_add_one,h]; rfl
theorem new_room (r : Nat) (h : r ≤ 65536) : Dk.new (r : Int) = ⟨r,[],[],[],0,0,false⟩ := by
 have : (min (max (r : Int) 0) 65536).toNat = r := by omega
 simp only [Dk.new,this]
theorem chsL_get {xs : List CW} {cs : List Ch} {k : Nat} {x : CW} {c : Ch} (h : xs[k]? = some x) (h' : cs[k]? = some c) : (chsL xs cs).Perm (chL x c ++ chsL (xs.eraseIdx k) (cs.eraseIdx k)) := zipL_get chL h h'
theorem chVs_get {xs : List CW} {cs : List Ch} {k : Nat} {x : CW} {c : Ch} (h : xs[k]? = some x) (h' : cs[k]? = some c) : (chVs xs cs)[k]? = some (chV x c) := by
 simp [chVs,List.getElem?_zipWith,h,h']
def dkC (x : DW) (d : Dk) (k : Nat) : List Asn :=
 .blk x.b [.int .i64 (d.room : Int),.slice x.fa d.files.length x.fc,.map (some x.mn),.map (some x.mf),.slice x.ca d.chs.length x.cc,.int .i64 (d.armed : Int),.int .i64 (d.denied : Int),.bool d.dead] 71 ::
 .own 76 1 x.fa d.files.length x.fc (ptrs x.fs) :: .smap x.mn x.na :: .smap x.mf x.fi :: .own 125 1 x.ca d.chs.length x.cc (chVs x.cs d.chs) :: (filesL x.fs d.files ++ chsL (x.cs.eraseIdx k) (d.chs.eraseIdx k))
theorem dk_openC {x : DW} {d : Dk} {k : Nat} {f : CW} {g : Ch} (h1 : x.cs[k]? = some f) (h2 : d.chs[k]? = some g) : (dkL x d).Perm (chL f g ++ dkC x d k) := by
 refine perm_cnt fun ff gg h0 hc ha hpm => ?_
 have := hpm _ _ (chsL_get h1 h2)
 simp only [dkL_eq,dkR,dkC,ha,hc,h0] at this ⊢
 omega
theorem mem_blk (x : DW) (d : Dk) : Asn.blk x.b [.int .i64 (d.room : Int),.slice x.fa d.files.length x.fc,.map (some x.mn),.map (some x.mf),.slice x.ca d.chs.length x.cc,.int .i64 (d.armed : Int),.int .i64 (d.denied : Int),.bool d.dead] 71 ∈ dkL x d := by rw [dkL_eq]; exact .head _
theorem mem_files (x : DW) (d : Dk) : Asn.own 76 1 x.fa d.files.length x.fc (ptrs x.fs) ∈ dkL x d := by rw [dkL_eq]; exact .tail _ (.head _)
theorem mem_mf (x : DW) (d : Dk) : Asn.smap x.mf x.fi ∈ dkL x d := by rw [dkL_eq]; exact .tail _ (.tail _ (.tail _ (.head _)))
theorem mem_chs (x : DW) (d : Dk) : Asn.own 125 1 x.ca d.chs.length x.cc (chVs x.cs d.chs) ∈ dkL x d := by rw [dkL_eq]; exact .tail _ (.tail _ (.tail _ (.tail _ (.head _))))
set_option maxHeartbeats 4000000 in
theorem crash_spec (x : DW) (d : Dk) (hok : x.Ok d) {N : Nat} (few : d.Few N) (hN : N ≤ 1073741824) (names : Int) (pa : Option Addr) (pc : Nat) (ps : List Int) (w : World) (st : Std w (dkL x d))
  (hc : ∀ W,Chg (feet (dkL x d)) w W → Cells W pa (ints ps)) (hl : ps.length ≤ pc) :
  Calls Tryz.prog 29 #[.pointer (some ⟨x.b,0,none⟩),.int .i64 names,.slice pa ps.length pc] w fun e w' => ∃ y : DW,e = .returned (.pointer (some ⟨y.b,0,none⟩)) ∧ y.Ok (d.crash names ps) ∧
   Hp (feet (dkL x d)) w w' (dkL y (d.crash names ps) ++ dkL x d) := by
 apply crash.ok; unfold crash.vc
 have H := Hp.startL st
 generalize hB : feet (dkL x d) = B at H hc ⊢
 intro q w1 hn
 have hqn : w.heap.size ≤ q := hn.num ▸ Nat.le_refl _
 replace H := H.new (by exact ⟨rfl,rfl,rfl,rfl⟩) hn; clear hn
 refine onP_mk rfl ?_
 refine ⟨_,H.ld (by exact ⟨rfl,rfl,rfl,rfl⟩) sclInt (.tail _ (mem_blk x d)) rfl,?_⟩
 refine callV (new_spec (d.room : Int) w1) ?_
 rintro e w2 ⟨y,rfl,hy,H'⟩; replace H := H.ext H'; clear H'
 rw [new_room d.room hok.dk.room] at hy H
 refine ⟨_,rfl,?_⟩
 refine onP_mk rfl ?_
 refine ⟨_,_,_,H.ld (by exact ⟨rfl,rfl,rfl,rfl⟩) sclSF (List.mem_append_right _ (.tail _ (mem_blk x d))) rfl,?_⟩
 have hfl := few.files
 have hcl := few.chs
 refine LoopP.mk (fun (m : Nat) (s : Int) (w' : World) => ∃ (k : Nat) (z : DW) (a' : Option Addr) (c' : Nat),m = d.files.length - k ∧ k ≤ d.files.length ∧ s = (k : Int) ∧ z.b = y.b ∧ z.Ok ⟨d.room,foundF (d.files.take k) ps,[],[],0,0,false⟩ ∧
   Hp B w w' (.blk q [.slice a' (ps.drop (sinceTot (d.files.take k))).length c'] 30 :: (dkL z ⟨d.room,foundF (d.files.take k) ps,[],[],0,0,false⟩ ++ dkL x d)) ∧
   (∀ W,Cells W pa (ints ps) → Cells W a' (ints (ps.drop (sinceTot (d.files.take k))))) ∧ (∀ j ∈ blks a',j ∈ blks pa) ∧ (ps.drop (sinceTot (d.files.take k))).length ≤ c') d.files.length ⟨0,y,pa,pc,by omega,by omega,rfl,rfl,hy,?_,fun _ h => h,fun _ h => h,hl⟩ ?_
 ·simp only [List.take_zero,sinceTot,List.map_nil,List.sum_nil,List.drop_zero,foundF]
  refine H.perm ?_
  (refine perm_cnt fun f g a b c d=>?_;simp only[c,b,a];omega)
 clear H hy w1 w2
 rintro m s w1 next ⟨k,z,a',c',rfl,hk,rfl,hzb,hz,H,hcc,hbb,hll⟩ hnext
 refine br_dec (fun h => ?_) (fun h => ?_)
 ·have hkl : k < d.files.length := by omega
  obtain ⟨f,g,h1,h2,h3⟩ := hok.at hkl
  have hg := fileOk hok h2
  have htk := take_snoc h2
  obtain ⟨ad,ha,hld⟩ := H.ldO (P := Tryz.prog) (w' := w1) (t := 76) (o := Int.toNat (k : Int) * 1) (by exact ⟨rfl,rfl,rfl,rfl⟩) sclPF (.tail _ (List.mem_append_right _ (mem_files x d))) (by rw [Int.toNat_natCast,Nat.mul_one]; exact ptrs_get h1)
  refine onP_mk ha ⟨⟨by omega,by omega⟩,_,hld,?_⟩
  generalize hE : (⟨d.room,foundF (d.files.take k) ps,[],[],0,0,false⟩ : Dk) = E at hz H
  have hEl : E.files.length = k := by rw [← hE]; simp only [foundF_len,List.length_take]; omega
  replace H := H.drew
  rw [← hzb]
  refine onP_mk rfl ?_
  refine ⟨_,_,_,H.ld (by exact ⟨rfl,rfl,rfl,rfl⟩) sclSF (.tail _ (List.mem_append_left _ (mem_blk z E))) rfl,?_⟩
  generalize hqs : ps.drop (sinceTot (d.files.take k)) = qs at H hcc hll
  have hqs2 : ps.drop (sinceTot (d.files.take (k + 1))) = qs.drop g.since.length := by
   rw [htk,← hqs,List.drop_drop]
   congr 1
   simp [sinceTot]
  have hop := dk_open h1 h2
  have H1 : Hp B w w1.drew ((flL f g ++ [.blk q [.slice a' qs.length c'] 30]) ++ (dkL z E ++ dkB x d k)) := by
   refine H.perm (perm_cnt fun ff gg h0 hc ha hpm => ?_)
   have := hpm _ _ hop
   simp only [ha,hc,h0] at this ⊢
   omega
  have hown : ∀ j ∈ feet (flL f g ++ [.blk q [.slice a' qs.length c'] 30]),j ∈ B ∨ w.heap.size ≤ j := by
   intro j hf
   obtain ⟨b,hb,hbf⟩ := mem_feet.1 hf
   exact H1.own b (List.mem_append_left _ hb) j hbf
  refine callV (found_spec f g hg (hok.keys k f g h1 h2) (by have := few.now g (List.mem_of_getElem? h2); omega) q a' c' qs w1.drew H1.std1 (fun W hW => hcc W (hc W (H1.chg.trans hW (fun k hk => hk) hown))) hll) ?_
  rintro e w2 ⟨f',a2,c2,rfl,hal,H',hc2,hb2,hl2⟩
  replace H1 := H1.useL H'; clear H'
  have hc2w : ∀ W,Cells W pa (ints ps) → Cells W a2 (ints (qs.drop g.since.length)) := fun W hW => hc2 W (hcc W hW)
  obtain ⟨hgf,hgl⟩ := found_ok hg qs
  have hEn : (⟨d.room,foundF (d.files.take (k + 1)) ps,[],[],0,0,false⟩ : Dk) = { E with files := E.files ++ [g.found qs] } := by
   rw [htk,foundF_snoc,hqs,← hE]
  refine ⟨_,rfl,?_⟩
  have H2 : Hp B w w2 (.blk z.b [.int .i64 (E.room : Int),.slice z.fa E.files.length z.fc,.map (some z.mn),.map (some z.mf),.slice z.ca E.chs.length z.cc,.int .i64 (E.armed : Int),.int .i64 (E.denied : Int),.bool E.dead] 71 ::
    .own 76 1 z.fa E.files.length z.fc (ptrs z.fs) :: (flL f' (g.found qs) ++ (.blk q [.slice a2 (qs.drop g.since.length).length c2] 30 :: (.smap z.mn z.na :: .smap z.mf z.fi :: .own 125 1 z.ca E.chs.length z.cc (chVs z.cs E.chs) :: (dkR z E ++ dkL x d))))) := by
   refine H1.perm (perm_cnt fun ff gg h0 hc ha hpm => ?_)
   have := hpm _ _ hop
   rw [dkL_eq z E]
   simp only [ha,hc,h0] at this ⊢
   omega
  refine ⟨H2.ld (by exact ⟨rfl,rfl,rfl,rfl⟩) sclSF (.head _) rfl,?_⟩
  intro b w3 hn; replace H2 := H2.new (by exact ⟨rfl,rfl,rfl,rfl⟩) hn; clear hn
  refine ⟨H2.ld (by exact ⟨rfl,rfl,rfl,rfl⟩) sclSF (.tail _ (.head _)) rfl,?_⟩
  refine Hp.app eltPF (by omega) H2.pull2 (by exact ⟨rfl,rfl,rfl,rfl⟩) (Blk.src undSPF ((H2.go (w' := w3.drew) (by exact ⟨rfl,rfl,rfl,rfl⟩)).blk (.head _)) rfl rfl) (by simp only [maxLen]; omega) (by omega) ?_
  clear H2 H1; intro a7 c7 w4 H2
  replace H2 := H2.drop1
  refine onP_mk rfl ?_
  refine Hp.st H2.pull1 (by exact ⟨rfl,rfl,rfl,rfl⟩) sclSF rfl rfl (by simp) rfl ?_
  clear H2; intro w5 H2
  simp only [List.set_cons_zero,List.set_cons_succ] at H2
  refine ⟨inR64.2 (by omega),?_⟩
  refine hnext (d.files.length - (k + 1)) _ _ (by omega) ⟨k + 1,{ z with fa := a7,fc := c7,fs := z.fs ++ [f'] },a2,c2,rfl,by omega,by simp,hzb,?_,?_,by rw [hqs2]; exact hc2w,fun j hj => hbb j (hb2 j hj),by rw [hqs2]; exact hl2⟩
  ·rw [hEn]
   exact hz.file f' (g.found qs) hgf (by rw [hal]; simp [Fl.found]) a7 c7
  ·rw [hEn,hqs2]
   refine H2.perm (perm_cnt fun ff gg h0 hc ha hpm => ?_)
   have := hpm _ _ (dkR_file hz f' (g.found qs) a7 c7)
   rw [dkL_eq { z with fa := a7,fc := c7,fs := z.fs ++ [f'] }]
   simp only [ha,hc,h0,List.length_append,List.length_singleton,ptrs_snoc] at this ⊢
   omega
 ·have hk2 : k = d.files.length := by omega
  subst hk2
  rw [List.take_length] at hz H
  generalize hE : (⟨d.room,foundF d.files ps,[],[],0,0,false⟩ : Dk) = E at hz H
  clear hcc hbb hll
  obtain ⟨BX,hBX⟩ : ∃ BX : Asn,BX = .blk q [.slice a' (ps.drop (sinceTot d.files)).length c'] 30 := ⟨_,rfl⟩
  rw [← hBX] at H
  refine onP_mk rfl ?_
  refine ⟨_,H.ld (by exact ⟨rfl,rfl,rfl,rfl⟩) sclMSI (.tail _ (List.mem_append_right _ (mem_blk x d))) rfl,?_⟩
  refine callV (mclone_spec x.mf x.fi w1 (H.ok (.smap x.mf x.fi) (.tail _ (List.mem_append_right _ (mem_mf x d))))) ?_
  rintro e w2 ⟨b1,rfl,H'⟩; replace H := H.ext H'; clear H'
  refine ⟨_,rfl,?_⟩
  rw [← hzb]
  refine onP_mk rfl ?_
  have H2 : Hp B w w2 (.blk z.b [.int .i64 (E.room : Int),.slice z.fa E.files.length z.fc,.map (some z.mn),.map (some z.mf),.slice z.ca E.chs.length z.cc,.int .i64 (E.armed : Int),.int .i64 (E.denied : Int),.bool E.dead] 71 ::
    .own 76 1 z.fa E.files.length z.fc (ptrs z.fs) :: .smap b1 x.fi :: BX :: (.smap z.mn z.na :: .smap z.mf z.fi :: .own 125 1 z.ca E.chs.length z.cc (chVs z.cs E.chs) :: (dkR z E ++ dkL x d))) := by
   refine H.perm (perm_cnt fun ff gg h0 hc ha hpm => ?_)
   rw [dkL_eq z E]
   simp only [ha,hc,h0]
   omega
  refine Hp.st H2 (by exact ⟨rfl,rfl,rfl,rfl⟩) sclMSI rfl rfl (by simp) rfl ?_
  clear H H2; intro w3 H
  simp only [List.set_cons_zero,List.set_cons_succ] at H
  replace H := H.drew
  refine onP_mk rfl ?_
  have mx : ∀ a,a ∈ dkL x d → ∀ l : List Asn,∀ (p1 p2 p3 p4 p5 p6 p7 : Asn),a ∈ p1 :: p2 :: p3 :: p4 :: p5 :: p6 :: p7 :: (l ++ dkL x d) := fun a ha l p1 p2 p3 p4 p5 p6 p7 => by simp [ha]
  refine ⟨_,_,_,H.ld (by exact ⟨rfl,rfl,rfl,rfl⟩) sclSC (mx _ (mem_blk x d) _ _ _ _ _ _ _ _) rfl,?_⟩
  refine onP_mk rfl ?_
  refine ⟨_,_,_,H.ld (by exact ⟨rfl,rfl,rfl,rfl⟩) sclSC (mx _ (mem_blk x d) _ _ _ _ _ _ _ _) rfl,?_⟩
  have hcap := (H.ownA (mx _ (mem_chs x d) _ _ _ _ _ _ _ _)).le
  refine ⟨⟨by omega,by omega⟩,?_⟩
  obtain ⟨M,hM⟩ : ∃ M : Nat,M = (min (max names 0) (d.chs.length : Int)).toNat := ⟨_,rfl⟩
  rw [← hM]
  have hMl : M ≤ d.chs.length := by omega
  obtain ⟨YR,hYR⟩ : ∃ YR : List Asn,YR = .own 76 1 z.fa E.files.length z.fc (ptrs z.fs) :: BX :: (.smap z.mn z.na :: .smap z.mf z.fi :: .own 125 1 z.ca E.chs.length z.cc (chVs z.cs E.chs) :: dkR z E) := ⟨_,rfl⟩
  refine LoopP.mk (fun (m : Nat) (s : Int) (w' : World) => ∃ (j : Nat) (al : List (ByteArray × Value)),m = M - j ∧ j ≤ M ∧ s = (j : Int) ∧ al.Perm (nvl (ons d.firm (d.chs.take j))) ∧
    Hp B w w' (.smap b1 al :: .blk z.b [.int .i64 (E.room : Int),.slice z.fa E.files.length z.fc,.map (some b1),.map (some z.mf),.slice z.ca E.chs.length z.cc,.int .i64 (E.armed : Int),.int .i64 (E.denied : Int),.bool E.dead] 71 :: (YR ++ dkL x d))) M ⟨0,x.fi,by omega,by omega,rfl,hok.fi,?_⟩ ?_
  ·rw [hYR]
   refine H.perm ?_
   (refine perm_cnt fun f g a b c d=>?_;simp only[c,b,a];omega)
  clear H w1 w2 w3 mx
  rintro m s w1 next ⟨j,al,rfl,hj,rfl,hal,H⟩ hnext
  have hri : Rising (ons d.firm (d.chs.take j)) := rising_ons _ hok.dk.rise
  refine br_dec (fun h => ?_) (fun h => ?_)
  ·have hjl : j < d.chs.length := by omega
   have hjc : j < x.cs.length := by rw [hok.cl]; exact hjl
   obtain ⟨cw,hcw⟩ : ∃ cw,x.cs[j]? = some cw := ⟨_,List.getElem?_eq_getElem hjc⟩
   obtain ⟨c,hcc⟩ : ∃ c,d.chs[j]? = some c := ⟨_,List.getElem?_eq_getElem hjl⟩
   obtain ⟨ad,ha,hld⟩ := H.ldO (P := Tryz.prog) (w' := w1) (t := 125) (o := Int.toNat (j : Int) * 1) (v := chV cw c) (by exact ⟨rfl,rfl,rfl,rfl⟩) sclC (.tail _ (.tail _ (List.mem_append_right _ (mem_chs x d)))) (by rw [Int.toNat_natCast,Nat.mul_one]; exact chVs_get hcw hcc)
   refine onP_mk ha ⟨⟨by omega,by omega⟩,_,hld,?_⟩
   refine onP_mk rfl ?_
   refine ⟨_,H.ld (by exact ⟨rfl,rfl,rfl,rfl⟩) sclMSI (.tail _ (.head _)) rfl,?_⟩
   have hop := dk_openC hcw hcc
   have H1 : Hp B w w1 ((.smap b1 al :: chL cw c) ++ (.blk z.b [.int .i64 (E.room : Int),.slice z.fa E.files.length z.fc,.map (some b1),.map (some z.mf),.slice z.ca E.chs.length z.cc,.int .i64 (E.armed : Int),.int .i64 (E.denied : Int),.bool E.dead] 71 :: (YR ++ dkC x d j))) := by
    refine H.perm (perm_cnt fun ff gg h0 hc ha hpm => ?_)
    have := hpm _ _ hop
    simp only [ha,hc,h0] at this ⊢
    omega
   refine callX (chX_spec cw c (hok.dk.chs c (List.mem_of_getElem? hcc)) b1 al w1 H1.std1) ?_
   rintro e w2 ⟨rfl,H'⟩
   replace H1 := H1.useL H'; clear H'
   refine ⟨rfl,inR64.2 (by omega),?_⟩
   refine hnext (M - (j + 1)) _ _ (by omega) ⟨j + 1,onA al c,rfl,by omega,by simp,?_,?_⟩
   ·have e1 : ons d.firm (d.chs.take (j + 1)) = c.on (ons d.firm (d.chs.take j)) := by rw [take_snoc hcc]; simp [ons]
    rw [e1]
    exact onA_perm hri hal c
   ·refine H1.perm (perm_cnt fun ff gg h0 hc ha hpm => ?_)
    have := hpm _ _ hop
    simp only [ha,hc,h0] at this ⊢
    omega
  ·have hj2 : j = M := by omega
   subst hj2
   refine onP_mk rfl ?_
   refine ⟨_,H.ld (by exact ⟨rfl,rfl,rfl,rfl⟩) sclMSI (.tail _ (.head _)) rfl,?_⟩
   refine callV (mclone_spec b1 al w1 (H.ok (.smap b1 al) (.head _))) ?_
   rintro e w2 ⟨b2,rfl,H'⟩; replace H := H.ext H'; clear H'
   refine ⟨_,rfl,?_⟩
   refine onP_mk rfl ?_
   refine Hp.st (H.pull2) (by exact ⟨rfl,rfl,rfl,rfl⟩) sclMSI rfl rfl (by simp) rfl ?_
   clear H; intro w3 H
   simp only [List.set_cons_zero,List.set_cons_succ] at H
   have hEf : E.files = foundF d.files ps ∧ E.room = d.room ∧ E.chs = [] ∧ E.armed = 0 ∧ E.denied = 0 ∧ E.dead = false := by rw [← hE]; simp
   have hcr : d.crash names ps = { E with firm := ons d.firm (d.chs.take j) } := by
    rw [← hE,Dk.crash,hM]
   refine ⟨{ z with mn := b1,na := al,mf := b2,fi := al },rfl,?_,?_⟩
   ·rw [hcr]
    have hzl := hz.fl
    have hlen : E.files.length = d.files.length := by rw [hEf.1,foundF_len]
    have hno := ons_file (m := d.files.length) (d.chs.take j) hok.dk.firm fun c hc => hok.dk.chs c (List.mem_of_mem_take hc)
    refine ⟨⟨hz.dk.room,hz.dk.files,fun p hp => by rw [hlen]; exact hno p hp,hz.dk.chs,hri,hz.dk.armed,hz.dk.denied⟩,hz.fl,hz.cl,hz.keys,?_,hal⟩
    show al.Perm (nvl (ons (ons d.firm (d.chs.take j)) E.chs))
    rw [hEf.2.2.1]
    exact hal
   ·rw [hcr]
    have H3 : Hp B w w3 ((BX :: .smap z.mn z.na :: .smap z.mf z.fi :: []) ++ (dkL { z with mn := b1,na := al,mf := b2,fi := al } { E with firm := ons d.firm (d.chs.take j) } ++ dkL x d)) := by
     refine H.perm (perm_cnt fun ff gg h0 hc ha hpm => ?_)
     rw [dkL_eq { z with mn := b1,na := al,mf := b2,fi := al },hYR]
     simp only [ha,hc,h0,dkR]
     omega
    exact H3.drop.drop.drop
end Go.Proofs.YtdeebigmpffnbaaGreat
namespace Go.Proofs.YtdeebigmpffnbaaGreat
open Go Go.Vc Go.Vault
theorem raggO : Agg Tryz.prog 32 6 := agg_of (by kernel_rfl)
theorem rsclU : Scl Tryz.prog 29 := scl_of (by kernel_rfl)
structure SC (F : List Nat) (w : World) (a : Option Addr) (n c sz : Nat) (xs : List Value) : Prop where
 cells : Cells w a xs
 inF : ∀ k ∈ blks a,k ∈ F
 len : xs.length = n * sz
 le : n ≤ c
 nil : a = none → n = 0
section
variable {F G : List Nat} {w w' : World} {a : Option Addr} {n c sz o m : Nat} {xs : List Value} {t : TypeId} {v : Value} {P : Program}
theorem SC.chg {S : List Nat} (h : SC F w a n c sz xs) (hc : Chg S w w') (hs : ∀ k ∈ F,k ∉ S) : SC F w' a n c sz xs := ⟨h.cells.chg hc fun k hk => hs k (h.inF k hk),h.inF,h.len,h.le,h.nil⟩
theorem SC.chg0 (h : SC F w a n c sz xs) (hc : Chg [] w w') : SC F w' a n c sz xs := h.chg hc (by simp)
theorem SC.more (h : SC F w a n c sz xs) (hs : ∀ k ∈ F,k ∈ G) : SC G w a n c sz xs := ⟨h.cells,fun k hk => hs k (h.inF k hk),h.len,h.le,h.nil⟩
end
structure Op where
 kind : Int
 n : Int
 name : ByteArray
 to : ByteArray
 b : List UInt8
 picks : List Int
structure OW where
 ba : Option Addr
 bc : Nat
 pa : Option Addr
 pc : Nat
structure OD (F : List Nat) (w : World) (ow : OW) (o : Op) : Prop where
 b : SC F w ow.ba o.b.length ow.bc 1 (bcells o.b)
 picks : SC F w ow.pa o.picks.length ow.pc 1 (ints o.picks)
theorem OD.chg0 {F : List Nat} {w w' : World} {ow : OW} {o : Op} (h : OD F w ow o) (hc : Chg [] w w') : OD F w' ow o := ⟨h.b.chg0 hc,h.picks.chg0 hc⟩
def opC (p : OW × Op) : List Value := [.int .i64 p.2.kind,.int .i64 p.2.n,.string p.2.name,.string p.2.to,.slice p.1.ba p.2.b.length p.1.bc,.slice p.1.pa p.2.picks.length p.1.pc]
def opCs (os : List (OW × Op)) : List Value := os.flatMap opC
def opF (p : OW × Op) : List Nat := blks p.1.ba ++ blks p.1.pa
structure Scr (W : World) (a : Option Addr) (os : List (OW × Op)) : Prop where
 cells : Cells W a (opCs os)
 ops : ∀ p ∈ os,OD (opF p) W p.1 p.2
 rng : ∀ p ∈ os,p.2.n ≤ 9223372036854775807
theorem Scr.chg0 {W W' : World} {a : Option Addr} {os : List (OW × Op)} (h : Scr W a os) (hc : Chg [] W W') : Scr W' a os := ⟨h.cells.chg hc (by simp),fun p hp => (h.ops p hp).chg0 hc,h.rng⟩
theorem opCs_at : ∀ {os : List (OW × Op)} {k : Nat} {p : OW × Op},os[k]? = some p → ((opCs os).drop (k * 6)).take 6 = opC p
 | [],k,p,h => by simp at h
 | q :: r,0,p,h => by
  simp at h; subst h
  rfl
 | q :: r,k + 1,p,h => by
  rw [List.getElem?_cons_succ] at h
  have ih := opCs_at h
  have e : opCs (q :: r) = opC q ++ opCs r := rfl
  rw [e,show (k + 1) * 6 = (opC q).length + k * 6 by simp [opC]; omega,List.drop_append,List.drop_eq_nil_of_le (by omega),List.nil_append,Nat.add_sub_cancel_left]
  exact ih
theorem Scr.ldA {W : World} {a : Option Addr} {os : List (OW × Op)} (h : Scr W a os) {k : Nat} {p : OW × Op} (hp : os[k]? = some p) : ∃ ad,a = some ad ∧ Ld Tryz.prog 32 W (ad.add (k * 6)) (.agg (opC p).toArray) := by
 have hx : opCs os ≠ [] := by
  intro h0
  have := opCs_at hp
  rw [h0,List.drop_nil,List.take_nil] at this
  cases this
 obtain ⟨ad,ha⟩ := h.cells.some hx
 exact ⟨ad,ha,h.cells.ldA raggO ha (opCs_at hp) rfl⟩
theorem Scr.stable {W w : World} {a : Option Addr} {os : List (OW × Op)} (h : Scr W a os) {L1 L2 : List Asn} (H : Hp [] W w (L1 ++ L2)) {p : OW × Op} (hp : p ∈ os) : ∀ W',Chg (feet L1) w W' → OD (opF p) W' p.1 p.2 := fun W' hc =>
 (h.ops p hp).chg0 (H.chg.trans hc (fun k hk => hk) fun k hk => by
  obtain ⟨b,hb,hbf⟩ := mem_feet.1 hk
  rcases H.own b (List.mem_append_left _ hb) k hbf with h | h
  ·cases h
  ·exact .inr h)
end Go.Proofs.YtdeebigmpffnbaaGreat
namespace Go.Vc
open Go Go.ChangeShapes Go.WideShapes Go.WideElems
noncomputable section
def RdK (P : Program) (w : World) : Nat → TypeId → (List Value → Prop) → Prop
 | 0,_,K => ∃ cs,K cs
 | n + 1,t,K => match P.underlying t with
  | some (.int k) => ∃ i,inR k i ∧ K [.int k i]
  | some .bool => ∃ b,K [.bool b]
  | some .string => ∃ s : ByteArray,s.size ≤ reachBytes ∧ K [.string s]
  | some (.slice e) => ∃ (a : Option Addr) (cap : Nat) (els : List (List Value)),els.length ≤ cap ∧ cap ≤ maxLen ∧ els.length * P.bytesOf e ≤ reachBytes ∧ (a = none → els = []) ∧ (∀ x ∈ els,RdK P w n e (fun cs => x = cs)) ∧ Cells w a els.flatten ∧ K [.slice a els.length cap]
  | some (.struct fs) => exLs (RdK P w n) (fs.toList.map (·.type)) K
  | _ => ∃ cs,K cs
def ofC (b : Option Bool) (cs : List Value) : Value := match b with
 | some true => .agg cs.toArray
 | _ => cs.headD .nilFunc
def RdA (P : Program) (w : World) (n : Nat) : List TypeId → (List Value → Prop) → Prop
 | [],K => K []
 | t :: r,K => RdK P w n t fun cs => RdA P w n r fun l => K (ofC (aggB P t) cs :: l)
section
variable {H : Type} {enc : TypeId × Value → H} {P : Program} {w : World} {base : Nat} {spare : Nat → Bool} {held : Bool}
theorem lit_inR {k : IntKind} {n : Int} (h : (Lit.int k n).wf = true) : inR k n := by
 simpa [Lit.wf,inR] using h
theorem exLs_mk {f : TypeId → (List Value → Prop) → Prop} : ∀ (l : List TypeId) (p : List (List Value)) (K : List Value → Prop),p.length = l.length → (∀ (i : Nat) (t : TypeId) (x : List Value),l[i]? = some t → p[i]? = some x → ∀ K' : List Value → Prop,K' x → f t K') → K p.flatten → exLs f l K
 | [],[],K,_,_,hk => by simpa [exLs] using hk
 | t :: r,x :: q,K,hl,hf,hk => by
  rw [exLs]
  refine hf 0 t x rfl rfl _ ?_
  refine exLs_mk r q _ (by simpa using hl) (fun i t y h1 h2 => hf (i + 1) t y h1 h2) ?_
  simpa using hk
theorem cut_flat : ∀ (sz : List Nat) (cs : List Value),cs.length = sz.sum → ((List.range sz.length).map fun i => (cs.drop (sz.take i).sum).take (sz.getD i 0)).flatten = cs
 | [],cs,h => by
  have : cs = [] := List.eq_nil_of_length_eq_zero (by simpa using h)
  simp [this]
 | n :: r,cs,h => by
  have ih := cut_flat r (cs.drop n) (by simp at h ⊢; omega)
  rw [List.length_cons,List.range_succ_eq_map,List.map_cons,List.flatten_cons,List.map_map]
  have e : ((fun i => (cs.drop ((n :: r).take i).sum).take ((n :: r).getD i 0)) ∘ Nat.succ) = fun i => ((cs.drop n).drop (r.take i).sum).take (r.getD i 0) := by
   funext i
   simp [List.drop_drop]
  rw [e,ih]
  simp [List.take_append_drop]
theorem rdK (hl : laidOutB P = true) : ∀ (n : Nat) (fuel : Nat) (t : TypeId) (cs : List Value) (x : DataW H × List MemPlace) (K : List Value → Prop),t < P.types.size → DataW.trod enc P w base spare held fuel t cs = some x → (x.1.weights P t).all (· ≤ reachBytes) = true → K cs → RdK P w n t K := by
 intro n
 induction n with
 | zero => intro fuel t cs x K _ _ _ hk; exact ⟨cs,hk⟩
 | succ n ih =>
  intro fuel t cs x K ht h hwt hk
  unfold RdK
  split
  ·rename_i k hu
   obtain ⟨i,rfl,_,hw⟩ := DataW.trod_int hu h
   exact ⟨i,lit_inR hw,hk⟩
  ·rename_i hu
   obtain ⟨b,rfl,_⟩ := DataW.trod_bool hu h
   exact ⟨b,hk⟩
  ·rename_i hu
   obtain ⟨s,rfl,rfl,hs⟩ := DataW.trod_string hu h
   simp only [DataW.weights,List.all_cons,List.all_nil,Bool.and_true,decide_eq_true_eq] at hwt
   exact ⟨s,by rw [Array.length_toList] at hwt; exact hwt,hk⟩
  ·rename_i e hu
   have he : e < P.types.size := kid_slice hl ht hu
   rcases DataW.trod_slice hu h with ⟨rfl,_⟩ | ⟨a,len,cap,elems,rest,m,rfl,rfl,hxx,hb,h1,h2,hlen,hel,hr1,hr2⟩
   ·exact ⟨none,0,[],Nat.le_refl _,by simp [maxLen],by rw [List.length_nil,Nat.zero_mul]; exact Nat.zero_le _,fun _ => rfl,by simp,by intro j v hj; simp at hj,hk⟩
   ·rw [hxx] at hwt
    simp only [DataW.weights,hu,List.all_cons,List.all_append,Bool.and_eq_true,decide_eq_true_eq,List.length_map] at hwt
    have hwe : ∀ z ∈ elems,(z.1.weights P e).all (· ≤ reachBytes) = true := by
     have hmem : ∀ (l : List (DataW H)),(DataW.weightsAll P e l).all (· ≤ reachBytes) = true → ∀ d ∈ l,(d.weights P e).all (· ≤ reachBytes) = true := by
      intro l
      induction l with
      | nil => intro _ d hd; cases hd
      | cons x r ihr =>
       intro hl d hd
       simp only [DataW.weightsAll,List.all_append,Bool.and_eq_true] at hl
       rcases List.mem_cons.1 hd with rfl | hd
       ·exact hl.1
       ·exact ihr hl.2 d hd
     exact fun z hz => hmem _ hwt.2.1 _ (List.mem_map_of_mem hz)
    have hall : ∀ i,i < len → ∃ y,w.cells? base (a.add (i * P.cellsOf e)) (P.cellsOf e) = some y ∧ ∃ z ∈ elems,DataW.trod enc P w base spare held m e y = some z := by
     intro i hi
     have h3 := hel i hi
     rw [List.getElem?_eq_getElem (by omega),Option.bind_eq_some_iff] at h3
     obtain ⟨y,hy,hz⟩ := h3
     exact ⟨y,hy,_,List.getElem_mem _,hz⟩
    obtain ⟨els,hels,hget⟩ : ∃ els : List (List Value),els.length = len ∧ ∀ i y,els[i]? = some y → w.cells? base (a.add (i * P.cellsOf e)) (P.cellsOf e) = some y ∧ ∃ z ∈ elems,DataW.trod enc P w base spare held m e y = some z := by
     clear hel hlen h hk h1 hr1 hr2 hxx hwt
     induction len with
     | zero => exact ⟨[],rfl,by simp⟩
     | succ q ihq =>
      obtain ⟨els,e1,e2⟩ := ihq fun i hi => hall i (by omega)
      obtain ⟨y,hy⟩ := hall q (by omega)
      refine ⟨els ++ [y],by simp [e1],fun i z hz => ?_⟩
      rw [List.getElem?_append] at hz
      split at hz
      ·exact e2 i z hz
      ·have hi : i = q := by
        have := (List.getElem?_eq_some_iff.1 hz).1
        simp at this; omega
       subst hi
       simp [e1] at hz; subst hz
       exact hy
    have hsz : ∀ y ∈ els,y.length = P.cellsOf e := by
     intro y hy
     obtain ⟨i,hi⟩ := List.getElem?_of_mem hy
     exact (World.cells?_some (hget i y hi).1).2.1
    refine ⟨some a,cap,els,by omega,h2,Nat.le_trans (Nat.mul_le_mul_right _ (by omega)) hwt.1,by simp,?_,?_,by rw [hels]; exact hk⟩
    ·intro y hy
     obtain ⟨i,hi⟩ := List.getElem?_of_mem hy
     obtain ⟨_,z,hzm,hz⟩ := hget i y hi
     exact ih m e y z _ he hz (hwe z hzm) rfl
    ·have hcell : ∀ (els : List (List Value)) (i0 : Nat),(∀ i y,els[i]? = some y → y.length = P.cellsOf e ∧ ∀ j v,y[j]? = some v → w.cell? (a.add ((i0 + i) * P.cellsOf e + j)) = some v) → ∀ j v,els.flatten[j]? = some v → w.cell? (a.add (i0 * P.cellsOf e + j)) = some v := by
      intro els
      induction els with
      | nil => intro i0 _ j v hj; simp at hj
      | cons y r ihr =>
       intro i0 hh j v hj
       obtain ⟨hy,hyc⟩ := hh 0 y rfl
       rw [List.flatten_cons,List.getElem?_append] at hj
       split at hj
       ·simpa using hyc j v hj
       ·have := ihr (i0 + 1) (fun i z hz => by
         have := hh (i + 1) z hz
         rw [show i0 + 1 + i = i0 + (i + 1) by omega]; exact this) (j - y.length) v hj
        rw [Nat.add_mul,Nat.one_mul] at this
        rw [show i0 * P.cellsOf e + j = i0 * P.cellsOf e + P.cellsOf e + (j - y.length) by omega]; exact this
     intro j v hj
     refine ⟨a,rfl,?_⟩
     have := hcell els 0 (fun i y hi => ⟨hsz y (List.mem_of_getElem? hi),fun j v hv => by
      have := (World.cells?_some (hget i y hi).1).2.2 j (by rw [← hsz y (List.mem_of_getElem? hi)]; exact (List.getElem?_eq_some_iff.1 hv).1)
      rw [add_add,hv] at this
      simpa using this⟩) j v hj
     simpa using this
  ·rename_i fs hu
   obtain ⟨xs,m,_,rfl,hcl,hxl,hf⟩ := DataW.trod_struct hu h
   obtain ⟨k1,k2,k3⟩ := kid_struct hl ht hu
   have hws : ∀ (ts : List TypeId) (l : List (DataW H)),(DataW.weightsEach P ts l).all (· ≤ reachBytes) = true → ∀ (i : Nat) t d,ts[i]? = some t → l[i]? = some d → (d.weights P t).all (· ≤ reachBytes) = true := by
    intro ts
    induction ts with
    | nil => intro l _ i t d h1; simp at h1
    | cons t0 r ihr =>
     intro l hl i t d h1 h2
     cases l with
     | nil => simp at h2
     | cons d0 l =>
      simp only [DataW.weightsEach,List.all_append,Bool.and_eq_true] at hl
      cases i with
      | zero => simp at h1 h2; subst h1 h2; exact hl.1
      | succ i => exact ihr l hl.2 i t d (by simpa using h1) (by simpa using h2)
   simp only [DataW.weights,hu] at hwt
   have hcut := cut_flat (fs.toList.map fun f => P.cellsOf f.type) cs (by rw [hcl,k2])
   refine exLs_mk _ _ _ ?_ ?_ (by rw [hcut]; exact hk)
   ·simp
   ·intro i t y h1 h2 K' hK'
    simp only [List.getElem?_map,Option.map_eq_some_iff] at h1
    obtain ⟨f,hfi,rfl⟩ := h1
    have hi : i < fs.toList.length := (List.getElem?_eq_some_iff.1 hfi).1
    simp only [List.length_map,List.getElem?_map,List.getElem?_range hi,Option.map_some,Option.some.injEq] at h2
    have e3 := k3 i f hfi
    rw [← List.map_take,← e3] at h2
    have e4 : (fs.toList.map fun f => P.cellsOf f.type).getD i 0 = P.cellsOf f.type := by
     rw [List.getD_eq_getElem?_getD,List.getElem?_map,hfi]; rfl
    rw [e4] at h2
    have h5 := hf i f (by simpa using hfi)
    rw [h2] at h5
    have h6 : i < xs.length := by rw [hxl]; simpa using hi
    rw [List.getElem?_eq_getElem h6] at h5
    refine ih m f.type y _ _ (k1 f (List.mem_of_getElem? hfi)) h5 (hws _ _ hwt i _ _ (by rw [List.getElem?_map,hfi]; rfl) (by rw [List.getElem?_map,List.getElem?_eq_getElem h6]; rfl)) hK'
  ·exact ⟨cs,hk⟩
theorem ofC_eq {r : Reach} {b0 : Nat} {t : TypeId} {v : Value} (hs : match P.underlying t with | some (.int _) | some .bool | some .string | some (.slice _) | some (.struct _) => True | _ => False) (hval : Value.okWide P w r b0 t v) : ofC (aggB P t) v.cells.toList = v := by
 cases hu : P.underlying t with
 | none => rw [hu] at hs; exact hs.elim
 | some d =>
  rw [hu] at hs
  cases d <;> try exact hs.elim
  ·obtain ⟨b,rfl⟩ := okWide_bool hu hval; simp [ofC,aggB,hu,Value.cells]
  ·obtain ⟨b,rfl⟩ := okWide_int hu hval; simp [ofC,aggB,hu,Value.cells]
  ·obtain ⟨b,rfl⟩ := okWide_string hu hval; simp [ofC,aggB,hu,Value.cells]
  ·obtain ⟨a,l,c,rfl⟩ := okWide_slice hu hval; simp [ofC,aggB,hu,Value.cells]
  ·obtain ⟨cs,rfl,_⟩ := okWide_struct hu hval; simp [ofC,aggB,hu,Value.cells]
def plainB (P : Program) (t : TypeId) : Bool := Nat.blt t P.types.size && P.readableRec t && match P.underlying t with
 | some (.int _) | some .bool | some .string | some (.slice _) | some (.struct _) => true
 | _ => false
theorem plain_of {t : TypeId} (h : plainB P t = true) : t < P.types.size ∧ P.readableRec t = true ∧ match P.underlying t with | some (.int _) | some .bool | some .string | some (.slice _) | some (.struct _) => True | _ => False := by
 simp only [plainB,Bool.and_eq_true] at h
 refine ⟨Nat.lt_of_lt_of_le (Nat.lt_succ_self _) (Nat.le_of_ble_eq_true h.1.1),h.1.2,?_⟩
 have := h.2
 split at this <;> simp_all
theorem rdA (hl : laidOutB P = true) {r : Reach} {b0 : Nat} (n : Nat) : ∀ (ts : List TypeId) (vs : List Value) (ds : List (DataW H)) (ps : List MemPlace) (K : List Value → Prop),ts.all (plainB P) = true → (∀ (j : Nat) t v,ts[j]? = some t → vs[j]? = some v → Value.okWide P w r b0 t v) →
  DataW.TrodAll enc P w base spare held ts vs ds ps → (DataW.weightsEach P ts ds).all (· ≤ reachBytes) = true → K vs → RdA P w n ts K
 | [],[],[],ps,K,_,_,_,_,hk => hk
 | t :: ts,v :: vs,d :: ds,ps,K,hp,hv,⟨p,q,⟨fuel,h1⟩,h2,_⟩,hwt,hk => by
  simp only [DataW.weightsEach,List.all_append,Bool.and_eq_true] at hwt
  simp only [List.all_cons,Bool.and_eq_true] at hp
  obtain ⟨p1,p2,p3⟩ := plain_of hp.1
  rw [RdA]
  refine rdK hl n fuel t _ _ _ p1 h1 hwt.1 ?_
  refine rdA hl n ts vs ds q _ hp.2 (fun j t v h3 h4 => hv (j + 1) t v h3 h4) h2 hwt.2 ?_
  rw [ofC_eq p3 (hv 0 t v rfl rfl)]
  exact hk
theorem trodAll_chg (hl : laidOutB P = true) {W W' : World} {sp : Nat → Bool} (hb : Go.RowKit.Below W.heap.size W W') : ∀ {ts : List TypeId} {vs : List Value} {ds : List (DataW H)} {ps : List MemPlace},ts.all (plainB P) = true → (∀ x ∈ ps,x.block < W.heap.size) → (∀ x ∈ ps,sp x.block = true) →
  DataW.TrodAll enc P W 0 (fun _ => true) true ts vs ds ps → DataW.TrodAll enc P W' 0 sp true ts vs ds ps
 | [],[],[],_,_,_,_,h => h
 | _ :: _,_ :: _,_ :: _,_,hp,hlt,hs,⟨p,q,h1,h2,e⟩ => by
  simp only [List.all_cons,Bool.and_eq_true] at hp
  obtain ⟨p1,p2,p3⟩ := plain_of hp.1
  exact ⟨p,q,Trod_stays hl p2 p1 h1 (fun x hx => hb.same (hlt x (by rw [e]; exact List.mem_append_left _ hx))) (fun x hx => hs x (by rw [e]; exact List.mem_append_left _ hx)),
   trodAll_chg hl hb hp.2 (fun x hx => hlt x (by rw [e]; exact List.mem_append_right _ hx)) (fun x hx => hs x (by rw [e]; exact List.mem_append_right _ hx)) h2,e⟩
theorem trodAll_len {W : World} : ∀ {ts : List TypeId} {vs : List Value} {ds : List (DataW H)} {ps : List MemPlace},DataW.TrodAll enc P W base spare held ts vs ds ps → ds.length = ts.length
 | [],[],[],_,_ => rfl
 | _ :: _,_ :: _,_ :: _,_,⟨_,_,_,h2,_⟩ => by simp [trodAll_len h2]
end
theorem Chg.below {w w' : World} (h : Chg [] w w') : Go.RowKit.Below w.heap.size w w' := ⟨h.1,h.2.1,h.2.2.1,h.size,fun k hk => h.2.2.2.2 k hk (by simp)⟩
theorem law_lift {C : Checked} {os : Os} {H : Type} {enc : TypeId × Value → H} (f : FuncId) (fn : Func) {s : ChangeSpec} (n : Nat) {t0 : TypeId} (own : ownKnob C.prog.godebug = none) (started : os.Started) (noInit : C.prog.inits.idxOf? f = none) (hfn : C.prog.funcs[f]? = some fn)
  (hl : laidOutB C.prog = true) (hpl : fn.params.toList.all (plainB C.prog) = true) (hsv : s.vars = []) (hrt : fn.resultTypes = #[t0]) (hb : C.prog.underlying t0 = some .bool)
  (hsp : ∀ ds : List (DataW H),ds.length = fn.params.toList.length → s.fn H ds = { results := [.lit (.bool true)],args := ds })
  (witness : ∃ (w : World) (tape : Tape) (i : Input),w.os = os ∧ (w.forCall tape i).Shaped C.prog ∧ i.vars = [] ∧ Input.okWide C.prog (w.forCall tape i) .any w.heap.size f i ∧
   s.pre6 enc C.prog fn [] false (w.forCall tape i).memory i.args ∧ ({} : Assume).holds C.prog (lone (Frame.enter C.prog f i.args .normal) [] (w.forCall tape i)))
  (contract : ∀ (W : World) (args : Array Value),RdA C.prog W n fn.params.toList (fun l => args.toList = l) → Calls C.prog f args W fun e W' => e = .returned (.bool true) ∧ Chg [] W W') :
  ReturnsInHanded {} C os f .any (s.pre6 enc C.prog fn [] false) (s.post enc C.prog fn false true false false) := by
 refine returnsInHanded_of_calls own started noInit witness ?_
 intro w0 tape inp _ _ _ hok hpre _
 obtain ⟨_,_,_,fn',hfn',_,_,_,_,hval⟩ := hok
 have efn : fn' = fn := Option.some.inj (hfn'.symm.trans hfn)
 subst efn
 obtain ⟨⟨ds,gs,before,hW0,_⟩,hsz⟩ := hpre
 have hwts := hsz.weights hW0
 have hW := DataW.Whole.of_heap (w' := w0.forCall tape inp) (by rfl) hW0
 clear hsz hW0
 suffices hmain : Calls C.prog f inp.args (w0.forCall tape inp) fun e W' => ∃ v,e = .returned v ∧ s.post enc C.prog fn' false true false false (w0.forCall tape inp) inp.args v W' from hmain.mono fun e W' ⟨v,he,hp⟩ => by
  subst he
  exact ChangeSpec.post_blind hp
 generalize w0.forCall tape inp = W at hW hval
 generalize inp.args = args at hW hval
 have hW' := hW
 obtain ⟨p,q,hA,hV,rfl,hfz,hnd⟩ := hW
 rw [hsv] at hV
 obtain ⟨rfl,rfl⟩ := trodVars_none hV
 have hlen := trodAll_len hA
 have hwA : (DataW.weightsEach C.prog (fn'.params.toList ++ (OpenSpec.ofChange s).bare.plain.varTypes C.prog) (ds ++ [])).all (· ≤ reachBytes) = true → (DataW.weightsEach C.prog fn'.params.toList ds).all (· ≤ reachBytes) = true := by
  rw [List.append_nil]
  have : ∀ (ts us : List TypeId) (l : List (DataW H)),l.length = ts.length → DataW.weightsEach C.prog (ts ++ us) l = DataW.weightsEach C.prog ts l := by
   intro ts
   induction ts with
   | nil => intro us l hl; have : l = [] := List.eq_nil_of_length_eq_zero hl; subst this; cases us <;> rfl
   | cons t r ih =>
    intro us l hl
    cases l with
    | nil => cases hl
    | cons d l => simp only [List.cons_append,DataW.weightsEach]; rw [ih us l (by simpa using hl)]
  rw [this _ _ _ hlen]
  exact id
 have hrd := rdA hl n fn'.params.toList args.toList ds p (fun l => args.toList = l) hpl (fun j t v h1 h2 => hval j t v (by simpa using h1) (by simpa using h2)) hA (hwA hwts) rfl
 refine (contract W args hrd).mono fun e W' ⟨he,hc⟩ => ⟨_,he,?_⟩
 have hbl := hc.below
 have hlt := hW'.lt
 simp only [List.append_nil] at hlt
 have hspec : s.fn H (ds ++ []) = { results := [.lit (.bool true)],args := ds } := by rw [List.append_nil]; exact hsp ds hlen
 have hR : ∀ (b : Nat) (sp : Nat → Bool) (hd : Bool),DataW.TrodAll enc C.prog W' b sp hd fn'.resultTypes.toList ((Value.bool true).resultList fn'.resultTypes.size) (s.fn H (ds ++ [])).results [] := fun b sp hd => by
  rw [hspec,hrt]
  exact trodAll_mk1 (Go.RowKit.shut_bool hb true)
 have hG : ∀ sp : Nat → Bool,(∀ x ∈ p,sp x.block = true) → DataW.TrodAll enc C.prog W' 0 sp true fn'.params.toList args.toList (s.fn H (ds ++ [])).args p := fun sp hs => by
  rw [hspec]
  exact trodAll_chg hl hbl hpl hlt hs hA
 have hVr : ∀ sp : Nat → Bool,DataW.TrodVars enc C.prog W' sp s.vars (s.fn H (ds ++ [])).vars [] := fun sp => by
  rw [hspec,hsv]
  rfl
 refine ⟨ds,[],p ++ [],[],p,[],hW',hR _ _ _,hG _ (fun x hx => by simpa using hlt x hx),hVr _,World.keptBut_mono (fun x hx => ⟨hx,.inr (by simpa using hx)⟩) (hbl.frame _),fun _ => ?_⟩
 refine ⟨Go.RowKit.ok_one hrt rfl (Go.RowKit.okWide_bool_mk hb true),_,_,([] ++ p) ++ [],⟨[] ++ p,[],trodAll_append (hG _ (fun _ _ => rfl)) (hR _ _ _),hVr _,rfl,?_,?_⟩,?_⟩
 ·intro b off hx
  have h1 := hlt (.cell b off) (by simpa using hx)
  rw [hbl.frozen (p := ⟨b,off,none⟩) h1]
  exact hfz b off (by simpa using hx)
 ·intro ha
  simpa using hnd ha
 ·intro x hx _
  simpa using hx
end
end Go.Vc
namespace Go.Proofs.YtdeebigmpffnbaaGreat
open Go Go.Vc Go.Vault Go.ChangeAt
theorem own_ : ownKnob Tryz.prog.godebug = none := by kernel_rfl
theorem laid_ : laidOutB Tryz.prog = true := by kernel_rfl
theorem und4 : Tryz.prog.underlying 4 = some .bool := by kernel_rfl
def ArgG (W : World) (n : Nat) (e : TypeId) (K : List Value → Prop) : Prop := ∃ (a : Option Addr) (cap : Nat) (els : List (List Value)),els.length ≤ cap ∧ cap ≤ maxLen ∧ els.length * Tryz.prog.bytesOf e ≤ reachBytes ∧ (a = none → els = []) ∧ (∀ x ∈ els,RdK Tryz.prog W n e (fun cs => x = cs)) ∧ Cells W a els.flatten ∧ K [.slice a els.length cap]
theorem rd_op (W : World) (K : List Value → Prop) : RdK Tryz.prog W 3 32 K = (∃ i,inR .i64 i ∧ ∃ j,inR .i64 j ∧ ∃ s : ByteArray,s.size ≤ reachBytes ∧ ∃ s2 : ByteArray,s2.size ≤ reachBytes ∧ ArgG W 1 5 fun x => ArgG W 1 3 fun y => K (.int .i64 i :: .int .i64 j :: .string s :: .string s2 :: (x ++ (y ++ [])))) := by kernel_rfl
theorem rd_int (W : World) (n : Nat) (K : List Value → Prop) : RdK Tryz.prog W (n + 1) 3 K = ∃ i,inR .i64 i ∧ K [.int .i64 i] := by kernel_rfl
theorem rd_u8 (W : World) (n : Nat) (K : List Value → Prop) : RdK Tryz.prog W (n + 1) 5 K = ∃ i,inR .u8 i ∧ K [.int .u8 i] := by kernel_rfl
theorem els_map {α : Type} {f : α → List Value} {Q : α → Prop} : ∀ (els : List (List Value)),(∀ x ∈ els,∃ p,Q p ∧ x = f p) → ∃ l : List α,els = l.map f ∧ ∀ p ∈ l,Q p
 | [],_ => ⟨[],rfl,by simp⟩
 | x :: r,h => by
  obtain ⟨p,hq,rfl⟩ := h x (.head _)
  obtain ⟨l,rfl,hl⟩ := els_map r fun y hy => h y (.tail _ hy)
  exact ⟨p :: l,rfl,by simpa using ⟨hq,hl⟩⟩
theorem flat_ints : ∀ l : List Int,(l.map fun i : Int => [Value.int .i64 i]).flatten = ints l
 | [] => rfl
 | x :: r => by rw [List.map_cons,List.flatten_cons,flat_ints r]; rfl
theorem flat_bcells : ∀ l : List UInt8,(l.map fun b : UInt8 => [Value.int .u8 (b.toNat : Int)]).flatten = bcells l
 | [] => rfl
 | x :: r => by rw [List.map_cons,List.flatten_cons,flat_bcells r]; rfl
theorem argG_ints {W : World} {n : Nat} {K : List Value → Prop} (h : ArgG W (n + 1) 3 K) : ∃ (a : Option Addr) (c : Nat) (l : List Int),SC (blks a) W a l.length c 1 (ints l) ∧ K [.slice a l.length c] := by
 obtain ⟨a,cap,els,h1,_,_,h2,hels,hc,he⟩ := h
 obtain ⟨l,rfl,_⟩ := els_map (f := fun i : Int => [Value.int .i64 i]) (Q := fun _ => True) els fun x hx => by
  have := hels x hx
  rw [rd_int] at this
  obtain ⟨i,_,rfl⟩ := this
  exact ⟨i,trivial,rfl⟩
 rw [List.length_map] at he h1
 rw [flat_ints] at hc
 exact ⟨a,cap,l,⟨hc,fun k hk => hk,by simp [ints],h1,fun ha => by have := h2 ha; simpa using this⟩,he⟩
theorem argG_bytes {W : World} {n : Nat} {K : List Value → Prop} (h : ArgG W (n + 1) 5 K) : ∃ (a : Option Addr) (c : Nat) (l : List UInt8),SC (blks a) W a l.length c 1 (bcells l) ∧ K [.slice a l.length c] := by
 obtain ⟨a,cap,els,h1,_,_,h2,hels,hc,he⟩ := h
 obtain ⟨l,rfl,_⟩ := els_map (f := fun b : UInt8 => [Value.int .u8 (b.toNat : Int)]) (Q := fun _ => True) els fun x hx => by
  have := hels x hx
  rw [rd_u8] at this
  obtain ⟨i,hi,rfl⟩ := this
  have hi := inR8.1 hi
  refine ⟨UInt8.ofNat i.toNat,trivial,?_⟩
  have : (UInt8.ofNat i.toNat).toNat = i.toNat := by
   rw [UInt8.toNat_ofNat']
   exact Nat.mod_eq_of_lt (by omega)
  rw [this]
  have : ((i.toNat : Nat) : Int) = i := by omega
  rw [this]
 rw [List.length_map] at he h1
 rw [flat_bcells] at hc
 exact ⟨a,cap,l,⟨hc,fun k hk => hk,by simp [bcells],h1,fun ha => by have := h2 ha; simpa using this⟩,he⟩
theorem argG_bytes2 {W : World} {n : Nat} {K : List Value → Prop} (h : ArgG W (n + 1) 5 K) : ∃ (a : Option Addr) (c : Nat) (l : List UInt8),SC (blks a) W a l.length c 1 (bcells l) ∧ l.length ≤ reachBytes ∧ K [.slice a l.length c] := by
 obtain ⟨a,cap,els,h1,h0,hr,h2,hels,hc,he⟩ := h
 have hr1 : els.length ≤ reachBytes := by
  have e1 : Tryz.prog.bytesOf 5 = 1 := by kernel_rfl
  rw [e1,Nat.mul_one] at hr; exact hr
 obtain ⟨a',c',l,hs,hk⟩ := argG_bytes (K := fun cs => cs = [.slice a els.length cap]) (n := n) ⟨a,cap,els,h1,h0,hr,h2,hels,hc,rfl⟩
 have := Value.slice.inj (List.cons.inj hk).1
 obtain ⟨ea,el,ec⟩ := this
 refine ⟨a',c',l,hs,by omega,?_⟩
 rw [hk]; exact he
theorem argG_script2 {W : World} {K : List Value → Prop} (h : ArgG W 3 32 K) : ∃ (a : Option Addr) (c : Nat) (os : List (OW × Op)),Scr W a os ∧ (∀ p ∈ os,p.2.b.length ≤ reachBytes) ∧ K [.slice a os.length c] := by
 obtain ⟨a,cap,els,h1,_,_,h2,hels,hc,he⟩ := h
 obtain ⟨l,rfl,hl⟩ := els_map (f := opC) (Q := fun p => (OD (opF p) W p.1 p.2 ∧ p.2.n ≤ 9223372036854775807) ∧ p.2.b.length ≤ reachBytes) els fun x hx => by
  have := hels x hx
  rw [rd_op] at this
  obtain ⟨i,_,j,hj,s,_,s2,_,h⟩ := this
  obtain ⟨ba,bc,b,hb,hbr,h⟩ := argG_bytes2 h
  obtain ⟨pa,pc,ps,hp,rfl⟩ := argG_ints h
  exact ⟨(⟨ba,bc,pa,pc⟩,⟨i,j,s,s2,b,ps⟩),⟨⟨⟨hb.more fun k hk => List.mem_append_left _ hk,hp.more fun k hk => List.mem_append_right _ hk⟩,(inR64.1 hj).2⟩,hbr⟩,rfl⟩
 rw [List.length_map] at he
 exact ⟨a,cap,l,⟨by rw [← List.flatMap_def] at hc; exact hc,fun p hp => (hl p hp).1.1,fun p hp => (hl p hp).1.2⟩,fun p hp => (hl p hp).2,he⟩
theorem argG_script {W : World} {K : List Value → Prop} (h : ArgG W 3 32 K) : ∃ (a : Option Addr) (c : Nat) (os : List (OW × Op)),Scr W a os ∧ K [.slice a os.length c] := by
 obtain ⟨a,c,os,h1,_,h2⟩ := argG_script2 h
 exact ⟨a,c,os,h1,h2⟩
end Go.Proofs.YtdeebigmpffnbaaGreat
namespace Go.Vault
open Go Go.Vc
def val (l : List (List UInt8)) (n : Nat) : List UInt8 := l.getD n zsec
structure Cont where
 v : Nat → List UInt8
 len : Nat
def cont (l : List (List UInt8)) : Cont := ⟨val l,l.length⟩
def torn (p : Nat) (new old : List UInt8) : List UInt8 := new.take p ++ old.drop p
theorem torn_zero (a b : List UInt8) : torn 0 a b = b := rfl
theorem torn_full {a b : List UInt8} (h : a.length ≤ 512) (h' : b.length ≤ 512) : torn 512 a b = a := by
 rw [torn,List.take_of_length_le h,List.drop_eq_nil_of_le h',List.append_nil]
theorem torn_same (p : Nat) (a : List UInt8) : torn p a a = a := List.take_append_drop p a
theorem torn_len {p : Nat} {a b : List UInt8} (h : a.length = b.length) : (torn p a b).length = b.length := by
 rw [torn,List.length_append,List.length_take,List.length_drop]; omega
theorem torn_take {p c : Nat} {a b x : List UInt8} (hl : a.length = b.length) (ha : a.take c = x) (hb : b.take c = x) : (torn p a b).take c = x := by
 subst hb
 apply List.ext_getElem?
 intro j
 rw [List.getElem?_take]
 by_cases hj : j < c
 ·rw [if_pos hj,List.getElem?_take_of_lt hj]
  by_cases hp : j < p
  ·have h1 : (a.take c)[j]? = (b.take c)[j]? := by rw [ha]
   rw [List.getElem?_take_of_lt hj,List.getElem?_take_of_lt hj] at h1
   by_cases hja : j < (a.take p).length
   ·rw [torn,List.getElem?_append_left hja,List.getElem?_take_of_lt hp,h1]
   ·have h2 : a.length ≤ j := by rw [List.length_take] at hja; omega
    rw [List.getElem?_eq_none (by rw [torn_len hl]; omega),List.getElem?_eq_none (by omega)]
  ·by_cases hja : p ≤ a.length
   ·rw [torn,List.getElem?_append_right (by rw [List.length_take]; omega),List.length_take,List.getElem?_drop,Nat.min_eq_left hja,show p + (j - p) = j by omega]
   ·rw [List.getElem?_eq_none (by rw [torn_len hl]; omega),List.getElem?_eq_none (by omega)]
 ·rw [if_neg hj,List.getElem?_eq_none (by rw [List.length_take]; omega)]
theorem val_of {l : List (List UInt8)} {n : Nat} (h : n < l.length) : val l n = l[n] := by simp [val,List.getD_eq_getElem?_getD,h]
theorem val_out {l : List (List UInt8)} {n : Nat} (h : l.length ≤ n) : val l n = zsec := by simp [val,List.getD_eq_getElem?_getD,h]
theorem val_fill (l : List (List UInt8)) (n m : Nat) : val (fill l n) m = val l m := by
 simp only [val,fill,List.getD_eq_getElem?_getD]
 by_cases h : m < l.length
 ·rw [List.getElem?_append_left h]
 ·rw [List.getElem?_append_right (by omega),List.getElem?_eq_none (l := l) (by omega)]
  rw [List.getElem?_replicate]
  split <;> rfl
theorem val_set {l : List (List UInt8)} {n : Nat} (h : n < l.length) (x : List UInt8) (m : Nat) : val (l.set n x) m = if m = n then x else val l m := by
 simp only [val,List.getD_eq_getElem?_getD]
 split
 ·rename_i e; subst e; rw [List.getElem?_set_self h]; rfl
 ·rename_i e; rw [List.getElem?_set_ne (fun h => e h.symm)]
theorem fill_lt (l : List (List UInt8)) (n : Nat) : n < (fill l n).length := by
 rw [fill,List.length_append,List.length_replicate]; omega
theorem val_mend {now l : List (List UInt8)} {n p : Nat} (hn : n < now.length) (m : Nat) : val (mend now l n p) m = if m = n then torn p (val now n) (val l n) else val l m := by
 rw [mend]
 split
 ·rename_i h; subst h
  rw [torn_zero]
  split
  ·rename_i h; rw [h]
  ·rfl
 ·rw [val_set (fill_lt l n),val_fill]
  split
  ·have e1 : now.getD n [] = val now n := by rw [val_of hn]; simp [List.getD_eq_getElem?_getD,hn]
   have e2 : (fill l n).getD n [] = val l n := by rw [← val_fill l n n,val_of (fill_lt l n)]; simp [List.getD_eq_getElem?_getD,fill_lt]
   rw [e1,e2,torn]
  ·rfl
theorem pick_le (p : Int) : pick p ≤ 512 := by unfold pick; omega
theorem foundL_val {now : List (List UInt8)} : ∀ (ns : List Nat) (ps : List Int) (l : List (List UInt8)),ns.Pairwise (· < ·) → (∀ n ∈ ns,n < now.length) →
  ∃ pk : Nat → Nat,∀ n,pk n ≤ 512 ∧ (n ∉ ns → pk n = 0) ∧ val (foundL now ns ps l) n = torn (pk n) (val now n) (val l n)
 | [],ps,l,_,_ => ⟨fun _ => 0,fun n => ⟨Nat.zero_le _,fun _ => rfl,rfl⟩⟩
 | k :: r,ps,l,hs,hb => by
  have hs := List.pairwise_cons.1 hs
  obtain ⟨pk,h⟩ := foundL_val r ps.tail (mend now l k (pick (ps.headD 0))) hs.2 (fun n hn => hb n (.tail _ hn))
  refine ⟨fun n => if n = k then pick (ps.headD 0) else pk n,fun n => ?_⟩
  obtain ⟨h1,h2,h3⟩ := h n
  rw [foundL,h3,val_mend (hb k (.head _))]
  by_cases hk : n = k
  ·subst hk
   simp only [if_true]
   refine ⟨pick_le _,fun hn => absurd (.head _) hn,?_⟩
   rw [h2 (fun hm => Nat.lt_irrefl _ (hs.1 n hm)),torn_zero]
  ·simp only [if_neg hk]
   exact ⟨h1,fun hn => h2 fun hm => hn (.tail _ hm),trivial⟩
theorem mend_len (now l : List (List UInt8)) (n p : Nat) : l.length ≤ (mend now l n p).length := by
 rw [mend]
 split
 ·exact Nat.le_refl _
 ·rw [List.length_set,fill,List.length_append]; omega
theorem foundL_len (now : List (List UInt8)) : ∀ (ns : List Nat) (ps : List Int) (l : List (List UInt8)),l.length ≤ (foundL now ns ps l).length
 | [],_,_ => Nat.le_refl _
 | k :: r,ps,l => Nat.le_trans (mend_len now l k _) (foundL_len now r ps.tail _)
def Fl.Tidy (f : Fl) : Prop := ∀ n,n ∉ f.since → val f.now n = val f.firm n
def Fl.Cr (f : Fl) (c : Cont) : Prop := f.firm.length ≤ c.len ∧ c.len ≤ f.now.length ∧ ∃ pk : Nat → Nat,∀ n,pk n ≤ 512 ∧ (n ∉ f.since → pk n = 0) ∧ c.v n = torn (pk n) (val f.now n) (val f.firm n)
theorem val_len {l : List (List UInt8)} (h : ∀ s ∈ l,s.length = 512) (n : Nat) : (val l n).length = 512 := by
 by_cases hn : n < l.length
 ·rw [val_of hn]; exact h _ (List.getElem_mem hn)
 ·rw [val_out (by omega)]; exact List.length_replicate
theorem Fl.Cr.vlen {f : Fl} (ok : f.Ok) {c : Cont} (h : f.Cr c) (n : Nat) : (c.v n).length = 512 := by
 obtain ⟨_,_,pk,h⟩ := h
 obtain ⟨_,_,h3⟩ := h n
 rw [h3,torn_len (by rw [val_len ok.now,val_len ok.firm]),val_len ok.firm]
theorem Fl.Cr.found {f : Fl} (ok : f.Ok) (ps : List Int) (hl : (f.found ps).now.length ≤ f.now.length) : f.Cr (cont (f.found ps).now) :=
 ⟨foundL_len _ _ _ _,hl,foundL_val f.since ps f.firm ok.since ok.below⟩
theorem Fl.Cr.firm {f : Fl} (ok : f.Ok) : f.Cr (cont f.firm) := ⟨Nat.le_refl _,ok.len,fun _ => 0,fun n => ⟨Nat.zero_le _,fun _ => rfl,rfl⟩⟩
theorem Fl.Cr.now {f : Fl} (ok : f.Ok) (ht : f.Tidy) : f.Cr (cont f.now) := by
 refine ⟨ok.len,Nat.le_refl _,fun n => if n ∈ f.since then 512 else 0,fun n => ?_⟩
 dsimp only [cont]
 by_cases h : n ∈ f.since
 ·rw [if_pos h]
  exact ⟨Nat.le_refl _,fun h' => absurd h h',(torn_full (by rw [val_len ok.now]; omega) (by rw [val_len ok.firm]; omega)).symm⟩
 ·rw [if_neg h]
  exact ⟨by omega,fun _ => rfl,ht n h⟩
theorem Fl.sync_ok {f : Fl} (ok : f.Ok) : f.sync.Ok := ⟨ok.now,ok.now,.nil,fun n hn => (by cases hn),Nat.le_refl _⟩
theorem Fl.sync_tidy (f : Fl) : f.sync.Tidy := fun n _ => rfl
theorem Fl.Cr.same {l : List (List UInt8)} {c : Cont} (h : (Fl.mk l l []).Cr c) : c = cont l := by
 obtain ⟨h1,h2,pk,h⟩ := h
 have h1 : l.length ≤ c.len := h1
 have h2 : c.len ≤ l.length := h2
 obtain ⟨v,len⟩ := c
 have e1 : v = val l := funext fun n => by
  obtain ⟨_,h3,h4⟩ := h n
  exact (show v n = _ from h4).trans (torn_same _ _)
 have e2 : len = l.length := by dsimp only at h1 h2; omega
 rw [e1,e2]; rfl
theorem Fl.Cr.sync {f : Fl} (ok : f.Ok) (ht : f.Tidy) {c : Cont} (h : f.sync.Cr c) : f.Cr c := by
 rw [Fl.Cr.same (l := f.now) h]; exact .now ok ht
theorem val_write {f : Fl} {i : Nat} (hi : i ≤ f.now.length) (b : List UInt8) (n : Nat) : val (f.write i b).now n = if n = i then pad b else val f.now n := by
 rw [Fl.write]
 dsimp only
 split
 ·rename_i h
  simp only [val,List.getD_eq_getElem?_getD]
  by_cases hn : n < f.now.length
  ·rw [List.getElem?_append_left hn,if_neg (by omega)]
  ·rw [List.getElem?_append_right (by omega)]
   by_cases h2 : n = i
   ·rw [if_pos h2,h2,h,Nat.sub_self]; rfl
   ·rw [if_neg h2,List.getElem?_eq_none (l := f.now) (by omega),List.getElem?_eq_none (by simp; omega)]
 ·exact val_set (by omega) _ n
theorem mem_addN {n m : Nat} : ∀ {l : List Nat},m ∈ addN n l ↔ m = n ∨ m ∈ l
 | [] => by simp [addN]
 | x :: r => by
  rw [addN]
  split
  ·simp
  ·split
   ·rename_i h; subst h; simp
   ·rw [List.mem_cons,mem_addN,List.mem_cons]
    constructor
    ·rintro (h | h | h)
     ·exact .inr (.inl h)
     ·exact .inl h
     ·exact .inr (.inr h)
    ·rintro (h | h | h)
     ·exact .inr (.inl h)
     ·exact .inl h
     ·exact .inr (.inr h)
theorem Fl.write_tidy {f : Fl} (ht : f.Tidy) {i : Nat} (hi : i ≤ f.now.length) (b : List UInt8) : (f.write i b).Tidy := by
 intro n hn
 have hn : n ∉ addN i f.since := hn
 rw [val_write hi]
 have h1 : n ≠ i := fun h => hn (mem_addN.2 (.inl h))
 rw [if_neg h1]
 exact ht n fun h => hn (mem_addN.2 (.inr h))
theorem Fl.Cr.write {f : Fl} (ok : f.Ok) {i : Nat} (hi : i ≤ f.now.length) {b : List UInt8} {c' : Cont} (h : (f.write i b).Cr c') :
  ∃ c p,f.Cr c ∧ p ≤ 512 ∧ c.len ≤ c'.len ∧ ∀ n,c'.v n = if n = i then torn p (pad b) (c.v i) else c.v n := by
 obtain ⟨h1,h2,pk,h⟩ := h
 have h1 : f.firm.length ≤ c'.len := h1
 have h2 : c'.len ≤ (f.write i b).now.length := h2
 refine ⟨⟨fun n => if n = i then val f.firm i else c'.v n,min c'.len f.now.length⟩,pk i,⟨?_,Nat.min_le_right _ _,fun n => if n = i then 0 else pk n,fun n => ?_⟩,(h i).1,Nat.min_le_left _ _,fun n => ?_⟩
 ·have := ok.len
  show f.firm.length ≤ min c'.len f.now.length
  omega
 ·dsimp only
  obtain ⟨h3,h4,h5⟩ := h n
  by_cases hn : n = i
  ·subst hn
   simp only [if_true]
   exact ⟨by omega,fun _ => trivial,rfl⟩
  ·simp only [if_neg hn]
   refine ⟨h3,fun hm => h4 fun hm2 => ?_,?_⟩
   ·rcases mem_addN.1 (show n ∈ addN i f.since from hm2) with h6 | h6
    ·exact hn h6
    ·exact hm h6
   ·rw [h5,val_write hi,if_neg hn]; rfl
 ·dsimp only
  obtain ⟨h3,h4,h5⟩ := h n
  by_cases hn : n = i
  ·subst hn
   simp only [if_true]
   rw [h5,val_write hi,if_pos rfl]; rfl
  ·simp only [if_neg hn]
end Go.Vault
namespace Go.Vault
open Go Go.Vc
structure Dk.Fit (d : Dk) (N : Nat) : Prop where
 files : d.files.length ≤ N
 now : ∀ f ∈ d.files,f.now.length ≤ N
 names : ∀ M,(ons d.firm (d.chs.take M)).length ≤ N
 chs : d.chs.length ≤ N
end Go.Vault
namespace Go.Proofs.YtdeebigmpffnbaaGreat
open Go Go.Vc Go.Vault
theorem _root_.Go.Vault.Dk.Fit.few {d : Dk} {N : Nat} (h : d.Fit N) : d.Few N := ⟨h.files,h.now,by have := h.names 0; simpa [ons] using this,h.chs⟩
theorem _root_.Go.Vault.Dk.Fit.nl {d : Dk} {N : Nat} (h : d.Fit N) : d.names.length ≤ N := by
 have := h.names d.chs.length
 rwa [List.take_length] at this
theorem _root_.Go.Vault.Dk.Fit.mono {d : Dk} {N M : Nat} (h : d.Fit N) (hm : N ≤ M) : d.Fit M := ⟨by have := h.files; omega,fun f hf => by have := h.now f hf; omega,fun m => by have := h.names m; omega,by have := h.chs; omega⟩
theorem sum_le {l : List Nat} {N : Nat} (h : ∀ x ∈ l,x ≤ N) : l.sum ≤ l.length * N := by
 induction l with
 | nil => simp
 | cons x r ih =>
  have h1 := h x (.head _)
  have h2 := ih fun y hy => h y (.tail _ hy)
  simp only [List.sum_cons,List.length_cons,Nat.add_mul,Nat.one_mul]; omega
theorem Dk.len_le {d : Dk} {N : Nat} (h : ∀ f ∈ d.files,f.now.length ≤ N) (k : Nat) : d.len k ≤ N := by
 unfold Dk.len Dk.file
 rw [List.getD_eq_getElem?_getD]
 cases hk : d.files[k]? with
 | none => simp [Fl.none]
 | some f => exact h f (List.mem_of_getElem? hk)
theorem _root_.Go.Vault.Dk.Fit.used {d : Dk} {N : Nat} (h : d.Fit N) (hN : N ≤ 1000000) : (d.used : Int) ≤ 9223372036854775807 := by
 have h1 := sum_le (l := d.names.map fun p => d.len p.file) (N := N) fun x hx => by
  obtain ⟨p,_,rfl⟩ := List.mem_map.1 hx
  exact Dk.len_le h.now _
 rw [List.length_map] at h1
 have h2 := Nat.mul_le_mul h.nl (Nat.le_refl N)
 have h3 := Nat.mul_le_mul hN hN
 have : d.used ≤ 1000000 * 1000000 := Nat.le_trans h1 (Nat.le_trans h2 h3)
 omega
theorem Fit.change {d : Dk} {N : Nat} (h : d.Fit N) (c : Ch) : (d.change c).Fit (N + 1) := by
 refine ⟨by have := h.files; show d.files.length ≤ _; omega,fun f hf => by have := h.now f hf; omega,fun M => ?_,by have := h.chs; simp only [Dk.change,List.length_append,List.length_singleton]; omega⟩
 show (ons d.firm ((d.chs ++ [c]).take M)).length ≤ _
 by_cases hM : M ≤ d.chs.length
 ·rw [List.take_append_of_le_length hM]; have := h.names M; omega
 ·rw [List.take_of_length_le (by simp; omega)]
  have e : ons d.firm (d.chs ++ [c]) = c.on d.names := by simp [ons,Dk.names]
  rw [e]
  have := c.len d.names
  have := h.nl
  omega
theorem Fit.dies {d : Dk} {N : Nat} (h : d.Fit N) : d.dies.Fit N := by
 obtain ⟨a,b,e⟩ := dies_eq d
 rw [e]; exact ⟨h.files,h.now,h.names,h.chs⟩
theorem Fit.denies {d : Dk} {N : Nat} (h : d.Fit N) : d.denies.Fit N := ⟨h.files,h.now,h.names,h.chs⟩
theorem Fit.put {d : Dk} {N : Nat} (h : d.Fit N) {k : Nat} {f : Fl} (hf : f.now.length ≤ N + 1) : (d.put k f).Fit (N + 1) := by
 refine ⟨by have := h.files; simp only [Dk.put,List.length_set]; omega,fun g hg => ?_,fun M => by have := h.names M; show (ons d.firm (d.chs.take M)).length ≤ _; omega,by have := h.chs; show d.chs.length ≤ _; omega⟩
 rcases List.mem_or_eq_of_mem_set hg with hg | rfl
 ·have := h.now g hg; omega
 ·exact hf
theorem Fit.file {d : Dk} {N : Nat} (h : d.Fit N) (k : Nat) : (d.file k).now.length ≤ N := Dk.len_le h.now k
theorem Fit.crash {d : Dk} {N : Nat} (h : d.Fit N) (hok : d.Ok) (n : Int) (ps : List Int) : (d.crash n ps).Fit N := by
 refine ⟨by simp only [Dk.crash,foundF_len]; exact h.files,fun f hf => ?_,fun M => ?_,by simp [Dk.crash]⟩
 ·obtain ⟨g,hg,qs,rfl⟩ := foundF_mem hf
  have := (found_ok (hok.files g hg) qs).2
  have := h.now g hg
  omega
 ·show (ons (ons d.firm (d.chs.take _)) (([] : List Ch).take M)).length ≤ N
  rw [List.take_nil]
  exact h.names _
theorem Fit.sub {d : Dk} {N : Nat} (h : d.Fit N) (l : List Nm) (hl : l.length ≤ N) : ({ d with firm := l,chs := [] } : Dk).Fit N :=
 ⟨h.files,h.now,fun M => by show (ons l (([] : List Ch).take M)).length ≤ N; rw [List.take_nil]; exact hl,by simp⟩
theorem Fit.create {d : Dk} {N : Nat} (h : d.Fit N) (n : ByteArray) : (d.create n).1.Fit (N + 1) := by
 have hm := h.mono (Nat.le_succ N)
 unfold Dk.create
 split
 ·exact hm
 ·split
  ·exact hm
  ·refine Fit.dies ?_
   have h1 := Fit.change h (.create n d.files.length)
   refine ⟨by simp only [Dk.change,List.length_append,List.length_singleton]; have := h.files; omega,fun f hf => ?_,h1.names,h1.chs⟩
   rcases List.mem_append.1 hf with hf | hf
   ·have := h.now f hf; omega
   ·rw [List.mem_singleton.1 hf]; simp [Fl.none]
theorem Fit.write {d : Dk} {N : Nat} (h : d.Fit N) (n : ByteArray) (i : Int) (b : List UInt8) : (d.write n i b).1.Fit (N + 1) := by
 have hm := h.mono (Nat.le_succ N)
 unfold Dk.write
 split
 ·exact hm
 ·split
  ·exact hm
  ·split
   ·exact hm
   ·split
    ·exact hm
    ·split
     ·exact Fit.denies hm
     ·refine Fit.dies (Fit.put (Fit.denies h) ?_)
      rename_i k _ _ _ _
      have := Fit.file h k
      simp only [Fl.write]
      split
      ·simp; omega
      ·simp; omega
theorem Fit.sync {d : Dk} {N : Nat} (h : d.Fit N) (n : ByteArray) : (d.sync n).1.Fit (N + 1) := by
 have hm := h.mono (Nat.le_succ N)
 unfold Dk.sync
 split
 ·exact hm
 ·split
  ·exact hm
  ·split
   ·exact Fit.denies hm
   ·dsimp only
    split
    ·exact Fit.dies (Fit.denies hm)
    ·rename_i k _ _ _
     exact Fit.put (Fit.dies (Fit.denies h)) (by have := Fit.file h k; simp only [Fl.sync]; omega)
theorem Fit.rename {d : Dk} {N : Nat} (h : d.Fit N) (a b : ByteArray) : (d.rename a b).1.Fit (N + 1) := by
 have hm := h.mono (Nat.le_succ N)
 unfold Dk.rename
 split
 ·exact hm
 ·split
  ·exact hm
  ·split
   ·exact hm
   ·split
    ·exact hm
    ·exact Fit.dies (Fit.change h _)
theorem Fit.syncNames {d : Dk} {N : Nat} (h : d.Fit N) : d.syncNames.1.Fit (N + 1) := by
 have hm := h.mono (Nat.le_succ N)
 unfold Dk.syncNames
 split
 ·exact hm
 ·dsimp only
  split
  ·exact Fit.dies hm
  ·exact Fit.sub (Fit.dies hm) _ (by have := h.nl; omega)
end Go.Proofs.YtdeebigmpffnbaaGreat
namespace Go.Proofs.YtdeebigmpffnbaaGreat
open Go Go.Vc Go.Vault
theorem nget_without (n m : ByteArray) : ∀ l : List Nm,nget (without l n) m = if m = n then none else nget l m
 | [] => by simp [without,nget]
 | p :: r => by
  have ih := nget_without n m r
  by_cases h : p.name = n
  ·have e : without (p :: r) n = without r n := by simp [without,h]
   rw [e,ih,nget]
   by_cases hm : m = n
   ·rw [if_pos hm,if_pos hm]
   ·rw [if_neg hm,if_neg hm,if_neg (fun h2 => hm (h2.symm.trans h))]
  ·have e : without (p :: r) n = p :: without r n := by simp [without,h]
   rw [e,nget,nget,ih]
   by_cases hm : m = n
   ·rw [if_pos hm,if_pos hm,if_neg (fun h2 => h (h2.trans hm))]
   ·rw [if_neg hm,if_neg hm]
theorem nget_ins (n : Nm) (m : ByteArray) : ∀ l : List Nm,(∀ p ∈ l,p.name ≠ n.name) → nget (ins n l) m = if m = n.name then some n.file else nget l m
 | [],_ => by
  simp only [ins,nget]
  by_cases h : m = n.name
  ·rw [if_pos h,if_pos h.symm]
  ·rw [if_neg h,if_neg (fun h2 => h h2.symm)]
 | p :: r,h => by
  have ih := nget_ins n m r fun q hq => h q (.tail _ hq)
  have hp := h p (.head _)
  simp only [ins]
  split
  ·rw [nget,nget,ih]
   by_cases hm : m = n.name
   ·rw [if_neg (fun h2 => hp (h2.trans hm)),if_pos hm,if_pos hm]
   ·rw [if_neg hm,if_neg hm]
  ·rw [nget]
   by_cases hm : m = n.name
   ·rw [if_pos hm,if_pos hm.symm]
   ·rw [if_neg hm,if_neg (fun h2 => hm h2.symm)]
theorem nget_with (l : List Nm) (n : Nm) (m : ByteArray) : nget (with_ l n) m = if m = n.name then some n.file else nget l m := by
 rw [with_,nget_ins _ _ _ fun p hp => by simpa using (List.mem_filter.1 hp).2,nget_without]
 by_cases h : m = n.name
 ·rw [if_pos h,if_pos h]
 ·rw [if_neg h,if_neg h,if_neg h]
structure Calm (q : Dk) : Prop where
 armed : q.armed = 0
 denied : q.denied = 0
 dead : q.dead = false
theorem Calm.dies {q : Dk} (h : Calm q) : q.dies = q := by unfold Dk.dies; rw [if_neg (by have := h.armed; omega)]
theorem Calm.denies {q : Dk} (h : Calm q) : q.denies = q := by
 have h2 := h.denied
 obtain ⟨_,_,_,_,_,_,_⟩ := q
 simp only [Dk.denies] at h2 ⊢
 rw [h2]
theorem Calm.refused {q : Dk} (h : Calm q) : q.refused = false := by simp [Dk.refused,h.denied]
theorem Calm.code {q : Dk} (h : Calm q) : q.code = 0 := by simp [Dk.code,h.dead]
theorem Calm.put {q : Dk} (h : Calm q) (k : Nat) (f : Fl) : Calm (q.put k f) := ⟨h.armed,h.denied,h.dead⟩
theorem create_calm {q : Dk} (h : Calm q) {n : ByteArray} (hr : Vault.right n = true) : q.create n = (Dk.change { q with files := q.files ++ [Fl.none] } (.create n q.files.length),0) := by
 have hc : Calm (Dk.change { q with files := q.files ++ [Fl.none] } (.create n q.files.length)) := ⟨h.armed,h.denied,h.dead⟩
 unfold Dk.create
 rw [if_neg (by rw [h.dead]; simp),if_neg (by rw [hr]; simp)]
 simp only [hc.dies,hc.code]
theorem find_change (q : Dk) (c : Ch) (m : ByteArray) : (q.change c).find m = nget (c.on q.names) m := by
 rw [Dk.find,Dk.change_names]
theorem dies_find (d : Dk) (n : ByteArray) : d.dies.find n = d.find n := by
 unfold Dk.dies; split <;> rfl
end Go.Proofs.YtdeebigmpffnbaaGreat
namespace Go.Redo
open Go Go.Vc Go.Vault
def thn (r : Dk × Int) (f : Dk → Dk × Int) : Dk × Int := if r.2 = 0 then f r.1 else r
def framed (b : List UInt8) (s : ByteArray) : List UInt8 := b ++ (be (s.size : Int) 4 ++ s.data.toList)
def framedAll (l : List ByteArray) : List UInt8 := l.foldl framed []
def recordsF : Nat → List UInt8 → Option (List ByteArray)
 | 0,_ => some []
 | m + 1,b => if b = [] then some [] else if b.length < 4 then none else
  if 65536 < valN (b.take 4) then none else if b.length - 4 < valN (b.take 4) then none else
  (recordsF m (b.drop (4 + valN (b.take 4)))).map fun l => ⟨((b.drop 4).take (valN (b.take 4))).toArray⟩ :: l
def records (b : List UInt8) : Option (List ByteArray) := recordsF b.length b
structure Lg where
 name : ByteArray
 mark : Nat
 b : List UInt8
 firm : Nat
 many : Nat
 all : List ByteArray
 code : Int
def sealB (mark firm : Nat) : List UInt8 := be (mark : Int) 8 ++ (be (firm : Int) 8 ++ (List.replicate 488 0 ++ be (mark : Int) 8))
def dseal (d : Dk) (name : ByteArray) (mark firm : Nat) : Dk × Int :=
 thn (thn (d.sync name) fun d => d.write name ((mark % 2 : Nat) : Int) (sealB mark firm)) fun d => d.sync name
def dput (name : ByteArray) (b : List UInt8) : Nat → Nat → Dk → Dk × Int
 | 0,_,d => (d,0)
 | m + 1,k,d => if b.length ≤ k * 512 then (d,0) else thn (d.write name ((2 + k : Nat) : Int) ((b.drop (k * 512)).take 512)) (dput name b m (k + 1))
def dwrite (d : Dk) (name : ByteArray) (b : List UInt8) (from_ : Nat) : Dk × Int := dput name b (b.length / 512 + 1 - from_ / 512) (from_ / 512) d
def dfill (d : Dk) (name : ByteArray) (b : List UInt8) : Dk × Int :=
 thn (thn (thn (thn (d.create name) fun d => d.write name 0 []) fun d => d.write name 1 []) fun d => dwrite d name b 0) fun d => dseal d name 1 b.length
def newN (name : ByteArray) : ByteArray := name ++ ⟨#[46,110,101,119]⟩
def drenew (d : Dk) (name : ByteArray) (all : List ByteArray) : Dk × Int :=
 thn (thn (dfill d (newN name) (framedAll all)) fun d => d.rename (newN name) name) fun d => d.syncNames
def Lg.anew (l : Lg) (all : List ByteArray) : Lg := { l with mark := 1,b := framedAll all,firm := (framedAll all).length,all := all,many := all.length }
def Lg.none (name : ByteArray) : Lg := ⟨name,0,[],0,0,[],0⟩
def lookP (d : Dk) (name : ByteArray) (n : Nat) : Option (Nat × Nat) :=
 if (d.read name n).2 = 0 ∧ (d.read name n).1.take 8 = (d.read name n).1.drop 504 then some (valN ((d.read name n).1.take 8),valN (((d.read name n).1.drop 8).take 8)) else none
def better (m : Nat × Nat) (l : Option (Nat × Nat)) : Nat × Nat := match l with
 | some p => if m.1 < p.1 then p else m
 | .none => m
def mark2 (d : Dk) (name : ByteArray) : Nat × Nat := better (better (0,0) (lookP d name 0)) (lookP d name 1)
def gath (d : Dk) (name : ByteArray) (firm : Nat) : Nat → Nat → List UInt8 → List UInt8 × Int
 | 0,_,b => (b,0)
 | m + 1,n,b => if firm ≤ b.length then (b,0) else if (d.read name n).2 = 0 then gath d name firm m (n + 1) (b ++ (d.read name n).1) else (b,(d.read name n).2)
def findP (d : Dk) (name : ByteArray) : Int × Lg :=
 if (d.size name - 2) * 512 < (mark2 d name).2 then (100,Lg.none name) else
 let g := gath d name (mark2 d name).2 ((mark2 d name).2 + 1) 2 []
 if g.2 = 0 then match records (g.1.take (mark2 d name).2) with
  | some l => (0,⟨name,(mark2 d name).1,g.1.take (mark2 d name).2,(mark2 d name).2,l.length,l,0⟩)
  | .none => (100,Lg.none name)
 else (g.2,Lg.none name)
def openP (d : Dk) (name : ByteArray) : Dk × Int × Lg :=
 if d.dead then (d,93,Lg.none name) else if name.size = 0 ∨ 56 < name.size then (d,92,Lg.none name) else
 if 2 ≤ d.size name then (d,findP d name) else
 ((drenew d name []).1,(drenew d name []).2,(Lg.none name).anew [])
def Lg.append (l : Lg) (s : ByteArray) : Lg × Int := if 65536 < s.size then (l,101) else ({ l with b := framed l.b s,all := l.all ++ [s] },0)
def flushP (d : Dk) (l : Lg) : Dk × Lg × Int :=
 if l.code = 0 then
  let r := thn (dwrite d l.name l.b l.firm) fun d => dseal d l.name (l.mark + 1) l.b.length
  if r.2 = 0 then (r.1,{ l with mark := l.mark + 1,firm := l.b.length,many := l.all.length },0) else (r.1,{ l with code := r.2 },r.2)
 else (d,l,l.code)
end Go.Redo
namespace Go.Proofs.YtdeebigmpffnbaaGreat
open Go Go.Vc Go.Vault Go.Redo
theorem sclU64 : Scl Tryz.prog 127 := scl_of (by kernel_rfl)
theorem sclDP : Scl Tryz.prog 23 := scl_of (by kernel_rfl)
theorem sclBS : Scl Tryz.prog 29 := scl_of (by kernel_rfl)
theorem sclTS : Scl Tryz.prog 26 := scl_of (by kernel_rfl)
theorem sclEr : Scl Tryz.prog 27 := scl_of (by kernel_rfl)
theorem aggNo : Agg Tryz.prog 206 8 := agg_of (by kernel_rfl)
theorem eltU8 : Elt Tryz.prog 29 5 1 1 := elt_of (by kernel_rfl)
theorem eltT : Elt Tryz.prog 26 9 1 16 := elt_of (by kernel_rfl)
theorem undST : Tryz.prog.underlying 26 = some (.slice 9) := by kernel_rfl
theorem undStr : Tryz.prog.underlying 9 = some .string := by kernel_rfl
theorem set_last {cs : List Value} {i : Nat} (h : i < cs.length) (v : Value) : (cs.take (i + 1)).set i v = cs.take i ++ [v] := by
 rw [List.take_succ_eq_append_getElem h,List.set_append,if_neg (by rw [List.length_take]; omega),List.length_take,Nat.min_eq_left (by omega),Nat.sub_self]
 rfl
theorem be_gt (n : Int) : ∀ (m k : Nat),k < m → (be n m)[k]? = some (bt n (m - 1 - k))
 | 0,k,h => by omega
 | m + 1,0,_ => rfl
 | m + 1,k + 1,h => by
  rw [be,List.getElem?_cons_succ,be_gt n m k (by omega)]
  congr 2; omega
theorem be_dropS (n : Int) (m k : Nat) (h : k < m) : (be n m).drop (m - (k + 1)) = bt n k :: (be n m).drop (m - k) := by
 have hl := be_length n m
 have hk : m - (k + 1) < (be n m).length := by omega
 rw [List.drop_eq_getElem_cons hk,show m - (k + 1) + 1 = m - k by omega]
 have := be_gt n m (m - (k + 1)) (by omega)
 rw [List.getElem?_eq_getElem hk] at this
 rw [Option.some.inj this]
 congr 2; omega
theorem shr_b64 (i : Int) (m : Nat) (h : m < 8) (j : Int) (hj : j = m) : IntKind.u8.wrap (Int.fdiv i ((2 : Int) ^ min (Int.toNat ((8 : Int) * j)) (IntKind.bits IntKind.u64))) = ((bt i m).toNat : Int) := shr_byte i m h j hj
theorem shr_b32 (i : Int) (m : Nat) (h : m < 4) (j : Int) (hj : j = m) : IntKind.u8.wrap (Int.fdiv i ((2 : Int) ^ min (Int.toNat ((8 : Int) * j)) (IntKind.bits IntKind.u32))) = ((bt i m).toNat : Int) := by
 subst hj
 rw [wrap8_mod,bt_toNat]
 have e1 : Int.toNat ((8 : Int) * (m : Int)) = 8 * m := by omega
 have e2 : min (8 * m) (IntKind.bits IntKind.u32) = 8 * m := by simp only [IntKind.bits]; omega
 rw [e1,e2,Int.fdiv_eq_ediv_of_nonneg _ (Int.le_of_lt (Int.pow_pos (by omega)))]
theorem lay64_spec (b o m c : Nat) (T : TypeId) (cs : List Value) (n : Int) (h : o + m ≤ cs.length) (hm : m ≤ 8) (w : World) (hb : Blk w b cs T) :
  Calls Tryz.prog 120 #[.slice (some ⟨b,o,none⟩) m c,.int .u64 n] w fun e w' => e = .returned (.tuple #[]) ∧ Hp [b] w w' [.blk b (cs.take o ++ (bcells (be n m) ++ cs.drop (o + m))) T] := by
 apply lay64.ok; unfold lay64.vc
 have H : Hp [b] w w [.blk b cs T] := Hp.start1 (a := .blk b cs T) hb
 refine LoopP.mk (fun q s w' => ∃ k : Nat,q = m - k ∧ k ≤ m ∧ s = (k : Int) ∧ Hp [b] w w' [.blk b (cs.take (o + (m - k)) ++ (bcells ((be n m).drop (m - k)) ++ cs.drop (o + m))) T]) m ⟨0,rfl,by omega,rfl,by
  rw [Nat.sub_zero,List.drop_eq_nil_of_le (by rw [be_length]; exact Nat.le_refl _)]
  simpa [bcells] using H⟩ ?_
 clear H
 rintro q s w' next ⟨k,rfl,hk,rfl,H⟩ hnext
 refine br_dec (fun h3 => ?_) (fun h3 => ?_)
 ·have hkm : k < m := by omega
  refine ⟨inR64.2 (by omega),inR64.2 (by omega),inR64.2 (by omega),by omega,onP_mk rfl ⟨⟨by omega,by omega⟩,?_⟩⟩
  have e1 : Int.toNat ((m : Int) - 1 - (k : Int)) * 1 = m - (k + 1) := by omega
  rw [e1,add_lit,shr_b64 n k (by omega) _ rfl]
  have e2 : o + (m - k) = o + (m - (k + 1)) + 1 := by omega
  have hlt : o + (m - (k + 1)) < (cs.take (o + (m - k))).length := by rw [List.length_take]; omega
  refine Hp.st H (by exact ⟨rfl,rfl,rfl,rfl⟩) sclU8 rfl rfl (by rw [List.length_append]; omega) (cs' := cs.take (o + (m - (k + 1))) ++ (bcells ((be n m).drop (m - (k + 1))) ++ cs.drop (o + m))) ?_ ?_
  ·rw [List.set_append,if_pos hlt,e2,set_last (by omega),List.append_assoc,be_dropS n m k hkm]
   rfl
  clear H
  intro w1 H
  exact ⟨inR64.2 (by omega),hnext (m - (k + 1)) _ _ (by omega) ⟨k + 1,rfl,by omega,by omega,H⟩⟩
 ·have hkm : k = m := by omega
  subst hkm
  simp only [Nat.sub_self,Nat.add_zero,List.drop_zero] at H
  exact ⟨rfl,H⟩
theorem lay32_spec (b o m c : Nat) (T : TypeId) (cs : List Value) (n : Int) (h : o + m ≤ cs.length) (hm : m ≤ 4) (w : World) (hb : Blk w b cs T) :
  Calls Tryz.prog 133 #[.slice (some ⟨b,o,none⟩) m c,.int .u32 n] w fun e w' => e = .returned (.tuple #[]) ∧ Hp [b] w w' [.blk b (cs.take o ++ (bcells (be n m) ++ cs.drop (o + m))) T] := by
 apply lay32.ok; unfold lay32.vc
 have H : Hp [b] w w [.blk b cs T] := Hp.start1 (a := .blk b cs T) hb
 refine LoopP.mk (fun q s w' => ∃ k : Nat,q = m - k ∧ k ≤ m ∧ s = (k : Int) ∧ Hp [b] w w' [.blk b (cs.take (o + (m - k)) ++ (bcells ((be n m).drop (m - k)) ++ cs.drop (o + m))) T]) m ⟨0,rfl,by omega,rfl,by
  rw [Nat.sub_zero,List.drop_eq_nil_of_le (by rw [be_length]; exact Nat.le_refl _)]
  simpa [bcells] using H⟩ ?_
 clear H
 rintro q s w' next ⟨k,rfl,hk,rfl,H⟩ hnext
 refine br_dec (fun h3 => ?_) (fun h3 => ?_)
 ·have hkm : k < m := by omega
  refine ⟨inR64.2 (by omega),inR64.2 (by omega),inR64.2 (by omega),by omega,onP_mk rfl ⟨⟨by omega,by omega⟩,?_⟩⟩
  have e1 : Int.toNat ((m : Int) - 1 - (k : Int)) * 1 = m - (k + 1) := by omega
  rw [e1,add_lit,shr_b32 n k (by omega) _ rfl]
  have e2 : o + (m - k) = o + (m - (k + 1)) + 1 := by omega
  have hlt : o + (m - (k + 1)) < (cs.take (o + (m - k))).length := by rw [List.length_take]; omega
  refine Hp.st H (by exact ⟨rfl,rfl,rfl,rfl⟩) sclU8 rfl rfl (by rw [List.length_append]; omega) (cs' := cs.take (o + (m - (k + 1))) ++ (bcells ((be n m).drop (m - (k + 1))) ++ cs.drop (o + m))) ?_ ?_
  ·rw [List.set_append,if_pos hlt,e2,set_last (by omega),List.append_assoc,be_dropS n m k hkm]
   rfl
  clear H
  intro w1 H
  exact ⟨inR64.2 (by omega),hnext (m - (k + 1)) _ _ (by omega) ⟨k + 1,rfl,by omega,by omega,H⟩⟩
 ·have hkm : k = m := by omega
  subst hkm
  simp only [Nat.sub_self,Nat.add_zero,List.drop_zero] at H
  exact ⟨rfl,H⟩
theorem or_u64 (v y : Nat) (hv : v < 72057594037927936) (hy : y < 256) : Vc.bits .or .u64 ((v : Int) * 2 ^ min (Int.toNat 8) (IntKind.bits .u64)) (IntKind.u64.wrap (y : Int)) = ((v * 256 + y : Nat) : Int) := by
 have e1 : (2 : Int) ^ min (Int.toNat 8) (IntKind.bits .u64) = 256 := by decide
 have wr : ∀ z : Int,IntKind.u64.wrap z = z % 18446744073709551616 := fun z => by simp [IntKind.wrap,IntKind.signed,IntKind.bits]
 rw [e1]
 show IntKind.u64.wrap ((BitVec.ofInt 64 ((v : Int) * 256) ||| BitVec.ofInt 64 (IntKind.u64.wrap (y : Int))).toNat : Int) = _
 rw [wr,wr,BitVec.toNat_or,BitVec.toNat_ofInt,BitVec.toNat_ofInt]
 have h1 : (((v : Int) * 256) % ((2 ^ 64 : Nat) : Int)).toNat = v <<< 8 := by
  rw [Nat.shiftLeft_eq]; omega
 have h2 : (((y : Int) % 18446744073709551616) % ((2 ^ 64 : Nat) : Int)).toNat = y := by omega
 rw [h1,h2,← Nat.shiftLeft_add_eq_or_of_lt (show y < 2 ^ 8 by omega),Nat.shiftLeft_eq]
 omega
theorem inRU {z : Int} : inR .u64 z ↔ 0 ≤ z ∧ z ≤ 18446744073709551615 := by
 simp [inR,IntKind.min,IntKind.max,IntKind.signed,IntKind.bits]; try omega
theorem valN_lt8 {l : List UInt8} (h : l.length ≤ 7) : valN l < 72057594037927936 := Nat.lt_of_lt_of_le (valN_lt l) (by
 have : (256 : Nat) ^ l.length ≤ 256 ^ 7 := Nat.pow_le_pow_right (by omega) h
 exact this)
theorem take_spec (a : Option Addr) (bs : List UInt8) (c : Nat) (hl : bs.length ≤ 8) (w : World) (hc : Cells w a (bcells bs)) : Calls Tryz.prog 135 #[.slice a bs.length c] w fun e w' =>
  e = .returned (.int .u64 (valN bs : Int)) ∧ Hp [] w w' [] := by
 apply take.ok; unfold take.vc
 refine LoopP.mk (fun m s w' => ∃ k : Nat,m = bs.length - k ∧ k ≤ bs.length ∧ s = ((valN (bs.take k) : Int),(k : Int)) ∧ Hp [] w w' []) bs.length ⟨0,rfl,by omega,rfl,Hp.start w⟩ ?_
 rintro m s w' next ⟨k,rfl,hk,rfl,H⟩ hnext
 refine br_dec (fun h3 => ?_) (fun h3 => ?_)
 ·have hkl : k < bs.length := by simp only at h3; omega
  have hv : (bcells bs)[k]? = some (.int .u8 (bs[k].toNat : Int)) := by simp [bcells,hkl]
  obtain ⟨ad,ha,_⟩ := hc k _ hv
  have hld := (hc.chg H.chg (by simp)).ld (P := Tryz.prog) sclU8 ha hv
  have hlt := valN_lt8 (l := bs.take k) (by rw [List.length_take]; omega)
  refine onP_mk ha ⟨⟨by simp only; omega,by simp only; omega⟩,_,by simp only; rw [Int.toNat_natCast,Nat.mul_one]; exact hld,by omega,inRU.2 ?_,inR64.2 (by simp only; omega),?_⟩
  ·have e1 : (2 : Int) ^ min (Int.toNat 8) (IntKind.bits .u64) = 256 := by decide
   simp only; rw [e1]; omega
  ·refine hnext (bs.length - (k + 1)) _ _ (by omega) ⟨k + 1,rfl,by omega,?_,H⟩
   simp only
   rw [or_u64 _ _ hlt (UInt8.toNat_lt _),List.take_succ_eq_append_getElem hkl,valN_snoc]
   rfl
 ·have : k = bs.length := by simp only at h3; omega
  subst this
  exact ⟨by simp only [List.take_length],H⟩
theorem framed_len (b : List UInt8) (s : ByteArray) : (framed b s).length = b.length + 4 + s.size := by
 have : s.data.toList.length = s.size := Array.length_toList
 rw [framed,List.length_append,List.length_append,be_length,this]; omega
theorem framed_spec (a : Option Addr) (c : Nat) (b : List UInt8) (s : ByteArray) (hs : b.length + (s.size + 4) ≤ 1000000000) (w : World) (st : Std w [.own 5 1 a b.length c (bcells b)]) :
  Calls Tryz.prog 101 #[.slice a b.length c,.string s] w fun e w' => ∃ a' c',e = .returned (.slice a' (framed b s).length c') ∧ Hp (feet [.own 5 1 a b.length c (bcells b)]) w w' [.own 5 1 a' (framed b s).length c' (bcells (framed b s))] := by
 apply framed.ok; unfold framed.vc
 have H := Hp.startL st
 generalize feet [.own 5 1 a b.length c (bcells b)] = B at H ⊢
 intro b1 w1 hn; replace H := H.new (cs := [.int .u8 0,.int .u8 0,.int .u8 0,.int .u8 0]) (by exact ⟨rfl,rfl,rfl,rfl⟩) hn; clear hn
 have hw : IntKind.u32.wrap (s.size : Int) = (s.size : Int) := by simp [IntKind.wrap,IntKind.signed,IntKind.bits]; omega
 rw [hw]
 refine callV (lay32_spec b1 0 4 4 202 _ _ (by simp) (by omega) _ (H.go ⟨rfl,rfl,rfl,rfl⟩ |>.blk (.head _))) ?_
 rintro e w2 ⟨rfl,H'⟩
 replace H := H.use1 H'; clear H'
 simp only [List.take_zero,List.nil_append,List.cons_append,List.drop_succ_cons,List.drop_zero,Nat.zero_add,List.append_nil,List.drop_nil] at H
 refine ⟨rfl,?_⟩
 refine Hp.app eltU8 (by omega) H.pull1 (by exact ⟨rfl,rfl,rfl,rfl⟩) (Blk.src (n := 4) undSU8 ((H.go ⟨rfl,rfl,rfl,rfl⟩).blk (.head _)) (by simp [bcells_length,be_length]) (bcells_ones _)) (by simp only [maxLen]; omega) (by omega) ?_
 clear H; intro a3 c3 w3 H
 refine Hp.app eltU8 (by omega) H (by exact ⟨rfl,rfl,rfl,rfl⟩) (Src.ofString _ undStr s) (by simp only [maxLen]; omega) (by omega) ?_
 clear H; intro a4 c4 w4 H
 have e1 := framed_len b s
 have e2 : bcells (framed b s) = bcells b ++ bcells (be (s.size : Int) 4) ++ byteCells s := by rw [framed,bcells_append,bcells_append,byteCells_eq,List.append_assoc]
 rw [e1,e2]
 exact ⟨a4,c4,rfl,H.done1⟩
end Go.Proofs.YtdeebigmpffnbaaGreat
namespace Go.Proofs.YtdeebigmpffnbaaGreat
open Go Go.Vc Go.Vault Go.Redo
section
variable {B : List Nat} {w0 w w' : World} {L M : List Asn} {a : Asn}
theorem _root_.Go.Vc.Hp.useT (H : Hp B w0 w (a :: L)) (H' : Hp (feet L) w w' M) : Hp B w0 w' (a :: M) :=
 ((H.perm (List.perm_append_comm (l₁ := [a]) (l₂ := L)) : Hp B w0 w (L ++ [a])).useL H').perm (List.perm_append_comm (l₁ := M) (l₂ := [a]))
theorem _root_.Go.Vc.Hp.later (H : Hp B w0 w L) (hW : Chg (feet L) w w') : Chg B w0 w' := H.chg.trans hW (fun k hk => hk) fun k hk => by
 obtain ⟨a,ha,h2⟩ := mem_feet.1 hk
 exact H.own a ha k h2
end
def LPost (lb : Nat) (cs : List Value) (x : DW) (d : Dk) (w : World) (v : Value) (d' : Dk) (e : Ending) (w' : World) : Prop :=
 e = .returned v ∧ ∃ x' : DW,x'.b = x.b ∧ x'.Ok d' ∧ Hp (feet (.blk lb cs 129 :: dkL x d)) w w' (.blk lb cs 129 :: dkL x' d')
theorem chunk_cells {w : World} {a : Option Addr} {bs : List UInt8} {i e : Nat} (h : Cells w a (bcells bs)) (he : e = min (i + 512) bs.length) (hi : i < bs.length) : Cells w (slA a e i 1) (bcells ((bs.drop i).take 512)) := by
 have h1 := (h.take e).slA (c := e) (i := i) (by rw [List.length_take]; omega)
 have e1 : ((bcells bs).take e).drop i = bcells ((bs.drop i).take 512) := by
  rw [List.drop_take,bcells,bcells,← List.map_drop,← List.map_take]
  congr 1
  by_cases hx : e - i = 512
  ·rw [hx]
  ·rw [List.take_of_length_le (by rw [List.length_drop]; omega),List.take_of_length_le (by rw [List.length_drop]; omega)]
 rw [← e1]; exact h1
theorem slA_none {a : Option Addr} {m i : Nat} (h : slA a m i 1 = none) : a = none := by
 unfold slA at h
 split at h
 ·exact h
 ·cases a with
  | none => rfl
  | some _ => cases h
theorem dput_stop (name : ByteArray) (b : List UInt8) (m k : Nat) (d : Dk) (h : b.length ≤ k * 512) : dput name b m k d = (d,0) := by
 cases m with
 | zero => rfl
 | succ m => rw [dput,if_pos h]
set_option maxHeartbeats 1000000 in
theorem lwrite_spec (lb : Nat) (cs : List Value) (x : DW) (d : Dk) (hok : x.Ok d) {N : Nat} (fit : d.Fit N) (name : ByteArray) (a : Option Addr) (c : Nat) (bs : List UInt8) (hN : N + bs.length / 512 + 1 ≤ 900000) (from_ : Nat) (hf : from_ ≤ 1000000000) (hcs : cs[0]? = some (.pointer (some ⟨x.b,0,none⟩)))
  (w : World) (st : Std w (.blk lb cs 129 :: dkL x d)) (hc : ∀ W,Chg (feet (.blk lb cs 129 :: dkL x d)) w W → Cells W a (bcells bs)) (h0 : a = none → bs.length = 0) (hcap : bs.length ≤ c) :
  Calls Tryz.prog 81 #[.pointer (some ⟨lb,0,none⟩),.string name,.slice a bs.length c,.int .i64 (from_ : Int)] w (LPost lb cs x d w (.int .i64 (dwrite d name bs from_).2) (dwrite d name bs from_).1) := by
 apply lwrite.ok; unfold lwrite.vc LPost
 have H := Hp.startL st
 generalize hB : feet (.blk lb cs 129 :: dkL x d) = B at H hc ⊢
 have q1 : Int.tdiv (from_ : Int) 512 = ((from_ / 512 : Nat) : Int) := rfl
 rw [q1]
 refine ⟨by omega,inR64.2 (by omega),inR64.2 (by omega),?_⟩
 obtain ⟨k0,hk0⟩ : ∃ k0,k0 = from_ / 512 := ⟨_,rfl⟩
 obtain ⟨M,hM⟩ : ∃ M,M = bs.length / 512 + 1 := ⟨_,rfl⟩
 have hgoal : dwrite d name bs from_ = dput name bs (M - k0) k0 d := by rw [dwrite,hk0,hM]
 rw [← hk0,hgoal]
 refine LoopP.mk (fun m s w' => ∃ (k : Nat) (x1 : DW) (d1 : Dk),m = M - k ∧ s = ((k * 512 : Nat) : Int) ∧ k0 ≤ k ∧ (k ≤ M ∨ k = k0) ∧ x1.b = x.b ∧ x1.Ok d1 ∧ d1.Fit (N + (k - k0)) ∧ dput name bs (M - k) k d1 = dput name bs (M - k0) k0 d ∧
  Hp B w w' (.blk lb cs 129 :: dkL x1 d1)) (M - k0) ⟨k0,x,d,rfl,by omega,Nat.le_refl _,.inr rfl,rfl,hok,by rw [Nat.sub_self]; exact fit,rfl,H⟩ ?_
 clear H
 rintro m s w1 next ⟨k,x1,d1,rfl,rfl,hk,hkM,hxb,hx1,fit1,hd,H⟩ hnext
 refine br_dec (fun h3 => ?_) (fun h3 => ?_)
 ·have hkl : k * 512 < bs.length := by omega
  have hkM2 : k < M := by omega
  refine ⟨inR64.2 (by omega),onP_mk rfl ⟨_,H.ld (by exact ⟨rfl,rfl,rfl,rfl⟩) sclDP (.head _) hcs,?_⟩⟩
  have q2 : Int.tdiv ((k * 512 : Nat) : Int) 512 = (k : Int) := by
   rw [show Int.tdiv ((k * 512 : Nat) : Int) 512 = ((k * 512 / 512 : Nat) : Int) from rfl,Nat.mul_div_cancel _ (by omega)]
  rw [q2]
  have q3 : min (((k * 512 : Nat) : Int) + 512) (bs.length : Int) = ((min (k * 512 + 512) bs.length : Nat) : Int) := by omega
  rw [q3,Int.toNat_natCast,Int.toNat_natCast]
  refine ⟨by omega,inR64.2 (by omega),inR64.2 (by omega),⟨by omega,by omega,by omega,by omega⟩,?_⟩
  obtain ⟨ch,hch⟩ : ∃ ch,ch = (bs.drop (k * 512)).take 512 := ⟨_,rfl⟩
  have hchl : ch.length = min (k * 512 + 512) bs.length - k * 512 := by rw [hch,List.length_take,List.length_drop]; omega
  have hws := write_spec x1 d1 hx1 fit1.few (by omega) (fit1.used (by omega)) name (2 + (k : Int)) (slA a (min (k * 512 + 512) bs.length) (k * 512) 1) (min (k * 512 + 512) bs.length - k * 512) ch w1.drew H.drew.drop.std
   (fun W hW => by
    have h4 := hc W (H.drew.drop.later hW)
    rw [hch]; exact chunk_cells h4 rfl hkl)
   (fun h4 => by have := h0 (slA_none h4); omega)
  rw [hxb,hchl] at hws
  refine callV hws ?_
  rintro e w2 ⟨rfl,x2,hx2b,hx2,H'⟩
  replace H := H.drew.useT H'; clear H' hws
  refine ⟨_,rfl,?_⟩
  obtain ⟨m2,hm2⟩ : ∃ m2,M - k = m2 + 1 := ⟨M - k - 1,by omega⟩
  have hstep : dput name bs (M - k) k d1 = thn (d1.write name (2 + (k : Int)) ch) (dput name bs (M - (k + 1)) (k + 1)) := by
   rw [hm2,dput,if_neg (by omega),← hch,show M - (k + 1) = m2 by omega]
   rfl
  rw [hstep] at hd
  refine br_not (fun h5 => ?_) (fun h5 => ?_)
  ·have h5 := of_decide_eq_false h5
   rw [thn,if_neg h5] at hd
   rw [← hd]
   exact ⟨rfl,x2,by rw [hx2b,hxb],hx2,H⟩
  ·have h5 := of_decide_eq_true h5
   rw [thn,if_pos h5] at hd
   refine ⟨inR64.2 (by omega),hnext (M - (k + 1)) _ _ (by omega) ⟨k + 1,x2,_,rfl,by omega,by omega,.inl (by omega),by rw [hx2b,hxb],hx2,(Fit.write fit1 name _ _).mono (by omega),hd,H⟩⟩
 ·rw [dput_stop name bs _ k d1 (by omega)] at hd
  rw [← hd]
  exact ⟨rfl,x1,hxb,hx1,H⟩
end Go.Proofs.YtdeebigmpffnbaaGreat
namespace Go.Proofs.YtdeebigmpffnbaaGreat
open Go Go.Vc Go.Vault Go.Redo
section
variable {B : List Nat} {w0 w w' : World} {L M : List Asn} {a b : Asn}
theorem _root_.Go.Vc.Hp.useT2 (H : Hp B w0 w (a :: b :: L)) (H' : Hp (feet L) w w' M) : Hp B w0 w' (a :: b :: M) :=
 ((H.perm (List.perm_append_comm (l₁ := [a,b]) (l₂ := L)) : Hp B w0 w (L ++ [a,b])).useL H').perm (List.perm_append_comm (l₁ := M) (l₂ := [a,b]))
theorem _root_.Go.Vc.Hp.blkSt {k : Nat} {cs : List Value} {T : TypeId} (H : Hp B w0 w (.blk k cs T :: L)) : ∀ W,Chg (feet L) w W → Blk W k cs T := fun W hW =>
 (H.blk (.head _)).chg hW fun hf => by
  obtain ⟨c,hc,h2⟩ := mem_feet.1 hf
  exact (List.pairwise_cons.1 H.sep).1 c hc k (by simp [Asn.foot]) h2
end
theorem zlMark : zl Tryz.prog 84 = bcells zsec := by kernel_rfl
theorem seal_bytes (mark firm : Nat) :
  (((zsec.take 0 ++ (be (mark : Int) 8 ++ zsec.drop (0 + 8))).take 8 ++ (be (firm : Int) 8 ++ (zsec.take 0 ++ (be (mark : Int) 8 ++ zsec.drop (0 + 8))).drop (8 + 8))).take 504 ++ (be (mark : Int) 8 ++ ((zsec.take 0 ++ (be (mark : Int) 8 ++ zsec.drop (0 + 8))).take 8 ++ (be (firm : Int) 8 ++ (zsec.take 0 ++ (be (mark : Int) 8 ++ zsec.drop (0 + 8))).drop (8 + 8))).drop (504 + 8))) = sealB mark firm := by
 have hm := be_length (mark : Int) 8
 have hf := be_length (firm : Int) 8
 have h1 : zsec.take 0 ++ (be (mark : Int) 8 ++ zsec.drop (0 + 8)) = be (mark : Int) 8 ++ List.replicate 504 0 := by
  rw [List.take_zero,List.nil_append,zsec,List.drop_replicate]
 rw [h1]
 have h2 : (be (mark : Int) 8 ++ List.replicate 504 0).take 8 = be (mark : Int) 8 := List.take_left' hm
 have h3 : (be (mark : Int) 8 ++ List.replicate 504 (0 : UInt8)).drop (8 + 8) = List.replicate 496 0 := by
  rw [List.drop_append,List.drop_eq_nil_of_le (by omega),hm,List.nil_append,List.drop_replicate]
 rw [h2,h3]
 have h4 : (be (mark : Int) 8 ++ (be (firm : Int) 8 ++ List.replicate 496 (0 : UInt8))).take 504 = be (mark : Int) 8 ++ (be (firm : Int) 8 ++ List.replicate 488 0) := by
  rw [List.take_append,List.take_of_length_le (by omega),hm,List.take_append,List.take_of_length_le (by omega),hf,List.take_replicate]
  rfl
 have h5 : (be (mark : Int) 8 ++ (be (firm : Int) 8 ++ List.replicate 496 (0 : UInt8))).drop (504 + 8) = [] := List.drop_eq_nil_of_le (by simp only [List.length_append,hm,hf,List.length_replicate]; omega)
 rw [h4,h5,sealB,List.append_nil]
 simp only [List.append_assoc]
theorem lay_bytes (S X : List UInt8) (o k : Nat) : (bcells S).take o ++ (bcells X ++ (bcells S).drop k) = bcells (S.take o ++ (X ++ S.drop k)) := by
 simp only [bcells,List.map_append,List.map_take,List.map_drop]
theorem tlen {S X : List UInt8} {o : Nat} (h : S.length = 512) (hX : X.length = 8) (ho : o + 8 ≤ 512) : (S.take o ++ (X ++ S.drop (o + 8))).length = 512 := by
 simp only [List.length_append,List.length_take,List.length_drop,h,hX]; omega
theorem sealB_len (mark firm : Nat) : (sealB mark firm).length = 512 := by simp only [sealB,List.length_append,be_length,List.length_replicate]
set_option maxHeartbeats 1000000 in
theorem lseal_spec (lb : Nat) (cs : List Value) (x : DW) (d : Dk) (hok : x.Ok d) {N : Nat} (fit : d.Fit N) (hN : N ≤ 900000) (name : ByteArray) (mark firm : Nat) (hm : mark ≤ 1000000000) (hf : firm ≤ 1000000000) (hcs : cs[0]? = some (.pointer (some ⟨x.b,0,none⟩)))
  (w : World) (st : Std w (.blk lb cs 129 :: dkL x d)) :
  Calls Tryz.prog 82 #[.pointer (some ⟨lb,0,none⟩),.string name,.int .u64 (mark : Int),.int .i64 (firm : Int)] w (LPost lb cs x d w (.int .i64 (dseal d name mark firm).2) (dseal d name mark firm).1) := by
 apply lseal.ok; unfold lseal.vc LPost
 have H := Hp.startL st
 generalize hB : feet (.blk lb cs 129 :: dkL x d) = B at H ⊢
 rw [zlMark]
 intro b w1 hn; replace H := H.new (by exact ⟨rfl,rfl,rfl,rfl⟩) hn; clear hn
 have hz : zsec.length = 512 := by simp [zsec]
 have hw : IntKind.u64.wrap (firm : Int) = (firm : Int) := by simp [IntKind.wrap,IntKind.signed,IntKind.bits]; omega
 rw [hw]
 refine ⟨by omega,?_⟩
 refine callV (lay64_spec b 0 8 512 84 _ _ (by rw [bcells_length,hz]; omega) (by omega) _ (H.blk (.head _))) ?_
 rintro e w2 ⟨rfl,H'⟩
 replace H := H.use1 H'; clear H'
 rw [lay_bytes] at H
 have l1 := tlen (X := be (mark : Int) 8) (o := 0) hz (be_length _ _) (by omega)
 refine ⟨rfl,by omega,?_⟩
 refine callV (lay64_spec b 8 8 504 84 _ _ (by rw [bcells_length,l1]; omega) (by omega) _ (H.blk (.head _))) ?_
 rintro e w3 ⟨rfl,H'⟩
 replace H := H.use1 H'; clear H'
 rw [lay_bytes] at H
 have l2 := tlen (X := be (firm : Int) 8) (o := 8) l1 (be_length _ _) (by omega)
 refine ⟨rfl,by omega,?_⟩
 refine callV (lay64_spec b 504 8 8 84 _ _ (by rw [bcells_length,l2]; omega) (by omega) _ (H.blk (.head _))) ?_
 rintro e w4 ⟨rfl,H'⟩
 replace H := H.use1 H'; clear H'
 rw [lay_bytes,seal_bytes] at H
 refine ⟨rfl,?_⟩
 simp only [List.cons_append,List.nil_append] at H
 refine onP_mk rfl ⟨_,H.ld (by exact ⟨rfl,rfl,rfl,rfl⟩) sclDP (.tail _ (.head _)) hcs,?_⟩
 refine callV (sync_spec x d hok fit.few (by omega) name w4 H.drop.drop.std) ?_
 rintro e w5 ⟨rfl,x1,hx1b,hx1,H'⟩
 replace H := H.useT2 H'; clear H'
 refine ⟨_,rfl,?_⟩
 have fit1 : (d.sync name).1.Fit (N + 1) := Fit.sync fit name
 refine br_dec (fun h1 => ?_) (fun h1 => br_dec (fun h2 => absurd h2 h1) (fun _ => ?_))
 ·have e1 : dseal d name mark firm = thn ((d.sync name).1.write name ((mark % 2 : Nat) : Int) (sealB mark firm)) fun d => d.sync name := by rw [dseal,thn,thn,if_pos h1]; rfl
  rw [e1]
  generalize (d.sync name).1 = d1 at hx1 H fit1 ⊢
  replace H := H.drew
  refine onP_mk rfl ⟨_,H.ld (by exact ⟨rfl,rfl,rfl,rfl⟩) sclDP (.tail _ (.head _)) hcs,by omega,?_⟩
  have hmod : IntKind.i64.wrap (Int.tmod (mark : Int) 2) = ((mark % 2 : Nat) : Int) := by
   rw [show Int.tmod (mark : Int) 2 = ((mark % 2 : Nat) : Int) from rfl]
   exact wrap64_id (by omega)
  rw [hmod]
  have hws := write_spec x1 d1 hx1 fit1.few (by omega) (fit1.used (by omega)) name ((mark % 2 : Nat) : Int) (some ⟨b,0,none⟩) 512 (sealB mark firm) w5.drew H.drop.drop.std
   (fun W hW => (H.drop1.blkSt W hW).cells) (fun h => by cases h)
  rw [hx1b,sealB_len] at hws
  refine callV hws ?_
  rintro e w6 ⟨rfl,x2,hx2b,hx2,H'⟩
  replace H := H.useT2 H'; clear H' hws
  refine ⟨_,rfl,?_⟩
  have fit2 : (d1.write name ((mark % 2 : Nat) : Int) (sealB mark firm)).1.Fit (N + 2) := Fit.write fit1 name _ _
  generalize d1.write name ((mark % 2 : Nat) : Int) (sealB mark firm) = r at hx2 H fit2 ⊢
  refine br_dec (fun h2 => ?_) (fun h2 => ?_)
  ·rw [thn,if_pos h2]
   refine onP_mk rfl ⟨_,H.ld (by exact ⟨rfl,rfl,rfl,rfl⟩) sclDP (.tail _ (.head _)) hcs,?_⟩
   have hss := sync_spec x2 r.1 hx2 fit2.few (by omega) name w6 H.drop.drop.std
   rw [hx2b,hx1b] at hss
   refine callV hss ?_
   rintro e w7 ⟨rfl,x3,hx3b,hx3,H'⟩
   replace H := H.useT2 H'; clear H' hss
   exact ⟨_,rfl,rfl,x3,by rw [hx3b,hx2b,hx1b],hx3,H.drop⟩
  ·rw [thn,if_neg h2]
   exact ⟨rfl,x2,by rw [hx2b,hx1b],hx2,H.drop⟩
 ·have e1 : dseal d name mark firm = d.sync name := by rw [dseal,thn,thn,if_neg h1,if_neg h1]
  rw [e1]
  exact ⟨rfl,x1,hx1b,hx1,H.drop⟩
end Go.Proofs.YtdeebigmpffnbaaGreat
namespace Go.Redo
open Go Go.Vc Go.Vault
def dmarks (d : Dk) (name : ByteArray) : Nat → Dk × Int
 | 0 => d.create name
 | k + 1 => thn (dmarks d name k) fun d => d.write name (k : Int) []
theorem dfill_eq (d : Dk) (name : ByteArray) (b : List UInt8) : dfill d name b = thn (thn (dmarks d name 2) fun d => dwrite d name b 0) fun d => dseal d name 1 b.length := rfl
theorem dmarks_stop {d : Dk} {name : ByteArray} {k : Nat} (h : (dmarks d name k).2 ≠ 0) : ∀ j,dmarks d name (k + j) = dmarks d name k
 | 0 => rfl
 | j + 1 => by
  have e := dmarks_stop h j
  show thn (dmarks d name (k + j)) _ = _
  rw [e,thn,if_neg h]
theorem framedAll_snoc (l : List ByteArray) (s : ByteArray) : framedAll (l ++ [s]) = framed (framedAll l) s := by simp [framedAll]
theorem foldl_ge (l : List ByteArray) : ∀ b : List UInt8,b.length ≤ (l.foldl framed b).length := by
 induction l with
 | nil => intro b; exact Nat.le_refl _
 | cons s r ih =>
  intro b
  refine Nat.le_trans ?_ (ih (framed b s))
  rw [framed,List.length_append]; omega
theorem framedAll_take (l : List ByteArray) (k : Nat) : (framedAll (l.take k)).length ≤ (framedAll l).length := by
 have e : framedAll l = (l.drop k).foldl framed (framedAll (l.take k)) := by
  rw [framedAll,framedAll,← List.foldl_append,List.take_append_drop]
 rw [e]; exact foldl_ge _ _
end Go.Redo
namespace Go.Proofs.YtdeebigmpffnbaaGreat
open Go Go.Vc Go.Vault Go.Redo
section
variable {B : List Nat} {w0 w w' : World} {L M : List Asn} {a b : Asn}
theorem _root_.Go.Vc.Hp.ownSt {e : TypeId} {sz n c : Nat} {p : Option Addr} {xs : List Value} (H : Hp B w0 w (.own e sz p n c xs :: L)) : ∀ W,Chg (feet L) w W → Cells W p xs := fun W hW =>
 (H.ownA (.head _)).cells.chg hW fun k hk hf => by
  obtain ⟨c,hc,h2⟩ := mem_feet.1 hf
  exact (List.pairwise_cons.1 H.sep).1 c hc k (by simpa [Asn.foot] using hk) h2
end
theorem dput_fit (name : ByteArray) (b : List UInt8) : ∀ (m k : Nat) {d : Dk} {N : Nat},d.Fit N → (dput name b m k d).1.Fit (N + m)
 | 0,k,d,N,h => h
 | m + 1,k,d,N,h => by
  rw [dput]
  split
  ·exact h.mono (by omega)
  ·rw [thn]
   split
   ·exact (dput_fit name b m (k + 1) (Fit.write h name _ _)).mono (by omega)
   ·exact (Fit.write h name _ _).mono (by omega)
theorem dwrite_fit {d : Dk} {N : Nat} (h : d.Fit N) (name : ByteArray) (b : List UInt8) : (dwrite d name b 0).1.Fit (N + b.length / 512 + 1) :=
 (dput_fit name b _ _ h).mono (by omega)
theorem ownNil {w : World} {e : TypeId} {sz n c : Nat} {a : Option Addr} {xs : List Value} (h : Own w 0 e sz a n c xs) (ha : a = none) : n = 0 := by
 rcases h.2 with ⟨_,rfl,_⟩ | ⟨g,_,_,hg,_⟩
 ·rfl
 ·rw [ha] at hg; cases hg
theorem strs_ones (l : List ByteArray) : (l.map Value.string).all (·.oneCell') = true := by
 simp only [List.all_map,List.all_eq_true]; intro b hb; rfl
theorem cloneT_spec (a : Option Addr) (c : Nat) (l : List ByteArray) (hl : l.length ≤ 1000000000) (w : World) (hc : Cells w a (l.map .string)) (h0 : a = none → l.length = 0) :
  Calls Tryz.prog 111 #[.slice a l.length c] w fun e w' => ∃ a' c',e = .returned (.slice a' l.length c') ∧ Hp [] w w' [.own 9 1 a' l.length c' (l.map .string)] := by
 apply cloneT.ok; unfold cloneT.vc
 refine ⟨_,eqv_slcE undST,?_⟩
 refine br_mk (fun hnone => ?_) (fun hs => ?_)
 ·have ha : a = none := by simpa using hnone
  have hx : l = [] := List.eq_nil_of_length_eq_zero (h0 ha)
  subst hx
  exact ⟨none,0,rfl,(Hp.start w).nilS _ _⟩
 ·have K := Hp.start w
  intro b w1 hw
  have hch := hw.chg
  replace K := K.new (by exact ⟨rfl,rfl,rfl,rfl⟩) hw
  replace K := K.reown 1 0 rfl (by simp)
  refine Hp.app eltT (by omega) K (by exact ⟨rfl,rfl,rfl,rfl⟩) (Cells.src (n := l.length) undST (hc.chg hch (by simp)) (by simp) (fun u hu => List.all_eq_true.1 (strs_ones l) u hu) h0) (by simp only [maxLen]; omega) (by omega) ?_
  intro a' c' w2 K
  simp only [List.nil_append,Nat.zero_add] at K ⊢
  exact ⟨_,_,rfl,K⟩
set_option maxHeartbeats 1000000 in
theorem lfill_spec (lb : Nat) (cs : List Value) (x : DW) (d : Dk) (hok : x.Ok d) {N : Nat} (fit : d.Fit N) (name : ByteArray) (a : Option Addr) (c : Nat) (bs : List UInt8) (hbs : bs.length ≤ 1000000000) (hN : N + bs.length / 512 + 100 ≤ 900000) (hcs : cs[0]? = some (.pointer (some ⟨x.b,0,none⟩)))
  (w : World) (st : Std w (.blk lb cs 129 :: dkL x d)) (hc : ∀ W,Chg (feet (.blk lb cs 129 :: dkL x d)) w W → Cells W a (bcells bs)) (h0 : a = none → bs.length = 0) (hcap : bs.length ≤ c) :
  Calls Tryz.prog 109 #[.pointer (some ⟨lb,0,none⟩),.string name,.slice a bs.length c] w (LPost lb cs x d w (.int .i64 (dfill d name bs).2) (dfill d name bs).1) := by
 apply lfill.ok; unfold lfill.vc LPost
 have H := Hp.startL st
 generalize hB : feet (.blk lb cs 129 :: dkL x d) = B at H hc ⊢
 refine onP_mk rfl ⟨_,H.ld (by exact ⟨rfl,rfl,rfl,rfl⟩) sclDP (.head _) hcs,?_⟩
 refine callV (create_spec x d hok (by have := fit.chs; omega) (by have := fit.files; omega) name w H.drop.std) ?_
 rintro e w1 ⟨rfl,x1,hx1b,hx1,H'⟩
 replace H := H.useT H'; clear H'
 refine ⟨_,rfl,?_⟩
 have fin : ∀ (w2 : World) (x2 : DW) (r : Dk × Int) (N2 : Nat),N2 ≤ 900000 → x2.b = x.b → x2.Ok r.1 → r.1.Fit N2 → r.2 = 0 → Hp B w w2 (.blk lb cs 129 :: dkL x2 r.1) → dfill d name bs = thn r (fun d => dseal d name 1 bs.length) →
   CallV Tryz.prog 82 [.pointer (some ⟨lb,0,none⟩),.string name,.int .u64 1,.int .i64 (bs.length : Int)] w2 fun e w' => ∃ i,e = .returned (.int .i64 i) ∧ Ending.returned (.int .i64 i) = .returned (.int .i64 (dfill d name bs).2) ∧ ∃ x' : DW,x'.b = x.b ∧ x'.Ok (dfill d name bs).1 ∧ Hp B w w' (.blk lb cs 129 :: dkL x' (dfill d name bs).1) := by
  intro w2 x2 r N2 hN2 hxb hx2 fit2 hr H hd
  rw [thn,if_pos hr] at hd
  rw [hd]
  refine callV (lseal_spec lb cs x2 r.1 hx2 fit2 hN2 name 1 bs.length (by omega) hbs (by rw [hxb]; exact hcs) w2 H.std) ?_
  rintro e w3 ⟨rfl,x3,hx3b,hx3,H'⟩
  exact ⟨_,rfl,rfl,x3,by rw [hx3b,hxb],hx3,H.useAll H'⟩
 refine LoopP.mk (fun m s w' => ∃ (k : Nat) (x1 : DW),m = 2 - k ∧ k ≤ 2 ∧ s = ((dmarks d name k).2,(k : Int)) ∧ x1.b = x.b ∧ x1.Ok (dmarks d name k).1 ∧ (dmarks d name k).1.Fit (N + 1 + k) ∧
  Hp B w w' (.blk lb cs 129 :: dkL x1 (dmarks d name k).1)) 2 ⟨0,x1,rfl,by omega,rfl,hx1b,hx1,Fit.create fit name,H⟩ ?_
 clear H hx1 hx1b x1 w1
 rintro m s w1 next ⟨k,x1,rfl,hk,rfl,hxb,hx1,fit1,H⟩ hnext
 refine br_dec (fun h3 => ?_) (fun h3 => ?_)
 ·have hk2 : k < 2 := by simp only at h3; omega
  refine br_dec (fun h4 => ?_) (fun h4 => br_dec (fun h5 => absurd h5 h4) (fun _ => br_dec (fun h5 => absurd h5 h4) (fun _ => ?_)))
  ·simp only at h4
   have hstep : dmarks d name (k + 1) = (dmarks d name k).1.write name (k : Int) [] := by rw [dmarks,thn,if_pos h4]
   have fit2 : (dmarks d name (k + 1)).1.Fit (N + 1 + (k + 1)) := by rw [hstep]; exact Fit.write fit1 name _ _
   have hws := write_spec x1 (dmarks d name k).1 hx1 fit1.few (by omega) (fit1.used (by omega)) name (k : Int) none 0 [] w1 H.drop.std (fun W _ => by intro j v hj; simp [bcells] at hj) (fun _ => rfl)
   rw [← hstep] at hws
   generalize dmarks d name k = r0 at hws H hx1 fit1 h4 ⊢
   refine onP_mk rfl ⟨_,H.ld (by exact ⟨rfl,rfl,rfl,rfl⟩) sclDP (.head _) hcs,?_⟩
   rw [hxb] at hws
   refine callV hws ?_
   rintro e w2 ⟨rfl,x2,hx2b,hx2,H'⟩
   replace H := H.useT H'; clear H' hws
   exact ⟨_,rfl,inR64.2 (by simp only; omega),hnext (2 - (k + 1)) _ _ (by omega) ⟨k + 1,x2,rfl,by omega,rfl,by rw [hx2b,hxb],hx2,fit2,H⟩⟩
  ·simp only at h4
   have e1 : dfill d name bs = dmarks d name k := by
    have h5 := dmarks_stop h4 (2 - k)
    rw [show k + (2 - k) = 2 by omega] at h5
    rw [dfill_eq,h5,thn,thn,if_neg h4,if_neg h4]
   rw [e1]
   exact ⟨rfl,x1,hxb,hx1,H⟩
 ·have hk2 : k = 2 := by simp only at h3; omega
  subst hk2
  refine br_dec (fun h4 => ?_) (fun h4 => br_dec (fun h5 => absurd h5 h4) (fun _ => ?_))
  ·simp only at h4
   have e1 : dfill d name bs = thn (dwrite (dmarks d name 2).1 name bs 0) fun d => dseal d name 1 bs.length := by rw [dfill_eq]; congr 1; rw [thn,if_pos h4]
   have fit2 := dwrite_fit fit1 name bs
   generalize (dmarks d name 2).1 = q at H hx1 fit1 fit2 e1
   refine callV (lwrite_spec lb cs x1 q hx1 fit1 name a c bs (by omega) 0 (by omega) (by rw [hxb]; exact hcs) w1 H.std (fun W hW => hc W (H.later hW)) h0 hcap) ?_
   rintro e w2 ⟨rfl,x2,hx2b,hx2,H'⟩
   replace H := H.useAll H'; clear H'
   refine ⟨_,rfl,?_⟩
   refine br_dec (fun h5 => ?_) (fun h5 => ?_)
   ·exact fin w2 x2 _ _ (by omega) (by rw [hx2b,hxb]) hx2 fit2 h5 H e1
   ·rw [thn,if_neg h5] at e1
    rw [e1]
    exact ⟨rfl,x2,by rw [hx2b,hxb],hx2,H⟩
  ·simp only at h4
   have e1 : dfill d name bs = dmarks d name 2 := by rw [dfill_eq,thn,thn,if_neg h4,if_neg h4]
   rw [e1]
   exact ⟨rfl,x1,hxb,hx1,H⟩
end Go.Proofs.YtdeebigmpffnbaaGreat
namespace Go.Redo
open Go Go.Vc Go.Vault
def frame (s : ByteArray) : List UInt8 := be (s.size : Int) 4 ++ s.data.toList
def frames (l : List ByteArray) : List UInt8 := l.flatMap frame
theorem foldl_frames (l : List ByteArray) : ∀ b : List UInt8,l.foldl framed b = b ++ frames l := by
 induction l with
 | nil => intro b; simp [frames]
 | cons s r ih => intro b; rw [List.foldl_cons,ih,framed,frames,frames,List.flatMap_cons,frame]; simp only [List.append_assoc]
theorem framedAll_frames (l : List ByteArray) : framedAll l = frames l := by rw [framedAll,foldl_frames]; rfl
theorem frame_len (s : ByteArray) : (frame s).length = s.size + 4 := by
 have : s.data.toList.length = s.size := Array.length_toList
 rw [frame,List.length_append,be_length,this]; omega
theorem recordsF_frame (s : ByteArray) (hs : s.size ≤ 65536) (r : List UInt8) (m : Nat) : recordsF (m + 1) (frame s ++ r) = (recordsF m r).map (s :: ·) := by
 have hd : s.data.toList.length = s.size := Array.length_toList
 have hne : frame s ++ r ≠ [] := by
  intro h
  have := congrArg List.length h
  rw [List.length_append,frame_len] at this
  simp at this
 have hl : (frame s ++ r).length = s.size + 4 + r.length := by rw [List.length_append,frame_len]
 have ht : (frame s ++ r).take 4 = be (s.size : Int) 4 := by
  rw [frame,List.append_assoc]
  exact List.take_left' (be_length _ _)
 have hv : valN (be (s.size : Int) 4) = s.size := by
  have := valN_be' (n := (s.size : Int)) (k := 4) (by omega) (by omega)
  omega
 have hd4 : (frame s ++ r).drop 4 = s.data.toList ++ r := by
  rw [frame,List.append_assoc]
  exact List.drop_left' (be_length _ _)
 have hdn : (frame s ++ r).drop (4 + s.size) = r := by
  rw [← List.drop_drop,hd4]
  exact List.drop_left' hd
 rw [recordsF,if_neg hne,if_neg (by omega),ht,hv,if_neg (by omega),if_neg (by omega),hd4,hdn,List.take_left' hd]
theorem recordsF_frames : ∀ (l : List ByteArray) (m : Nat),(∀ s ∈ l,s.size ≤ 65536) → (frames l).length ≤ m → recordsF m (frames l) = some l
 | [],m,_,_ => by
  cases m with
  | zero => rfl
  | succ m => simp [recordsF,frames]
 | s :: r,m,h,hm => by
  have e : frames (s :: r) = frame s ++ frames r := by simp [frames]
  rw [e,List.length_append,frame_len] at hm
  obtain ⟨m2,rfl⟩ : ∃ m2,m = m2 + 1 := ⟨m - 1,by omega⟩
  rw [e,recordsF_frame s (h s (.head _)),recordsF_frames r m2 (fun t ht => h t (.tail _ ht)) (by omega)]
  rfl
theorem records_framed {l : List ByteArray} (h : ∀ s ∈ l,s.size ≤ 65536) : records (framedAll l) = some l := by
 rw [framedAll_frames]
 exact recordsF_frames l _ h (Nat.le_refl _)
def chunk (b : List UInt8) (k : Nat) : List UInt8 := (b.drop (k * 512)).take 512
def nsec (n : Nat) : Nat := (n + 511) / 512
theorem pad_take {c : List UInt8} (h : c.length ≤ 512) : (pad c).take c.length = c := by rw [pad]; exact List.take_left' rfl
theorem pad_len {c : List UInt8} (h : c.length ≤ 512) : (pad c).length = 512 := by rw [pad,List.length_append,List.length_replicate]; omega
end Go.Redo
namespace Go.Vc
open Go
def sEq : Value → Value → Bool
 | .int _ a,.int _ b => decide (a = b)
 | .bool a,.bool b => a == b
 | .string a,.string b => decide (a = b)
 | _,_ => false
theorem beqB (a b : ByteArray) : (a == b) = decide (a = b) := by
 obtain ⟨x⟩ := a
 obtain ⟨y⟩ := b
 show (x == y) = _
 rw [Bool.eq_iff_iff]
 simp
def kdB (P : Program) (t : TypeId) (k : Kd) : Bool := match P.underlying t,k with
 | some (.int q),.inl q' => decide (q = q')
 | some .bool,.inr 0 => true
 | some .string,.inr 1 => true
 | _,_ => false
def flatFs (P : Program) : List Field → List (Nat × Kd) → Bool
 | [],[] => true
 | f :: fs, (o, k) :: l => Nat.beq f.offset o && f.name != "_" && kdB P f.type k && flatFs P fs l
 | _,_ => false
structure FlatT (P : Program) (t : TypeId) (l : List (Nat × Kd)) : Prop where
 und : ∃ fs,P.underlying t = some (.struct fs) ∧ flatFs P fs.toList l = true
 guard : P.eqGuardType P.depth t = false
 stood : P.stoodInHeld t = false
def flatB (P : Program) (t : TypeId) (l : List (Nat × Kd)) : Bool := match P.underlying t with
 | some (.struct fs) => flatFs P fs.toList l && !P.eqGuardType P.depth t && !P.stoodInHeld t
 | _ => false
theorem flat_of {P : Program} {t : TypeId} {l : List (Nat × Kd)} (h : flatB P t l = true) : FlatT P t l := by
 unfold flatB at h
 split at h
 ·rename_i fs hu
  simp only [Bool.and_eq_true,Bool.not_eq_true'] at h
  exact ⟨⟨fs,hu,h.1.1⟩,h.1.2,h.2⟩
 ·cases h
def fitL (l : List (Nat × Kd)) (cs : List Value) : Bool := l.all fun p => match cs[p.1]? with
 | some v => (fromV p.2 v).isSome
 | none => false
def eqL (l : List (Nat × Kd)) (xs ys : List Value) : Bool := l.all fun p => match xs[p.1]?,ys[p.1]? with
 | some a,some b => sEq a b
 | _,_ => false
section
variable {P : Program} {w : World}
theorem run_sEq {t : TypeId} {k : Kd} {a b : Value} {d : Nat} (hk : kdB P t k = true) (ha : (fromV k a).isSome = true) (hb : (fromV k b).isSome = true) : (Op.equalIn (d + 1) t a b).run P w = .ok (sEq a b) w := by
 unfold kdB at hk
 split at hk
 ·rename_i q q' hu
  have := of_decide_eq_true hk; subst this
  cases a <;> simp only [fromV,Option.isSome_none,Bool.false_eq_true] at ha
  cases b <;> simp only [fromV,Option.isSome_none,Bool.false_eq_true] at hb
  split at ha
  ·split at hb
   ·rename_i e1 _ e2
    have e1 := of_decide_eq_true e1
    have e2 := of_decide_eq_true e2
    subst e1; subst e2
    exact (run_equalIn_int w d t _ _ _ _ hu).trans (by rw [sEq,Bool.beq_eq_decide_eq])
   ·cases hb
  ·cases ha
 ·rename_i hu
  cases a <;> simp [fromV] at ha
  cases b <;> simp [fromV] at hb
  exact run_equalIn_bool w d t _ _ hu
 ·rename_i hu
  cases a <;> simp [fromV] at ha
  cases b <;> simp [fromV] at hb
  simp [Op.equalIn,run_underlying hu,sEq,beqB]
 ·cases hk
theorem run_part_kd {t : TypeId} {k : Kd} {xs : Array Value} {o : Nat} {v : Value} (hk : kdB P t k = true) (hx : xs[o]? = some v) : (part t xs o).run P w = .ok v w := by
 refine run_part_plain w ?_ hx
 unfold kdB at hk
 unfold Program.plainKey
 split at hk <;> simp_all
theorem run_eqFields {d : Nat} {xs ys : List Value} : ∀ (fs : List Field) (l : List (Nat × Kd)),flatFs P fs l = true → fitL l xs = true → fitL l ys = true → (Op.eqFields (d + 1) xs.toArray ys.toArray fs).run P w = .ok (eqL l xs ys) w
 | [],[],_,_,_ => rfl
 | f :: fs,(o,k) :: l,h,hx,hy => by
  simp only [flatFs,Bool.and_eq_true] at h
  obtain ⟨⟨⟨h1,h2⟩,h3⟩,h4⟩ := h
  have := Nat.eq_of_beq_eq_true h1; subst this
  simp only [fitL,List.all_cons,Bool.and_eq_true] at hx hy
  cases ha : xs[f.offset]? with
  | none => rw [ha] at hx; cases hx.1
  | some a =>
   cases hb : ys[f.offset]? with
   | none => rw [hb] at hy; cases hy.1
   | some b =>
    rw [ha] at hx; rw [hb] at hy
    have ih := run_eqFields (d := d) fs l h4 hx.2 hy.2
    simp only [Op.eqFields]
    rw [if_pos (by simpa using h2)]
    simp only [Sem.run_bind,run_part_kd (w := w) h3 (show xs.toArray[f.offset]? = some a by simpa using ha),run_part_kd (w := w) h3 (show ys.toArray[f.offset]? = some b by simpa using hb),Result.andThen_ok,run_sEq h3 hx.1 hy.1]
    have he : eqL ((f.offset,k) :: l) xs ys = (sEq a b && eqL l xs ys) := by simp only [eqL,List.all_cons,ha,hb]
    rw [he]
    cases sEq a b with
    | true => simpa using ih
    | false => simp
theorem run_flat {t : TypeId} {l : List (Nat × Kd)} (T : FlatT P t l) {xs ys : List Value} (hx : fitL l xs = true) (hy : fitL l ys = true) : (Op.equalIn 10000 t (.agg xs.toArray) (.agg ys.toArray)).run P w = .ok (eqL l xs ys) w := by
 obtain ⟨⟨fs,hu,hf⟩,hg,hs⟩ := T
 have e : P.fieldsOf t = fs := by simp [Program.fieldsOf,hu]
 rw [run_equalIn_struct w 9999 t _ _ (by rw [e]; exact hu) hs,e]
 exact run_eqFields fs.toList l hf hx hy
end
end Go.Vc
namespace Go.Proofs.YtdeebigmpffnbaaGreat.Sl
open Go Go.Vc
theorem scl3 : Scl Tryz.prog 3 := scl_of (by kernel_rfl)
theorem scl5 : Scl Tryz.prog 5 := scl_of (by kernel_rfl)
theorem scl23 : Scl Tryz.prog 99 := scl_of (by kernel_rfl)
theorem scl32 : Scl Tryz.prog 30 := scl_of (by kernel_rfl)
theorem agg54 : Agg Tryz.prog 144 4098 := agg_of (by kernel_rfl)
theorem agg52 : Agg Tryz.prog 142 4096 := agg_of (by kernel_rfl)
structure Pg where
 st : List UInt8
 hdr : Nat
 dir : List (Nat × Nat)
 data : List UInt8
 many : Nat
 low : Nat
def dirB (d : List (Nat × Nat)) : List UInt8 := d.flatMap fun p => be p.1 2 ++ be p.2 2
def Pg.bs (g : Pg) : List UInt8 := g.st ++ (be g.hdr 2 ++ (dirB g.dir ++ g.data))
def Pg.cells (g : Pg) : List Value := bcells g.bs ++ [.int .i64 (g.many : Int),.int .i64 (g.low : Int)]
structure Pg.Ok (g : Pg) : Prop where
 st : g.st.length = 8
 hdr : g.hdr < 65536
 dir : g.dir.length = 120
 data : g.data.length = 3606
 many : g.many ≤ 120
 ent : ∀ p ∈ g.dir,p.1 < 65536 ∧ p.2 < 65536
 low : g.low ≤ 4096
def pgA (b : Nat) (g : Pg) : Asn := .blk b g.cells 144
theorem dirB_len (d : List (Nat × Nat)) : (dirB d).length = 4 * d.length := by
 induction d with
 | nil => rfl
 | cons p r ih =>
  simp only [dirB,List.flatMap_cons,List.length_append,be_length,List.length_cons] at ih ⊢
  omega
theorem dirB_append (x y : List (Nat × Nat)) : dirB (x ++ y) = dirB x ++ dirB y := by simp [dirB]
theorem dirB_cons (p : Nat × Nat) (r : List (Nat × Nat)) : dirB (p :: r) = be p.1 2 ++ be p.2 2 ++ dirB r := by simp [dirB]
theorem dir_split {d : List (Nat × Nat)} {k : Nat} (h : k < d.length) : d = d.take k ++ d[k] :: d.drop (k + 1) := by
 rw [← List.drop_eq_getElem_cons h,List.take_append_drop]
theorem Pg.Ok.len {g : Pg} (h : g.Ok) : g.bs.length = 4096 := by
 simp only [Pg.bs,List.length_append,be_length,dirB_len,h.st,h.dir,h.data]
theorem Pg.Ok.clen {g : Pg} (h : g.Ok) : g.cells.length = 4098 := by
 simp only [Pg.cells,List.length_append,bcells_length,h.len,List.length_cons,List.length_nil]
theorem Pg.Ok.byte {g : Pg} (h : g.Ok) {i : Nat} (hi : i < 4096) : g.cells[i]? = some (.int .u8 ((g.bs[i]'(by rw [h.len]; exact hi)).toNat : Int)) := by
 rw [Pg.cells,List.getElem?_append_left (by rw [bcells_length,h.len]; exact hi)]
 simp [bcells,List.getElem?_eq_getElem (show i < g.bs.length by rw [h.len]; exact hi)]
theorem Pg.Ok.manyC {g : Pg} (h : g.Ok) : g.cells[4096]? = some (.int .i64 (g.many : Int)) := by
 rw [Pg.cells,List.getElem?_append_right (by rw [bcells_length,h.len]; exact Nat.le_refl _),bcells_length,h.len]; rfl
theorem Pg.Ok.lowC {g : Pg} (h : g.Ok) : g.cells[4097]? = some (.int .i64 (g.low : Int)) := by
 rw [Pg.cells,List.getElem?_append_right (by rw [bcells_length,h.len]; omega),bcells_length,h.len]; rfl
theorem Pg.Ok.entry {g : Pg} (h : g.Ok) {k : Nat} (hk : k < 120) : (g.bs.drop (10 + 4 * k)).take 4 = be (g.dir[k]'(by rw [h.dir]; exact hk)).1 2 ++ be (g.dir[k]'(by rw [h.dir]; exact hk)).2 2 := by
 have hk' : k < g.dir.length := by rw [h.dir]; exact hk
 have e : g.bs = (g.st ++ be g.hdr 2 ++ dirB (g.dir.take k)) ++ ((be g.dir[k].1 2 ++ be g.dir[k].2 2) ++ (dirB (g.dir.drop (k + 1)) ++ g.data)) := by
  conv => lhs; rw [Pg.bs,dir_split hk']
  rw [dirB_append,dirB_cons]; simp only [List.append_assoc]
 have hl : (g.st ++ be g.hdr 2 ++ dirB (g.dir.take k)).length = 10 + 4 * k := by
  simp only [List.length_append,be_length,dirB_len,List.length_take,h.st]; omega
 rw [e,drop_left _ _ _ hl]
 exact take_left _ _ 4 (by simp [be_length])
theorem take2 {l : List UInt8} {i : Nat} (h : i + 1 < l.length) : (l.drop i).take 2 = [l[i],l[i + 1]] := by
 rw [List.drop_eq_getElem_cons (by omega),List.drop_eq_getElem_cons (by omega)]; rfl
theorem valN_two (x y : UInt8) : valN [x,y] = x.toNat * 256 + y.toNat := by simp [valN]
theorem Pg.Ok.ent1 {g : Pg} (h : g.Ok) {k : Nat} (hk : k < 120) : valN ((g.bs.drop (10 + 4 * k)).take 2) = (g.dir[k]'(by rw [h.dir]; exact hk)).1 := by
 have e := h.entry hk
 have hm := h.ent _ (List.getElem_mem (show k < g.dir.length by rw [h.dir]; exact hk))
 have : (g.bs.drop (10 + 4 * k)).take 2 = ((g.bs.drop (10 + 4 * k)).take 4).take 2 := by rw [List.take_take]; rfl
 rw [this,e,take_left _ _ 2 (be_length _ _)]
 have := valN_be' (n := ((g.dir[k]'(by rw [h.dir]; exact hk)).1 : Int)) (k := 2) (by omega) (by omega)
 omega
theorem Pg.Ok.ent2 {g : Pg} (h : g.Ok) {k : Nat} (hk : k < 120) : valN ((g.bs.drop (10 + 4 * k + 2)).take 2) = (g.dir[k]'(by rw [h.dir]; exact hk)).2 := by
 have e := h.entry hk
 have hm := h.ent _ (List.getElem_mem (show k < g.dir.length by rw [h.dir]; exact hk))
 have : (g.bs.drop (10 + 4 * k + 2)).take 2 = ((g.bs.drop (10 + 4 * k)).take 4).drop 2 := by rw [List.drop_take,List.drop_drop]
 rw [this,e,drop_left _ _ 2 (be_length _ _)]
 have := valN_be' (n := ((g.dir[k]'(by rw [h.dir]; exact hk)).2 : Int)) (k := 2) (by omega) (by omega)
 omega
def PgAt (w : World) (b : Nat) (g : Pg) : Prop := g.Ok ∧ Blk w b g.cells 144
theorem PgAt.chg {w w' : World} {b : Nat} {g : Pg} {S : List Nat} (h : PgAt w b g) (hc : Chg S w w') (hs : b ∉ S) : PgAt w' b g := ⟨h.1,h.2.chg hc hs⟩
theorem PgAt.ldB {w : World} {b : Nat} {g : Pg} (h : PgAt w b g) {i : Nat} (hi : i < 4096) : Ld Tryz.prog 5 w ⟨b,i,none⟩ (.int .u8 ((g.bs[i]'(by rw [h.1.len]; exact hi)).toNat : Int)) := h.2.ld scl5.agg (h.1.byte hi)
theorem PgAt.ldMany {w : World} {b : Nat} {g : Pg} (h : PgAt w b g) : Ld Tryz.prog 3 w ⟨b,4096,none⟩ (.int .i64 (g.many : Int)) := h.2.ld scl3.agg h.1.manyC
theorem PgAt.ldLow {w : World} {b : Nat} {g : Pg} (h : PgAt w b g) : Ld Tryz.prog 3 w ⟨b,4097,none⟩ (.int .i64 (g.low : Int)) := h.2.ld scl3.agg h.1.lowC
theorem addB (b i : Nat) : (⟨b,0,none⟩ : Addr).add i = ⟨b,i,none⟩ := by rw [add_lit,Nat.zero_add]
theorem two_spec (b : Nat) (g : Pg) (i : Nat) (hi : i + 1 < 4096) (w : World) (h : PgAt w b g) :
  Calls Tryz.prog 117 #[.pointer (some ⟨b,0,none⟩),.int .i64 (i : Int)] w fun e w' => e = .returned (.int .i64 (valN ((g.bs.drop i).take 2) : Int)) ∧ Hp [] w w' [] := by
 apply two.ok
 unfold two.vc
 have H := (Hp.start w).drew
 have hd := h.chg H.chg (by simp)
 have hl := h.1.len
 have e1 : Int.toNat (i : Int) * 1 = i := by omega
 have e2 : Int.toNat ((i : Int) + 1) * 1 = i + 1 := by omega
 refine onP_mk rfl ⟨⟨by omega,by omega⟩,_,by rw [e1,addB]; exact hd.ldB (by omega),by omega,?_⟩
 have hx := (g.bs[i]'(by omega)).toNat_lt
 have hy := (g.bs[i + 1]'(by omega)).toNat_lt
 rw [wrapByte]
 have e3 : (2 : Int) ^ min (Int.toNat 8) (IntKind.bits .i64) = 256 := by decide
 refine ⟨inR64.2 (by rw [e3]; omega),inR64.2 (by omega),onP_mk rfl ⟨⟨by omega,by omega⟩,_,by rw [e2,addB]; exact hd.ldB (by omega),?_,H⟩⟩
 rw [or_byte2 _ _ (by omega) hy,take2 (by omega),valN_two]
theorem slot_spec (b : Nat) (g : Pg) (k : Int) (w : World) (h : PgAt w b g) :
  Calls Tryz.prog 77 #[.pointer (some ⟨b,0,none⟩),.int .i64 k] w fun e w' => e = .returned (.tuple #[.int .i64 (if 0 ≤ k ∧ k < g.many then ((g.dir.getD k.toNat (0,0)).1 : Int) else 0),.int .i64 (if 0 ≤ k ∧ k < g.many then ((g.dir.getD k.toNat (0,0)).2 : Int) else 0)]) ∧ Hp [] w w' [] := by
 apply slot.ok
 unfold slot.vc
 have H := Hp.start w
 have hm := h.1.many
 refine br_dec (fun h1 => ?_) (fun h1 => onP_mk rfl ⟨_,by rw [addB]; exact h.ldMany,br_dec (fun h2 => ?_) (fun h2 => ?_)⟩)
 ·rw [if_neg (by omega),if_neg (by omega)]; exact ⟨rfl,H⟩
 ·rw [if_neg (by omega),if_neg (by omega)]; exact ⟨rfl,H⟩
 ·obtain ⟨K,rfl⟩ : ∃ K : Nat,k = K := ⟨k.toNat,by omega⟩
  have hK : K < 120 := by omega
  rw [if_pos (by omega),if_pos (by omega)]
  have e1 : (10 : Int) + 4 * (K : Int) = ((10 + 4 * K : Nat) : Int) := by omega
  have e2 : ((10 + 4 * K : Nat) : Int) + 2 = ((10 + 4 * K + 2 : Nat) : Int) := by omega
  rw [e1,e2]
  refine ⟨inR64.2 (by omega),inR64.2 (by omega),callV (two_spec b g _ (by omega) _ h) ?_⟩
  (rintro _ _ ⟨rfl,H'⟩; (first | replace H := H.ext0 H' | replace H := H.drew.ext0 H' | replace H := H.drew.drew.ext0 H'); clear H'; refine ⟨_,rfl,?_⟩)
  refine ⟨inR64.2 (by omega),inR64.2 (by omega),inR64.2 (by omega),callV (two_spec b g _ (by omega) _ (h.chg H.chg (by simp))) ?_⟩
  (rintro _ _ ⟨rfl,H'⟩; (first | replace H := H.ext0 H' | replace H := H.drew.ext0 H' | replace H := H.drew.drew.ext0 H'); clear H'; refine ⟨_,rfl,?_⟩)
  have hd : K < g.dir.length := by rw [h.1.dir]; exact hK
  rw [h.1.ent1 hK,h.1.ent2 hK]
  simp only [Int.toNat_natCast,List.getD_eq_getElem?_getD,List.getElem?_eq_getElem hd,Option.getD_some]
  exact ⟨trivial,H⟩
theorem bcells_set (l : List UInt8) (i : Nat) (x : UInt8) : (bcells l).set i (.int .u8 (x.toNat : Int)) = bcells (l.set i x) := by simp [bcells,List.map_set]
theorem Pg.cells_set {g : Pg} (h : g.Ok) {i : Nat} (hi : i < 4096) (x : UInt8) : g.cells.set i (.int .u8 (x.toNat : Int)) = bcells (g.bs.set i x) ++ [.int .i64 (g.many : Int),.int .i64 (g.low : Int)] := by
 rw [Pg.cells,List.set_append,if_pos (by rw [bcells_length,h.len]; exact hi),bcells_set]
theorem set2 (l : List UInt8) (a x c : List UInt8) (p q : UInt8) (hx : x.length = 2) (i : Nat) (hi : i = a.length) (hl : l = a ++ (x ++ c)) : (l.set i p).set (i + 1) q = a ++ ([p,q] ++ c) := by
 subst hl hi
 match x,hx with
 | [x1,x2],_ =>
  rw [List.set_append,if_neg (by omega),Nat.sub_self]
  rw [List.set_append,if_neg (by omega),show a.length + 1 - a.length = 1 by omega]
  rfl
theorem be2 (n : Nat) : be (n : Int) 2 = [bt n 1,bt n 0] := rfl
theorem lay_bytes (n : Nat) : IntKind.u8.wrap (Int.fdiv (n : Int) (2 ^ min (Int.toNat 8) (IntKind.bits .i64))) = ((bt n 1).toNat : Int) ∧ IntKind.u8.wrap (n : Int) = ((bt n 0).toNat : Int) := by
 have h1 := shr_byte (n : Int) 1 (by omega) 1 rfl
 have h0 := shr_byte (n : Int) 0 (by omega) 0 rfl
 refine ⟨h1,?_⟩
 rw [← h0]
 simp
theorem lay_spec (b : Nat) (g g' : Pg) (a x c : List UInt8) (i n : Nat) (hx : x.length = 2) (ha : a.length = i) (hi : i + 1 < 4096) (hb : g.bs = a ++ (x ++ c)) (hb' : g'.bs = a ++ (be (n : Int) 2 ++ c)) (hmm : g'.many = g.many) (hll : g'.low = g.low) (w : World) (h : PgAt w b g) :
  Calls Tryz.prog 132 #[.pointer (some ⟨b,0,none⟩),.int .i64 (i : Int),.int .i64 (n : Int)] w fun e w' => e = .returned (.tuple #[]) ∧ Hp [b] w w' [pgA b g'] := by
 apply lay.ok
 unfold lay.vc
 have H : Hp [b] w w [pgA b g] := Hp.start1 (a := pgA b g) h.2
 replace H := H.drew
 have hcl := h.1.clen
 obtain ⟨l1,l0⟩ := lay_bytes n
 have e1 : Int.toNat (i : Int) * 1 = i := by omega
 have e2 : Int.toNat ((i : Int) + 1) * 1 = i + 1 := by omega
 refine ⟨inR64.2 (by omega),by omega,onP_mk rfl ⟨⟨by omega,by omega⟩,onP_mk rfl ?_⟩⟩
 rw [e1,e2,addB,addB,l1,l0]
 refine Hp.st H (by exact ⟨rfl,rfl,rfl,rfl⟩) scl5 rfl rfl (by rw [hcl]; omega) rfl ?_
 clear H
 intro w1 H
 rw [Pg.cells_set h.1 (by omega)] at H
 refine ⟨⟨by omega,by omega⟩,Hp.st H (by exact ⟨rfl,rfl,rfl,rfl⟩) scl5 rfl rfl (by rw [List.length_append,bcells_length,List.length_set,h.1.len]; simp; omega) rfl ?_⟩
 clear H
 intro w2 H
 rw [List.set_append,if_pos (by rw [bcells_length,List.length_set,h.1.len]; omega),bcells_set,set2 g.bs a x c _ _ hx i ha.symm hb,← be2,← hb',← hmm,← hll,← Pg.cells] at H
 exact ⟨rfl,H⟩
theorem Pg.bs_at {g : Pg} (h : g.Ok) {k : Nat} (hk : k < 120) (p q : Nat) : ({ g with dir := g.dir.set k (p,q) } : Pg).bs = (g.st ++ be g.hdr 2 ++ dirB (g.dir.take k)) ++ (be p 2 ++ (be q 2 ++ (dirB (g.dir.drop (k + 1)) ++ g.data))) := by
 have hk' : k < g.dir.length := by rw [h.dir]; exact hk
 have e : g.dir.set k (p,q) = g.dir.take k ++ (p,q) :: g.dir.drop (k + 1) := by
  rw [List.set_eq_take_append_cons_drop,if_pos hk']
 simp only [Pg.bs,e,dirB_append,dirB_cons,List.append_assoc]
def setD (g : Pg) (k at_ long : Nat) : Pg := { g with dir := g.dir.set k (at_,long) }
theorem setD_ok {g : Pg} (h : g.Ok) {k at_ long : Nat} (h1 : at_ < 65536) (h2 : long < 65536) : (setD g k at_ long).Ok :=
 ⟨h.st,h.hdr,by simp [setD,h.dir],h.data,h.many,fun p hp => by
  rcases List.mem_or_eq_of_mem_set hp with hp | rfl
  ·exact h.ent p hp
  ·exact ⟨h1,h2⟩,h.low⟩
theorem set_spec (b : Nat) (g : Pg) (k at_ long : Nat) (hk : k < 120) (h1 : at_ < 65536) (h2 : long < 65536) (w : World) (h : PgAt w b g) :
  Calls Tryz.prog 131 #[.pointer (some ⟨b,0,none⟩),.int .i64 (k : Int),.int .i64 (at_ : Int),.int .i64 (long : Int)] w fun e w' => e = .returned (.tuple #[]) ∧ (setD g k at_ long).Ok ∧ Hp [b] w w' [pgA b (setD g k at_ long)] := by
 apply set.ok
 unfold set.vc
 have hk' : k < g.dir.length := by rw [h.1.dir]; exact hk
 have e1 : (10 : Int) + 4 * (k : Int) = ((10 + 4 * k : Nat) : Int) := by omega
 have e2 : ((10 + 4 * k : Nat) : Int) + 2 = ((10 + 4 * k + 2 : Nat) : Int) := by omega
 rw [e1,e2]
 have hl : (g.st ++ be g.hdr 2 ++ dirB (g.dir.take k)).length = 10 + 4 * k := by
  simp only [List.length_append,be_length,dirB_len,List.length_take,h.1.st]; omega
 have hself : g.bs = (g.st ++ be g.hdr 2 ++ dirB (g.dir.take k)) ++ (be g.dir[k].1 2 ++ (be g.dir[k].2 2 ++ (dirB (g.dir.drop (k + 1)) ++ g.data))) := by
  conv => lhs; rw [Pg.bs,dir_split hk']
  rw [dirB_append,dirB_cons]; simp only [List.append_assoc]
 have hent := h.1.ent _ (List.getElem_mem hk')
 refine ⟨inR64.2 (by omega),inR64.2 (by omega),callV (lay_spec b g (setD g k at_ g.dir[k].2) _ _ _ _ at_ (be_length _ 2) hl (by omega) hself (Pg.bs_at h.1 hk _ _) rfl rfl w h) ?_⟩
 rintro e w1 ⟨rfl,H⟩
 have ok1 := setD_ok (k := k) h.1 h1 hent.2
 have hA : PgAt w1 b (setD g k at_ g.dir[k].2) := ⟨ok1,H.ok _ (.head _)⟩
 refine ⟨rfl,inR64.2 (by omega),inR64.2 (by omega),inR64.2 (by omega),?_⟩
 have hl2 : (g.st ++ be g.hdr 2 ++ dirB (g.dir.take k) ++ be (at_ : Int) 2).length = 10 + 4 * k + 2 := by rw [List.length_append,hl,be_length]
 have hb1 := Pg.bs_at h.1 hk at_ g.dir[k].2
 have hb2 := Pg.bs_at h.1 hk at_ long
 rw [← List.append_assoc] at hb1 hb2
 refine callV (lay_spec b _ (setD g k at_ long) _ _ _ _ long (be_length _ 2) hl2 (by omega) hb1 hb2 rfl rfl w1 hA) ?_
 rintro e w2 ⟨rfl,H'⟩
 exact ⟨rfl,rfl,setD_ok h.1 h1 h2,H.use11 H'⟩
end Go.Proofs.YtdeebigmpffnbaaGreat.Sl
namespace Go.Proofs.YtdeebigmpffnbaaGreat.Sl
open Go Go.Vc
def atOf (g : Pg) (k : Nat) : Nat := (g.dir.getD k (0,0)).1
def lenOf (g : Pg) (k : Nat) : Nat := (g.dir.getD k (0,0)).2
theorem Pg.Ok.atB {g : Pg} (h : g.Ok) (k : Nat) : atOf g k < 65536 ∧ lenOf g k < 65536 := by
 simp only [atOf,lenOf,List.getD_eq_getElem?_getD]
 cases hk : g.dir[k]? with
 | none => simp
 | some p => exact h.ent p (List.mem_of_getElem? hk)
theorem slot_in (b : Nat) (g : Pg) (k : Nat) (hk : k < g.many) (w : World) (h : PgAt w b g) :
  Calls Tryz.prog 77 #[.pointer (some ⟨b,0,none⟩),.int .i64 (k : Int)] w fun e w' => e = .returned (.tuple #[.int .i64 (atOf g k : Int),.int .i64 (lenOf g k : Int)]) ∧ Hp [] w w' [] := by
 refine Calls.mono (slot_spec b g k w h) ?_
 rintro e w' ⟨rfl,H⟩
 rw [if_pos (by omega),if_pos (by omega)]
 exact ⟨rfl,H⟩
theorem each_spec (b : Nat) (fv : Value) (N : Nat) (I : Nat → World → Prop) (J : World → Prop) (w : World) (h0 : I 0 w) (hI0 : ∃ g,PgAt w b g ∧ g.many = N)
  (hI : ∀ k w,k < N → I k w → ∃ g,PgAt w b g ∧ g.many = N ∧ ∀ w',Hp [] w w' [] → (atOf g k = 0 → I (k + 1) w') ∧ (0 < atOf g k → CallX Tryz.prog fv [.int .i64 (k : Int)] w' fun e w'' => (e = .returned (.bool true) ∧ I (k + 1) w'') ∨ (e = .returned (.bool false) ∧ J w''))) :
  Calls Tryz.prog 76 #[.pointer (some ⟨b,0,none⟩),fv] w fun e w' => e = .returned (.tuple #[]) ∧ (I N w' ∨ J w') := by
 apply each.ok
 unfold each.vc
 obtain ⟨g0,hg0,hN0⟩ := hI0
 have hN : N ≤ 120 := by rw [← hN0]; exact hg0.1.many
 refine onP_mk rfl ⟨_,by rw [addB]; exact hg0.ldMany,?_⟩
 rw [hN0]
 refine LoopP.mk (fun m s w' => ∃ k : Nat,m = N - k ∧ s = (k : Int) ∧ k ≤ N ∧ I k w') N ⟨0,rfl,rfl,Nat.zero_le _,h0⟩ ?_
 rintro m s w' next ⟨k,rfl,rfl,hk,hIk⟩ hnext
 refine br_dec (fun h => ?_) (fun h => ?_)
 ·obtain ⟨g,hg,hgN,hstep⟩ := hI k w' (by omega) hIk
  refine callV (slot_in b g k (by omega) _ hg) ?_
  rintro e w2 ⟨rfl,H⟩
  obtain ⟨hs1,hs2⟩ := hstep w2 H
  refine ⟨_,_,rfl,br_dec (fun h1 => ?_) (fun h1 => ?_)⟩
  ·refine callX (hs2 (by omega)) ?_
   rintro e w3 (⟨rfl,hI'⟩ | ⟨rfl,hJ⟩)
   ·exact ⟨_,rfl,br_not (fun h => by cases h) fun _ => ⟨inR64.2 (by omega),hnext (N - (k + 1)) _ _ (by omega) ⟨k + 1,rfl,by simp,by omega,hI'⟩⟩⟩
   ·exact ⟨_,rfl,br_not (fun _ => ⟨rfl,.inr hJ⟩) fun h => by cases h⟩
  ·exact ⟨inR64.2 (by omega),hnext (N - (k + 1)) _ _ (by omega) ⟨k + 1,rfl,by simp,by omega,hs1 (by omega)⟩⟩
 ·have : k = N := by omega
  subst this
  exact ⟨rfl,.inl hIk⟩
theorem mid_front {B : List Nat} {w0 w : World} {L R : List Asn} {x : Asn} (H : Hp B w0 w (L ++ x :: R)) : Hp B w0 w (x :: (L ++ R)) := H.perm List.perm_middle
theorem front_mid {B : List Nat} {w0 w : World} {L R : List Asn} {x : Asn} (H : Hp B w0 w (x :: (L ++ R))) : Hp B w0 w (L ++ x :: R) := H.perm List.perm_middle.symm
theorem putO_mid {B : List Nat} {w0 w : World} {L R : List Asn} {l : Nat} {o o' : Obj} (H : Hp B w0 w (L ++ objA l o :: R)) : Hp B w0 (w.putObj l o') (L ++ objA l o' :: R) := front_mid (mid_front H).putO
theorem range_each {σ ρ : Type} {round : Int → World → (World → (World → Prop) → Prop) → (World → Prop) → (World → Prop) → (Nat → World → Prop) → Prop} {Qn Qr : Nat → World → Prop} {Qx : Nat → Nat → World → Prop} {B : List Nat} {w0 w : World}
  (b N : Nat) (pg : Nat → σ → Pg) (Lk : Nat → σ → List Asn) (Inv : Nat → σ → Prop) (Lr : ρ → List Asn) (Stop : ρ → Prop) (x0 : σ) (hx0 : Inv 0 x0) (H : Hp B w0 w (Lk 0 x0))
  (hpg : ∀ k x w' T,Inv k x → Hp B w0 w' (Lk k x ++ T) → PgAt w' b (pg k x) ∧ (pg k x).many = N)
  (hskip : ∀ k x,k < N → Inv k x → atOf (pg k x) k = 0 → ∃ x',Inv (k + 1) x' ∧ Lk (k + 1) x' = Lk k x)
  (hround : ∀ k x,k < N → Inv k x → 0 < atOf (pg k x) k → ∀ (w' : World) (T0 T1 : List Asn) (begin : World → (World → Prop) → Prop) (kn kr : World → Prop) (kx : Nat → World → Prop),Hp B w0 w' (Lk k x ++ T0) →
   (∀ k0 : World → Prop,(∀ w2,Hp B w0 w2 (Lk k x ++ T1) → k0 w2) → begin w' k0) → (∀ w3 x',Inv (k + 1) x' → Hp B w0 w3 (Lk (k + 1) x' ++ T1) → kn w3) → (∀ w3 y,Stop y → Hp B w0 w3 (Lr y ++ T1) → kr w3) → round (k : Int) w' begin kn kr kx)
  (hend : ∀ x D w',Inv N x → Hp B w0 w' (Lk N x ++ [objA D (.deferred (some []))]) → Qn D w')
  (hret : ∀ y D w',Stop y → Hp B w0 w' (Lr y ++ [objA D (.deferred (some []))]) → Qr D w') :
  RangeP Tryz.prog 76 [.pointer (some ⟨b,0,none⟩)] [] (fun s : Int => [.int .i64 s]) round w Qn Qr Qx := by
 refine ⟨fun D l wa wb rec hD hl hy => ?_⟩
 have H2 : Hp B w0 wb (Lk 0 x0 ++ [objA l (rec .ready none),objA D (.deferred (some []))]) := by
  have h1 := H.newO ⟨rfl,rfl,rfl,rfl⟩ hD
  have h2 := h1.newO ⟨rfl,rfl,rfl,rfl⟩ hl
  refine h2.perm ?_
  exact (List.perm_append_comm (l₁ := [objA l (rec .ready none),objA D (.deferred (some []))]) (l₂ := Lk 0 x0))
 refine callV (each_spec b _ N (fun k w' => ∃ x,Inv k x ∧ Hp B w0 w' (Lk k x ++ [objA l (rec .ready none),objA D (.deferred (some []))])) (fun w' => ∃ y,Stop y ∧ Hp B w0 w' (Lr y ++ [objA l (rec .done (some .ret)),objA D (.deferred (some []))])) wb ⟨x0,hx0,H2⟩ ⟨_,hpg 0 x0 wb _ hx0 H2⟩ ?_) ?_
 ·rintro k w' hk ⟨x,hx,Hx⟩
  obtain ⟨hp1,hp2⟩ := hpg k x w' _ hx Hx
  refine ⟨_,hp1,hp2,fun w2 Hw => ⟨fun h0 => ?_,fun h0 => ?_⟩⟩
  ·obtain ⟨x',hx',he⟩ := hskip k x hk hx h0
   exact ⟨x',hx',by rw [he]; exact Hx.ext0 Hw⟩
  ·have Hy := Hx.ext0 Hw
   have hready := (mid_front Hy).obj (.head _)
   refine hy (k : Int) w2 _ (hround k x hk hx h0 w2 _ [objA l (rec .busy none),objA D (.deferred (some []))] _ _ _ _ Hy ?_ ?_ ?_) hready
   ·intro k0 hk0
    exact ⟨hready,hk0 _ (putO_mid Hy)⟩
   ·intro w3 x' hx' H3
    exact ⟨(mid_front H3).obj (.head _),.inl ⟨rfl,x',hx',putO_mid H3⟩⟩
   ·intro w3 y hs H3
    exact ⟨(mid_front H3).obj (.head _),.inr ⟨rfl,y,hs,putO_mid H3⟩⟩
 ·rintro e w2 ⟨rfl,⟨x,hx,Hx⟩ | ⟨y,hs,Hy⟩⟩
  ·exact ⟨_,rfl,.inl ⟨(mid_front Hx).obj (.head _),hend x D _ hx (mid_front Hx).putO.drop⟩⟩
  ·exact ⟨_,rfl,.inr (.inl ⟨(mid_front Hy).obj (.head _),hret y D _ hs (mid_front Hy).putO.drop⟩)⟩
def live (g : Pg) (k : Nat) : List Nat := (List.range k).filter fun j => decide (0 < atOf g j)
theorem live_succ (g : Pg) (k : Nat) : live g (k + 1) = if 0 < atOf g k then live g k ++ [k] else live g k := by
 simp only [live,List.range_succ,List.filter_append]
 split <;> rename_i h <;> simp [h]
theorem live_len (g : Pg) (k : Nat) : (live g k).length ≤ k := by
 have := List.length_filter_le (fun j => decide (0 < atOf g j)) (List.range k)
 rwa [List.length_range] at this
def intC (l : List Nat) : List Value := l.map fun (k : Nat) => Value.int .i64 (k : Int)
theorem elt32 : Elt Tryz.prog 30 3 1 8 := elt_of (by kernel_rfl)
theorem und32 : Tryz.prog.underlying 30 = some (.slice 3) := by kernel_rfl
theorem slots_spec (b : Nat) (g : Pg) (w : World) (h : PgAt w b g) :
  Calls Tryz.prog 42 #[.pointer (some ⟨b,0,none⟩)] w fun e w' => ∃ a c,e = .returned (.slice a (live g g.many).length c) ∧ Hp [] w w' [.own 3 1 a (live g g.many).length c (intC (live g g.many))] := by
 apply slots.ok
 unfold slots.vc
 have H := Hp.start w
 have hmax : maxLen = 9223372036854775807 := by simp [maxLen]
 have hm := h.1.many
 (first | ((repeat apply Exists.intro); first | refine ⟨H.ld (by exact ⟨rfl,rfl,rfl,rfl⟩) (by first | exact scl3 | exact scl5 | exact scl9 | exact scl23 | exact scl32) (by repeat first | exact .head _ | refine .tail _ ?_) rfl,?_⟩ | refine ⟨H.ldA (by exact ⟨rfl,rfl,rfl,rfl⟩) (by first | exact agg54 | exact agg52) (by repeat first | exact .head _ | refine .tail _ ?_) rfl rfl,?_⟩) | (intro _ _ hn; replace H := H.new (by exact ⟨rfl,rfl,rfl,rfl⟩) hn; clear hn) | ((first | (apply Hp.st; (case H => first | exact H | exact H.pull1 | exact H.pull2 | exact H.pull3 | exact H.pull4 | exact H.pull5 | exact H.pull6 | exact H.pull7); (case e => exact ⟨rfl,rfl,rfl,rfl⟩); (case S => exact (by first | exact scl3 | exact scl5 | exact scl9 | exact scl23 | exact scl32)); (case hv => exact rfl); (case h1 => exact rfl); (case ho => exact Nat.le_of_ble_eq_true rfl); (case hc => exact rfl)) | (apply Hp.stA; (case H => first | exact H | exact H.pull1 | exact H.pull2 | exact H.pull3 | exact H.pull4 | exact H.pull5 | exact H.pull6 | exact H.pull7); (case e => exact ⟨rfl,rfl,rfl,rfl⟩); (case S => exact (by first | exact agg54 | exact agg52)); (case hn => exact rfl); (case h1 => exact rfl); (case ho => exact Nat.le_of_ble_eq_true rfl); (case hc => exact rfl))); clear H; intro _ H; (try simp only [over,List.set_cons_zero,List.set_cons_succ] at H)))
 rename_i lv _
 refine ⟨_,_,_,rfl,⟨_,_,Tryz.func76,rfl⟩,?_⟩
 refine range_each b g.many (fun _ _ => g) (fun k (x : Option Addr × Nat) => [.own 3 1 x.1 (live g k).length x.2 (intC (live g k)),.blk lv [.slice x.1 (live g k).length x.2] 30]) (fun _ _ => True) (fun _ : Unit => []) (fun _ => False) (none,0) trivial (by simpa [live,intC] using H.nilS 3 1)
  (fun k x w' T _ H => ⟨h.chg H.chg (by simp),rfl⟩) (fun k x hk _ h0 => ⟨x,trivial,by rw [live_succ,if_neg (by omega)]⟩) ?_ ?_ (fun y D w' hs _ => hs.elim)
 ·clear H
  intro k x hk _ h0 w' T0 T1 begin kn kr kx _ hbeg hkn _
  refine hbeg _ fun w2 H => ?_
  simp only [List.cons_append,List.nil_append] at H
  have hll := live_len g k
  (repeat (first | ((repeat apply Exists.intro); first | refine ⟨H.ld (by exact ⟨rfl,rfl,rfl,rfl⟩) (by first | exact scl3 | exact scl5 | exact scl9 | exact scl23 | exact scl32) (by repeat first | exact .head _ | refine .tail _ ?_) rfl,?_⟩ | refine ⟨H.ldA (by exact ⟨rfl,rfl,rfl,rfl⟩) (by first | exact agg54 | exact agg52) (by repeat first | exact .head _ | refine .tail _ ?_) rfl rfl,?_⟩) | (intro _ _ hn; replace H := H.new (by exact ⟨rfl,rfl,rfl,rfl⟩) hn; clear hn) | ((first | (apply Hp.st; (case H => first | exact H | exact H.pull1 | exact H.pull2 | exact H.pull3 | exact H.pull4 | exact H.pull5 | exact H.pull6 | exact H.pull7); (case e => exact ⟨rfl,rfl,rfl,rfl⟩); (case S => exact (by first | exact scl3 | exact scl5 | exact scl9 | exact scl23 | exact scl32)); (case hv => exact rfl); (case h1 => exact rfl); (case ho => exact Nat.le_of_ble_eq_true rfl); (case hc => exact rfl)) | (apply Hp.stA; (case H => first | exact H | exact H.pull1 | exact H.pull2 | exact H.pull3 | exact H.pull4 | exact H.pull5 | exact H.pull6 | exact H.pull7); (case e => exact ⟨rfl,rfl,rfl,rfl⟩); (case S => exact (by first | exact agg54 | exact agg52)); (case hn => exact rfl); (case h1 => exact rfl); (case ho => exact Nat.le_of_ble_eq_true rfl); (case hc => exact rfl))); clear H; intro _ H; (try simp only [over,List.set_cons_zero,List.set_cons_succ] at H))))
  refine Hp.app elt32 (by omega) H.pull1 (by exact ⟨rfl,rfl,rfl,rfl⟩) (Blk.src und32 (H.blk (.head _)) rfl rfl) (by omega) (by omega) ?_
  clear H
  intro a6 c6 w6 H
  (first | ((repeat apply Exists.intro); first | refine ⟨H.ld (by exact ⟨rfl,rfl,rfl,rfl⟩) (by first | exact scl3 | exact scl5 | exact scl9 | exact scl23 | exact scl32) (by repeat first | exact .head _ | refine .tail _ ?_) rfl,?_⟩ | refine ⟨H.ldA (by exact ⟨rfl,rfl,rfl,rfl⟩) (by first | exact agg54 | exact agg52) (by repeat first | exact .head _ | refine .tail _ ?_) rfl rfl,?_⟩) | (intro _ _ hn; replace H := H.new (by exact ⟨rfl,rfl,rfl,rfl⟩) hn; clear hn) | ((first | (apply Hp.st; (case H => first | exact H | exact H.pull1 | exact H.pull2 | exact H.pull3 | exact H.pull4 | exact H.pull5 | exact H.pull6 | exact H.pull7); (case e => exact ⟨rfl,rfl,rfl,rfl⟩); (case S => exact (by first | exact scl3 | exact scl5 | exact scl9 | exact scl23 | exact scl32)); (case hv => exact rfl); (case h1 => exact rfl); (case ho => exact Nat.le_of_ble_eq_true rfl); (case hc => exact rfl)) | (apply Hp.stA; (case H => first | exact H | exact H.pull1 | exact H.pull2 | exact H.pull3 | exact H.pull4 | exact H.pull5 | exact H.pull6 | exact H.pull7); (case e => exact ⟨rfl,rfl,rfl,rfl⟩); (case S => exact (by first | exact agg54 | exact agg52)); (case hn => exact rfl); (case h1 => exact rfl); (case ho => exact Nat.le_of_ble_eq_true rfl); (case hc => exact rfl))); clear H; intro _ H; (try simp only [over,List.set_cons_zero,List.set_cons_succ] at H)))
  have e : live g (k + 1) = live g k ++ [k] := by rw [live_succ,if_pos h0]
  refine hkn _ (a6,c6) trivial ?_
  have el : (live g (k + 1)).length = (live g k).length + 1 := by rw [e]; simp
  have ec : intC (live g (k + 1)) = intC (live g k) ++ [.int .i64 (k : Int)] := by rw [e]; simp [intC]
  rw [el,ec]
  exact H.del2.pull1
 ·clear H
  intro x D w' _ H
  simp only [List.cons_append,List.nil_append] at H
  (repeat (first | ((repeat apply Exists.intro); first | refine ⟨H.ld (by exact ⟨rfl,rfl,rfl,rfl⟩) (by first | exact scl3 | exact scl5 | exact scl9 | exact scl23 | exact scl32) (by repeat first | exact .head _ | refine .tail _ ?_) rfl,?_⟩ | refine ⟨H.ldA (by exact ⟨rfl,rfl,rfl,rfl⟩) (by first | exact agg54 | exact agg52) (by repeat first | exact .head _ | refine .tail _ ?_) rfl rfl,?_⟩) | (intro _ _ hn; replace H := H.new (by exact ⟨rfl,rfl,rfl,rfl⟩) hn; clear hn) | ((first | (apply Hp.st; (case H => first | exact H | exact H.pull1 | exact H.pull2 | exact H.pull3 | exact H.pull4 | exact H.pull5 | exact H.pull6 | exact H.pull7); (case e => exact ⟨rfl,rfl,rfl,rfl⟩); (case S => exact (by first | exact scl3 | exact scl5 | exact scl9 | exact scl23 | exact scl32)); (case hv => exact rfl); (case h1 => exact rfl); (case ho => exact Nat.le_of_ble_eq_true rfl); (case hc => exact rfl)) | (apply Hp.stA; (case H => first | exact H | exact H.pull1 | exact H.pull2 | exact H.pull3 | exact H.pull4 | exact H.pull5 | exact H.pull6 | exact H.pull7); (case e => exact ⟨rfl,rfl,rfl,rfl⟩); (case S => exact (by first | exact agg54 | exact agg52)); (case hn => exact rfl); (case h1 => exact rfl); (case ho => exact Nat.le_of_ble_eq_true rfl); (case hc => exact rfl))); clear H; intro _ H; (try simp only [over,List.set_cons_zero,List.set_cons_succ] at H))))
  refine Hp.shut H.pull2 fun w1 H => ?_
  exact ⟨x.1,x.2,rfl,H.done1⟩
def total (g : Pg) (k : Nat) : Nat := ((live g k).map (lenOf g)).sum
theorem total_succ (g : Pg) (k : Nat) : total g (k + 1) = if 0 < atOf g k then total g k + lenOf g k else total g k := by
 simp only [total,live_succ]
 split <;> simp
theorem total_le {g : Pg} (h : g.Ok) (k : Nat) : total g k ≤ 65535 * k := by
 induction k with
 | zero => exact Nat.le_of_eq rfl
 | succ k ih =>
  rw [total_succ,Nat.mul_succ]
  have := (h.atB k).2
  generalize 65535 * k = y at ih ⊢
  split <;> omega
theorem room_spec (b : Nat) (g : Pg) (w : World) (h : PgAt w b g) :
  Calls Tryz.prog 130 #[.pointer (some ⟨b,0,none⟩)] w fun e w' => e = .returned (.int .i64 (3600 - (total g g.many : Int))) ∧ Hp [] w w' [] := by
 apply room.ok
 unfold room.vc
 have H := Hp.start w
 have hm := h.1.many
 (repeat (first | ((repeat apply Exists.intro); first | refine ⟨H.ld (by exact ⟨rfl,rfl,rfl,rfl⟩) (by first | exact scl3 | exact scl5 | exact scl9 | exact scl23 | exact scl32) (by repeat first | exact .head _ | refine .tail _ ?_) rfl,?_⟩ | refine ⟨H.ldA (by exact ⟨rfl,rfl,rfl,rfl⟩) (by first | exact agg54 | exact agg52) (by repeat first | exact .head _ | refine .tail _ ?_) rfl rfl,?_⟩) | (intro _ _ hn; replace H := H.new (by exact ⟨rfl,rfl,rfl,rfl⟩) hn; clear hn) | ((first | (apply Hp.st; (case H => first | exact H | exact H.pull1 | exact H.pull2 | exact H.pull3 | exact H.pull4 | exact H.pull5 | exact H.pull6 | exact H.pull7); (case e => exact ⟨rfl,rfl,rfl,rfl⟩); (case S => exact (by first | exact scl3 | exact scl5 | exact scl9 | exact scl23 | exact scl32)); (case hv => exact rfl); (case h1 => exact rfl); (case ho => exact Nat.le_of_ble_eq_true rfl); (case hc => exact rfl)) | (apply Hp.stA; (case H => first | exact H | exact H.pull1 | exact H.pull2 | exact H.pull3 | exact H.pull4 | exact H.pull5 | exact H.pull6 | exact H.pull7); (case e => exact ⟨rfl,rfl,rfl,rfl⟩); (case S => exact (by first | exact agg54 | exact agg52)); (case hn => exact rfl); (case h1 => exact rfl); (case ho => exact Nat.le_of_ble_eq_true rfl); (case hc => exact rfl))); clear H; intro _ H; (try simp only [over,List.set_cons_zero,List.set_cons_succ] at H))))
 rename_i b1 _ b2 _ _
 refine ⟨_,_,_,rfl,⟨_,_,Tryz.func76,rfl⟩,?_⟩
 refine range_each b g.many (fun _ _ => g) (fun k (_ : Unit) => [.blk b2 [.int .i64 (3600 - (total g k : Int))] 3,.blk b1 [.pointer (some ⟨b,0,none⟩)] 99]) (fun _ _ => True) (fun _ : Unit => []) (fun _ => False) () trivial (by simpa [total,live] using H)
  (fun k x w' T _ H => ⟨h.chg H.chg (by simp),rfl⟩) (fun k x hk _ h0 => ⟨x,trivial,by rw [total_succ,if_neg (by omega)]⟩) ?_ ?_ (fun y D w' hs _ => hs.elim)
 ·clear H
  intro k x hk _ h0 w' T0 T1 begin kn kr kx _ hbeg hkn _
  refine hbeg _ fun w2 H => ?_
  simp only [List.cons_append,List.nil_append] at H
  have hb := (h.1.atB k).2
  have ht := total_le h.1 k
  (repeat (first | ((repeat apply Exists.intro); first | refine ⟨H.ld (by exact ⟨rfl,rfl,rfl,rfl⟩) (by first | exact scl3 | exact scl5 | exact scl9 | exact scl23 | exact scl32) (by repeat first | exact .head _ | refine .tail _ ?_) rfl,?_⟩ | refine ⟨H.ldA (by exact ⟨rfl,rfl,rfl,rfl⟩) (by first | exact agg54 | exact agg52) (by repeat first | exact .head _ | refine .tail _ ?_) rfl rfl,?_⟩) | (intro _ _ hn; replace H := H.new (by exact ⟨rfl,rfl,rfl,rfl⟩) hn; clear hn) | ((first | (apply Hp.st; (case H => first | exact H | exact H.pull1 | exact H.pull2 | exact H.pull3 | exact H.pull4 | exact H.pull5 | exact H.pull6 | exact H.pull7); (case e => exact ⟨rfl,rfl,rfl,rfl⟩); (case S => exact (by first | exact scl3 | exact scl5 | exact scl9 | exact scl23 | exact scl32)); (case hv => exact rfl); (case h1 => exact rfl); (case ho => exact Nat.le_of_ble_eq_true rfl); (case hc => exact rfl)) | (apply Hp.stA; (case H => first | exact H | exact H.pull1 | exact H.pull2 | exact H.pull3 | exact H.pull4 | exact H.pull5 | exact H.pull6 | exact H.pull7); (case e => exact ⟨rfl,rfl,rfl,rfl⟩); (case S => exact (by first | exact agg54 | exact agg52)); (case hn => exact rfl); (case h1 => exact rfl); (case ho => exact Nat.le_of_ble_eq_true rfl); (case hc => exact rfl))); clear H; intro _ H; (try simp only [over,List.set_cons_zero,List.set_cons_succ] at H))))
  refine callV (slot_in b g k hk _ (h.chg H.chg (by simp))) ?_
  rintro e w3 ⟨rfl,H'⟩; replace H := H.ext0 H'; clear H'
  refine ⟨_,_,rfl,?_⟩
  (first | ((repeat apply Exists.intro); first | refine ⟨H.ld (by exact ⟨rfl,rfl,rfl,rfl⟩) (by first | exact scl3 | exact scl5 | exact scl9 | exact scl23 | exact scl32) (by repeat first | exact .head _ | refine .tail _ ?_) rfl,?_⟩ | refine ⟨H.ldA (by exact ⟨rfl,rfl,rfl,rfl⟩) (by first | exact agg54 | exact agg52) (by repeat first | exact .head _ | refine .tail _ ?_) rfl rfl,?_⟩) | (intro _ _ hn; replace H := H.new (by exact ⟨rfl,rfl,rfl,rfl⟩) hn; clear hn) | ((first | (apply Hp.st; (case H => first | exact H | exact H.pull1 | exact H.pull2 | exact H.pull3 | exact H.pull4 | exact H.pull5 | exact H.pull6 | exact H.pull7); (case e => exact ⟨rfl,rfl,rfl,rfl⟩); (case S => exact (by first | exact scl3 | exact scl5 | exact scl9 | exact scl23 | exact scl32)); (case hv => exact rfl); (case h1 => exact rfl); (case ho => exact Nat.le_of_ble_eq_true rfl); (case hc => exact rfl)) | (apply Hp.stA; (case H => first | exact H | exact H.pull1 | exact H.pull2 | exact H.pull3 | exact H.pull4 | exact H.pull5 | exact H.pull6 | exact H.pull7); (case e => exact ⟨rfl,rfl,rfl,rfl⟩); (case S => exact (by first | exact agg54 | exact agg52)); (case hn => exact rfl); (case h1 => exact rfl); (case ho => exact Nat.le_of_ble_eq_true rfl); (case hc => exact rfl))); clear H; intro _ H; (try simp only [over,List.set_cons_zero,List.set_cons_succ] at H)))
  refine ⟨inR64.2 (by omega),?_⟩
  (first | ((repeat apply Exists.intro); first | refine ⟨H.ld (by exact ⟨rfl,rfl,rfl,rfl⟩) (by first | exact scl3 | exact scl5 | exact scl9 | exact scl23 | exact scl32) (by repeat first | exact .head _ | refine .tail _ ?_) rfl,?_⟩ | refine ⟨H.ldA (by exact ⟨rfl,rfl,rfl,rfl⟩) (by first | exact agg54 | exact agg52) (by repeat first | exact .head _ | refine .tail _ ?_) rfl rfl,?_⟩) | (intro _ _ hn; replace H := H.new (by exact ⟨rfl,rfl,rfl,rfl⟩) hn; clear hn) | ((first | (apply Hp.st; (case H => first | exact H | exact H.pull1 | exact H.pull2 | exact H.pull3 | exact H.pull4 | exact H.pull5 | exact H.pull6 | exact H.pull7); (case e => exact ⟨rfl,rfl,rfl,rfl⟩); (case S => exact (by first | exact scl3 | exact scl5 | exact scl9 | exact scl23 | exact scl32)); (case hv => exact rfl); (case h1 => exact rfl); (case ho => exact Nat.le_of_ble_eq_true rfl); (case hc => exact rfl)) | (apply Hp.stA; (case H => first | exact H | exact H.pull1 | exact H.pull2 | exact H.pull3 | exact H.pull4 | exact H.pull5 | exact H.pull6 | exact H.pull7); (case e => exact ⟨rfl,rfl,rfl,rfl⟩); (case S => exact (by first | exact agg54 | exact agg52)); (case hn => exact rfl); (case h1 => exact rfl); (case ho => exact Nat.le_of_ble_eq_true rfl); (case hc => exact rfl))); clear H; intro _ H; (try simp only [over,List.set_cons_zero,List.set_cons_succ] at H)))
  refine hkn _ () trivial ?_
  have e : (3600 : Int) - (total g (k + 1) : Int) = 3600 - (total g k : Int) - (lenOf g k : Int) := by rw [total_succ,if_pos h0]; omega
  rw [e]
  exact H
 ·clear H
  intro x D w' _ H
  simp only [List.cons_append,List.nil_append] at H
  (first | ((repeat apply Exists.intro); first | refine ⟨H.ld (by exact ⟨rfl,rfl,rfl,rfl⟩) (by first | exact scl3 | exact scl5 | exact scl9 | exact scl23 | exact scl32) (by repeat first | exact .head _ | refine .tail _ ?_) rfl,?_⟩ | refine ⟨H.ldA (by exact ⟨rfl,rfl,rfl,rfl⟩) (by first | exact agg54 | exact agg52) (by repeat first | exact .head _ | refine .tail _ ?_) rfl rfl,?_⟩) | (intro _ _ hn; replace H := H.new (by exact ⟨rfl,rfl,rfl,rfl⟩) hn; clear hn) | ((first | (apply Hp.st; (case H => first | exact H | exact H.pull1 | exact H.pull2 | exact H.pull3 | exact H.pull4 | exact H.pull5 | exact H.pull6 | exact H.pull7); (case e => exact ⟨rfl,rfl,rfl,rfl⟩); (case S => exact (by first | exact scl3 | exact scl5 | exact scl9 | exact scl23 | exact scl32)); (case hv => exact rfl); (case h1 => exact rfl); (case ho => exact Nat.le_of_ble_eq_true rfl); (case hc => exact rfl)) | (apply Hp.stA; (case H => first | exact H | exact H.pull1 | exact H.pull2 | exact H.pull3 | exact H.pull4 | exact H.pull5 | exact H.pull6 | exact H.pull7); (case e => exact ⟨rfl,rfl,rfl,rfl⟩); (case S => exact (by first | exact agg54 | exact agg52)); (case hn => exact rfl); (case h1 => exact rfl); (case ho => exact Nat.le_of_ble_eq_true rfl); (case hc => exact rfl))); clear H; intro _ H; (try simp only [over,List.set_cons_zero,List.set_cons_succ] at H)))
  refine Hp.shut H.pull2 fun w1 H => ?_
  exact ⟨rfl,H.done⟩
theorem und37 : Tryz.prog.underlying 29 = some (.slice 5) := by kernel_rfl
theorem und5 : Tryz.prog.underlying 5 = some (.int .u8) := by kernel_rfl
theorem und9 : Tryz.prog.underlying 9 = some .string := by kernel_rfl
theorem PgAt.cellsB {w : World} {b : Nat} {g : Pg} (h : PgAt w b g) (i : Nat) (n : Nat) (hi : i + n ≤ 4096) : Cells w (slA (some ⟨b,0,none⟩) 4096 i 1) (bcells ((g.bs.drop i).take n)) := by
 intro j v hj
 have hl := h.1.len
 have hjn : j < n := by
  have := (List.getElem?_eq_some_iff.1 hj).1
  rw [bcells_length,List.length_take,List.length_drop] at this; omega
 have hv : v = .int .u8 ((g.bs[i + j]'(by omega)).toNat : Int) := by
  simp only [bcells,List.getElem?_map,List.getElem?_take,List.getElem?_drop,if_pos hjn,List.getElem?_eq_getElem (show i + j < g.bs.length by omega),Option.map_some,Option.some.injEq] at hj
  exact hj.symm
 subst hv
 unfold slA
 rw [if_neg (by omega)]
 refine ⟨_,rfl,?_⟩
 rw [Nat.mul_one,add_add,addB]
 exact h.2.cell (h.1.byte (by omega))
def recB (g : Pg) (k : Nat) : List UInt8 := (g.bs.drop (atOf g k)).take (lenOf g k)
theorem get_spec (b : Nat) (g : Pg) (k : Int) (w : World) (h : PgAt w b g) (hfit : ∀ j,j < g.many → atOf g j + lenOf g j ≤ 4096) :
  Calls Tryz.prog 43 #[.pointer (some ⟨b,0,none⟩),.int .i64 k] w fun e w' => e = .returned (if 0 ≤ k ∧ k < g.many ∧ 0 < atOf g k.toNat then .tuple #[sv (recB g k.toNat),.bool true] else .tuple #[sv [],.bool false]) ∧ Hp [] w w' [] := by
 apply get.ok
 unfold get.vc
 have H := Hp.start w
 refine callV (slot_spec b g k w h) ?_
 rintro e w1 ⟨rfl,H'⟩; replace H := H.ext0 H'; clear H'
 refine ⟨_,_,rfl,?_⟩
 by_cases hk : 0 ≤ k ∧ k < g.many
 ·rw [if_pos hk,if_pos hk]
  obtain ⟨K,rfl⟩ : ∃ K : Nat,k = K := ⟨k.toNat,by omega⟩
  have hK : K < g.many := by omega
  have hf := hfit K hK
  rw [Int.toNat_natCast]
  show br (decide ((atOf g K : Int) = 0)) _ _
  refine br_dec (fun h0 => ?_) (fun h0 => onP_mk rfl ?_)
  ·rw [if_neg (by omega)]; exact ⟨rfl,H⟩
  ·rw [if_pos ⟨by omega,by omega,by omega⟩]
   have e1 : Int.toNat (atOf g K : Int) = atOf g K := by omega
   have e2 : Int.toNat ((atOf g K : Int) + (lenOf g K : Int)) = atOf g K + lenOf g K := by omega
   show inR .i64 ((atOf g K : Int) + (lenOf g K : Int)) ∧ _
   refine ⟨inR64.2 (by omega),⟨by omega,by show (atOf g K : Int) ≤ (atOf g K : Int) + (lenOf g K : Int); omega,by show (atOf g K : Int) + (lenOf g K : Int) ≤ 4096; omega⟩,⟨(recB g K).toArray⟩,?_,rfl,H⟩
   show B2S Tryz.prog 29 9 w1 (.slice (slA (some ⟨b,0,none⟩) 4096 (Int.toNat (atOf g K : Int)) 1) (Int.toNat ((atOf g K : Int) + (lenOf g K : Int)) - Int.toNat (atOf g K : Int)) _) _
   rw [e1,e2]
   have hl := h.1.len
   exact b2s und37 und5 und9 (by rw [byteCells_mk]; exact (h.chg H.chg (by simp)).cellsB _ _ hf) (by simp [ByteArray.size,recB]; omega)
 ·rw [if_neg hk,if_neg hk,if_neg (fun hh => hk ⟨hh.1,hh.2.1⟩)]
  exact br_dec (fun _ => ⟨rfl,H⟩) (fun h => absurd rfl h)
end Go.Proofs.YtdeebigmpffnbaaGreat.Sl
namespace Go.Proofs.YtdeebigmpffnbaaGreat.Sl
open Go Go.Vc
abbrev Recs := List (Nat × List UInt8)
def tot (L : Recs) : Nat := (L.map (·.2.length)).sum
def Laid (d : List (Nat × Nat)) : Nat → Recs → Prop
  | a,[] => a = 4096
  | a,(k,s) :: r => d[k]? = some (a,s.length) ∧ Laid d (a + s.length) r
structure Rep (g : Pg) (L : Recs) (stamp : Nat) : Prop where
  ok : g.Ok
  st : g.st = be (stamp : Int) 8
  stamp : stamp ≤ 4611686018427387904
  hdr : g.hdr = g.many
  sorted : L.Pairwise fun x y => x.1 < y.1
  below : ∀ p ∈ L,p.1 < g.many
  last : g.many = 0 ∨ ∃ s,(g.many - 1,s) ∈ L
  free : ∀ k,k < g.many → (∀ s,(k,s) ∉ L) → g.dir.getD k (0,0) = (0,0)
  ord : ∃ ord : Recs,ord.Perm L ∧ Laid g.dir g.low ord ∧ g.data.drop (g.low - 490) = ord.flatMap (·.2)
  small : tot L ≤ 3600
  low : g.low + tot L = 4096
theorem tot_perm {x y : Recs} (h : x.Perm y) : tot x = tot y := (h.map _).sum_nat
theorem tot_append (x y : Recs) : tot (x ++ y) = tot x + tot y := by simp [tot]
theorem tot_cons (p : Nat × List UInt8) (y : Recs) : tot (p :: y) = p.2.length + tot y := by simp [tot]
theorem flat_len (x : Recs) : (x.flatMap (·.2)).length = tot x := by
  induction x with
  | nil => rfl
  | cons p r ih => rw [List.flatMap_cons,List.length_append,ih,tot_cons]
theorem laid_split {d : List (Nat × Nat)} : ∀ (pre : Recs) {a k : Nat} {s : List UInt8} {post : Recs},Laid d a (pre ++ (k,s) :: post) → d[k]? = some (a + tot pre,s.length) ∧ Laid d (a + tot pre + s.length) post
  | [],a,k,s,post,h => by simpa [tot,Laid] using h
  | (j,t) :: pre,a,k,s,post,h => by
    obtain ⟨_,h2⟩ := h
    have := laid_split pre h2
    rw [tot_cons,show a + (t.length + tot pre) = a + t.length + tot pre by omega]
    exact this
theorem laid_end {d : List (Nat × Nat)} : ∀ (x : Recs) {a : Nat},Laid d a x → a + tot x = 4096
  | [],a,h => by simpa [tot,Laid] using h
  | (k,s) :: r,a,h => by
    have := laid_end r h.2
    rw [tot_cons]; simp only; omega
theorem sorted_nodup {L : Recs} (h : L.Pairwise fun x y => x.1 < y.1) : (L.map (·.1)).Nodup := by
  rw [List.nodup_iff_pairwise_ne,List.pairwise_map]
  exact h.imp fun h => by omega
theorem one_key {L : Recs} (h : L.Pairwise fun x y => x.1 < y.1) {k : Nat} {s t : List UInt8} (h1 : (k,s) ∈ L) (h2 : (k,t) ∈ L) : s = t := by
  induction L with
  | nil => cases h1
  | cons p r ih =>
    obtain ⟨ha,hb⟩ := List.pairwise_cons.1 h
    rcases List.mem_cons.1 h1 with e1 | m1 <;> rcases List.mem_cons.1 h2 with e2 | m2
    · rw [← e1] at e2; exact (Prod.mk.inj e2).2.symm
    · have := ha _ m2; rw [← e1] at this; simp at this
    · have := ha _ m1; rw [← e2] at this; simp at this
    · exact ih hb m1 m2
theorem rising_eq : ∀ {x y : List Nat},x.Pairwise (· < ·) → y.Pairwise (· < ·) → (∀ k,k ∈ x ↔ k ∈ y) → x = y
  | [],[],_,_,_ => rfl
  | [],b :: y,_,_,h => by have := (h b).2 (.head _); cases this
  | a :: x,[],_,_,h => by have := (h a).1 (.head _); cases this
  | a :: x,b :: y,hx,hy,h => by
    obtain ⟨hx1,hx2⟩ := List.pairwise_cons.1 hx
    obtain ⟨hy1,hy2⟩ := List.pairwise_cons.1 hy
    have hab : a = b := by
      rcases List.mem_cons.1 ((h a).1 (.head _)) with e | m
      · exact e
      · rcases List.mem_cons.1 ((h b).2 (.head _)) with e | m'
        · exact e.symm
        · have := hy1 a m; have := hx1 b m'; omega
    subst hab
    congr 1
    refine rising_eq hx2 hy2 fun k => ⟨fun hk => ?_,fun hk => ?_⟩
    · rcases List.mem_cons.1 ((h k).1 (.tail _ hk)) with e | m
      · subst e; have := hx1 k hk; omega
      · exact m
    · rcases List.mem_cons.1 ((h k).2 (.tail _ hk)) with e | m
      · subst e; have := hy1 k hk; omega
      · exact m
section
variable {g : Pg} {L : Recs} {stamp : Nat}
theorem Rep.entry (h : Rep g L stamp) {k : Nat} {s : List UInt8} (hm : (k,s) ∈ L) : ∃ pre post : Recs,(pre ++ (k,s) :: post).Perm L ∧ Laid g.dir g.low (pre ++ (k,s) :: post) ∧ g.data.drop (g.low - 490) = (pre ++ (k,s) :: post).flatMap (·.2) ∧ g.dir[k]? = some (g.low + tot pre,s.length) ∧ g.low + tot pre + s.length + tot post = 4096 ∧ 496 ≤ g.low := by
  obtain ⟨ord,h1,h2,h3⟩ := h.ord
  obtain ⟨pre,post,e⟩ := List.append_of_mem (h1.mem_iff.2 hm)
  subst e
  have h4 := laid_split pre h2
  have h5 := laid_end post h4.2
  have := h.low
  have := h.small
  exact ⟨pre,post,h1,h2,h3,h4.1,h5,by omega⟩
theorem getD_of {d : List (Nat × Nat)} {k : Nat} {p : Nat × Nat} (h : d[k]? = some p) : d.getD k (0,0) = p := by rw [List.getD_eq_getElem?_getD,h]; rfl
theorem Rep.at_ (h : Rep g L stamp) {k : Nat} {s : List UInt8} (hm : (k,s) ∈ L) : 496 ≤ atOf g k ∧ lenOf g k = s.length ∧ atOf g k + lenOf g k ≤ 4096 ∧ recB g k = s := by
  obtain ⟨pre,post,h1,h2,h3,h4,h5,h6⟩ := h.entry hm
  have e := getD_of h4
  have ea : atOf g k = g.low + tot pre := by rw [atOf,e]
  have el : lenOf g k = s.length := by rw [lenOf,e]
  refine ⟨by omega,el,by omega,?_⟩
  have hb : g.bs.drop 490 = g.data := by
    have : g.bs = (g.st ++ (be g.hdr 2 ++ dirB g.dir)) ++ g.data := by simp [Pg.bs]
    rw [this]
    exact drop_left _ _ _ (by simp only [List.length_append,be_length,dirB_len,h.ok.st,h.ok.dir])
  have hlow := h.ok.low
  have : g.bs.drop (atOf g k) = (g.data.drop (g.low - 490)).drop (tot pre) := by
    have e5 : atOf g k = 490 + (g.low - 490) + tot pre := by
      rw [ea]; clear hb h4 e; omega
    rw [← hb,List.drop_drop,List.drop_drop,e5,Nat.add_assoc]
  rw [recB,this,h3,el,List.flatMap_append,List.flatMap_cons]
  rw [drop_left _ _ _ (flat_len pre)]
  exact take_left _ _ _ rfl
theorem Rep.mem_live (h : Rep g L stamp) {k : Nat} : (k < g.many ∧ 0 < atOf g k) ↔ ∃ s,(k,s) ∈ L := by
  constructor
  · rintro ⟨h1,h2⟩
    refine Classical.byContradiction fun hn => ?_
    have := h.free k h1 fun s hs => hn ⟨s,hs⟩
    rw [atOf,this] at h2; simp at h2
  · rintro ⟨s,hs⟩
    have := h.at_ hs
    exact ⟨h.below _ hs,by omega⟩
theorem Rep.live_eq (h : Rep g L stamp) : live g g.many = L.map (·.1) := by
  refine rising_eq ?_ ?_ fun k => ?_
  · exact List.pairwise_lt_range.filter _
  · rw [List.pairwise_map]; exact h.sorted
  · simp only [live,List.mem_filter,List.mem_range,decide_eq_true_eq,h.mem_live,List.mem_map]
    constructor
    · rintro ⟨s,hs⟩; exact ⟨_,hs,rfl⟩
    · rintro ⟨⟨k',s⟩,hs,rfl⟩; exact ⟨s,hs⟩
theorem Rep.total_eq (h : Rep g L stamp) : total g g.many = tot L := by
  rw [total,h.live_eq,tot,List.map_map]
  congr 1
  refine List.map_congr_left fun p hp => ?_
  exact (h.at_ (k := p.1) (s := p.2) hp).2.1
theorem Rep.fit (h : Rep g L stamp) (j : Nat) (hj : j < g.many) : atOf g j + lenOf g j ≤ 4096 := by
  by_cases hs : ∃ s,(j,s) ∈ L
  · obtain ⟨s,hs⟩ := hs; exact (h.at_ hs).2.2.1
  · have := h.free j hj fun s hm => hs ⟨s,hm⟩
    rw [atOf,lenOf,this]; simp
end
def shiftD (d : List (Nat × Nat)) (a n k : Nat) : List (Nat × Nat) := d.mapIdx fun j p => if j < k ∧ 0 < p.1 ∧ p.1 ≤ a then (p.1 + n,p.2) else p
theorem shiftD_get (d : List (Nat × Nat)) (a n k j : Nat) : (shiftD d a n k)[j]? = d[j]?.map fun p => if j < k ∧ 0 < p.1 ∧ p.1 ≤ a then (p.1 + n,p.2) else p := by
  simp [shiftD]
theorem shiftD_zero (d : List (Nat × Nat)) (a n : Nat) : shiftD d a n 0 = d := by
  apply List.ext_getElem?
  intro j
  rw [shiftD_get]
  cases d[j]? <;> simp
theorem shiftD_len (d : List (Nat × Nat)) (a n k : Nat) : (shiftD d a n k).length = d.length := by simp [shiftD]
theorem shiftD_at (d : List (Nat × Nat)) (a n k : Nat) : (shiftD d a n k).getD k (0,0) = d.getD k (0,0) := by
  simp only [List.getD_eq_getElem?_getD,shiftD_get]
  cases d[k]? <;> simp
theorem shiftD_succ (d : List (Nat × Nat)) (a n k : Nat) : shiftD d a n (k + 1) = if 0 < (d.getD k (0,0)).1 ∧ (d.getD k (0,0)).1 ≤ a then (shiftD d a n k).set k ((d.getD k (0,0)).1 + n,(d.getD k (0,0)).2) else shiftD d a n k := by
  apply List.ext_getElem?
  intro j
  by_cases hj : j = k
  · subst hj
    by_cases hl : j < d.length
    · have e : d[j]? = some d[j] := List.getElem?_eq_getElem hl
      have eD : d.getD j (0,0) = d[j] := getD_of e
      rw [eD]
      split
      · rename_i hc
        rw [List.getElem?_set_self (by rw [shiftD_len]; exact hl),shiftD_get,e]
        simp [hc.1,hc.2]
      · rename_i hc
        rw [shiftD_get,shiftD_get,e]
        simp only [Option.map_some]
        rw [if_neg (fun hh => hc hh.2),if_neg (by omega)]
    · have e : d[j]? = none := List.getElem?_eq_none (by omega)
      have eD : d.getD j (0,0) = (0,0) := by rw [List.getD_eq_getElem?_getD,e]; rfl
      rw [eD,if_neg (by simp),shiftD_get,shiftD_get,e]; rfl
  · have h1 : (shiftD d a n (k + 1))[j]? = (shiftD d a n k)[j]? := by
      rw [shiftD_get,shiftD_get]
      cases d[j]? with
      | none => rfl
      | some p =>
        simp only [Option.map_some,Option.some.injEq]
        by_cases hjk : j < k
        · simp [hjk,show j < k + 1 by omega]
        · simp [hjk,show ¬ j < k + 1 by omega]
    rw [h1]
    split
    · rw [List.getElem?_set_ne (Ne.symm hj)]
    · rfl
def trim (d : List (Nat × Nat)) : Nat → Nat
  | 0 => 0
  | m + 1 => if (d.getD m (0,0)).1 = 0 then trim d m else m + 1
theorem trim_le (d : List (Nat × Nat)) : ∀ m,trim d m ≤ m
  | 0 => Nat.le_refl _
  | m + 1 => by
    rw [trim]
    split
    · exact Nat.le_succ_of_le (trim_le d m)
    · exact Nat.le_refl _
theorem trim_last (d : List (Nat × Nat)) : ∀ m,trim d m = 0 ∨ (d.getD (trim d m - 1) (0,0)).1 ≠ 0
  | 0 => .inl rfl
  | m + 1 => by
    rw [trim]
    split
    · exact trim_last d m
    · right; simpa using ‹_›
theorem trim_above (d : List (Nat × Nat)) : ∀ m k,trim d m ≤ k → k < m → (d.getD k (0,0)).1 = 0
  | 0,k,_,h => by omega
  | m + 1,k,h1,h2 => by
    rw [trim] at h1
    split at h1
    · by_cases hk : k = m
      · subst hk; assumption
      · exact trim_above d m k h1 (by omega)
    · omega
def dropG (g : Pg) (k : Nat) : Pg :=
  let a := atOf g k
  let n := lenOf g k
  let d := (shiftD g.dir a n g.many).set k (0,0)
  { g with dir := d,low := g.low + n,many := trim d g.many,hdr := trim d g.many
           data := g.data.take (g.low - 490) ++ (List.replicate n 0 ++ ((g.data.drop (g.low - 490)).take (a - g.low) ++ g.data.drop (a + n - 490))) }
theorem Rep.drop {g : Pg} {L : Recs} {stamp : Nat} (h : Rep g L stamp) {k : Nat} {s : List UInt8} (hm : (k,s) ∈ L) : Rep (dropG g k) (L.filter fun p => p.1 != k) stamp := by
  obtain ⟨pre,post,h1,h2,h3,h4,h5,h6⟩ := h.entry hm
  have hat := h.at_ hm
  have hkm := h.below _ hm
  have e := getD_of h4
  have ea : atOf g k = g.low + tot pre := by rw [atOf,e]
  have el : lenOf g k = s.length := by rw [lenOf,e]
  have hok := h.ok
  have hdl := hok.data
  have hml := hok.many
  have hnd : ((pre ++ (k,s) :: post).map (·.1)).Nodup := (h1.map _).nodup_iff.2 (sorted_nodup h.sorted)
  have hkpre : ∀ p ∈ pre,p.1 ≠ k := by
    intro p hp he
    rw [List.map_append,List.map_cons,List.nodup_append] at hnd
    exact hnd.2.2 _ (List.mem_map_of_mem hp) _ (.head _) he
  have hkpost : ∀ p ∈ post,p.1 ≠ k := by
    intro p hp he
    rw [List.map_append,List.map_cons,List.nodup_append] at hnd
    exact (List.nodup_cons.1 hnd.2.1).1 (by show k ∈ post.map (·.1); rw [← he]; exact List.mem_map_of_mem hp)
  have hfilt : (pre ++ (k,s) :: post).filter (fun p => p.1 != k) = pre ++ post := by
    rw [List.filter_append,List.filter_cons]
    have a1 : pre.filter (fun p => p.1 != k) = pre := List.filter_eq_self.2 fun p hp => by simpa using hkpre p hp
    have a2 : post.filter (fun p => p.1 != k) = post := List.filter_eq_self.2 fun p hp => by simpa using hkpost p hp
    simp [a1,a2]
  have hperm : (pre ++ post).Perm (L.filter fun p => p.1 != k) := by rw [← hfilt]; exact h1.filter _
  have htot : tot (pre ++ (k,s) :: post) = tot L := tot_perm h1
  rw [tot_append,tot_cons] at htot
  simp only at htot
  have hlow := h.low
  have hsmall := h.small
  have hd' : ∀ j t a,(j,t) ∈ pre ++ post → g.dir[j]? = some (a,t.length) → (dropG g k).dir[j]? = some (if 0 < a ∧ a ≤ atOf g k then a + s.length else a,t.length) := by
    intro j t a hj hd
    have hjk : j ≠ k := by
      rcases List.mem_append.1 hj with hj | hj
      · exact hkpre _ hj
      · exact hkpost _ hj
    have hjm : j < g.many := h.below (j,t) (h1.mem_iff.1 (by simp only [List.mem_append,List.mem_cons] at hj ⊢; rcases hj with hj | hj <;> simp [hj]))
    show ((shiftD g.dir (atOf g k) (lenOf g k) g.many).set k (0,0))[j]? = _
    rw [List.getElem?_set_ne (Ne.symm hjk),shiftD_get,hd]
    simp only [Option.map_some,hjm,true_and,el]
    split <;> simp
  have hfree : ∀ j,j < g.many → (∀ t,(j,t) ∉ pre ++ post) → (dropG g k).dir.getD j (0,0) = (0,0) := by
    intro j hj hn
    show ((shiftD g.dir (atOf g k) (lenOf g k) g.many).set k (0,0)).getD j (0,0) = _
    rw [List.getD_eq_getElem?_getD]
    by_cases hjk : j = k
    · subst hjk
      rw [List.getElem?_set_self (by rw [shiftD_len,hok.dir]; omega)]; rfl
    · rw [List.getElem?_set_ne (Ne.symm hjk),shiftD_get]
      have := h.free j hj fun t ht => by
        rcases List.mem_append.1 (h1.mem_iff.2 ht) with h7 | h7
        · exact hn t (List.mem_append_left _ h7)
        · rcases List.mem_cons.1 h7 with h8 | h8
          · exact hjk (Prod.mk.inj h8).1
          · exact hn t (List.mem_append_right _ h8)
      rw [List.getD_eq_getElem?_getD] at this
      cases hd : g.dir[j]? with
      | none => rfl
      | some p => rw [hd] at this; simp only [Option.getD_some] at this; subst this; simp
  have hlaid : Laid (dropG g k).dir (dropG g k).low (pre ++ post) := by
    have hpo := (laid_split pre h2).2
    have hpre : ∀ (x : Recs) (a : Nat) (y : Recs),Laid g.dir a (x ++ (k,s) :: y) → (∀ p ∈ x,p ∈ pre ++ post) → 0 < a → a + tot x = atOf g k → Laid (dropG g k).dir (a + s.length + tot x) y → Laid (dropG g k).dir (a + s.length) (x ++ y) := by
      intro x
      induction x with
      | nil => intro a y _ _ _ _ hy; simpa [tot] using hy
      | cons p x ih =>
        intro a y hl hx h0 hle hy
        obtain ⟨j,t⟩ := p
        obtain ⟨hl1,hl2⟩ := hl
        rw [tot_cons] at hle hy
        simp only at hle hy
        refine ⟨?_,?_⟩
        · rw [hd' j t a (hx _ (.head _)) hl1,if_pos ⟨h0,by omega⟩]
        · rw [show a + s.length + t.length = a + t.length + s.length by omega]
          refine ih (a + t.length) y hl2 (fun q hq => hx q (.tail _ hq)) (by omega) (by omega) ?_
          rw [show a + t.length + s.length + tot x = a + s.length + (t.length + tot x) by omega]; exact hy
    have hpost : ∀ (y : Recs) (a : Nat),Laid g.dir a y → (∀ p ∈ y,p ∈ pre ++ post) → atOf g k + s.length ≤ a → Laid (dropG g k).dir a y := by
      intro y
      induction y with
      | nil => intro a hl _ _; exact hl
      | cons p y ih =>
        intro a hl hy hle
        obtain ⟨j,t⟩ := p
        obtain ⟨hl1,hl2⟩ := hl
        refine ⟨?_,ih _ hl2 (fun q hq => hy q (.tail _ hq)) (by omega)⟩
        rw [hd' j t a (hy _ (.head _)) hl1]
        split
        · rename_i hc
          have : s.length = 0 := by omega
          rw [this]; rfl
        · rfl
    have := hpre pre g.low post h2 (fun p hp => List.mem_append_left _ hp) (by omega) (by omega) (by
      rw [show g.low + s.length + tot pre = g.low + tot pre + s.length by omega]
      exact hpost post _ hpo (fun p hp => List.mem_append_right _ hp) (by omega))
    show Laid (dropG g k).dir (g.low + lenOf g k) (pre ++ post)
    rw [el]; exact this
  have hmany : (dropG g k).many = trim (dropG g k).dir g.many := rfl
  have hin : ∀ j t,(j,t) ∈ pre ++ post → j < g.many ∧ 0 < ((dropG g k).dir.getD j (0,0)).1 := by
    intro j t hj
    have hjm : (j,t) ∈ L := h1.mem_iff.1 (by simp only [List.mem_append,List.mem_cons] at hj ⊢; rcases hj with hj | hj <;> simp [hj])
    obtain ⟨_,_,_,_,_,hj4,_,_⟩ := h.entry hjm
    refine ⟨h.below _ hjm,?_⟩
    rw [getD_of (hd' j t _ hj hj4)]
    simp only
    split <;> omega
  have hpt : tot (pre ++ post) + s.length = tot L := by rw [tot_append]; omega
  have hpt2 : tot (L.filter fun p => p.1 != k) = tot (pre ++ post) := (tot_perm hperm).symm
  refine ⟨⟨hok.st,?_,?_,?_,?_,?_,?_⟩,h.st,h.stamp,rfl,h.sorted.filter _,?_,?_,?_,⟨pre ++ post,hperm,hlaid,?_⟩,by omega,?_⟩
  · have := trim_le (dropG g k).dir g.many
    show trim (dropG g k).dir g.many < 65536
    omega
  · show ((shiftD g.dir (atOf g k) (lenOf g k) g.many).set k (0,0)).length = 120
    rw [List.length_set,shiftD_len,hok.dir]
  · show (g.data.take (g.low - 490) ++ (List.replicate (lenOf g k) 0 ++ ((g.data.drop (g.low - 490)).take (atOf g k - g.low) ++ g.data.drop (atOf g k + lenOf g k - 490)))).length = 3606
    simp only [List.length_append,List.length_take,List.length_replicate,List.length_drop,hdl]
    omega
  · have := trim_le (dropG g k).dir g.many
    show trim (dropG g k).dir g.many ≤ 120
    omega
  · intro p hp
    have hp' : p ∈ (shiftD g.dir (atOf g k) (lenOf g k) g.many).set k (0,0) := hp
    rcases List.mem_or_eq_of_mem_set hp' with hp' | rfl
    · obtain ⟨j,hj⟩ := List.getElem?_of_mem hp'
      rw [shiftD_get] at hj
      cases hd : g.dir[j]? with
      | none => rw [hd] at hj; cases hj
      | some q =>
        rw [hd] at hj
        simp only [Option.map_some,Option.some.injEq] at hj
        have := hok.ent q (List.mem_of_getElem? hd)
        rw [← hj]
        split
        · simp only; omega
        · exact this
    · simp
  · show g.low + lenOf g k ≤ 4096
    omega
  · rintro ⟨j,t⟩ hp
    obtain ⟨hj1,hj2⟩ := hin j t (hperm.mem_iff.2 hp)
    rw [hmany]
    refine Classical.byContradiction fun hn => ?_
    have := trim_above (dropG g k).dir g.many j (by simp only at hn; omega) hj1
    omega
  · rw [hmany]
    rcases trim_last (dropG g k).dir g.many with h0 | h0
    · exact .inl h0
    · refine .inr ?_
      have htl := trim_le (dropG g k).dir g.many
      by_cases hz : trim (dropG g k).dir g.many = 0
      · exfalso
        apply h0
        rw [hz]
        by_cases hmz : 0 < g.many
        · exact trim_above (dropG g k).dir g.many 0 (by omega) hmz
        · omega
      refine Classical.byContradiction fun hn => h0 ?_
      rw [hfree _ (by omega) fun t ht => hn ⟨t,hperm.mem_iff.1 ht⟩]
  · intro j hj hn
    rw [hmany] at hj
    have htl := trim_le (dropG g k).dir g.many
    exact hfree j (by omega) fun t ht => hn t (hperm.mem_iff.1 ht)
  · show (g.data.take (g.low - 490) ++ (List.replicate (lenOf g k) 0 ++ ((g.data.drop (g.low - 490)).take (atOf g k - g.low) ++ g.data.drop (atOf g k + lenOf g k - 490)))).drop (g.low + lenOf g k - 490) = _
    rw [← List.append_assoc,drop_left _ _ _ (by simp only [List.length_append,List.length_take,List.length_replicate,hdl]; omega)]
    have e6 : (g.data.drop (g.low - 490)).take (atOf g k - g.low) = pre.flatMap (·.2) := by
      rw [h3,List.flatMap_append]
      exact take_left _ _ _ (by rw [flat_len]; omega)
    have e7 : g.data.drop (atOf g k + lenOf g k - 490) = post.flatMap (·.2) := by
      have : atOf g k + lenOf g k - 490 = (g.low - 490) + (tot pre + s.length) := by omega
      rw [this,← List.drop_drop,h3,List.flatMap_append,List.flatMap_cons,← List.append_assoc]
      exact drop_left _ _ _ (by rw [List.length_append,flat_len])
    rw [e6,e7,List.flatMap_append]
  · show g.low + lenOf g k + _ = 4096
    omega
end Go.Proofs.YtdeebigmpffnbaaGreat.Sl
namespace Go.Proofs.YtdeebigmpffnbaaGreat.Sl
open Go Go.Vc
theorem Pg.set_many {g : Pg} (h : g.Ok) (m : Nat) : g.cells.set 4096 (.int .i64 (m : Int)) = ({ g with many := m } : Pg).cells := by
 rw [Pg.cells,List.set_append,if_neg (by rw [bcells_length,h.len]; omega),bcells_length,h.len]; rfl
theorem Pg.set_low {g : Pg} (h : g.Ok) (m : Nat) : g.cells.set 4097 (.int .i64 (m : Int)) = ({ g with low := m } : Pg).cells := by
 rw [Pg.cells,List.set_append,if_neg (by rw [bcells_length,h.len]; omega),bcells_length,h.len]; rfl
def sl (i : Nat) : Nat := if 4096 = i then 0 else i
theorem slA_sl (b i : Nat) : slA (some ⟨b,0,none⟩) 4096 i 1 = some ⟨b,sl i,none⟩ := by
 unfold slA sl
 split
 ·rfl
 ·rw [Option.map_some,Nat.mul_one,addB]
theorem over_sl (x : List Value) (i : Nat) (cs : List Value) (h : i + x.length ≤ 4096) : over x (sl i) cs = over x i cs := by
 unfold sl
 split
 ·have : x = [] := List.eq_nil_of_length_eq_zero (by omega)
  subst this; rw [over_nil,over_nil]
 ·rfl
theorem sl_le (i : Nat) : sl i ≤ i := by unfold sl; split <;> omega
def putData (g : Pg) (i : Nat) (x : List UInt8) : Pg := { g with data := g.data.take (i - 490) ++ (x ++ g.data.drop (i - 490 + x.length)) }
theorem putData_ok {g : Pg} (h : g.Ok) {i : Nat} {x : List UInt8} (h1 : 490 ≤ i) (h2 : i + x.length ≤ 4096) : (putData g i x).Ok :=
 ⟨h.st,h.hdr,h.dir,by simp only [putData,List.length_append,List.length_take,List.length_drop,h.data]; omega,h.many,h.ent,h.low⟩
theorem over_data {g : Pg} (h : g.Ok) {i : Nat} {x : List UInt8} (h1 : 490 ≤ i) (h2 : i + x.length ≤ 4096) : over (bcells x) i g.cells = (putData g i x).cells := by
 have hd := h.data
 have e : g.data = g.data.take (i - 490) ++ ((g.data.drop (i - 490)).take x.length ++ g.data.drop (i - 490 + x.length)) := by
  rw [← List.drop_drop,List.take_append_drop,List.take_append_drop]
 obtain ⟨p,hp⟩ : ∃ p,p = g.st ++ (be g.hdr 2 ++ dirB g.dir) := ⟨_,rfl⟩
 have hpl : p.length = 490 := by rw [hp]; simp only [List.length_append,be_length,dirB_len,h.st,h.dir]
 have hb : ∀ d : List UInt8,({ g with data := d } : Pg).bs = p ++ d := fun d => by rw [hp]; simp [Pg.bs]
 have hself : g.bs = p ++ g.data := hb g.data
 have e1 : g.cells = bcells (p ++ g.data.take (i - 490)) ++ (bcells ((g.data.drop (i - 490)).take x.length) ++ (bcells (g.data.drop (i - 490 + x.length)) ++ [.int .i64 (g.many : Int),.int .i64 (g.low : Int)])) := by
  conv => lhs; rw [Pg.cells,hself,e]
  simp only [bcells_append,List.append_assoc]
 have e2 : (putData g i x).cells = bcells (p ++ g.data.take (i - 490)) ++ (bcells x ++ (bcells (g.data.drop (i - 490 + x.length)) ++ [.int .i64 (g.many : Int),.int .i64 (g.low : Int)])) := by
  show bcells ({ g with data := g.data.take (i - 490) ++ (x ++ g.data.drop (i - 490 + x.length)) } : Pg).bs ++ _ = _
  rw [hb]
  simp only [bcells_append,List.append_assoc]; rfl
 have hi : (bcells (p ++ g.data.take (i - 490))).length = i := by rw [bcells_length,List.length_append,hpl,List.length_take,hd]; omega
 rw [e1,e2]
 have key := over_app (bcells x) (bcells (p ++ g.data.take (i - 490))) (bcells ((g.data.drop (i - 490)).take x.length)) (bcells (g.data.drop (i - 490 + x.length)) ++ [.int .i64 (g.many : Int),.int .i64 (g.low : Int)]) (by rw [bcells_length,bcells_length,List.length_take,List.length_drop,hd]; omega)
 rw [hi] at key
 exact key
theorem bcells_zero (n : Nat) : List.replicate n (Value.int .u8 0) = bcells (List.replicate n 0) := by simp [bcells]
theorem zero5 : zeroOf Tryz.prog 5 = some (.int .u8 0) := by kernel_rfl
theorem pgOf {B : List Nat} {w0 w w' : World} {L : List Asn} {b : Nat} {g : Pg} (hok : g.Ok) (H : Hp B w0 w L) (e : Eqw w w') (m : pgA b g ∈ L) : PgAt w' b g := ⟨hok,(H.go e).ok _ m⟩
set_option maxHeartbeats 1000000 in
theorem nodrop_spec (b : Nat) (g : Pg) (k : Int) (hk : ¬ (0 ≤ k ∧ k < g.many ∧ 0 < atOf g k.toNat)) (w : World) (h : PgAt w b g) :
  Calls Tryz.prog 129 #[.pointer (some ⟨b,0,none⟩),.int .i64 k] w fun e w' => e = .returned (.tuple #[]) ∧ Hp [] w w' [] := by
 apply drop.ok
 unfold drop.vc
 have H := Hp.start w
 (intro _ _ hn; replace H := H.new (by exact ⟨rfl,rfl,rfl,rfl⟩) hn; clear hn)
 ((repeat apply Exists.intro); first | refine ⟨H.ld (by exact ⟨rfl,rfl,rfl,rfl⟩) (by first | exact scl3 | exact scl23) (by repeat first | exact .head _ | refine .tail _ ?_) rfl,?_⟩)
 refine callV (slot_spec b g k _ (h.chg H.chg (by simp))) ?_
 rintro e w1 ⟨rfl,H'⟩; replace H := H.ext0 H'; clear H'
 have h0 : (if 0 ≤ k ∧ k < (g.many : Int) then ((g.dir.getD k.toNat (0,0)).1 : Int) else 0) = 0 := by
  split
  ·rename_i hh
   have : ¬ 0 < atOf g k.toNat := fun h0 => hk ⟨hh.1,hh.2,h0⟩
   have h2 : (g.dir.getD k.toNat (0,0)).1 = atOf g k.toNat := rfl
   omega
  ·rfl
 rw [h0]
 refine ⟨_,_,rfl,?_⟩
 (intro _ _ hn; replace H := H.new (by exact ⟨rfl,rfl,rfl,rfl⟩) hn; clear hn)
 (intro _ _ hn; replace H := H.new (by exact ⟨rfl,rfl,rfl,rfl⟩) hn; clear hn)
 ((first | (apply Hp.st; (case H => first | exact H | exact H.pull1 | exact H.pull2 | exact H.pull3 | exact H.pull4 | exact H.pull5 | exact H.pull6 | exact H.pull7); (case e => exact ⟨rfl,rfl,rfl,rfl⟩); (case S => exact (by first | exact scl3 | exact scl23)); (case hv => exact rfl); (case h1 => exact rfl); (case ho => exact Nat.le_of_ble_eq_true rfl); (case hc => exact rfl))); clear H; intro _ H; (try simp only [over,List.set_cons_zero,List.set_cons_succ] at H))
 ((first | (apply Hp.st; (case H => first | exact H | exact H.pull1 | exact H.pull2 | exact H.pull3 | exact H.pull4 | exact H.pull5 | exact H.pull6 | exact H.pull7); (case e => exact ⟨rfl,rfl,rfl,rfl⟩); (case S => exact (by first | exact scl3 | exact scl23)); (case hv => exact rfl); (case h1 => exact rfl); (case ho => exact Nat.le_of_ble_eq_true rfl); (case hc => exact rfl))); clear H; intro _ H; (try simp only [over,List.set_cons_zero,List.set_cons_succ] at H))
 ((repeat apply Exists.intro); first | refine ⟨H.ld (by exact ⟨rfl,rfl,rfl,rfl⟩) (by first | exact scl3 | exact scl23) (by repeat first | exact .head _ | refine .tail _ ?_) rfl,?_⟩)
 exact br_dec (fun _ => ⟨rfl,H.done⟩) (fun h => absurd rfl h)
set_option maxHeartbeats 1000000 in
theorem drop_spec (b : Nat) (g : Pg) (L : Recs) (stamp : Nat) (hR : Rep g L stamp) (K : Nat) (s : List UInt8) (hK : (K,s) ∈ L) (w : World) (h : Blk w b g.cells 144) :
  Calls Tryz.prog 129 #[.pointer (some ⟨b,0,none⟩),.int .i64 (K : Int)] w fun e w' => e = .returned (.tuple #[]) ∧ Hp [b] w w' [pgA b (dropG g K)] := by
 apply drop.ok
 unfold drop.vc
 have H : Hp [b] w w [pgA b g] := Hp.start1 (a := pgA b g) h
 have hok := hR.ok
 have hml := hok.many
 have hdl := hok.data
 obtain ⟨pre,post,p1,p2,p3,p4,p5,p6⟩ := hR.entry hK
 obtain ⟨q1,q2,q3,q4⟩ := hR.at_ hK
 have hkm := hR.below _ hK
 have ea : atOf g K = g.low + tot pre := by rw [atOf,getD_of p4]
 (intro _ _ hn; replace H := H.new (by exact ⟨rfl,rfl,rfl,rfl⟩) hn; clear hn)
 ((repeat apply Exists.intro); first | refine ⟨H.ld (by exact ⟨rfl,rfl,rfl,rfl⟩) (by first | exact scl3 | exact scl23) (by repeat first | exact .head _ | refine .tail _ ?_) rfl,?_⟩)
 refine callV (slot_in b g K hkm _ ⟨hok,H.ok _ (.tail _ (.head _))⟩) ?_
 rintro e w1 ⟨rfl,H'⟩; replace H := H.ext0 H'; clear H'
 refine ⟨_,_,rfl,?_⟩
 (intro _ _ hn; replace H := H.new (by exact ⟨rfl,rfl,rfl,rfl⟩) hn; clear hn)
 (intro _ _ hn; replace H := H.new (by exact ⟨rfl,rfl,rfl,rfl⟩) hn; clear hn)
 ((first | (apply Hp.st; (case H => first | exact H | exact H.pull1 | exact H.pull2 | exact H.pull3 | exact H.pull4 | exact H.pull5 | exact H.pull6 | exact H.pull7); (case e => exact ⟨rfl,rfl,rfl,rfl⟩); (case S => exact (by first | exact scl3 | exact scl23)); (case hv => exact rfl); (case h1 => exact rfl); (case ho => exact Nat.le_of_ble_eq_true rfl); (case hc => exact rfl))); clear H; intro _ H; (try simp only [over,List.set_cons_zero,List.set_cons_succ] at H))
 ((first | (apply Hp.st; (case H => first | exact H | exact H.pull1 | exact H.pull2 | exact H.pull3 | exact H.pull4 | exact H.pull5 | exact H.pull6 | exact H.pull7); (case e => exact ⟨rfl,rfl,rfl,rfl⟩); (case S => exact (by first | exact scl3 | exact scl23)); (case hv => exact rfl); (case h1 => exact rfl); (case ho => exact Nat.le_of_ble_eq_true rfl); (case hc => exact rfl))); clear H; intro _ H; (try simp only [over,List.set_cons_zero,List.set_cons_succ] at H))
 ((repeat apply Exists.intro); first | refine ⟨H.ld (by exact ⟨rfl,rfl,rfl,rfl⟩) (by first | exact scl3 | exact scl23) (by repeat first | exact .head _ | refine .tail _ ?_) rfl,?_⟩)
 rename_i b0 _ b1 _ b2 _ _ _
 generalize hat : atOf g K = at_ at *
 generalize hln : lenOf g K = n at *
 refine br_dec (fun h0 => absurd h0 (by omega)) (fun _ => ?_)
 replace H := H.drew
 have hpl : ∀ w',Hp [b] w w' [.blk b2 [.int .i64 (n : Int)] 3,.blk b1 [.int .i64 (at_ : Int)] 3,.blk b0 [.pointer (some ⟨b,0,none⟩)] 99,pgA b g] → PgAt w' b g := fun w' H => ⟨hok,H.ok _ (.tail _ (.tail _ (.tail _ (.head _))))⟩
 ((repeat apply Exists.intro); first | refine ⟨H.ld (by exact ⟨rfl,rfl,rfl,rfl⟩) (by first | exact scl3 | exact scl23) (by repeat first | exact .head _ | refine .tail _ ?_) rfl,?_⟩)
 refine onP_mk rfl ?_
 ((repeat apply Exists.intro); first | refine ⟨H.ld (by exact ⟨rfl,rfl,rfl,rfl⟩) (by first | exact scl3 | exact scl23) (by repeat first | exact .head _ | refine .tail _ ?_) rfl,?_⟩)
 refine onP_mk rfl ⟨_,by rw [addB]; exact (hpl _ H).ldLow,?_⟩
 ((repeat apply Exists.intro); first | refine ⟨H.ld (by exact ⟨rfl,rfl,rfl,rfl⟩) (by first | exact scl3 | exact scl23) (by repeat first | exact .head _ | refine .tail _ ?_) rfl,?_⟩)
 refine ⟨inR64.2 (by omega),?_⟩
 ((repeat apply Exists.intro); first | refine ⟨H.ld (by exact ⟨rfl,rfl,rfl,rfl⟩) (by first | exact scl3 | exact scl23) (by repeat first | exact .head _ | refine .tail _ ?_) rfl,?_⟩)
 ((repeat apply Exists.intro); first | refine ⟨H.ld (by exact ⟨rfl,rfl,rfl,rfl⟩) (by first | exact scl3 | exact scl23) (by repeat first | exact .head _ | refine .tail _ ?_) rfl,?_⟩)
 have e1 : Int.toNat ((g.low : Int) + (n : Int)) = g.low + n := by omega
 have e2 : Int.toNat ((at_ : Int) + (n : Int)) = at_ + n := by omega
 have e3 : Int.toNat (g.low : Int) = g.low := by omega
 have e4 : Int.toNat (at_ : Int) = at_ := by omega
 rw [e1,e2]
 refine ⟨inR64.2 (by omega),⟨by omega,by omega,by omega⟩,?_⟩
 ((repeat apply Exists.intro); first | refine ⟨H.ld (by exact ⟨rfl,rfl,rfl,rfl⟩) (by first | exact scl3 | exact scl23) (by repeat first | exact .head _ | refine .tail _ ?_) rfl,?_⟩)
 refine onP_mk rfl ?_
 ((repeat apply Exists.intro); first | refine ⟨H.ld (by exact ⟨rfl,rfl,rfl,rfl⟩) (by first | exact scl3 | exact scl23) (by repeat first | exact .head _ | refine .tail _ ?_) rfl,?_⟩)
 refine onP_mk rfl ⟨_,by rw [addB]; exact (hpl _ H).ldLow,?_⟩
 ((repeat apply Exists.intro); first | refine ⟨H.ld (by exact ⟨rfl,rfl,rfl,rfl⟩) (by first | exact scl3 | exact scl23) (by repeat first | exact .head _ | refine .tail _ ?_) rfl,?_⟩)
 rw [e3,e4]
 refine ⟨⟨by omega,by omega,by omega⟩,?_⟩
 have hcell := (hpl _ H).cellsB g.low (at_ - g.low) (by omega)
 rw [slA_sl] at hcell
 rw [slA_sl,slA_sl]
 have hbl : ((g.bs.drop g.low).take (at_ - g.low)).length = at_ - g.low := by rw [List.length_take,List.length_drop,hok.len]; omega
 have hsl := sl_le (g.low + n)
 refine Hp.cpy H.pull3 (by exact ⟨rfl,rfl,rfl,rfl⟩) und37 scl5.size (Cells.src und37 hcell (by rw [bcells_length,hbl,Nat.mul_one]) (bcells_one _) (fun h => by cases h)) (by omega) (by rw [hok.clen]; omega) ?_
 clear H hcell
 intro w3 H
 have hd490 : g.bs.drop 490 = g.data := by
  have : g.bs = (g.st ++ (be g.hdr 2 ++ dirB g.dir)) ++ g.data := by simp [Pg.bs]
  rw [this]
  exact drop_left _ _ _ (by simp only [List.length_append,be_length,dirB_len,hok.st,hok.dir])
 have hmv : (g.bs.drop g.low).take (at_ - g.low) = (g.data.drop (g.low - 490)).take (at_ - g.low) := by
  rw [← hd490,List.drop_drop,show 490 + (g.low - 490) = g.low by omega]
 rw [over_sl _ _ _ (by rw [bcells_length,hbl]; omega),over_data hok (by omega) (by rw [hbl]; omega)] at H
 have ok1 := putData_ok hok (i := g.low + n) (x := (g.bs.drop g.low).take (at_ - g.low)) (by omega) (by rw [hbl]; omega)
 obtain ⟨g1,hg1⟩ : ∃ g1,g1 = putData g (g.low + n) ((g.bs.drop g.low).take (at_ - g.low)) := ⟨_,rfl⟩
 rw [← hg1] at H ok1
 have hdir1 : g1.dir = g.dir := by rw [hg1]; rfl
 have hmany1 : g1.many = g.many := by rw [hg1]; rfl
 have hlow1 : g1.low = g.low := by rw [hg1]; rfl
 have okS : ∀ k,({ g1 with dir := shiftD g.dir at_ n k } : Pg).Ok := fun k => ⟨ok1.st,ok1.hdr,by rw [shiftD_len]; exact hok.dir,ok1.data,ok1.many,fun p hp => by
  obtain ⟨j,hj⟩ := List.getElem?_of_mem hp
  rw [shiftD_get] at hj
  cases hd : g.dir[j]? with
  | none => rw [hd] at hj; cases hj
  | some q =>
   rw [hd] at hj
   simp only [Option.map_some,Option.some.injEq] at hj
   have := hok.ent q (List.mem_of_getElem? hd)
   rw [← hj]
   split
   ·simp only; omega
   ·exact this,ok1.low⟩
 have hatS : ∀ k,atOf { g1 with dir := shiftD g.dir at_ n k } k = atOf g k ∧ lenOf { g1 with dir := shiftD g.dir at_ n k } k = lenOf g k := fun k => by
  refine ⟨?_,?_⟩
  ·show ((shiftD g.dir at_ n k).getD k (0,0)).1 = _
   rw [shiftD_at]; rfl
  ·show ((shiftD g.dir at_ n k).getD k (0,0)).2 = _
   rw [shiftD_at]; rfl
 have H : Hp [b] w w3 [pgA b { g1 with dir := shiftD g.dir at_ n 0 },.blk b2 [.int .i64 (n : Int)] 3,.blk b1 [.int .i64 (at_ : Int)] 3,.blk b0 [.pointer (some ⟨b,0,none⟩)] 99] := by
  rw [shiftD_zero,← hdir1]; exact H
 replace H := H.pull3
 ((repeat apply Exists.intro); first | refine ⟨H.ld (by exact ⟨rfl,rfl,rfl,rfl⟩) (by first | exact scl3 | exact scl23) (by repeat first | exact .head _ | refine .tail _ ?_) rfl,?_⟩)
 refine ⟨_,_,_,rfl,⟨_,_,Tryz.func76,rfl⟩,?_⟩
 refine range_each b g.many (fun k (_ : Unit) => { g1 with dir := shiftD g.dir at_ n k }) (fun k (_ : Unit) => [pgA b { g1 with dir := shiftD g.dir at_ n k },.blk b2 [.int .i64 (n : Int)] 3,.blk b1 [.int .i64 (at_ : Int)] 3,.blk b0 [.pointer (some ⟨b,0,none⟩)] 99]) (fun _ _ => True) (fun _ : Unit => []) (fun _ => False) () trivial (by ((try dsimp only [List.cons_append,List.nil_append]); (try dsimp only [List.cons_append,List.nil_append] at H); refine Hp.perm H ?_; (repeat (apply perm_step; (focus first | exact perm_p0 | exact perm_p1 | exact perm_p2 | exact perm_p3 | exact perm_p4 | exact perm_p5 | exact perm_p6 | exact perm_p7 | exact perm_p8 | exact perm_p9))); exact List.Perm.refl _))
  (fun k x w' T _ H => ⟨⟨okS k,H.ok _ (.head _)⟩,hmany1⟩) (fun k x hk _ h0 => ⟨x,trivial,by
   rw [(hatS k).1] at h0
   have h0' : (g.dir.getD k (0,0)).1 = 0 := h0
   rw [shiftD_succ,if_neg (by omega)]⟩) ?_ ?_ (fun y D w' hs _ => hs.elim)
 ·clear H
  intro k x hk _ h0 w' T0 T1 begin kn kr kx _ hbeg hkn _
  refine hbeg _ fun w2 H => ?_
  simp only [List.cons_append,List.nil_append] at H
  replace H := H.pull3
  ((repeat apply Exists.intro); first | refine ⟨H.ld (by exact ⟨rfl,rfl,rfl,rfl⟩) (by first | exact scl3 | exact scl23) (by repeat first | exact .head _ | refine .tail _ ?_) rfl,?_⟩)
  replace H := H.pull1
  have hA := pgOf (okS k) H (by exact ⟨rfl,rfl,rfl,rfl⟩) (by repeat first | exact .head _ | refine .tail _ ?_)
  refine callV (slot_in b _ k (by show k < g1.many; rw [hmany1]; exact hk) _ hA) ?_
  rintro e w4 ⟨rfl,H'⟩; replace H := H.ext0 H'; clear H'
  rw [(hatS k).1,(hatS k).2]
  rw [(hatS k).1] at h0
  have hb := hok.atB k
  refine ⟨_,_,rfl,?_⟩
  replace H := H.pull3
  ((repeat apply Exists.intro); first | refine ⟨H.ld (by exact ⟨rfl,rfl,rfl,rfl⟩) (by first | exact scl3 | exact scl23) (by repeat first | exact .head _ | refine .tail _ ?_) rfl,?_⟩)
  have key := shiftD_succ g.dir at_ n k
  refine br_dec (fun hle => ?_) (fun hle => ?_)
  ·((repeat apply Exists.intro); first | refine ⟨H.ld (by exact ⟨rfl,rfl,rfl,rfl⟩) (by first | exact scl3 | exact scl23) (by repeat first | exact .head _ | refine .tail _ ?_) rfl,?_⟩)
   ((repeat apply Exists.intro); first | refine ⟨H.ld (by exact ⟨rfl,rfl,rfl,rfl⟩) (by first | exact scl3 | exact scl23) (by repeat first | exact .head _ | refine .tail _ ?_) rfl,?_⟩)
   refine ⟨inR64.2 (by omega),?_⟩
   have e5 : (atOf g k : Int) + (n : Int) = ((atOf g k + n : Nat) : Int) := by omega
   rw [e5]
   replace H : Hp [b] w w4 (pgA b { g1 with dir := shiftD g.dir at_ n k } :: .blk b2 [.int .i64 (n : Int)] 3 :: .blk b1 [.int .i64 (at_ : Int)] 3 :: .blk b0 [.pointer (some ⟨b,0,none⟩)] 99 :: T1) := by ((try dsimp only [List.cons_append,List.nil_append]); (try dsimp only [List.cons_append,List.nil_append] at H); refine Hp.perm H ?_; (repeat (apply perm_step; (focus first | exact perm_p0 | exact perm_p1 | exact perm_p2 | exact perm_p3 | exact perm_p4 | exact perm_p5 | exact perm_p6 | exact perm_p7 | exact perm_p8 | exact perm_p9))); exact List.Perm.refl _)
   refine callV (set_spec b _ k (atOf g k + n) (lenOf g k) (by omega) (by omega) (by omega) _ (pgOf (okS k) H (by exact ⟨rfl,rfl,rfl,rfl⟩) (by repeat first | exact .head _ | refine .tail _ ?_))) ?_
   rintro e w5 ⟨rfl,_,H'⟩; replace H := Hp.use11 (a := pgA b _) H H'; clear H'
   have hs : setD { g1 with dir := shiftD g.dir at_ n k } k (atOf g k + n) (lenOf g k) = { g1 with dir := shiftD g.dir at_ n (k + 1) } := by
    rw [key,if_pos ⟨h0,by show atOf g k ≤ at_; omega⟩]; rfl
   rw [hs] at H
   exact ⟨rfl,hkn _ () trivial (by ((try dsimp only [List.cons_append,List.nil_append]); (try dsimp only [List.cons_append,List.nil_append] at H); refine Hp.perm H ?_; (repeat (apply perm_step; (focus first | exact perm_p0 | exact perm_p1 | exact perm_p2 | exact perm_p3 | exact perm_p4 | exact perm_p5 | exact perm_p6 | exact perm_p7 | exact perm_p8 | exact perm_p9))); exact List.Perm.refl _))⟩
  ·refine hkn _ () trivial ?_
   have hs : shiftD g.dir at_ n (k + 1) = shiftD g.dir at_ n k := by rw [key,if_neg (fun hh => hle (by have h9 : atOf g k ≤ at_ := hh.2; omega))]
   rw [hs]
   ((try dsimp only [List.cons_append,List.nil_append]); (try dsimp only [List.cons_append,List.nil_append] at H); refine Hp.perm H ?_; (repeat (apply perm_step; (focus first | exact perm_p0 | exact perm_p1 | exact perm_p2 | exact perm_p3 | exact perm_p4 | exact perm_p5 | exact perm_p6 | exact perm_p7 | exact perm_p8 | exact perm_p9))); exact List.Perm.refl _)
 ·clear H
  intro x D w' _ H
  simp only [List.cons_append,List.nil_append] at H
  obtain ⟨gS,hgS⟩ : ∃ gS : Pg,gS = { g1 with dir := shiftD g.dir at_ n g.many } := ⟨_,rfl⟩
  have okg : gS.Ok := by rw [hgS]; exact okS _
  rw [← hgS] at H
  have hlowS : gS.low = g.low := by rw [hgS]; exact hlow1
  have hmanyS : gS.many = g.many := by rw [hgS]; exact hmany1
  ((repeat apply Exists.intro); first | refine ⟨H.ld (by exact ⟨rfl,rfl,rfl,rfl⟩) (by first | exact scl3 | exact scl23) (by repeat first | exact .head _ | refine .tail _ ?_) rfl,?_⟩)
  refine onP_mk rfl ?_
  ((repeat apply Exists.intro); first | refine ⟨H.ld (by exact ⟨rfl,rfl,rfl,rfl⟩) (by first | exact scl3 | exact scl23) (by repeat first | exact .head _ | refine .tail _ ?_) rfl,?_⟩)
  refine onP_mk rfl ⟨_,by rw [addB]; exact (pgOf okg H (by exact ⟨rfl,rfl,rfl,rfl⟩) (by repeat first | exact .head _ | refine .tail _ ?_)).ldLow,?_⟩
  ((repeat apply Exists.intro); first | refine ⟨H.ld (by exact ⟨rfl,rfl,rfl,rfl⟩) (by first | exact scl3 | exact scl23) (by repeat first | exact .head _ | refine .tail _ ?_) rfl,?_⟩)
  refine onP_mk rfl ⟨_,by rw [addB]; exact (pgOf okg H (by exact ⟨rfl,rfl,rfl,rfl⟩) (by repeat first | exact .head _ | refine .tail _ ?_)).ldLow,?_⟩
  ((repeat apply Exists.intro); first | refine ⟨H.ld (by exact ⟨rfl,rfl,rfl,rfl⟩) (by first | exact scl3 | exact scl23) (by repeat first | exact .head _ | refine .tail _ ?_) rfl,?_⟩)
  rw [hlowS,e1,e3]
  refine ⟨inR64.2 (by omega),⟨by omega,by omega,by omega⟩,?_⟩
  rw [slA_sl,show g.low + n - g.low = n by omega]
  refine Hp.clr (e := 5) H (by exact ⟨rfl,rfl,rfl,rfl⟩) und37 zero5 rfl rfl (by rw [okg.clen]; have := sl_le g.low; omega) ?_
  clear H
  intro w4 H
  rw [over_sl _ _ _ (by rw [List.length_replicate]; omega),bcells_zero,over_data okg (by omega) (by rw [List.length_replicate]; omega)] at H
  have okc := putData_ok okg (i := g.low) (x := List.replicate n 0) (by omega) (by rw [List.length_replicate]; omega)
  obtain ⟨gC,hgC⟩ : ∃ gC : Pg,gC = putData gS g.low (List.replicate n 0) := ⟨_,rfl⟩
  rw [← hgC] at H okc
  have hlowC : gC.low = g.low := by rw [hgC]; exact hlowS
  have hmanyC : gC.many = g.many := by rw [hgC]; exact hmanyS
  replace H : Hp [b] w w4 [.blk b gC.cells 144,.blk b2 [.int .i64 (n : Int)] 3,.blk b1 [.int .i64 (at_ : Int)] 3,.blk b0 [.pointer (some ⟨b,0,none⟩)] 99,objA D (.deferred (some []))] := by ((try dsimp only [List.cons_append,List.nil_append]); (try dsimp only [List.cons_append,List.nil_append] at H); refine Hp.perm H ?_; (repeat (apply perm_step; (focus first | exact perm_p0 | exact perm_p1 | exact perm_p2 | exact perm_p3 | exact perm_p4 | exact perm_p5 | exact perm_p6 | exact perm_p7 | exact perm_p8 | exact perm_p9))); exact List.Perm.refl _)
  ((repeat apply Exists.intro); first | refine ⟨H.ld (by exact ⟨rfl,rfl,rfl,rfl⟩) (by first | exact scl3 | exact scl23) (by repeat first | exact .head _ | refine .tail _ ?_) rfl,?_⟩)
  refine onP_mk rfl ⟨_,by rw [addB]; exact (pgOf okc H (by exact ⟨rfl,rfl,rfl,rfl⟩) (.head _)).ldLow,?_⟩
  ((repeat apply Exists.intro); first | refine ⟨H.ld (by exact ⟨rfl,rfl,rfl,rfl⟩) (by first | exact scl3 | exact scl23) (by repeat first | exact .head _ | refine .tail _ ?_) rfl,?_⟩)
  rw [hlowC]
  refine ⟨inR64.2 (by omega),onP_mk rfl ?_⟩
  have e6 : (g.low : Int) + (n : Int) = ((g.low + n : Nat) : Int) := by omega
  rw [addB,e6]
  refine Hp.st H (by exact ⟨rfl,rfl,rfl,rfl⟩) scl3 rfl rfl (by rw [okc.clen]; omega) (Pg.set_low okc _) ?_
  clear H
  intro w5 H
  have okl : ({ gC with low := g.low + n } : Pg).Ok := ⟨okc.st,okc.hdr,okc.dir,okc.data,okc.many,okc.ent,by show g.low + n ≤ 4096; omega⟩
  ((repeat apply Exists.intro); first | refine ⟨H.ld (by exact ⟨rfl,rfl,rfl,rfl⟩) (by first | exact scl3 | exact scl23) (by repeat first | exact .head _ | refine .tail _ ?_) rfl,?_⟩)
  refine callV (set_spec b _ K 0 0 (by omega) (by omega) (by omega) _ (pgOf okl H (by exact ⟨rfl,rfl,rfl,rfl⟩) (.head _))) ?_
  rintro e w6 ⟨rfl,okk,H'⟩; replace H := Hp.use11 (a := pgA b _) H H'; clear H'
  refine ⟨rfl,?_⟩
  obtain ⟨gK,hgK⟩ : ∃ gK : Pg,gK = setD { gC with low := g.low + n } K 0 0 := ⟨_,rfl⟩
  rw [← hgK] at H okk
  have hmanyK : gK.many = g.many := by rw [hgK]; exact hmanyC
  have okM : ∀ m,m ≤ g.many → ({ gK with many := m } : Pg).Ok := fun m hm => ⟨okk.st,okk.hdr,okk.dir,okk.data,by show m ≤ 120; omega,okk.ent,okk.low⟩
  have hfin : { gK with many := trim gK.dir g.many,hdr := trim gK.dir g.many } = dropG g K := by
   have hD : gK.dir = (shiftD g.dir at_ n g.many).set K (0,0) := by rw [hgK,hgC,hgS]; rfl
   have hdat : gK.data = g.data.take (g.low - 490) ++ (List.replicate n 0 ++ ((g.data.drop (g.low - 490)).take (at_ - g.low) ++ g.data.drop (at_ + n - 490))) := by
    have a1 : gK.data = gS.data.take (g.low - 490) ++ (List.replicate n 0 ++ gS.data.drop (g.low - 490 + n)) := by rw [hgK,hgC]; simp [setD,putData]
    have a2 : gS.data = g.data.take (g.low + n - 490) ++ ((g.data.drop (g.low - 490)).take (at_ - g.low) ++ g.data.drop (at_ + n - 490)) := by
     rw [hgS,hg1,hmv]
     show g.data.take (g.low + n - 490) ++ ((g.data.drop (g.low - 490)).take (at_ - g.low) ++ g.data.drop (g.low + n - 490 + ((g.data.drop (g.low - 490)).take (at_ - g.low)).length)) = _
     congr 3
     rw [← hmv,hbl]; omega
    rw [a1,a2]
    congr 1
    ·rw [List.take_append_of_le_length (by rw [List.length_take,hdl]; omega),List.take_take]; congr 1; omega
    ·congr 1
     exact drop_left _ _ _ (by rw [List.length_take,hdl]; omega)
   have hst : gK.st = g.st := by rw [hgK,hgC,hgS,hg1]; rfl
   have hlw : gK.low = g.low + n := by rw [hgK]; rfl
   unfold dropG
   simp only [hat,hln]
   rw [hD,hdat,hst,hlw]
  refine LoopP.mk (fun mm s w' => mm ≤ g.many ∧ trim gK.dir mm = trim gK.dir g.many ∧ Hp [b] w w' [.blk b ({ gK with many := mm } : Pg).cells 144,.blk b2 [.int .i64 (n : Int)] 3,.blk b1 [.int .i64 (at_ : Int)] 3,.blk b0 [.pointer (some ⟨b,0,none⟩)] 99,objA D (.deferred (some []))]) g.many ⟨Nat.le_refl _,rfl,by rw [← hmanyK]; exact H⟩ ?_
  clear H
  rintro m s w7 next ⟨hm,htr,H⟩ hnext
  have fin : ∀ w7,m ≤ g.many → trim gK.dir m = m → trim gK.dir m = trim gK.dir g.many → Hp [b] w w7 [.blk b ({ gK with many := m } : Pg).cells 144,.blk b2 [.int .i64 (n : Int)] 3,.blk b1 [.int .i64 (at_ : Int)] 3,.blk b0 [.pointer (some ⟨b,0,none⟩)] 99,objA D (.deferred (some []))] →
    CallV Tryz.prog 132 [.pointer (some ⟨b,0,none⟩),.int .i64 8,.int .i64 (m : Int)] w7 fun e w' => e = .returned (.tuple #[]) ∧ ∃ w1,ShutD w' D w1 ∧ (fun e w' => e = Ending.returned (.tuple #[]) ∧ Hp [b] w w' [pgA b (dropG g K)]) (.returned (.tuple #[])) w1 := by
   clear hnext H
   intro w7 hm h1 h2 H
   have hb : ∀ k,({ gK with many := m,hdr := k } : Pg).bs = gK.st ++ (be (k : Int) 2 ++ (dirB gK.dir ++ gK.data)) := fun k => rfl
   refine callV (lay_spec b { gK with many := m } { gK with many := m,hdr := m } gK.st (be gK.hdr 2) (dirB gK.dir ++ gK.data) 8 m (be_length _ 2) okk.st (by omega) rfl (hb m) rfl rfl _ (pgOf (okM m hm) H (by exact ⟨rfl,rfl,rfl,rfl⟩) (.head _))) ?_
   rintro e w8 ⟨rfl,H'⟩; replace H := Hp.use11 (a := pgA b _) H H'; clear H'
   refine ⟨rfl,Hp.shut H.pull4 fun w9 H => ⟨rfl,?_⟩⟩
   rw [← hfin,← h2,h1]
   exact H.done1
  ((repeat apply Exists.intro); first | refine ⟨H.ld (by exact ⟨rfl,rfl,rfl,rfl⟩) (by first | exact scl3 | exact scl23) (by repeat first | exact .head _ | refine .tail _ ?_) rfl,?_⟩)
  refine onP_mk rfl ⟨_,by rw [addB]; exact (pgOf (okM m hm) H (by exact ⟨rfl,rfl,rfl,rfl⟩) (.head _)).ldMany,?_⟩
  refine br_dec (fun h0 => ?_) (fun h0 => ?_)
  ·obtain ⟨m,rfl⟩ : ∃ m',m = m' + 1 := ⟨m - 1,by have : (0 : Int) < ((m : Nat) : Int) := h0; omega⟩
   ((repeat apply Exists.intro); first | refine ⟨H.ld (by exact ⟨rfl,rfl,rfl,rfl⟩) (by first | exact scl3 | exact scl23) (by repeat first | exact .head _ | refine .tail _ ?_) rfl,?_⟩)
   ((repeat apply Exists.intro); first | refine ⟨H.ld (by exact ⟨rfl,rfl,rfl,rfl⟩) (by first | exact scl3 | exact scl23) (by repeat first | exact .head _ | refine .tail _ ?_) rfl,?_⟩)
   refine onP_mk rfl ⟨_,by rw [addB]; exact (pgOf (okM _ hm) H (by exact ⟨rfl,rfl,rfl,rfl⟩) (.head _)).ldMany,?_⟩
   have e7 : (((m + 1 : Nat) : Int)) - 1 = (m : Int) := by omega
   have e8 : (10 : Int) + 4 * (m : Int) = ((10 + 4 * m : Nat) : Int) := by omega
   show inR .i64 (((m + 1 : Nat) : Int) - 1) ∧ inR .i64 (4 * (((m + 1 : Nat) : Int) - 1)) ∧ inR .i64 (10 + 4 * (((m + 1 : Nat) : Int) - 1)) ∧ CallV Tryz.prog 117 [_,.int .i64 (10 + 4 * (((m + 1 : Nat) : Int) - 1))] _ _
   rw [e7,e8]
   refine ⟨inR64.2 (by omega),inR64.2 (by omega),inR64.2 (by omega),?_⟩
   refine callV (two_spec b _ _ (by omega) _ (pgOf (okM _ hm) H (by exact ⟨rfl,rfl,rfl,rfl⟩) (.head _))) ?_
   rintro e w8 ⟨rfl,H'⟩; replace H := H.drew.ext0 H'; clear H'
   refine ⟨_,rfl,?_⟩
   have hmd : m < gK.dir.length := by rw [okk.dir]; omega
   rw [Pg.Ok.ent1 (okM _ hm) (by omega)]
   have hgd : gK.dir.getD m (0,0) = gK.dir[m] := by rw [List.getD_eq_getElem?_getD,List.getElem?_eq_getElem hmd]; rfl
   refine br_dec (fun hz => ?_) (fun hz => ?_)
   ·have hz' : (gK.dir[m]).1 = 0 := by have : ((gK.dir[m]).1 : Int) = 0 := hz; omega
    ((repeat apply Exists.intro); first | refine ⟨H.ld (by exact ⟨rfl,rfl,rfl,rfl⟩) (by first | exact scl3 | exact scl23) (by repeat first | exact .head _ | refine .tail _ ?_) rfl,?_⟩)
    refine onP_mk rfl ⟨_,by rw [addB]; exact (pgOf (okM _ hm) H (by exact ⟨rfl,rfl,rfl,rfl⟩) (.head _)).ldMany,?_⟩
    show inR .i64 (((m + 1 : Nat) : Int) - 1) ∧ onP _ fun a => ∃ w1,St Tryz.prog 3 _ (Addr.add a 4096) (.int .i64 (((m + 1 : Nat) : Int) - 1)) w1 ∧ _
    rw [e7]
    refine ⟨inR64.2 (by omega),onP_mk rfl ?_⟩
    rw [addB]
    refine Hp.st H (by exact ⟨rfl,rfl,rfl,rfl⟩) scl3 rfl rfl (by rw [(okM _ hm).clen]; omega) (Pg.set_many (okM _ hm) _) ?_
    clear H
    intro w9 H
    refine hnext m _ _ (by omega) ⟨by omega,?_,H⟩
    rw [← htr,trim,hgd,if_pos hz']
   ·have hz' : ¬ (gK.dir[m]).1 = 0 := fun h => hz (by rw [h]; rfl)
    ((repeat apply Exists.intro); first | refine ⟨H.ld (by exact ⟨rfl,rfl,rfl,rfl⟩) (by first | exact scl3 | exact scl23) (by repeat first | exact .head _ | refine .tail _ ?_) rfl,?_⟩)
    ((repeat apply Exists.intro); first | refine ⟨H.ld (by exact ⟨rfl,rfl,rfl,rfl⟩) (by first | exact scl3 | exact scl23) (by repeat first | exact .head _ | refine .tail _ ?_) rfl,?_⟩)
    refine onP_mk rfl ⟨_,by rw [addB]; exact (pgOf (okM _ hm) H (by exact ⟨rfl,rfl,rfl,rfl⟩) (.head _)).ldMany,?_⟩
    exact fin _ hm (by rw [trim,hgd,if_neg hz']) htr H.drew
  ·have hm0 : m = 0 := by have : ¬ (0 : Int) < (m : Int) := h0; omega
   ((repeat apply Exists.intro); first | refine ⟨H.ld (by exact ⟨rfl,rfl,rfl,rfl⟩) (by first | exact scl3 | exact scl23) (by repeat first | exact .head _ | refine .tail _ ?_) rfl,?_⟩)
   ((repeat apply Exists.intro); first | refine ⟨H.ld (by exact ⟨rfl,rfl,rfl,rfl⟩) (by first | exact scl3 | exact scl23) (by repeat first | exact .head _ | refine .tail _ ?_) rfl,?_⟩)
   refine onP_mk rfl ⟨_,by rw [addB]; exact (pgOf (okM m hm) H (by exact ⟨rfl,rfl,rfl,rfl⟩) (.head _)).ldMany,?_⟩
   exact fin _ hm (by rw [hm0]; rfl) htr H.drew.drew
end Go.Proofs.YtdeebigmpffnbaaGreat.Sl
namespace Go.Proofs.YtdeebigmpffnbaaGreat.Sl
open Go Go.Vc
def insR (x : Nat × List UInt8) : Recs → Recs
  | [] => [x]
  | p :: r => if x.1 < p.1 then x :: p :: r else p :: insR x r
theorem insR_perm (x : Nat × List UInt8) : ∀ L : Recs,(insR x L).Perm (x :: L)
  | [] => .refl _
  | p :: r => by
    rw [insR]
    split
    · exact .refl _
    · exact ((insR_perm x r).cons p).trans (.swap x p r)
theorem insR_mem (x y : Nat × List UInt8) (L : Recs) : y ∈ insR x L ↔ y = x ∨ y ∈ L := by rw [(insR_perm x L).mem_iff,List.mem_cons]
theorem insR_sorted (x : Nat × List UInt8) : ∀ L : Recs,L.Pairwise (fun a b => a.1 < b.1) → (∀ p ∈ L,p.1 ≠ x.1) → (insR x L).Pairwise fun a b => a.1 < b.1
  | [],_,_ => by simp [insR]
  | p :: r,h,hn => by
    obtain ⟨h1,h2⟩ := List.pairwise_cons.1 h
    rw [insR]
    split
    · rename_i hlt
      refine List.pairwise_cons.2 ⟨fun q hq => ?_,h⟩
      rcases List.mem_cons.1 hq with rfl | hq
      · exact hlt
      · have := h1 q hq; omega
    · rename_i hlt
      refine List.pairwise_cons.2 ⟨fun q hq => ?_,insR_sorted x r h2 fun q hq => hn q (.tail _ hq)⟩
      rcases (insR_mem _ _ _).1 hq with rfl | hq
      · have := hn p (.head _); omega
      · exact h1 q hq
def wo (L : Recs) (k : Nat) : Recs := L.filter fun p => p.1 != k
theorem wo_none {L : Recs} {k : Nat} (h : ∀ s,(k,s) ∉ L) : wo L k = L := by
  refine List.filter_eq_self.2 fun p hp => ?_
  have : p.1 ≠ k := fun e => h p.2 (by rw [← e]; exact hp)
  simpa using this
theorem wo_mem {L : Recs} {k : Nat} {p : Nat × List UInt8} : p ∈ wo L k ↔ p ∈ L ∧ p.1 ≠ k := by simp [wo]
theorem wo_tot {L : Recs} (hs : L.Pairwise fun a b => a.1 < b.1) {k : Nat} {s : List UInt8} (h : (k,s) ∈ L) : tot (wo L k) + s.length = tot L := by
  induction L with
  | nil => cases h
  | cons p r ih =>
    obtain ⟨h1,h2⟩ := List.pairwise_cons.1 hs
    by_cases hk : p.1 = k
    · have hp : p = (k,s) := by
        rcases List.mem_cons.1 h with e | m
        · exact e.symm
        · have := h1 _ m; simp only at this; omega
      have hr : wo r k = r := wo_none fun t ht => by have := h1 _ ht; simp only at this; omega
      have e : wo (p :: r) k = r := by
        show List.filter _ (p :: r) = r
        rw [List.filter_cons,if_neg (by simp [hk])]; exact hr
      rw [e,tot_cons,hp]; simp only; omega
    · have hm : (k,s) ∈ r := by
        rcases List.mem_cons.1 h with e | m
        · exact absurd (by rw [← e]) hk
        · exact m
      have e : wo (p :: r) k = p :: wo r k := by
        show List.filter _ (p :: r) = _
        rw [List.filter_cons,if_pos (by simp [hk])]; rfl
      rw [e,tot_cons,tot_cons]
      have := ih h2 hm
      omega
theorem drop_any (b : Nat) (g : Pg) (L : Recs) (stamp : Nat) (hR : Rep g L stamp) (K : Nat) (w : World) (h : Blk w b g.cells 144) :
    Calls Tryz.prog 129 #[.pointer (some ⟨b,0,none⟩),.int .i64 (K : Int)] w fun e w' => e = .returned (.tuple #[]) ∧ ∃ g',Rep g' (wo L K) stamp ∧ Hp [b] w w' [pgA b g'] := by
  by_cases hk : ∃ s,(K,s) ∈ L
  · obtain ⟨s,hs⟩ := hk
    exact Calls.mono (drop_spec b g L stamp hR K s hs w h) fun e w' hh => ⟨hh.1,_,hR.drop hs,hh.2⟩
  · refine Calls.mono (nodrop_spec b g (K : Int) (fun hh => hk (hR.mem_live.1 ⟨by omega,by have := hh.2.2; rwa [Int.toNat_natCast] at this⟩)) w ⟨hR.ok,h⟩) fun e w' hh => ⟨hh.1,g,?_,?_⟩
    · rw [wo_none fun s hs => hk ⟨s,hs⟩]; exact hR
    · have H : Hp [b] w w [pgA b g] := Hp.start1 (a := pgA b g) h
      exact H.ext0 hh.2
def extD (d : List (Nat × Nat)) (a n : Nat) : List (Nat × Nat) := d.mapIdx fun j p => if a ≤ j ∧ j < n then (0,0) else p
theorem extD_get (d : List (Nat × Nat)) (a n j : Nat) : (extD d a n)[j]? = d[j]?.map fun p => if a ≤ j ∧ j < n then (0,0) else p := by
  simp [extD]
theorem extD_len (d : List (Nat × Nat)) (a n : Nat) : (extD d a n).length = d.length := by simp [extD]
theorem extD_self (d : List (Nat × Nat)) (a : Nat) : extD d a a = d := by
  apply List.ext_getElem?
  intro j
  rw [extD_get]
  cases d[j]? with
  | none => rfl
  | some p => rw [Option.map_some,if_neg (by omega)]
theorem extD_succ (d : List (Nat × Nat)) (a m : Nat) (h : a ≤ m) : (extD d a m).set m (0,0) = extD d a (m + 1) := by
  apply List.ext_getElem?
  intro j
  by_cases hj : m = j
  · subst hj
    rw [extD_get]
    cases hd : d[m]? with
    | none => rw [List.getElem?_eq_none]; · rfl
              rw [List.length_set,extD_len]; exact List.getElem?_eq_none_iff.1 hd
    | some p =>
      rw [List.getElem?_set_self (by rw [extD_len]; exact (List.getElem?_eq_some_iff.1 hd).1),Option.map_some,if_pos ⟨h,by omega⟩]
  · rw [List.getElem?_set_ne hj,extD_get,extD_get]
    cases d[j]? with
    | none => rfl
    | some p =>
      rw [Option.map_some,Option.map_some]
      congr 1
      by_cases hc : a ≤ j ∧ j < m
      · rw [if_pos hc,if_pos ⟨hc.1,by omega⟩]
      · rw [if_neg hc,if_neg (by omega)]
def extG (g : Pg) (m : Nat) : Pg := { g with dir := extD g.dir g.many m,many := m }
theorem extG_ok {g : Pg} (h : g.Ok) {m : Nat} (hm : m ≤ 120) : (extG g m).Ok := ⟨h.st,h.hdr,by show (extD _ _ _).length = 120; rw [extD_len,h.dir],h.data,hm,fun p hp => by
    obtain ⟨j,hj⟩ := List.getElem?_of_mem hp
    have hj : (extD g.dir g.many m)[j]? = some p := hj
    rw [extD_get] at hj
    cases hd : g.dir[j]? with
    | none => rw [hd] at hj; cases hj
    | some q =>
      rw [hd] at hj
      simp only [Option.map_some,Option.some.injEq] at hj
      have := h.ent q (List.mem_of_getElem? hd)
      rw [← hj]
      split
      · simp
      · exact this,h.low⟩
def putG (g : Pg) (k : Nat) (s : List UInt8) : Pg :=
  let m := max g.many (k + 1)
  { g with dir := (extD g.dir g.many m).set k (g.low - s.length,s.length),many := m,hdr := m,low := g.low - s.length
           data := g.data.take (g.low - s.length - 490) ++ (s ++ g.data.drop (g.low - s.length - 490 + s.length)) }
theorem Rep.put {g : Pg} {L : Recs} {stamp : Nat} (h : Rep g L stamp) {k : Nat} {s : List UInt8} (hk : k < 120) (hn : ∀ t,(k,t) ∉ L) (hs : tot L + s.length ≤ 3600) : Rep (putG g k s) (insR (k,s) L) stamp := by
  obtain ⟨ord,o1,o2,o3⟩ := h.ord
  have hok := h.ok
  have hlow := h.low
  have hdl := hok.data
  have hml := hok.many
  have hp := insR_perm (k,s) L
  have htot : tot (insR (k,s) L) = s.length + tot L := by rw [tot_perm hp,tot_cons]
  have hmax : g.many ≤ max g.many (k + 1) ∧ k + 1 ≤ max g.many (k + 1) ∧ (max g.many (k + 1) = g.many ∨ max g.many (k + 1) = k + 1) := by omega
  obtain ⟨m,hm⟩ : ∃ m,m = max g.many (k + 1) := ⟨_,rfl⟩
  rw [← hm] at hmax
  have em : (putG g k s).many = m := hm.symm
  have ed : (putG g k s).dir = (extD g.dir g.many m).set k (g.low - s.length,s.length) := by rw [hm]; rfl
  have hdk : (putG g k s).dir[k]? = some (g.low - s.length,s.length) := by
    rw [ed,List.getElem?_set_self (by rw [extD_len,hok.dir]; exact hk)]
  have hdj : ∀ j,j ≠ k → j < g.many → (putG g k s).dir[j]? = g.dir[j]? := by
    intro j hj hjm
    rw [ed,List.getElem?_set_ne (Ne.symm hj),extD_get]
    cases g.dir[j]? with
    | none => rfl
    | some p => rw [Option.map_some,if_neg (by omega)]
  have okp : (putG g k s).Ok := by
    have e1 := extG_ok hok (m := m) (by omega)
    have e2 := e1.ent
    refine ⟨hok.st,by show max g.many (k + 1) < 65536; omega,?_,?_,by rw [em]; omega,?_,by show g.low - s.length ≤ 4096; omega⟩
    · rw [ed,List.length_set,extD_len,hok.dir]
    · show (g.data.take (g.low - s.length - 490) ++ (s ++ g.data.drop (g.low - s.length - 490 + s.length))).length = 3606
      simp only [List.length_append,List.length_take,List.length_drop,hdl]; omega
    · intro p hp
      rw [ed] at hp
      rcases List.mem_or_eq_of_mem_set hp with hp | rfl
      · exact e2 p hp
      · exact ⟨by simp only; omega,by simp only; omega⟩
  refine ⟨okp,h.st,h.stamp,rfl,insR_sorted _ _ h.sorted fun p hp e => hn p.2 (by have e' : p.1 = k := e; rw [← e']; exact hp),?_,?_,?_,⟨(k,s) :: ord,(o1.cons _).trans hp.symm,?_,?_⟩,by omega,?_⟩
  · intro p hp
    rw [em]
    rcases (insR_mem _ _ _).1 hp with rfl | hp
    · simp only; omega
    · have := h.below _ hp; omega
  · rw [em]
    rcases hmax.2.2 with e | e
    · right
      rcases h.last with h0 | ⟨t,ht⟩
      · omega
      · exact ⟨t,by rw [e]; exact (insR_mem _ _ _).2 (.inr ht)⟩
    · exact .inr ⟨s,by rw [e]; exact (insR_mem _ _ _).2 (.inl rfl)⟩
  · intro j hj hn'
    rw [em] at hj
    have hjk : j ≠ k := fun e => hn' s (by rw [e]; exact (insR_mem _ _ _).2 (.inl rfl))
    by_cases hjm : j < g.many
    · rw [List.getD_eq_getElem?_getD,hdj j hjk hjm,← List.getD_eq_getElem?_getD]
      exact h.free j hjm fun t ht => hn' t ((insR_mem _ _ _).2 (.inr ht))
    · rw [List.getD_eq_getElem?_getD,ed,List.getElem?_set_ne (Ne.symm hjk),extD_get]
      cases g.dir[j]? with
      | none => rfl
      | some p => rw [Option.map_some,if_pos ⟨by omega,hj⟩]; rfl
  · refine ⟨hdk,?_⟩
    show Laid (putG g k s).dir (g.low - s.length + s.length) ord
    rw [show g.low - s.length + s.length = g.low by omega]
    have : ∀ (x : Recs) (a : Nat),Laid g.dir a x → (∀ p ∈ x,p ∈ L) → Laid (putG g k s).dir a x := by
      intro x
      induction x with
      | nil => intro a h _; exact h
      | cons p x ih =>
        intro a hl hx
        obtain ⟨j,t⟩ := p
        have hjL := hx (j,t) (.head _)
        refine ⟨?_,ih _ hl.2 fun q hq => hx q (.tail _ hq)⟩
        rw [hdj j (fun e => hn t (by rw [← e]; exact hjL)) (h.below _ hjL)]
        exact hl.1
    exact this ord g.low o2 fun p hp => o1.mem_iff.1 hp
  · show (g.data.take (g.low - s.length - 490) ++ (s ++ g.data.drop (g.low - s.length - 490 + s.length))).drop (g.low - s.length - 490) = _
    rw [drop_left _ _ _ (by rw [List.length_take,hdl]; omega),List.flatMap_cons]
    congr 1
    rw [← o3]
    congr 1
    omega
  · show g.low - s.length + tot (insR (k,s) L) = 4096
    omega
def aput (L : Recs) (k : Int) (s : List UInt8) : Recs × Int :=
  if k < 0 ∨ 120 ≤ k then (L,110) else if 3600 < tot (wo L k.toNat) + s.length then (L,111) else (insR (k.toNat,s) (wo L k.toNat),0)
set_option maxHeartbeats 1000000 in
theorem put_spec (b : Nat) (g : Pg) (L : Recs) (stamp : Nat) (hR : Rep g L stamp) (k : Int) (s : List UInt8) (w : World) (h : Blk w b g.cells 144) :
    Calls Tryz.prog 100 #[.pointer (some ⟨b,0,none⟩),.int .i64 k,sv s] w fun e w' => e = .returned (.int .i64 (aput L k s).2) ∧ ∃ g',Rep g' (aput L k s).1 stamp ∧ Hp [b] w w' [pgA b g'] := by
  apply put.ok
  unfold put.vc
  have H : Hp [b] w w [pgA b g] := Hp.start1 (a := pgA b g) h
  have hmax : maxLen = 9223372036854775807 := by simp [maxLen]
  refine br_dec (fun h1 => ?_) (fun h1 => br_dec (fun h2 => ?_) (fun h2 => ?_))
  · rw [aput,if_pos (.inl h1)]; exact ⟨rfl,g,hR,H⟩
  · rw [aput,if_pos (.inr h2)]; exact ⟨rfl,g,hR,H⟩
  obtain ⟨K,rfl⟩ : ∃ K : Nat,k = K := ⟨k.toNat,by omega⟩
  have hK : K < 120 := by omega
  have hsm := hR.small
  rw [aput,if_neg (by omega),Int.toNat_natCast]
  refine callV (room_spec b g _ (pgOf hR.ok H (by exact ⟨rfl,rfl,rfl,rfl⟩) (by repeat first | exact .head _ | refine .tail _ ?_))) ?_
  rintro e w1 ⟨rfl,H'⟩; replace H := H.ext0 H'; clear H'
  refine ⟨_,rfl,?_⟩
  rw [hR.total_eq]
  refine callV (slot_spec b g K _ (pgOf hR.ok H (by exact ⟨rfl,rfl,rfl,rfl⟩) (by repeat first | exact .head _ | refine .tail _ ?_))) ?_
  rintro e w2 ⟨rfl,H'⟩; replace H := H.ext0 H'; clear H'
  refine ⟨_,_,rfl,?_⟩
  rw [mk_size]
  have hmem : (if 0 ≤ (K : Int) ∧ (K : Int) < (g.many : Int) then ((g.dir.getD (K : Int).toNat (0,0)).1 : Int) else 0) = if K < g.many then (atOf g K : Int) else 0 := by
    rw [Int.toNat_natCast]
    by_cases hc : K < g.many
    · rw [if_pos (by omega),if_pos hc]; rfl
    · rw [if_neg (by omega),if_neg hc]
  have hmem2 : (if 0 ≤ (K : Int) ∧ (K : Int) < (g.many : Int) then ((g.dir.getD (K : Int).toNat (0,0)).2 : Int) else 0) = if K < g.many then (lenOf g K : Int) else 0 := by
    rw [Int.toNat_natCast]
    by_cases hc : K < g.many
    · rw [if_pos (by omega),if_pos hc]; rfl
    · rw [if_neg (by omega),if_neg hc]
  rw [hmem,hmem2]
  have hlive := hR.mem_live (k := K)
  refine JoinP.mk (fun f w' => f = 3600 - (tot (wo L K) : Int) ∧ Hp [b] w w' [pgA b g]) ?_ ?_
  · clear H hmem hmem2
    rintro f w2 ⟨rfl,H⟩
    refine br_dec (fun hf => ?_) (fun hf => ?_)
    · rw [if_pos (by omega)]; exact ⟨rfl,g,hR,H⟩
    rw [if_neg (by omega)]
    refine callV (drop_any b g L stamp hR K _ (H.ok _ (.head _))) ?_
    rintro e w3 ⟨rfl,g',hR',H'⟩; replace H := Hp.use11 (a := pgA b _) H H'; clear H'
    refine ⟨rfl,?_⟩
    have hno : ∀ t,(K,t) ∉ wo L K := fun t ht => (wo_mem.1 ht).2 rfl
    have hfin := hR'.put hK hno (s := s) (by omega)
    have hgm := hR'.ok.many
    have hgl := hR'.low
    have hgd := hR'.ok.data
    refine LoopP.mk (fun mm _ w' => ∃ m,mm = 121 - m ∧ g'.many ≤ m ∧ m ≤ max g'.many (K + 1) ∧ Hp [b] w w' [pgA b (extG g' m)]) (121 - g'.many) ⟨g'.many,rfl,Nat.le_refl _,by omega,by unfold extG; rw [extD_self]; exact H⟩ ?_
    clear H
    rintro mm u w4 next ⟨m,rfl,hm1,hm2,H⟩ hnext
    have okm := extG_ok hR'.ok (m := m) (by omega)
    refine onP_mk rfl ⟨_,by rw [addB]; exact (pgOf okm H (by exact ⟨rfl,rfl,rfl,rfl⟩) (.head _)).ldMany,?_⟩
    refine br_dec (fun hle => ?_) (fun hle => ?_)
    · have hle' : m ≤ K := by have h9 : ((m : Nat) : Int) ≤ (K : Int) := hle; omega
      refine onP_mk rfl ⟨_,by rw [addB]; exact (pgOf okm H (by exact ⟨rfl,rfl,rfl,rfl⟩) (.head _)).ldMany,?_⟩
      refine callV (set_spec b _ m 0 0 (by omega) (by omega) (by omega) _ (pgOf okm H (by exact ⟨rfl,rfl,rfl,rfl⟩) (.head _))) ?_
      rintro e w5 ⟨rfl,ok2,H'⟩; replace H := Hp.use11 (a := pgA b _) H H'; clear H'
      refine ⟨rfl,onP_mk rfl ⟨_,by rw [addB]; exact (pgOf ok2 H (by exact ⟨rfl,rfl,rfl,rfl⟩) (.head _)).ldMany,?_⟩⟩
      show inR .i64 ((m : Int) + 1) ∧ onP _ fun a => ∃ w1,St Tryz.prog 3 _ (Addr.add a 4096) (.int .i64 ((m : Int) + 1)) w1 ∧ _
      refine ⟨inR64.2 (by omega),onP_mk rfl ?_⟩
      rw [addB,show (m : Int) + 1 = ((m + 1 : Nat) : Int) by omega]
      refine Hp.st H (by exact ⟨rfl,rfl,rfl,rfl⟩) scl3 rfl rfl (by rw [ok2.clen]; omega) (Pg.set_many ok2 _) ?_
      clear H
      intro w6 H
      refine hnext (121 - (m + 1)) _ _ (by omega) ⟨m + 1,rfl,by omega,by omega,?_⟩
      have e : ({ setD (extG g' m) m 0 0 with many := m + 1 } : Pg) = extG g' (m + 1) := by
        show ({ g' with dir := (extD g'.dir g'.many m).set m (0,0),many := m + 1 } : Pg) = _
        rw [extD_succ _ _ _ hm1]; rfl
      rw [e] at H
      exact H
    · have hle' : ¬ m ≤ K := fun h9 => hle (by show ((m : Nat) : Int) ≤ (K : Int); omega)
      have hmm : m = max g'.many (K + 1) := by omega
      have hb : ∀ k,({ extG g' m with hdr := k } : Pg).bs = g'.st ++ (be (k : Int) 2 ++ (dirB (extG g' m).dir ++ g'.data)) := fun k => rfl
      refine onP_mk rfl ⟨_,by rw [addB]; exact (pgOf okm H (by exact ⟨rfl,rfl,rfl,rfl⟩) (.head _)).ldMany,?_⟩
      refine callV (lay_spec b (extG g' m) { extG g' m with hdr := m } g'.st (be g'.hdr 2) (dirB (extG g' m).dir ++ g'.data) 8 m (be_length _ 2) hR'.ok.st (by omega) rfl (hb m) rfl rfl _ (pgOf okm H (by exact ⟨rfl,rfl,rfl,rfl⟩) (.head _))) ?_
      rintro e w5 ⟨rfl,H'⟩; replace H := Hp.use11 (a := pgA b _) H H'; clear H'
      have ok3 : ({ extG g' m with hdr := m } : Pg).Ok := ⟨okm.st,by show m < 65536; omega,okm.dir,okm.data,okm.many,okm.ent,okm.low⟩
      refine ⟨rfl,onP_mk rfl ⟨_,by rw [addB]; exact (pgOf ok3 H (by exact ⟨rfl,rfl,rfl,rfl⟩) (.head _)).ldLow,?_⟩⟩
      show inR .i64 ((g'.low : Int) - (s.length : Int)) ∧ onP _ fun a => ∃ w1,St Tryz.prog 3 _ (Addr.add a 4097) (.int .i64 ((g'.low : Int) - (s.length : Int))) w1 ∧ _
      have e1 : (g'.low : Int) - (s.length : Int) = ((g'.low - s.length : Nat) : Int) := by omega
      rw [e1]
      refine ⟨inR64.2 (by omega),onP_mk rfl ?_⟩
      rw [addB]
      refine Hp.st H (by exact ⟨rfl,rfl,rfl,rfl⟩) scl3 rfl rfl (by rw [ok3.clen]; omega) (Pg.set_low ok3 _) ?_
      clear H
      intro w6 H
      obtain ⟨g4,hg4⟩ : ∃ g4 : Pg,g4 = { ({ extG g' m with hdr := m } : Pg) with low := g'.low - s.length } := ⟨_,rfl⟩
      have ok4 : g4.Ok := by rw [hg4]; exact ⟨ok3.st,ok3.hdr,ok3.dir,ok3.data,ok3.many,ok3.ent,by show g'.low - s.length ≤ 4096; omega⟩
      rw [← hg4] at H
      have hlow4 : g4.low = g'.low - s.length := by rw [hg4]
      refine onP_mk rfl (onP_mk rfl ⟨_,by rw [addB]; exact (pgOf ok4 H (by exact ⟨rfl,rfl,rfl,rfl⟩) (.head _)).ldLow,?_⟩)
      rw [hlow4,Int.toNat_natCast,slA_sl]
      refine ⟨⟨by omega,by omega⟩,?_⟩
      have hsl2 := sl_le (g'.low - s.length)
      refine Hp.cpy H (by exact ⟨rfl,rfl,rfl,rfl⟩) und37 scl5.size (Src.ofString _ und9 ⟨s.toArray⟩) (by rw [mk_size]; omega) (by rw [mk_size,ok4.clen]; omega) ?_
      clear H
      intro w7 H
      rw [byteCells_mk,over_sl _ _ _ (by rw [bcells_length]; omega),over_data ok4 (by omega) (by omega)] at H
      have ok5 := putData_ok ok4 (i := g'.low - s.length) (x := s) (by omega) (by omega)
      refine onP_mk rfl ⟨_,by rw [addB]; exact (pgOf ok5 H (by exact ⟨rfl,rfl,rfl,rfl⟩) (.head _)).ldLow,?_⟩
      have hlow5 : (putData g4 (g'.low - s.length) s).low = g'.low - s.length := hlow4
      rw [hlow5]
      refine callV (set_spec b _ K (g'.low - s.length) s.length hK (by omega) (by omega) _ (pgOf ok5 H (by exact ⟨rfl,rfl,rfl,rfl⟩) (.head _))) ?_
      rintro e w8 ⟨rfl,_,H'⟩; replace H := Hp.use11 (a := pgA b _) H H'; clear H'
      refine ⟨rfl,rfl,_,hfin,?_⟩
      have e : setD (putData g4 (g'.low - s.length) s) K (g'.low - s.length) s.length = putG g' K s := by
        rw [hg4]
        unfold putG setD putData extG
        simp only [← hmm]
      rw [e] at H
      exact H
  · intro J hJ
    refine br_dec (fun h0 => ?_) (fun h0 => ?_)
    · have hkm : K < g.many := by
        refine Classical.byContradiction fun hn => ?_
        rw [if_neg hn] at h0; omega
      rw [if_pos hkm] at h0 ⊢
      obtain ⟨t,ht⟩ := hR.mem_live.1 ⟨hkm,by omega⟩
      have hat := hR.at_ ht
      have hwt := wo_tot hR.sorted ht
      exact ⟨inR64.2 (by omega),hJ _ _ ⟨by omega,H⟩⟩
    · refine hJ _ _ ⟨?_,H⟩
      rw [wo_none]
      intro t ht
      have hat := hR.at_ ht
      have := hR.below _ ht
      rw [if_pos this] at h0
      omega
end Go.Proofs.YtdeebigmpffnbaaGreat.Sl
namespace Go.Proofs.YtdeebigmpffnbaaGreat.Sl
open Go Go.Vc
def lk (L : Recs) (k : Int) : Option (List UInt8) := (L.find? fun p => decide ((p.1 : Int) = k)).map (·.2)
theorem lk_some {L : Recs} (hs : L.Pairwise fun a b => a.1 < b.1) {k : Nat} {s : List UInt8} (h : (k,s) ∈ L) : lk L (k : Int) = some s := by
 unfold lk
 cases hf : L.find? fun p => decide ((p.1 : Int) = (k : Int)) with
 | none => have := List.find?_eq_none.1 hf _ h; simp at this
 | some p =>
  have h1 := List.mem_of_find?_eq_some hf
  have h2 : p.1 = k := by have := List.find?_some hf; simp only [decide_eq_true_eq] at this; omega
  have : (k,p.2) ∈ L := by rw [← h2]; exact h1
  rw [Option.map_some,one_key hs this h]
theorem lk_cases {L : Recs} (k : Int) : (lk L k = none ∧ ∀ p ∈ L,(p.1 : Int) ≠ k) ∨ ∃ (K : Nat) (s : List UInt8),k = K ∧ (K,s) ∈ L ∧ lk L k = some s := by
 unfold lk
 cases hf : L.find? fun p => decide ((p.1 : Int) = k) with
 | none => exact .inl ⟨rfl,fun p hp => by have := List.find?_eq_none.1 hf p hp; simpa using this⟩
 | some p =>
  have h2 := List.find?_some hf
  simp only [decide_eq_true_eq] at h2
  exact .inr ⟨p.1,p.2,h2.symm,List.mem_of_find?_eq_some hf,rfl⟩
section
variable {b : Nat} {g : Pg} {L : Recs} {stamp : Nat} {w : World}
theorem get_any (hR : Rep g L stamp) (h : Blk w b g.cells 144) (k : Int) :
  Calls Tryz.prog 43 #[.pointer (some ⟨b,0,none⟩),.int .i64 k] w fun e w' => e = .returned (.tuple #[sv ((lk L k).getD []),.bool (lk L k).isSome]) ∧ Hp [] w w' [] := by
 refine Calls.mono (get_spec b g k w ⟨hR.ok,h⟩ hR.fit) ?_
 rintro e w' ⟨rfl,H⟩
 refine ⟨?_,H⟩
 rcases lk_cases (L := L) k with ⟨h1,h2⟩ | ⟨K,s,rfl,h2,h3⟩
 ·rw [h1,if_neg]
  ·rfl
  ·rintro ⟨h3,h4,h5⟩
   obtain ⟨s,hs⟩ := hR.mem_live.1 ⟨by omega,h5⟩
   exact h2 _ hs (by simp only; omega)
 ·have hat := hR.at_ h2
  have := hR.below _ h2
  rw [h3,if_pos ⟨by omega,by simp only at this; omega,by rw [Int.toNat_natCast]; omega⟩,Int.toNat_natCast,hat.2.2.2]
  rfl
theorem slots_any (hR : Rep g L stamp) (h : Blk w b g.cells 144) :
  Calls Tryz.prog 42 #[.pointer (some ⟨b,0,none⟩)] w fun e w' => ∃ a c,e = .returned (.slice a L.length c) ∧ Hp [] w w' [.own 3 1 a L.length c (intC (L.map (·.1)))] := by
 refine Calls.mono (slots_spec b g w ⟨hR.ok,h⟩) ?_
 rintro e w' ⟨a,c,rfl,H⟩
 rw [hR.live_eq,List.length_map] at H ⊢
 exact ⟨a,c,rfl,H⟩
def adel (L : Recs) (k : Int) : Recs × Int := if (lk L k).isSome then (wo L k.toNat,0) else (L,110)
theorem delete_any (hR : Rep g L stamp) (h : Blk w b g.cells 144) (k : Int) :
  Calls Tryz.prog 99 #[.pointer (some ⟨b,0,none⟩),.int .i64 k] w fun e w' => e = .returned (.int .i64 (adel L k).2) ∧ ∃ g',Rep g' (adel L k).1 stamp ∧ Hp [b] w w' [pgA b g'] := by
 apply delete.ok
 unfold delete.vc
 have H : Hp [b] w w [pgA b g] := Hp.start1 (a := pgA b g) h
 refine callV (slot_spec b g k _ (pgOf hR.ok H (by exact ⟨rfl,rfl,rfl,rfl⟩) (by repeat first | exact .head _ | refine .tail _ ?_))) ?_
 rintro e w1 ⟨rfl,H'⟩; replace H := H.ext0 H'; clear H'
 refine ⟨_,_,rfl,?_⟩
 unfold adel
 rcases lk_cases (L := L) k with ⟨h1,h2⟩ | ⟨K,s,rfl,h2,h3⟩
 ·rw [h1]
  refine br_dec (fun _ => ⟨rfl,g,hR,H⟩) (fun h0 => absurd ?_ h0)
  split
  ·rename_i hc
   refine Classical.byContradiction fun h4 => ?_
   obtain ⟨s,hs⟩ := hR.mem_live.1 ⟨show k.toNat < g.many by omega,by show 0 < (g.dir.getD k.toNat (0,0)).1; omega⟩
   exact h2 _ hs (by simp only; omega)
  ·rfl
 ·have hat := hR.at_ h2
  have hbe := hR.below _ h2
  simp only at hbe
  have e1 : (if 0 ≤ (K : Int) ∧ (K : Int) < (g.many : Int) then ((g.dir.getD (K : Int).toNat (0,0)).1 : Int) else 0) = (atOf g K : Int) := by
   rw [if_pos (by omega),Int.toNat_natCast]; rfl
  rw [e1,h3]
  refine br_dec (fun h0 => absurd h0 (by omega)) (fun _ => ?_)
  refine callV (drop_any b g L stamp hR K _ (H.ok _ (.head _))) ?_
  rintro e w3 ⟨rfl,g',hR',H'⟩; replace H := Hp.use11 (a := pgA b _) H H'; clear H'
  refine ⟨rfl,rfl,g',?_,H⟩
  rw [Int.toNat_natCast]
  exact hR'
end
end Go.Proofs.YtdeebigmpffnbaaGreat.Sl
namespace Go.Proofs.YtdeebigmpffnbaaGreat.Sl
open Go Go.Vc
theorem scl34 : Scl Tryz.prog 27 := scl_of (by kernel_rfl)
theorem scl37 : Scl Tryz.prog 29 := scl_of (by kernel_rfl)
theorem stampW_spec (b : Nat) (g : Pg) (w : World) (h : PgAt w b g) :
  Calls Tryz.prog 126 #[.pointer (some ⟨b,0,none⟩)] w fun e w' => e = .returned (.int .i64 (num g.st)) ∧ Hp [] w w' [] := by
 apply stamp.ok
 unfold stamp.vc
 have hst := h.1.st
 refine onP_mk rfl ⟨⟨by omega,by omega⟩,?_⟩
 refine LoopP.mk (fun m s w' => ∃ k : Nat,m = 8 - k ∧ k ≤ 8 ∧ s = (num (g.st.take k),(k : Int)) ∧ Hp [] w w' []) 8 ⟨0,rfl,by omega,by simp [num,valN,wrap64_id],Hp.start w⟩ ?_
 rintro m s w' next ⟨k,rfl,hk,rfl,H⟩ hnext
 refine br_dec (fun h1 => ?_) (fun h1 => ?_)
 ·have hk8 : k < 8 := by have h9 : (k : Int) < ((Int.toNat 8 : Nat) : Int) := h1; omega
  have hk' : k < g.st.length := by omega
  have e1 : Int.toNat (k : Int) * 1 = k := by omega
  have hb : g.bs[k]'(by rw [h.1.len]; omega) = g.st[k] := by
   simp only [Pg.bs]
   exact List.getElem_append_left hk'
  have hts := valN_take_succ g.st k hk'
  have hlt := (g.st[k]).toNat_lt
  refine ⟨⟨by simp only; omega,h1⟩,_,by rw [e1,addB,]; exact (h.chg H.chg (by simp)).ldB (by omega),by omega,?_⟩
  rw [hb]
  simp only [num]
  rw [or_byte _ _ hlt,← hts,wrap64_id (z := (k : Int) + 1) (by omega)]
  exact hnext (8 - (k + 1)) _ _ (by omega) ⟨k + 1,rfl,by omega,by simp [num],H⟩
 ·have hk8 : k = 8 := by have h9 : ¬ (k : Int) < ((Int.toNat 8 : Nat) : Int) := h1; omega
  subst hk8
  rw [List.take_of_length_le (by omega)]
  exact ⟨rfl,H⟩
theorem stamp_spec (b : Nat) (g : Pg) (hv : valN g.st ≤ 4611686018427387904) (w : World) (h : PgAt w b g) :
  Calls Tryz.prog 126 #[.pointer (some ⟨b,0,none⟩)] w fun e w' => e = .returned (.int .i64 (valN g.st : Int)) ∧ Hp [] w w' [] := by
 have := stampW_spec b g w h
 rw [num,wrap64_id (by omega)] at this
 exact this
theorem stamp_any {b : Nat} {g : Pg} {L : Recs} {stamp : Nat} {w : World} (hR : Rep g L stamp) (h : Blk w b g.cells 144) :
  Calls Tryz.prog 126 #[.pointer (some ⟨b,0,none⟩)] w fun e w' => e = .returned (.int .i64 (stamp : Int)) ∧ Hp [] w w' [] := by
 have hs := hR.stamp
 have e : (valN g.st : Int) = (stamp : Int) := by
  rw [hR.st]; exact valN_be' (by omega) (by omega)
 have := stamp_spec b g (by omega) w ⟨hR.ok,h⟩
 rw [e] at this
 exact this
theorem be_get (n : Int) : ∀ (m k : Nat),k < m → (be n m)[k]? = some (bt n (m - 1 - k))
 | 0,k,h => by omega
 | m + 1,0,_ => rfl
 | m + 1,k + 1,h => by
  rw [be,List.getElem?_cons_succ,be_get n m k (by omega)]
  congr 2; omega
def stS (st : List UInt8) (n : Int) (k : Nat) : List UInt8 := (be n 8).take k ++ st.drop k
theorem stS_len {st : List UInt8} (h : st.length = 8) (n : Int) {k : Nat} (hk : k ≤ 8) : (stS st n k).length = 8 := by
 simp only [stS,List.length_append,List.length_take,List.length_drop,be_length,h]; omega
theorem stS_succ {st : List UInt8} (h : st.length = 8) (n : Int) {k : Nat} (hk : k < 8) : (stS st n k).set k (bt n (7 - k)) = stS st n (k + 1) := by
 have hl : ((be n 8).take k).length = k := by rw [List.length_take,be_length]; omega
 have hg := be_get n 8 k hk
 obtain ⟨hb,he⟩ := List.getElem?_eq_some_iff.1 hg
 have : st.drop k = st[k] :: st.drop (k + 1) := List.drop_eq_getElem_cons (by omega)
 unfold stS
 rw [List.set_append,if_neg (by omega),hl,Nat.sub_self,this,List.set_cons_zero,List.take_succ_eq_append_getElem hb,he,List.append_assoc]
 rfl
def okStamp (n : Int) : Prop := 0 ≤ n ∧ n ≤ 4611686018427387904
instance (n : Int) : Decidable (okStamp n) := by unfold okStamp; infer_instance
theorem Rep.stamped {g : Pg} {L : Recs} {stamp : Nat} (h : Rep g L stamp) {n : Nat} (hn : n ≤ 4611686018427387904) : Rep { g with st := be (n : Int) 8 } L n :=
 ⟨⟨be_length _ 8,h.ok.hdr,h.ok.dir,h.ok.data,h.ok.many,h.ok.ent,h.ok.low⟩,rfl,hn,h.hdr,h.sorted,h.below,h.last,h.free,h.ord,h.small,h.low⟩
def astamp (stamp : Nat) (n : Int) : Nat := if okStamp n then n.toNat else stamp
theorem setStamp_any {b : Nat} {g : Pg} {L : Recs} {stamp : Nat} {w : World} (hR : Rep g L stamp) (h : Blk w b g.cells 144) (n : Int) :
  Calls Tryz.prog 102 #[.pointer (some ⟨b,0,none⟩),.int .i64 n] w fun e w' => e = .returned (.bool (decide (okStamp n))) ∧ ∃ g',Rep g' L (astamp stamp n) ∧ Hp [b] w w' [pgA b g'] := by
 apply setStamp.ok
 unfold setStamp.vc
 have H : Hp [b] w w [pgA b g] := Hp.start1 (a := pgA b g) h
 have bad : ¬ okStamp n → (Ending.returned (.bool false) = .returned (.bool (decide (okStamp n)))) ∧ ∃ g',Rep g' L (astamp stamp n) ∧ Hp [b] w w [pgA b g'] := fun hn => by
  rw [astamp,if_neg hn]
  exact ⟨nope hn,g,hR,H⟩
 refine br_dec (fun h1 => bad fun hh => by have := hh.1; omega) (fun h1 => br_dec (fun h2 => bad fun hh => by have := hh.2; omega) (fun h2 => ?_))
 clear bad
 obtain ⟨N,rfl⟩ : ∃ N : Nat,n = N := ⟨n.toNat,by omega⟩
 have hok : okStamp (N : Int) := ⟨by omega,by omega⟩
 have hst := hR.ok.st
 have okS : ∀ k,k ≤ 8 → ({ g with st := stS g.st N k } : Pg).Ok := fun k hk => ⟨stS_len hst _ hk,hR.ok.hdr,hR.ok.dir,hR.ok.data,hR.ok.many,hR.ok.ent,hR.ok.low⟩
 refine LoopP.mk (fun m s w' => ∃ k : Nat,m = 8 - k ∧ k ≤ 8 ∧ s = (k : Int) ∧ Hp [b] w w' [pgA b { g with st := stS g.st N k }]) 8 ⟨0,rfl,by omega,rfl,H⟩ ?_
 clear H
 rintro m s w' next ⟨k,rfl,hk,rfl,H⟩ hnext
 refine br_dec (fun h3 => ?_) (fun h3 => ?_)
 ·have hk8 : k < 8 := by omega
  refine ⟨inR64.2 (by omega),inR64.2 (by omega),by omega,onP_mk rfl ⟨⟨by omega,by omega⟩,?_⟩⟩
  have e1 : Int.toNat (k : Int) * 1 = k := by omega
  have e2 : (56 : Int) - 8 * (k : Int) = 8 * ((7 - k : Nat) : Int) := by omega
  rw [e1,addB,e2,shr_byte (N : Int) (7 - k) (by omega) _ rfl]
  refine Hp.st H (by exact ⟨rfl,rfl,rfl,rfl⟩) scl5 rfl rfl (by rw [(okS k hk).clen]; omega) (Pg.cells_set (okS k hk) (by omega) _) ?_
  clear H
  intro w1 H
  refine ⟨inR64.2 (by omega),hnext (8 - (k + 1)) _ _ (by omega) ⟨k + 1,rfl,by omega,by omega,?_⟩⟩
  have e : bcells (({ g with st := stS g.st N k } : Pg).bs.set k (bt N (7 - k))) ++ [.int .i64 (g.many : Int),.int .i64 (g.low : Int)] = ({ g with st := stS g.st N (k + 1) } : Pg).cells := by
   have : ({ g with st := stS g.st N k } : Pg).bs.set k (bt N (7 - k)) = ({ g with st := stS g.st N (k + 1) } : Pg).bs := by
    simp only [Pg.bs]
    rw [List.set_append,if_pos (by rw [stS_len hst _ hk]; exact hk8),stS_succ hst _ hk8]
   rw [this]; rfl
  have H : Hp [b] w w1 [.blk b (bcells (({ g with st := stS g.st N k } : Pg).bs.set k (bt N (7 - k))) ++ [.int .i64 (g.many : Int),.int .i64 (g.low : Int)]) 144] := H
  rw [e] at H
  exact H
 ·have hk8 : k = 8 := by omega
  subst hk8
  rw [astamp,if_pos hok,Int.toNat_natCast]
  refine ⟨by rw [decide_eq_true hok],_,hR.stamped (by omega),?_⟩
  have e : stS g.st (N : Int) 8 = be (N : Int) 8 := by
   unfold stS
   rw [List.take_of_length_le (by rw [be_length]; exact Nat.le_refl _),List.drop_eq_nil_of_le (by omega),List.append_nil]
  rw [e] at H
  exact H
def gZ (low : Nat) : Pg := { st := List.replicate 8 0,hdr := 0,dir := List.replicate 120 (0,0),data := List.replicate 3606 0,many := 0,low := low }
theorem gZ_ok {low : Nat} (h : low ≤ 4096) : (gZ low).Ok := ⟨List.length_replicate,by show 0 < 65536; omega,List.length_replicate,List.length_replicate,by show 0 ≤ 120; omega,fun p hp => by rw [List.eq_of_mem_replicate hp]; simp,h⟩
theorem zl54 : zl Tryz.prog 144 = (gZ 0).cells := by kernel_rfl
theorem new54 : bigL Tryz.prog 144 [(2,.int .i64 4096)] = (gZ 4096).cells := by kernel_rfl
theorem zl52 : (zl Tryz.prog 142).length = 4096 := by kernel_rfl
theorem gZ_rep : Rep (gZ 4096) [] 0 := ⟨gZ_ok (by omega),by show List.replicate 8 (0 : UInt8) = be ((0 : Nat) : Int) 8; decide,by omega,rfl,.nil,by simp,.inl rfl,fun k hk => by have : k < 0 := hk; omega,⟨[],.refl _,rfl,by show (List.replicate 3606 (0 : UInt8)).drop 3606 = []; simp⟩,by simp [tot],by simp [tot,gZ]⟩
theorem new_any (w : World) : Calls Tryz.prog 98 #[] w fun e w' => ∃ b,e = .returned (.pointer (some ⟨b,0,none⟩)) ∧ Hp [] w w' [pgA b (gZ 4096)] := by
 apply snew.ok
 unfold snew.vc
 have H := Hp.start w
 rw [new54]
 (intro _ _ hn; replace H := H.new (by exact ⟨rfl,rfl,rfl,rfl⟩) hn; clear hn)
 exact ⟨_,rfl,H⟩
theorem over_full {l cs : List Value} (h : l.length = cs.length) : over l 0 cs = l := by
 apply List.ext_getElem?
 intro k
 rw [over_get _ _ _ (by omega)]
 by_cases hk : k < l.length
 ·rw [if_pos (by omega),Nat.sub_zero]
 ·rw [if_neg (by omega),List.getElem?_eq_none (by omega),List.getElem?_eq_none (by omega)]
theorem cells_one (g : Pg) : g.cells.all (·.oneCell') = true := by
 rw [List.all_eq_true]
 intro u hu
 rcases List.mem_append.1 hu with h | h
 ·exact bcells_one _ u h
 ·rcases List.mem_cons.1 h with rfl | h
  ·rfl
  ·rcases List.mem_cons.1 h with rfl | h
   ·rfl
   ·cases h
theorem clone_any (b : Nat) (g : Pg) (w : World) (h : PgAt w b g) :
  Calls Tryz.prog 89 #[.pointer (some ⟨b,0,none⟩)] w fun e w' => ∃ b',e = .returned (.pointer (some ⟨b',0,none⟩)) ∧ Hp [] w w' [pgA b' g] := by
 apply clone.ok
 unfold clone.vc
 have H := Hp.start w
 refine onP_mk rfl ⟨bcells g.bs,_,_,Blk.ldA (vs := g.cells) (o := 0) h.2 agg54.agg (by rw [h.1.clen]; exact agg54.size) (by rw [List.drop_zero]; exact List.take_length),?_⟩
 rw [zl54]
 (intro _ _ hn; replace H := H.new (by exact ⟨rfl,rfl,rfl,rfl⟩) hn; clear hn)
 refine Hp.stA (vs := g.cells) H (by exact ⟨rfl,rfl,rfl,rfl⟩) agg54 h.1.clen (cells_one g) (by rw [(gZ_ok (by omega)).clen]; omega) (over_full (by rw [h.1.clen,(gZ_ok (by omega)).clen])) ?_
 clear H
 intro w2 H
 exact ⟨_,rfl,H⟩
theorem bytes_any (b : Nat) (g : Pg) (w : World) (h : PgAt w b g) :
  Calls Tryz.prog 59 #[.pointer (some ⟨b,0,none⟩)] w fun e w' => ∃ b',e = .returned (.slice (some ⟨b',0,none⟩) 4096 4096) ∧ Hp [] w w' [.blk b' (bcells g.bs) 142] := by
 apply bytes.ok
 unfold bytes.vc
 have H := Hp.start w
 have hl : (bcells g.bs).length = 4096 := by rw [bcells_length,h.1.len]
 refine onP_mk rfl ⟨bcells g.bs,Blk.ldA (vs := bcells g.bs) (o := 0) h.2 agg52.agg (by rw [hl]; exact agg52.size) ?_,?_⟩
 ·rw [List.drop_zero,Pg.cells]
  exact take_left _ _ _ rfl
 have z := zl52
 generalize zl Tryz.prog 142 = zz at z ⊢
 (intro _ _ hn; replace H := H.new (by exact ⟨rfl,rfl,rfl,rfl⟩) hn; clear hn)
 refine Hp.stA (vs := bcells g.bs) H (by exact ⟨rfl,rfl,rfl,rfl⟩) agg52 hl (List.all_eq_true.2 (bcells_one _)) (by omega) (over_full (by omega)) ?_
 clear H
 intro w2 H
 exact ⟨_,rfl,H⟩
end Go.Proofs.YtdeebigmpffnbaaGreat.Sl
namespace Go.Proofs.YtdeebigmpffnbaaGreat.Sl
open Go Go.Vc
def upto (L : Recs) (k : Nat) : Recs := L.filter fun p => decide (p.1 < k)
theorem upto_sorted {L : Recs} (h : L.Pairwise fun a b => a.1 < b.1) (k : Nat) : (upto L k).Pairwise fun a b => a.1 < b.1 := h.filter _
theorem upto_all {L : Recs} {m : Nat} (h : ∀ p ∈ L,p.1 < m) : upto L m = L := List.filter_eq_self.2 fun p hp => by simpa using h p hp
theorem insR_end (x : Nat × List UInt8) : ∀ L : Recs,(∀ p ∈ L,p.1 < x.1) → insR x L = L ++ [x]
 | [],_ => rfl
 | p :: r,h => by
  rw [insR,if_neg (by have := h p (.head _); omega),insR_end x r fun q hq => h q (.tail _ hq)]; rfl
theorem tot_sub (L : Recs) (f : Nat × List UInt8 → Bool) : tot (L.filter f) ≤ tot L := by
 induction L with
 | nil => exact Nat.le_refl _
 | cons p r ih =>
  rw [List.filter_cons,tot_cons]
  split
  ·rw [tot_cons]; omega
  ·omega
theorem risen_eq : ∀ {x y : Recs},x.Pairwise (fun a b => a.1 < b.1) → y.Pairwise (fun a b => a.1 < b.1) → (∀ p,p ∈ x ↔ p ∈ y) → x = y
 | [],[],_,_,_ => rfl
 | [],b :: y,_,_,h => by have := (h b).2 (.head _); cases this
 | a :: x,[],_,_,h => by have := (h a).1 (.head _); cases this
 | a :: x,b :: y,hx,hy,h => by
  obtain ⟨hx1,hx2⟩ := List.pairwise_cons.1 hx
  obtain ⟨hy1,hy2⟩ := List.pairwise_cons.1 hy
  have hab : a = b := by
   rcases List.mem_cons.1 ((h a).1 (.head _)) with e | m
   ·exact e
   ·rcases List.mem_cons.1 ((h b).2 (.head _)) with e | m'
    ·exact e.symm
    ·have := hy1 a m; have := hx1 b m'; omega
  subst hab
  congr 1
  refine risen_eq hx2 hy2 fun k => ⟨fun hk => ?_,fun hk => ?_⟩
  ·rcases List.mem_cons.1 ((h k).1 (.tail _ hk)) with e | m
   ·subst e; have := hx1 k hk; omega
   ·exact m
  ·rcases List.mem_cons.1 ((h k).2 (.tail _ hk)) with e | m
   ·subst e; have := hy1 k hk; omega
   ·exact m
theorem upto_step {L : Recs} (hs : L.Pairwise fun a b => a.1 < b.1) {k : Nat} {s : List UInt8} (h : (k,s) ∈ L) : insR (k,s) (wo (upto L k) k) = upto L (k + 1) := by
 have hwo : wo (upto L k) k = upto L k := wo_none fun t ht => by simp [upto] at ht
 rw [hwo]
 refine risen_eq (insR_sorted _ _ (upto_sorted hs k) fun p hp => by simp [upto] at hp; simp only; omega) (upto_sorted hs _) fun p => ?_
 rw [insR_mem]
 simp only [upto,List.mem_filter,decide_eq_true_eq]
 constructor
 ·rintro (rfl | ⟨h1,h2⟩)
  ·exact ⟨h,by simp⟩
  ·exact ⟨h1,by omega⟩
 ·rintro ⟨h1,h2⟩
  by_cases hp : p.1 = k
  ·left
   obtain ⟨j,t⟩ := p
   simp only at hp
   subst hp
   rw [one_key hs h1 h]
  ·exact .inr ⟨h1,by omega⟩
theorem upto_skip {L : Recs} {k : Nat} (h : ∀ s,(k,s) ∉ L) : upto L (k + 1) = upto L k := by
 refine List.filter_congr fun p hp => ?_
 have : p.1 ≠ k := fun e => h p.2 (by rw [← e]; exact hp)
 simp only [decide_eq_decide]; omega
end Go.Proofs.YtdeebigmpffnbaaGreat.Sl
namespace Go.Proofs.YtdeebigmpffnbaaGreat
open Go Go.Vc Go.Vault Go.Redo
structure LW where
 b : Nat
 ba : Option Addr
 bc : Nat
 ta : Option Addr
 tc : Nat
def lgC (y : LW) (db : Nat) (l : Lg) : List Value := [.pointer (some ⟨db,0,none⟩),.string l.name,.int .u64 (l.mark : Int),.slice y.ba l.b.length y.bc,.int .i64 (l.firm : Int),.int .i64 (l.many : Int),.slice y.ta l.all.length y.tc,.int .i64 l.code]
def lgA (y : LW) (db : Nat) (l : Lg) : Asn := .blk y.b (lgC y db l) 129
def lgO (y : LW) (l : Lg) : List Asn := [.own 5 1 y.ba l.b.length y.bc (bcells l.b),.own 9 1 y.ta l.all.length y.tc (l.all.map .string)]
theorem stuck_spec (y : LW) (db : Nat) (l : Lg) (c : Int) (w : World) (st : Std w [lgA y db l]) :
  Calls Tryz.prog 83 #[.pointer (some ⟨y.b,0,none⟩),.int .i64 c] w fun e w' => e = .returned (.int .i64 (if l.code = 0 then c else l.code)) ∧ Hp (feet [lgA y db l]) w w' [lgA y db { l with code := if l.code = 0 then c else l.code }] := by
 apply stuck.ok; unfold stuck.vc
 have H := Hp.startL st
 generalize feet [lgA y db l] = B at H ⊢
 refine onP_mk rfl ⟨_,H.ld (cs := lgC y db l) (by exact ⟨rfl,rfl,rfl,rfl⟩) sclEr (.head _) rfl,?_⟩
 refine br_dec (fun h => ?_) (fun h => ?_)
 ·rw [if_pos h]
  refine onP_mk rfl (Hp.st (o := 7) H (by exact ⟨rfl,rfl,rfl,rfl⟩) sclEr rfl rfl (by simp [lgC]) (cs' := lgC y db { l with code := c }) rfl ?_)
  clear H; intro w1 H
  exact onP_mk rfl ⟨_,H.ld (by exact ⟨rfl,rfl,rfl,rfl⟩) sclEr (.head _) rfl,rfl,H⟩
 ·rw [if_neg h]
  exact onP_mk rfl ⟨_,H.ld (cs := lgC y db l) (by exact ⟨rfl,rfl,rfl,rfl⟩) sclEr (.head _) rfl,rfl,H⟩
def RenPost (y : LW) (x : DW) (d : Dk) (l : Lg) (w : World) (all : List ByteArray) (r : Dk × Int) (e : Ending) (w' : World) : Prop :=
 e = .returned (.int .i64 r.2) ∧ ∃ x' : DW,x'.b = x.b ∧ x'.Ok r.1 ∧
  ((r.2 = 0 ∧ ∃ y' : LW,y'.b = y.b ∧ Hp (feet (lgA y x.b l :: dkL x d)) w w' (lgA y' x.b (l.anew all) :: (lgO y' (l.anew all) ++ dkL x' r.1))) ∨
   (r.2 ≠ 0 ∧ Hp (feet (lgA y x.b l :: dkL x d)) w w' (lgA y x.b l :: dkL x' r.1)))
theorem dfill_fit {d : Dk} {N : Nat} (h : d.Fit N) (name : ByteArray) (b : List UInt8) : (dfill d name b).1.Fit (N + b.length / 512 + 10) := by
 have thnF : ∀ {r : Dk × Int} {f : Dk → Dk × Int} {M K : Nat},r.1.Fit M → (r.1.Fit M → (f r.1).1.Fit K) → M ≤ K → (thn r f).1.Fit K := by
  intro r f M K h1 h2 h3
  rw [thn]
  split
  ·exact h2 h1
  ·exact h1.mono h3
 have h1 : (dmarks d name 2).1.Fit (N + 3) := thnF (thnF (Fit.create h name) (fun h => Fit.write h _ _ _) (by omega)) (fun h => Fit.write h _ _ _) (by omega)
 have h2 := thnF (f := fun d => dwrite d name b 0) h1 (fun h => dwrite_fit h name b) (by omega)
 have h3 := thnF (f := fun d => dseal d name 1 b.length) h2 (K := N + b.length / 512 + 10) (fun h => by
  refine Dk.Fit.mono (N := N + 3 + b.length / 512 + 1 + 3) ?_ (by omega)
  exact thnF (thnF (Fit.sync h name) (fun h => Fit.write h _ _ _) (by omega)) (fun h => Fit.sync h _) (by omega)) (by omega)
 exact h3
set_option maxHeartbeats 2000000 in
theorem lrenew_spec (y : LW) (x : DW) (d : Dk) (l : Lg) (hok : x.Ok d) {N : Nat} (fit : d.Fit N) (aa : Option Addr) (ac : Nat) (all : List ByteArray) (hS : (framedAll all).length ≤ 100000000) (hl : all.length ≤ 100000000) (hN : N ≤ 500000) (hn : l.name.size ≤ 1000)
  (w : World) (st : Std w (lgA y x.b l :: dkL x d)) (hA : ∀ W,Chg (feet (lgA y x.b l :: dkL x d)) w W → Cells W aa (all.map .string)) (h0 : aa = none → all.length = 0) :
  Calls Tryz.prog 69 #[.pointer (some ⟨y.b,0,none⟩),.slice aa all.length ac] w (RenPost y x d l w all (drenew d l.name all)) := by
 apply lrenew.ok; unfold lrenew.vc RenPost
 have H := Hp.startL st
 generalize hB : feet (lgA y x.b l :: dkL x d) = B at H hA ⊢
 refine LoopP.mk (fun m s w' => ∃ (k : Nat) (a : Option Addr) (c : Nat),m = all.length - k ∧ k ≤ all.length ∧ s = ((a,(framedAll (all.take k)).length,c),(k : Int)) ∧
  Hp B w w' (.own 5 1 a (framedAll (all.take k)).length c (bcells (framedAll (all.take k))) :: lgA y x.b l :: dkL x d)) all.length ⟨0,none,0,rfl,by omega,rfl,H.nilS _ _⟩ ?_
 clear H
 rintro m s w1 next ⟨k,a,c,rfl,hk,rfl,H⟩ hnext
 refine br_dec (fun h3 => ?_) (fun h3 => ?_)
 ·have hkl : k < all.length := by simp only at h3; omega
  have hv : (all.map Value.string)[k]? = some (.string all[k]) := by simp [hkl]
  have hcw := hA w1 H.chg
  obtain ⟨ad,ha,_⟩ := hcw k _ hv
  refine onP_mk ha ⟨⟨by simp only; omega,by simp only; omega⟩,_,by simp only; rw [Int.toNat_natCast,Nat.mul_one]; exact hcw.ld sclStr ha hv,?_⟩
  have hsn : framedAll (all.take (k + 1)) = framed (framedAll (all.take k)) all[k] := by rw [List.take_succ_eq_append_getElem hkl,framedAll_snoc]
  have hle := framedAll_take all (k + 1)
  rw [hsn,framed_len] at hle
  refine callV (framed_spec a c (framedAll (all.take k)) all[k] (by omega) w1 (H.std1 (L1 := [_]))) ?_
  rintro e w2 ⟨a',c',rfl,H'⟩
  replace H := Hp.useL (L1 := [_]) H H'; clear H'
  rw [← hsn] at H ⊢
  exact ⟨_,_,_,rfl,inR64.2 (by simp only; omega),hnext (all.length - (k + 1)) _ _ (by omega) ⟨k + 1,a',c',rfl,by omega,rfl,H⟩⟩
 ·have hkl : k = all.length := by simp only at h3; omega
  subst hkl
  simp only [List.take_length] at H ⊢
  refine onP_mk rfl ⟨_,H.ld (cs := lgC y x.b l) (by exact ⟨rfl,rfl,rfl,rfl⟩) sclStr (.tail _ (.head _)) rfl,?_⟩
  refine ⟨by show ((l.name.size + 4 : Nat) : Int) ≤ _; omega,?_⟩
  have hown := (H.ownA (.head _))
  refine callV (lfill_spec y.b (lgC y x.b l) x d hok fit (newN l.name) a c (framedAll all) (by omega) (by omega) rfl w1 H.drop.std (fun W hW => H.ownSt W hW) (ownNil hown) hown.le.1) ?_
  rintro e w2 ⟨rfl,x1,hx1b,hx1,H'⟩
  replace H := H.useT H'; clear H'
  have fit1 := dfill_fit fit (newN l.name) (framedAll all)
  refine ⟨_,rfl,?_⟩
  have e0 : drenew d l.name all = thn (thn (dfill d (newN l.name) (framedAll all)) fun d => d.rename (newN l.name) l.name) fun d => d.syncNames := rfl
  generalize dfill d (newN l.name) (framedAll all) = r1 at hx1 H fit1 e0 ⊢
  refine br_dec (fun h4 => ?_) (fun h4 => br_dec (fun h5 => absurd h5 h4) (fun _ => br_not (fun _ => ?_) (fun h5 => absurd (of_decide_eq_true h5) h4)))
  ·have e1 : drenew d l.name all = thn (r1.1.rename (newN l.name) l.name) fun d => d.syncNames := by rw [e0]; congr 1; rw [thn,if_pos h4]
   replace H := H.drew
   refine onP_mk rfl ⟨_,H.ld (cs := lgC y x.b l) (by exact ⟨rfl,rfl,rfl,rfl⟩) sclDP (.tail _ (.head _)) rfl,?_⟩
   refine onP_mk rfl ⟨_,H.ld (cs := lgC y x.b l) (by exact ⟨rfl,rfl,rfl,rfl⟩) sclStr (.tail _ (.head _)) rfl,?_⟩
   refine ⟨by show ((l.name.size + 4 : Nat) : Int) ≤ _; omega,?_⟩
   refine onP_mk rfl ⟨_,H.ld (cs := lgC y x.b l) (by exact ⟨rfl,rfl,rfl,rfl⟩) sclStr (.tail _ (.head _)) rfl,?_⟩
   have hrs := rename_spec x1 r1.1 hx1 (by have := fit1.chs; omega) (newN l.name) l.name w2.drew H.drop.drop.std
   rw [hx1b] at hrs
   refine callV hrs ?_
   rintro e w3 ⟨rfl,x2,hx2b,hx2,H'⟩
   replace H := H.useT2 H'; clear H' hrs
   have fit2 := Fit.rename fit1 (newN l.name) l.name
   refine ⟨_,rfl,?_⟩
   generalize r1.1.rename (newN l.name) l.name = r2 at hx2 H fit2 e1 ⊢
   refine br_dec (fun h5 => ?_) (fun h5 => br_not (fun _ => ?_) (fun h6 => absurd (of_decide_eq_true h6) h5))
   ·have e2 : drenew d l.name all = r2.1.syncNames := by rw [e1,thn,if_pos h5]
    rw [e2]
    refine onP_mk rfl ⟨_,H.ld (cs := lgC y x.b l) (by exact ⟨rfl,rfl,rfl,rfl⟩) sclDP (.tail _ (.head _)) rfl,?_⟩
    have hss := syncNames_spec x2 r2.1 hx2 w3 H.drop.drop.std
    rw [hx2b,hx1b] at hss
    refine callV hss ?_
    rintro e w4 ⟨rfl,x3,hx3b,hx3,H'⟩
    replace H := H.useT2 H'; clear H' hss
    refine ⟨_,rfl,?_⟩
    have hxb3 : x3.b = x.b := by rw [hx3b,hx2b,hx1b]
    refine br_not (fun h6 => ⟨rfl,x3,hxb3,hx3,.inr ⟨of_decide_eq_false h6,H.drop⟩⟩) (fun h6 => ?_)
    have h6 := of_decide_eq_true h6
    refine onP_mk rfl (Hp.st (o := 2) H.pull1 (by exact ⟨rfl,rfl,rfl,rfl⟩) sclU64 rfl rfl (by simp [lgC]) rfl ?_)
    clear H; intro w5 H
    refine onP_mk rfl (Hp.st (o := 3) H (by exact ⟨rfl,rfl,rfl,rfl⟩) sclBS rfl rfl (by simp [lgC]) rfl ?_)
    clear H; intro w6 H
    refine onP_mk rfl (Hp.st (o := 4) H (by exact ⟨rfl,rfl,rfl,rfl⟩) sclInt rfl rfl (by simp [lgC]) rfl ?_)
    clear H; intro w7 H
    refine callV (cloneT_spec aa ac all (by omega) w7 (hA w7 H.chg) h0) ?_
    rintro e w8 ⟨ta,tc,rfl,H'⟩
    replace H := H.ext1 H'; clear H'
    refine ⟨_,_,_,rfl,?_⟩
    refine onP_mk rfl (Hp.st (o := 6) H.pull1 (by exact ⟨rfl,rfl,rfl,rfl⟩) sclTS rfl rfl (by simp [lgC]) rfl ?_)
    clear H; intro w9 H
    refine onP_mk rfl (Hp.st (o := 5) H (by exact ⟨rfl,rfl,rfl,rfl⟩) sclInt rfl rfl (by simp [lgC]) rfl ?_)
    clear H; intro w10 H
    rw [h6]
    refine ⟨rfl,x3,hxb3,hx3,.inl ⟨rfl,⟨y.b,a,c,ta,tc⟩,rfl,?_⟩⟩
    have H2 := H.perm (((List.Perm.swap _ _ _).cons _))
    exact H2
   ·have e2 : drenew d l.name all = r2 := by rw [e1,thn,if_neg h5]
    rw [e2]
    exact ⟨rfl,x2,by rw [hx2b,hx1b],hx2,.inr ⟨h5,H.drop⟩⟩
  ·have e1 : drenew d l.name all = r1 := by rw [e0,thn,thn,if_neg h4,if_neg h4]
   rw [e1]
   exact ⟨rfl,x1,hx1b,hx1,.inr ⟨h4,H.drop⟩⟩
end Go.Proofs.YtdeebigmpffnbaaGreat
namespace Go.Vc
open Go
section
variable {P : Program} {w : World}
theorem run_items {d : Nat} {e : TypeId} (hk : kdB P e (.inl .u8) = true) (xs ys : List UInt8) : ∀ is : List Nat,(∀ i ∈ is,i < xs.length ∧ i < ys.length) →
  (Op.eqItems (d + 1) e 1 (bcells xs).toArray (bcells ys).toArray is).run P w = .ok (is.all fun i => xs[i]? == ys[i]?) w
 | [],_ => rfl
 | i :: is,h => by
  have ih := run_items (d := d) hk xs ys is fun j hj => h j (.tail _ hj)
  obtain ⟨h1,h2⟩ := h i (.head _)
  have ha : (bcells xs)[i]? = some (.int .u8 (xs[i].toNat : Int)) := by simp [bcells,h1]
  have hb : (bcells ys)[i]? = some (.int .u8 (ys[i].toNat : Int)) := by simp [bcells,h2]
  simp only [Op.eqItems,Nat.mul_one]
  simp only [Sem.run_bind,run_part_kd (w := w) hk (show (bcells xs).toArray[i]? = some _ by simpa using ha),run_part_kd (w := w) hk (show (bcells ys).toArray[i]? = some _ by simpa using hb),Result.andThen_ok,run_sEq (d := d) (w := w) hk (show (fromV (.inl .u8) (.int .u8 (xs[i].toNat : Int))).isSome = true from rfl) (show (fromV (.inl .u8) (.int .u8 (ys[i].toNat : Int))).isSome = true from rfl)]
  rw [List.all_cons,List.getElem?_eq_getElem h1,List.getElem?_eq_getElem h2]
  have e1 : sEq (.int .u8 (xs[i].toNat : Int)) (.int .u8 (ys[i].toNat : Int)) = (some xs[i] == some ys[i]) := by
   rw [sEq,Bool.eq_iff_iff,decide_eq_true_eq,beq_iff_eq,Option.some.injEq,Int.ofNat_inj]
   exact UInt8.toNat_inj
  rw [e1]
  cases (some xs[i] == some ys[i]) with
  | true => simpa using ih
  | false => simp
theorem all_eq {xs ys : List UInt8} {n : Nat} (hx : xs.length = n) (hy : ys.length = n) : ((List.range n).all fun i => xs[i]? == ys[i]?) = decide (xs = ys) := by
 rw [Bool.eq_iff_iff,List.all_eq_true,decide_eq_true_eq]
 constructor
 ·intro h
  refine List.ext_getElem? fun i => ?_
  by_cases hi : i < n
  ·exact beq_iff_eq.1 (h i (List.mem_range.2 hi))
  ·rw [List.getElem?_eq_none (by omega),List.getElem?_eq_none (by omega)]
 ·rintro rfl i _
  simp
theorem eqv_bytes {t e : TypeId} {n : Nat} {i : TypeInfo} (hu : P.underlying t = some (.array n e)) (hi : P.info? e = some i) (hk : kdB P e (.inl .u8) = true) (hc : P.cellsOf e = 1) (hg : P.eqGuardType P.depth t = false)
  {xs ys : List UInt8} (hx : xs.length = n) (hy : ys.length = n) (x y : Operand) : Eqv P .neq t x y w (.agg (bcells xs).toArray) (.agg (bcells ys).toArray) (!decide (xs = ys)) := by
 have h1 := run_items (P := P) (w := w) (d := 9998) hk xs ys (List.range n) fun j hj => by have := List.mem_range.1 hj; omega
 rw [all_eq hx hy] at h1
 simp only [Eqv,Sem.run_bind,run_eqGuard_agg w .neq t x y _ _ hg,Result.andThen_ok,run_neq_struct,run_equalIn_array w 9999 _ _ hu hi,hc,h1]
end
end Go.Vc
namespace Go.Proofs.YtdeebigmpffnbaaGreat
open Go Go.Vc Go.Vault Go.Redo
theorem undNo : Tryz.prog.underlying 206 = some (.array 8 5) := by kernel_rfl
theorem infU8 : ∃ i,Tryz.prog.info? 5 = some i := Option.isSome_iff_exists.1 (show (Tryz.prog.info? 5).isSome = true by kernel_rfl)
theorem kdU8 : kdB Tryz.prog 5 (.inl .u8) = true := by kernel_rfl
theorem cellsU8 : Tryz.prog.cellsOf 5 = 1 := by kernel_rfl
theorem guardNo : Tryz.prog.eqGuardType Tryz.prog.depth 206 = false := by kernel_rfl
theorem read512 {d : Dk} (hok : d.Ok) {n : ByteArray} {i : Int} (h : (d.read n i).2 = 0) : (d.read n i).1.length = 512 := by
 cases hd : d.dead with
 | true => simp [Dk.read,hd] at h
 | false =>
  cases hk : d.find n with
  | none => simp [Dk.read,hd,hk] at h
  | some k =>
   by_cases hi : i < 0 ∨ (d.len k : Int) ≤ i
   ·simp [Dk.read,hd,hk,hi] at h
   ·have e : d.read n i = ((d.file k).now.getD i.toNat [],0) := by simp only [Dk.read,hd,hk,Bool.false_eq_true,if_false,if_neg hi]
    rw [e]
    have hlt : i.toNat < (d.file k).now.length := by
     have : d.len k = (d.file k).now.length := rfl
     omega
    have hf := hok.find hk
    have hm : d.file k ∈ d.files := by
     rw [Dk.file,List.getD_eq_getElem?_getD,List.getElem?_eq_getElem hf]
     exact List.getElem_mem _
    show ((d.file k).now.getD i.toNat []).length = 512
    rw [List.getD_eq_getElem?_getD,List.getElem?_eq_getElem hlt]
    exact (hok.files _ hm).now _ (List.getElem_mem _)
set_option maxHeartbeats 1000000 in
theorem look_spec (y : LW) (x : DW) (d : Dk) (l : Lg) (hok : x.Ok d) (n : Nat) (w : World) (st : Std w (lgA y x.b l :: dkL x d)) :
  Calls Tryz.prog 106 #[.pointer (some ⟨y.b,0,none⟩),.int .i64 (n : Int)] w fun e w' =>
   e = .returned (match lookP d l.name n with
    | some (m,f) => .tuple #[.int .u64 (m : Int),.int .u64 (f : Int),.bool true]
    | none => .tuple #[.int .u64 0,.int .u64 0,.bool false]) ∧ Hp [] w w' [] := by
 apply look.ok; unfold look.vc
 have H := (Hp.startL st).drew
 refine onP_mk rfl ⟨_,H.ld (cs := lgC y x.b l) (by exact ⟨rfl,rfl,rfl,rfl⟩) sclDP (.head _) rfl,?_⟩
 refine onP_mk rfl ⟨_,H.ld (cs := lgC y x.b l) (by exact ⟨rfl,rfl,rfl,rfl⟩) sclStr (.head _) rfl,?_⟩
 refine callV (read_spec x d hok l.name (n : Int) w.drew H.drop.std) ?_
 rintro e w1 ⟨a,c,rfl,K⟩
 replace K := (Hp.start w).drew.ext K
 simp only [List.append_nil] at K
 refine ⟨_,_,_,_,rfl,?_⟩
 refine br_not (fun h1 => ?_) (fun h1 => ?_)
 ·have h1 := of_decide_eq_false h1
  have e1 : lookP d l.name n = none := by rw [lookP,if_neg (fun h => h1 h.1)]
  rw [e1]
  exact ⟨rfl,K.drew.done⟩
 ·have h1 := of_decide_eq_true h1
  have hlen := read512 hok.dk h1
  have hlook : lookP d l.name n = if (d.read l.name n).1.take 8 = (d.read l.name n).1.drop 504 then some (valN ((d.read l.name n).1.take 8),valN (((d.read l.name n).1.drop 8).take 8)) else none := by
   rw [lookP]
   by_cases h2 : (d.read l.name n).1.take 8 = (d.read l.name n).1.drop 504
   ·rw [if_pos ⟨h1,h2⟩,if_pos h2]
   ·rw [if_neg (fun h => h2 h.2),if_neg h2]
  rw [hlook]
  generalize (d.read l.name n).1 = b at K hlen ⊢
  replace K := K.drew
  have hown := K.ownA (.head _)
  have hcap := hown.le.1
  have hcells := hown.cells
  obtain ⟨ad,ha⟩ := hcells.some (by intro h; have := congrArg List.length h; rw [bcells_length,hlen] at this; simp at this)
  subst ha
  have e8 : (bcells b).take 8 = bcells (b.take 8) := by rw [bcells,bcells,List.map_take]
  have e504 : (bcells b).drop 504 = bcells (b.drop 504) := by rw [bcells,bcells,List.map_drop]
  have l8 : (b.take 8).length = 8 := by rw [List.length_take]; omega
  have l504 : (b.drop 504).length = 8 := by rw [List.length_drop]; omega
  have a0 : ad.add 0 = ad := by simp [Addr.add]
  have hld0 := hcells.ldA (P := Tryz.prog) aggNo rfl (o := 0) (vs := bcells (b.take 8)) (by rw [List.drop_zero,e8]) (by rw [bcells_length,l8])
  have hld1 := hcells.ldA (P := Tryz.prog) aggNo rfl (o := 504) (vs := bcells (b.drop 504)) (by rw [e504,List.take_of_length_le (by rw [bcells_length,l504]; exact Nat.le_refl _)]) (by rw [bcells_length,l504])
  rw [a0] at hld0
  have hs504 : slA (some ad) c (Int.toNat 504) 1 = some (ad.add 504) := by
   unfold slA; rw [if_neg (by show c ≠ 504; omega)]; rfl
  have hs8 : slA (some ad) c (Int.toNat 8) 1 = some (ad.add 8) := by
   unfold slA; rw [if_neg (by show c ≠ 8; omega)]; rfl
  obtain ⟨inf,hinf⟩ := infU8
  refine ⟨⟨by omega,by omega⟩,by omega,_,onP_mk rfl hld0,⟨by omega,by omega⟩,by show 8 ≤ b.length - 504; omega,_,onP_mk hs504 hld1,_,eqv_bytes undNo hinf kdU8 cellsU8 guardNo l8 l504 _ _,?_⟩
  refine br_not (fun h2 => ?_) (fun h2 => ?_)
  ·rw [if_neg (of_decide_eq_false h2)]
   exact ⟨rfl,K.done⟩
  ·rw [if_pos (of_decide_eq_true h2)]
   refine ⟨⟨by omega,by omega⟩,⟨by omega,by omega,by omega⟩,?_⟩
   replace K := K.drew
   have hc0 : Cells w1.drew.drew (some ad) (bcells (b.take 8)) := by rw [← e8]; exact (K.ownA (.head _)).cells.take 8
   have ht := take_spec (some ad) (b.take 8) c (by omega) w1.drew.drew hc0
   rw [l8] at ht
   refine callV ht ?_
   rintro e w2 ⟨rfl,H'⟩
   replace K := K.ext0 H'; clear H'
   refine ⟨_,rfl,?_⟩
   rw [hs8]
   have hc1 : Cells w2 (some (ad.add 8)) (bcells ((b.drop 8).take 8)) := by
    have h3 := ((K.ownA (.head _)).cells.slA (c := c) (i := 8) (by rw [bcells_length]; omega))
    have h4 : slA (some ad) c 8 1 = some (ad.add 8) := hs8
    rw [h4] at h3
    have h5 := h3.take 8
    have e9 : ((bcells b).drop 8).take 8 = bcells ((b.drop 8).take 8) := by simp only [bcells,List.map_take,List.map_drop]
    rw [e9] at h5; exact h5
   have l88 : ((b.drop 8).take 8).length = 8 := by rw [List.length_take,List.length_drop]; omega
   have ht := take_spec (some (ad.add 8)) ((b.drop 8).take 8) (c - 8) (by omega) w2 hc1
   rw [l88] at ht
   refine callV ht ?_
   rintro e w3 ⟨rfl,H'⟩
   replace K := K.ext0 H'; clear H'
   exact ⟨_,rfl,rfl,K.done⟩
end Go.Proofs.YtdeebigmpffnbaaGreat
namespace Go.Proofs.YtdeebigmpffnbaaGreat
open Go Go.Vc Go.Vault Go.Redo
theorem undU8 : Tryz.prog.underlying 5 = some (.int .u8) := by kernel_rfl
def RecPost (r : Option (List ByteArray)) (w : World) (e : Ending) (w' : World) : Prop := match r with
 | some l => ∃ a c,e = .returned (.tuple #[.slice a l.length c,.bool true]) ∧ Hp [] w w' [.own 9 1 a l.length c (l.map .string)]
 | none => e = .returned (.tuple #[.slice none 0 0,.bool false]) ∧ Hp [] w w' []
theorem rec_none {r : Option (List ByteArray)} (h : r = none) {w w' : World} {L : List Asn} (H : Hp [] w w' L) : RecPost r w (.returned (.tuple #[.slice none 0 0,.bool false])) w' := by
 subst h; exact ⟨rfl,H.done⟩
set_option maxHeartbeats 1000000 in
theorem records_spec (a : Option Addr) (c : Nat) (bs : List UInt8) (hcap : bs.length ≤ c) (hl : bs.length ≤ 1000000000) (w : World) (hc : Cells w a (bcells bs)) :
  Calls Tryz.prog 108 #[.slice a bs.length c] w (RecPost (records bs) w) := by
 apply records.ok; unfold records.vc
 refine LoopP.mk (fun m s w' => ∃ (a1 : Option Addr) (c1 : Nat) (bs1 : List UInt8) (ta : Option Addr) (tc : Nat) (l1 : List ByteArray) (m1 : Nat),m = bs1.length ∧ s = ((a1,bs1.length,c1),(ta,l1.length,tc)) ∧ Cells w a1 (bcells bs1) ∧ bs1.length ≤ c1 ∧ bs1.length ≤ m1 ∧
  l1.length + bs1.length ≤ bs.length ∧ Redo.records bs = (recordsF m1 bs1).map (l1 ++ ·) ∧ Hp [] w w' [.own 9 1 ta l1.length tc (l1.map .string)]) bs.length
  ⟨a,c,bs,none,0,[],bs.length,rfl,rfl,hc,hcap,Nat.le_refl _,by simp,by rw [Redo.records]; simp,(Hp.start w).nilS _ _⟩ ?_
 rintro m s w1 next ⟨a1,c1,bs1,ta,tc,l1,m1,rfl,rfl,hc1,hcap1,hm1,hsum,hrec,H⟩ hnext
 refine br_dec (fun h3 => ?_) (fun h3 => ?_)
 ·simp only at h3 ⊢
  have hne : bs1 ≠ [] := by rintro rfl; simp at h3
  obtain ⟨m2,rfl⟩ : ∃ m2,m1 = m2 + 1 := ⟨m1 - 1,by omega⟩
  rw [recordsF,if_neg hne] at hrec
  refine br_dec (fun h4 => ?_) (fun h4 => ?_)
  ·rw [if_pos (by omega)] at hrec
   exact rec_none hrec H
  rw [if_neg (by omega)] at hrec
  refine ⟨⟨by omega,by omega⟩,?_⟩
  have l4 : (bs1.take 4).length = 4 := by rw [List.length_take]; omega
  have e4 : (bcells bs1).take 4 = bcells (bs1.take 4) := by simp only [bcells,List.map_take]
  have ht := take_spec a1 (bs1.take 4) c1 (by omega) w1 (by rw [← e4]; exact (hc1.chg H.chg (by simp)).take 4)
  rw [l4] at ht
  have hlt := valN_lt (bs1.take 4)
  rw [l4] at hlt
  refine callV ht ?_
  rintro e w2 ⟨rfl,H'⟩
  replace H := H.ext0 H'; clear H' ht
  refine ⟨_,rfl,?_⟩
  obtain ⟨n,hn⟩ : ∃ n,n = valN (bs1.take 4) := ⟨_,rfl⟩
  rw [← hn] at hrec hlt ⊢
  have hn2 : n < 4294967296 := hlt
  have hw : IntKind.i64.wrap (n : Int) = (n : Int) := wrap64_id (by omega)
  rw [hw]
  refine br_dec (fun h5 => ?_) (fun h5 => ?_)
  ·rw [if_pos (by omega)] at hrec
   exact rec_none hrec H
  rw [if_neg (by omega)] at hrec
  refine ⟨inR64.2 (by omega),?_⟩
  refine br_dec (fun h6 => ?_) (fun h6 => ?_)
  ·rw [if_pos (by omega)] at hrec
   exact rec_none hrec H
  rw [if_neg (by omega)] at hrec
  refine ⟨inR64.2 (by omega),⟨by omega,by omega,by omega⟩,?_⟩
  have t1 : Int.toNat (4 + (n : Int)) = 4 + n := by omega
  have t2 : Int.toNat (4 : Int) = 4 := rfl
  rw [t1,t2]
  have hcs : Cells w2 (slA a1 c1 4 1) (bcells ((bs1.drop 4).take n)) := by
   have h7 := ((hc1.chg H.chg (by simp)).slA (c := c1) (i := 4) (by rw [bcells_length]; omega)).take n
   have e7 : ((bcells bs1).drop 4).take n = bcells ((bs1.drop 4).take n) := by simp only [bcells,List.map_take,List.map_drop]
   rw [e7] at h7; exact h7
  have lr : ((bs1.drop 4).take n).length = n := by rw [List.length_take,List.length_drop]; omega
  refine ⟨⟨((bs1.drop 4).take n).toArray⟩,b2s undSU8 undU8 undStr (by rw [byteCells_mk]; exact hcs) (by show 4 + n - 4 = ((bs1.drop 4).take n).toArray.size; rw [List.size_toArray,lr]; omega),?_⟩
  intro b w3 hnw; replace H := H.new (cs := [.string ⟨((bs1.drop 4).take n).toArray⟩]) (by exact ⟨rfl,rfl,rfl,rfl⟩) hnw; clear hnw
  refine Hp.app eltT (by omega) H.pull1 (by exact ⟨rfl,rfl,rfl,rfl⟩) (Blk.src (n := 1) undST (H.blk (.head _)) (by simp) (by rfl)) (by simp only [maxLen]; omega) (by omega) ?_
  clear H; intro a5 c5 w5 H
  refine ⟨inR64.2 (by omega),⟨by omega,by omega⟩,?_⟩
  have ld : (bs1.drop (4 + n)).length = bs1.length - (4 + n) := List.length_drop
  refine hnext (bs1.drop (4 + n)).length _ _ (by omega) ⟨_,_,bs1.drop (4 + n),a5,c5,l1 ++ [⟨((bs1.drop 4).take n).toArray⟩],m2,rfl,by rw [ld,List.length_append]; rfl,?_,by omega,by omega,by rw [List.length_append,ld]; simp; omega,?_,?_⟩
  ·have h7 := hc1.slA (c := c1) (i := 4 + n) (by rw [bcells_length]; omega)
   have e7 : (bcells bs1).drop (4 + n) = bcells (bs1.drop (4 + n)) := by simp only [bcells,List.map_drop]
   rw [e7] at h7; exact h7
  ·rw [hrec,Option.map_map]
   congr 1; funext q
   simp
  ·rw [List.length_append,List.map_append]
   exact H.done1
 ·simp only at h3 ⊢
  have hb : bs1 = [] := List.eq_nil_of_length_eq_zero (by omega)
  subst hb
  have hr : Redo.records bs = some l1 := by
   rw [hrec]
   cases m1 <;> simp [recordsF]
  rw [hr]
  exact ⟨_,_,rfl,H⟩
end Go.Proofs.YtdeebigmpffnbaaGreat
