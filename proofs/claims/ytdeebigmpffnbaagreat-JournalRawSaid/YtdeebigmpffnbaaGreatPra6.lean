/- Part 6 of 6 of the proof of journalRaw_holds: for every input, from every world that may be reached. -/
import Derived.WalkKit
import Derived.RangeFuncSeq
import Derived.KernelRfl
import Derived.RangeFuncLeaves
import Derived.Test.YtdeebigmpffnbaaGreatChecked
import Derived.Deep.AppendSrc
import Derived.Laws.MakeOwn
import Derived.Laws.BytesArg
import Derived.Laws.BytesString
import Derived.Laws.IdiomStrings
import Derived.Maps.RangeRun
import Derived.Shelf.SlIter.Nil
import Derived.Shelf.SlIterI.Nil
import Derived.Shelf.SortM.Plain
import Derived.Shelf.SortM.SortNone
import Derived.Shelf.SlMaps.Clone
import Derived.StringKeys
import Derived.Laws.Pointers
import Derived.Sort.Walk0
import Derived.Lib.SliceRun
import Derived.Test.YtdeebigmpffnbaaGreatRows
import Derived.ProofKit
import Derived.Laws.StructEq
import Derived.ChangeKeysEq
import Derived.WideKeyRuns
import Derived.Test.YtdeebigmpffnbaaGreatPra1
import Derived.Test.YtdeebigmpffnbaaGreatPra2
import Derived.Test.YtdeebigmpffnbaaGreatPra3
import Derived.Test.YtdeebigmpffnbaaGreatPra4
import Derived.Test.YtdeebigmpffnbaaGreatPra5
set_option linter.unusedVariables false
set_option linter.unusedSimpArgs false
set_option maxRecDepth 100000
namespace Go.Proofs.YtdeebigmpffnbaaGreat
open Go Go.Vc Go.Vault Go.Redo
def restG (y : GW) (x : DW) (s : St) : List Asn := poolA y x s :: fsA y s :: lgT y.lw s.lg :: lgB y.lw s.lg :: lgA y.lw x.b s.lg :: (frsL y.fs s.fs ++ dkL x s.d)
theorem st_rest (y : GW) (x : DW) (s : St) : (stL y x s).Perm (.blk y.jb y.jc 91 :: restG y x s) := by
 rw [stL,restG,deskL]; (refine perm_cnt fun f g a b c d=>?_;simp only[c,b,a];omega)
def ptrV (b : Nat) : Value := .pointer (some ⟨b,0,none⟩)
def jcW (y : GW) (x : DW) (p : JP) (tt : Nat) (wt : Int) : List Value := jcV (ptrV x.b) (ptrV y.lw.b) (ptrV y.pb) p (some tt) wt
def yj (y : GW) (x : DW) (p : JP) (tt : Nat) (wt : Int) : GW := { y with jc := jcW y x p tt wt }
def jallL (y : GW) (x : DW) (s : St) (p : JP) (tt : Nat) (wt : Int) (Ps : List AP) (T : Tou) : List Asn :=
 jpL y.jb (ptrV x.b) (ptrV y.lw.b) (ptrV y.pb) p (some tt) wt Ps ++ (touA tt T :: restG y x s)
def pgsL (p : JP) (tt : Nat) (Ps : List AP) (T : Tou) : List Asn := .own 99 1 p.pa p.bs.length p.pc (ptrsB p.bs) :: (List.zipWith pageA p.bs Ps ++ [touA tt T])
theorem jall_st (y : GW) (x : DW) (s : St) (p : JP) (tt : Nat) (wt : Int) (Ps : List AP) (T : Tou) : (jallL y x s p tt wt Ps T).Perm (stL (yj y x p tt wt) x s ++ pgsL p tt Ps T) := by
 have h := st_rest (yj y x p tt wt) x s
 rw [jallL,jpL,pgsL]
 refine perm_cnt fun ff gg h0 hc ha hpm => ?_
 have h9 := hpm _ _ h
 have e : restG (yj y x p tt wt) x s = restG y x s := rfl
 rw [e] at h9
 simp only [ha,hc,h0] at h9 ⊢
 have e2 : gg (Asn.blk (yj y x p tt wt).jb (yj y x p tt wt).jc 91) = gg (Asn.blk y.jb (jcV (ptrV x.b) (ptrV y.lw.b) (ptrV y.pb) p (some tt) wt) 91) := rfl
 omega
structure Idle (s : St) (n : Nat) : Prop where
 fr : ∀ f ∈ s.fs,f.dirty = false ∧ f.pins = 0 ∧ f.n < n
 len : s.fs.length ≤ s.many
 many : 4 ≤ s.many ∧ s.many ≤ 64
 hand : s.hand < 64
 turn : s.hand = 0 ∨ s.hand < s.fs.length
theorem Idle.hh {s : St} {n : Nat} (h : Idle s n) : s.fs.length = s.many → s.hand < s.fs.length := fun e => by
 have := h.turn
 have := h.many.1
 omega
theorem findN_none {s : St} {n : Nat} (h : ∀ f ∈ s.fs,f.n < n) : findN s.fs (n : Int) = none := find_none _ _ fun j f hf e => by
 have := h f (List.mem_of_getElem? hf)
 omega
theorem SameFs.idle {fs gs : List Fr} (h : SameFs fs gs) {n : Nat} (hf : ∀ f ∈ fs,f.dirty = false ∧ f.pins = 0 ∧ f.n < n) : ∀ g ∈ gs,g.dirty = false ∧ g.pins = 0 ∧ g.n < n := fun g hg => by
 obtain ⟨k,hk⟩ := List.getElem?_of_mem hg
 have hlt := (List.getElem?_eq_some_iff.1 hk).1
 rw [h.len] at hlt
 obtain ⟨h1,h2,h3,h4⟩ := h.at_ k _ g (List.getElem?_eq_getElem hlt) hk
 have := hf _ (List.getElem_mem hlt)
 exact ⟨by rw [h4]; exact this.1,by rw [h3]; exact this.2.1,by rw [h1]; exact this.2.2⟩
theorem idle_get {y1 : GW} {s s1 : St} {n a : Nat} (h : Idle s n) (hp : n < s.pages) (hg : GetOk y1 s s1 n a) :
  ∃ P,(readP s.d n).1 = some P ∧ s1.d = s.d ∧ s1.lg = s.lg ∧ s1.many = s.many ∧ s1.pages = s.pages ∧ Idle (doneP s1 n false).1 (n + 1) ∧ (doneP s1 n false).1.d = s.d ∧ (doneP s1 n false).1.lg = s.lg ∧ (doneP s1 n false).1.many = s.many ∧ (doneP s1 n false).1.pages = s.pages ∧
   (∀ f ∈ s1.fs,f.pins ≤ 1 ∧ f.n ≤ n ∧ f.dirty = false) ∧ s1.fs.length ≤ s1.many ∧ s1.hand < 64 ∧ ∃ (k : Nat) (f : Fr) (b : Nat),s1.fs[k]? = some f ∧ f.pg = P ∧ y1.fs[k]? = some (b,a) := by
 have hno := findN_none fun f hf => (h.fr f hf).2.2
 rcases hg with ⟨j,f,w,h1,_⟩ | ⟨s0,k,P,b,_,hP,hfree,hk,hy,rfl⟩
 ·rw [hno] at h1; cases h1
 ·have key : ∀ (fs0 : List Fr) (h0 : Nat),k < fs0.length → fs0.length ≤ s.many → h0 < 64 → (h0 = 0 ∨ h0 < fs0.length) → (∀ (j : Nat) (f : Fr),j ≠ k → fs0[j]? = some f → f.dirty = false ∧ f.pins = 0 ∧ f.n < n) → s0 = { s with fs := fs0,hand := h0 } →
    ∃ P,(readP s.d n).1 = some P ∧ s0.d = s.d ∧ s0.lg = s.lg ∧ s0.many = s.many ∧ max s0.pages (n + 1) = s.pages ∧ Idle (doneP { s0 with fs := s0.fs.set k ⟨n,P,1,false,true⟩,pages := max s0.pages (n + 1) } n false).1 (n + 1) ∧
     (doneP { s0 with fs := s0.fs.set k ⟨n,P,1,false,true⟩,pages := max s0.pages (n + 1) } n false).1.d = s.d ∧ (doneP { s0 with fs := s0.fs.set k ⟨n,P,1,false,true⟩,pages := max s0.pages (n + 1) } n false).1.lg = s.lg ∧
     (doneP { s0 with fs := s0.fs.set k ⟨n,P,1,false,true⟩,pages := max s0.pages (n + 1) } n false).1.many = s.many ∧ (doneP { s0 with fs := s0.fs.set k ⟨n,P,1,false,true⟩,pages := max s0.pages (n + 1) } n false).1.pages = s.pages ∧
     (∀ f ∈ s0.fs.set k ⟨n,P,1,false,true⟩,f.pins ≤ 1 ∧ f.n ≤ n ∧ f.dirty = false) ∧ (s0.fs.set k ⟨n,P,1,false,true⟩).length ≤ s.many ∧ s0.hand < 64 := by
   intro fs0 h0 hk0 hle hh ht hoth hs0
   subst hs0
   refine ⟨P,hP,rfl,rfl,rfl,by show max s.pages (n + 1) = s.pages; omega,?_⟩
   have hset : ∀ f ∈ fs0.set k ⟨n,P,1,false,true⟩,f = ⟨n,P,1,false,true⟩ ∨ (f.dirty = false ∧ f.pins = 0 ∧ f.n < n) := fun f hf => by
    obtain ⟨j,hj⟩ := List.getElem?_of_mem hf
    by_cases hjk : j = k
    ·subst hjk
     rw [List.getElem?_set_self hk0] at hj
     exact .inl (Option.some.inj hj).symm
    ·rw [List.getElem?_set_ne (fun h => hjk h.symm)] at hj
     exact .inr (hoth j f hjk hj)
   have hfind : findN (fs0.set k ⟨n,P,1,false,true⟩) (n : Int) = some k := by
    refine find_step _ _ k (fun j f hj hf e => ?_) (f := ⟨n,P,1,false,true⟩) (List.getElem?_set_self hk0) rfl
    rw [List.getElem?_set_ne (by omega)] at hf
    have := (hoth j f (by omega) hf).2.2
    omega
   have hd : ∀ pg,(doneP { s with fs := fs0.set k ⟨n,P,1,false,true⟩,hand := h0,pages := pg } n false).1 = { s with fs := fs0.set k ⟨n,P,0,false,true⟩,hand := h0,pages := pg } := fun pg => by
    rw [doneP]
    dsimp only
    rw [hfind]
    dsimp only
    rw [List.getElem?_set_self hk0]
    dsimp only
    rw [if_neg (by decide),List.set_set]; rfl
   refine ⟨?_,?_,?_,?_,?_,fun f hf => ?_,by rw [List.length_set]; exact hle,hh⟩
   ·show Idle (doneP { s with fs := fs0.set k ⟨n,P,1,false,true⟩,hand := h0,pages := max s.pages (n + 1) } n false).1 (n + 1)
    rw [hd]
    refine ⟨fun f hf => ?_,by rw [List.length_set]; exact hle,h.many,hh,by rw [List.length_set]; exact ht⟩
    obtain ⟨j,hj⟩ := List.getElem?_of_mem hf
    by_cases hjk : j = k
    ·subst hjk
     rw [List.getElem?_set_self hk0] at hj
     rw [← Option.some.inj hj]
     exact ⟨rfl,rfl,Nat.lt_succ_self _⟩
    ·rw [List.getElem?_set_ne (fun h => hjk h.symm)] at hj
     have := hoth j f hjk hj
     exact ⟨this.1,this.2.1,by omega⟩
   ·show (doneP { s with fs := fs0.set k ⟨n,P,1,false,true⟩,hand := h0,pages := max s.pages (n + 1) } n false).1.d = s.d
    rw [hd]
   ·show (doneP { s with fs := fs0.set k ⟨n,P,1,false,true⟩,hand := h0,pages := max s.pages (n + 1) } n false).1.lg = s.lg
    rw [hd]
   ·show (doneP { s with fs := fs0.set k ⟨n,P,1,false,true⟩,hand := h0,pages := max s.pages (n + 1) } n false).1.many = s.many
    rw [hd]
   ·show (doneP { s with fs := fs0.set k ⟨n,P,1,false,true⟩,hand := h0,pages := max s.pages (n + 1) } n false).1.pages = s.pages
    rw [hd]
    show max s.pages (n + 1) = s.pages
    omega
   ·rcases hset f hf with rfl | h2
    ·exact ⟨Nat.le_refl _,Nat.le_refl _,rfl⟩
    ·exact ⟨by rw [h2.2.1]; omega,by omega,h2.1⟩
  have hfin : (∃ P',(readP s.d n).1 = some P' ∧ s0.d = s.d ∧ s0.lg = s.lg ∧ s0.many = s.many ∧ max s0.pages (n + 1) = s.pages ∧ Idle (doneP { s0 with fs := s0.fs.set k ⟨n,P',1,false,true⟩,pages := max s0.pages (n + 1) } n false).1 (n + 1) ∧
     (doneP { s0 with fs := s0.fs.set k ⟨n,P',1,false,true⟩,pages := max s0.pages (n + 1) } n false).1.d = s.d ∧ (doneP { s0 with fs := s0.fs.set k ⟨n,P',1,false,true⟩,pages := max s0.pages (n + 1) } n false).1.lg = s.lg ∧
     (doneP { s0 with fs := s0.fs.set k ⟨n,P',1,false,true⟩,pages := max s0.pages (n + 1) } n false).1.many = s.many ∧ (doneP { s0 with fs := s0.fs.set k ⟨n,P',1,false,true⟩,pages := max s0.pages (n + 1) } n false).1.pages = s.pages ∧
     (∀ f ∈ s0.fs.set k ⟨n,P',1,false,true⟩,f.pins ≤ 1 ∧ f.n ≤ n ∧ f.dirty = false) ∧ (s0.fs.set k ⟨n,P',1,false,true⟩).length ≤ s.many ∧ s0.hand < 64) := by
   rcases hfree with ⟨hlt,hkl,F,hs0⟩ | ⟨hnl,fs1,h1,f,hsame,hh1,hf,hpin,hcase⟩
   ·refine key (s.fs ++ [F]) s.hand (by rw [hkl,List.length_append]; simp) (by rw [List.length_append]; simp only [List.length_singleton]; omega) h.hand (by have := h.turn; rw [List.length_append]; simp only [List.length_singleton]; omega) (fun j f hjk hf => ?_) hs0
    ·have hj := (List.getElem?_eq_some_iff.1 hf).1
     rw [List.length_append] at hj
     simp only [List.length_singleton] at hj
     rw [List.getElem?_append_left (by omega)] at hf
     exact h.fr f (List.mem_of_getElem? hf)
   ·have hid := hsame.idle h.fr
    rcases hcase with ⟨_,hs0⟩ | ⟨hd,_⟩
    ·have hl := hsame.len
     have hle := h.len
     refine key fs1 h1 (List.getElem?_eq_some_iff.1 hf).1 (by omega) (by have := h.many.2; omega) (.inr hh1) (fun j f hjk hf => hid f (List.mem_of_getElem? hf)) hs0
    ·have := (hid f (List.mem_of_getElem? hf)).1
     rw [hd] at this; cases this
  obtain ⟨P',e0,e1,e2,e3,e4,e5,e6,e7,e8,e9,e10,e11,e12⟩ := hfin
  rw [hP] at e0
  cases e0
  refine ⟨P,hP,e1,e2,e3,e4,e5,e6,e7,e8,e9,e10,?_,e12,k,⟨n,P,1,false,true⟩,b,List.getElem?_set_self hk,rfl,hy⟩
  show (s0.fs.set k ⟨n,P,1,false,true⟩).length ≤ s0.many
  rw [e3]; exact e11
end Go.Proofs.YtdeebigmpffnbaaGreat
namespace Go.Proofs.YtdeebigmpffnbaaGreat
open Go Go.Vc Go.Vault Go.Redo
structure Seat2 (y y1 : GW) (x x1 : DW) : Prop where
 jb : y1.jb = y.jb
 pb : y1.pb = y.pb
 lwb : y1.lw.b = y.lw.b
 xb : x1.b = x.b
theorem Seat2.refl (y : GW) (x : DW) : Seat2 y y x x := ⟨rfl,rfl,rfl,rfl⟩
theorem Seat2.trans {y y1 y2 : GW} {x x1 x2 : DW} (h : Seat2 y y1 x x1) (h' : Seat2 y1 y2 x1 x2) : Seat2 y y2 x x2 := ⟨h'.jb.trans h.jb,h'.pb.trans h.pb,h'.lwb.trans h.lwb,h'.xb.trans h.xb⟩
theorem yj_eq {y1 : GW} {x1 : DW} {p : JP} {tt : Nat} {wt : Int} (h : y1.jc = jcW y1 x1 p tt wt) : yj y1 x1 p tt wt = y1 := by
 obtain ⟨jb,jc,lw,pb,fa,fc,fs⟩ := y1
 simp only [yj]
 rw [← h]
theorem seat_yj {y y1 : GW} {x x1 : DW} {p : JP} {tt : Nat} {wt : Int} (h : SeatY (yj y x p tt wt) y1 x x1) : Seat2 y y1 x x1 ∧ yj y1 x1 p tt wt = y1 := by
 obtain ⟨h1,h2,h3,h4,h5⟩ := h
 refine ⟨⟨h1,h3,h4,h5⟩,yj_eq ?_⟩
 rw [h2]
 show jcW y x p tt wt = jcW y1 x1 p tt wt
 have h3 : y1.pb = y.pb := h3
 have h4 : y1.lw.b = y.lw.b := h4
 simp only [jcW,h3,h4,h5]
def HSz (d : Dk) (l : Lg) : Prop := 0 ≤ d.size nData ∧ 0 ≤ (flushP d l).1.size nData
theorem HSz.at {s : St} (h : HSz s.d s.lg) (n : Nat) : 0 ≤ (aheadR s n).1.size nData := by
 rw [aheadR]
 split
 ·exact h.1
 ·exact h.2
theorem lkT {B : List Nat} {w0 w w' : World} {L : List Asn} {tt : Nat} {T : Tou} (H : Hp B w0 w L) (e : Eqw w w') (m : touA tt T ∈ L) (n : Int) : Lk Tryz.prog 86 false w' (.map (some tt)) (.int .i64 n) (.int .i64 (T n : Int)) := by
 obtain ⟨l,hl,hm⟩ := tou_get ((H.go e).ok _ m)
 have := (lk_map gMII hm n).1
 rw [look_cnt hl] at this
 exact this
theorem mem_jb (y : GW) (x : DW) (s : St) (p : JP) (tt : Nat) (wt : Int) (Ps : List AP) (T : Tou) : Asn.blk y.jb (jcW y x p tt wt) 91 ∈ jallL y x s p tt wt Ps T := .head _
theorem mem_tt (y : GW) (x : DW) (s : St) (p : JP) (tt : Nat) (wt : Int) (Ps : List AP) (T : Tou) : touA tt T ∈ jallL y x s p tt wt Ps T := List.mem_append_right _ (.head _)
structure Rest (y : GW) (x : DW) (s : St) (p : JP) (Ps : List AP) (n : Nat) : Prop where
 fs : y.fs.length = s.fs.length
 dk : x.Ok s.d
 idle : Idle s n
 pages : s.pages ≤ 4096
 sz : HSz s.d s.lg
 bs : p.bs.length = Ps.length
 few : Ps.length ≤ 4096
theorem Rest.ok {y : GW} {x : DW} {s : St} {p : JP} {Ps : List AP} {n : Nat} (h : Rest y x s p Ps n) (hn : n ≤ 4096) (tt : Nat) (wt : Int) : StOk (yj y x p tt wt) x s :=
 ⟨h.fs,rfl,h.dk,by have := h.idle.len; have := h.idle.many.2; omega,fun f hf => by have := (h.idle.fr f hf).2.2; omega,fun f hf => by have := (h.idle.fr f hf).2.1; omega,.inl fun f hf => (h.idle.fr f hf).1,h.idle.hand,h.pages,h.idle.many.2⟩
theorem get_bad {s s1 : St} {n : Nat} {c : Int} (h : Idle s n) (hb : GetBad s s1 n c) : (readP s.d n).1 = none ∧ c = (readP s.d n).2 ∧ s1 = s := by
 rcases hb.2 with h1 | ⟨_,hnl,fs1,h1,hsame,_,⟨_,hall,_⟩ | ⟨k,f,g,hf,_,hd,_⟩⟩
 ·exact h1
 ·have hm := h.many.1
  have hlt : 0 < s.fs.length := by omega
  have h2 := hall _ (List.getElem_mem hlt)
  have h3 := (h.fr _ (List.getElem_mem hlt)).2.1
  omega
 ·have := (hsame.idle h.fr f (List.mem_of_getElem? hf)).1
  rw [hd] at this; cases this
set_option maxHeartbeats 2000000 in
theorem jread_spec (y : GW) (x : DW) (s : St) (p : JP) (tt : Nat) (wt : Int) (Ps : List AP) (T : Tou) (hr : Rest y x s p Ps 0) {N : Nat} (fit : s.d.Fit N) (hN : N ≤ 400000) (w : World) (st : Std w (jallL y x s p tt wt Ps T)) :
  Calls Tryz.prog 73 #[.pointer (some ⟨y.jb,0,none⟩),.map (some tt)] w fun e w' => e = .returned (.int .i64 (readAll s.d T (min s.pages 4096) 0 Ps).2) ∧
   ∃ (y' : GW) (x' : DW) (s' : St) (p' : JP) (m : Nat),Seat2 y y' x x' ∧ Rest y' x' s' p' (readAll s.d T (min s.pages 4096) 0 Ps).1 m ∧ m ≤ 4096 ∧ s'.d = s.d ∧ s'.lg = s.lg ∧ s'.many = s.many ∧ s'.pages = s.pages ∧
    Hp (feet (jallL y x s p tt wt Ps T)) w w' (jallL y' x' s' p' tt wt (readAll s.d T (min s.pages 4096) 0 Ps).1 T) := by
 apply jread.ok; unfold jread.vc
 have H := Hp.startL st
 generalize hB : feet (jallL y x s p tt wt Ps T) = B at H ⊢
 refine onP_mk rfl ⟨_,H.ld (o := 2) (by exact ⟨rfl,rfl,rfl,rfl⟩) gPP (mem_jb ..) rfl,?_⟩
 have H0 := H.perm (jall_st ..)
 refine callV (fpages_spec (yj y x p tt wt) x s w H0.std1) ?_
 rintro e w1 ⟨rfl,he⟩
 rw [he]
 clear H0 he
 refine ⟨_,rfl,?_⟩
 obtain ⟨M,hM⟩ : ∃ M,M = min s.pages 4096 := ⟨_,rfl⟩
 have hM1 : min (s.pages : Int) 4096 = (M : Int) := by omega
 rw [← hM,hM1]
 have hM4 : M ≤ 4096 := by omega
 have hMp : M ≤ s.pages := by omega
 clear hM hM1
 obtain ⟨Z,hZ⟩ : ∃ Z,Z = readAll s.d T M 0 Ps := ⟨_,rfl⟩
 rw [← hZ]
 refine LoopP.mk (fun m (sn : Int) w' => ∃ (n : Nat) (y1 : GW) (x1 : DW) (s1 : St) (p1 : JP) (Qs : List AP),m = M - n ∧ n ≤ M ∧ sn = (n : Int) ∧ readAll s.d T (M - n) n Qs = Z ∧ Seat2 y y1 x x1 ∧ Rest y1 x1 s1 p1 Qs n ∧ s1.d = s.d ∧ s1.lg = s.lg ∧ s1.many = s.many ∧ s1.pages = s.pages ∧
  Hp B w w' (jallL y1 x1 s1 p1 tt wt Qs T)) M ⟨0,y,x,s,p,Ps,rfl,by omega,rfl,hZ.symm,Seat2.refl y x,hr,rfl,rfl,rfl,rfl,H⟩ ?_
 clear H
 rintro m sn w1 next ⟨n,y1,x1,s1,p1,Qs,rfl,hn,rfl,hq,hs,hR,hd,hlg,hmany,hpages,H⟩ hnext
 refine br_dec (fun h1 => ?_) (fun h1 => ?_)
 ·have hnM : n < M := by omega
  rw [show M - n = (M - (n + 1)) + 1 by omega,readAll] at hq
  refine ⟨_,lkT H (by exact ⟨rfl,rfl,rfl,rfl⟩) (mem_tt ..) (n : Int),br_dec (fun h2 => ?_) (fun h2 => ?_)⟩
  ·rw [if_pos (by omega)] at hq
   have hjp := jpage_spec y1.jb (ptrV x1.b) (ptrV y1.lw.b) (ptrV y1.pb) p1 (some tt) wt Qs hR.bs hR.few n (by omega) w1 H.std1
   rw [hs.jb] at hjp
   refine callV hjp ?_
   rintro e w2 ⟨p2,b,rfl,hb,hl2,H'⟩
   rw [← hs.jb] at H'
   have H2 := H.useL H'
   refine ⟨_,rfl,inR64.2 (by omega),hnext (M - (n + 1)) _ _ (by omega) ⟨n + 1,y1,x1,s1,p2,_,rfl,by omega,by omega,hq,hs,?_,hd,hlg,hmany,hpages,H2⟩⟩
   refine ⟨hR.fs,hR.dk,⟨fun f hf => ?_,hR.idle.len,hR.idle.many,hR.idle.hand,hR.idle.turn⟩,hR.pages,hR.sz,hl2,by rw [growP_len]; have := hR.few; omega⟩
   have := hR.idle.fr f hf
   exact ⟨this.1,this.2.1,by omega⟩
  ·rw [if_neg (by omega)] at hq
   have hpb : ptrV y1.pb = ptrV y.pb := by rw [hs.pb]
   refine onP_mk rfl ⟨_,H.ld (o := 2) (b := y.jb) (T := 91) (cs := jcW y1 x1 p1 tt wt) (by exact ⟨rfl,rfl,rfl,rfl⟩) gPP (by rw [← hs.jb]; exact mem_jb ..) rfl,?_⟩
   have H0 := H.perm (jall_st ..)
   have fit1 : s1.d.Fit N := by rw [hd]; exact fit
   refine callV (getG_spec (yj y1 x1 p1 tt wt) x1 s1 (hR.ok (by omega) tt wt) fit1 hN (fun k => hR.sz.at k) hR.idle.len hR.idle.hh n (by omega) w1 H0.std1) ?_
   rintro e w2 ⟨y2,x2,s2,hseat,hx2,hy2,H',hcase⟩
   obtain ⟨hs2,hyj⟩ := seat_yj hseat
   have hpm2 := jall_st y2 x2 s2 p1 tt wt Qs T
   rw [hyj] at hpm2
   have H2 : Hp B w w2 (jallL y2 x2 s2 p1 tt wt Qs T) := (H0.useL H').perm hpm2.symm
   clear H H0 H'
   rcases hcase with ⟨a,rfl,hok⟩ | ⟨c,hc,rfl,hbad⟩
   ·obtain ⟨P,hP,hd2,hlg2,hm2,hpg2,hidle,e1,e2,e3,e4,hfr,hlen,hhand,k,f,b0,hf,hfP,hyk⟩ := idle_get hR.idle (by omega) hok
    have hrp : readP s.d n = (some P,(readP s.d n).2) := by rw [← hd]; exact Prod.ext hP rfl
    rw [hrp] at hq
    have hy2b : y2.jb = y.jb := by rw [hs2.jb,hs.jb]
    refine ⟨_,_,rfl,br_ndec (fun h => absurd rfl h) (fun _ => ?_)⟩
    have hjp := jpage_spec y2.jb (ptrV x2.b) (ptrV y2.lw.b) (ptrV y2.pb) p1 (some tt) wt Qs hR.bs hR.few n (by omega) w2 H2.std1
    rw [hy2b] at hjp
    refine callV hjp ?_
    rintro e w3 ⟨p2,b,rfl,hb,hl2,H'⟩
    rw [← hy2b] at H'
    have H3 := H2.useL H'
    clear H2 H'
    have hmem : pageA a P ∈ frsL y2.fs s2.fs := by
     rw [← hfP]
     exact frL_mem hyk hf _ (.tail _ (.head _))
    have hmem2 : pageA a P ∈ (jpL y2.jb (ptrV x2.b) (ptrV y2.lw.b) (ptrV y2.pb) p2 (some tt) wt (growP Qs (n + 1)) ++ (touA tt T :: restG y2 x2 s2)) :=
     List.mem_append_right _ (.tail _ (.tail _ (.tail _ (.tail _ (.tail _ (.tail _ (List.mem_append_left _ hmem)))))))
    obtain ⟨g,hRep,hgb⟩ := page_get (H3.ok _ hmem2)
    refine ⟨_,rfl,?_⟩
    refine callV (Sl.clone_any a g w3 ⟨hRep.ok,hgb⟩) ?_
    rintro e w4 ⟨b4,rfl,H'⟩
    have H4 := (H3.ext1 H').perm (M := jpL y2.jb (ptrV x2.b) (ptrV y2.lw.b) (ptrV y2.pb) p2 (some tt) wt (growP Qs (n + 1)) ++ (touA tt T :: (Sl.pgA b4 g :: restG y2 x2 s2))) (by (refine perm_cnt fun f g a b c d=>?_;simp only[c,b,a];omega))
    clear H3 H'
    refine ⟨_,rfl,onP_mk rfl ⟨_,_,_,Hp.ldPg H4 (by exact ⟨rfl,rfl,rfl,rfl⟩) hRep.ok (List.mem_append_right _ (.tail _ (.head _))),onP_mk rfl ?_⟩⟩
    refine store_page (g := g) (Q := P) hRep H4 (by exact ⟨rfl,rfl,rfl,rfl⟩) hb hl2 ?_
    clear H4; intro w5 H5
    have H6 : Hp B w w5 (jallL y2 x2 s2 p2 tt wt ((growP Qs (n + 1)).set n P) T) := by
     have := H5.perm (M := Sl.pgA b4 g :: jallL y2 x2 s2 p2 tt wt ((growP Qs (n + 1)).set n P) T) (by rw [jallL]; (refine perm_cnt fun f g a b c d=>?_;simp only[c,b,a];omega))
     exact this.drop
    clear H5
    refine onP_mk rfl ⟨_,H6.ld (o := 2) (b := y.jb) (T := 91) (cs := jcW y2 x2 p2 tt wt) (by exact ⟨rfl,rfl,rfl,rfl⟩) gPP (by rw [← hy2b]; exact mem_jb ..) rfl,?_⟩
    have H7 := H6.perm (jall_st ..)
    have ok2 : StOk (yj y2 x2 p2 tt wt) x2 s2 := by
     refine ⟨hy2,rfl,hx2,?_,fun f hf => ?_,fun f hf => ?_,?_,hhand,?_,?_⟩
     ·have := hR.idle.many.2; omega
     ·have := (hfr f hf).2.1; omega
     ·have := (hfr f hf).1; omega
     ·exact .inl fun f hf => (hfr f hf).2.2
     ·rw [hpg2]; exact hR.pages
     ·rw [hm2]; exact hR.idle.many.2
    refine callV (doneG_spec (yj y2 x2 p2 tt wt) x2 s2 ok2 n false w5 H7.std1) ?_
    rintro e w6 ⟨rfl,H'⟩
    have H8 := (H7.useL H').perm (jall_st ..).symm
    refine ⟨_,rfl,inR64.2 (by omega),hnext (M - (n + 1)) _ _ (by omega) ⟨n + 1,y2,x2,(doneP s2 n false).1,p2,_,rfl,by omega,by omega,hq,hs.trans hs2,?_,by rw [e1,hd],by rw [e2,hlg],by rw [e3,hmany],by rw [e4,hpages],H8⟩⟩
    refine ⟨?_,by rw [e1,← hd2]; exact hx2,hidle,by rw [e4]; exact hR.pages,by rw [e1,e2]; exact hR.sz,by rw [List.length_set]; exact hl2,by rw [List.length_set,growP_len]; have := hR.few; omega⟩
    rw [hy2,doneP]
    split
    ·rfl
    ·split
     ·rfl
     ·split
      ·rfl
      ·exact (List.length_set ..).symm
   ·obtain ⟨h3,h4,rfl⟩ := get_bad hR.idle hbad
    have hrp : readP s.d n = (none,c) := by rw [h4,← hd]; exact Prod.ext h3 rfl
    rw [hrp] at hq
    dsimp only at hq
    rw [← hq]
    refine ⟨_,_,rfl,br_ndec (fun _ => ⟨rfl,y2,x2,s2,p1,n,hs.trans hs2,⟨hy2,hx2,hR.idle,hR.pages,hR.sz,hR.bs,hR.few⟩,by omega,hd,hlg,hmany,hpages,H2⟩) (fun h => absurd h hc)⟩
 ·have hnM : n = M := by omega
  rw [hnM,Nat.sub_self,readAll] at hq
  rw [← hq]
  exact ⟨rfl,y1,x1,s1,p1,n,hs,hR,by omega,hd,hlg,hmany,hpages,H⟩
end Go.Proofs.YtdeebigmpffnbaaGreat
namespace Go.Proofs.YtdeebigmpffnbaaGreat
open Go Go.Vc Go.Vault Go.Redo
theorem Rest.pg {y : GW} {x : DW} {s : St} {p p' : JP} {Ps Ps' : List AP} {n : Nat} (h : Rest y x s p Ps n) (hb : p'.bs.length = Ps'.length) (hf : Ps'.length ≤ 4096) : Rest y x s p' Ps' n := ⟨h.fs,h.dk,h.idle,h.pages,h.sz,hb,hf⟩
theorem upP_le {T : Tou} {M : TM} (h : M.Ok) (n : Int) : upP T M n ≤ T n + 1 := by
 by_cases hm : n ∈ M.map (·.1)
 ·obtain ⟨e,he,rfl⟩ := List.mem_map.1 hm
  obtain ⟨l1,l2,rfl⟩ := List.append_of_mem he
  have hnd := h.nodup
  rw [List.map_append,List.map_cons,List.nodup_append] at hnd
  have h1 : e.1 ∉ l1.map (·.1) := fun hx => hnd.2.2 e.1 hx e.1 (.head _) rfl
  have h2 : e.1 ∉ l2.map (·.1) := (List.nodup_cons.1 hnd.2.1).1
  rw [upP,List.foldl_append]
  show upP ((upP T l1).up e.1) l2 e.1 ≤ _
  rw [upP_no h2,Tou.up,if_pos rfl,upP_no h1]
  exact Nat.le_refl _
 ·rw [upP_no hm]; omega
theorem restP_few {Ps : List AP} (h : Ps.length ≤ 4096) (l : List UInt8) : (restP Ps l).1.length ≤ 4096 := by
 unfold restP
 split
 ·exact h
 ·rename_i hn
  split
  ·exact h
  ·dsimp only
   rw [List.length_set,growP_len]
   omega
theorem restP_bad {Ps : List AP} {l : List UInt8} (h : (restP Ps l).2 ≠ 0) : (restP Ps l).1 = Ps := by
 unfold restP at h ⊢
 split
 ·rfl
 ·rename_i hn
  rw [if_neg hn] at h
  split
  ·rfl
  ·rename_i P hP
   rw [hP] at h
   exact absurd rfl h
def sizes (l : List ByteArray) : Nat := (l.map (·.size)).sum
theorem sizes_take {l : List ByteArray} {k : Nat} (h : k < l.length) : sizes (l.take (k + 1)) = sizes (l.take k) + l[k].size := by
 rw [List.take_succ_eq_append_getElem h]
 simp only [sizes,List.map_append,List.sum_append,List.map_cons,List.map_nil,List.sum_cons,List.sum_nil,Nat.add_zero]
theorem sizes_tk (l : List ByteArray) (k : Nat) : sizes (l.take k) ≤ sizes l := by
 have h : sizes l = sizes (l.take k) + sizes (l.drop k) := by
  conv => lhs; rw [← List.take_append_drop k l]
  simp only [sizes,List.map_append,List.sum_append]
 omega
set_option maxHeartbeats 4000000 in
theorem jrecover_spec (y : GW) (x : DW) (s : St) (p : JP) (t0 : Option Nat) (wt : Int) (hr : Rest y x s p [] 0) (hpg : s.pages = pagesP s.d) {N : Nat} (fit : s.d.Fit N) (hN : N ≤ 400000) (hal : s.lg.all.length ≤ 100000000) (hsz : sizes s.lg.all ≤ 100000000) (w : World)
  (st : Std w (jpL y.jb (ptrV x.b) (ptrV y.lw.b) (ptrV y.pb) p t0 wt [] ++ restG y x s)) :
  Calls Tryz.prog 40 #[.pointer (some ⟨y.jb,0,none⟩)] w fun e w' => e = .returned (.int .i64 (recoverP s.d s.lg.all).2) ∧
   ∃ (y' : GW) (x' : DW) (s' : St) (p' : JP) (tt m : Nat),Seat2 y y' x x' ∧ Rest y' x' s' p' (recoverP s.d s.lg.all).1.Ps m ∧ m ≤ 4096 ∧ s'.d = s.d ∧ s'.lg = s.lg ∧ s'.many = s.many ∧ s'.pages = s.pages ∧ (∀ n,(recoverP s.d s.lg.all).1.T n ≤ 2 * s.lg.all.length) ∧
    Hp (feet (jpL y.jb (ptrV x.b) (ptrV y.lw.b) (ptrV y.pb) p t0 wt [] ++ restG y x s)) w w' (jallL y' x' s' p' tt wt (recoverP s.d s.lg.all).1.Ps (recoverP s.d s.lg.all).1.T) := by
 apply jrecover.ok; unfold jrecover.vc
 have H := Hp.startL st
 generalize hB : feet (jpL y.jb (ptrV x.b) (ptrV y.lw.b) (ptrV y.pb) p t0 wt [] ++ restG y x s) = B at H ⊢
 refine onP_mk rfl ⟨_,H.ld (o := 1) (cs := jcV (ptrV x.b) (ptrV y.lw.b) (ptrV y.pb) p t0 wt) (by exact ⟨rfl,rfl,rfl,rfl⟩) gPL (.head _) rfl,?_⟩
 have K1 : Hp B w w ([lgA y.lw x.b s.lg,lgT y.lw s.lg] ++ (jpL y.jb (ptrV x.b) (ptrV y.lw.b) (ptrV y.pb) p t0 wt [] ++ (poolA y x s :: fsA y s :: lgB y.lw s.lg :: (frsL y.fs s.fs ++ dkL x s.d)))) := H.perm (by rw [restG]; (refine perm_cnt fun f g a b c d=>?_;simp only[c,b,a];omega))
 refine callV (lall_spec y.lw x.b s.lg (by omega) w K1.std1) ?_
 rintro e w1 ⟨la,lc,rfl,H'⟩
 replace H := H.ext1 H'
 clear K1 H'
 obtain ⟨all,hall⟩ : ∃ all,all = s.lg.all := ⟨_,rfl⟩
 rw [← hall] at H hal hsz ⊢
 refine ⟨_,_,_,rfl,?_⟩
 refine callV (jimages_spec la lc all hal w1 (H.ownA (.head _)).cells) ?_
 rintro e w2 ⟨tt,rfl,hT0,H'⟩
 replace H := H.ext1 H'
 clear H'
 refine ⟨_,rfl,?_⟩
 have H2 : Hp B w w2 (.blk y.jb (jcV (ptrV x.b) (ptrV y.lw.b) (ptrV y.pb) p t0 wt) 91 :: (.own 99 1 p.pa p.bs.length p.pc (ptrsB p.bs) :: List.zipWith pageA p.bs [] ++ (touA tt (imagesP all) :: (restG y x s ++ [.own 9 1 la all.length lc (all.map .string)])))) := H.perm (by rw [jpL]; (refine perm_cnt fun f g a b c d=>?_;simp only[c,b,a];omega))
 clear H
 refine onP_mk rfl (Hp.st (o := 4) H2 (by exact ⟨rfl,rfl,rfl,rfl⟩) gMSP rfl rfl (by simp [jcV]) (cs' := jcW y x p tt wt) rfl ?_)
 clear H2; intro w3 H
 have H2 : Hp B w w3 (jallL y x s p tt wt [] (imagesP all) ++ [.own 9 1 la all.length lc (all.map .string)]) := H.perm (by rw [jallL,jpL,← show jcW y x p tt wt = jcV (ptrV x.b) (ptrV y.lw.b) (ptrV y.pb) p (some tt) wt from rfl]; (refine perm_cnt fun f g a b c d=>?_;simp only[c,b,a];omega))
 clear H
 refine onP_mk rfl ⟨_,H2.ld (o := 4) (cs := jcW y x p tt wt) (by exact ⟨rfl,rfl,rfl,rfl⟩) gMSP (List.mem_append_left _ (mem_jb ..)) rfl,?_⟩
 refine callV (jread_spec y x s p tt wt [] (imagesP all) hr fit hN w3 H2.std1) ?_
 rintro e w4 ⟨rfl,y1,x1,s1,p1,m1,hs1,hR1,hm1,hd1,hlg1,hmany1,hpg1,H'⟩
 have H := H2.useL H'
 clear H2 H'
 obtain ⟨R,hRd⟩ : ∃ R,R = readAll s.d (imagesP all) (min s.pages 4096) 0 [] := ⟨_,rfl⟩
 rw [← hRd] at H hR1 ⊢
 have hrec : recoverP s.d all = if R.2 = 0 then recF all 0 ⟨R.1,imagesP all⟩ [] else (⟨R.1,imagesP all⟩,R.2) := by rw [recoverP,hRd,hpg]
 obtain ⟨Z,hZ⟩ : ∃ Z,Z = recoverP s.d all := ⟨_,rfl⟩
 rw [← hZ] at hrec ⊢
 refine ⟨_,rfl,br_ndec (fun h => ?_) (fun h => ?_)⟩
 ·rw [if_neg h] at hrec
  rw [hrec]
  exact ⟨rfl,y1,x1,s1,p1,tt,m1,hs1,hR1,hm1,hd1,hlg1,hmany1,hpg1,fun n => by have := hT0 n; show imagesP all n ≤ _; omega,H.takeL⟩
 rw [if_pos h] at hrec
 clear h
 refine LoopP.mk (fun m sv w' => ∃ (k : Nat) (J : JS) (g : List Chg1) (ga : Option Addr) (gc : Nat) (p2 : JP),m = all.length - k ∧ k ≤ all.length ∧ sv = ((ga,g.length,gc),(k : Int)) ∧ recF (all.drop k) k J g = Z ∧ Rest y1 x1 s1 p2 J.Ps m1 ∧ (∀ n,J.T n ≤ all.length + k) ∧ g.length ≤ sizes (all.take k) ∧
  Hp B w w' (jallL y1 x1 s1 p2 tt wt J.Ps J.T ++ [.own 9 1 la all.length lc (all.map .string),.own 73 4 ga g.length gc (chC g)])) all.length
  ⟨0,⟨R.1,imagesP all⟩,[],none,0,p1,rfl,by omega,rfl,hrec.symm,hR1,fun n => by have := hT0 n; show imagesP all n ≤ _; omega,Nat.zero_le _,(H.nilS 73 4).perm (M := jallL y1 x1 s1 p1 tt wt R.1 (imagesP all) ++ [.own 9 1 la all.length lc (all.map .string),.own 73 4 none 0 0 []]) (by (refine perm_cnt fun f g a b c d=>?_;simp only[c,b,a];omega))⟩ ?_
 clear H hrec hR1 hT0
 rintro m sv w5 next ⟨k,J,g,ga,gc,p2,rfl,hk,rfl,hrf,hR,hJT,hgl,H⟩ hnext
 dsimp only
 have good : ∀ {w' : World},(J,(180 : Int)) = Z → Hp B w w' (jallL y1 x1 s1 p2 tt wt J.Ps J.T ++ [.own 9 1 la all.length lc (all.map .string),.own 73 4 ga g.length gc (chC g)]) →
   Ending.returned (.int .i64 180) = Ending.returned (.int .i64 Z.2) ∧ ∃ (y' : GW) (x' : DW) (s' : St) (p' : JP) (tt m : Nat),Seat2 y y' x x' ∧ Rest y' x' s' p' Z.1.Ps m ∧ m ≤ 4096 ∧ s'.d = s.d ∧ s'.lg = s.lg ∧ s'.many = s.many ∧ s'.pages = s.pages ∧ (∀ n,Z.1.T n ≤ 2 * all.length) ∧ Hp B w w' (jallL y' x' s' p' tt wt Z.1.Ps Z.1.T) := by
  rintro w' rfl H
  exact ⟨rfl,y1,x1,s1,p2,tt,m1,hs1,hR,hm1,hd1,hlg1,hmany1,hpg1,fun n => by have := hJT n; show J.T n ≤ _; omega,H.takeL⟩
 refine br_dec (fun h1 => ?_) (fun h1 => ?_)
 ·have hkl : k < all.length := by omega
  rw [List.drop_eq_getElem_cons hkl,recF] at hrf
  have hszk := sizes_take hkl
  have hsz1 := sizes_tk all (k + 1)
  have hown := (H.ownA (e := 9) (List.mem_append_right _ (.head _))).cells
  have hat : (all.map Value.string)[k]? = some (.string all[k]) := by simp [hkl]
  obtain ⟨ad,ha,_⟩ := hown k _ hat
  refine onP_mk ha ⟨⟨by omega,by omega⟩,_,by rw [Int.toNat_natCast,Nat.mul_one]; exact hown.ld gStr ha hat,?_⟩
  have hss : all[k] = ⟨all[k].data.toList.toArray⟩ := (str_eta _).symm
  generalize all[k].data.toList = q at hss hrf
  rw [hss] at hrf hszk ⊢
  rw [sz_mk] at hrf hszk ⊢
  refine br_dec (fun h2 => ?_) (fun h2 => ?_)
  ·have h0 : q.length = 0 := by have := size0.1 h2; rw [sz_mk] at this; exact this
   rw [if_pos h0] at hrf
   exact good hrf H
  have h0 : q.length ≠ 0 := fun h => h2 (size0.2 (by rw [sz_mk]; exact h))
  rw [if_neg h0] at hrf
  have hqn : q ≠ [] := fun h => h0 (by rw [h]; rfl)
  have hh1 := sb_head q hqn 112
  have hh2 := sb_head q hqn 101
  refine ⟨⟨by omega,by omega⟩,br_dec (fun h3 => ?_) (fun h3 => ?_)⟩
  ·rw [if_pos (hh1.1 h3)] at hrf
   have H2 : Hp B w w5 (jpL y1.jb (ptrV x1.b) (ptrV y1.lw.b) (ptrV y1.pb) p2 (some tt) wt J.Ps ++ (touA tt J.T :: (restG y1 x1 s1 ++ [.own 9 1 la all.length lc (all.map .string),.own 73 4 ga g.length gc (chC g)]))) := H.perm (by rw [jallL]; (refine perm_cnt fun f g a b c d=>?_;simp only[c,b,a];omega))
   have hjr := jrestore_spec y1.jb (ptrV x1.b) (ptrV y1.lw.b) (ptrV y1.pb) p2 (some tt) wt J.Ps hR.bs hR.few q (by omega) w5 H2.std1
   rw [hs1.jb] at hjr
   refine callV hjr ?_
   rintro e w6 ⟨rfl,p3,hp3,H'⟩
   rw [← hs1.jb] at H'
   have H3 := H2.useL H'
   clear H H2 H'
   have hR3 : Rest y1 x1 s1 p3 (restP J.Ps q).1 m1 := hR.pg hp3 (restP_few hR.few q)
   have H4 : Hp B w w6 (jallL y1 x1 s1 p3 tt wt (restP J.Ps q).1 J.T ++ [.own 9 1 la all.length lc (all.map .string),.own 73 4 ga g.length gc (chC g)]) := H3.perm (by rw [jallL]; (refine perm_cnt fun f g a b c d=>?_;simp only[c,b,a];omega))
   clear H3
   refine ⟨_,rfl,br_ndec (fun h4 => ?_) (fun h4 => ?_)⟩
   ·rw [if_neg h4] at hrf
    rw [restP_bad h4] at H4 hR3
    rw [← hrf]
    exact ⟨rfl,y1,x1,s1,p3,tt,m1,hs1,hR3,hm1,hd1,hlg1,hmany1,hpg1,fun n => by have := hJT n; show J.T n ≤ _; omega,H4.takeL⟩
   ·rw [if_pos h4] at hrf
    exact ⟨inR64.2 (by omega),hnext (all.length - (k + 1)) _ _ (by omega) ⟨k + 1,⟨(restP J.Ps q).1,J.T⟩,g,ga,gc,p3,rfl,by omega,rfl,hrf,hR3,fun n => by have := hJT n; show J.T n ≤ _; omega,by omega,H4⟩⟩
  ·rw [if_neg (fun h => h3 (hh1.2 h))] at hrf
   refine ⟨⟨by omega,by omega⟩,?_⟩
   rw [ext_mk,List.take_length,show Int.toNat 1 = 1 from rfl]
   have hdl : (q.drop 1).length + 1 = q.length := by rw [List.length_drop]; omega
   refine callV (jtaken_spec (q.drop 1) (by omega) w5) ?_
   rintro e w6 (⟨htk,rfl,H'⟩ | ⟨L,a,c,htk,hLl,rfl,H'⟩)
   ·rw [hdl] at htk
    rw [htk] at hrf
    exact ⟨_,_,_,_,rfl,br_true (good hrf (H.ext0 H'))⟩
   rw [hdl] at htk
   rw [htk] at hrf
   dsimp only at hrf
   refine ⟨_,_,_,_,rfl,br_false ?_⟩
   have H2 : Hp B w w6 (.own 73 4 ga g.length gc (chC g) :: .own 73 4 a L.length c (chC L) :: (jallL y1 x1 s1 p2 tt wt J.Ps J.T ++ [.own 9 1 la all.length lc (all.map .string)])) := (H.ext1 H').perm (by (refine perm_cnt fun f g a b c d=>?_;simp only[c,b,a];omega))
   clear H H'
   have hownL := (H2.ownA (.tail _ (.head _)))
   refine Hp.app geltC (by omega) H2 (by exact ⟨rfl,rfl,rfl,rfl⟩) (Cells.src (n := L.length) gundSC hownL.cells (by rw [chC_len]) (fun u hu => chC_one hu) (fun ha => by
    rcases hownL.2 with h | ⟨_,_,_,h,_⟩
    ·exact h.2.1
    ·rw [ha] at h; cases h)) (by simp only [maxLen]; omega) (by omega) ?_
   clear H2; intro a7 c7 w7 H
   rw [← chC_append,← List.length_append] at H
   rw [← List.length_append]
   have hgl7 : (g ++ L).length ≤ sizes (all.take (k + 1)) := by rw [List.length_append]; omega
   refine ⟨⟨by omega,by omega⟩,br_dec (fun h4 => ?_) (fun h4 => ?_)⟩
   ·rw [if_pos (hh2.1 h4)] at hrf
    have H2 : Hp B w w7 (jpL y1.jb (ptrV x1.b) (ptrV y1.lw.b) (ptrV y1.pb) p2 (some tt) wt J.Ps ++ (touA tt J.T :: (restG y1 x1 s1 ++ [.own 9 1 la all.length lc (all.map .string),.own 73 4 a7 (g ++ L).length c7 (chC (g ++ L)),.own 73 4 a L.length c (chC L)]))) := H.perm (by rw [jallL]; (refine perm_cnt fun f g a b c d=>?_;simp only[c,b,a];omega))
    clear H
    have hjt := jtried_spec y1.jb (ptrV x1.b) (ptrV y1.lw.b) (ptrV y1.pb) p2 (some tt) wt J.Ps hR.bs hR.few a7 c7 (g ++ L) (by omega) w7 H2.std1 (H2.ownA (e := 73) (List.mem_append_right _ (.tail _ (List.mem_append_right _ (.tail _ (.head _)))))).cells
    rw [hs1.jb] at hjt
    refine callV hjt ?_
    rintro e w8 (⟨htr,rfl,H'⟩ | ⟨E,tb,htr,rfl,H'⟩)
    ·rw [htr] at hrf
     have H3 : Hp B w w8 (jallL y1 x1 s1 p2 tt wt J.Ps J.T ++ [.own 9 1 la all.length lc (all.map .string),.own 73 4 a7 (g ++ L).length c7 (chC (g ++ L)),.own 73 4 a L.length c (chC L)]) := (H2.ext0 H').perm (by rw [jallL]; (refine perm_cnt fun f g a b c d=>?_;simp only[c,b,a];omega))
     refine ⟨_,_,rfl,br_true ?_⟩
     rw [← hrf]
     exact ⟨rfl,y1,x1,s1,p2,tt,m1,hs1,hR,hm1,hd1,hlg1,hmany1,hpg1,fun n => by have := hJT n; show J.T n ≤ _; omega,H3.takeL⟩
    ·rw [htr] at hrf
     dsimp only at hrf
     have hEok := tried_ok htr
     refine ⟨_,_,rfl,br_false ⟨inR64.2 (by omega),?_⟩⟩
     have H3 : Hp B w w8 ((jpL y1.jb (ptrV x1.b) (ptrV y1.lw.b) (ptrV y1.pb) p2 (some tt) wt J.Ps ++ (touA tt J.T :: .imap tb .i64 (mapV peV E) :: pgsE E)) ++ (restG y1 x1 s1 ++ [.own 9 1 la all.length lc (all.map .string),.own 73 4 a7 (g ++ L).length c7 (chC (g ++ L)),.own 73 4 a L.length c (chC L)])) := (H2.ext H').perm (by (refine perm_cnt fun f g a b c d=>?_;simp only[c,b,a];omega))
     clear H2 H'
     have hjc := jchange_spec y1.jb (ptrV x1.b) (ptrV y1.lw.b) (ptrV y1.pb) p2 tt wt J.Ps hR.bs hR.few J.T (fun n => by have := hJT n; omega) tb E hEok (k + 1) w8 H3.std1
     rw [hs1.jb,show ((k + 1 : Nat) : Int) = (k : Int) + 1 by omega] at hjc
     refine callV hjc ?_
     rintro e w9 ⟨rfl,p3,hp3,H'⟩
     rw [← hs1.jb] at H'
     have H4 := H3.useL H'
     clear H3 H'
     refine ⟨rfl,inR64.2 (by omega),hnext (all.length - (k + 1)) _ _ (by omega) ⟨k + 1,⟨layP (k + 1) J.Ps (tmE E),upP J.T (tmE E)⟩,[],none,0,p3,rfl,by omega,rfl,hrf,hR.pg hp3 (layP_len hR.few fun e he => (hEok.key e he).2),fun n => ?_,Nat.zero_le _,?_⟩⟩
     ·have h5 := upP_le (T := J.T) hEok n
      have h6 := hJT n
      show upP J.T (tmE E) n ≤ _
      omega
     ·have H5 := (H4.nilS 73 4).perm (M := (jallL y1 x1 s1 p3 tt wt (layP (k + 1) J.Ps (tmE E)) (upP J.T (tmE E)) ++ [.own 9 1 la all.length lc (all.map .string),.own 73 4 none 0 0 []]) ++ [.own 73 4 a7 (g ++ L).length c7 (chC (g ++ L)),.own 73 4 a L.length c (chC L)]) (by rw [jallL]; (refine perm_cnt fun f g a b c d=>?_;simp only[c,b,a];omega))
      exact H5.takeL
   ·rw [if_neg (fun h => h4 (hh2.2 h))] at hrf
    have H2 : Hp B w w7 ((jallL y1 x1 s1 p2 tt wt J.Ps J.T ++ [.own 9 1 la all.length lc (all.map .string),.own 73 4 a7 (g ++ L).length c7 (chC (g ++ L))]) ++ [.own 73 4 a L.length c (chC L)]) := H.perm (by (refine perm_cnt fun f g a b c d=>?_;simp only[c,b,a];omega))
    exact ⟨inR64.2 (by omega),hnext (all.length - (k + 1)) _ _ (by omega) ⟨k + 1,J,g ++ L,a7,c7,p2,rfl,by omega,rfl,hrf,hR,fun n => by have := hJT n; omega,hgl7,H2.takeL⟩⟩
 ·have hke : k = all.length := by omega
  rw [hke,List.drop_length,recF] at hrf
  rw [← hrf]
  exact ⟨rfl,y1,x1,s1,p2,tt,m1,hs1,hR,hm1,hd1,hlg1,hmany1,hpg1,fun n => by have := hJT n; show J.T n ≤ _; omega,H.takeL⟩
end Go.Proofs.YtdeebigmpffnbaaGreat
namespace Go.Proofs.YtdeebigmpffnbaaGreat
open Go Go.Vc Go.Vault Go.Redo
structure Nms (d d' : Dk) : Prop where
 firm : d'.firm = d.firm
 chs : d'.chs = d.chs
theorem Nms.refl (d : Dk) : Nms d d := ⟨rfl,rfl⟩
theorem Nms.trans {a b c : Dk} (h : Nms a b) (h' : Nms b c) : Nms a c := ⟨h'.firm.trans h.firm,h'.chs.trans h.chs⟩
theorem Nms.find {d d' : Dk} (h : Nms d d') (n : ByteArray) : d'.find n = d.find n := by
 rw [Dk.find,Dk.find,Dk.names,Dk.names,h.firm,h.chs]
theorem nms_dies (d : Dk) : Nms d d.dies := by
 unfold Dk.dies; split <;> exact ⟨rfl,rfl⟩
theorem nms_denies (d : Dk) : Nms d d.denies := ⟨rfl,rfl⟩
theorem nms_put (d : Dk) (k : Nat) (f : Fl) : Nms d (d.put k f) := ⟨rfl,rfl⟩
theorem write_nms (d : Dk) (n : ByteArray) (i : Int) (b : List UInt8) : Nms d (d.write n i b).1 := by
 unfold Dk.write
 split
 ·exact .refl d
 split
 ·exact .refl d
 split
 ·exact .refl d
 split
 ·exact .refl d
 split
 ·exact nms_denies d
 ·exact ((nms_denies d).trans (nms_put _ _ _)).trans (nms_dies _)
theorem sync_nms (d : Dk) (n : ByteArray) : Nms d (d.sync n).1 := by
 unfold Dk.sync
 split
 ·exact .refl d
 split
 ·exact .refl d
 split
 ·exact nms_denies d
 ·dsimp only
  split
  ·exact (nms_denies d).trans (nms_dies _)
  ·exact ((nms_denies d).trans (nms_dies _)).trans (nms_put _ _ _)
theorem thn_nms {d : Dk} {r : Dk × Int} {f : Dk → Dk × Int} (h : Nms d r.1) (hf : ∀ d,Nms d (f d).1) : Nms d (thn r f).1 := by
 rw [thn]
 split
 ·exact h.trans (hf _)
 ·exact h
theorem dseal_nms (d : Dk) (n : ByteArray) (m f : Nat) : Nms d (dseal d n m f).1 :=
 thn_nms (thn_nms (sync_nms d n) fun d => write_nms d _ _ _) fun d => sync_nms d _
theorem dput_nms (n : ByteArray) (b : List UInt8) : ∀ (m k : Nat) (d : Dk),Nms d (dput n b m k d).1
 | 0,_,d => .refl d
 | m + 1,k,d => by
  rw [dput]
  split
  ·exact .refl d
  ·exact thn_nms (write_nms d _ _ _) fun d => dput_nms n b m (k + 1) d
theorem flushP_nms (d : Dk) (l : Lg) : Nms d (flushP d l).1 := by
 have h : Nms d (thn (dwrite d l.name l.b l.firm) fun d => dseal d l.name (l.mark + 1) l.b.length).1 := thn_nms (dput_nms _ _ _ _ d) fun d => dseal_nms d _ _ _
 unfold flushP
 split
 ·dsimp only
  split
  ·exact h
  ·exact h
 ·exact .refl d
theorem size_has {d : Dk} {n : ByteArray} : 0 ≤ d.size n ↔ ∃ k,d.find n = some k := by
 rw [Dk.size]
 constructor
 ·intro h
  cases hf : d.find n with
  | none => rw [hf] at h; simp at h
  | some k => exact ⟨k,rfl⟩
 ·rintro ⟨k,hk⟩
  rw [hk]
  exact Int.natCast_nonneg _
theorem create_has {d : Dk} {n : ByteArray} (h : (d.create n).2 = 0) : ∃ k,(d.create n).1.find n = some k := by
 unfold Dk.create at h ⊢
 split at h
 ·cases h
 ·rename_i h1
  split at h
  ·cases h
  ·rename_i h2
   rw [if_neg h1,if_neg h2]
   dsimp only
   rw [dies_find,find_change]
   refine ⟨d.files.length,?_⟩
   show nget (with_ _ _) n = _
   rw [nget_with]
   rw [if_pos rfl]
theorem fopen_has {d : Dk} (h : (fopenP d).2 = 0) : ∃ k,(fopenP d).1.find nData = some k := by
 unfold fopenP at h ⊢
 split at h
 ·rename_i h1
  rw [if_pos h1]
  exact create_has h
 ·rename_i h1
  rw [if_neg h1]
  exact size_has.1 (by show 0 ≤ d.size nData; omega)
theorem fopen_sz {d : Dk} (h : (fopenP d).2 = 0) (l : Lg) : HSz (fopenP d).1 l := by
 obtain ⟨k,hk⟩ := fopen_has h
 exact ⟨size_has.2 ⟨k,hk⟩,size_has.2 ⟨k,by rw [(flushP_nms _ l).find]; exact hk⟩⟩
theorem recordsF_sz : ∀ (m : Nat) (b : List UInt8) {l : List ByteArray},recordsF m b = some l → sizes l + 4 * l.length ≤ b.length
 | 0,b,l,h => by rw [recordsF] at h; cases h; simp [sizes]
 | m + 1,b,l,h => by
  rw [recordsF] at h
  split at h
  ·cases h; simp [sizes]
  split at h
  ·cases h
  split at h
  ·cases h
  split at h
  ·cases h
  ·rename_i h1 h2 h3 h4
   cases hr : recordsF m (b.drop (4 + valN (b.take 4))) with
   | none => rw [hr] at h; cases h
   | some r =>
    rw [hr] at h
    cases h
    have ih := recordsF_sz m _ hr
    rw [List.length_drop] at ih
    have hs : (⟨((b.drop 4).take (valN (b.take 4))).toArray⟩ : ByteArray).size ≤ valN (b.take 4) := by
     rw [sz_mk,List.length_take]; omega
    simp only [sizes,List.map_cons,List.sum_cons,List.length_cons] at ih ⊢
    omega
theorem records_sz {b : List UInt8} {l : List ByteArray} (h : records b = some l) : sizes l + 4 * l.length ≤ b.length := recordsF_sz _ b h
theorem findP_sz {d : Dk} {name : ByteArray} {N : Nat} (hN : d.size name ≤ N) (h : (findP d name).1 = 0) : sizes (findP d name).2.all + 4 * (findP d name).2.all.length ≤ N * 512 := by
 unfold findP at h ⊢
 split at h
 ·cases h
 ·rename_i h1
  rw [if_neg h1]
  dsimp only at h ⊢
  split at h
  ·rename_i h2
   rw [if_pos h2]
   split at h
   ·rename_i l hl
    have h3 := records_sz hl
    rw [List.length_take] at h3
    show sizes l + 4 * l.length ≤ N * 512
    omega
   ·cases h
  ·rename_i h2
   exact absurd h h2
theorem drenew_fit {d : Dk} {N : Nat} (h : d.Fit N) (name : ByteArray) (all : List ByteArray) : (drenew d name all).1.Fit (N + (framedAll all).length / 512 + 12) := by
 rw [drenew]
 refine thn_fit (N := N + (framedAll all).length / 512 + 11) ?_ (fun d hd => (Fit.syncNames hd).mono (by omega)) (by omega)
 exact thn_fit (N := N + (framedAll all).length / 512 + 10) (dfill_fit h (newN name) (framedAll all)) (fun d hd => (Fit.rename hd _ _).mono (by omega)) (by omega)
theorem openP_fit {d : Dk} {N : Nat} (h : d.Fit N) (name : ByteArray) : (openP d name).1.Fit (N + 12) := by
 unfold openP
 split
 ·exact h.mono (by omega)
 ·split
  ·exact h.mono (by omega)
  ·split
   ·exact h.mono (by omega)
   ·exact drenew_fit h name []
theorem fopenP_fit {d : Dk} {N : Nat} (h : d.Fit N) : (fopenP d).1.Fit (N + 1) := by
 unfold fopenP
 split
 ·exact Fit.create h nData
 ·exact h.mono (by omega)
theorem openP_sz {d : Dk} {N : Nat} (h : d.Fit N) (name : ByteArray) (h0 : (openP d name).2.1 = 0) : sizes (openP d name).2.2.all + 4 * (openP d name).2.2.all.length ≤ N * 512 := by
 unfold openP at h0 ⊢
 split at h0
 ·cases h0
 rename_i h1
 rw [if_neg h1]
 split at h0
 ·cases h0
 rename_i h2
 rw [if_neg h2]
 split at h0
 ·rename_i h3
  rw [if_pos h3]
  exact findP_sz (size_in h name).2 h0
 ·rename_i h3
  rw [if_neg h3]
  simp [Lg.anew,sizes]
end Go.Proofs.YtdeebigmpffnbaaGreat
namespace Go.Proofs.YtdeebigmpffnbaaGreat
open Go Go.Vc Go.Vault Go.Redo
theorem pages_in {d : Dk} {N : Nat} (h : d.Fit N) : 8 * pagesP d ≤ N + 7 := by
 have h1 := size_in h nData
 rw [pagesP]
 have h2 : Int.tdiv (d.size nData + 8 - 1) 8 ≤ ((N : Int) + 7) / 8 := by
  have : 0 ≤ d.size nData + 8 - 1 := by omega
  rw [Int.tdiv_eq_ediv_of_nonneg this]; omega
 omega
def JopenPost (x : DW) (d : Dk) (many : Nat) (w : World) (e : Ending) (w' : World) : Prop :=
 ∃ x' : DW,x'.b = x.b ∧ x'.Ok (jopenP d).1 ∧
  (((jopenP d).2.1 ≠ 0 ∧ e = .returned (.tuple #[.pointer none,.int .i64 (jopenP d).2.1]) ∧ Hp (feet (dkL x d)) w w' (dkL x' (jopenP d).1)) ∨
   ((jopenP d).2.1 = 0 ∧ ∃ (y : GW) (s : St) (p : JP) (tt m : Nat),e = .returned (.tuple #[.pointer (some ⟨y.jb,0,none⟩),.int .i64 0]) ∧ Rest y x' s p (jopenP d).2.2.2.Ps m ∧ m ≤ 4096 ∧ s.d = (jopenP d).1 ∧ s.lg = (jopenP d).2.2.1 ∧ s.many = many ∧ s.pages = pagesP s.d ∧
    (∀ n,(jopenP d).2.2.2.T n ≤ 2 * s.lg.all.length) ∧ Hp (feet (dkL x d)) w w' (jallL y x' s p tt 0 (jopenP d).2.2.2.Ps (jopenP d).2.2.2.T)))
set_option maxHeartbeats 2000000 in
theorem jopen_spec (x : DW) (d : Dk) (hok : x.Ok d) {N : Nat} (fit : d.Fit N) (hN : N ≤ 30000) (many : Nat) (hm : 4 ≤ many ∧ many ≤ 64) (w : World) (st : Std w (dkL x d)) :
  Calls Tryz.prog 11 #[.pointer (some ⟨x.b,0,none⟩),.int .i64 (many : Int)] w (JopenPost x d many w) := by
 apply jopen.ok; unfold jopen.vc
 unfold JopenPost
 have H := Hp.startL st
 generalize hB : feet (dkL x d) = B at H ⊢
 refine br_dec (fun h => by omega) (fun _ => br_dec (fun h => by omega) (fun _ => ?_))
 intro b0 w1 hn
 replace H := H.newI (by exact ⟨rfl,rfl,rfl,rfl⟩) .i64 hn
 clear hn
 intro b1 w2 hn
 replace H := H.new (cs := [ptrV x.b,.pointer none,.pointer none,.slice none 0 0,.map (some b0),.int .i64 0]) (by exact ⟨rfl,rfl,rfl,rfl⟩) hn
 clear hn
 have H1 : Hp B w w2 (dkL x d ++ [.imap b0 .i64 [],.blk b1 [ptrV x.b,.pointer none,.pointer none,.slice none 0 0,.map (some b0),.int .i64 0] 91]) := H.perm (by (refine perm_cnt fun f g a b c d=>?_;simp only[c,b,a];omega))
 clear H
 refine callV (open_spec x d hok fit (by omega) nLog w2 H1.std1) ?_
 rintro e w3 ⟨x1,hx1b,hx1,hcase⟩
 have fit1 := openP_fit fit nLog
 have hsz := openP_sz fit nLog
 have hjp : jopenP d = if (openP d nLog).2.1 ≠ 0 then ((openP d nLog).1,(openP d nLog).2.1,(openP d nLog).2.2,⟨[],fun _ => 0⟩) else
  if (fopenP (openP d nLog).1).2 ≠ 0 then ((fopenP (openP d nLog).1).1,(fopenP (openP d nLog).1).2,(openP d nLog).2.2,⟨[],fun _ => 0⟩) else
  ((fopenP (openP d nLog).1).1,(recoverP (fopenP (openP d nLog).1).1 (openP d nLog).2.2.all).2,(openP d nLog).2.2,(recoverP (fopenP (openP d nLog).1).1 (openP d nLog).2.2.all).1) := rfl
 generalize hJ : jopenP d = J at hjp ⊢
 generalize openP d nLog = O at hx1 hcase fit1 hsz hjp
 obtain ⟨d1,c1,lg⟩ := O
 dsimp only at hx1 hcase fit1 hsz hjp
 rcases hcase with ⟨hc,rfl,H'⟩ | ⟨hc,ly,rfl,H'⟩
 ·rw [if_pos hc] at hjp
  have H2 := H1.useL H'
  refine ⟨_,_,rfl,br_ndec (fun _ => ?_) (fun h => absurd h hc)⟩
  rw [hjp]
  exact ⟨x1,hx1b,hx1,.inl ⟨hc,rfl,H2.takeL⟩⟩
 rw [if_neg (fun h => h hc)] at hjp
 have hsz1 := hsz hc
 have H2 := H1.useL H'
 clear H1 H'
 refine ⟨_,_,rfl,br_ndec (fun h => absurd rfl h) (fun _ => ?_)⟩
 have H3 : Hp B w w3 (.blk b1 [ptrV x.b,.pointer none,.pointer none,.slice none 0 0,.map (some b0),.int .i64 0] 91 :: (.imap b0 .i64 [] :: lgA ly x.b lg :: lgT ly lg :: lgB ly lg :: dkL x1 d1)) := H2.perm (by (refine perm_cnt fun f g a b c d=>?_;simp only[c,b,a];omega))
 clear H2
 refine Hp.st (o := 1) H3 (by exact ⟨rfl,rfl,rfl,rfl⟩) gPL rfl rfl (by simp) (cs' := [ptrV x.b,ptrV ly.b,.pointer none,.slice none 0 0,.map (some b0),.int .i64 0]) rfl ?_
 clear H3; intro w4 H
 have H4 : Hp B w w4 (dkL x1 d1 ++ (.blk b1 [ptrV x.b,ptrV ly.b,.pointer none,.slice none 0 0,.map (some b0),.int .i64 0] 91 :: .imap b0 .i64 [] :: lgA ly x.b lg :: lgT ly lg :: [lgB ly lg])) := H.perm (by (refine perm_cnt fun f g a b c d=>?_;simp only[c,b,a];omega))
 clear H
 have hfo := fopenG_spec x1 d1 hx1 fit1 (by omega) many hm b1 w4 H4.std1
 rw [hx1b] at hfo
 refine callV hfo ?_
 rintro e w5 ⟨x2,hx2b,hx2,hcase⟩
 have fit2 := fopenP_fit fit1
 have hfs := fopen_sz (d := d1)
 have hrw : x2.b = x.b := by rw [hx2b,hx1b]
 generalize fopenP d1 = F at hx2 hcase fit2 hfs hjp
 obtain ⟨d2,c2⟩ := F
 dsimp only at hx2 hcase fit2 hfs hjp
 rcases hcase with ⟨hc2,rfl,H'⟩ | ⟨hc2,pb,rfl,H'⟩
 ·rw [if_pos hc2] at hjp
  have H5 := (H4.useL H').perm (M := .blk b1 [ptrV x.b,ptrV ly.b,.pointer none,.slice none 0 0,.map (some b0),.int .i64 0] 91 :: (dkL x2 d2 ++ (.imap b0 .i64 [] :: lgA ly x.b lg :: lgT ly lg :: [lgB ly lg]))) (by (refine perm_cnt fun f g a b c d=>?_;simp only[c,b,a];omega))
  clear H4 H'
  refine ⟨_,_,rfl,?_⟩
  refine Hp.st (o := 2) H5 (by exact ⟨rfl,rfl,rfl,rfl⟩) gPP rfl rfl (by simp) (cs' := [ptrV x.b,ptrV ly.b,.pointer none,.slice none 0 0,.map (some b0),.int .i64 0]) rfl ?_
  clear H5; intro w6 H
  refine br_ndec (fun _ => ?_) (fun h => absurd h hc2)
  rw [hjp]
  exact ⟨x2,hrw,hx2,.inl ⟨hc2,rfl,H.drop.takeL⟩⟩
 rw [if_neg (fun h => h hc2)] at hjp
 have H5 := (H4.useL H').perm (M := .blk b1 [ptrV x.b,ptrV ly.b,.pointer none,.slice none 0 0,.map (some b0),.int .i64 0] 91 :: (.imap b0 .i64 [] :: .blk pb (poolN x1 b1 many (pagesP d2)) 134 :: lgT ly lg :: lgB ly lg :: lgA ly x.b lg :: dkL x2 d2)) (by (refine perm_cnt fun f g a b c d=>?_;simp only[c,b,a];omega))
 clear H4 H'
 refine ⟨_,_,rfl,?_⟩
 refine Hp.st (o := 2) H5 (by exact ⟨rfl,rfl,rfl,rfl⟩) gPP rfl rfl (by simp) (cs' := [ptrV x.b,ptrV ly.b,ptrV pb,.slice none 0 0,.map (some b0),.int .i64 0]) rfl ?_
 clear H5; intro w6 H
 refine br_ndec (fun h => absurd rfl h) (fun _ => ?_)
 have hpi := pages_in fit2
 obtain ⟨y,hy⟩ : ∃ y : GW,y = ⟨b1,[],ly,pb,none,0,[]⟩ := ⟨_,rfl⟩
 obtain ⟨s,hs⟩ : ∃ s : St,s = ⟨d2,many,[],0,pagesP d2,lg⟩ := ⟨_,rfl⟩
 have hr : Rest y x2 s ⟨none,0,[]⟩ [] 0 := by
  subst hy hs
  exact ⟨rfl,hx2,⟨by simp,Nat.zero_le _,hm,by show 0 < 64; omega,.inl rfl⟩,by show pagesP d2 ≤ 4096; omega,hfs hc2 lg,rfl,Nat.zero_le _⟩
 have H6 : Hp B w w6 ((jpL y.jb (ptrV x2.b) (ptrV y.lw.b) (ptrV y.pb) ⟨none,0,[]⟩ (some b0) 0 [] ++ restG y x2 s) ++ [.imap b0 .i64 []]) := by
  have e1 : poolN x1 b1 many (pagesP d2) = poolC y x2 s := by subst hy hs; rw [poolN,poolC,hx2b]; rfl
  rw [e1] at H
  have H7 := (H.nilS 99 1).nilS 153 1
  subst hy hs
  refine H7.perm ?_
  rw [jpL,restG,hrw]
  have e2 : frsL ([] : List (Nat × Nat)) ([] : List Fr) = [] := rfl
  have e3 : fsA ⟨b1,[],ly,pb,none,0,[]⟩ ⟨d2,many,[],0,pagesP d2,lg⟩ = .own 153 1 none 0 0 [] := rfl
  have e4 : ptrsB ([] : List Nat) = [] := rfl
  have e5 : List.zipWith pageA ([] : List Nat) ([] : List AP) = [] := rfl
  have e6 : Asn.blk b1 (jcV (ptrV x.b) (ptrV ly.b) (ptrV pb) ⟨none,0,[]⟩ (some b0) 0) 91 = .blk b1 [ptrV x.b,ptrV ly.b,ptrV pb,.slice none 0 0,.map (some b0),.int .i64 0] 91 := rfl
  dsimp only
  rw [e2,e3,e4,e5,e6]
  rw [poolA,List.length_nil]
  (refine perm_cnt fun f g a b c d=>?_;simp only[c,b,a];omega)
 clear H
 have hsd : s.d = d2 := by rw [hs]
 have hsl : s.lg = lg := by rw [hs]
 have hsp : s.pages = pagesP s.d := by rw [hs]
 have hrec := jrecover_spec y x2 s ⟨none,0,[]⟩ (some b0) 0 hr hsp (by rw [hsd]; exact fit2) (by omega) (by rw [hsl]; omega) (by rw [hsl]; omega) w6 H6.std1
 have hyb : y.jb = b1 := by rw [hy]
 rw [hyb] at hrec
 refine callV hrec ?_
 rintro e w7 ⟨rfl,y',x',s',p',tt,m,hseat,hR,hm4,hd',hlg',hmany',hpg',hT',H'⟩
 rw [← hyb] at H'
 have H8 := H6.useL H'
 clear H6 H'
 rw [hsd,hsl] at hR H8 hT'
 rw [hsd,hsl]
 have hd2' : s'.d = d2 := hd'.trans hsd
 have hxb' : x'.b = x.b := by rw [hseat.xb,hrw]
 have hx' := hR.dk
 rw [hd2'] at hx'
 refine ⟨_,rfl,br_ndec (fun h => ?_) (fun h => ?_)⟩
 ·rw [hjp]
  refine ⟨x',hxb',hx',.inl ⟨h,rfl,?_⟩⟩
  have H9 := H8.takeL
  rw [jallL,restG,hd2'] at H9
  have H10 := H9.perm (M := dkL x' d2 ++ (jpL y'.jb (ptrV x'.b) (ptrV y'.lw.b) (ptrV y'.pb) p' (some tt) 0 (recoverP d2 lg.all).1.Ps ++ (touA tt (recoverP d2 lg.all).1.T :: poolA y' x' s' :: fsA y' s' :: lgT y'.lw s'.lg :: lgB y'.lw s'.lg :: lgA y'.lw x'.b s'.lg :: frsL y'.fs s'.fs))) (by (refine perm_cnt fun f g a b c d=>?_;simp only[c,b,a];omega))
  exact H10.takeL
 ·rw [hjp]
  have hjb : y'.jb = b1 := by rw [hseat.jb,hyb]
  refine ⟨x',hxb',hx',.inr ⟨h,y',s',p',tt,m,by rw [hjb],hR,hm4,hd2',hlg'.trans hsl,by rw [hmany',hs],by rw [hpg',hsp,hd2',hsd],?_,H8.takeL⟩⟩
  intro n
  rw [hlg',hsl]
  exact hT' n
end Go.Proofs.YtdeebigmpffnbaaGreat
namespace Go.Proofs.YtdeebigmpffnbaaGreat
open Go Go.Vc Go.Vault Go.Redo
theorem rise_len : ∀ (l : List Nat) (lo N : Nat),l.Pairwise (· < ·) → (∀ n ∈ l,lo ≤ n ∧ n < N) → lo ≤ N → l.length ≤ N - lo
 | [],lo,N,_,_,_ => by simp
 | x :: r,lo,N,hs,hb,hlo => by
  have hp := List.pairwise_cons.1 hs
  have hx := hb x (.head _)
  have := rise_len r (x + 1) N hp.2 (fun n hn => ⟨hp.1 n hn,(hb n (.tail _ hn)).2⟩) (by omega)
  simp only [List.length_cons]; omega
theorem rep_len {g : Sl.Pg} {L : Sl.Recs} {st : Nat} (h : Sl.Rep g L st) : L.length ≤ 120 := by
 have := rise_len (L.map (·.1)) 0 g.many (List.pairwise_map.2 h.sorted) (fun n hn => by
  obtain ⟨p,hp,rfl⟩ := List.mem_map.1 hn
  exact ⟨Nat.zero_le _,h.below p hp⟩) (Nat.zero_le _)
 rw [List.length_map] at this
 have := h.ok.many
 omega
def rowP (n : Nat) (q : Nat × List UInt8) : Chg1 := ⟨(n : Int),(q.1 : Int),⟨q.2.toArray⟩,false⟩
def rowsF : Nat → List AP → List Chg1
 | _,[] => []
 | n,P :: r => P.1.map (rowP n) ++ rowsF (n + 1) r
def rowsP (Ps : List AP) : List Chg1 := rowsF 0 Ps
theorem rowsF_snoc : ∀ (Ps : List AP) (n : Nat) (P : AP),rowsF n (Ps ++ [P]) = rowsF n Ps ++ P.1.map (rowP (n + Ps.length))
 | [],n,P => by simp [rowsF]
 | Q :: r,n,P => by
  have ih := rowsF_snoc r (n + 1) P
  simp only [List.cons_append,rowsF,ih,List.append_assoc,List.length_cons]
  rw [show n + 1 + r.length = n + (r.length + 1) by omega]
theorem chC_snoc (l : List Chg1) (c : Chg1) : chC (l ++ [c]) = chC l ++ [.int .i64 c.page,.int .i64 c.slot,.string c.s,.bool c.gone] := by rw [chC_append]; rfl
set_option maxHeartbeats 1000000 in
theorem jrows_spec (jb : Nat) (va vb vc : Value) (p : JP) (t : Option Nat) (wt : Int) (Ps : List AP) (hl : p.bs.length = Ps.length) (hsz : Ps.length ≤ 4096) (w : World) (st : Std w (jpL jb va vb vc p t wt Ps)) :
  Calls Tryz.prog 14 #[.pointer (some ⟨jb,0,none⟩)] w fun e w' => ∃ a c,e = .returned (.slice a (rowsP Ps).length c) ∧ (rowsP Ps).length ≤ 120 * Ps.length ∧ Hp [] w w' [.own 73 4 a (rowsP Ps).length c (chC (rowsP Ps))] := by
 apply jrows.ok; unfold jrows.vc
 refine onP_mk rfl ⟨_,_,_,(jp_blk st).ld (o := 3) gSP.agg rfl,?_⟩
 refine LoopP.mk (fun m s w' => ∃ (k : Nat) (a : Option Addr) (c : Nat),m = Ps.length - k ∧ k ≤ Ps.length ∧ s = ((a,(rowsF 0 (Ps.take k)).length,c),(k : Int)) ∧ (rowsF 0 (Ps.take k)).length ≤ 120 * k ∧ Hp [] w w' [.own 73 4 a (rowsF 0 (Ps.take k)).length c (chC (rowsF 0 (Ps.take k)))]) Ps.length
  ⟨0,none,0,rfl,by omega,rfl,by simp [rowsF],(Hp.start w).nilS 73 4⟩ ?_
 rintro m s w1 next ⟨k,a,c,rfl,hk,rfl,hcnt,H⟩ hnext
 dsimp only
 refine br_dec (fun h1 => ?_) (fun h1 => ?_)
 ·have hkl : k < Ps.length := by omega
  have hkb : k < p.bs.length := by omega
  have S := st.chg00 H.chg
  obtain ⟨ad,had,hldp⟩ := jp_ldP S hkb
  refine onP_mk had ⟨⟨by omega,by omega⟩,_,by rw [Int.toNat_natCast,Nat.mul_one]; exact hldp,?_⟩
  obtain ⟨g,hR,hb⟩ := jp_page S (List.getElem?_eq_getElem hkb) (List.getElem?_eq_getElem hkl)
  have hsnoc : rowsF 0 (Ps.take (k + 1)) = rowsF 0 (Ps.take k) ++ Ps[k].1.map (rowP k) := by
   rw [List.take_succ_eq_append_getElem hkl,rowsF_snoc,List.length_take,Nat.min_eq_left (by omega),Nat.zero_add]
  obtain ⟨acc,hacc⟩ : ∃ acc,acc = rowsF 0 (Ps.take k) := ⟨_,rfl⟩
  rw [← hacc] at hsnoc hcnt H ⊢
  generalize hP : Ps[k] = P at hR hsnoc
  have hlen := rep_len hR
  refine callV (Sl.slots_any hR hb) ?_
  rintro e w2 ⟨sa,sc,rfl,H'⟩
  have H2 := H.ext1 H'
  clear H H'
  refine ⟨_,_,_,rfl,?_⟩
  refine LoopP.mk (fun m s w' => ∃ (i : Nat) (a : Option Addr) (c : Nat),m = P.1.length - i ∧ i ≤ P.1.length ∧ s = ((a,(acc ++ (P.1.take i).map (rowP k)).length,c),(i : Int)) ∧ Hp [] w w' [.own 3 1 sa P.1.length sc (Sl.intC (P.1.map (·.1))),.own 73 4 a (acc ++ (P.1.take i).map (rowP k)).length c (chC (acc ++ (P.1.take i).map (rowP k)))]) P.1.length
   ⟨0,a,c,rfl,by omega,by simp,by rw [List.take_zero,List.map_nil,List.append_nil]; exact H2⟩ ?_
  clear H2 w2
  rintro m s w2 next1 ⟨i,a1,c1,rfl,hi,rfl,H⟩ hnext1
  dsimp only
  refine br_dec (fun h2 => ?_) (fun h2 => ?_)
  ·have hil : i < P.1.length := by omega
   have hat : (Sl.intC (P.1.map (·.1)))[i]? = some (.int .i64 (P.1[i].1 : Int)) := by simp [Sl.intC,hil]
   obtain ⟨ad2,had2,hld2⟩ := H.ldO (P := Tryz.prog) (t := 3) (by exact ⟨rfl,rfl,rfl,rfl⟩) gInt (.head _) hat
   refine onP_mk had2 ⟨⟨by omega,by omega⟩,_,by rw [Int.toNat_natCast,Nat.mul_one]; exact hld2,?_⟩
   have S2 := st.chg00 H.chg
   obtain ⟨g2,hR2,hb2⟩ := jp_page S2 (List.getElem?_eq_getElem hkb) (List.getElem?_eq_getElem hkl)
   rw [hP] at hR2
   refine callV (Sl.get_any hR2 hb2 (P.1[i].1 : Int)) ?_
   rintro e w3 ⟨rfl,H'⟩
   have H2 := H.ext0 H'
   clear H H'
   have hlk : Sl.lk P.1 (P.1[i].1 : Int) = some P.1[i].2 := Sl.lk_some hR2.sorted (List.getElem_mem hil)
   rw [hlk]
   refine ⟨_,_,rfl,?_⟩
   intro b w4 hn
   replace H2 := H2.new (cs := [.int .i64 (k : Int),.int .i64 (P.1[i].1 : Int),.string ⟨P.1[i].2.toArray⟩,.bool false]) (by exact ⟨rfl,rfl,rfl,rfl⟩) hn
   clear hn
   have hcl : (acc ++ (P.1.take i).map (rowP k)).length ≤ 120 * k + i := by rw [List.length_append,List.length_map,List.length_take]; omega
   refine Hp.app geltC (by omega) H2.pull2 (by exact ⟨rfl,rfl,rfl,rfl⟩) (Blk.src (n := 1) gundSC (H2.blk (.head _)) rfl rfl) (by simp only [maxLen]; omega) (by omega) ?_
   clear H2
   intro a5 c5 w5 H
   have esn : acc ++ (P.1.take (i + 1)).map (rowP k) = (acc ++ (P.1.take i).map (rowP k)) ++ [rowP k P.1[i]] := by
    rw [List.take_succ_eq_append_getElem hil,List.map_append,List.append_assoc]; rfl
   have eln : (acc ++ (P.1.take (i + 1)).map (rowP k)).length = (acc ++ (P.1.take i).map (rowP k)).length + 1 := by rw [esn]; simp only [List.length_append,List.length_singleton]
   refine ⟨inR64.2 (by omega),hnext1 (P.1.length - (i + 1)) _ _ (by omega) ⟨i + 1,a5,c5,rfl,by omega,by rw [eln]; rfl,?_⟩⟩
   rw [eln,esn,chC_snoc]
   exact H.del1.pull1
  ·have hie : i = P.1.length := by omega
   subst hie
   rw [List.take_length,← hsnoc] at H ⊢
   refine ⟨inR64.2 (by omega),hnext (Ps.length - (k + 1)) _ _ (by omega) ⟨k + 1,a1,c1,rfl,by omega,rfl,?_,H.drop⟩⟩
   rw [hsnoc,List.length_append,List.length_map]
   omega
 ·have hke : k = Ps.length := by omega
  subst hke
  rw [List.take_length] at H hcnt ⊢
  exact ⟨a,c,rfl,hcnt,H⟩
end Go.Proofs.YtdeebigmpffnbaaGreat
namespace Go.Proofs.YtdeebigmpffnbaaGreat
open Go Go.Vc Go.Vault Go.Redo
theorem laid_len (c : Chg1) : (laidP c).length = 6 + (chB c).size := by
 have := str_len (chB c)
 simp only [laidP,List.length_append,be_length]; omega
set_option maxHeartbeats 1000000 in
theorem jlaid_spec (c : Chg1) (hc : ¬ badC c) (hs : c.s.size ≤ 1000000) (w : World) : Calls Tryz.prog 60 #[cgV c] w fun e w' => e = .returned (.string ⟨(laidP c).toArray⟩) ∧ Hp [] w w' [] := by
 obtain ⟨cp,cs,ct,cg⟩ := c
 apply jlaid.ok; unfold jlaid.vc
 unfold badC at hc
 dsimp only at hc hs
 have h1 : 0 ≤ cp := Int.not_lt.1 fun h => hc (.inl h)
 have h2 : cp < 4096 := Int.not_le.1 fun h => hc (.inr (.inl h))
 have h3 : 0 ≤ cs := Int.not_lt.1 fun h => hc (.inr (.inr (.inl h)))
 have h4 : cs < 120 := Int.not_le.1 fun h => hc (.inr (.inr (.inr (.inl h))))
 obtain ⟨pn,rfl⟩ : ∃ n : Nat,cp = n := ⟨cp.toNat,by omega⟩
 obtain ⟨sn,rfl⟩ : ∃ n : Nat,cs = n := ⟨cs.toNat,by omega⟩
 intro b w1 hn
 have H := (Hp.start w).new (cs := [.int .i64 (pn : Int),.int .i64 (sn : Int),.string ct,.bool cg]) (by exact ⟨rfl,rfl,rfl,rfl⟩) hn
 clear hn
 have key : ∀ (S : ByteArray) (g : Nat) (w2 : World),S.size ≤ 1000000 → g ≤ 1 → Hp [] w w2 [.blk b [.int .i64 (pn : Int),.int .i64 (sn : Int),.string S,.bool cg] 73] →
   ∃ i,Ld Tryz.prog 3 w2.drew ⟨b,0,none⟩ (.int .i64 i) ∧ ∃ i_1,Ld Tryz.prog 3 w2.drew ⟨b,1,none⟩ (.int .i64 i_1) ∧ ∃ s,Ld Tryz.prog 9 w2.drew ⟨b,2,none⟩ (.string s) ∧ ∃ s_1,Ld Tryz.prog 9 w2.drew ⟨b,2,none⟩ (.string s_1) ∧
    CallV Tryz.prog 57 [.int .i64 i,.int .i64 2] w2.drew fun e w' => ∃ s_2,e = .returned (.string s_2) ∧ Ld Tryz.prog 9 w' ⟨b,2,none⟩ (.string s_1) ∧ Ld Tryz.prog 9 w' ⟨b,2,none⟩ (.string s) ∧ Ld Tryz.prog 3 w' ⟨b,1,none⟩ (.int .i64 i_1) ∧
    CallV Tryz.prog 57 [.int .i64 i_1,.int .i64 1] w' fun e w' => ∃ s_3,e = .returned (.string s_3) ∧ Ld Tryz.prog 9 w' ⟨b,2,none⟩ (.string s_1) ∧ Ld Tryz.prog 9 w' ⟨b,2,none⟩ (.string s) ∧ ((s_2.size + s_3.size : Nat) : Int) ≤ 9223372036854775807 ∧
    CallV Tryz.prog 57 [.int .i64 (g : Int),.int .i64 1] w' fun e w' => ∃ s_4,e = .returned (.string s_4) ∧ Ld Tryz.prog 9 w' ⟨b,2,none⟩ (.string s_1) ∧ Ld Tryz.prog 9 w' ⟨b,2,none⟩ (.string s) ∧ (((s_2 ++ s_3).size + s_4.size : Nat) : Int) ≤ 9223372036854775807 ∧
    CallV Tryz.prog 57 [.int .i64 (s.size : Int),.int .i64 2] w' fun e w' => ∃ s_5,e = .returned (.string s_5) ∧ Ld Tryz.prog 9 w' ⟨b,2,none⟩ (.string s_1) ∧ (((s_2 ++ s_3 ++ s_4).size + s_5.size : Nat) : Int) ≤ 9223372036854775807 ∧
     (((s_2 ++ s_3 ++ s_4 ++ s_5).size + s_1.size : Nat) : Int) ≤ 9223372036854775807 ∧
     (Ending.returned (.string (s_2 ++ s_3 ++ s_4 ++ s_5 ++ s_1)) = .returned (.string ⟨(be (pn : Int) 2 ++ (be (sn : Int) 1 ++ (be (g : Int) 1 ++ (be (S.size : Int) 2 ++ S.data.toList)))).toArray⟩) ∧ Hp [] w w' []) := by
  intro S g w2 hS hg H
  refine ⟨_,H.drew.ld (o := 0) (by exact ⟨rfl,rfl,rfl,rfl⟩) gInt (.head _) rfl,_,H.drew.ld (o := 1) (by exact ⟨rfl,rfl,rfl,rfl⟩) gInt (.head _) rfl,_,H.drew.ld (o := 2) (by exact ⟨rfl,rfl,rfl,rfl⟩) gStr (.head _) rfl,_,H.drew.ld (o := 2) (by exact ⟨rfl,rfl,rfl,rfl⟩) gStr (.head _) rfl,?_⟩
  refine callV (jnum_spec pn (by omega) 2 (by omega) _) ?_
  rintro e w3 ⟨rfl,H'⟩
  have H3 := H.drew.ext0 H'
  clear H H'
  refine ⟨_,rfl,H3.ld (o := 2) (by exact ⟨rfl,rfl,rfl,rfl⟩) gStr (.head _) rfl,H3.ld (o := 2) (by exact ⟨rfl,rfl,rfl,rfl⟩) gStr (.head _) rfl,H3.ld (o := 1) (by exact ⟨rfl,rfl,rfl,rfl⟩) gInt (.head _) rfl,?_⟩
  refine callV (jnum_spec sn (by omega) 1 (by omega) _) ?_
  rintro e w4 ⟨rfl,H'⟩
  have H4 := H3.ext0 H'
  clear H3 H'
  refine ⟨_,rfl,H4.ld (o := 2) (by exact ⟨rfl,rfl,rfl,rfl⟩) gStr (.head _) rfl,H4.ld (o := 2) (by exact ⟨rfl,rfl,rfl,rfl⟩) gStr (.head _) rfl,by rw [sz_mk,sz_mk,be_length,be_length]; omega,?_⟩
  refine callV (jnum_spec g (by omega) 1 (by omega) _) ?_
  rintro e w5 ⟨rfl,H'⟩
  have H5 := H4.ext0 H'
  clear H4 H'
  refine ⟨_,rfl,H5.ld (o := 2) (by exact ⟨rfl,rfl,rfl,rfl⟩) gStr (.head _) rfl,H5.ld (o := 2) (by exact ⟨rfl,rfl,rfl,rfl⟩) gStr (.head _) rfl,by rw [mk_append,sz_mk,sz_mk,List.length_append,be_length,be_length,be_length]; omega,?_⟩
  refine callV (jnum_spec S.size (by omega) 2 (by omega) _) ?_
  rintro e w6 ⟨rfl,H'⟩
  have H6 := H5.ext0 H'
  clear H5 H'
  refine ⟨_,rfl,H6.ld (o := 2) (by exact ⟨rfl,rfl,rfl,rfl⟩) gStr (.head _) rfl,by rw [mk_append,mk_append,sz_mk,sz_mk,List.length_append,List.length_append,be_length,be_length,be_length,be_length]; omega,by rw [mk_append,mk_append,mk_append,sz_mk,List.length_append,List.length_append,List.length_append,be_length,be_length,be_length,be_length]; omega,?_,H6.drop⟩
  have e9 : ∀ x : List UInt8,(⟨x.toArray⟩ : ByteArray) ++ S = ⟨(x ++ S.data.toList).toArray⟩ := fun x => by
   have := mk_append x S.data.toList
   rw [str_eta] at this
   exact this
  simp only [mk_append,e9,List.append_assoc]
 refine ⟨_,H.ld (o := 3) (by exact ⟨rfl,rfl,rfl,rfl⟩) gBool (.head _) rfl,br_mk (fun h => ?_) (fun h => ?_)⟩
 ·refine Hp.st (o := 2) H (by exact ⟨rfl,rfl,rfl,rfl⟩) gStr rfl rfl (by simp) (cs' := [.int .i64 (pn : Int),.int .i64 (sn : Int),.string ⟨#[]⟩,.bool cg]) rfl ?_
  clear H; intro w2 H
  subst h
  exact key ⟨#[]⟩ 1 w2 (by show (0 : Nat) ≤ 1000000; omega) (by omega) H
 ·subst h
  exact key ct 0 w1 hs (by omega) H
end Go.Proofs.YtdeebigmpffnbaaGreat
namespace Go.Proofs.YtdeebigmpffnbaaGreat
open Go Go.Vc Go.Vault Go.Redo Go.Proofs Go.Sort Go.Maps Go.Shelf
theorem keysN_spec (mb : Option Nat) (w : World) : Calls Tryz.prog 49 #[.map mb] w fun e w' =>
  ∃ q,e = .returned (.func (.func 86) #[] #[.pointer (some ⟨q,0,none⟩)]) ∧ Hp [] w w' [.blk q [.map mb] 86] := by
 refine Calls.mono (callsIn_wide.1 (AnyZI.keys_in keysNL Fence.wide 5 trivial rfl mb w)) ?_
 rintro e w' ⟨rfl,rfl⟩
 exact ⟨_,rfl,(Hp.start w).new (w' := w) ⟨rfl,rfl,rfl,rfl⟩ ⟨rfl,rfl⟩⟩
set_option maxHeartbeats 1000000 in
theorem sortedN_spec (q b : Nat) (al : List (Int × Value)) (w : World) (hq : Blk w q [.map (some b)] 86) (hm : MapAt (intKey .i64) w b al) (l : List Int) (hp : l.Perm (al.map (·.1)))
  (hl : l.Pairwise fun x y => x < y) (hs : ∀ x ∈ l,-9223372036854775808 ≤ x ∧ x ≤ 9223372036854775807) (hmax : al.length * 8 ≤ 140737488355328) :
  Calls Tryz.prog 48 #[.func (.func 86) #[] #[.pointer (some ⟨q,0,none⟩)]] w fun e w' =>
   ∃ a c,e = .returned (.slice a l.length c) ∧ Hp [] w w' [.own 3 1 a l.length c (l.map (.int .i64))] := by
 have hnd : (al.map (·.1)).Nodup := hp.nodup_iff.1 (hl.imp fun h e => by omega)
 have hll : al.length ≤ maxLen := by simp only [maxLen]; omega
 obtain ⟨D,h1,h2,dl,rfl,h3⟩ := owns_of (P := Tryz.prog) (k := 3) hm hnd hll (fun s => .int .i64 s) (fun x y h => by injection h) (fun p hpm => keyOf_int_mk (by kernel_rfl) (by
  have := hs _ (hp.mem_iff.2 (List.mem_map.2 ⟨p,hpm,rfl⟩))
  simp only [Lit.wf,Bool.and_eq_true,decide_eq_true_eq]
  exact inR64.2 this))
 have hqlt := hq.lt
 have hseq : SeqGives Fence.wide 2 Tryz.prog 86 #[.pointer (some ⟨q,0,none⟩)] encZ (fun ss => ss.Perm (intKeys (.map dl))) (Maps.size (.map dl)) w :=
  AnyZI.keys_gives (ρ := keysNR) { keysNL with } Fence.wide _ trivial rfl (by omega) q b al.length (.map dl) w hqlt (hq.cell rfl) h1
 have cS := AnyZI.sorted_in sortedIL Fence.wide 5 trivial trivial trivial trivial rfl (by omega) (sortsI _) (enters_of Tryz.func85 (by kernel_rfl) rfl) 86 #[.pointer (some ⟨q,0,none⟩)] trivial (enters_of Tryz.func86 (by kernel_rfl) rfl) _ _ (by rw [h2]; exact hll) (by rw [h2]; exact hmax) w hseq
 change CallsIn _ _ Tryz.prog 48 _ _ _ at cS
 refine Calls.mono (callsIn_wide.1 cS) ?_
 rintro e w' ⟨v,ss,rfl,hS,hrow,hnil,hb⟩
 have hperm : ss.Perm l := by
  refine hS.trans ?_
  have e1 : intKeys (.map dl) = dl.map fun p => Go.intOf p.1 := rfl
  rw [e1]
  refine (h3.map _).trans ?_
  rw [List.map_map]
  have e2 : ((fun p : Lit × DataW Unit => Go.intOf p.1) ∘ fun p : Int × Value => (Lit.int IntKind.i64 p.1,DataW.nil)) = (·.1) := rfl
  rw [e2]
  exact hp.symm
 have hsort : ss.mergeSort (fun x y => decide (x ≤ y)) = l := by
  have tr : ∀ a b c : Int,decide (a ≤ b) = true → decide (b ≤ c) = true → decide (a ≤ c) = true := fun a b c h1 h2 => by simp only [decide_eq_true_eq] at *; omega
  have to : ∀ a b : Int,(decide (a ≤ b) || decide (b ≤ a)) = true := fun a b => by simp only [Bool.or_eq_true,decide_eq_true_eq]; omega
  refine List.Perm.eq_of_pairwise (le := fun a b => decide (a ≤ b) = true) (fun a b _ _ h1 h2 => ?_) (List.pairwise_mergeSort tr to ss) (hl.imp fun h => ?_) ((List.mergeSort_perm ss _).trans hperm)
  ·simp only [decide_eq_true_eq] at h1 h2; omega
  ·rw [decide_eq_true_eq]; omega
 have hlen : ss.length = l.length := hperm.length_eq
 rw [hsort,hlen] at hrow
 obtain ⟨a,c,rfl,H⟩ := hp_row hb hrow
 exact ⟨a,c,rfl,H⟩
-- own part
structure FreshOf (T : Tou) (l : List Chg1) (L : List Int) : Prop where
 rise : L.Pairwise (· < ·)
 mem : ∀ n,n ∈ L ↔ ∃ c ∈ l,c.page = n ∧ T n = 0
def frS (T : Tou) (M : Tou) (c : Chg1) : Tou := if T c.page = 0 then M.up c.page else M
theorem frS_pos (T : Tou) : ∀ (l : List Chg1) (M : Tou) (n : Int),0 < l.foldl (frS T) M n ↔ 0 < M n ∨ ∃ c ∈ l,c.page = n ∧ T n = 0
 | [],M,n => by simp
 | c :: r,M,n => by
  rw [List.foldl_cons,frS_pos T r]
  have h1 : 0 < frS T M c n ↔ 0 < M n ∨ (c.page = n ∧ T n = 0) := by
   unfold frS
   split
   ·rename_i h
    unfold Tou.up
    split
    ·rename_i h2
     subst h2
     exact ⟨fun _ => .inr ⟨rfl,h⟩,fun _ => Nat.succ_pos _⟩
    ·rename_i h2
     exact ⟨.inl,fun h3 => h3.elim id fun h4 => absurd h4.1.symm h2⟩
   ·rename_i h
    exact ⟨.inl,fun h3 => h3.elim id fun h4 => absurd (h4.1 ▸ h4.2) h⟩
  rw [h1]
  constructor
  ·rintro ((h | h) | ⟨d,hd,h⟩)
   ·exact .inl h
   ·exact .inr ⟨c,.head _,h⟩
   ·exact .inr ⟨d,.tail _ hd,h⟩
  ·rintro (h | ⟨d,hd,h⟩)
   ·exact .inl (.inl h)
   ·rcases List.mem_cons.1 hd with rfl | hd
    ·exact .inl (.inr h)
    ·exact .inr ⟨d,hd,h⟩
theorem frS_le (T : Tou) (M : Tou) (c : Chg1) {k : Nat} (h : ∀ n,M n ≤ k) : ∀ n,frS T M c n ≤ k + 1 := fun n => by
 have := h n
 unfold frS
 split
 ·unfold Tou.up
  split <;> omega
 ·omega
theorem sortZ_rise {zs : List Int} (h : zs.Nodup) : (sortZ zs).Pairwise (· < ·) := by
 have tr : ∀ a b c : Int,decide (a ≤ b) = true → decide (b ≤ c) = true → decide (a ≤ c) = true := fun a b c h1 h2 => by simp only [decide_eq_true_eq] at *; omega
 have to : ∀ a b : Int,(decide (a ≤ b) || decide (b ≤ a)) = true := fun a b => by simp only [Bool.or_eq_true,decide_eq_true_eq]; omega
 have h1 := List.pairwise_mergeSort tr to zs
 have h2 : (sortZ zs).Nodup := (List.mergeSort_perm zs _).nodup_iff.2 h
 rw [List.nodup_iff_pairwise_ne] at h2
 exact (List.Pairwise.and h1 h2).imp fun h => by
  have := h.1
  simp only [decide_eq_true_eq] at this
  have := h.2
  omega
theorem tou_len {T : Tou} {l : List (Int × Nat)} (h : TouL T l) (hk : ∀ n,0 < T n → 0 ≤ n ∧ n < 65536) : l.length ≤ 65536 := by
 have h1 : (sortZ (l.map (·.1))).Pairwise (· < ·) := sortZ_rise h.nodup
 have h2 := rise_len ((sortZ (l.map (·.1))).map Int.toNat) 0 65536 (List.pairwise_map.2 (h1.imp_of_mem fun {a b} ha hb hab => by
   have e1 := hk a ((h.keys a).1 (mem_sortZ.1 ha))
   have e2 := hk b ((h.keys b).1 (mem_sortZ.1 hb))
   omega)) (fun n hn => by
   obtain ⟨z,hz,rfl⟩ := List.mem_map.1 hn
   have e1 := hk z ((h.keys z).1 (mem_sortZ.1 hz))
   omega) (Nat.zero_le _)
 rw [List.length_map,sortZ_len,List.length_map] at h2
 omega
theorem tou_keys {w : World} {tb : Nat} {T : Tou} (h : (touA tb T).ok w) (hk : ∀ n,0 < T n → 0 ≤ n ∧ n < 65536) :
  ∃ L : List Int,L.Pairwise (· < ·) ∧ (∀ n,n ∈ L ↔ 0 < T n) ∧ L.length ≤ 65536 ∧ ∀ (w' : World),(touA tb T).ok w' → w' = w → CallV Tryz.prog 49 [.map (some tb)] w fun e w1 => ∃ v,e = .returned v ∧
   ∀ {R : Ending → World → Prop},(∀ (a : Option Addr) (c : Nat) (w2 : World),Hp [] w w2 [.own 3 1 a L.length c (L.map (.int .i64))] → R (.returned (.slice a L.length c)) w2) → CallV Tryz.prog 48 [v] w1 R := by
 obtain ⟨l,hl,hm⟩ := tou_get h
 have hlen := tou_len hl hk
 refine ⟨sortZ (l.map (·.1)),sortZ_rise hl.nodup,fun n => by rw [mem_sortZ,hl.keys],by rw [sortZ_len,List.length_map]; exact hlen,fun w' _ _ => ?_⟩
 refine callV (keysN_spec (some tb) w) ?_
 rintro e w1 ⟨q,rfl,H⟩
 refine ⟨_,rfl,fun {R} hR => ?_⟩
 have hm1 : MapAt (intKey .i64) w1 tb (mapV cntV l) := hm.chg H.chg (by simp)
 have hk1 : (mapV cntV l).map (·.1) = l.map (·.1) := by simp [mapV,List.map_map,Function.comp_def]
 refine callV (sortedN_spec q tb (mapV cntV l) w1 (H.blk (.head _)) hm1 (sortZ (l.map (·.1))) (by rw [hk1]; exact List.mergeSort_perm _ _) (sortZ_rise hl.nodup) (fun x hx => ?_) ?_) ?_
 ·have := hk x ((hl.keys x).1 (mem_sortZ.1 hx)); omega
 ·have : (mapV cntV l).length = l.length := by simp [mapV]
  omega
 ·rintro e w2 ⟨a,c,rfl,H'⟩
  exact hR a c w2 ((H.ext1 H').del1.done1)
set_option maxHeartbeats 1000000 in
theorem jfresh_spec (jb : Nat) (va vb vc : Value) (p : JP) (tt : Nat) (wt : Int) (Ps : List AP) (T : Tou) (ca : Option Addr) (cc : Nat) (l : List Chg1) (hll : l.length ≤ 100000000) (hpg : ∀ c ∈ l,0 ≤ c.page ∧ c.page < 4096) (w : World) (st : Std w (jpL jb va vb vc p (some tt) wt Ps)) (stt : Std w [touA tt T]) (hC : Cells w ca (chC l)) :
  Calls Tryz.prog 55 #[.pointer (some ⟨jb,0,none⟩),.slice ca l.length cc] w fun e w' => ∃ (L : List Int) (a : Option Addr) (c : Nat),FreshOf T l L ∧ L.length ≤ 65536 ∧ e = .returned (.slice a L.length c) ∧ Hp [] w w' [.own 3 1 a L.length c (L.map (.int .i64))] := by
 apply jfresh.ok; unfold jfresh.vc
 intro b w1 hn
 have H := (Hp.start w).newI (by exact ⟨rfl,rfl,rfl,rfl⟩) .i64 hn
 clear hn
 refine LoopP.mk (fun m s w' => ∃ (k : Nat) (M : Tou),m = l.length - k ∧ k ≤ l.length ∧ s = (k : Int) ∧ M = (l.take k).foldl (frS T) (fun _ => 0) ∧ (∀ n,M n ≤ k) ∧ Hp [] w w' [touA b M]) l.length ⟨0,fun _ => 0,rfl,by omega,rfl,rfl,fun _ => Nat.le_refl _,Hp.shutT TouL.nil H⟩ ?_
 clear H w1
 rintro m s w1 next ⟨k,M,rfl,hk,rfl,hM,hle,H⟩ hnext
 refine br_dec (fun h1 => ?_) (fun h1 => ?_)
 ·have hkl : k < l.length := by omega
  obtain ⟨ad,had,hld⟩ := chC_ld (hC.chg H.chg (by simp)) hkl
  have hst : (l.take (k + 1)).foldl (frS T) (fun _ => 0) = frS T M l[k] := by
   rw [List.take_succ_eq_append_getElem hkl,List.foldl_append,← hM]; rfl
  generalize l[k] = c at hld hst
  obtain ⟨cp,cs,ct,cg⟩ := c
  refine onP_mk had ⟨⟨by omega,by omega⟩,_,_,_,_,by rw [Int.toNat_natCast]; exact hld,?_⟩
  intro b2 w2 hn
  replace H := H.new (cs := [.int .i64 0,.int .i64 0,.string ⟨#[]⟩,.bool false]) (by exact ⟨rfl,rfl,rfl,rfl⟩) hn
  clear hn
  refine Hp.stA (o := 0) H (by exact ⟨rfl,rfl,rfl,rfl⟩) gaggC (vs := [.int .i64 cp,.int .i64 cs,.string ct,.bool cg]) rfl rfl (by simp) (cs' := [.int .i64 cp,.int .i64 cs,.string ct,.bool cg]) rfl ?_
  clear H; intro w3 H
  have S := st.chg00 H.drew.chg
  have SH := Hp.startL (stt.chg00 H.drew.chg)
  refine onP_mk rfl ⟨_,(jp_blk S).ld (o := 4) gMSP.agg rfl,_,H.drew.ld (o := 0) (by exact ⟨rfl,rfl,rfl,rfl⟩) gInt (.head _) rfl,_,lkT SH (by exact ⟨rfl,rfl,rfl,rfl⟩) (.head _) cp,?_⟩
  refine br_dec (fun h2 => ?_) (fun h2 => ?_)
  ·have h0 : T cp = 0 := by omega
   have e1 : frS T M ⟨cp,cs,ct,cg⟩ = M.up cp := if_pos h0
   obtain ⟨ml,hml,H2⟩ := Hp.openT H.drew.pull1
   have hMc := hle cp
   refine ⟨_,H.drew.ld (o := 0) (by exact ⟨rfl,rfl,rfl,rfl⟩) gInt (.head _) rfl,_,H2.lkI gMII (by exact ⟨rfl,rfl,rfl,rfl⟩) (.head _) (look_cnt hml cp),inR64.2 (by omega),?_⟩
   refine H2.mupI gMII (by exact ⟨rfl,rfl,rfl,rfl⟩) ?_
   intro w4 H3
   have e2 : Value.int .i64 ((M cp : Int) + 1) = cntV (M cp + 1) := by rw [cntV]; congr 1
   rw [e2,aput_map] at H3
   have H4 := (Hp.shutT (hml.up cp) H3).done1
   rw [e1] at hst
   exact ⟨inR64.2 (by omega),hnext (l.length - (k + 1)) _ _ (by omega) ⟨k + 1,M.up cp,rfl,by omega,by omega,hst.symm,fun n => by have := frS_le T M ⟨cp,cs,ct,cg⟩ hle n; rw [e1] at this; exact this,H4⟩⟩
  ·have h0 : T cp ≠ 0 := by omega
   have e1 : frS T M ⟨cp,cs,ct,cg⟩ = M := if_neg h0
   rw [e1] at hst
   exact ⟨inR64.2 (by omega),hnext (l.length - (k + 1)) _ _ (by omega) ⟨k + 1,M,rfl,by omega,by omega,hst.symm,fun n => by have := hle n; omega,H.drew.drop⟩⟩
 ·have hke : k = l.length := by omega
  subst hke
  rw [List.take_length] at hM
  have hpos := frS_pos T l (fun _ => 0)
  rw [← hM] at hpos
  obtain ⟨L,hL1,hL2,hL3,hL4⟩ := tou_keys (H.ok _ (.head _)) (fun n hn => by
   rcases (hpos n).1 hn with h | ⟨c,hc,rfl,_⟩
   ·exact absurd h (Nat.lt_irrefl _)
   ·have := hpg c hc; omega)
  have hc := hL4 w1 (H.ok _ (.head _)) rfl
  refine ⟨hc.1.mono ?_⟩
  rintro e w2 ⟨v,rfl,hR⟩
  refine ⟨v,rfl,hR fun a c w3 H' => ⟨_,_,_,rfl,L,a,c,⟨hL1,fun n => ?_⟩,hL3,rfl,(H.ext1 H').done1⟩⟩
  rw [hL2,hpos]
  exact ⟨fun h => h.elim (fun h => absurd h (Nat.lt_irrefl _)) id,.inr⟩
end Go.Proofs.YtdeebigmpffnbaaGreat
namespace Go.Proofs.YtdeebigmpffnbaaGreat
open Go Go.Vc Go.Vault Go.Redo
def imgR (n : Int) (g : Sl.Pg) : ByteArray := ⟨(112 :: (be n 2 ++ g.bs)).toArray⟩
def ImgsR (Ps : List AP) (L : List Int) (rs : List ByteArray) : Prop := ∃ G : Int → Sl.Pg,(∀ n ∈ L,Sl.Rep (G n) (pageP Ps n).1 (pageP Ps n).2) ∧ rs = L.map fun n => imgR n (G n)
theorem ImgsR.snoc {Ps : List AP} {L : List Int} {rs : List ByteArray} (h : ImgsR Ps L rs) {n : Int} (hn : n ∉ L) {g : Sl.Pg} (hg : Sl.Rep g (pageP Ps n).1 (pageP Ps n).2) : ImgsR Ps (L ++ [n]) (rs ++ [imgR n g]) := by
 obtain ⟨G,h1,rfl⟩ := h
 refine ⟨fun m => if m = n then g else G m,fun m hm => ?_,?_⟩
 ·by_cases e : m = n
  ·subst e
   simp only [if_true]; exact hg
  ·simp only [if_neg e]
   rcases List.mem_append.1 hm with h2 | h2
   ·exact h1 m h2
   ·exact absurd (List.mem_singleton.1 h2) e
 ·rw [List.map_append]
  congr 1
  ·refine List.map_congr_left fun m hm => ?_
   have e : m ≠ n := fun e => hn (e ▸ hm)
   simp only [if_neg e]
  ·simp
def packF : List Chg1 → List UInt8 → List (List UInt8)
 | [],b => [101 :: b]
 | c :: r,b => if 60000 < b.length + (laidP c).length then (100 :: b) :: packF r (laidP c) else packF r (b ++ laidP c)
def packR (l : List Chg1) : List ByteArray := (packF l []).map fun b => ⟨b.toArray⟩
def appAll (lg : Lg) (rs : List ByteArray) : Lg := rs.foldl (fun l s => (l.append s).1) lg
theorem appAll_snoc (lg : Lg) (rs : List ByteArray) (s : ByteArray) : appAll lg (rs ++ [s]) = ((appAll lg rs).append s).1 := by rw [appAll,List.foldl_append]; rfl
structure App (lg lg' : Lg) (rs : List ByteArray) : Prop where
 b : lg'.b = rs.foldl framed lg.b
 all : lg'.all = lg.all ++ rs
 name : lg'.name = lg.name
 mark : lg'.mark = lg.mark
 firm : lg'.firm = lg.firm
 many : lg'.many = lg.many
 code : lg'.code = lg.code
theorem appAll_app (lg : Lg) : ∀ (rs : List ByteArray),(∀ s ∈ rs,s.size ≤ 65536) → App lg (appAll lg rs) rs := by
 intro rs
 induction rs generalizing lg with
 | nil => intro _; exact ⟨rfl,by simp [appAll],rfl,rfl,rfl,rfl,rfl⟩
 | cons s r ih =>
  intro h
  have e : (lg.append s).1 = { lg with b := framed lg.b s,all := lg.all ++ [s] } := by
   rw [Lg.append,if_neg (by have := h s (.head _); omega)]
  have h1 := ih ({ lg with b := framed lg.b s,all := lg.all ++ [s] }) (fun t ht => h t (.tail _ ht))
  have e2 : appAll lg (s :: r) = appAll { lg with b := framed lg.b s,all := lg.all ++ [s] } r := by
   rw [appAll,List.foldl_cons,e]; rfl
  rw [e2]
  exact ⟨h1.b,by rw [h1.all]; simp,h1.name,h1.mark,h1.firm,h1.many,h1.code⟩
theorem framed_size (b : List UInt8) (s : ByteArray) : (framed b s).length = b.length + s.size + 4 := by
 have := str_len s
 rw [framed,List.length_append,List.length_append,be_length]; omega
theorem foldl_framed_len : ∀ (rs : List ByteArray) (b : List UInt8),(∀ s ∈ rs,s.size ≤ 65536) → (rs.foldl framed b).length ≤ b.length + rs.length * 65540
 | [],b,_ => by simp
 | s :: r,b,h => by
  have h1 := foldl_framed_len r (framed b s) (fun t ht => h t (.tail _ ht))
  have h2 := h s (.head _)
  rw [framed_size] at h1
  rw [List.foldl_cons,List.length_cons]
  omega
def growAll (Ps : List AP) (L : List Int) : List AP := L.foldl (fun Q n => growP Q (n.toNat + 1)) Ps
theorem pageP_grow (Ps : List AP) (m : Nat) (n : Int) : pageP (growP Ps m) n = pageP Ps n := by
 rw [pageP,pageP,growP_get]
 split
 ·rfl
 ·rename_i h
  rw [List.getElem?_eq_none (l := Ps) (by omega)]
theorem pageP_growAll (L : List Int) : ∀ (Ps : List AP) (n : Int),pageP (growAll Ps L) n = pageP Ps n := by
 induction L with
 | nil => intro Ps n; rfl
 | cons m r ih =>
  intro Ps n
  show pageP (growAll (growP Ps (m.toNat + 1)) r) n = _
  rw [ih,pageP_grow]
theorem growAll_len (L : List Int) : ∀ (Ps : List AP),Ps.length ≤ 4096 → (∀ n ∈ L,0 ≤ n ∧ n < 4096) → (growAll Ps L).length ≤ 4096 := by
 induction L with
 | nil => intro Ps h _; exact h
 | cons m r ih =>
  intro Ps h hL
  have := hL m (.head _)
  exact ih (growP Ps (m.toNat + 1)) (by rw [growP_len]; omega) fun n hn => hL n (.tail _ hn)
theorem finalF_good (Ps : List AP) : ∀ (l : List Chg1) (o : Ord) (la : Last) {r : Ord × Last},finalF Ps l o la = some r → ∀ c ∈ l,¬ badC c
 | [],_,_,_,_ => by simp
 | c :: r,o,la,z,h => by
  rw [finalF] at h
  split at h
  ·cases h
  rename_i hb
  intro d hd
  rcases List.mem_cons.1 hd with rfl | hd
  ·exact hb
  ·split at h
   ·split at h
    ·cases h
    ·exact finalF_good Ps r _ _ h d hd
   ·split at h
    ·cases h
    ·exact finalF_good Ps r _ _ h d hd
theorem tried_good {Ps : List AP} {l : List Chg1} {M : TM} (h : triedP Ps l = some M) : ∀ c ∈ l,¬ badC c := by
 unfold triedP at h
 split at h
 ·cases h
 ·rename_i hf
  exact finalF_good Ps l _ _ hf
theorem laid_small {c : Chg1} (h : ¬ badC c) : (laidP c).length ≤ 3606 := by
 rw [laid_len]
 have : (chB c).size ≤ 3600 := by
  unfold chB
  split
  ·exact Nat.zero_le _
  ·rename_i hg
   by_cases h2 : c.s.size ≤ 3600
   ·exact h2
   ·exact absurd (.inr (.inr (.inr (.inr ⟨by simpa using hg,by omega⟩)))) h
 omega
theorem packF_len : ∀ (l : List Chg1) (b : List UInt8),b.length ≤ 60000 → (∀ c ∈ l,¬ badC c) → (packF l b).length ≤ l.length + 1 ∧ ∀ x ∈ packF l b,x.length ≤ 60001
 | [],b,hb,_ => ⟨by simp [packF],fun x hx => by
   rw [packF,List.mem_singleton] at hx
   rw [hx,List.length_cons]; omega⟩
 | c :: r,b,hb,h => by
  have hc := laid_small (h c (.head _))
  have hr : ∀ d ∈ r,¬ badC d := fun d hd => h d (.tail _ hd)
  rw [packF]
  split
  ·obtain ⟨h1,h2⟩ := packF_len r (laidP c) (by omega) hr
   refine ⟨by rw [List.length_cons,List.length_cons]; omega,fun x hx => ?_⟩
   rcases List.mem_cons.1 hx with rfl | hx
   ·rw [List.length_cons]; omega
   ·exact h2 x hx
  ·rename_i hle
   obtain ⟨h1,h2⟩ := packF_len r (b ++ laidP c) (by rw [List.length_append]; omega) hr
   exact ⟨by rw [List.length_cons]; omega,h2⟩
def CommitR (lg : Lg) (Ps : List AP) (T : Tou) (wt : Int) (l : List Chg1) (lg' : Lg) (Ps' : List AP) (T' : Tou) (wt' : Int) (code : Int) : Prop :=
 (lg.code ≠ 0 ∧ code = 190 ∧ lg' = lg ∧ Ps' = Ps ∧ T' = T ∧ wt' = wt) ∨ (lg.code = 0 ∧ triedP Ps l = none ∧ code = 180 ∧ lg' = lg ∧ Ps' = Ps ∧ T' = T ∧ wt' = wt) ∨
 (lg.code = 0 ∧ code = 0 ∧ ∃ (M : TM) (L : List Int) (rs : List ByteArray),triedP Ps l = some M ∧ FreshOf T l L ∧ ImgsR Ps L rs ∧ lg' = appAll lg (rs ++ packR l) ∧ Ps' = layP lg'.all.length (growAll Ps L) M ∧ T' = upP T M ∧ wt' = wt + 1)
theorem hsz_any {d : Dk} (h : 0 ≤ d.size nData) (l : Lg) : HSz d l := by
 obtain ⟨k,hk⟩ := size_has.1 h
 exact ⟨h,size_has.2 ⟨k,by rw [(flushP_nms _ l).find]; exact hk⟩⟩
end Go.Proofs.YtdeebigmpffnbaaGreat
namespace Go.Proofs.YtdeebigmpffnbaaGreat
open Go Go.Vc Go.Vault Go.Redo
theorem sz_one (c : UInt8) (b : List UInt8) : (((ByteArray.mk #[c]).size + (ByteArray.mk b.toArray).size : Nat) : Int) = ((1 + b.length : Nat) : Int) := by
 have h := sz_mk b
 rw [h]; rfl
theorem hp_append {B : List Nat} {w w1 : World} {X : List Asn} {y : GW} {x : DW} {s : St} {p : JP} {tt : Nat} {wt : Int} {Ps : List AP} {T : Tou} (H : Hp B w w1 (jallL y x s p tt wt Ps T ++ X)) (r : ByteArray) (hb : s.lg.b.length + 70000 ≤ 1000000000) (ha : s.lg.all.length ≤ 1000000) (hr : r.size ≤ 65536) {R : Ending → World → Prop}
  (k : ∀ (lw : LW) (w2 : World),lw.b = y.lw.b → Hp B w w2 (jallL { y with lw := lw } x { s with lg := (s.lg.append r).1 } p tt wt Ps T ++ X) → R (.returned (.tuple #[.int .i64 ((s.lg.append r).1.all.length : Int),.int .i64 0])) w2) :
  CallV Tryz.prog 56 [.pointer (some ⟨y.lw.b,0,none⟩),.string r] w1 R := by
 have hc : (s.lg.append r).2 = 0 := by rw [Lg.append,if_neg (by omega)]
 have H1 : Hp B w w1 ([lgA y.lw x.b s.lg,lgT y.lw s.lg,lgB y.lw s.lg] ++ (jpL y.jb (ptrV x.b) (ptrV y.lw.b) (ptrV y.pb) p (some tt) wt Ps ++ (touA tt T :: poolA y x s :: fsA y s :: (frsL y.fs s.fs ++ dkL x s.d)) ++ X)) := H.perm (by rw [jallL,restG]; (refine perm_cnt fun f g a b c d=>?_;simp only[c,b,a];omega))
 refine callV (lappend_spec y.lw x.b s.lg r hb ha w1 H1.std1) ?_
 rintro e w2 ⟨⟨i,rfl,hi⟩,lw,hlw,H'⟩
 rw [hc,hi hc]
 refine k lw w2 hlw ?_
 have H2 := H1.useL H'
 refine H2.perm ?_
 rw [jallL,restG]
 have e1 : ptrV ({ y with lw := lw } : GW).lw.b = ptrV y.lw.b := by show ptrV lw.b = _; rw [hlw]
 have e2 : poolA { y with lw := lw } x { s with lg := (s.lg.append r).1 } = poolA y x s := rfl
 have e3 : fsA { y with lw := lw } { s with lg := (s.lg.append r).1 } = fsA y s := rfl
 rw [e1,e2,e3]
 (refine perm_cnt fun f g a b c d=>?_;simp only[c,b,a];omega)
theorem Rest.log {y : GW} {x : DW} {s : St} {p : JP} {Ps : List AP} {n : Nat} (h : Rest y x s p Ps n) (lw : LW) (lg : Lg) : Rest { y with lw := lw } x { s with lg := lg } p Ps n :=
 ⟨h.fs,h.dk,⟨h.idle.fr,h.idle.len,h.idle.many,h.idle.hand,h.idle.turn⟩,h.pages,hsz_any h.sz.1 lg,h.bs,h.few⟩
set_option maxHeartbeats 8000000 in
theorem jcommit_spec (y : GW) (x : DW) (s : St) (p : JP) (tt : Nat) (wt : Int) (Ps : List AP) (T : Tou) (m : Nat) (hr : Rest y x s p Ps m) (hwt : 0 ≤ wt ∧ wt ≤ 1000000) (hT : ∀ n,T n ≤ 100000000) (hlb : s.lg.b.length ≤ 100000000) (hla : s.lg.all.length ≤ 500000)
  (ca : Option Addr) (cc : Nat) (l : List Chg1) (hll : l.length ≤ 1000) (hls : ∀ c ∈ l,c.s.size ≤ 1000000) (w : World) (st : Std w (jallL y x s p tt wt Ps T)) (hC : ∀ W,Chg (feet (jallL y x s p tt wt Ps T)) w W → Cells W ca (chC l)) :
  Calls Tryz.prog 28 #[.pointer (some ⟨y.jb,0,none⟩),.slice ca l.length cc] w fun e w' => ∃ (code : Int) (lg' : Lg) (Ps' : List AP) (T' : Tou) (wt' : Int),CommitR s.lg Ps T wt l lg' Ps' T' wt' code ∧ e = .returned (.int .i64 code) ∧
   ∃ (lw : LW) (p' : JP),lw.b = y.lw.b ∧ Rest { y with lw := lw } x { s with lg := lg' } p' Ps' m ∧ Hp (feet (jallL y x s p tt wt Ps T)) w w' (jallL { y with lw := lw } x { s with lg := lg' } p' tt wt' Ps' T') := by
 apply jcommit.ok; unfold jcommit.vc
 have H := Hp.startL st
 generalize hB : feet (jallL y x s p tt wt Ps T) = B at H hC ⊢
 refine onP_mk rfl ⟨_,H.ld (o := 1) (by exact ⟨rfl,rfl,rfl,rfl⟩) gPL (mem_jb ..) rfl,?_⟩
 have K1 : Hp B w w ([lgA y.lw x.b s.lg] ++ (jpL y.jb (ptrV x.b) (ptrV y.lw.b) (ptrV y.pb) p (some tt) wt Ps ++ (touA tt T :: poolA y x s :: fsA y s :: lgT y.lw s.lg :: lgB y.lw s.lg :: (frsL y.fs s.fs ++ dkL x s.d)))) := H.perm (by rw [jallL,restG]; (refine perm_cnt fun f g a b c d=>?_;simp only[c,b,a];omega))
 refine callV (lstuck_spec y.lw x.b s.lg w K1.std1) ?_
 rintro e w1 ⟨rfl,H'⟩
 replace H := H.ext0 H'
 clear K1 H'
 have same : ∀ {w' : World} {code : Int},CommitR s.lg Ps T wt l s.lg Ps T wt code → Hp B w w' (jallL y x s p tt wt Ps T) → ∃ (code' : Int) (lg' : Lg) (Ps' : List AP) (T' : Tou) (wt' : Int),CommitR s.lg Ps T wt l lg' Ps' T' wt' code' ∧ Ending.returned (.int .i64 code) = .returned (.int .i64 code') ∧
   ∃ (lw : LW) (p' : JP),lw.b = y.lw.b ∧ Rest { y with lw := lw } x { s with lg := lg' } p' Ps' m ∧ Hp B w w' (jallL { y with lw := lw } x { s with lg := lg' } p' tt wt' Ps' T') := fun hc H => ⟨_,s.lg,Ps,T,wt,hc,rfl,y.lw,p,rfl,hr,H⟩
 refine ⟨_,rfl,br_ndec (fun h => ?_) (fun h => ?_)⟩
 ·exact same (.inl ⟨h,rfl,rfl,rfl,rfl,rfl⟩) H
 have hcode : s.lg.code = 0 := h
 have hjt := jtried_spec y.jb (ptrV x.b) (ptrV y.lw.b) (ptrV y.pb) p (some tt) wt Ps hr.bs hr.few ca cc l (by omega) w1 (Hp.std1 (L1 := jpL y.jb (ptrV x.b) (ptrV y.lw.b) (ptrV y.pb) p (some tt) wt Ps) H) (hC w1 H.chg)
 refine callV hjt ?_
 rintro e w2 (⟨htr,rfl,H'⟩ | ⟨E,tb,htr,rfl,H'⟩)
 ·exact ⟨_,_,rfl,br_true (same (.inr (.inl ⟨hcode,htr,rfl,rfl,rfl,rfl,rfl⟩)) (H.ext0 H'))⟩
 have hgood := tried_good htr
 have hEok := tried_ok htr
 have hpage : ∀ c ∈ l,0 ≤ c.page ∧ c.page < 4096 := fun c hc => by
  have := hgood c hc
  unfold badC at this
  exact ⟨Int.not_lt.1 fun h => this (.inl h),Int.not_le.1 fun h => this (.inr (.inl h))⟩
 have H2 : Hp B w w2 (jallL y x s p tt wt Ps T ++ (.imap tb .i64 (mapV peV E) :: pgsE E)) := (H.ext H').perm List.perm_append_comm
 clear H H'
 refine ⟨_,_,rfl,br_false ?_⟩
 have hst3 : Std w2 [touA tt T] := by
  have H3 := H2.perm (M := [touA tt T] ++ (jpL y.jb (ptrV x.b) (ptrV y.lw.b) (ptrV y.pb) p (some tt) wt Ps ++ restG y x s ++ (.imap tb .i64 (mapV peV E) :: pgsE E))) (by rw [jallL]; (refine perm_cnt fun f g a b c d=>?_;simp only[c,b,a];omega))
  exact H3.std1
 refine callV (jfresh_spec y.jb (ptrV x.b) (ptrV y.lw.b) (ptrV y.pb) p tt wt Ps T ca cc l (by omega) hpage w2 (Hp.std1 (L1 := jpL y.jb (ptrV x.b) (ptrV y.lw.b) (ptrV y.pb) p (some tt) wt Ps) (Hp.takeL H2)) hst3 (hC w2 H2.chg)) ?_
 rintro e w3 ⟨L,fa,fc,hL,hLl,rfl,H'⟩
 replace H2 := H2.ext1 H'
 clear H' hst3
 have hLp : ∀ n ∈ L,0 ≤ n ∧ n < 4096 := fun n hn => by
  obtain ⟨c,hc,rfl,_⟩ := (hL.mem n).1 hn
  exact hpage c hc
 have hLn : L.Nodup := by
  rw [List.nodup_iff_pairwise_ne]
  exact hL.rise.imp fun h => by omega
 obtain ⟨X,hX⟩ : ∃ X,X = [Asn.own 3 1 fa L.length fc (L.map (.int .i64))] ++ (.imap tb .i64 (mapV peV E) :: pgsE E) := ⟨_,rfl⟩
 have H3 : Hp B w w3 (jallL y x s p tt wt Ps T ++ X) := H2.perm (by rw [hX]; (refine perm_cnt fun f g a b c d=>?_;simp only[c,b,a];omega))
 clear H2
 refine ⟨_,_,_,rfl,?_⟩
 refine LoopP.mk (fun mm sv w' => ∃ (k : Nat) (rs : List ByteArray) (lw : LW) (p1 : JP),mm = L.length - k ∧ k ≤ L.length ∧ sv = (k : Int) ∧ ImgsR Ps (L.take k) rs ∧ rs.length = k ∧ (∀ r ∈ rs,r.size = 4099) ∧ lw.b = y.lw.b ∧
  Rest { y with lw := lw } x { s with lg := appAll s.lg rs } p1 (growAll Ps (L.take k)) m ∧ Hp B w w' (jallL { y with lw := lw } x { s with lg := appAll s.lg rs } p1 tt wt (growAll Ps (L.take k)) T ++ X)) L.length
  ⟨0,[],y.lw,p,rfl,by omega,rfl,⟨fun _ => Sl.gZ 4096,by simp,rfl⟩,rfl,by simp,rfl,hr,H3⟩ ?_
 clear H3 same
 rintro mm sv w4 next ⟨k,rs,lw,p1,rfl,hk,rfl,himg,hrl,hrs,hlw,hR,H⟩ hnext
 have hrs6 : ∀ r ∈ rs,r.size ≤ 65536 := fun r hr => by have := hrs r hr; omega
 have happ := appAll_app s.lg rs hrs6
 have hpsz : s.lg.b.length + rs.length * 4103 = (appAll s.lg rs).b.length := by
  rw [happ.b]
  clear happ H hR hnext himg hrl
  have : ∀ (rs : List ByteArray) (b : List UInt8),(∀ r ∈ rs,r.size = 4099) → b.length + rs.length * 4103 = (rs.foldl framed b).length := by
   intro rs
   induction rs with
   | nil => intro b _; simp
   | cons r t ih =>
    intro b h
    rw [List.foldl_cons,← ih (framed b r) (fun q hq => h q (.tail _ hq)),framed_size,h r (.head _),List.length_cons]; omega
  exact this rs s.lg.b hrs
 have hal : (appAll s.lg rs).all.length = s.lg.all.length + rs.length := by rw [happ.all,List.length_append]
 refine br_dec (fun h1 => ?_) (fun h1 => ?_)
 ·have hkl : k < L.length := by omega
  have hown := (H.ownA (e := 3) (xs := L.map (.int .i64)) (List.mem_append_right _ (by rw [hX]; exact .head _))).cells
  have hat : (L.map (Value.int .i64))[k]? = some (.int .i64 L[k]) := by simp [hkl]
  obtain ⟨ad,had,_⟩ := hown k _ hat
  have hn4 := hLp _ (List.getElem_mem hkl)
  have htk : L.take (k + 1) = L.take k ++ [L[k]] := List.take_succ_eq_append_getElem hkl
  have hnot : L[k] ∉ L.take k := fun hm => by
   have h1 : (L.take k ++ L.drop k).Nodup := by rw [List.take_append_drop]; exact hLn
   rw [List.drop_eq_getElem_cons hkl,List.nodup_append] at h1
   exact h1.2.2 _ hm _ (.head _) rfl
  refine onP_mk had ⟨⟨by omega,by omega⟩,_,by rw [Int.toNat_natCast,Nat.mul_one]; exact hown.ld gInt had hat,?_⟩
  clear hown hat
  generalize L[k] = n at hn4 htk hnot
  obtain ⟨nn,rfl⟩ : ∃ nn : Nat,n = nn := ⟨n.toNat,by omega⟩
  have hjb : ∀ {w' : World} {p2 : JP} {Qs : List AP} {Y : List Asn},Hp B w w' (jallL { y with lw := lw } x { s with lg := appAll s.lg rs } p2 tt wt Qs T ++ Y) → Ld Tryz.prog 87 w' ⟨y.jb,1,none⟩ (ptrV lw.b) := fun K => K.ld (o := 1) (b := y.jb) (T := 91) (by exact ⟨rfl,rfl,rfl,rfl⟩) gPL (List.mem_append_left _ (mem_jb { y with lw := lw } ..)) rfl
  refine onP_mk rfl ⟨_,hjb H.drew,?_⟩
  refine callV (jnum_spec nn (by omega) 2 (by omega) _) ?_
  rintro e w5 ⟨rfl,H'⟩
  have H5 := H.drew.ext0 H'
  clear H H'
  refine ⟨_,rfl,hjb H5,by rw [sz_one,be_length]; omega,?_⟩
  have hjp := jpage_spec y.jb (ptrV x.b) (ptrV lw.b) (ptrV y.pb) p1 (some tt) wt (growAll Ps (L.take k)) hR.bs hR.few nn (by omega) w5 (Hp.std1 (L1 := jpL y.jb (ptrV x.b) (ptrV lw.b) (ptrV y.pb) p1 (some tt) wt (growAll Ps (L.take k))) (Hp.takeL H5))
  refine callV hjp ?_
  rintro e w6 ⟨p2,b,rfl,hb,hl2,H'⟩
  have hgr : growP (growAll Ps (L.take k)) (nn + 1) = growAll Ps (L.take (k + 1)) := by rw [htk,growAll,growAll,List.foldl_append]; rfl
  rw [hgr] at hl2 H'
  have H6 : Hp B w w6 (jallL { y with lw := lw } x { s with lg := appAll s.lg rs } p2 tt wt (growAll Ps (L.take (k + 1))) T ++ X) := by
   have H5b : Hp B w w5 (jpL y.jb (ptrV x.b) (ptrV lw.b) (ptrV y.pb) p1 (some tt) wt (growAll Ps (L.take k)) ++ ((touA tt T :: restG { y with lw := lw } x { s with lg := appAll s.lg rs }) ++ X)) := by
    rw [← List.append_assoc]; exact H5
   have := H5b.useL H'
   rw [← List.append_assoc] at this
   exact this
  clear H5 H'
  refine ⟨_,rfl,hjb H6,?_⟩
  have hnb : nn < (growAll Ps (L.take (k + 1))).length := by rw [← hl2]; exact (List.getElem?_eq_some_iff.1 hb).1
  obtain ⟨g,hRep,hgb⟩ := jp_page (Hp.std1 (L1 := jpL y.jb (ptrV x.b) (ptrV lw.b) (ptrV y.pb) p2 (some tt) wt (growAll Ps (L.take (k + 1)))) (Hp.takeL H6)) hb (List.getElem?_eq_getElem hnb)
  have hPg : (growAll Ps (L.take (k + 1)))[nn] = pageP Ps (nn : Int) := by
   have := pageP_growAll (L.take (k + 1)) Ps (nn : Int)
   rw [← this,pageP,Int.toNat_natCast,List.getElem?_eq_getElem hnb]; rfl
  rw [hPg] at hRep
  refine callV (Sl.bytes_any b g w6 ⟨hRep.ok,hgb⟩) ?_
  rintro e w7 ⟨b7,rfl,H'⟩
  have hbl : g.bs.length = 4096 := hRep.ok.len
  have H7 := H6.ext1 H'
  have hcs : Cells w7 (some ⟨b7,0,none⟩) (bcells g.bs) := (H7.blk (.head _)).cells
  have H8 : Hp B w w7 (jallL { y with lw := lw } x { s with lg := appAll s.lg rs } p2 tt wt (growAll Ps (L.take (k + 1))) T ++ X) := H7.drop
  clear H6 H7 H'
  refine ⟨_,_,_,rfl,hjb H8,⟨g.bs.toArray⟩,b2s gundU gundU1 gundS (by rw [byteCells_mk]; exact hcs) (by rw [sz_mk,hbl]),?_⟩
  have e112 : (ByteArray.mk #[112] : ByteArray) ++ ⟨(be (nn : Int) 2).toArray⟩ = ⟨(112 :: be (nn : Int) 2).toArray⟩ := mk_append [112] _
  have e113 : (⟨(112 :: be (nn : Int) 2).toArray⟩ : ByteArray) ++ ⟨g.bs.toArray⟩ = imgR (nn : Int) g := by rw [mk_append]; rfl
  rw [e112,e113]
  have hisz : (imgR (nn : Int) g).size = 4099 := by
   rw [imgR,sz_mk,List.length_cons,List.length_append,be_length,hbl]
  refine ⟨by rw [sz_mk,sz_mk,List.length_cons,be_length,hbl]; omega,?_⟩
  refine hp_append (y := { y with lw := lw }) (s := { s with lg := appAll s.lg rs }) H8 (imgR (nn : Int) g) (by show (appAll s.lg rs).b.length + 70000 ≤ 1000000000; omega) (by show (appAll s.lg rs).all.length ≤ 1000000; omega) (by omega) ?_
  intro lw2 w8 hlw2 H9
  have hsn : ((appAll s.lg rs).append (imgR (nn : Int) g)).1 = appAll s.lg (rs ++ [imgR (nn : Int) g]) := (appAll_snoc _ _ _).symm
  have H10 : Hp B w w8 (jallL { y with lw := lw2 } x { s with lg := appAll s.lg (rs ++ [imgR (nn : Int) g]) } p2 tt wt (growAll Ps (L.take (k + 1))) T ++ X) := by rw [← hsn]; exact H9
  refine ⟨_,_,rfl,inR64.2 (by omega),hnext (L.length - (k + 1)) _ _ (by omega) ⟨k + 1,rs ++ [imgR (nn : Int) g],lw2,p2,rfl,by omega,by omega,by rw [htk]; exact himg.snoc hnot hRep,by rw [List.length_append,hrl]; rfl,fun r hr => ?_,hlw2.trans hlw,?_,H10⟩⟩
  ·rcases List.mem_append.1 hr with h | h
   ·exact hrs r h
   ·rw [List.mem_singleton] at h; rw [h]; exact hisz
  ·exact (hR.pg hl2 (growAll_len _ _ hr.few fun n hn => hLp n (List.mem_of_mem_take hn))).log lw2 _
 have hkL : k = L.length := by omega
 rw [hkL,List.take_length] at himg hR H
 rw [hkL] at hrl
 clear hnext h1 hk hkL
 clear k
 obtain ⟨lg1,hlg1⟩ : ∃ lg1,lg1 = appAll s.lg rs := ⟨_,rfl⟩
 rw [← hlg1] at hR H happ hpsz hal
 obtain ⟨Qs,hQs⟩ : ∃ Qs,Qs = growAll Ps L := ⟨_,rfl⟩
 rw [← hQs] at hR H
 have hpk := packF_len l [] (by simp) hgood
 refine LoopP.mk (fun mm (sv : ByteArray × Int) w' => ∃ (k : Nat) (bb : List UInt8) (ds : List ByteArray) (lw : LW),mm = l.length - k ∧ k ≤ l.length ∧ sv = (⟨bb.toArray⟩,(k : Int)) ∧ bb.length ≤ 60000 ∧ packR l = ds ++ (packF (l.drop k) bb).map (fun b => ⟨b.toArray⟩) ∧ lw.b = y.lw.b ∧
  Rest { y with lw := lw } x { s with lg := appAll lg1 ds } p1 Qs m ∧ Hp B w w' (jallL { y with lw := lw } x { s with lg := appAll lg1 ds } p1 tt wt Qs T ++ X)) l.length
  ⟨0,[],[],lw,rfl,by omega,rfl,by simp,rfl,hlw,hR,H⟩ ?_
 clear H hR hlw
 clear lw
 rintro mm sv w5 next ⟨k,bb,ds,lw,rfl,hk,rfl,hbb,hpack,hlw,hR,H⟩ hnext
 dsimp only
 have hpl : ∀ r ∈ packR l,r.size ≤ 60001 := fun r hr => by
  obtain ⟨q,hq,rfl⟩ := List.mem_map.1 hr
  rw [sz_mk]; exact hpk.2 q hq
 have hds : ∀ r ∈ ds,r.size ≤ 65536 := fun r hr => by
  have := hpl r (by rw [hpack]; exact List.mem_append_left _ hr); omega
 have hdl : ds.length ≤ 1001 := by
  have h1 : (packR l).length ≤ l.length + 1 := by rw [packR,List.length_map]; exact hpk.1
  rw [hpack,List.length_append] at h1; omega
 have happ2 := appAll_app lg1 ds hds
 have hb2 : (appAll lg1 ds).b.length + 70000 ≤ 1000000000 := by
  rw [happ2.b]
  have := foldl_framed_len ds lg1.b hds
  omega
 have ha2 : (appAll lg1 ds).all.length ≤ 1000000 := by
  rw [happ2.all,List.length_append]; omega
 have hjb : ∀ {w' : World} {p2 : JP} {Q2 : List AP} {wt2 : Int} {T2 : Tou} {lw2 : LW} {s2 : St} {Y : List Asn},lw2.b = y.lw.b → Hp B w w' (jallL { y with lw := lw2 } x s2 p2 tt wt2 Q2 T2 ++ Y) → Ld Tryz.prog 87 w' ⟨y.jb,1,none⟩ (ptrV y.lw.b) := fun hh K => by
  rw [← hh]
  exact K.ld (o := 1) (b := y.jb) (T := 91) (by exact ⟨rfl,rfl,rfl,rfl⟩) gPL (List.mem_append_left _ (mem_jb { y with lw := _ } ..)) rfl
 refine br_dec (fun h1 => ?_) (fun h1 => ?_)
 ·have hkl : k < l.length := by omega
  obtain ⟨ad,had,hld⟩ := chC_ld (hC w5 H.chg) hkl
  have hgk := hgood _ (List.getElem_mem hkl)
  have hsk := hls _ (List.getElem_mem hkl)
  rw [List.drop_eq_getElem_cons hkl,packF] at hpack
  generalize l[k] = c at hld hgk hsk hpack
  refine onP_mk had ⟨⟨by omega,by omega⟩,_,_,_,_,by rw [Int.toNat_natCast]; exact hld,?_⟩
  intro b2 w6 hn
  replace H := H.new (cs := [.int .i64 0,.int .i64 0,.string ⟨#[]⟩,.bool false]) (by exact ⟨rfl,rfl,rfl,rfl⟩) hn
  clear hn
  refine Hp.stA (o := 0) H (by exact ⟨rfl,rfl,rfl,rfl⟩) gaggC (vs := [.int .i64 c.page,.int .i64 c.slot,.string c.s,.bool c.gone]) rfl rfl (by simp) (cs' := [.int .i64 c.page,.int .i64 c.slot,.string c.s,.bool c.gone]) rfl ?_
  clear H; intro w7 H
  refine ⟨_,_,_,_,H.ldA (o := 0) (by exact ⟨rfl,rfl,rfl,rfl⟩) gaggC (.head _) (vs := [.int .i64 c.page,.int .i64 c.slot,.string c.s,.bool c.gone]) rfl rfl,?_⟩
  refine callV (jlaid_spec c hgk hsk w7) ?_
  rintro e w8 ⟨rfl,H'⟩
  have H2 := (H.ext0 H').drop
  clear H H'
  have hlc := laid_small hgk
  refine ⟨_,rfl,by rw [sz_mk,sz_mk]; exact inR64.2 (by omega),?_⟩
  rw [sz_mk,sz_mk]
  refine br_dec (fun h2 => ?_) (fun h2 => ?_)
  ·rw [if_pos (by omega)] at hpack
   refine onP_mk rfl ⟨_,hjb hlw H2,by show ((1 + bb.length : Nat) : Int) ≤ _; omega,?_⟩
   have e100 : (ByteArray.mk #[100] : ByteArray) ++ ⟨bb.toArray⟩ = ⟨(100 :: bb).toArray⟩ := mk_append [100] _
   rw [e100]
   have hcv := hp_append (y := { y with lw := lw }) (s := { s with lg := appAll lg1 ds }) H2 ⟨(100 :: bb).toArray⟩ hb2 ha2 (by rw [sz_mk,List.length_cons]; omega) (R := fun e w' => ∃ i i_3,e = .returned (.tuple #[.int .i64 i,.int .i64 i_3]) ∧ (((ByteArray.mk #[]).size + (laidP c).length : Nat) : Int) ≤ 9223372036854775807 ∧ inR .i64 ((k : Int) + 1) ∧ next (ByteArray.mk #[] ++ ⟨(laidP c).toArray⟩,(k : Int) + 1) w') (by
    intro lw2 w9 hlw2 H3
    have hsn : ((appAll lg1 ds).append ⟨(100 :: bb).toArray⟩).1 = appAll lg1 (ds ++ [⟨(100 :: bb).toArray⟩]) := (appAll_snoc _ _ _).symm
    have H4 : Hp B w w9 (jallL { y with lw := lw2 } x { s with lg := appAll lg1 (ds ++ [⟨(100 :: bb).toArray⟩]) } p1 tt wt Qs T ++ X) := by rw [← hsn]; exact H3
    have e0 : (ByteArray.mk #[] : ByteArray) ++ ⟨(laidP c).toArray⟩ = ⟨(laidP c).toArray⟩ := mk_append [] _
    refine ⟨_,_,rfl,by show ((0 + (laidP c).length : Nat) : Int) ≤ _; omega,inR64.2 (by omega),?_⟩
    rw [e0]
    exact hnext (l.length - (k + 1)) _ _ (by omega) ⟨k + 1,laidP c,ds ++ [⟨(100 :: bb).toArray⟩],lw2,rfl,by omega,rfl,by omega,by rw [hpack,List.map_cons,List.append_assoc]; rfl,hlw2.trans hlw,hR.log lw2 _,H4⟩)
   rw [show ({ y with lw := lw } : GW).lw.b = y.lw.b from hlw] at hcv
   exact hcv
  ·rw [if_neg (by omega)] at hpack
   refine ⟨by omega,inR64.2 (by omega),?_⟩
   rw [mk_append]
   exact hnext (l.length - (k + 1)) _ _ (by omega) ⟨k + 1,bb ++ laidP c,ds,lw,rfl,by omega,rfl,by rw [List.length_append]; omega,hpack,hlw,hR,H2⟩
 have hkl : k = l.length := by omega
 rw [hkl,List.drop_length,packF] at hpack
 have hpack2 : packR l = ds ++ [⟨(101 :: bb).toArray⟩] := hpack
 refine onP_mk rfl ⟨_,hjb hlw H,by rw [sz_one]; omega,?_⟩
 have e101 : (ByteArray.mk #[101] : ByteArray) ++ ⟨bb.toArray⟩ = ⟨(101 :: bb).toArray⟩ := mk_append [101] _
 rw [e101]
 obtain ⟨lg2,hlg2⟩ : ∃ lg2,lg2 = appAll s.lg (rs ++ packR l) := ⟨_,rfl⟩
 have hsn : ((appAll lg1 ds).append ⟨(101 :: bb).toArray⟩).1 = lg2 := by
  rw [← appAll_snoc,← hpack2,hlg1,hlg2,appAll,appAll,appAll,List.foldl_append]
 have hcv := hp_append (y := { y with lw := lw }) (s := { s with lg := appAll lg1 ds }) H ⟨(101 :: bb).toArray⟩ hb2 ha2 (by rw [sz_mk,List.length_cons]; omega) (R := fun e w' => ∃ i i_1,e = .returned (.tuple #[.int .i64 i,.int .i64 i_1]) ∧
   CallV Tryz.prog 61 [.pointer (some ⟨y.jb,0,none⟩),.map (some tb),.int .i64 i] w' fun e w' => e = .returned (.tuple #[]) ∧ onP (some (⟨y.jb,0,none⟩ : Addr)) fun a => ∃ i,Ld Tryz.prog 3 w' (a.add 5) (.int .i64 i) ∧ inR .i64 (i + 1) ∧ onP (some (⟨y.jb,0,none⟩ : Addr)) fun a => ∃ w1,Go.Vc.St Tryz.prog 3 w' (a.add 5) (.int .i64 (i + 1)) w1 ∧
    ∃ (code : Int) (lg' : Lg) (Ps' : List AP) (T' : Tou) (wt' : Int),CommitR s.lg Ps T wt l lg' Ps' T' wt' code ∧ Ending.returned (.int .i64 0) = .returned (.int .i64 code) ∧ ∃ (lw : LW) (p' : JP),lw.b = y.lw.b ∧ Rest { y with lw := lw } x { s with lg := lg' } p' Ps' m ∧ Hp B w w1 (jallL { y with lw := lw } x { s with lg := lg' } p' tt wt' Ps' T')) (by
  intro lw2 w6 hlw2 H3
  have hlw3 : lw2.b = y.lw.b := hlw2.trans hlw
  have H4 : Hp B w w6 (jallL { y with lw := lw2 } x { s with lg := lg2 } p1 tt wt Qs T ++ X) := by rw [← hsn]; exact H3
  have hal2 : ((({ s with lg := appAll lg1 ds } : St).lg.append ⟨(101 :: bb).toArray⟩).1.all.length : Int) = (lg2.all.length : Int) := by rw [← hsn]
  rw [hal2]
  refine ⟨_,_,rfl,?_⟩
  have H5 : Hp B w w6 ((jpL y.jb (ptrV x.b) (ptrV lw2.b) (ptrV y.pb) p1 (some tt) wt Qs ++ (touA tt T :: .imap tb .i64 (mapV peV E) :: pgsE E)) ++ (restG { y with lw := lw2 } x { s with lg := lg2 } ++ [.own 3 1 fa L.length fc (L.map (.int .i64))])) := H4.perm (by
   rw [hX,jallL]
   have ej : jpL ({ y with lw := lw2 } : GW).jb (ptrV x.b) (ptrV ({ y with lw := lw2 } : GW).lw.b) (ptrV ({ y with lw := lw2 } : GW).pb) p1 (some tt) wt Qs = jpL y.jb (ptrV x.b) (ptrV lw2.b) (ptrV y.pb) p1 (some tt) wt Qs := rfl
   rw [ej]
   (refine perm_cnt fun f g a b c d=>?_;simp only[c,b,a];omega))
  refine callV (jchange_spec y.jb (ptrV x.b) (ptrV lw2.b) (ptrV y.pb) p1 tt wt Qs hR.bs hR.few T (fun n => by have := hT n; omega) tb E hEok lg2.all.length w6 H5.std1) ?_
  rintro e w7 ⟨rfl,p3,hp3,H'⟩
  have H6 := H5.useL H'
  have H7 : Hp B w w7 (.blk y.jb (jcV (ptrV x.b) (ptrV lw2.b) (ptrV y.pb) p3 (some tt) wt) 91 :: (.own 99 1 p3.pa p3.bs.length p3.pc (ptrsB p3.bs) :: List.zipWith pageA p3.bs (layP lg2.all.length Qs (tmE E)) ++ (touA tt (upP T (tmE E)) :: restG { y with lw := lw2 } x { s with lg := lg2 } ++ [.own 3 1 fa L.length fc (L.map (.int .i64))]))) := H6.perm (by rw [jpL]; (refine perm_cnt fun f g a b c d=>?_;simp only[c,b,a];omega))
  clear H3 H4 H5 H6 H'
  refine ⟨rfl,onP_mk rfl ⟨_,H7.ld (o := 5) (by exact ⟨rfl,rfl,rfl,rfl⟩) gInt (.head _) rfl,inR64.2 (by omega),onP_mk rfl ?_⟩⟩
  refine Hp.st (o := 5) H7 (by exact ⟨rfl,rfl,rfl,rfl⟩) gInt rfl rfl (by simp [jcV]) (cs' := jcV (ptrV x.b) (ptrV lw2.b) (ptrV y.pb) p3 (some tt) (wt + 1)) rfl ?_
  clear H7; intro w8 H8
  refine ⟨0,lg2,layP lg2.all.length Qs (tmE E),upP T (tmE E),wt + 1,.inr (.inr ⟨hcode,rfl,tmE E,L,rs,htr,hL,himg,hlg2,by rw [hQs],rfl,rfl⟩),rfl,lw2,p3,hlw3,(hR.pg hp3 (layP_len hR.few fun e he => (hEok.key e he).2)).log lw2 lg2,?_⟩
  have H9 : Hp B w w8 (jallL { y with lw := lw2 } x { s with lg := lg2 } p3 tt (wt + 1) (layP lg2.all.length Qs (tmE E)) (upP T (tmE E)) ++ [.own 3 1 fa L.length fc (L.map (.int .i64))]) := H8.perm (by
   rw [jallL]
   have ej : jpL ({ y with lw := lw2 } : GW).jb (ptrV x.b) (ptrV ({ y with lw := lw2 } : GW).lw.b) (ptrV ({ y with lw := lw2 } : GW).pb) p3 (some tt) (wt + 1) (layP lg2.all.length Qs (tmE E)) = .blk y.jb (jcV (ptrV x.b) (ptrV lw2.b) (ptrV y.pb) p3 (some tt) (wt + 1)) 91 :: .own 99 1 p3.pa p3.bs.length p3.pc (ptrsB p3.bs) :: List.zipWith pageA p3.bs (layP lg2.all.length Qs (tmE E)) := rfl
   rw [ej]
   (refine perm_cnt fun f g a b c d=>?_;simp only[c,b,a];omega))
  exact H9.takeL)
 rw [show ({ y with lw := lw } : GW).lw.b = y.lw.b from hlw] at hcv
 exact hcv
end Go.Proofs.YtdeebigmpffnbaaGreat
namespace Go.Proofs.YtdeebigmpffnbaaGreat
open Go Go.Vc Go.Vault Go.Redo
theorem valN_snoc (l : List UInt8) (x : UInt8) : valN (l ++ [x]) = valN l * 256 + x.toNat := by
 have h := valN_take_succ (l ++ [x]) l.length (by simp)
 simp only [List.take_left',List.getElem_concat_length] at h
 have e : (l ++ [x]).take (l.length + 1) = l ++ [x] := List.take_of_length_le (by simp)
 rw [e] at h
 omega
theorem valN_inj : ∀ (n : Nat) (a b : List UInt8),a.length = n → b.length = n → valN a = valN b → a = b
 | 0,a,b,ha,hb,_ => by rw [List.eq_nil_of_length_eq_zero ha,List.eq_nil_of_length_eq_zero hb]
 | n + 1,a,b,ha,hb,h => by
  rcases List.eq_nil_or_concat a with rfl | ⟨a',x,rfl⟩
  ·simp at ha
  rcases List.eq_nil_or_concat b with rfl | ⟨b',y,rfl⟩
  ·simp at hb
  rw [List.concat_eq_append] at *
  rw [List.concat_eq_append] at *
  rw [valN_snoc,valN_snoc] at h
  have hx := x.toNat_lt
  have hy := y.toNat_lt
  have h1 : valN a' = valN b' := by omega
  have h2 : x = y := UInt8.toNat_inj.1 (by omega)
  rw [h2,valN_inj n a' b' (by simpa using ha) (by simpa using hb) h1]
theorem be_of_val {z : List UInt8} (h : z.length = 8) {m : Nat} (hm : valN z = m) : z = be (m : Int) 8 := by
 refine valN_inj 8 _ _ h (be_length _ _) ?_
 have h1 := valN_lt z
 rw [h] at h1
 have h2 := valN_be' (n := (m : Int)) (k := 8) (by omega) (by omega)
 omega
def lookS (s : List UInt8) : Option (Nat × Nat) := if s.take 8 = s.drop 504 then some (valN (s.take 8),valN ((s.drop 8).take 8)) else none
def big : Nat := 4611686018427387904
theorem seal_a (m f : Nat) : (sealB m f).take 8 = be (m : Int) 8 := List.take_left' (be_length _ _)
theorem seal_d (m f : Nat) : (sealB m f).drop 8 = be (f : Int) 8 ++ (List.replicate 488 0 ++ be (m : Int) 8) := List.drop_left' (be_length _ _)
theorem seal_z (m f : Nat) : (sealB m f).drop 504 = be (m : Int) 8 := by
 rw [show 504 = 8 + (8 + 488) by rfl,← List.drop_drop,← List.drop_drop,seal_d,List.drop_left' (be_length _ _)]
 exact List.drop_left' (by simp)
theorem seal_len (m f : Nat) : (sealB m f).length = 512 := by
 rw [sealB,List.length_append,List.length_append,List.length_append,List.length_replicate,be_length,be_length]
theorem be_val {m : Nat} (h : m < big) : valN (be (m : Int) 8) = m := by
 unfold big at h
 have := valN_be' (n := (m : Int)) (k := 8) (by omega) (by omega)
 omega
theorem lookS_seal {m f : Nat} (hm : m < big) (hf : f < big) : lookS (sealB m f) = some (m,f) := by
 have e4 : ((sealB m f).drop 8).take 8 = be (f : Int) 8 := by rw [seal_d]; exact List.take_left' (be_length _ _)
 rw [lookS,seal_a,seal_z,if_pos rfl,e4,be_val hm,be_val hf]
theorem lookS_some {s : List UInt8} {q : Nat × Nat} (h : lookS s = some q) : s.take 8 = s.drop 504 ∧ q.1 = valN (s.take 8) := by
 unfold lookS at h
 split at h
 ·rename_i h1; cases h; exact ⟨h1,rfl⟩
 ·cases h
def WeakS (o : List UInt8) (m : Nat) : Prop := o.drop 504 = be ((m - 1 : Nat) : Int) 8 ∨ (o.take 8 = be ((m + 1 : Nat) : Int) 8 ∧ o.drop 504 ≠ be ((m + 1 : Nat) : Int) 8)
theorem WeakS.less {o : List UInt8} {m : Nat} (h : WeakS o m) (hp : 0 < m) (hm : m < big) {q : Nat × Nat} (hq : lookS o = some q) : q.1 < m := by
 obtain ⟨h1,h2⟩ := lookS_some hq
 rcases h with h | ⟨h,h'⟩
 ·rw [h2,h1,h,be_val (by unfold big at *; omega)]; omega
 ·exact absurd (by rw [← h1,h]) h'
theorem torn_take8 {p : Nat} {a b : List UInt8} (hp : 8 ≤ p) (ha : a.length = 512) : (torn p a b).take 8 = a.take 8 := by
 rw [torn,List.take_append_of_le_length (by rw [List.length_take]; omega),List.take_take,Nat.min_eq_left hp]
theorem torn_drop {p i : Nat} {a b : List UInt8} (hp : p ≤ i) (ha : a.length = 512) (hi : i ≤ 512) : (torn p a b).drop i = b.drop i := by
 rw [torn,List.drop_append,List.drop_eq_nil_of_le (by rw [List.length_take]; omega),List.length_take,Nat.min_eq_left (by omega),List.nil_append,List.drop_drop]
 congr 1; omega
theorem WeakS.torn {o : List UInt8} {m f p : Nat} (h : WeakS o m) (ho : o.length = 512) (hm : m + 1 < big) (hf : f < big) : lookS (Vault.torn p (sealB (m + 1) f) o) = some (m + 1,f) ∨ WeakS (Vault.torn p (sealB (m + 1) f) o) m := by
 have hs := seal_len (m + 1) f
 by_cases hp : p ≤ 504
 ·have hz := torn_drop (b := o) hp hs (by omega)
  right
  rcases h with h | ⟨h,h'⟩
  ·exact .inl (by rw [hz]; exact h)
  ·refine .inr ⟨?_,by rw [hz]; exact h'⟩
   have h1 := torn_take (p := p) (c := 8) (hs.trans ho.symm) (seal_a (m + 1) f) h
   exact h1
 ·have ha : (Vault.torn p (sealB (m + 1) f) o).take 8 = be ((m + 1 : Nat) : Int) 8 := by rw [torn_take8 (by omega) hs,seal_a]
  by_cases hz : (Vault.torn p (sealB (m + 1) f) o).drop 504 = be ((m + 1 : Nat) : Int) 8
  ·left
   have h16 : ((Vault.torn p (sealB (m + 1) f) o).drop 8).take 8 = be (f : Int) 8 := by
    have e1 : (Vault.torn p (sealB (m + 1) f) o).take 16 = (sealB (m + 1) f).take 16 := by
     rw [Vault.torn,List.take_append_of_le_length (by rw [List.length_take]; omega),List.take_take,Nat.min_eq_left (by omega)]
    have e2 : ∀ (l : List UInt8),(l.drop 8).take 8 = (l.take 16).drop 8 := fun l => by rw [List.drop_take]
    rw [e2,e1,← e2,seal_d]
    exact List.take_left' (be_length _ _)
   rw [lookS,ha,hz,if_pos rfl,h16,be_val hm,be_val hf]
  ·exact .inr (.inr ⟨ha,hz⟩)
def Data (c : Cont) (B : List UInt8) : Prop := ∀ k,k * 512 < B.length → (c.v (2 + k)).take (chunk B k).length = chunk B k
structure LogIs (c : Cont) (m : Nat) (B : List UInt8) : Prop where
 len : 2 + nsec B.length ≤ c.len
 here : lookS (c.v (m % 2)) = some (m,B.length)
 weak : WeakS (c.v ((m + 1) % 2)) m
 pos : 0 < m
 data : Data c B
 mbig : m + 1 < big
 bbig : B.length < big
theorem Marks.best {s0 s1 : List UInt8} {mark firm : Nat} (h0 : 0 < mark) (h1 : lookS (if mark % 2 = 0 then s0 else s1) = some (mark,firm)) (h2 : ∀ p,lookS (if mark % 2 = 0 then s1 else s0) = some p → p.1 < mark) : better (better (0,0) (lookS s0)) (lookS s1) = (mark,firm) := by
 by_cases hm : mark % 2 = 0
 ·rw [if_pos hm] at h1 h2
  have e1 : better (0,0) (lookS s0) = (mark,firm) := by rw [h1,better,if_pos h0]
  rw [e1]
  cases hp : lookS s1 with
  | none => rfl
  | some p => rw [better,if_neg (by have := h2 p hp; show ¬ mark < p.1; omega)]
 ·rw [if_neg hm] at h1 h2
  rw [h1]
  have : (better (0,0) (lookS s0)).1 < mark := by
   cases hp : lookS s0 with
   | none => exact h0
   | some p =>
    rw [better]
    split
    ·exact h2 p hp
    ·exact h0
  rw [better,if_pos this]
theorem LogIs.best {c : Cont} {m : Nat} {B : List UInt8} (h : LogIs c m B) : better (better (0,0) (lookS (c.v 0))) (lookS (c.v 1)) = (m,B.length) := by
 have hm : m < big := by have := h.mbig; omega
 by_cases hk : m % 2 = 0
 ·have h1 := h.here
  have h2 := h.weak
  rw [hk] at h1
  rw [show (m + 1) % 2 = 1 by omega] at h2
  exact Marks.best h.pos (by rw [if_pos hk]; exact h1) (by rw [if_pos hk]; exact fun p hp => h2.less h.pos hm hp)
 ·have h1 := h.here
  have h2 := h.weak
  rw [show m % 2 = 1 by omega] at h1
  rw [show (m + 1) % 2 = 0 by omega] at h2
  exact Marks.best h.pos (by rw [if_neg hk]; exact h1) (by rw [if_neg hk]; exact fun p hp => h2.less h.pos hm hp)
theorem flat_of : ∀ (n : Nat) (B : List UInt8) (P : List (List UInt8)),B.length ≤ n → (∀ s ∈ P,s.length = 512) → nsec B.length ≤ P.length → (∀ k,k * 512 < B.length → (val P k).take (chunk B k).length = chunk B k) → P.flatten.take B.length = B
 | n,[],P,_,_,_,_ => rfl
 | 0,x :: r,P,h,_,_,_ => by simp at h
 | n + 1,x :: r,P,h,hP,hl,hk => by
  generalize hB : x :: r = B at h hl hk ⊢
  have h0 : 0 < B.length := by rw [← hB]; simp
  cases P with
  | nil => rw [List.length_nil] at hl; unfold nsec at hl; omega
  | cons s P =>
   have hs := hP s (.head _)
   have hc0 := hk 0 (by omega)
   have ev : val (s :: P) 0 = s := rfl
   have ec : chunk B 0 = B.take 512 := by simp [chunk]
   rw [ev,ec,List.length_take] at hc0
   rw [List.flatten_cons,List.take_append,hs]
   by_cases hb : B.length ≤ 512
   ·rw [Nat.min_eq_right hb,List.take_of_length_le hb] at hc0
    rw [show B.length - 512 = 0 by omega,List.take_zero,List.append_nil]
    exact hc0
   ·rw [Nat.min_eq_left (by omega)] at hc0
    have ih := flat_of n (B.drop 512) P (by rw [List.length_drop]; omega) (fun t ht => hP t (.tail _ ht)) (by rw [List.length_drop]; unfold nsec at hl ⊢; rw [List.length_cons] at hl; omega) (fun k hk2 => by
     rw [List.length_drop] at hk2
     have := hk (k + 1) (by omega)
     have e1 : val (s :: P) (k + 1) = val P k := rfl
     have e2 : chunk B (k + 1) = chunk (B.drop 512) k := by rw [chunk,chunk,List.drop_drop,show (k + 1) * 512 = 512 + k * 512 by omega]
     rw [e1,e2] at this
     exact this)
    rw [List.length_drop] at ih
    rw [ih,List.take_of_length_le (by rw [hs]; omega)]
    rw [List.take_of_length_le (l := s) (by omega)] at hc0
    rw [hc0,List.take_append_drop]
theorem read_ok {d : Dk} (hd : d.dead = false) {n : ByteArray} {k : Nat} (hk : d.find n = some k) {i : Nat} (hi : i < d.len k) : d.read n (i : Int) = ((d.file k).now.getD i [],0) := by
 have h : ¬((i : Int) < 0 ∨ (d.len k : Int) ≤ (i : Int)) := by omega
 simp only [Dk.read,hd,hk,Bool.false_eq_true,if_false,if_neg h,Int.toNat_natCast]
theorem gath_val {d : Dk} (hd : d.dead = false) {n : ByteArray} {k F : Nat} (hk : d.find n = some k) {s0 s1 : List UInt8} {P : List (List UInt8)} (hnow : (d.file k).now = s0 :: s1 :: P) (hP : ∀ s ∈ P,s.length = 512) (hF : F ≤ P.length * 512) :
  ∀ (m j : Nat),F ≤ (j + m) * 512 → ∃ J,gath d n F m (2 + j) (P.take j).flatten = ((P.take J).flatten,0) ∧ F ≤ (P.take J).flatten.length := by
 have hfl : ∀ (Q : List (List UInt8)),(∀ s ∈ Q,s.length = 512) → Q.flatten.length = Q.length * 512 := by
  intro Q
  induction Q with
  | nil => intro _; rfl
  | cons s r ih =>
   intro h
   rw [List.flatten_cons,List.length_append,h s (.head _),ih fun t ht => h t (.tail _ ht),List.length_cons]; omega
 have htl : ∀ j,(P.take j).flatten.length = min j P.length * 512 := fun j => by
  rw [hfl _ fun s hs => hP s (List.mem_of_mem_take hs),List.length_take]
 intro m
 induction m with
 | zero =>
  intro j hj
  refine ⟨j,rfl,?_⟩
  rw [htl]
  rw [Nat.add_zero] at hj
  rcases Nat.le_total j P.length with h | h
  ·rw [Nat.min_eq_left h]; exact hj
  ·rw [Nat.min_eq_right h]; exact hF
 | succ m ih =>
  intro j hj
  rw [gath]
  by_cases h1 : F ≤ (P.take j).flatten.length
  ·rw [if_pos h1]; exact ⟨j,rfl,h1⟩
  ·rw [if_neg h1]
   have hlt : j < P.length := by
    by_cases h : j < P.length
    ·exact h
    ·rw [htl,Nat.min_eq_right (by omega)] at h1
     exact absurd hF h1
   have hlen : d.len k = P.length + 2 := by rw [Dk.len,hnow]; rfl
   have hr := read_ok hd hk (i := 2 + j) (by omega)
   have hg : (d.file k).now.getD (2 + j) [] = P[j] := by
    rw [hnow,show 2 + j = j + 1 + 1 by omega]
    simp [List.getD_eq_getElem?_getD,List.getElem?_eq_getElem hlt]
   rw [hr,hg,if_pos rfl]
   obtain ⟨J,e1,e2⟩ := ih (j + 1) (by rw [show j + 1 + m = j + (m + 1) by omega]; exact hj)
   refine ⟨J,?_,e2⟩
   rw [← e1,List.take_succ_eq_append_getElem hlt,List.flatten_append,show 2 + (j + 1) = 2 + j + 1 by omega]
   simp
theorem look_of {d : Dk} (hd : d.dead = false) {n : ByteArray} {k : Nat} (hk : d.find n = some k) {i : Nat} (hi : i < d.len k) : lookP d n i = lookS (val (d.file k).now i) := by
 have e : (d.file k).now.getD i [] = val (d.file k).now i := by
  have hi : i < (d.file k).now.length := hi
  rw [val_of hi]; simp [List.getD_eq_getElem?_getD,hi]
 rw [lookP,read_ok hd hk hi,lookS,e]; simp
theorem LogIs.find {d : Dk} (hd : d.dead = false) {k : Nat} (hk : d.find nLog = some k) (hS : ∀ s ∈ (d.file k).now,s.length = 512) {m : Nat} {B : List UInt8} (h : LogIs (cont (d.file k).now) m B) {l : List ByteArray} (hl : records B = some l) :
  findP d nLog = (0,⟨nLog,m,B,B.length,l.length,l,0⟩) := by
 have hlen : 2 + nsec B.length ≤ (d.file k).now.length := h.len
 obtain ⟨s0,s1,P,hnow⟩ : ∃ s0 s1 P,(d.file k).now = s0 :: s1 :: P := by
  cases e : (d.file k).now with
  | nil => rw [e] at hlen; simp at hlen
  | cons s0 r => cases r with
   | nil => rw [e] at hlen; simp at hlen; omega
   | cons s1 P => exact ⟨s0,s1,P,rfl⟩
 have hdl : d.len k = P.length + 2 := by rw [Dk.len,hnow]; rfl
 rw [hnow,List.length_cons,List.length_cons] at hlen
 have hs : d.size nLog = ((P.length + 2 : Nat) : Int) := by simp [Dk.size,hk,hdl]
 have hm : mark2 d nLog = (m,B.length) := by
  rw [mark2,look_of hd hk (by omega),look_of hd hk (by omega)]
  exact h.best
 have hP : ∀ s ∈ P,s.length = 512 := fun s hs2 => hS s (by rw [hnow]; exact .tail _ (.tail _ hs2))
 have hnB : B.length ≤ P.length * 512 := by unfold nsec at hlen; omega
 obtain ⟨J,e1,e2⟩ := gath_val (F := B.length) hd hk hnow hP hnB (B.length + 1) 0 (by omega)
 have e3 : ((P.take J).flatten).take B.length = B := by
  have h1 := flat_of _ B P (Nat.le_refl _) hP (by unfold nsec at hlen ⊢; omega) (fun j hj => by
   have h2 := h.data j hj
   have ev : (cont (d.file k).now).v (2 + j) = val P j := by
    show val (d.file k).now (2 + j) = val P j
    rw [hnow,show 2 + j = j + 1 + 1 by omega]; rfl
   rw [ev] at h2
   exact h2)
  have h2 : P.flatten = (P.take J).flatten ++ (P.drop J).flatten := by rw [← List.flatten_append,List.take_append_drop]
  rw [h2,List.take_append_of_le_length e2] at h1
  exact h1
 have e4 : gath d nLog B.length (B.length + 1) 2 [] = ((P.take J).flatten,0) := e1
 unfold findP
 rw [hs,hm,if_neg (by omega)]
 dsimp only
 rw [e4,if_pos rfl]
 dsimp only
 rw [e3,hl]
end Go.Proofs.YtdeebigmpffnbaaGreat
namespace Go.Proofs.YtdeebigmpffnbaaGreat
open Go Go.Vc Go.Vault Go.Redo
theorem chunk_pre (b : List UInt8) (F k : Nat) : (pad (chunk b k)).take (chunk (b.take F) k).length = chunk (b.take F) k := by
 have e : chunk (b.take F) k = (chunk b k).take (F - k * 512) := by
  rw [chunk,chunk,List.drop_take,List.take_take,List.take_take,Nat.min_comm]
 have hl : (chunk (b.take F) k).length ≤ (chunk b k).length := by rw [e,List.length_take]; omega
 rw [pad,List.take_append_of_le_length hl,e,List.length_take]
 by_cases h : F - k * 512 ≤ (chunk b k).length
 ·rw [Nat.min_eq_left h]
 ·rw [Nat.min_eq_right (by omega),List.take_of_length_le (Nat.le_refl _),List.take_of_length_le (by omega)]
theorem chunk_len (b : List UInt8) (k : Nat) : (chunk b k).length ≤ 512 := by rw [chunk,List.length_take]; omega
theorem pad_512 {c : List UInt8} (h : c.length ≤ 512) : (pad c).length = 512 := Redo.pad_len h
def LogAll (f : Fl) (m : Nat) (B : List UInt8) : Prop := ∀ c,f.Cr c → LogIs c m B
theorem LogAll.dwrite {f : Fl} (ok : f.Ok) {m F : Nat} {b : List UInt8} (h : LogAll f m (b.take F)) {k : Nat} (hk : 2 + k ≤ f.now.length) : LogAll (f.write (2 + k) (chunk b k)) m (b.take F) := by
 intro c' hc'
 obtain ⟨c,p,hc,hp,hlen,hv⟩ := Fl.Cr.write ok hk hc'
 have hL := h c hc
 have h0 : ∀ j,j < 2 → c'.v j = c.v j := fun j hj => by rw [hv,if_neg (by omega)]
 refine ⟨Nat.le_trans hL.len hlen,by rw [h0 _ (Nat.mod_lt _ (by omega))]; exact hL.here,by rw [h0 _ (Nat.mod_lt _ (by omega))]; exact hL.weak,hL.pos,fun j hj => ?_,hL.mbig,hL.bbig⟩
 have hd := hL.data j hj
 rw [hv]
 by_cases hjk : 2 + j = 2 + k
 ·rw [if_pos hjk]
  have hjk : j = k := by omega
  subst hjk
  exact torn_take (by rw [pad_512 (chunk_len b j),Fl.Cr.vlen ok hc]) (chunk_pre b F j) hd
 ·rw [if_neg hjk]; exact hd
theorem LogAll.sync {f : Fl} (ok : f.Ok) (ht : f.Tidy) {m : Nat} {B : List UInt8} (h : LogAll f m B) : LogAll f.sync m B := fun c hc => h c (Fl.Cr.sync ok ht hc)
theorem LogAll.mark {f : Fl} (ok : f.Ok) (hs : f.since = []) (hf : f.firm = f.now) {m : Nat} {B b : List UInt8} (h : LogAll f m B) (hd : Data (cont f.now) b) (hl : 2 + nsec b.length ≤ f.now.length) (hm : m + 2 < big) (hb : b.length < big) :
  (∀ c,(f.write ((m + 1) % 2) (sealB (m + 1) b.length)).Cr c → LogIs c m B ∨ LogIs c (m + 1) b) ∧ LogIs (cont (f.write ((m + 1) % 2) (sealB (m + 1) b.length)).now) (m + 1) b := by
 have hL := h _ (Fl.Cr.firm ok)
 rw [hf] at hL
 have h2 := hL.len
 have hn2 : 2 ≤ f.now.length := Nat.le_trans (by omega) h2
 have hi : (m + 1) % 2 ≤ f.now.length := by have := Nat.mod_lt (m + 1) (by omega : 0 < 2); omega
 have hps : pad (sealB (m + 1) b.length) = sealB (m + 1) b.length := by rw [pad,seal_len,Nat.sub_self]; simp
 have hne : m % 2 ≠ (m + 1) % 2 := by omega
 have hwk : WeakS (val f.now (m % 2)) (m + 1) := by
  obtain ⟨h3,h4⟩ := lookS_some hL.here
  refine .inl ?_
  have h3 : (val f.now (m % 2)).take 8 = (val f.now (m % 2)).drop 504 := h3
  have h4 : m = valN ((val f.now (m % 2)).take 8) := h4
  have hvl := val_len ok.now (m % 2)
  rw [← h3]
  exact be_of_val (by rw [List.length_take,hvl]; rfl) h4.symm
 have key : ∀ (c' : Cont) (o : List UInt8),o.length = 512 → f.now.length ≤ c'.len → (∀ n,c'.v n = if n = (m + 1) % 2 then o else val f.now n) → lookS o = some (m + 1,b.length) → LogIs c' (m + 1) b := by
  intro c' o ho hlen hv hlk
  refine ⟨Nat.le_trans hl hlen,by rw [hv,if_pos rfl]; exact hlk,?_,by omega,fun j hj => ?_,by omega,hb⟩
  ·rw [hv,show (m + 1 + 1) % 2 = m % 2 by omega,if_neg hne]; exact hwk
  ·rw [hv,if_neg (by have := Nat.mod_lt (m + 1) (by omega : 0 < 2); omega)]
   exact hd j hj
 refine ⟨fun c' hc' => ?_,key _ (sealB (m + 1) b.length) (seal_len _ _) ?_ (fun n => ?_) (lookS_seal (by omega) hb)⟩
 ·obtain ⟨c,p,hc,hp,hlen,hv⟩ := Fl.Cr.write ok hi hc'
  have hcn : c = cont f.now := by
   have : f = Fl.mk f.now f.now [] := by
    obtain ⟨a,b,c⟩ := f
    dsimp only at hs hf
    rw [hs,hf]
   rw [this] at hc
   exact Fl.Cr.same hc
  subst hcn
  rw [hps] at hv
  have hlen : f.now.length ≤ c'.len := hlen
  rcases WeakS.torn (p := p) (f := b.length) hL.weak (val_len ok.now _) (by omega) hb with h5 | h5
  ·exact .inr (key c' _ (by rw [torn_len (by rw [seal_len]; exact (val_len ok.now _).symm)]; exact val_len ok.now _) hlen hv h5)
  ·refine .inl ⟨Nat.le_trans h2 hlen,by rw [hv,if_neg hne]; exact hL.here,by rw [hv,if_pos rfl]; exact h5,hL.pos,fun j hj => ?_,hL.mbig,hL.bbig⟩
   rw [hv,if_neg (by have := Nat.mod_lt (m + 1) (by omega : 0 < 2); omega)]
   exact hL.data j hj
 ·show f.now.length ≤ (f.write _ _).now.length
  rw [Fl.write]
  dsimp only
  split
  ·rw [List.length_append]; omega
  ·rw [List.length_set]; exact Nat.le_refl _
 ·show val (f.write _ _).now n = _
  rw [val_write hi,hps]
structure Core (d d' : Dk) : Prop where
 room : d'.room = d.room
 files : d'.files = d.files
 firm : d'.firm = d.firm
 chs : d'.chs = d.chs
theorem Core.refl (d : Dk) : Core d d := ⟨rfl,rfl,rfl,rfl⟩
theorem Core.trans {a b c : Dk} (h : Core a b) (h' : Core b c) : Core a c := ⟨h'.room.trans h.room,h'.files.trans h.files,h'.firm.trans h.firm,h'.chs.trans h.chs⟩
theorem core_dies (d : Dk) : Core d d.dies := by unfold Dk.dies; split <;> exact ⟨rfl,rfl,rfl,rfl⟩
theorem core_denies (d : Dk) : Core d d.denies := ⟨rfl,rfl,rfl,rfl⟩
theorem core_put {d e : Dk} (h : Core d e) (k : Nat) (f : Fl) : Core (d.put k f) (e.put k f) := ⟨h.room,by show e.files.set k f = d.files.set k f; rw [h.files],h.firm,h.chs⟩
theorem Core.file {d e : Dk} (h : Core d e) (k : Nat) : e.file k = d.file k := by rw [Dk.file,Dk.file,h.files]
theorem Core.names {d e : Dk} (h : Core d e) : e.names = d.names := by rw [Dk.names,Dk.names,h.firm,h.chs]
theorem Core.find {d e : Dk} (h : Core d e) (n : ByteArray) : e.find n = d.find n := by rw [Dk.find,Dk.find,h.names]
theorem write_core (d : Dk) (n : ByteArray) (i : Int) (b : List UInt8) : (Core d (d.write n i b).1 ∧ (d.write n i b).2 ≠ 0) ∨
  ∃ k,d.find n = some k ∧ 0 ≤ i ∧ i ≤ d.len k ∧ b.length ≤ 512 ∧ Core (d.put k ((d.file k).write i.toNat b)) (d.write n i b).1 := by
 unfold Dk.write
 split
 ·exact .inl ⟨.refl d,by simp⟩
 split
 ·exact .inl ⟨.refl d,by simp⟩
 ·rename_i k hk
  split
  ·exact .inl ⟨.refl d,by simp⟩
  rename_i h1
  split
  ·exact .inl ⟨.refl d,by simp⟩
  split
  ·exact .inl ⟨core_denies d,by simp⟩
  ·exact .inr ⟨k,hk,by omega,by omega,by omega,(core_put (core_denies d) _ _).trans (core_dies _)⟩
theorem sync_core (d : Dk) (n : ByteArray) : (Core d (d.sync n).1 ∧ (d.sync n).2 ≠ 0) ∨ ∃ k,d.find n = some k ∧ (d.sync n).2 = 0 ∧ Core (d.put k (d.file k).sync) (d.sync n).1 := by
 unfold Dk.sync
 split
 ·exact .inl ⟨.refl d,by simp⟩
 split
 ·exact .inl ⟨.refl d,by simp⟩
 ·rename_i k hk
  split
  ·exact .inl ⟨core_denies d,by simp⟩
  ·dsimp only
   split
   ·exact .inl ⟨(core_denies d).trans (core_dies _),by simp⟩
   ·exact .inr ⟨k,hk,rfl,core_put ((core_denies d).trans (core_dies _)) _ _⟩
theorem create_core (d : Dk) (n : ByteArray) : (Core d (d.create n).1 ∧ (d.create n).2 ≠ 0) ∨ Core (Dk.change { d with files := d.files ++ [Fl.none] } (.create n d.files.length)) (d.create n).1 := by
 unfold Dk.create
 split
 ·exact .inl ⟨.refl d,by simp⟩
 split
 ·exact .inl ⟨.refl d,by simp⟩
 ·exact .inr (core_dies _)
end Go.Proofs.YtdeebigmpffnbaaGreat
namespace Go.Proofs.YtdeebigmpffnbaaGreat
open Go Go.Vc Go.Vault Go.Redo
def lists (d : Dk) (i : Nat) : List Nm := ons d.firm (d.chs.take i)
def zcont : Cont := ⟨fun _ => zsec,0⟩
structure Fok (d : Dk) : Prop where
 ok : ∀ f ∈ d.files,f.Ok
 tidy : ∀ f ∈ d.files,f.Tidy
def DatA (G : Cont → Prop) (d : Dk) (k : Nat) (i : Nat) : Prop := (nget (lists d i) nData = none ∧ G zcont) ∨ ∃ q,nget (lists d i) nData = some q ∧ q < d.files.length ∧ q ≠ k ∧ ∀ c,(d.file q).Cr c → G c
structure AnyD (Q : Nat → List UInt8 → Prop) (G : Cont → Prop) (d : Dk) : Prop where
 fok : Fok d
 log : ∀ i,∃ k,nget (lists d i) nLog = some k ∧ k < d.files.length ∧ (∀ c,(d.file k).Cr c → ∃ m B,Q m B ∧ LogIs c m B) ∧ DatA G d k i
structure Live (k m : Nat) (B : List UInt8) (G : Cont → Prop) (d : Dk) : Prop where
 fok : Fok d
 log : ∀ i,nget (lists d i) nLog = some k
 lt : k < d.files.length
 logc : LogAll (d.file k) m B
 data : ∀ i,DatA G d k i
theorem Live.any {k m : Nat} {B : List UInt8} {G : Cont → Prop} {d : Dk} (h : Live k m B G d) {Q : Nat → List UInt8 → Prop} (hQ : Q m B) : AnyD Q G d :=
 ⟨h.fok,fun i => ⟨k,h.log i,h.lt,fun c hc => ⟨m,B,hQ,h.logc c hc⟩,h.data i⟩⟩
theorem lists_core {d e : Dk} (h : Core d e) (i : Nat) : lists e i = lists d i := by rw [lists,lists,h.firm,h.chs]
theorem Fok.core {d e : Dk} (h : Core d e) (f : Fok d) : Fok e := ⟨by rw [h.files]; exact f.ok,by rw [h.files]; exact f.tidy⟩
theorem DatA.core {G : Cont → Prop} {d e : Dk} {k i : Nat} (h : Core d e) (hd : DatA G d k i) : DatA G e k i := by
 unfold DatA
 rw [lists_core h,h.files]
 rcases hd with h1 | ⟨q,h1,h2,h3,h4⟩
 ·exact .inl h1
 ·exact .inr ⟨q,h1,h2,h3,by rw [h.file]; exact h4⟩
theorem Live.core {k m : Nat} {B : List UInt8} {G : Cont → Prop} {d e : Dk} (c : Core d e) (h : Live k m B G d) : Live k m B G e :=
 ⟨h.fok.core c,fun i => by rw [lists_core c]; exact h.log i,by rw [c.files]; exact h.lt,by rw [c.file]; exact h.logc,fun i => (h.data i).core c⟩
theorem AnyD.core {Q : Nat → List UInt8 → Prop} {G : Cont → Prop} {d e : Dk} (c : Core d e) (h : AnyD Q G d) : AnyD Q G e :=
 ⟨h.fok.core c,fun i => by
  obtain ⟨k,h1,h2,h3,h4⟩ := h.log i
  exact ⟨k,by rw [lists_core c]; exact h1,by rw [c.files]; exact h2,by rw [c.file]; exact h3,h4.core c⟩⟩
theorem put_file {q : Dk} {k : Nat} (hk : k < q.files.length) (f : Fl) : (q.put k f).file k = f := by
 simp [Dk.put,Dk.file,List.getD_eq_getElem?_getD,hk]
theorem put_other {d : Dk} {k K : Nat} (f : Fl) (h : K ≠ k) : (d.put k f).file K = d.file K := by
 simp only [Dk.put,Dk.file,List.getD_eq_getElem?_getD]
 rw [List.getElem?_set_ne (fun e => h e.symm)]
theorem put_files (d : Dk) (k : Nat) (f : Fl) : (d.put k f).files.length = d.files.length := List.length_set ..
theorem Fok.put {d : Dk} (h : Fok d) {f : Fl} (hf : f.Ok) (ht : f.Tidy) (k : Nat) : Fok (d.put k f) :=
 ⟨fun g hg => (List.mem_or_eq_of_mem_set hg).elim (h.ok g) (fun e => e ▸ hf),fun g hg => (List.mem_or_eq_of_mem_set hg).elim (h.tidy g) (fun e => e ▸ ht)⟩
theorem Fok.at {d : Dk} (h : Fok d) {k : Nat} (hk : k < d.files.length) : (d.file k).Ok ∧ (d.file k).Tidy := by
 have e : d.file k = d.files[k] := by simp [Dk.file,List.getD_eq_getElem?_getD,hk]
 rw [e]
 exact ⟨h.ok _ (List.getElem_mem hk),h.tidy _ (List.getElem_mem hk)⟩
theorem DatA.put {G : Cont → Prop} {d : Dk} {k i K : Nat} (hd : DatA G d k i) (f : Fl) (hK : ∀ q,nget (lists d i) nData = some q → q ≠ K) : DatA G (d.put K f) k i := by
 rcases hd with h1 | ⟨q,h1,h2,h3,h4⟩
 ·exact .inl h1
 ·exact .inr ⟨q,h1,by rw [put_files]; exact h2,h3,by rw [put_other f (hK q h1)]; exact h4⟩
theorem Live.put {k m : Nat} {B : List UInt8} {G : Cont → Prop} {d : Dk} (h : Live k m B G d) {f : Fl} (hf : f.Ok) (ht : f.Tidy) {m' : Nat} {B' : List UInt8} (hl : LogAll f m' B') : Live k m' B' G (d.put k f) :=
 ⟨h.fok.put hf ht k,h.log,by rw [put_files]; exact h.lt,by rw [put_file h.lt]; exact hl,fun i => (h.data i).put f fun q hq => by
  rcases h.data i with ⟨h1,_⟩ | ⟨q',h1,_,h3,_⟩
  ·rw [h1] at hq; cases hq
  ·rw [h1] at hq; cases hq; exact h3⟩
theorem Live.find {k m : Nat} {B : List UInt8} {G : Cont → Prop} {d : Dk} (h : Live k m B G d) : d.find nLog = some k := by
 have := h.log d.chs.length
 rw [lists,List.take_length] at this
 exact this
theorem Live.now {k m : Nat} {B : List UInt8} {G : Cont → Prop} {d : Dk} (h : Live k m B G d) : LogIs (cont (d.file k).now) m B := by
 obtain ⟨h1,h2⟩ := h.fok.at h.lt
 exact h.logc _ (Fl.Cr.now h1 h2)
theorem write_now_len (f : Fl) {i : Nat} (b : List UInt8) (hi : i ≤ f.now.length) : (f.write i b).now.length = max f.now.length (i + 1) := by
 rw [Fl.write]
 dsimp only
 split
 ·rw [List.length_append]; simp only [List.length_singleton]; omega
 ·rw [List.length_set]; omega
theorem Live.dput {k m F : Nat} {b : List UInt8} {G : Cont → Prop} : ∀ (n j : Nat) {d : Dk},Live k m (b.take F) G d → Live k m (b.take F) G (dput nLog b n j d).1 ∧
   ((dput nLog b n j d).2 = 0 → nsec b.length ≤ j + n → 2 + j ≤ (d.file k).now.length → (∀ i,i < j → i * 512 < b.length → (val (d.file k).now (2 + i)).take (chunk b i).length = chunk b i) →
    (∀ i,i * 512 < b.length → (val ((dput nLog b n j d).1.file k).now (2 + i)).take (chunk b i).length = chunk b i) ∧ 2 + nsec b.length ≤ ((dput nLog b n j d).1.file k).now.length)
 | 0,j,d,h => ⟨h,fun _ hn hl hv => ⟨fun i hi => hv i (by unfold nsec at hn; omega) hi,by show 2 + nsec b.length ≤ (d.file k).now.length; omega⟩⟩
 | n + 1,j,d,h => by
  rw [Redo.dput]
  by_cases hj : b.length ≤ j * 512
  ·rw [if_pos hj]
   exact ⟨h,fun _ hn hl hv => ⟨fun i hi => hv i (by omega) hi,by show 2 + nsec b.length ≤ (d.file k).now.length; unfold nsec; omega⟩⟩
  rw [if_neg hj]
  have hc : (b.drop (j * 512)).take 512 = chunk b j := rfl
  rw [hc]
  obtain ⟨r,hr⟩ : ∃ r,r = d.write nLog ((2 + j : Nat) : Int) (chunk b j) := ⟨_,rfl⟩
  rw [← hr,thn]
  obtain ⟨ok,tidy⟩ := h.fok.at h.lt
  rcases write_core d nLog ((2 + j : Nat) : Int) (chunk b j) with ⟨c,hne⟩ | ⟨k',hk',h0,hle,hb,c⟩
  ·rw [← hr] at c hne
   rw [if_neg hne]
   exact ⟨h.core c,fun h0 => absurd h0 hne⟩
  ·rw [← hr] at c
   rw [h.find] at hk'
   cases hk'
   rw [Int.toNat_natCast] at c
   have hle : 2 + j ≤ (d.file k).now.length := by unfold Dk.len at hle; omega
   have hL : Live k m (b.take F) G r.1 := (h.put (ok.write hle hb) (Fl.write_tidy tidy hle _) (h.logc.dwrite ok hle)).core c
   split
   ·obtain ⟨h1,h2⟩ := Live.dput n (j + 1) hL
    refine ⟨h1,fun e hn hl hv => h2 e (by omega) ?_ ?_⟩
    ·rw [c.file,put_file h.lt,write_now_len _ _ hle]; omega
    ·intro i hi hib
     rw [c.file,put_file h.lt,val_write hle]
     by_cases hij : i = j
     ·rw [if_pos (by omega),hij]
      exact pad_take (chunk_len b j)
     ·rw [if_neg (by omega)]
      exact hv i (by omega) hib
   ·rename_i hne
    exact ⟨hL,fun h0 => absurd h0 hne⟩
theorem Live.sync {k m : Nat} {B : List UInt8} {G : Cont → Prop} {d : Dk} (h : Live k m B G d) : Live k m B G (d.sync nLog).1 ∧ ((d.sync nLog).2 = 0 → ((d.sync nLog).1.file k) = (d.file k).sync) := by
 obtain ⟨ok,tidy⟩ := h.fok.at h.lt
 rcases sync_core d nLog with ⟨c,hne⟩ | ⟨k',hk',h0,c⟩
 ·exact ⟨h.core c,fun h0 => absurd h0 hne⟩
 ·rw [h.find] at hk'
  cases hk'
  refine ⟨(h.put (Fl.sync_ok ok) (Fl.sync_tidy _) (h.logc.sync ok tidy)).core c,fun _ => ?_⟩
  rw [c.file,put_file h.lt]
def Two (m : Nat) (B : List UInt8) (m' : Nat) (B' : List UInt8) : Nat → List UInt8 → Prop := fun n C => (n = m ∧ C = B) ∨ (n = m' ∧ C = B')
theorem Live.flush {k : Nat} {G : Cont → Prop} {d : Dk} {l : Lg} (hn : l.name = nLog) (hc : l.code = 0) (hf : l.firm ≤ l.b.length) (h : Live k l.mark (l.b.take l.firm) G d) (hm : l.mark + 2 < big) (hb : l.b.length < big) :
  ((flushP d l).2.2 = 0 ∧ Live k (l.mark + 1) l.b G (flushP d l).1) ∨ ((flushP d l).2.2 ≠ 0 ∧ AnyD (Two l.mark (l.b.take l.firm) (l.mark + 1) l.b) G (flushP d l).1) := by
 have two : ∀ {e : Dk},Live k l.mark (l.b.take l.firm) G e → AnyD (Two l.mark (l.b.take l.firm) (l.mark + 1) l.b) G e := fun h => h.any (.inl ⟨rfl,rfl⟩)
 have hfl : flushP d l = if (thn (dwrite d l.name l.b l.firm) fun d => dseal d l.name (l.mark + 1) l.b.length).2 = 0 then ((thn (dwrite d l.name l.b l.firm) fun d => dseal d l.name (l.mark + 1) l.b.length).1,{ l with mark := l.mark + 1,firm := l.b.length,many := l.all.length },0)
   else ((thn (dwrite d l.name l.b l.firm) fun d => dseal d l.name (l.mark + 1) l.b.length).1,{ l with code := (thn (dwrite d l.name l.b l.firm) fun d => dseal d l.name (l.mark + 1) l.b.length).2 },(thn (dwrite d l.name l.b l.firm) fun d => dseal d l.name (l.mark + 1) l.b.length).2) := by
  unfold flushP; rw [if_pos hc]
 have goal : ((thn (dwrite d l.name l.b l.firm) fun d => dseal d l.name (l.mark + 1) l.b.length).2 = 0 ∧ Live k (l.mark + 1) l.b G (thn (dwrite d l.name l.b l.firm) fun d => dseal d l.name (l.mark + 1) l.b.length).1) ∨
   ((thn (dwrite d l.name l.b l.firm) fun d => dseal d l.name (l.mark + 1) l.b.length).2 ≠ 0 ∧ AnyD (Two l.mark (l.b.take l.firm) (l.mark + 1) l.b) G (thn (dwrite d l.name l.b l.firm) fun d => dseal d l.name (l.mark + 1) l.b.length).1) := by
  rw [hn]
  obtain ⟨h1,h2⟩ := Live.dput (l.b.length / 512 + 1 - l.firm / 512) (l.firm / 512) h
  have hdw : dwrite d nLog l.b l.firm = Redo.dput nLog l.b (l.b.length / 512 + 1 - l.firm / 512) (l.firm / 512) d := rfl
  rw [← hdw] at h1 h2
  generalize dwrite d nLog l.b l.firm = r at h1 h2
  rw [thn]
  split
  ·rename_i h0
   have hnow := h.now
   have hlb : (l.b.take l.firm).length = l.firm := by rw [List.length_take]; omega
   have hlen : 2 + nsec l.firm ≤ (d.file k).now.length := by have := hnow.len; rw [hlb] at this; exact this
   have hdiv : l.firm / 512 ≤ l.b.length / 512 := Nat.div_le_div_right hf
   obtain ⟨hdat,hdl⟩ := h2 h0 (by unfold nsec; omega) (by unfold nsec at hlen; omega) (fun i hi hib => by
    have h3 := hnow.data i (by rw [hlb]; omega)
    have e : chunk (l.b.take l.firm) i = chunk l.b i := by
     rw [chunk,chunk,List.drop_take,List.take_take,Nat.min_eq_left (by omega)]
    rw [e] at h3
    exact h3)
   rw [dseal,thn]
   obtain ⟨h3,h4⟩ := h1.sync
   obtain ⟨r2,hr2⟩ : ∃ r2,r2 = r.1.sync nLog := ⟨_,rfl⟩
   rw [← hr2] at h3 h4 ⊢
   rw [thn]
   by_cases hs0 : r2.2 = 0
   ·rw [if_pos hs0]
    have hfk := h4 hs0
    obtain ⟨ok2,_⟩ := h3.fok.at h3.lt
    have hnow2 : (r2.1.file k).now = (r.1.file k).now := by rw [hfk]; rfl
    have hfirm2 : (r2.1.file k).firm = (r2.1.file k).now := by rw [hfk]; rfl
    have hmk := h3.logc.mark ok2 (by rw [hfk]; rfl) hfirm2 (b := l.b) (fun i hi => by show (val (r2.1.file k).now (2 + i)).take _ = _; rw [hnow2]; exact hdat i hi) (by rw [hnow2]; exact hdl) hm hb
    have hi : (l.mark + 1) % 2 ≤ (r2.1.file k).now.length := by have := Nat.mod_lt (l.mark + 1) (by omega : 0 < 2); rw [hnow2]; omega
    obtain ⟨r3,hr3⟩ : ∃ r3,r3 = r2.1.write nLog (((l.mark + 1) % 2 : Nat) : Int) (sealB (l.mark + 1) l.b.length) := ⟨_,rfl⟩
    rw [← hr3]
    rcases write_core r2.1 nLog (((l.mark + 1) % 2 : Nat) : Int) (sealB (l.mark + 1) l.b.length) with ⟨c,hne⟩ | ⟨k',hk',_,hle,hbl,c⟩
    ·rw [← hr3] at c hne
     rw [if_neg hne]
     exact .inr ⟨hne,two (h3.core c)⟩
    ·rw [← hr3] at c
     rw [h3.find] at hk'
     cases hk'
     rw [Int.toNat_natCast] at c
     have okw : ((r2.1.file k).write ((l.mark + 1) % 2) (sealB (l.mark + 1) l.b.length)).Ok := ok2.write hi hbl
     have tw : ((r2.1.file k).write ((l.mark + 1) % 2) (sealB (l.mark + 1) l.b.length)).Tidy := Fl.write_tidy (h3.fok.at h3.lt).2 hi _
     have hA : AnyD (Two l.mark (l.b.take l.firm) (l.mark + 1) l.b) G r3.1 := by
      refine AnyD.core c ⟨h3.fok.put okw tw k,fun i => ⟨k,h3.log i,by rw [put_files]; exact h3.lt,fun c2 hc2 => ?_,(h3.data i).put _ fun q hq => ?_⟩⟩
      ·rw [put_file h3.lt] at hc2
       rcases hmk.1 c2 hc2 with h5 | h5
       ·exact ⟨_,_,.inl ⟨rfl,rfl⟩,h5⟩
       ·exact ⟨_,_,.inr ⟨rfl,rfl⟩,h5⟩
      ·rcases h3.data i with ⟨h5,_⟩ | ⟨q',h5,_,h6,_⟩
       ·rw [h5] at hq; cases hq
       ·rw [h5] at hq; cases hq; exact h6
     by_cases hw0 : r3.2 = 0
     ·rw [if_pos hw0]
      have hf3 : r3.1.find nLog = some k := by rw [c.find]; exact h3.find
      rcases sync_core r3.1 nLog with ⟨c4,hne⟩ | ⟨k',hk',h40,c4⟩
      ·exact .inr ⟨hne,hA.core c4⟩
      ·rw [hf3] at hk'
       cases hk'
       refine .inl ⟨h40,?_⟩
       have h5 : Live k (l.mark + 1) l.b G (r2.1.put k (((r2.1.file k).write ((l.mark + 1) % 2) (sealB (l.mark + 1) l.b.length)).sync)) :=
        h3.put (Fl.sync_ok okw) (Fl.sync_tidy _) (fun c2 hc2 => by rw [Fl.Cr.same (l := ((r2.1.file k).write ((l.mark + 1) % 2) (sealB (l.mark + 1) l.b.length)).now) hc2]; exact hmk.2)
       have e5 : Core (r2.1.put k (((r2.1.file k).write ((l.mark + 1) % 2) (sealB (l.mark + 1) l.b.length)).sync)) (r3.1.put k (r3.1.file k).sync) := by
        have e6 : r3.1.file k = (r2.1.file k).write ((l.mark + 1) % 2) (sealB (l.mark + 1) l.b.length) := by rw [c.file,put_file h3.lt]
        rw [e6]
        refine ⟨c.room,?_,c.firm,c.chs⟩
        show r3.1.files.set k _ = r2.1.files.set k _
        rw [c.files]
        show (r2.1.files.set k _).set k _ = _
        rw [List.set_set]
       exact h5.core (e5.trans c4)
     ·rw [if_neg hw0]
      exact .inr ⟨hw0,hA⟩
   ·rw [if_neg hs0,if_neg hs0]
    exact .inr ⟨hs0,two h3⟩
  ·rename_i h0
   exact .inr ⟨h0,two h1⟩
 rw [hfl]
 rcases goal with ⟨g1,g2⟩ | ⟨g1,g2⟩
 ·rw [if_pos g1]; exact .inl ⟨rfl,g2⟩
 ·rw [if_neg g1]; exact .inr ⟨g1,g2⟩
end Go.Proofs.YtdeebigmpffnbaaGreat
namespace Go.Proofs.YtdeebigmpffnbaaGreat
open Go Go.Vc Go.Vault Go.Redo
def nNew : ByteArray := newN nLog
theorem nLog_data : nLog ≠ nData := by decide +kernel
theorem lists_all (d : Dk) : lists d d.chs.length = d.names := by rw [lists,List.take_length]; rfl
theorem lists_change (d : Dk) (c : Ch) (i : Nat) : lists (d.change c) i = lists d i ∨ lists (d.change c) i = c.on d.names := by
 rw [lists,lists]
 show ons d.firm ((d.chs ++ [c]).take i) = _ ∨ ons d.firm ((d.chs ++ [c]).take i) = _
 by_cases h : i ≤ d.chs.length
 ·left; rw [List.take_append_of_le_length h]
 ·right
  rw [List.take_of_length_le (by rw [List.length_append]; simp only [List.length_singleton]; omega)]
  rw [Dk.names,ons,ons,List.foldl_append]; rfl
theorem grow_file {d : Dk} {k : Nat} (h : k < d.files.length) (c : Ch) (f : Fl) : (Dk.change { d with files := d.files ++ [f] } c).file k = d.file k := by
 simp only [Dk.file,Dk.change,List.getD_eq_getElem?_getD]
 rw [List.getElem?_append_left h]
theorem grow_new {d : Dk} (c : Ch) (f : Fl) : (Dk.change { d with files := d.files ++ [f] } c).file d.files.length = f := by
 simp [Dk.file,Dk.change,List.getD_eq_getElem?_getD]
theorem none_ok : Fl.none.Ok := ⟨by simp [Fl.none],by simp [Fl.none],.nil,by simp [Fl.none],Nat.le_refl _⟩
theorem none_tidy : Fl.none.Tidy := fun n _ => rfl
theorem none_cr {c : Cont} (h : Fl.none.Cr c) : c = zcont := Fl.Cr.same (l := []) h
theorem Fok.grow {d : Dk} (h : Fok d) (c : Ch) : Fok (Dk.change { d with files := d.files ++ [Fl.none] } c) :=
 ⟨fun f hf => by
  rcases List.mem_append.1 (show f ∈ d.files ++ [Fl.none] from hf) with h1 | h1
  ·exact h.ok f h1
  ·rw [List.mem_singleton.1 h1]; exact none_ok,fun f hf => by
  rcases List.mem_append.1 (show f ∈ d.files ++ [Fl.none] from hf) with h1 | h1
  ·exact h.tidy f h1
  ·rw [List.mem_singleton.1 h1]; exact none_tidy⟩
theorem DatA.grow {G : Cont → Prop} {d : Dk} {k i j : Nat} {c : Ch} (h : DatA G d k j) (hl : nget (lists (Dk.change { d with files := d.files ++ [Fl.none] } c) i) nData = nget (lists d j) nData) : DatA G (Dk.change { d with files := d.files ++ [Fl.none] } c) k i := by
 unfold DatA
 rw [hl]
 rcases h with h1 | ⟨q,h1,h2,h3,h4⟩
 ·exact .inl h1
 ·refine .inr ⟨q,h1,?_,h3,by rw [grow_file h2]; exact h4⟩
  show q < (d.files ++ [Fl.none]).length
  rw [List.length_append]; omega
theorem grow_lists (d : Dk) (c : Ch) (i : Nat) : lists (Dk.change { d with files := d.files ++ [Fl.none] } c) i = lists d i ∨ lists (Dk.change { d with files := d.files ++ [Fl.none] } c) i = c.on d.names := lists_change { d with files := d.files ++ [Fl.none] } c i
theorem Live.create {k m : Nat} {B : List UInt8} {G : Cont → Prop} {d : Dk} (h : Live k m B G d) {n : ByteArray} (h1 : nLog ≠ n) (h2 : nData ≠ n) : Live k m B G (Dk.change { d with files := d.files ++ [Fl.none] } (.create n d.files.length)) := by
 have hn : ∀ {x : ByteArray},x ≠ n → ∀ i,∃ j,nget (lists (Dk.change { d with files := d.files ++ [Fl.none] } (.create n d.files.length)) i) x = nget (lists d j) x := fun {x} hx i => by
  rcases grow_lists d (.create n d.files.length) i with e | e
  ·exact ⟨i,by rw [e]⟩
  ·refine ⟨d.chs.length,?_⟩
   rw [e,lists_all]
   show nget (with_ _ _) x = _
   rw [nget_with,if_neg hx]
 refine ⟨h.fok.grow _,fun i => ?_,?_,by rw [grow_file h.lt]; exact h.logc,fun i => ?_⟩
 ·obtain ⟨j,hj⟩ := hn h1 i
  rw [hj]; exact h.log j
 ·have := h.lt
  show k < (d.files ++ [Fl.none]).length
  rw [List.length_append]; omega
 ·obtain ⟨j,hj⟩ := hn h2 i
  exact (h.data j).grow hj
theorem Live.createD {k m : Nat} {B : List UInt8} {G : Cont → Prop} {d : Dk} (h : Live k m B G d) (hf : d.find nData = none) : Live k m B G (Dk.change { d with files := d.files ++ [Fl.none] } (.create nData d.files.length)) := by
 have hz : G zcont := by
  have hd := h.data d.chs.length
  unfold DatA at hd
  rw [lists_all] at hd
  rcases hd with ⟨_,h2⟩ | ⟨q,h2,_⟩
  ·exact h2
  ·rw [Dk.find,h2] at hf; cases hf
 refine ⟨h.fok.grow _,fun i => ?_,?_,by rw [grow_file h.lt]; exact h.logc,fun i => ?_⟩
 ·rcases grow_lists d (.create nData d.files.length) i with e | e
  ·rw [e]; exact h.log i
  ·rw [e]
   show nget (with_ _ _) nLog = _
   rw [nget_with,if_neg nLog_data]
   have := h.log d.chs.length
   rw [lists_all] at this
   exact this
 ·have := h.lt
  show k < (d.files ++ [Fl.none]).length
  rw [List.length_append]; omega
 ·rcases grow_lists d (.create nData d.files.length) i with e | e
  ·exact (h.data i).grow (by rw [e])
  ·unfold DatA
   rw [e]
   refine .inr ⟨d.files.length,?_,?_,?_,fun c hc => ?_⟩
   ·show nget (with_ _ _) nData = _
    rw [nget_with,if_pos rfl]
   ·show d.files.length < (d.files ++ [Fl.none]).length
    rw [List.length_append]; simp
   ·have := h.lt; omega
   ·rw [grow_new] at hc
    rw [none_cr hc]; exact hz
theorem Live.fopen {k m : Nat} {B : List UInt8} {G : Cont → Prop} {d : Dk} (h : Live k m B G d) : Live k m B G (fopenP d).1 := by
 unfold fopenP
 split
 ·rename_i hs
  rcases create_core d nData with ⟨c,_⟩ | c
  ·exact h.core c
  ·refine (h.createD ?_).core c
   cases hf : d.find nData with
   | none => rfl
   | some q => rw [Dk.size,hf] at hs; exact absurd hs (by simp)
 ·exact h
structure NewF (d : Dk) (k K : Nat) (f : Fl) : Prop where
 find : d.find nNew = some K
 lt : K < d.files.length
 file : d.file K = f
 ne : K ≠ k
 dat : ∀ i q,nget (lists d i) nData = some q → q ≠ K
section
variable {k m K : Nat} {B : List UInt8} {G : Cont → Prop} {d : Dk} {f : Fl}
end
def goodF : Fl := ⟨[zsec,sealB 1 0],[zsec,sealB 1 0],[]⟩
theorem good_log : LogIs (cont goodF.now) 1 [] :=
 ⟨by show 2 + nsec 0 ≤ 2; decide,by show lookS (sealB 1 0) = some (1,0); exact lookS_seal (by decide) (by decide),.inl (by show zsec.drop 504 = be ((0 : Nat) : Int) 8; decide +kernel),by omega,fun k hk => by simp at hk,by decide,by decide⟩
theorem foundF_at : ∀ {fs : List Fl} {ps : List Int} {k : Nat} {f : Fl},fs[k]? = some f → ∃ qs,(foundF fs ps)[k]? = some (f.found qs)
 | [],_,_,_,h => by simp at h
 | g :: fs,ps,0,f,h => by
  simp at h; subst h
  exact ⟨ps,rfl⟩
 | g :: fs,ps,k + 1,f,h => by
  simp at h
  obtain ⟨qs,hq⟩ := foundF_at (ps := ps.drop g.since.length) h
  exact ⟨qs,by simpa [foundF] using hq⟩
theorem crash_file {d : Dk} {k : Nat} (hk : k < d.files.length) (n : Int) (ps : List Int) : ∃ qs,(d.crash n ps).file k = (d.file k).found qs := by
 obtain ⟨qs,hq⟩ := foundF_at (ps := ps) (List.getElem?_eq_getElem hk)
 refine ⟨qs,?_⟩
 have e : d.file k = d.files[k] := by simp [Dk.file,List.getD_eq_getElem?_getD,hk]
 rw [e]
 simp only [Dk.crash,Dk.file,List.getD_eq_getElem?_getD,hq,Option.getD_some]
theorem AnyD.crash {Q : Nat → List UInt8 → Prop} {G : Cont → Prop} {d : Dk} (h : AnyD Q G d) (n : Int) (ps : List Int) : ∃ k m B,Q m B ∧ Live k m B G (d.crash n ps) := by
 obtain ⟨i,hi⟩ : ∃ i,i = (min (max n 0) d.chs.length).toNat := ⟨_,rfl⟩
 have hlist : ∀ j,lists (d.crash n ps) j = lists d i := fun j => by
  rw [lists,lists]
  show ons (ons d.firm (d.chs.take _)) (List.take j []) = _
  rw [List.take_nil,hi]; rfl
 have hfl : (d.crash n ps).files.length = d.files.length := foundF_len _ _
 obtain ⟨k,h1,h2,h3,h4⟩ := h.log i
 have hfound : ∀ q,q < d.files.length → ∃ l,(d.crash n ps).file q = ⟨l,l,[]⟩ ∧ (d.file q).Cr (cont l) := fun q hq => by
  obtain ⟨qs,hqs⟩ := crash_file hq n ps
  exact ⟨_,hqs,Fl.Cr.found (h.fok.at hq).1 qs (found_ok (h.fok.at hq).1 qs).2⟩
 obtain ⟨l,hl1,hl2⟩ := hfound k h2
 obtain ⟨m,B,hQ,hLog⟩ := h3 _ hl2
 refine ⟨k,m,B,hQ,⟨⟨fun f hf => ?_,fun f hf => ?_⟩,fun j => by rw [hlist]; exact h1,by rw [hfl]; exact h2,fun c hc => ?_,fun j => ?_⟩⟩
 ·obtain ⟨g,hg,qs,rfl⟩ := foundF_mem (show f ∈ foundF d.files ps from hf)
  exact (found_ok (h.fok.ok g hg) qs).1
 ·obtain ⟨g,hg,qs,rfl⟩ := foundF_mem (show f ∈ foundF d.files ps from hf)
  exact fun n _ => rfl
 ·rw [hl1] at hc
  rw [Fl.Cr.same hc]; exact hLog
 ·unfold DatA at h4 ⊢
  rw [hlist]
  rcases h4 with h5 | ⟨q,h5,h6,h7,h8⟩
  ·exact .inl h5
  ·obtain ⟨lq,hq1,hq2⟩ := hfound q h6
   refine .inr ⟨q,h5,by rw [hfl]; exact h6,h7,fun c hc => ?_⟩
   rw [hq1] at hc
   rw [Fl.Cr.same hc]; exact h8 _ hq2
theorem Live.openP {k m : Nat} {B : List UInt8} {G : Cont → Prop} {d : Dk} (h : Live k m B G d) (hd : d.dead = false) {all : List ByteArray} (ha : records B = some all) : openP d nLog = (d,0,⟨nLog,m,B,B.length,all.length,all,0⟩) := by
 have hk := h.find
 have hn := h.now
 have hlen := hn.len
 have hs : d.size nLog = (((d.file k).now.length : Nat) : Int) := by rw [Dk.size,hk]; rfl
 unfold Redo.openP
 have hlen : 2 + nsec B.length ≤ (d.file k).now.length := hlen
 rw [if_neg (by rw [hd]; simp),if_neg (by decide),if_pos (by rw [hs]; omega),hn.find hd hk (h.fok.at h.lt).1.now ha]
end Go.Proofs.YtdeebigmpffnbaaGreat
namespace Go.Proofs.YtdeebigmpffnbaaGreat.Sl
open Go Go.Vc
theorem parse_at {g : Pg} (h : g.Ok) (k : Nat) : atOf (parse g.bs) k = atOf g k ∧ lenOf (parse g.bs) k = lenOf g k := by
 simp only [atOf,lenOf,parse,List.getD_eq_getElem?_getD,List.getElem?_map]
 by_cases hk : k < 120
 ·have hl : k < g.dir.length := by rw [h.dir]; exact hk
  rw [List.getElem?_range hk,List.getElem?_eq_getElem hl]
  have h1 := h.ent1 hk
  have h2 := h.ent2 hk
  simp only [Option.map_some,Option.getD_some,twoP]
  exact ⟨h1,h2⟩
 ·have hl : g.dir.length ≤ k := by rw [h.dir]; omega
  have hr : (List.range 120)[k]? = none := List.getElem?_eq_none (by rw [List.length_range]; omega)
  rw [hr,List.getElem?_eq_none hl]
  exact ⟨rfl,rfl⟩
theorem loadF_rep {g : Pg} {L : Recs} {stamp : Nat} (h : Rep g L stamp) : ∀ (m k : Nat),k + m = g.many → loadF (parse g.bs) m k (upto L k) = some L
 | 0,k,hk => by rw [loadF,upto_all fun p hp => by have := h.below p hp; omega]
 | m + 1,k,hk => by
  obtain ⟨e1,e2⟩ := parse_at h.ok k
  have hb : (parse g.bs).bs = g.bs := (parse_ok h.ok.len).2
  rw [loadF,e1,e2,hb]
  by_cases h0 : atOf g k = 0
  ·rw [if_pos h0]
   have hn : ∀ s,(k,s) ∉ L := fun s hs => by have := (h.at_ hs).1; omega
   rw [← upto_skip hn]
   exact loadF_rep h m (k + 1) (by omega)
  ·obtain ⟨s,hs⟩ := h.mem_live.1 ⟨(by omega : k < g.many),(by omega : 0 < atOf g k)⟩
   obtain ⟨h1,h2,h3,h4⟩ := h.at_ hs
   have hmany := h.ok.many
   rw [if_neg h0,if_neg (by omega)]
   have h5 : (g.bs.drop (atOf g k)).take (lenOf g k) = s := h4
   rw [h5]
   have hins := upto_step h.sorted hs
   have htot : tot (wo (upto L k) k) + s.length ≤ 3600 := by
    have h6 : tot (upto L (k + 1)) = tot (wo (upto L k) k) + s.length := by
     rw [← hins,tot_perm (insR_perm _ _),tot_cons]; exact Nat.add_comm _ _
    have h7 := tot_sub L fun p => decide (p.1 < k + 1)
    have h8 : tot (upto L (k + 1)) ≤ tot L := h7
    have := h.small
    omega
   have hput : aput (upto L k) (k : Int) s = (upto L (k + 1),0) := by
    rw [aput,if_neg (by omega),Int.toNat_natCast,if_neg (by omega),hins]
   dsimp only
   rw [hput,if_pos rfl]
   exact loadF_rep h m (k + 1) (by omega)
theorem loadP_rep {g : Pg} {L : Recs} {stamp : Nat} (h : Rep g L stamp) : loadP g.bs = some (L,stamp) := by
 have hst : (parse g.bs).st = g.st := by
  show g.bs.take 8 = g.st
  rw [Pg.bs]; exact List.take_left' h.ok.st
 have hhdr : (parse g.bs).hdr = g.many := by
  show twoP g.bs 8 = g.many
  have e : (g.bs.drop 8).take 2 = be g.hdr 2 := by
   rw [Pg.bs,List.drop_left' h.ok.st]
   exact List.take_left' (be_length _ _)
  rw [twoP,e,← h.hdr]
  have h1 := h.ok.hdr
  have := valN_be' (n := (g.hdr : Int)) (k := 2) (by omega) (by omega)
  omega
 have hnum : num g.st = (stamp : Int) := by
  rw [h.st]
  have := h.stamp
  exact num_be (by omega) (by omega) (by omega)
 have hmany := h.ok.many
 have hs := h.stamp
 rw [loadP]
 rw [hst,hhdr,hnum,if_neg (by unfold okStamp; omega),show ([] : Recs) = upto L 0 by simp [upto],loadF_rep h g.many 0 (by omega)]
 simp
theorem zero_rep : ∃ g : Pg,Rep g [] 0 ∧ g.bs = List.replicate 4096 0 := by
 refine ⟨gZ 4096,gZ_rep,?_⟩
 show List.replicate 8 (0 : UInt8) ++ (be ((0 : Nat) : Int) 2 ++ (dirB (List.replicate 120 (0,0)) ++ List.replicate 3606 0)) = List.replicate 4096 0
 have e1 : be ((0 : Nat) : Int) 2 = List.replicate 2 (0 : UInt8) := by decide
 have e2 : ∀ n,dirB (List.replicate n ((0 : Nat),(0 : Nat))) = List.replicate (4 * n) (0 : UInt8) := by
  intro n
  induction n with
  | zero => rfl
  | succ n ih =>
   rw [List.replicate_succ,dirB_cons,ih]
   have e3 : be (((0,0) : Nat × Nat).1 : Int) 2 ++ be (((0,0) : Nat × Nat).2 : Int) 2 = List.replicate 4 (0 : UInt8) := by decide
   rw [e3,List.replicate_append_replicate,show 4 + 4 * n = 4 * (n + 1) by omega]
 rw [e1,e2,List.replicate_append_replicate,List.replicate_append_replicate,List.replicate_append_replicate]
end Go.Proofs.YtdeebigmpffnbaaGreat.Sl
namespace Go.Proofs.YtdeebigmpffnbaaGreat
open Go Go.Vc Go.Vault Go.Redo
def recs (Ps : List AP) (n : Nat) : Sl.Recs := ((Ps[n]?).getD ([],0)).1
theorem recs_grow (Ps : List AP) (m n : Nat) : recs (growP Ps m) n = recs Ps n := by
 have := pageP_grow Ps m (n : Int)
 rw [pageP,pageP,Int.toNat_natCast] at this
 rw [recs,recs,this]
theorem recs_set {Ps : List AP} {n : Nat} (h : n < Ps.length) (P : AP) (i : Nat) : recs (Ps.set n P) i = if i = n then P.1 else recs Ps i := by
 rw [recs,recs]
 split
 ·rename_i e; subst e; rw [List.getElem?_set_self h]; rfl
 ·rename_i e; rw [List.getElem?_set_ne (fun h => e h.symm)]
theorem recs_growset (Ps : List AP) (n : Nat) (P : AP) (i : Nat) : recs ((growP Ps (n + 1)).set n P) i = if i = n then P.1 else recs Ps i := by
 rw [recs_set (by rw [growP_len]; omega),recs_grow]
def rdC (c : Cont) (n : Nat) : List UInt8 := (List.range 8).flatMap fun k => c.v (n * 8 + k)
def pgC (c : Cont) (n : Nat) : Option AP := Sl.loadP (rdC c n)
def PageIs (c : Cont) (n : Nat) (L : Sl.Recs) : Prop := ∃ st,pgC c n = some (L,st)
theorem rdF_ok {d : Dk} (hd : d.dead = false) {q : Nat} (hq : d.find nData = some q) (n : Nat) : ∀ (m k : Nat) (b : List UInt8),rdF d n m k b = (b ++ (List.range m).flatMap (fun i => val (d.file q).now (n * 8 + (k + i))),0)
 | 0,k,b => by simp [rdF]
 | m + 1,k,b => by
  have hr : (b ++ if (d.read nData ((n * 8 + k : Nat) : Int)).2 = 0 then (d.read nData ((n * 8 + k : Nat) : Int)).1 else List.replicate 512 0) = b ++ val (d.file q).now (n * 8 + k) ∧ ((d.read nData ((n * 8 + k : Nat) : Int)).2 = 0 ∨ (d.read nData ((n * 8 + k : Nat) : Int)).2 = 91) := by
   by_cases h : n * 8 + k < d.len q
   ·have e := read_ok hd hq h
    have hv : val (d.file q).now (n * 8 + k) = (d.file q).now.getD (n * 8 + k) [] := by
     have h : n * 8 + k < (d.file q).now.length := h
     rw [val_of h]; simp [List.getD_eq_getElem?_getD,h]
    rw [e,hv]
    exact ⟨by simp,.inl rfl⟩
   ·have e : d.read nData ((n * 8 + k : Nat) : Int) = ([],91) := by
     have h2 : (((n * 8 + k : Nat) : Int) < 0 ∨ (d.len q : Int) ≤ ((n * 8 + k : Nat) : Int)) := .inr (by omega)
     simp only [Dk.read,hd,hq,Bool.false_eq_true,if_false,if_pos h2]
    have hv : val (d.file q).now (n * 8 + k) = List.replicate 512 0 := val_out (Nat.le_of_not_lt h)
    rw [e,hv]
    exact ⟨by simp,.inr rfl⟩
  rw [rdF]
  have hsh : (List.range (m + 1)).flatMap (fun i => val (d.file q).now (n * 8 + (k + i))) = val (d.file q).now (n * 8 + k) ++ (List.range m).flatMap fun i => val (d.file q).now (n * 8 + (k + 1 + i)) := by
   rw [List.range_succ_eq_map,List.flatMap_cons,List.flatMap_map]
   congr 1
   refine congrArg (fun f => (List.range m).flatMap f) (funext fun i => ?_)
   show val _ (n * 8 + (k + (i + 1))) = _
   rw [show k + (i + 1) = k + 1 + i by omega]
  rw [hsh,← List.append_assoc,← hr.1]
  rcases hr.2 with h | h
  ·rw [if_pos h,if_pos h,rdF_ok hd hq n m (k + 1)]
  ·rw [if_neg (by rw [h]; decide),if_pos h,if_neg (by rw [h]; decide),rdF_ok hd hq n m (k + 1)]
theorem readP_ok {d : Dk} (hd : d.dead = false) {q : Nat} (hq : d.find nData = some q) {n : Nat} {L : Sl.Recs} (h : PageIs (cont (d.file q).now) n L) : ∃ st,readP d n = (some (L,st),0) := by
 obtain ⟨st,hst⟩ := h
 refine ⟨st,?_⟩
 have e := rdF_ok hd hq n 8 0 []
 have e2 : ([] : List UInt8) ++ (List.range 8).flatMap (fun i => val (d.file q).now (n * 8 + (0 + i))) = rdC (cont (d.file q).now) n := by
  rw [List.nil_append,rdC]
  refine congrArg (fun f => (List.range 8).flatMap f) (funext fun i => ?_)
  show val _ (n * 8 + (0 + i)) = val _ (n * 8 + i)
  rw [Nat.zero_add]
 rw [e2] at e
 rw [readP,e]
 dsimp only
 rw [if_pos rfl]
 have hst : Sl.loadP (rdC (cont (d.file q).now) n) = some (L,st) := hst
 rw [hst]
theorem readAll_ok {d : Dk} (hd : d.dead = false) {q : Nat} (hq : d.find nData = some q) {T : Tou} {R : Nat → Sl.Recs} : ∀ (m n : Nat) (Ps : List AP),(∀ i,n ≤ i → i < n + m → T (i : Int) = 0 → PageIs (cont (d.file q).now) i (R i)) →
  ∃ Qs,readAll d T m n Ps = (Qs,0) ∧ ∀ i,recs Qs i = if n ≤ i ∧ i < n + m ∧ T (i : Int) = 0 then R i else recs Ps i
 | 0,n,Ps,h => ⟨Ps,rfl,fun i => by rw [if_neg (by omega)]⟩
 | m + 1,n,Ps,h => by
  rw [readAll]
  by_cases hT : 0 < T (n : Int)
  ·rw [if_pos hT]
   obtain ⟨Qs,h1,h2⟩ := readAll_ok hd hq m (n + 1) (growP Ps (n + 1)) (fun i h1 h2 h3 => h i (by omega) (by omega) h3)
   refine ⟨Qs,h1,fun i => ?_⟩
   rw [h2,recs_grow]
   by_cases hi : i = n
   ·subst hi
    rw [if_neg (by omega),if_neg (by omega)]
   ·by_cases h5 : n + 1 ≤ i ∧ i < n + 1 + m ∧ T (i : Int) = 0
    ·rw [if_pos h5,if_pos ⟨by omega,by omega,h5.2.2⟩]
    ·rw [if_neg h5,if_neg (fun h6 => h5 ⟨by omega,by omega,h6.2.2⟩)]
  ·rw [if_neg hT]
   obtain ⟨st,hst⟩ := readP_ok hd hq (h n (Nat.le_refl _) (by omega) (by omega))
   rw [hst]
   dsimp only
   obtain ⟨Qs,h1,h2⟩ := readAll_ok hd hq m (n + 1) ((growP Ps (n + 1)).set n (R n,st)) (fun i h1 h2 h3 => h i (by omega) (by omega) h3)
   refine ⟨Qs,h1,fun i => ?_⟩
   rw [h2,recs_growset]
   by_cases hi : i = n
   ·subst hi
    rw [if_neg (by omega),if_pos rfl,if_pos ⟨by omega,by omega,by omega⟩]
   ·rw [if_neg hi]
    by_cases h5 : n + 1 ≤ i ∧ i < n + 1 + m ∧ T (i : Int) = 0
    ·rw [if_pos h5,if_pos ⟨by omega,by omega,h5.2.2⟩]
    ·rw [if_neg h5,if_neg (fun h6 => h5 ⟨by omega,by omega,h6.2.2⟩)]
def norm (c : Chg1) : Chg1 := ⟨c.page,c.slot,chB c,c.gone⟩
theorem laid_parts {c : Chg1} (h : ¬ badC c) (r : List UInt8) : 6 ≤ (laidP c ++ r).length ∧ valN (((laidP c ++ r).take 6).drop 4) = (chB c).size ∧ (laidP c ++ r).drop (6 + (chB c).size) = r ∧ one1 (laidP c ++ r) = norm c := by
 unfold badC at h
 have h1 : 0 ≤ c.page := Int.not_lt.1 fun e => h (.inl e)
 have h2 : c.page < 4096 := Int.not_le.1 fun e => h (.inr (.inl e))
 have h3 : 0 ≤ c.slot := Int.not_lt.1 fun e => h (.inr (.inr (.inl e)))
 have h4 : c.slot < 120 := Int.not_le.1 fun e => h (.inr (.inr (.inr (.inl e))))
 have h5 : (chB c).size ≤ 3600 := by have := laid_small (c := c) h; rw [laid_len] at this; omega
 have hS : (chB c).data.toList.length = (chB c).size := str_len _
 obtain ⟨g,hg⟩ : ∃ g : Int,g = if c.gone = true then 1 else 0 := ⟨_,rfl⟩
 have e0 : laidP c ++ r = be c.page 2 ++ (be c.slot 1 ++ (be g 1 ++ (be ((chB c).size : Int) 2 ++ ((chB c).data.toList ++ r)))) := by
  rw [laidP,hg]; simp only [List.append_assoc]
 rw [e0]
 have l2 : (be c.page 2).length = 2 := be_length _ _
 have l1 : (be c.slot 1).length = 1 := be_length _ _
 have lg : (be g 1).length = 1 := be_length _ _
 have ls : (be ((chB c).size : Int) 2).length = 2 := be_length _ _
 have v2 : (valN (be c.page 2) : Int) = c.page := valN_be' h1 (by omega)
 have v1 : (valN (be c.slot 1) : Int) = c.slot := valN_be' h3 (by omega)
 have vs : valN (be ((chB c).size : Int) 2) = (chB c).size := by have := valN_be' (n := ((chB c).size : Int)) (k := 2) (by omega) (by omega); omega
 generalize be c.page 2 = A at *
 generalize be c.slot 1 = B at *
 generalize hC : be g 1 = C at *
 generalize be ((chB c).size : Int) 2 = D at *
 generalize hSS : (chB c).data.toList = S at *
 have t3 : ((A ++ (B ++ (C ++ (D ++ (S ++ r))))).take 3).drop 2 = B := by
  rw [← List.append_assoc,List.take_left' (by rw [List.length_append]; omega),List.drop_left' l2]
 have t6 : ((A ++ (B ++ (C ++ (D ++ (S ++ r))))).take 6).drop 4 = D := by
  have e : A ++ (B ++ (C ++ (D ++ (S ++ r)))) = (A ++ (B ++ (C ++ D))) ++ (S ++ r) := by simp only [List.append_assoc]
  rw [e,List.take_left' (by simp only [List.length_append]; omega)]
  have e2 : A ++ (B ++ (C ++ D)) = (A ++ (B ++ C)) ++ D := by simp only [List.append_assoc]
  rw [e2,List.drop_left' (by simp only [List.length_append]; omega)]
 have d6 : (A ++ (B ++ (C ++ (D ++ (S ++ r))))).drop (6 + (chB c).size) = r := by
  have e : A ++ (B ++ (C ++ (D ++ (S ++ r)))) = (A ++ (B ++ (C ++ (D ++ S)))) ++ r := by simp only [List.append_assoc]
  rw [e,List.drop_left' (by simp only [List.length_append]; omega)]
 have s6 : ((A ++ (B ++ (C ++ (D ++ (S ++ r))))).take (6 + (chB c).size)).drop 6 = S := by
  have e : A ++ (B ++ (C ++ (D ++ (S ++ r)))) = (A ++ (B ++ (C ++ (D ++ S)))) ++ r := by simp only [List.append_assoc]
  rw [e,List.take_left' (by simp only [List.length_append]; omega)]
  have e2 : A ++ (B ++ (C ++ (D ++ S))) = (A ++ (B ++ (C ++ D))) ++ S := by simp only [List.append_assoc]
  rw [e2,List.drop_left' (by simp only [List.length_append]; omega)]
 refine ⟨by simp only [List.length_append]; omega,by rw [t6]; exact vs,d6,?_⟩
 have hgone : decide (sb ⟨(A ++ (B ++ (C ++ (D ++ (S ++ r))))).toArray⟩ 3 = 1) = c.gone := by
  have e : (A ++ (B ++ (C ++ (D ++ (S ++ r)))))[3]? = C[0]? := by
   have e2 : A ++ (B ++ (C ++ (D ++ (S ++ r)))) = (A ++ B) ++ (C ++ (D ++ (S ++ r))) := by simp only [List.append_assoc]
   rw [e2,List.getElem?_append_right (by simp only [List.length_append]; omega),List.length_append,l2,l1,List.getElem?_append_left (by omega)]
  have e3 : sb ⟨(A ++ (B ++ (C ++ (D ++ (S ++ r))))).toArray⟩ 3 = (((C[0]?).getD 0).toNat : Int) := by
   rw [sb,← e]; rfl
  rw [e3,← hC,hg]
  cases c.gone <;> decide
 rw [one1,t6,vs,t3,s6,List.take_left' l2,hgone]
 have hSd : (⟨S.toArray⟩ : ByteArray) = chB c := by rw [← hSS]
 rw [hSd,norm,v2,v1]
end Go.Proofs.YtdeebigmpffnbaaGreat
namespace Go.Proofs.YtdeebigmpffnbaaGreat
open Go Go.Vc Go.Vault Go.Redo
theorem taken_laid : ∀ (l : List Chg1) (m : Nat) (acc : List Chg1),(∀ c ∈ l,¬ badC c) → l.length < m → takenF m (l.flatMap laidP) acc = some (acc ++ l.map norm)
 | [],m,acc,_,hm => by
  obtain ⟨m,rfl⟩ : ∃ k,m = k + 1 := ⟨m - 1,by simp at hm; omega⟩
  simp [takenF]
 | c :: r,m,acc,h,hm => by
  rw [List.length_cons] at hm
  obtain ⟨m,rfl⟩ : ∃ k,m = k + 1 := ⟨m - 1,by omega⟩
  obtain ⟨h1,h2,h3,h4⟩ := laid_parts (h c (.head _)) (r.flatMap laidP)
  have hl : (laidP c ++ r.flatMap laidP).length = 6 + (chB c).size + (r.flatMap laidP).length := by rw [List.length_append,laid_len]
  rw [List.flatMap_cons,takenF,if_neg (by omega),if_neg (by omega),h2,if_neg (by omega),h3,h4,taken_laid r m (acc ++ [norm c]) (fun d hd => h d (.tail _ hd)) (by omega)]
  simp
theorem flat_laid_len : ∀ (l : List Chg1),l.length ≤ (l.flatMap laidP).length
 | [] => by simp
 | c :: r => by
  rw [List.flatMap_cons,List.length_append,laid_len,List.length_cons]
  have := flat_laid_len r
  omega
theorem norm_bad (c : Chg1) : badC (norm c) ↔ badC c := by
 unfold badC norm chB
 dsimp only
 cases hg : c.gone <;> simp
theorem there_recs (Ps : List AP) (c : Chg1) : thereP Ps c = (Sl.lk (recs Ps c.page.toNat) c.slot).isSome := by
 rw [thereP,recs]
 cases Ps[c.page.toNat]? with
 | none => rfl
 | some P => rfl
def mapN (la : Last) : Last := la.map fun p => (p.1,norm p.2)
theorem mapN_get (la : Last) (k : Int × Int) : gget (mapN la) k = (gget la k).map norm := by
 induction la with
 | nil => rfl
 | cons p r ih =>
  obtain ⟨x,u⟩ := p
  simp only [mapN,List.map_cons,gget] at ih ⊢
  split
  ·rfl
  ·exact ih
theorem mapN_put (la : Last) (k : Int × Int) (c : Chg1) : gput (mapN la) k (norm c) = mapN (gput la k c) := by
 induction la with
 | nil => rfl
 | cons p r ih =>
  obtain ⟨x,u⟩ := p
  simp only [mapN,List.map_cons,gput] at ih ⊢
  split
  ·rfl
  ·rw [ih]; rfl
theorem final_norm {Ps Qs : List AP} : ∀ (l : List Chg1) (o : Ord) (la : Last),(∀ c ∈ l,recs Ps c.page.toNat = recs Qs c.page.toNat) → finalF Qs (l.map norm) o (mapN la) = (finalF Ps l o la).map fun z => (z.1,mapN z.2)
 | [],o,la,_ => rfl
 | c :: r,o,la,h => by
  have hr := fun c hc => h c (.tail _ hc)
  have hth : thereP Qs (norm c) = thereP Ps c := by rw [there_recs,there_recs,h c (.head _)]; rfl
  rw [List.map_cons,finalF,finalF]
  by_cases hb : badC c
  ·rw [if_pos hb,if_pos ((norm_bad c).2 hb)]; rfl
  ·rw [if_neg hb,if_neg (fun h => hb ((norm_bad c).1 h))]
   show (match gget (mapN la) (c.page,c.slot) with | some was => _ | none => _) = _
   rw [mapN_get,hth]
   cases gget la (c.page,c.slot) with
   | some was =>
    simp only [Option.map_some]
    by_cases hg : c.gone = true ∧ was.gone = true
    ·rw [if_pos hg,if_pos (show (norm c).gone = true ∧ (norm was).gone = true from hg)]; rfl
    ·rw [if_neg hg,if_neg (show ¬ ((norm c).gone = true ∧ (norm was).gone = true) from hg)]
     show finalF Qs (r.map norm) o (gput (mapN la) (c.page,c.slot) (norm c)) = _
     rw [mapN_put,final_norm r _ _ hr]
   | none =>
    simp only [Option.map_none]
    by_cases hg : c.gone = true ∧ thereP Ps c = false
    ·rw [if_pos hg,if_pos (show (norm c).gone = true ∧ thereP Ps c = false from hg)]; rfl
    ·rw [if_neg hg,if_neg (show ¬ ((norm c).gone = true ∧ thereP Ps c = false) from hg)]
     show finalF Qs (r.map norm) (o ++ [(c.page,c.slot)]) (gput (mapN la) (c.page,c.slot) (norm c)) = _
     rw [mapN_put,final_norm r _ _ hr]
def rcM (M : TM) : List (Int × Sl.Recs) := M.map fun e => (e.1,e.2.1)
theorem rc_get (M : TM) (k : Int) : gget (rcM M) k = (gget M k).map (·.1) := by
 induction M with
 | nil => rfl
 | cons p r ih =>
  obtain ⟨x,u⟩ := p
  simp only [rcM,List.map_cons,gget] at ih ⊢
  split
  ·rfl
  ·exact ih
theorem rc_put (M : TM) (k : Int) (P : AP) : rcM (gput M k P) = gput (rcM M) k P.1 := by
 induction M with
 | nil => rfl
 | cons p r ih =>
  obtain ⟨x,u⟩ := p
  simp only [rcM,List.map_cons,gput] at ih ⊢
  split
  ·rfl
  ·rw [← ih]; rfl
theorem del_recs {Ps Qs : List AP} : ∀ (o : Ord) (M N : TM),rcM M = rcM N → (∀ q ∈ o,recs Ps q.1.toNat = recs Qs q.1.toNat) → rcM (delF Ps o M) = rcM (delF Qs o N)
 | [],M,N,h,_ => h
 | (p,s) :: r,M,N,h,ho => by
  rw [delF,delF]
  refine del_recs r _ _ ?_ fun q hq => ho q (.tail _ hq)
  have hg : ((gget M p).getD (pageP Ps p)).1 = ((gget N p).getD (pageP Qs p)).1 := by
   have h1 := rc_get M p
   have h2 := rc_get N p
   rw [h,h2] at h1
   cases hm : gget M p with
   | none =>
    rw [hm] at h1
    cases hn : gget N p with
    | none => exact ho (p,s) (.head _)
    | some Q => rw [hn] at h1; cases h1
   | some P =>
    rw [hm] at h1
    cases hn : gget N p with
    | none => rw [hn] at h1; cases h1
    | some Q => rw [hn] at h1; exact (Option.some.inj h1).symm
  rw [rc_put,rc_put,h]
  dsimp only
  rw [hg]
theorem put_recs (la : Last) : ∀ (o : Ord) (M N : TM) {M' : TM},rcM M = rcM N → putF o la M = some M' → ∃ N',putF o (mapN la) N = some N' ∧ rcM M' = rcM N'
 | [],M,N,M',h,e => by rw [putF] at e; cases e; exact ⟨N,rfl,h⟩
 | (p,s) :: r,M,N,M',h,e => by
  rw [putF] at e
  rw [putF,mapN_get]
  have h1 := rc_get M p
  have h2 := rc_get N p
  rw [h,h2] at h1
  cases hc : gget la (p,s) with
  | none => rw [hc] at e; cases e
  | some c =>
   rw [hc] at e
   cases hm : gget M p with
   | none => rw [hm] at e; cases e
   | some P =>
    rw [hm] at e h1
    cases hn : gget N p with
    | none => rw [hn] at h1; cases h1
    | some Q =>
     rw [hn] at h1
     have hPQ : Q.1 = P.1 := Option.some.inj h1
     simp only [Option.map_some] at e ⊢
     by_cases hg : c.gone = true
     ·rw [if_pos hg] at e
      rw [if_pos (show (norm c).gone = true from hg)]
      exact put_recs la r M N h e
     ·rw [if_neg hg] at e
      rw [if_neg (show ¬ (norm c).gone = true from hg)]
      have hs : (norm c).s = c.s := by show chB c = c.s; rw [chB,if_neg hg]
      rw [hs,hPQ]
      by_cases h0 : (Sl.aput P.1 s c.s.data.toList).2 = 0
      ·rw [if_pos h0] at e ⊢
       exact put_recs la r _ _ (by rw [rc_put,rc_put,h]) e
      ·rw [if_neg h0] at e; cases e
theorem final_pages (Ps : List AP) : ∀ (l : List Chg1) (o : Ord) (la : Last) {z : Ord × Last},finalF Ps l o la = some z → ∀ q ∈ z.1,q ∈ o ∨ ∃ c ∈ l,c.page = q.1
 | [],o,la,z,h => by rw [finalF] at h; cases h; exact fun q hq => .inl hq
 | c :: r,o,la,z,h => by
  rw [finalF] at h
  split at h
  ·cases h
  ·split at h
   ·split at h
    ·cases h
    ·intro q hq
     rcases final_pages Ps r _ _ h q hq with h1 | ⟨d,hd,h1⟩
     ·exact .inl h1
     ·exact .inr ⟨d,.tail _ hd,h1⟩
   ·split at h
    ·cases h
    ·intro q hq
     rcases final_pages Ps r _ _ h q hq with h1 | ⟨d,hd,h1⟩
     ·rcases List.mem_append.1 h1 with h1 | h1
      ·exact .inl h1
      ·rw [List.mem_singleton] at h1
       exact .inr ⟨c,.head _,by rw [h1]⟩
     ·exact .inr ⟨d,.tail _ hd,h1⟩
theorem tried_recs {Ps Qs : List AP} {l : List Chg1} {M : TM} (h : triedP Ps l = some M) (hr : ∀ c ∈ l,recs Ps c.page.toNat = recs Qs c.page.toNat) : ∃ N,triedP Qs (l.map norm) = some N ∧ rcM M = rcM N := by
 unfold triedP at h ⊢
 have hf := final_norm l [] [] hr
 have e0 : mapN [] = [] := rfl
 rw [e0] at hf
 cases hz : finalF Ps l [] [] with
 | none => rw [hz] at h; cases h
 | some z =>
  obtain ⟨o,la⟩ := z
  rw [hz] at h hf
  rw [hf]
  simp only [Option.map_some] at h ⊢
  refine put_recs la o _ _ (del_recs o [] [] rfl fun q hq => ?_) h
  rcases final_pages Ps l [] [] hz q hq with h1 | ⟨c,hc,h1⟩
  ·cases h1
  ·rw [← h1]; exact hr c hc
theorem tried_keys {Ps : List AP} {l : List Chg1} {M : TM} (h : triedP Ps l = some M) : ∀ e ∈ M,∃ c ∈ l,c.page = e.1 := by
 unfold triedP at h
 cases hz : finalF Ps l [] [] with
 | none => rw [hz] at h; cases h
 | some z =>
  obtain ⟨o,la⟩ := z
  rw [hz] at h
  dsimp only at h
  have hd : ∀ (o : Ord) (M : TM),(∀ q ∈ o,∃ c ∈ l,c.page = q.1) → (∀ e ∈ M,∃ c ∈ l,c.page = e.1) → ∀ e ∈ delF Ps o M,∃ c ∈ l,c.page = e.1 := by
   intro o
   induction o with
   | nil => intro M _ h; exact h
   | cons q r ih =>
    intro M ho h
    obtain ⟨p,s⟩ := q
    rw [delF]
    refine ih _ (fun q hq => ho q (.tail _ hq)) fun e he => ?_
    rcases gput_mem he with rfl | he
    ·exact ho (p,s) (.head _)
    ·exact h e he
  have hp : ∀ (o : Ord) (M : TM) {M' : TM},(∀ q ∈ o,∃ c ∈ l,c.page = q.1) → (∀ e ∈ M,∃ c ∈ l,c.page = e.1) → putF o la M = some M' → ∀ e ∈ M',∃ c ∈ l,c.page = e.1 := by
   intro o
   induction o with
   | nil => intro M M' _ h e; rw [putF] at e; cases e; exact h
   | cons q r ih =>
    intro M M' ho h e
    obtain ⟨p,s⟩ := q
    have hr : ∀ q ∈ r,∃ c ∈ l,c.page = q.1 := fun q hq => ho q (.tail _ hq)
    rw [putF] at e
    split at e
    ·split at e
     ·exact ih M hr h e
     ·split at e
      ·refine ih _ hr (fun e he => ?_) e
       rcases gput_mem he with rfl | he
       ·exact ho (p,s) (.head _)
       ·exact h e he
      ·cases e
    ·cases e
  have ho : ∀ q ∈ o,∃ c ∈ l,c.page = q.1 := fun q hq => by
   rcases final_pages Ps l [] [] hz q hq with h1 | h1
   ·cases h1
   ·exact h1
  exact hp o _ ho (hd o [] ho (by simp)) h
theorem lay_recs {st : Nat} : ∀ (M : TM) (Ps : List AP),(∀ e ∈ M,0 ≤ e.1) → (M.map (·.1)).Nodup → ∀ i : Nat,recs (layP st Ps M) i = match gget M (i : Int) with | some P => P.1 | none => recs Ps i
 | [],Ps,_,_,i => rfl
 | (n,P) :: r,Ps,hk,hn,i => by
  have h0 := hk (n,P) (.head _)
  rw [List.map_cons,List.nodup_cons] at hn
  have ih := lay_recs (st := st) r (lay1 st Ps (n,P)) (fun e he => hk e (.tail _ he)) hn.2 i
  have e1 : layP st Ps ((n,P) :: r) = layP st (lay1 st Ps (n,P)) r := rfl
  rw [e1,ih,gget]
  have hl : recs (lay1 st Ps (n,P)) i = if i = n.toNat then P.1 else recs Ps i := recs_growset Ps n.toNat (stampP st P) i
  rw [hl]
  by_cases hi : (i : Int) = n
  ·have hno : gget r (i : Int) = none := gget_none.2 fun p hp e => hn.1 (List.mem_map.2 ⟨p,hp,by rw [e,hi]⟩)
   rw [if_pos hi,hno,if_pos (by omega)]
  ·rw [if_neg hi,if_neg (by omega)]
end Go.Proofs.YtdeebigmpffnbaaGreat
namespace Go.Proofs.YtdeebigmpffnbaaGreat
open Go Go.Vc Go.Vault Go.Redo
theorem mk_list (l : List UInt8) : (⟨l.toArray⟩ : ByteArray).data.toList = l := rfl
theorem rec_img {J : JS} {g : Sl.Pg} {P : AP} (hg : Sl.Rep g P.1 P.2) {n : Nat} (hn : n < 4096) (rest : List ByteArray) (k : Nat) (gr : List Chg1) :
  recF (imgR (n : Int) g :: rest) k J gr = recF rest (k + 1) ⟨(growP J.Ps (n + 1)).set n P,J.T⟩ gr := by
 have hbl : g.bs.length = 4096 := hg.ok.len
 have hsz : (imgR (n : Int) g).size = 4099 := by rw [imgR,sz_mk,List.length_cons,List.length_append,be_length,hbl]
 have hd : (imgR (n : Int) g).data.toList = 112 :: (be (n : Int) 2 ++ g.bs) := rfl
 have hv : valN (be (n : Int) 2) = n := by have := valN_be' (n := (n : Int)) (k := 2) (by omega) (by omega); omega
 have h3 : ((112 :: (be (n : Int) 2 ++ g.bs)).take 3).drop 1 = be (n : Int) 2 := by
  show (be (n : Int) 2 ++ g.bs).take 2 = _
  exact List.take_left' (be_length _ _)
 have h4 : (112 :: (be (n : Int) 2 ++ g.bs)).drop 3 = g.bs := by
  show (be (n : Int) 2 ++ g.bs).drop 2 = _
  exact List.drop_left' (be_length _ _)
 have hr : restP J.Ps (112 :: (be (n : Int) 2 ++ g.bs)) = ((growP J.Ps (n + 1)).set n P,0) := by
  rw [restP,h3,h4,hv,if_neg (by rw [List.length_cons,List.length_append,be_length,hbl]; omega),Sl.loadP_rep hg]
 rw [recF,if_neg (by omega),hd,List.head?_cons,if_pos rfl,hr,if_pos rfl]
theorem rec_imgs {Ps : List AP} : ∀ (L : List Int) {rs : List ByteArray} {J : JS} (rest : List ByteArray) (k : Nat) (gr : List Chg1),ImgsR Ps L rs → L.Nodup → (∀ n ∈ L,0 ≤ n ∧ n < 4096) →
  ∃ Qs,recF (rs ++ rest) k J gr = recF rest (k + rs.length) ⟨Qs,J.T⟩ gr ∧ ∀ i : Nat,recs Qs i = if (i : Int) ∈ L then recs Ps i else recs J.Ps i
 | [],rs,J,rest,k,gr,h,_,_ => by
  obtain ⟨G,_,rfl⟩ := h
  exact ⟨J.Ps,rfl,fun i => by simp⟩
 | n :: L,rs,J,rest,k,gr,h,hnd,hL => by
  obtain ⟨G,h1,rfl⟩ := h
  have hn := hL n (.head _)
  obtain ⟨m,rfl⟩ : ∃ m : Nat,n = m := ⟨n.toNat,by omega⟩
  have hnd := List.nodup_cons.1 hnd
  have e := rec_img (J := J) (h1 (m : Int) (.head _)) (n := m) (by omega) ((L.map fun n => imgR n (G n)) ++ rest) k gr
  obtain ⟨Qs,h2,h3⟩ := rec_imgs L (J := ⟨(growP J.Ps (m + 1)).set m (pageP Ps (m : Int)),J.T⟩) rest (k + 1) gr ⟨G,fun n hn => h1 n (.tail _ hn),rfl⟩ hnd.2 (fun n hn => hL n (.tail _ hn))
  refine ⟨Qs,?_,fun i => ?_⟩
  ·rw [List.map_cons,List.cons_append,e,h2,List.length_cons,show k + 1 + (L.map fun n => imgR n (G n)).length = k + ((L.map fun n => imgR n (G n)).length + 1) by omega]
  ·rw [h3,recs_growset]
   by_cases hi : (i : Int) ∈ L
   ·rw [if_pos hi,if_pos (.tail _ hi)]
   ·rw [if_neg hi]
    by_cases him : i = m
    ·subst him
     rw [if_pos rfl,if_pos (.head _)]; rfl
    ·rw [if_neg him,if_neg (fun h => by
      rcases List.mem_cons.1 h with h | h
      ·omega
      ·exact hi h)]
theorem rec_pack {J : JS} : ∀ (l pend g0 : List Chg1) (rest : List ByteArray) (k : Nat),(∀ c ∈ l,¬ badC c) → (∀ c ∈ pend,¬ badC c) →
  recF ((packF l (pend.flatMap laidP)).map (fun b => (⟨b.toArray⟩ : ByteArray)) ++ rest) k J g0 = match triedP J.Ps (g0 ++ pend.map norm ++ l.map norm) with
   | none => (J,180)
   | some M => recF rest (k + (packF l (pend.flatMap laidP)).length) ⟨layP (k + (packF l (pend.flatMap laidP)).length) J.Ps M,upP J.T M⟩ []
 | [],pend,g0,rest,k,_,hp => by
  have hsz : (⟨(101 :: pend.flatMap laidP).toArray⟩ : ByteArray).size = (pend.flatMap laidP).length + 1 := by rw [sz_mk]; rfl
  have htk := taken_laid pend ((pend.flatMap laidP).length + 1) [] hp (by have := flat_laid_len pend; omega)
  rw [packF,List.map_singleton,List.singleton_append,recF,hsz,if_neg (by omega),mk_list,List.head?_cons,if_neg (show ¬ (some (101 : UInt8) = some 112) by decide),List.drop_one,List.tail_cons,htk]
  dsimp only
  rw [if_pos (show (some (101 : UInt8)) = some 101 from rfl),List.nil_append,List.map_nil,List.append_nil]
  rfl
 | c :: r,pend,g0,rest,k,h,hp => by
  have hr : ∀ d ∈ r,¬ badC d := fun d hd => h d (.tail _ hd)
  rw [packF]
  by_cases hlen : 60000 < (pend.flatMap laidP).length + (laidP c).length
  ·rw [if_pos hlen]
   have hsz : (⟨(100 :: pend.flatMap laidP).toArray⟩ : ByteArray).size = (pend.flatMap laidP).length + 1 := by rw [sz_mk]; rfl
   have htk := taken_laid pend ((pend.flatMap laidP).length + 1) [] hp (by have := flat_laid_len pend; omega)
   have ih := rec_pack (J := J) r [c] (g0 ++ pend.map norm) rest (k + 1) hr (fun d hd => by rw [List.mem_singleton.1 hd]; exact h c (.head _))
   have e1 : [c].flatMap laidP = laidP c := by simp
   rw [e1] at ih
   rw [List.map_cons,List.cons_append,recF,hsz,if_neg (by omega),mk_list,List.head?_cons,if_neg (show ¬ (some (100 : UInt8) = some 112) by decide),List.drop_one,List.tail_cons,htk]
   dsimp only
   rw [if_neg (show ¬ (some (100 : UInt8)) = some 101 by decide),List.nil_append,ih,List.length_cons]
   have e2 : g0 ++ pend.map norm ++ [c].map norm ++ r.map norm = g0 ++ pend.map norm ++ (c :: r).map norm := by simp
   rw [e2,show k + 1 + (packF r (laidP c)).length = k + ((packF r (laidP c)).length + 1) by omega]
  ·rw [if_neg hlen]
   have ih := rec_pack (J := J) r (pend ++ [c]) g0 rest k hr (fun d hd => by
    rcases List.mem_append.1 hd with hd | hd
    ·exact hp d hd
    ·rw [List.mem_singleton.1 hd]; exact h c (.head _))
   have e1 : (pend ++ [c]).flatMap laidP = pend.flatMap laidP ++ laidP c := by simp
   rw [e1] at ih
   rw [ih]
   have e2 : g0 ++ (pend ++ [c]).map norm ++ r.map norm = g0 ++ pend.map norm ++ (c :: r).map norm := by simp
   rw [e2]
def Replays (all : List ByteArray) (R : Nat → Sl.Recs) : Prop := ∀ (k : Nat) (J : JS),∃ J' : JS,(∀ rest,recF (all ++ rest) k J [] = recF rest (k + all.length) J' []) ∧ (∀ i : Nat,recs J'.Ps i = if 0 < imagesP all (i : Int) then R i else recs J.Ps i) ∧ ∀ n : Int,J.T n ≤ J'.T n ∧ (0 < J'.T n → 0 < J.T n ∨ 0 < imagesP all n)
theorem Replays.nil (R : Nat → Sl.Recs) : Replays [] R := fun k J => ⟨J,fun _ => rfl,fun i => by rw [if_neg (by show ¬ 0 < 0; omega)],fun n => ⟨Nat.le_refl _,.inl⟩⟩
theorem images_append (a b : List ByteArray) : imagesP (a ++ b) = b.foldl imgS (imagesP a) := by rw [imagesP,List.foldl_append]; rfl
theorem imgs_imgR (T : Tou) {n : Int} (h : 0 ≤ n ∧ n < 4096) (g : Sl.Pg) (hg : g.bs.length = 4096) : imgS T (imgR n g) = T.up n := by
 have hd : (imgR n g).data.toList = 112 :: (be n 2 ++ g.bs) := rfl
 have h3 : ((112 :: (be n 2 ++ g.bs)).take 3).drop 1 = be n 2 := by
  show (be n 2 ++ g.bs).take 2 = _
  exact List.take_left' (be_length _ _)
 have hv : (valN (be n 2) : Int) = n := valN_be' h.1 (by omega)
 rw [imgS,hd,imgN,if_pos ⟨by rw [List.length_cons,List.length_append,be_length,hg]; omega,rfl⟩,h3]
 dsimp only
 rw [hv]
theorem imgs_pack (T : Tou) {s : ByteArray} {l : List UInt8} (h : s = ⟨l.toArray⟩) (hl : l.head? ≠ some 112) : imgS T s = T := by
 rw [imgS,h,mk_list,imgN,if_neg (fun e => hl e.2)]
theorem pack_heads : ∀ (l : List Chg1) (b : List UInt8),∀ x ∈ packF l b,x.head? = some 100 ∨ x.head? = some 101
 | [],b,x,hx => by rw [packF,List.mem_singleton] at hx; rw [hx]; exact .inr rfl
 | c :: r,b,x,hx => by
  rw [packF] at hx
  split at hx
  ·rcases List.mem_cons.1 hx with rfl | hx
   ·exact .inl rfl
   ·exact pack_heads r _ x hx
  ·exact pack_heads r _ x hx
theorem images_pack (T : Tou) (l : List Chg1) : (packR l).foldl imgS T = T := by
 have : ∀ (q : List (List UInt8)) (T : Tou),(∀ x ∈ q,x.head? = some 100 ∨ x.head? = some 101) → (q.map fun b => (⟨b.toArray⟩ : ByteArray)).foldl imgS T = T := by
  intro q
  induction q with
  | nil => intro T _; rfl
  | cons x r ih =>
   intro T h
   rw [List.map_cons,List.foldl_cons,imgs_pack T rfl (by rcases h x (.head _) with e | e <;> rw [e] <;> decide),ih T fun y hy => h y (.tail _ hy)]
 exact this _ T (pack_heads l [])
theorem images_imgs {Ps : List AP} {L : List Int} {rs : List ByteArray} (h : ImgsR Ps L rs) (hL : ∀ n ∈ L,0 ≤ n ∧ n < 4096) (T : Tou) (n : Int) : 0 < rs.foldl imgS T n ↔ 0 < T n ∨ n ∈ L := by
 obtain ⟨G,h1,rfl⟩ := h
 induction L generalizing T with
 | nil => simp
 | cons m r ih =>
  rw [List.map_cons,List.foldl_cons,imgs_imgR T (hL m (.head _)) (G m) (h1 m (.head _)).ok.len,ih (fun n hn => hL n (.tail _ hn)) (T.up m) (fun n hn => h1 n (.tail _ hn)),List.mem_cons]
  have : 0 < T.up m n ↔ 0 < T n ∨ n = m := by
   unfold Tou.up
   split
   ·rename_i e; exact ⟨fun _ => .inr e,fun _ => Nat.succ_pos _⟩
   ·rename_i e; exact ⟨.inl,fun h => h.elim id fun h => absurd h e⟩
  rw [this,or_assoc]
theorem upP_ge : ∀ (M : TM) (T : Tou) (n : Int),T n ≤ upP T M n
 | [],T,n => Nat.le_refl _
 | e :: r,T,n => by
  refine Nat.le_trans ?_ (upP_ge r (T.up e.1) n)
  unfold Tou.up
  split <;> omega
theorem upP_pos : ∀ (M : TM) (T : Tou) (n : Int),0 < upP T M n → 0 < T n ∨ ∃ e ∈ M,e.1 = n
 | [],T,n,h => .inl h
 | e :: r,T,n,h => by
  rcases upP_pos r (T.up e.1) n h with h1 | ⟨x,hx,h1⟩
  ·unfold Tou.up at h1
   split at h1
   ·rename_i h2; exact .inr ⟨e,.head _,h2.symm⟩
   ·exact .inl h1
  ·exact .inr ⟨x,.tail _ hx,h1⟩
theorem Replays.commit {all : List ByteArray} {Ps : List AP} {T : Tou} {l : List Chg1} {M : TM} {L : List Int} {rs : List ByteArray} (h : Replays all (recs Ps)) (ht : triedP Ps l = some M) (hF : FreshOf T l L) (hI : ImgsR Ps L rs) (hT : ∀ n : Int,0 < T n → 0 < imagesP all n) (st : Nat) :
  Replays (all ++ (rs ++ packR l)) (recs (layP st (growAll Ps L) M)) ∧ (∀ n : Int,0 < imagesP (all ++ (rs ++ packR l)) n ↔ 0 < imagesP all n ∨ n ∈ L) ∧ (∀ e ∈ M,0 < imagesP (all ++ (rs ++ packR l)) e.1) := by
 have hgood := tried_good ht
 have hMok := tried_ok ht
 have hLp : ∀ n ∈ L,0 ≤ n ∧ n < 4096 := fun n hn => by
  obtain ⟨c,hc,rfl,_⟩ := (hF.mem n).1 hn
  have := hgood c hc
  unfold badC at this
  exact ⟨Int.not_lt.1 fun h => this (.inl h),Int.not_le.1 fun h => this (.inr (.inl h))⟩
 have hLn : L.Nodup := by
  rw [List.nodup_iff_pairwise_ne]
  exact hF.rise.imp fun h => by omega
 have himg : ∀ n : Int,0 < imagesP (all ++ (rs ++ packR l)) n ↔ 0 < imagesP all n ∨ n ∈ L := fun n => by
  rw [images_append,List.foldl_append,images_pack,images_imgs hI hLp]
 have hpg : ∀ c ∈ l,0 < imagesP all c.page ∨ c.page ∈ L := fun c hc => by
  by_cases h0 : 0 < T c.page
  ·exact .inl (hT _ h0)
  ·exact .inr ((hF.mem _).2 ⟨c,hc,rfl,by omega⟩)
 have hkey : ∀ e ∈ M,0 < imagesP (all ++ (rs ++ packR l)) e.1 := fun e he => by
  obtain ⟨c,hc,h1⟩ := tried_keys ht e he
  rw [himg,← h1]; exact hpg c hc
 refine ⟨fun k J => ?_,himg,hkey⟩
 obtain ⟨J1,h1,h2,hT1⟩ := h k J
 obtain ⟨Qs,h3,h4⟩ : ∃ Qs,(∀ rest,recF (rs ++ rest) (k + all.length) J1 [] = recF rest (k + all.length + rs.length) ⟨Qs,J1.T⟩ []) ∧ ∀ i : Nat,recs Qs i = if (i : Int) ∈ L then recs Ps i else recs J1.Ps i := by
  obtain ⟨G,g1,g2⟩ := hI
  have key : ∀ rest,∃ Qs,recF (rs ++ rest) (k + all.length) J1 [] = recF rest (k + all.length + rs.length) ⟨Qs,J1.T⟩ [] ∧ ∀ i : Nat,recs Qs i = if (i : Int) ∈ L then recs Ps i else recs J1.Ps i := fun rest => rec_imgs L rest _ [] ⟨G,g1,g2⟩ hLn hLp
  have det : ∀ (L : List Int) (J : JS),(∀ n ∈ L,0 ≤ n ∧ n < 4096) → (∀ n ∈ L,Sl.Rep (G n) (pageP Ps n).1 (pageP Ps n).2) → ∃ Qs,∀ rest k,recF ((L.map fun n => imgR n (G n)) ++ rest) k J [] = recF rest (k + L.length) ⟨Qs,J.T⟩ [] ∧ ∀ i : Nat,i ∈ L.map Int.toNat → True := by
   intro L
   induction L with
   | nil => intro J _ _; exact ⟨J.Ps,fun rest k => ⟨rfl,fun _ _ => trivial⟩⟩
   | cons n r ih =>
    intro J hL hG
    have hn := hL n (.head _)
    obtain ⟨m,rfl⟩ : ∃ m : Nat,n = m := ⟨n.toNat,by omega⟩
    obtain ⟨Qs,hq⟩ := ih ⟨(growP J.Ps (m + 1)).set m (pageP Ps (m : Int)),J.T⟩ (fun n hn => hL n (.tail _ hn)) (fun n hn => hG n (.tail _ hn))
    refine ⟨Qs,fun rest k => ⟨?_,fun _ _ => trivial⟩⟩
    rw [List.map_cons,List.cons_append,rec_img (hG (m : Int) (.head _)) (by omega),(hq rest (k + 1)).1,List.length_cons,show k + 1 + r.length = k + (r.length + 1) by omega]
  obtain ⟨Qs,hq⟩ := det L J1 hLp g1
  refine ⟨Qs,fun rest => ?_,?_⟩
  ·rw [g2,(hq rest _).1,List.length_map]
  ·-- compare at a rest that shows the pages
   obtain ⟨Q2,e1,e2⟩ := key []
   rw [g2,(hq [] _).1,List.length_map,recF,recF] at e1
   have e3 : Qs = Q2 := by
    have := congrArg (fun z : JS × Int => z.1.Ps) e1
    exact this
   rw [e3]; exact e2
 have hagree : ∀ c ∈ l,recs Ps c.page.toNat = recs Qs c.page.toNat := fun c hc => by
  have hb := hgood c hc
  unfold badC at hb
  have h0 : 0 ≤ c.page := Int.not_lt.1 fun h => hb (.inl h)
  have e0 : ((c.page.toNat : Nat) : Int) = c.page := by omega
  rw [h4,e0]
  by_cases hi : c.page ∈ L
  ·rw [if_pos hi]
  ·rw [if_neg hi,h2,e0,if_pos ((hpg c hc).resolve_right hi)]
 obtain ⟨N,hN,hMN⟩ := tried_recs ht hagree
 have hNok := tried_ok hN
 have hpk := fun rest => rec_pack (J := ⟨Qs,J1.T⟩) l [] [] rest (k + all.length + rs.length) hgood (by simp)
 simp only [List.flatMap_nil,List.map_nil,List.nil_append,hN] at hpk
 refine ⟨⟨layP (k + all.length + rs.length + (packF l []).length) Qs N,upP J1.T N⟩,fun rest => ?_,fun i => ?_,fun n => ⟨Nat.le_trans (hT1 n).1 (upP_ge N _ n),fun hp => ?_⟩⟩
 ·rw [List.append_assoc,h1,List.append_assoc,h3]
  have e5 : packR l = (packF l []).map fun b => (⟨b.toArray⟩ : ByteArray) := rfl
  rw [e5,hpk rest]
  rw [List.length_append,List.length_append,List.length_map,show k + (all.length + (rs.length + (packF l []).length)) = k + all.length + rs.length + (packF l []).length by omega]
 ·show recs (layP _ Qs N) i = _
  rw [lay_recs N Qs (fun e he => (hNok.key e he).1) hNok.nodup,lay_recs M _ (fun e he => (hMok.key e he).1) hMok.nodup]
  have hrc := rc_get M (i : Int)
  rw [hMN,rc_get] at hrc
  have hgrow : recs (growAll Ps L) i = recs Ps i := by
   have := pageP_growAll L Ps (i : Int)
   rw [pageP,pageP,Int.toNat_natCast] at this
   rw [recs,recs,this]
  cases hm : gget M (i : Int) with
  | some P =>
   rw [hm] at hrc
   have hpos := hkey _ (gget_mem hm)
   rw [if_pos hpos]
   cases hn : gget N (i : Int) with
   | none => rw [hn] at hrc; cases hrc
   | some Q => rw [hn] at hrc; exact Option.some.inj hrc
  | none =>
   rw [hm] at hrc
   cases hn : gget N (i : Int) with
   | some Q => rw [hn] at hrc; cases hrc
   | none =>
    dsimp only
    rw [h4,hgrow,h2]
    by_cases hi : (i : Int) ∈ L
    ·rw [if_pos hi,if_pos ((himg _).2 (.inr hi))]
    ·rw [if_neg hi]
     by_cases h0 : 0 < imagesP all (i : Int)
     ·rw [if_pos h0,if_pos ((himg _).2 (.inl h0))]
     ·rw [if_neg h0,if_neg (fun h => ((himg _).1 h).elim h0 hi)]
 ·rcases upP_pos N _ n hp with h6 | ⟨e,he,h6⟩
  ·rcases (hT1 n).2 h6 with h7 | h7
   ·exact .inl h7
   ·exact .inr ((himg n).2 (.inl h7))
  ·right
   have hk : e.1 ∈ (rcM M).map (·.1) := by rw [hMN]; exact List.mem_map.2 ⟨_,List.mem_map.2 ⟨e,he,rfl⟩,rfl⟩
   obtain ⟨x,hx,hx2⟩ := List.mem_map.1 hk
   obtain ⟨e',he',rfl⟩ := List.mem_map.1 hx
   have := hkey e' he'
   have hx3 : e'.1 = e.1 := hx2
   rw [hx3,h6] at this
   exact this
end Go.Proofs.YtdeebigmpffnbaaGreat
namespace Go.Proofs.YtdeebigmpffnbaaGreat
open Go Go.Vc Go.Vault Go.Redo
theorem write_calmG {q : Dk} (h : Calm q) {n : ByteArray} {k : Nat} {b : List UInt8} (hb : b.length ≤ 512) (hk : q.find n = some k) {i : Nat} (hi : i ≤ q.len k) :
  (q.write n (i : Int) b = (q,94) ∧ i = q.len k ∧ q.room ≤ q.used) ∨ (q.write n (i : Int) b = (q.put k ((q.file k).write i b),0) ∧ ¬ (i = q.len k ∧ q.room ≤ q.used)) := by
 have hp : ¬((i : Int) < 0 ∨ (q.len k : Int) < (i : Int) ∨ 512 < b.length) := by omega
 by_cases hu : i = q.len k ∧ q.room ≤ q.used
 ·left
  refine ⟨?_,hu⟩
  unfold Dk.write
  rw [h.dead,hk]
  simp only [Bool.false_eq_true,if_false,if_neg hp]
  rw [if_pos ⟨by rw [hu.1],hu.2⟩]
 ·right
  refine ⟨?_,hu⟩
  unfold Dk.write
  rw [h.dead,hk]
  simp only [Bool.false_eq_true,if_false,if_neg hp]
  rw [if_neg (fun h2 => hu ⟨by have := h2.1; omega,h2.2⟩),h.refused]
  simp only [Bool.false_eq_true,if_false,h.denies,Int.toNat_natCast,(h.put _ _).dies,(h.put _ _).code]
theorem sync_calm {q : Dk} (h : Calm q) {n : ByteArray} {k : Nat} (hk : q.find n = some k) : q.sync n = (q.put k (q.file k).sync,0) := by
 unfold Dk.sync
 rw [h.dead,hk]
 simp only [Bool.false_eq_true,if_false,h.refused,h.denies,h.dies,h.dead]
theorem write_len (f : Fl) {i : Nat} (b : List UInt8) (hi : i ≤ f.now.length) : (f.write i b).now.length = max f.now.length (i + 1) := by
 rw [Fl.write]
 dsimp only
 split
 ·rw [List.length_append,List.length_singleton]; omega
 ·rw [List.length_set]; omega
def padded (b : List UInt8) : List (List UInt8) := (List.range (nsec b.length)).map fun k => pad (chunk b k)
theorem padded_len (b : List UInt8) : (padded b).length = nsec b.length := by simp [padded]
theorem padded_get {b : List UInt8} {k : Nat} (h : k < nsec b.length) : (padded b)[k]? = some (pad (chunk b k)) := by
 rw [padded,List.getElem?_map,List.getElem?_range h]; rfl
theorem padded_drop {b : List UInt8} {k : Nat} (h : k < nsec b.length) : (padded b).drop k = pad (chunk b k) :: (padded b).drop (k + 1) := by
 have hl : k < (padded b).length := by rw [padded_len]; exact h
 rw [List.drop_eq_getElem_cons hl]
 have := padded_get h
 rw [List.getElem?_eq_getElem hl] at this
 rw [Option.some.inj this]
theorem put_put (d : Dk) (k : Nat) (f g : Fl) : (d.put k f).put k g = d.put k g := by simp [Dk.put,List.set_set]
theorem put_self {d : Dk} {k : Nat} (h : k < d.files.length) : d.put k (d.file k) = d := by
 obtain ⟨room,files,firm,chs,a,b,c⟩ := d
 have hk : k < files.length := h
 simp only [Dk.put,Dk.file,Dk.mk.injEq,_root_.and_true,true_and,List.getD_eq_getElem?_getD,List.getElem?_eq_getElem hk,Option.getD_some]
 exact List.set_getElem_self hk
structure One (d : Dk) (n : ByteArray) (k o : Nat) : Prop where
 calm : Calm d
 find : d.find n = some k
 lt : k < d.files.length
 used : ∀ f,(d.put k f).used = f.now.length + o
theorem One.put {d : Dk} {n : ByteArray} {k o : Nat} (h : One d n k o) (f : Fl) : One (d.put k f) n k o :=
 ⟨h.calm.put _ _,h.find,by simpa [Dk.put] using h.lt,fun g => by rw [put_put]; exact h.used g⟩
theorem One.used' {d : Dk} {n : ByteArray} {k o : Nat} (h : One d n k o) : d.used = (d.file k).now.length + o := by
 have := h.used (d.file k)
 rwa [put_self h.lt] at this
theorem One.fil {d : Dk} {n : ByteArray} {k o : Nat} (h : One d n k o) (f : Fl) : (d.put k f).file k = f := put_file h.lt f
theorem One.write {d : Dk} {n : ByteArray} {k o i : Nat} (h : One d n k o) {b : List UInt8} (hb : b.length ≤ 512) (hi : i ≤ (d.file k).now.length) (hr : i = (d.file k).now.length → i + o < d.room) :
  d.write n (i : Int) b = (d.put k ((d.file k).write i b),0) := by
 rcases write_calmG h.calm hb h.find (show i ≤ d.len k from hi) with ⟨_,h1,h2⟩ | ⟨e,_⟩
 ·have h3 := hr h1
  rw [h.used'] at h2
  have h1 : i = (d.file k).now.length := h1
  omega
 ·exact e
theorem One.sync {d : Dk} {n : ByteArray} {k o : Nat} (h : One d n k o) : d.sync n = (d.put k (d.file k).sync,0) := sync_calm h.calm h.find
theorem thn0 {r : Dk × Int} {d : Dk} {f : Dk → Dk × Int} (h : r = (d,0)) : thn r f = f d := by rw [h]; rfl
theorem write_now {f : Fl} {i : Nat} {b : List UInt8} (hi : i ≤ f.now.length) : (f.write i b).now.take (i + 1) = f.now.take i ++ [pad b] := by
 rw [Fl.write]
 dsimp only
 split
 ·rename_i h
  rw [h,List.take_length]
  exact List.take_of_length_le (by rw [List.length_append]; exact Nat.le_refl _)
 ·rename_i h
  have hlt : i < f.now.length := by omega
  rw [List.take_succ_eq_append_getElem (by rw [List.length_set]; exact hlt),List.getElem_set_self,List.take_set_of_le (Nat.le_refl _)]
theorem dput_one {n : ByteArray} (b : List UInt8) {k o : Nat} : ∀ (m j : Nat) {d : Dk},One d n k o → 2 + j ≤ (d.file k).now.length → ((d.file k).now.length ≤ 2 + nsec b.length ∨ (d.file k).now.length = 2 + j) → nsec b.length ≤ j + m → o + 2 + nsec b.length ≤ d.room →
  ∃ f,dput n b m j d = (d.put k f,0) ∧ f.now = (d.file k).now.take (2 + j) ++ (padded b).drop j
 | 0,j,d,h,h1,h2,h3,h4 => by
  refine ⟨d.file k,by rw [dput,put_self h.lt],?_⟩
  rw [List.drop_eq_nil_of_le (by rw [padded_len]; omega),List.append_nil,List.take_of_length_le (by omega)]
 | m + 1,j,d,h,h1,h2,h3,h4 => by
  rw [dput]
  by_cases hj : b.length ≤ j * 512
  ·refine ⟨d.file k,by rw [if_pos hj,put_self h.lt],?_⟩
   have : nsec b.length ≤ j := by unfold nsec; omega
   rw [List.drop_eq_nil_of_le (by rw [padded_len]; exact this),List.append_nil,List.take_of_length_le (by omega)]
  ·rw [if_neg hj]
   have hjn : j < nsec b.length := by unfold nsec; omega
   have hw := h.write (i := 2 + j) (b := chunk b j) (chunk_len b j) h1 (fun _ => by omega)
   have hc : (b.drop (j * 512)).take 512 = chunk b j := rfl
   rw [hc,thn0 hw]
   have hl := write_len (d.file k) (chunk b j) h1
   obtain ⟨f,e1,e2⟩ := dput_one b m (j + 1) (h.put ((d.file k).write (2 + j) (chunk b j))) (by rw [h.fil,hl]; omega) (by rw [h.fil,hl]; omega) (by omega) h4
   refine ⟨f,by rw [e1,put_put],?_⟩
   rw [e2,h.fil,show 2 + (j + 1) = 2 + j + 1 by omega,write_now h1,padded_drop hjn]
   simp
theorem dwrite_one {d : Dk} {n : ByteArray} (b : List UInt8) {k o from_ : Nat} (h : One d n k o) (h1 : 2 + from_ / 512 ≤ (d.file k).now.length) (h2 : (d.file k).now.length ≤ 2 + nsec b.length) (h4 : o + 2 + nsec b.length ≤ d.room) :
  ∃ f,dwrite d n b from_ = (d.put k f,0) ∧ f.now = (d.file k).now.take (2 + from_ / 512) ++ (padded b).drop (from_ / 512) :=
 dput_one b _ _ h h1 (.inl h2) (by unfold nsec; omega) h4
theorem sealB_pad (m f : Nat) : pad (sealB m f) = sealB m f := by rw [pad,seal_len,Nat.sub_self]; simp
theorem dseal_one {d : Dk} {n : ByteArray} {k o : Nat} (h : One d n k o) (h1 : 2 ≤ (d.file k).now.length) (m f : Nat) : ∃ g,dseal d n m f = (d.put k g,0) ∧ g.now = (d.file k).now.set (m % 2) (sealB m f) := by
 have hs : (sealB m f).length ≤ 512 := by rw [seal_len]; omega
 have h2 : m % 2 < 2 := Nat.mod_lt _ (by omega)
 have e1 := h.sync
 have p1 := h.put (d.file k).sync
 have hw := p1.write (i := m % 2) hs (by rw [h.fil]; show _ ≤ (d.file k).now.length; omega) (by rw [h.fil]; intro h3; have h3 : m % 2 = (d.file k).now.length := h3; omega)
 rw [put_put,h.fil] at hw
 have p2 := h.put ((d.file k).sync.write (m % 2) (sealB m f))
 have e3 := p2.sync
 rw [put_put,h.fil] at e3
 refine ⟨_,by rw [dseal,thn0 e1,thn0 hw,e3],?_⟩
 show (Fl.write _ _ _).now = _
 have hne : ¬ m % 2 = (d.file k).sync.now.length := by show ¬ m % 2 = (d.file k).now.length; omega
 rw [Fl.write]
 dsimp only
 rw [if_neg hne,sealB_pad]; rfl
-- own part
theorem flush_calm {d : Dk} {k o : Nat} {l : Lg} (h : One d nLog k o) (hn : l.name = nLog) (hc : l.code = 0) (h1 : 2 + l.firm / 512 ≤ (d.file k).now.length) (h2 : (d.file k).now.length ≤ 2 + nsec l.b.length) (hf : l.firm ≤ l.b.length) (h4 : o + 2 + nsec l.b.length ≤ d.room) :
  ∃ g,flushP d l = (d.put k g,{ l with mark := l.mark + 1,firm := l.b.length,many := l.all.length },0) ∧ g.now.length = 2 + nsec l.b.length := by
 obtain ⟨f,e1,e2⟩ := dwrite_one l.b h h1 h2 h4
 have hfl : f.now.length = 2 + nsec l.b.length := by
  have : l.firm / 512 ≤ nsec l.b.length := by unfold nsec; have := Nat.div_le_div_right (c := 512) hf; omega
  rw [e2,List.length_append,List.length_take,List.length_drop,padded_len]
  omega
 have h5 := h.put f
 obtain ⟨g,e3,e4⟩ := dseal_one h5 (by rw [h.fil]; omega) (l.mark + 1) l.b.length
 refine ⟨g,?_,by rw [e4,List.length_set,h.fil]; exact hfl⟩
 have e5 : (thn (dwrite d l.name l.b l.firm) fun d => dseal d l.name (l.mark + 1) l.b.length) = (d.put k g,0) := by
  rw [hn,thn0 e1,e3,put_put]
 unfold flushP
 rw [if_pos hc,e5]
 rfl
def Gof (all : List ByteArray) (R : Nat → Sl.Recs) (c : Cont) : Prop := ∀ n : Nat,n < 4096 → imagesP all (n : Int) = 0 → PageIs c n (R n)
theorem zpage {c : Cont} {n : Nat} (h : ∀ k,k < 8 → c.v (n * 8 + k) = zsec) {L : Sl.Recs} (hp : PageIs c n L) : L = [] := by
 obtain ⟨st,hst⟩ := hp
 obtain ⟨g,hg,hb⟩ := Sl.zero_rep
 have e : rdC c n = g.bs := by
  have e1 : rdC c n = (List.range 8).flatMap fun _ => zsec := by
   rw [rdC]
   rw [List.flatMap_def,List.flatMap_def]
   congr 1
   refine List.map_congr_left fun k hk => h k (List.mem_range.1 hk)
  rw [e1,hb]
  rfl
 rw [pgC,e,Sl.loadP_rep hg] at hst
 cases hst; rfl
theorem zpageIs {c : Cont} {n : Nat} (h : ∀ k,k < 8 → c.v (n * 8 + k) = zsec) : PageIs c n [] := by
 obtain ⟨g,hg,hb⟩ := Sl.zero_rep
 have e : rdC c n = g.bs := by
  have e1 : rdC c n = (List.range 8).flatMap fun _ => zsec := by
   rw [rdC]
   rw [List.flatMap_def,List.flatMap_def]
   congr 1
   refine List.map_congr_left fun k hk => h k (List.mem_range.1 hk)
  rw [e1,hb]
  rfl
 exact ⟨0,by rw [pgC,e,Sl.loadP_rep hg]⟩
theorem create_alive {d : Dk} {n : ByteArray} (h : (d.create n).2 = 0) : (d.create n).1.dead = false := by
 unfold Dk.create at h ⊢
 split at h
 ·cases h
 ·rename_i h1
  split at h
  ·cases h
  ·rename_i h2
   rw [if_neg h1,if_neg h2]
   dsimp only at h ⊢
   rw [Dk.code] at h
   split at h
   ·cases h
   ·rename_i h3; simpa using h3
theorem fopen_alive {d : Dk} (hd : d.dead = false) (h : (fopenP d).2 = 0) : (fopenP d).1.dead = false := by
 unfold fopenP at h ⊢
 split at h
 ·rename_i h1
  rw [if_pos h1]
  exact create_alive h
 ·rename_i h1
  rw [if_neg h1]; exact hd
theorem open_live {k m : Nat} {B : List UInt8} {all : List ByteArray} {R : Nat → Sl.Recs} {d : Dk} (h : Live k m B (Gof all R) d) (hd : d.dead = false) (hB : records B = some all) (hR : Replays all R) (hR4 : ∀ n,4096 ≤ n → R n = []) (hf : (fopenP d).2 = 0) :
  (jopenP d).1 = (fopenP d).1 ∧ (jopenP d).2.1 = 0 ∧ (jopenP d).2.2.1 = ⟨nLog,m,B,B.length,all.length,all,0⟩ ∧ (∀ i,recs (jopenP d).2.2.2.Ps i = R i) ∧ (∀ n,0 < imagesP all n ↔ 0 < (jopenP d).2.2.2.T n) := by
 have ho := h.openP hd hB
 have hL2 := h.fopen
 have hd2 := fopen_alive hd hf
 obtain ⟨q,hq⟩ := fopen_has hf
 have hG : Gof all R (cont ((fopenP d).1.file q).now) := by
  have hda := hL2.data (fopenP d).1.chs.length
  unfold DatA at hda
  rw [lists_all] at hda
  rcases hda with ⟨h1,_⟩ | ⟨q',h1,h2,_,h4⟩
  ·rw [Dk.find,h1] at hq; cases hq
  ·rw [Dk.find,h1] at hq
   cases hq
   obtain ⟨o1,o2⟩ := hL2.fok.at h2
   exact h4 _ (Fl.Cr.now o1 o2)
 obtain ⟨M,hM⟩ : ∃ M,M = min (pagesP (fopenP d).1) 4096 := ⟨_,rfl⟩
 obtain ⟨Qs,hQ1,hQ2⟩ := readAll_ok hd2 hq (T := imagesP all) (R := R) M 0 [] (fun i _ hi hT => hG i (by omega) hT)
 obtain ⟨J,hJ1,hJ2,hJ3⟩ := hR 0 ⟨Qs,imagesP all⟩
 have hrec : recF all 0 ⟨Qs,imagesP all⟩ [] = (J,0) := by
  have := hJ1 []
  rw [List.append_nil,recF] at this
  exact this
 have hrp : recoverP (fopenP d).1 all = (J,0) := by
  rw [recoverP,← hM,hQ1]
  dsimp only
  rw [if_pos rfl,hrec]
 have hjo : jopenP d = ((fopenP d).1,0,⟨nLog,m,B,B.length,all.length,all,0⟩,J) := by
  unfold jopenP
  rw [ho]
  dsimp only
  rw [if_neg (by decide),if_neg (by rw [hf]; decide),hrp]
 rw [hjo]
 refine ⟨rfl,rfl,rfl,fun i => ?_,fun n => ⟨fun hn => Nat.lt_of_lt_of_le hn (hJ3 n).1,fun hn => ?_⟩⟩
 ·show recs J.Ps i = R i
  rw [hJ2]
  split
  ·rfl
  ·rename_i h0
   show recs Qs i = R i
   rw [hQ2]
   by_cases hi : i < M
   ·rw [if_pos ⟨Nat.zero_le _,by omega,by omega⟩]
   ·rw [if_neg (fun h => hi (by omega))]
    show [] = R i
    by_cases hi4 : i < 4096
    ·have hp := hG i hi4 (by omega)
     refine (zpage (fun j hj => ?_) hp).symm
     have hsz : (fopenP d).1.size nData = (((fopenP d).1.file q).now.length : Int) := by rw [Dk.size,hq]; rfl
     have hpg : pagesP (fopenP d).1 = (((fopenP d).1.file q).now.length + 7) / 8 := by
      rw [pagesP,hsz,Int.tdiv_eq_ediv_of_nonneg (by omega)]
      omega
     exact val_out (by omega)
    ·exact (hR4 i (by omega)).symm
 ·exact ((hJ3 n).2 hn).elim id id
theorem rows_recs : ∀ (Ps Qs : List AP) (n : Nat),(∀ i,recs Ps i = recs Qs i) → rowsF n Ps = rowsF n Qs
 | [],[],n,_ => rfl
 | [],Q :: r,n,h => by
  have h0 := h 0
  have hr := rows_recs [] r (n + 1) fun i => h (i + 1)
  have e : Q.1 = [] := h0.symm
  rw [rowsF,rowsF,e,← hr]; rfl
 | P :: r,[],n,h => by
  have h0 := h 0
  have hr := rows_recs r [] (n + 1) fun i => h (i + 1)
  have e : P.1 = [] := h0
  rw [rowsF,rowsF,e,hr]; rfl
 | P :: r,Q :: t,n,h => by
  have h0 := h 0
  have hr := rows_recs r t (n + 1) fun i => h (i + 1)
  have e : P.1 = Q.1 := h0
  rw [rowsF,rowsF,e,hr]
end Go.Proofs.YtdeebigmpffnbaaGreat
namespace Go.Proofs.YtdeebigmpffnbaaGreat
open Go Go.Vc Go.Vault Go.Redo
def freshD (room : Nat) : Dk := ⟨room,[goodF,Fl.none],[⟨nLog,0⟩],[.create nData 1],0,0,false⟩
def lg0 : Lg := ⟨nLog,1,[],0,0,[],0⟩
def T0 : Tou := fun _ => 0
structure Begun (room : Int) : Prop where
 d : (jopenP (Dk.new room)).1 = freshD room.toNat
 code : (jopenP (Dk.new room)).2.1 = 0
 lg : (jopenP (Dk.new room)).2.2.1 = lg0
 Ps : (jopenP (Dk.new room)).2.2.2.Ps = []
 T : (jopenP (Dk.new room)).2.2.2.T = T0
theorem begun500 : Begun 500 := ⟨by kernel_rfl,by kernel_rfl,by kernel_rfl,by kernel_rfl,by kernel_rfl⟩
theorem fresh_names : with_ [⟨nLog,0⟩] ⟨nData,1⟩ = [⟨nData,1⟩,⟨nLog,0⟩] := by kernel_rfl
theorem fresh_lists (room i : Nat) : lists (freshD room) i = [⟨nLog,0⟩] ∨ lists (freshD room) i = [⟨nData,1⟩,⟨nLog,0⟩] := by
 rw [← fresh_names]
 cases i with
 | zero => exact .inl rfl
 | succ i => exact .inr (by simp [lists,freshD,ons,Ch.on])
theorem fresh_all (room : Nat) : (freshD room).names = [⟨nData,1⟩,⟨nLog,0⟩] := by rw [← fresh_names]; rfl
theorem nget_a : nget [⟨nLog,0⟩] nLog = some 0 ∧ nget [⟨nLog,0⟩] nData = none ∧ nget [⟨nData,1⟩,⟨nLog,0⟩] nLog = some 0 ∧ nget [⟨nData,1⟩,⟨nLog,0⟩] nData = some 1 := by
 refine ⟨by kernel_rfl,by kernel_rfl,by kernel_rfl,by kernel_rfl⟩
theorem good_ok : goodF.Ok := by
 have h : ∀ s ∈ [zsec,sealB 1 0],s.length = 512 := fun s hs => by
  rcases List.mem_cons.1 hs with rfl | hs
  ·exact List.length_replicate
  ·rw [List.mem_singleton.1 hs]; exact seal_len 1 0
 exact ⟨h,h,.nil,fun n hn => (by cases hn),Nat.le_refl _⟩
theorem fresh_live (room : Nat) {G : Cont → Prop} (hG : G zcont) : Live 0 1 [] G (freshD room) := by
 refine ⟨⟨fun f hf => ?_,fun f hf => ?_⟩,fun i => ?_,by show 0 < 2; omega,fun c hc => ?_,fun i => ?_⟩
 ·rcases List.mem_cons.1 (show f ∈ [goodF,Fl.none] from hf) with rfl | hf
  ·exact good_ok
  ·rw [List.mem_singleton.1 hf]; exact none_ok
 ·rcases List.mem_cons.1 (show f ∈ [goodF,Fl.none] from hf) with rfl | hf
  ·exact fun n _ => rfl
  ·rw [List.mem_singleton.1 hf]; exact none_tidy
 ·rcases fresh_lists room i with e | e <;> rw [e]
  ·exact nget_a.1
  ·exact nget_a.2.2.1
 ·rw [Fl.Cr.same (l := goodF.now) hc]; exact good_log
 ·unfold DatA
  rcases fresh_lists room i with e | e <;> rw [e]
  ·exact .inl ⟨nget_a.2.1,hG⟩
  ·exact .inr ⟨1,nget_a.2.2.2,by show 1 < 2; omega,by omega,fun c hc => by rw [none_cr hc]; exact hG⟩
theorem fresh_one (room : Nat) : One (freshD room) nLog 0 0 := by
 refine ⟨⟨rfl,rfl,rfl⟩,?_,by show 0 < 2; omega,fun f => ?_⟩
 ·rw [Dk.find,fresh_all]; exact nget_a.2.2.1
 ·have e : ((freshD room).put 0 f).names = [⟨nData,1⟩,⟨nLog,0⟩] := fresh_all room
  rw [Dk.used,e]
  show [((freshD room).put 0 f).len 1,((freshD room).put 0 f).len 0].sum = _
  have e0 : ((freshD room).put 0 f).len 0 = f.now.length := rfl
  have e1 : ((freshD room).put 0 f).len 1 = 0 := rfl
  rw [e0,e1]; simp
theorem fresh_fit (room : Nat) : (freshD room).Fit 4 := by
 refine ⟨by show 2 ≤ 4; omega,fun f hf => ?_,fun M => ?_,by show 1 ≤ 4; omega⟩
 ·rcases List.mem_cons.1 (show f ∈ [goodF,Fl.none] from hf) with rfl | hf
  ·show 2 ≤ 4; omega
  ·rw [List.mem_singleton.1 hf]; show 0 ≤ 4; omega
 ·have h := fresh_lists room M
  rw [lists] at h
  rcases h with e | e <;> rw [e]
  ·show 1 ≤ 4; omega
  ·show 2 ≤ 4; omega
theorem gof_z {c : Cont} (h : Gof [] (fun _ => []) c) {all : List ByteArray} {R : Nat → Sl.Recs} (hR : ∀ n : Nat,n < 4096 → imagesP all (n : Int) = 0 → R n = []) : Gof all R c := fun n hn hi => by
 rw [hR n hn hi]; exact h n hn rfl
theorem gof_zcont : Gof [] (fun _ => []) zcont := fun n _ _ => zpageIs fun k _ => rfl
def chA : Chg1 := ⟨0,0,⟨#[97]⟩,false⟩
def chB2 : Chg1 := ⟨0,1,⟨#[98]⟩,false⟩
def psA : List AP := [([(0,[97])],2)]
def psB : List AP := [([(0,[97]),(1,[98])],3)]
def tA : Tou := T0.up 0
structure AliveA (g : Sl.Pg) (lg : Lg) : Prop where
 rep : Sl.Rep g [] 0
 all : lg.all = [imgR 0 g] ++ packR [chA]
 app : App lg0 lg ([imgR 0 g] ++ packR [chA])
 repl : Replays lg.all (recs psA)
 img : ∀ n : Int,0 < imagesP lg.all n ↔ n = 0
theorem fresh_of {T : Tou} {c : Chg1} {L : List Int} (h : FreshOf T [c] L) : L = if T c.page = 0 then [c.page] else [] := by
 have hm : ∀ n,n ∈ L ↔ c.page = n ∧ T n = 0 := fun n => by
  rw [h.mem]
  exact ⟨fun ⟨d,hd,h1⟩ => by rw [List.mem_singleton.1 hd] at h1; exact h1,fun h1 => ⟨c,.head _,h1⟩⟩
 by_cases h0 : T c.page = 0
 ·rw [if_pos h0]
  have hin := (hm c.page).2 ⟨rfl,h0⟩
  match L,h.rise,hm,hin with
  | [],_,_,hin => cases hin
  | [x],_,hm,_ => rw [((hm x).1 (.head _)).1]
  | x :: y :: r,hr,hm,_ =>
   have h1 := ((hm x).1 (.head _)).1
   have h2 := ((hm y).1 (.tail _ (.head _))).1
   have h3 := (List.pairwise_cons.1 hr).1 y (.head _)
   omega
 ·rw [if_neg h0]
  match L,hm with
  | [],_ => rfl
  | x :: r,hm =>
   have h1 := (hm x).1 (.head _)
   rw [← h1.1] at h1
   exact absurd h1.2 h0
theorem packA : packR [chA] = [⟨(101 :: laidP chA).toArray⟩] := rfl
theorem alive_a {lg' : Lg} {Ps' : List AP} {T' : Tou} {wt' code : Int} (h : CommitR lg0 [] T0 0 [chA] lg' Ps' T' wt' code) : code = 0 ∧ Ps' = psA ∧ T' = tA ∧ wt' = 1 ∧ ∃ g,AliveA g lg' := by
 have ht : triedP [] [chA] = some [((0 : Int),(([(0,[97])],0) : AP))] := by kernel_rfl
 rcases h with ⟨h1,_⟩ | ⟨_,h1,_⟩ | ⟨_,hc,M,L,rs,hM,hL,hI,hlg,hPs,hT,hwt⟩
 ·exact absurd rfl h1
 ·rw [ht] at h1; cases h1
 ·rw [ht] at hM
  cases hM
  have hLe := fresh_of hL
  have e0 : L = [0] := hLe
  subst e0
  obtain ⟨G,g1,rfl⟩ := hI
  have hg : Sl.Rep (G 0) [] 0 := g1 0 (.head _)
  have hsz : ∀ s ∈ [imgR 0 (G 0)] ++ packR [chA],s.size ≤ 65536 := fun s hs => by
   rw [packA] at hs
   rcases List.mem_append.1 hs with hs | hs
   ·rw [List.mem_singleton.1 hs,imgR,sz_mk,List.length_cons,List.length_append,be_length,hg.ok.len]; omega
   ·rw [List.mem_singleton.1 hs,sz_mk]; decide
  have happ := appAll_app lg0 _ hsz
  have hlg2 : lg' = appAll lg0 ([imgR 0 (G 0)] ++ packR [chA]) := hlg
  rw [← hlg2] at happ
  have hall : lg'.all = [imgR 0 (G 0)] ++ packR [chA] := by rw [happ.all]; rfl
  have hlen : lg'.all.length = 2 := by rw [hall,packA]; rfl
  have hPs2 : Ps' = psA := by rw [hPs,hlen]; kernel_rfl
  have hrc := (Replays.nil (recs [])).commit (T := T0) (l := [chA]) (M := [((0 : Int),(([(0,[97])],0) : AP))]) (L := [0]) (rs := [imgR 0 (G 0)]) ht hL ⟨G,g1,rfl⟩ (fun n hn => absurd hn (Nat.lt_irrefl _)) 2
  rw [List.nil_append,← hall] at hrc
  have e3 : layP 2 (growAll [] [0]) [((0 : Int),(([(0,[97])],0) : AP))] = psA := by kernel_rfl
  rw [e3] at hrc
  refine ⟨hc,hPs2,hT,by rw [hwt]; rfl,G 0,hg,hall,happ,hrc.1,fun n => ?_⟩
  rw [hrc.2.1]
  exact ⟨fun h => h.elim (fun h => absurd h (Nat.lt_irrefl _)) List.mem_singleton.1,fun h => .inr (List.mem_singleton.2 h)⟩
theorem alive_b {lg lg' : Lg} (hc0 : lg.code = 0) (hl : lg.all.length = 2) {Ps' : List AP} {T' : Tou} {wt' code : Int} (h : CommitR lg psA tA 0 [chB2] lg' Ps' T' wt' code) : code = 0 ∧ Ps' = psB ∧ wt' = 1 := by
 have ht : triedP psA [chB2] = some [((0 : Int),(([(0,[97]),(1,[98])],2) : AP))] := by kernel_rfl
 rcases h with ⟨h1,_⟩ | ⟨_,h1,_⟩ | ⟨_,hc,M,L,rs,hM,hL,hI,hlg,hPs,hT,hwt⟩
 ·exact absurd hc0 h1
 ·rw [ht] at h1; cases h1
 ·rw [ht] at hM
  cases hM
  have hLe := fresh_of hL
  have e0 : L = [] := hLe
  subst e0
  obtain ⟨G,g1,rfl⟩ := hI
  have hsz : ∀ s ∈ packR [chB2],s.size ≤ 65536 := fun s hs => by
   have e : packR [chB2] = [⟨(101 :: laidP chB2).toArray⟩] := rfl
   rw [e] at hs
   rw [List.mem_singleton.1 hs,sz_mk]; decide
  have happ := appAll_app lg (packR [chB2]) hsz
  have hlg2 : lg' = appAll lg (packR [chB2]) := hlg
  rw [← hlg2] at happ
  have hlen : lg'.all.length = 3 := by rw [happ.all,List.length_append,hl]; rfl
  exact ⟨hc,by rw [hPs,hlen]; kernel_rfl,by rw [hwt]; rfl⟩
theorem AliveA.len {g : Sl.Pg} {lg : Lg} (h : AliveA g lg) : lg.b.length = 4115 ∧ lg.all.length = 2 ∧ lg.b = framedAll lg.all ∧ ∀ s ∈ lg.all,s.size ≤ 65536 := by
 have hi : (imgR 0 g).size = 4099 := by rw [imgR,sz_mk,List.length_cons,List.length_append,be_length,h.rep.ok.len]
 have hp : (⟨(101 :: laidP chA).toArray⟩ : ByteArray).size = 8 := by rw [sz_mk]; decide
 have hb : lg.b = framed (framed [] (imgR 0 g)) ⟨(101 :: laidP chA).toArray⟩ := by rw [h.app.b,packA]; rfl
 refine ⟨?_,by rw [h.all,packA]; rfl,by rw [hb,h.all,packA]; rfl,fun s hs => ?_⟩
 ·rw [hb,framed_size,framed_size,hi,hp]; rfl
 ·rw [h.all,packA] at hs
  rcases List.mem_append.1 hs with hs | hs
  ·rw [List.mem_singleton.1 hs,hi]; omega
  ·rw [List.mem_singleton.1 hs,hp]; omega
theorem alive_sync {g : Sl.Pg} {lg : Lg} (h : AliveA g lg) (room : Nat) (hr : 20 ≤ room) : ∃ d2,flushP (freshD room) lg = (d2,{ lg with mark := 2,firm := lg.b.length,many := 2 },0) ∧ Calm d2 ∧ Live 0 2 lg.b (Gof lg.all (recs psA)) d2 := by
 obtain ⟨h1,h2,h3,h4⟩ := h.len
 have hn : lg.name = nLog := by rw [h.app.name]; rfl
 have hc : lg.code = 0 := by rw [h.app.code]; rfl
 have hf : lg.firm = 0 := by rw [h.app.firm]; rfl
 have hm : lg.mark = 1 := by rw [h.app.mark]; rfl
 have hns : nsec lg.b.length = 9 := by rw [h1]; rfl
 have hfl : ((freshD room).file 0).now.length = 2 := rfl
 obtain ⟨q,e1,e2⟩ := flush_calm (fresh_one room) hn hc (by rw [hf,hfl]; decide) (by rw [hfl]; omega) (by omega) (by rw [hns]; show 0 + 2 + 9 ≤ room; omega)
 have hL : Live 0 lg.mark (lg.b.take lg.firm) (Gof [] fun _ => []) (freshD room) := by
  rw [hf,List.take_zero,hm]
  exact fresh_live room gof_zcont
 have hG : ∀ c,Gof [] (fun _ => []) c → Gof lg.all (recs psA) c := fun c hc => gof_z hc fun n hn hi => by
  have : n ≠ 0 := fun e => by
   have := (h.img (n : Int)).2 (by omega)
   omega
  cases n with
  | zero => exact absurd rfl this
  | succ n => rfl
 rcases Live.flush hn hc (by omega) hL (by rw [hm]; decide) (by rw [h1]; decide) with ⟨_,h6⟩ | ⟨h6,_⟩
 ·rw [e1] at h6
  rw [hm] at e1
  refine ⟨_,by rw [e1,h2],⟨rfl,rfl,rfl⟩,?_⟩
  rw [hm] at h6
  exact ⟨h6.fok,h6.log,h6.lt,h6.logc,fun i => by
   rcases h6.data i with ⟨h7,h8⟩ | ⟨q',h7,h8,h9,h10⟩
   ·exact .inl ⟨h7,hG _ h8⟩
   ·exact .inr ⟨q',h7,h8,h9,fun c hc => hG c (h10 c hc)⟩⟩
 ·rw [e1] at h6; exact absurd rfl h6
theorem crash_calm (q : Dk) (names : Int) (ps : List Int) : Calm (q.crash names ps) := ⟨rfl,rfl,rfl⟩
theorem fopen_calm {d : Dk} (h : Calm d) : (fopenP d).2 = 0 ∧ Calm (fopenP d).1 := by
 unfold fopenP
 split
 ·rw [create_calm h (by decide)]
  exact ⟨rfl,h.armed,h.denied,h.dead⟩
 ·exact ⟨rfl,h⟩
theorem alive_crash {g : Sl.Pg} {lg : Lg} (h : AliveA g lg) {d2 : Dk} (hL : Live 0 2 lg.b (Gof lg.all (recs psA)) d2) (n : Int) (ps : List Int) : (jopenP (d2.crash n ps)).2.1 = 0 ∧ (rowsP (jopenP (d2.crash n ps)).2.2.2.Ps).length = 1 := by
 obtain ⟨h1,h2,h3,h4⟩ := h.len
 obtain ⟨k,m,B,⟨rfl,rfl⟩,hC⟩ := (hL.any (Q := fun m B => m = 2 ∧ B = lg.b) ⟨rfl,rfl⟩).crash n ps
 have hf := fopen_calm (crash_calm d2 n ps)
 have ho := open_live hC rfl (by rw [h3]; exact records_framed h4) h.repl (fun i hi => by
  cases i with
  | zero => omega
  | succ i => rfl) hf.1
 refine ⟨ho.2.1,?_⟩
 have hr : rowsP (jopenP (d2.crash n ps)).2.2.2.Ps = rowsP psA := rows_recs _ _ 0 ho.2.2.2.1
 rw [hr]; rfl
end Go.Proofs.YtdeebigmpffnbaaGreat
namespace Go.Proofs.YtdeebigmpffnbaaGreat
open Go Go.Vc Go.Vault Go.Redo
theorem hp_keeps {B : List Nat} {w0 w : World} {L1 : List Asn} {a : Asn} {L2 : List Asn} (H : Hp B w0 w (L1 ++ a :: L2)) : ∀ W,Chg (feet L1) w W → a.ok W := fun W hW => by
 have hok := H.ok a (List.mem_append_right _ (.head _))
 have hsep := List.pairwise_append.1 H.sep
 refine Asn.ok_of hok fun k hk => hW.2.2.2.2 k (Asn.ok_lt hok k hk) fun hf => ?_
 obtain ⟨x,hx,hxk⟩ := mem_feet.1 hf
 exact hsep.2.2 x hx a (.head _) k hxk hk
def jnoD (y : GW) (x : DW) (s : St) (p : JP) (tt : Nat) (wt : Int) (Ps : List AP) (T : Tou) : List Asn :=
 jpL y.jb (ptrV x.b) (ptrV y.lw.b) (ptrV y.pb) p (some tt) wt Ps ++ (touA tt T :: poolA y x s :: fsA y s :: lgT y.lw s.lg :: lgB y.lw s.lg :: lgA y.lw x.b s.lg :: frsL y.fs s.fs)
theorem jall_disk (y : GW) (x : DW) (s : St) (p : JP) (tt : Nat) (wt : Int) (Ps : List AP) (T : Tou) : (jallL y x s p tt wt Ps T).Perm (dkL x s.d ++ jnoD y x s p tt wt Ps T) := by
 rw [jallL,restG,jnoD]; (refine perm_cnt fun f g a b c d=>?_;simp only[c,b,a];omega)
theorem jsyncA_spec (y : GW) (x : DW) (s : St) (p : JP) (tt : Nat) (wt : Int) (Ps : List AP) (T : Tou) (m : Nat) (hr : Rest y x s p Ps m) (hl : LgB s.lg) {N : Nat} (fit : s.d.Fit N) (hN : N ≤ 400000) (w : World) (st : Std w (jallL y x s p tt wt Ps T)) :
  Calls Tryz.prog 22 #[.pointer (some ⟨y.jb,0,none⟩)] w fun e w' => e = .returned (.int .i64 (syncP s.d s.lg wt).2.2.2) ∧ ∃ (x' : DW) (lw : LW),x'.b = x.b ∧ lw.b = y.lw.b ∧ Rest { y with lw := lw } x' { s with d := (syncP s.d s.lg wt).1,lg := (syncP s.d s.lg wt).2.1 } p Ps m ∧
   Hp (feet (jallL y x s p tt wt Ps T)) w w' (jallL { y with lw := lw } x' { s with d := (syncP s.d s.lg wt).1,lg := (syncP s.d s.lg wt).2.1 } p tt (syncP s.d s.lg wt).2.2.1 Ps T) := by
 have H := Hp.startL st
 generalize hB : feet (jallL y x s p tt wt Ps T) = B at H ⊢
 have H1 : Hp B w w (jsL y.jb (ptrV x.b) (ptrV y.pb) p (some tt) wt y.lw x s.d s.lg ++ (.own 99 1 p.pa p.bs.length p.pc (ptrsB p.bs) :: (List.zipWith pageA p.bs Ps ++ (touA tt T :: poolA y x s :: fsA y s :: frsL y.fs s.fs)))) := H.perm (by
  rw [jallL,restG,jpL,jsL,lgL]
  have ej : Asn.blk y.jb (jcV (ptrV x.b) (.pointer (some ⟨y.lw.b,0,none⟩)) (ptrV y.pb) p (some tt) wt) 91 = .blk y.jb (jcV (ptrV x.b) (ptrV y.lw.b) (ptrV y.pb) p (some tt) wt) 91 := rfl
  rw [ej]
  (refine perm_cnt fun f g a b c d=>?_;simp only[c,b,a];omega))
 refine Calls.mono (jsync_spec y.jb (ptrV x.b) (ptrV y.pb) p (some tt) wt y.lw x s.d s.lg hr.dk fit hN hl.1 hl.2.1 hl.2.2 w H1.std1) ?_
 rintro e w1 ⟨rfl,x',lw,hxb,hlw,hx',H'⟩
 have H2 := H1.useL H'
 clear H H1 H'
 refine ⟨rfl,x',lw,hxb,hlw,⟨hr.fs,hx',⟨hr.idle.fr,hr.idle.len,hr.idle.many,hr.idle.hand,hr.idle.turn⟩,hr.pages,hsz_any ?_ _,hr.bs,hr.few⟩,?_⟩
 ·show 0 ≤ (syncP s.d s.lg wt).1.size nData
  have h0 := hr.sz.1
  have h1 := hr.sz.2
  unfold syncP
  split
  ·exact h0
  ·exact h1
 ·generalize syncP s.d s.lg wt = r at H2 ⊢
  refine H2.perm ?_
  rw [jallL,restG,jpL,jsL,lgL]
  have ej : Asn.blk y.jb (jcV (ptrV x.b) (.pointer (some ⟨lw.b,0,none⟩)) (ptrV y.pb) p (some tt) r.2.2.1) 91 = .blk ({ y with lw := lw } : GW).jb (jcV (ptrV x'.b) (ptrV ({ y with lw := lw } : GW).lw.b) (ptrV ({ y with lw := lw } : GW).pb) p (some tt) r.2.2.1) 91 := by rw [hxb]; rfl
  have ep : poolA { y with lw := lw } x' { s with d := r.1,lg := r.2.1 } = poolA y x s := by simp only [poolA,poolC,hxb]
  have ef : fsA { y with lw := lw } { s with d := r.1,lg := r.2.1 } = fsA y s := rfl
  rw [ej,ep,ef]
  (refine perm_cnt fun f g a b c d=>?_;simp only[c,b,a];omega)
end Go.Proofs.YtdeebigmpffnbaaGreat
namespace Go.Proofs.YtdeebigmpffnbaaGreat
open Go Go.Vc Go.Vault Go.Redo
theorem gundPJ : Tryz.prog.underlying 34 = some (.pointer (Tryz.prog.pointee 34)) := by kernel_rfl
set_option maxHeartbeats 4000000 in
theorem alive_spec (w : World) : Calls Tryz.prog 8 #[] w fun e w' => e = .returned (.bool true) ∧ Hp [] w w' [] := by
 apply alive.ok; unfold alive.vc
 refine callV (new_spec 500 w) ?_
 rintro e w1 ⟨x,rfl,hx,H⟩
 refine ⟨_,rfl,_,eqv_ptrE gundPD,br_false ?_⟩
 have hb := begun500
 have fitN : (Dk.new 500).Fit 1 := ⟨by decide,(fun f hf => by cases hf),(fun M => by have e : (Dk.new 500).chs.take M = [] := List.take_nil; rw [e]; decide),by decide⟩
 refine callV (jopen_spec x (Dk.new 500) hx fitN (by omega) 4 (by omega) w1 H.std) ?_
 rintro e w2 ⟨x1,hx1b,hx1,hcase⟩
 rcases hcase with ⟨hc,_⟩ | ⟨_,y,s,p,tt,m,rfl,hR,hm,hsd,hslg,hsm,hsp,hsT,H'⟩
 ·exact absurd hb.code hc
 replace H := H.useAll H'
 clear H'
 rw [hb.Ps] at hR H
 rw [hb.T] at H
 have hbd : (jopenP (Dk.new 500)).1 = freshD 500 := hb.d
 rw [hbd] at hsd hx1
 rw [hb.lg] at hslg
 refine ⟨_,_,rfl,br_ndec (fun h => absurd rfl h) (fun _ => ⟨_,eqv_ptrE gundPJ,br_false ?_⟩)⟩
 intro b w3 hn
 replace H := (H.new (cs := [.int .i64 0,.int .i64 0,.string ⟨#[97]⟩,.bool false]) (by exact ⟨rfl,rfl,rfl,rfl⟩) hn).perm (M := jallL y x1 s p tt 0 [] T0 ++ [.blk b [.int .i64 0,.int .i64 0,.string ⟨#[97]⟩,.bool false] 73]) (by (refine perm_cnt fun f g a b c d=>?_;simp only[c,b,a];omega))
 clear hn
 have hC : ∀ W,Chg (feet (jallL y x1 s p tt 0 [] T0)) w3 W → Cells W (some ⟨b,0,none⟩) (chC [chA]) := fun W hW => Blk.cells (cs := [.int .i64 0,.int .i64 0,.string ⟨#[97]⟩,.bool false]) (T := 73) (hp_keeps H W hW)
 refine callV (jcommit_spec y x1 s p tt 0 [] T0 m hR (by omega) (fun n => Nat.zero_le _) (by rw [hslg]; decide) (by rw [hslg]; decide) (some ⟨b,0,none⟩) 1 [chA] (by simp) (by decide) w3 H.std1 hC) ?_
 rintro e w4 ⟨c4,lg4,Ps4,T4,wt4,hcr,rfl,lw4,p4,hlw4,hR4,H'⟩
 replace H := H.useL H'
 clear H' hC
 rw [hslg] at hcr
 obtain ⟨rfl,rfl,rfl,rfl,g,hA⟩ := alive_a hcr
 obtain ⟨hA1,hA2,hA3,hA4⟩ := hA.len
 refine ⟨_,rfl,?_⟩
 have hfr : (freshD 500).Fit 4 := fresh_fit 500
 have hnm : lg4.mark = 1 := by rw [hA.app.mark]; rfl
 have hnf : lg4.firm = 0 := by rw [hA.app.firm]; rfl
 have hnc : lg4.code = 0 := by rw [hA.app.code]; rfl
 have hsd4 : ({ s with lg := lg4 } : St).d = freshD 500 := hsd
 refine callV (jsyncA_spec { y with lw := lw4 } x1 { s with lg := lg4 } p4 tt 1 psA tA m hR4 (by show lg4.b.length ≤ _ ∧ lg4.firm ≤ _ ∧ lg4.mark ≤ _; omega) (by rw [hsd4]; exact hfr) (by omega) w4 H.std1) ?_
 rintro e w5 ⟨rfl,x5,lw5,hx5b,hlw5,hR5,H'⟩
 replace H := H.useL H'
 clear H'
 obtain ⟨d2,hfl,hcalm,hlive⟩ := alive_sync hA 500 (by omega)
 obtain ⟨lg5,hlg5⟩ : ∃ lg5,lg5 = { lg4 with mark := 2,firm := lg4.b.length,many := 2 } := ⟨_,rfl⟩
 have hsy : syncP ({ s with lg := lg4 } : St).d ({ s with lg := lg4 } : St).lg 1 = (d2,lg5,0,0) := by
  rw [hsd4,syncP,if_neg (fun h => h hnc)]
  show ((flushP (freshD 500) lg4).1,(flushP (freshD 500) lg4).2.1,(if (flushP (freshD 500) lg4).2.2 = 0 then (0 : Int) else 1),(flushP (freshD 500) lg4).2.2) = _
  rw [hfl,hlg5]
  rfl
 have hfit2 : d2.Fit 40 := by
  have := flushP_fit (freshD 500) lg4 hfr
  rw [hfl,hA1] at this
  exact this.mono (by decide)
 rw [hsy] at hR5 H ⊢
 refine ⟨_,rfl,?_⟩
 have ey5 : ({ ({ y with lw := lw4 } : GW) with lw := lw5 } : GW) = { y with lw := lw5 } := rfl
 have es5 : ({ ({ s with lg := lg4 } : St) with d := d2,lg := lg5 } : St) = { s with d := d2,lg := lg5 } := rfl
 intro b2 w6 hn
 replace H := (H.new (cs := [.int .i64 0,.int .i64 1,.string ⟨#[98]⟩,.bool false]) (by exact ⟨rfl,rfl,rfl,rfl⟩) hn).perm (M := jallL { y with lw := lw5 } x5 { s with d := d2,lg := lg5 } p4 tt 0 psA tA ++ [.blk b2 [.int .i64 0,.int .i64 1,.string ⟨#[98]⟩,.bool false] 73,.blk b [.int .i64 0,.int .i64 0,.string ⟨#[97]⟩,.bool false] 73]) (by (refine perm_cnt fun f g a b c d=>?_;simp only[c,b,a];omega))
 clear hn
 have hC : ∀ W,Chg (feet (jallL { y with lw := lw5 } x5 { s with d := d2,lg := lg5 } p4 tt 0 psA tA)) w6 W → Cells W (some ⟨b2,0,none⟩) (chC [chB2]) := fun W hW => Blk.cells (cs := [.int .i64 0,.int .i64 1,.string ⟨#[98]⟩,.bool false]) (T := 73) (hp_keeps H W hW)
 have hlb5 : lg5.b = lg4.b := by rw [hlg5]
 have hla5 : lg5.all = lg4.all := by rw [hlg5]
 have hlc5 : lg5.code = 0 := by rw [hlg5]; exact hnc
 refine callV (jcommit_spec { y with lw := lw5 } x5 { s with d := d2,lg := lg5 } p4 tt 0 psA tA m hR5 (by omega) (fun n => by unfold tA Tou.up; show (if n = 0 then 0 + 1 else 0) ≤ 100000000; split <;> omega) (by show lg5.b.length ≤ _; rw [hlb5]; omega) (by show lg5.all.length ≤ _; rw [hla5]; omega) (some ⟨b2,0,none⟩) 1 [chB2] (by simp) (by decide) w6 H.std1 hC) ?_
 rintro e w7 ⟨c7,lg7,Ps7,T7,wt7,hcr7,rfl,lw7,p7,hlw7,hR7,H'⟩
 replace H := H.useL H'
 clear H' hC
 obtain ⟨rfl,rfl,rfl⟩ := alive_b hlc5 (by show lg5.all.length = 2; rw [hla5]; exact hA2) hcr7
 refine ⟨_,rfl,?_⟩
 obtain ⟨X,hX⟩ : ∃ X,X = jnoD { y with lw := lw7 } x5 { s with d := d2,lg := lg7 } p7 tt 1 psB T7 := ⟨_,rfl⟩
 have H2 : Hp [] w w7 (dkL x5 d2 ++ X) := by
  have := H.takeL.perm (jall_disk { y with lw := lw7 } x5 { s with d := d2,lg := lg7 } p7 tt 1 psB T7)
  rw [hX]; exact this
 clear H
 have hx5 : x5.Ok d2 := hR5.dk
 have hxb5 : x5.b = x.b := by rw [hx5b,hx1b]
 have hcs := crash_spec x5 d2 hx5 hfit2.few (by omega) 0 none 0 [] w7 H2.std1 (fun W hW => by intro j v hj; simp [ints] at hj) (Nat.le_refl _)
 rw [hxb5] at hcs
 refine callV hcs ?_
 clear hcs
 rintro e w8 ⟨z,rfl,hz,H'⟩
 have H3 := H2.useL H'
 clear H2 H'
 refine ⟨_,rfl,_,eqv_ptrE gundPD,br_false ?_⟩
 obtain ⟨hcc,hcrow⟩ := alive_crash hA hlive 0 []
 have fit3 : (d2.crash 0 []).Fit 40 := Fit.crash hfit2 hx5.dk 0 []
 have H4 : Hp [] w w8 (dkL z (d2.crash 0 []) ++ (dkL x5 d2 ++ X)) := by rw [← List.append_assoc]; exact H3
 clear H3
 refine callV (jopen_spec z (d2.crash 0 []) hz fit3 (by omega) 4 (by omega) w8 H4.std1) ?_
 rintro e w9 ⟨z1,hz1b,hz1,hcase⟩
 rcases hcase with ⟨hc,_⟩ | ⟨_,y9,s9,p9,tt9,m9,rfl,hR9,hm9,hsd9,hslg9,hsm9,hsp9,hsT9,H'⟩
 ·exact absurd hcc hc
 have H5 := H4.useL H'
 clear H4 H'
 refine ⟨_,_,rfl,br_true (br_true (br_true ⟨true,eqv_ptrN gundPJ,br_true ?_⟩))⟩
 refine callV (jrows_spec y9.jb (ptrV z1.b) (ptrV y9.lw.b) (ptrV y9.pb) p9 (some tt9) 0 _ hR9.bs hR9.few w9 (Hp.std1 (L1 := jpL y9.jb (ptrV z1.b) (ptrV y9.lw.b) (ptrV y9.pb) p9 (some tt9) 0 (jopenP (d2.crash 0 [])).2.2.2.Ps) H5.takeL)) ?_
 rintro e w10 ⟨a10,c10,rfl,_,H'⟩
 have H6 := H5.ext0 H'.done
 clear H5 H'
 rw [hcrow]
 refine ⟨_,_,_,rfl,br_true ?_⟩
 have H7 : Hp [] w w10 (jpL y.jb (ptrV x5.b) (ptrV lw7.b) (ptrV y.pb) p7 (some tt) 1 psB ++ ((touA tt T7 :: poolA { y with lw := lw7 } x5 { s with d := d2,lg := lg7 } :: fsA { y with lw := lw7 } { s with d := d2,lg := lg7 } :: lgT lw7 lg7 :: lgB lw7 lg7 :: lgA lw7 x5.b lg7 :: frsL y.fs s.fs) ++ (dkL x5 d2 ++ jallL y9 z1 s9 p9 tt9 0 (jopenP (d2.crash 0 [])).2.2.2.Ps (jopenP (d2.crash 0 [])).2.2.2.T))) := H6.perm (by
  rw [hX,jnoD]
  have ej : jpL ({ y with lw := lw7 } : GW).jb (ptrV x5.b) (ptrV ({ y with lw := lw7 } : GW).lw.b) (ptrV ({ y with lw := lw7 } : GW).pb) p7 (some tt) 1 psB = jpL y.jb (ptrV x5.b) (ptrV lw7.b) (ptrV y.pb) p7 (some tt) 1 psB := rfl
  have ef : frsL ({ y with lw := lw7 } : GW).fs ({ s with d := d2,lg := lg7 } : St).fs = frsL y.fs s.fs := rfl
  have e1 : lgT ({ y with lw := lw7 } : GW).lw ({ s with d := d2,lg := lg7 } : St).lg = lgT lw7 lg7 := rfl
  have e2 : lgB ({ y with lw := lw7 } : GW).lw ({ s with d := d2,lg := lg7 } : St).lg = lgB lw7 lg7 := rfl
  have e3 : lgA ({ y with lw := lw7 } : GW).lw x5.b ({ s with d := d2,lg := lg7 } : St).lg = lgA lw7 x5.b lg7 := rfl
  rw [ej,ef,e1,e2,e3]
  (refine perm_cnt fun f g a b c d=>?_;simp only[c,b,a];omega))
 clear H6
 refine callV (jrows_spec y.jb (ptrV x5.b) (ptrV lw7.b) (ptrV y.pb) p7 (some tt) 1 psB hR7.bs hR7.few w10 H7.std1) ?_
 rintro e w11 ⟨a11,c11,rfl,_,H'⟩
 have H8 := H7.ext0 H'.done
 clear H7 H'
 refine ⟨_,_,_,rfl,?_⟩
 have hl2 : (rowsP psB).length = 2 := rfl
 rw [hl2]
 refine br_true ?_
 refine callV (jwaiting_spec y.jb (ptrV x5.b) (ptrV lw7.b) (ptrV y.pb) p7 (some tt) 1 w11 (H8.blk (.head _))) ?_
 rintro e w12 ⟨rfl,H'⟩
 have H9 := H8.ext0 H'
 exact ⟨_,rfl,rfl,H9.done⟩
end Go.Proofs.YtdeebigmpffnbaaGreat
namespace Go.Proofs.YtdeebigmpffnbaaGreat
open Go Go.Vc Go.Vault Go.Redo
theorem gaggR : Agg Tryz.prog 98 4 := agg_of (by kernel_rfl)
theorem geltR : Elt Tryz.prog 38 98 4 40 := elt_of (by kernel_rfl)
theorem gundSR : Tryz.prog.underlying 38 = some (.slice 98) := by kernel_rfl
theorem chR_ld {w : World} {a : Option Addr} {l : List Chg1} (h : Cells w a (chC l)) {k : Nat} (hk : k < l.length) : ∃ ad,a = some ad ∧ Ld Tryz.prog 98 w (ad.add (k * 4)) (cgV l[k]) := by
 have hne : 0 < (chC l).length := by rw [chC_len]; omega
 obtain ⟨ad,had,_⟩ := h 0 _ (List.getElem?_eq_getElem hne)
 exact ⟨ad,had,h.ldA gaggR had (chC_get hk) rfl⟩
theorem plain_spec (la : Option Addr) (lc : Nat) (l : List Chg1) (hl : l.length ≤ 100000000) (w : World) (hL : Cells w la (chC l)) :
  Calls Tryz.prog 13 #[.slice la l.length lc] w fun e w' => ∃ a c,e = .returned (.slice a l.length c) ∧ Hp [] w w' [.own 98 4 a l.length c (chC l)] := by
 apply plain.ok; unfold plain.vc
 refine LoopP.mk (fun m s w' => ∃ (k : Nat) (a : Option Addr) (c : Nat),m = l.length - k ∧ k ≤ l.length ∧ s = ((a,k,c),(k : Int)) ∧ Hp [] w w' [.own 98 4 a k c (chC (l.take k))]) l.length ⟨0,none,0,rfl,by omega,rfl,(Hp.start w).nilS 98 4⟩ ?_
 rintro m s w1 next ⟨k,a,c,rfl,hk,rfl,H⟩ hnext
 dsimp only
 refine br_dec (fun h1 => ?_) (fun h1 => ?_)
 ·have hkl : k < l.length := by omega
  obtain ⟨ad,had,hld⟩ := chC_ld (hL.chg H.chg (by simp)) hkl
  have hsn : chC (l.take (k + 1)) = chC (l.take k) ++ [.int .i64 l[k].page,.int .i64 l[k].slot,.string l[k].s,.bool l[k].gone] := by rw [List.take_succ_eq_append_getElem hkl,chC_snoc]
  generalize l[k] = q at hld hsn
  refine onP_mk had ⟨⟨by omega,by omega⟩,_,_,_,_,by rw [Int.toNat_natCast]; exact hld,?_⟩
  intro b1 w2 hn
  replace H := H.new (cs := [.int .i64 0,.int .i64 0,.string ⟨#[]⟩,.bool false]) (by exact ⟨rfl,rfl,rfl,rfl⟩) hn
  clear hn
  refine Hp.stA (o := 0) H (by exact ⟨rfl,rfl,rfl,rfl⟩) gaggC (vs := [.int .i64 q.page,.int .i64 q.slot,.string q.s,.bool q.gone]) rfl rfl (by simp) (cs' := [.int .i64 q.page,.int .i64 q.slot,.string q.s,.bool q.gone]) rfl ?_
  clear H; intro w3 H
  refine ⟨_,_,_,_,H.ldA (o := 0) (by exact ⟨rfl,rfl,rfl,rfl⟩) gaggC (.head _) (vs := [.int .i64 q.page,.int .i64 q.slot,.string q.s,.bool q.gone]) rfl rfl,?_⟩
  intro b2 w4 hn
  replace H := H.new (cs := [.int .i64 q.page,.int .i64 q.slot,.string q.s,.bool q.gone]) (by exact ⟨rfl,rfl,rfl,rfl⟩) hn
  clear hn
  refine Hp.app geltR (by omega) H.pull2 (by exact ⟨rfl,rfl,rfl,rfl⟩) (Blk.src (n := 1) gundSR (H.blk (.head _)) rfl rfl) (by simp only [maxLen]; omega) (by omega) ?_
  clear H; intro a5 c5 w5 H
  refine ⟨inR64.2 (by omega),hnext (l.length - (k + 1)) _ _ (by omega) ⟨k + 1,a5,c5,rfl,by omega,rfl,?_⟩⟩
  rw [hsn]
  exact H.del1.del1
 ·have hke : k = l.length := by omega
  subst hke
  rw [List.take_length] at H
  exact ⟨a,c,rfl,H⟩
def aheadC (a b : Chg1) : Prop := if a.page ≠ b.page then a.page < b.page else a.slot < b.slot
theorem rahead_spec (a b : Chg1) (h : aheadC a b) (w : World) : Calls Tryz.prog 41 #[cgV a,cgV b] w fun e w' => e = .returned (.bool true) ∧ Hp [] w w' [] := by
 obtain ⟨ap,as_,at_,ag⟩ := a
 obtain ⟨bp,bs,bt,bg⟩ := b
 apply rahead.ok; unfold rahead.vc
 intro b1 w1 hn
 have H := (Hp.start w).new (cs := [.int .i64 ap,.int .i64 as_,.string at_,.bool ag]) (by exact ⟨rfl,rfl,rfl,rfl⟩) hn
 clear hn
 intro b2 w2 hn
 replace H := H.new (cs := [.int .i64 bp,.int .i64 bs,.string bt,.bool bg]) (by exact ⟨rfl,rfl,rfl,rfl⟩) hn
 clear hn
 unfold aheadC at h
 dsimp only at h
 have m1 : ∀ {w' : World} {o : Nat} {t : TypeId} {v : Value},Scl Tryz.prog t → ([.int .i64 ap,.int .i64 as_,.string at_,.bool ag] : List Value)[o]? = some v → Ld Tryz.prog t w2 ⟨b1,o,none⟩ v := fun S hv => H.ld (cs := [.int .i64 ap,.int .i64 as_,.string at_,.bool ag]) (by exact ⟨rfl,rfl,rfl,rfl⟩) S (.tail _ (.head _)) hv
 refine ⟨_,H.ld (o := 0) (cs := [.int .i64 ap,.int .i64 as_,.string at_,.bool ag]) (by exact ⟨rfl,rfl,rfl,rfl⟩) gInt (.tail _ (.head _)) rfl,_,H.ld (o := 0) (cs := [.int .i64 bp,.int .i64 bs,.string bt,.bool bg]) (by exact ⟨rfl,rfl,rfl,rfl⟩) gInt (.head _) rfl,br_ndec (fun h1 => ?_) (fun h1 => ?_)⟩
 ·rw [if_pos h1] at h
  exact ⟨_,H.ld (o := 0) (cs := [.int .i64 ap,.int .i64 as_,.string at_,.bool ag]) (by exact ⟨rfl,rfl,rfl,rfl⟩) gInt (.tail _ (.head _)) rfl,_,H.ld (o := 0) (cs := [.int .i64 bp,.int .i64 bs,.string bt,.bool bg]) (by exact ⟨rfl,rfl,rfl,rfl⟩) gInt (.head _) rfl,by rw [decide_eq_true h],H.done⟩
 ·rw [if_neg (fun h2 => h2 h1)] at h
  exact ⟨_,H.ld (o := 1) (cs := [.int .i64 ap,.int .i64 as_,.string at_,.bool ag]) (by exact ⟨rfl,rfl,rfl,rfl⟩) gInt (.tail _ (.head _)) rfl,_,H.ld (o := 1) (cs := [.int .i64 bp,.int .i64 bs,.string bt,.bool bg]) (by exact ⟨rfl,rfl,rfl,rfl⟩) gInt (.head _) rfl,by rw [decide_eq_true h],H.done⟩
theorem rise_spec (la : Option Addr) (lc : Nat) (l : List Chg1) (hl : l.length ≤ 100000000) (hr : ∀ (k : Nat) (a b : Chg1),l[k]? = some a → l[k + 1]? = some b → aheadC a b) (w : World) (hL : Cells w la (chC l)) :
  Calls Tryz.prog 12 #[.slice la l.length lc] w fun e w' => e = .returned (.bool true) ∧ Hp [] w w' [] := by
 apply rise.ok; unfold rise.vc
 refine LoopP.mk (fun m s w' => ∃ k : Nat,m = l.length - k ∧ 1 ≤ k ∧ s = (k : Int) ∧ Hp [] w w' []) (l.length - 1) ⟨1,rfl,by omega,rfl,Hp.start w⟩ ?_
 rintro m s w1 next ⟨k,rfl,hk,rfl,H⟩ hnext
 refine br_dec (fun h1 => ?_) (fun h1 => ?_)
 ·have hkl : k < l.length := by omega
  have hk1 : k - 1 < l.length := by omega
  have hL2 := hL.chg H.drew.chg (by simp)
  obtain ⟨ad,had,hld⟩ := chR_ld hL2 hk1
  obtain ⟨ad2,had2,hld2⟩ := chR_ld hL2 hkl
  have e1 : Int.toNat ((k : Int) - 1) = k - 1 := by omega
  have hah := hr (k - 1) l[k - 1] l[k] (List.getElem?_eq_getElem hk1) (by rw [show k - 1 + 1 = k by omega]; exact List.getElem?_eq_getElem hkl)
  generalize l[k - 1] = x at hld hah
  generalize l[k] = y at hld2 hah
  refine ⟨inR64.2 (by omega),onP_mk had ⟨⟨by omega,by omega⟩,_,_,_,_,by rw [e1]; exact hld,onP_mk had2 ⟨⟨by omega,by omega⟩,_,_,_,_,by rw [Int.toNat_natCast]; exact hld2,?_⟩⟩⟩
  refine callV (rahead_spec x y hah w1.drew) ?_
  rintro e w2 ⟨rfl,H'⟩
  have H2 := H.drew.ext0 H'
  exact ⟨_,rfl,br_false ⟨inR64.2 (by omega),hnext (l.length - (k + 1)) _ _ (by omega) ⟨k + 1,rfl,by omega,by omega,H2⟩⟩⟩
 ·exact ⟨rfl,H⟩
theorem rows_rise : ∀ (Ps : List AP) (n : Nat),(∀ P ∈ Ps,P.1.Pairwise fun a b => a.1 < b.1) → (rowsF n Ps).Pairwise aheadC ∧ ∀ c ∈ rowsF n Ps,(n : Int) ≤ c.page
 | [],n,_ => ⟨.nil,by simp [rowsF]⟩
 | P :: r,n,h => by
  obtain ⟨h1,h2⟩ := rows_rise r (n + 1) fun Q hQ => h Q (.tail _ hQ)
  rw [rowsF]
  refine ⟨List.pairwise_append.2 ⟨List.pairwise_map.2 ((h P (.head _)).imp fun {a b} hab => ?_),h1,fun x hx y hy => ?_⟩,fun c hc => ?_⟩
  ·show aheadC _ _
   unfold aheadC rowP
   dsimp only
   rw [if_neg (fun h => h rfl)]
   omega
  ·obtain ⟨q,_,rfl⟩ := List.mem_map.1 hx
   have := h2 y hy
   unfold aheadC
   have hp : (rowP n q).page = (n : Int) := rfl
   rw [hp,if_pos (by omega)]
   omega
  ·rcases List.mem_append.1 hc with hc | hc
   ·obtain ⟨q,_,rfl⟩ := List.mem_map.1 hc
    exact Int.le_refl _
   ·have := h2 c hc; omega
theorem rise_next {l : List Chg1} (h : l.Pairwise aheadC) (k : Nat) (a b : Chg1) (ha : l[k]? = some a) (hb : l[k + 1]? = some b) : aheadC a b := by
 obtain ⟨h1,rfl⟩ := List.getElem?_eq_some_iff.1 ha
 obtain ⟨h2,rfl⟩ := List.getElem?_eq_some_iff.1 hb
 exact List.pairwise_iff_getElem.1 h k (k + 1) h1 h2 (by omega)
theorem jp_sorted {w : World} {jb : Nat} {va vb vc : Value} {p : JP} {t : Option Nat} {wt : Int} {Ps : List AP} (st : Std w (jpL jb va vb vc p t wt Ps)) (hl : p.bs.length = Ps.length) : ∀ P ∈ Ps,P.1.Pairwise fun a b => a.1 < b.1 := fun P hP => by
 obtain ⟨k,hk⟩ := List.getElem?_of_mem hP
 have hlt := (List.getElem?_eq_some_iff.1 hk).1
 obtain ⟨g,hR,_⟩ := jp_page st (List.getElem?_eq_getElem (by omega : k < p.bs.length)) hk
 exact hR.sorted
theorem aliveRet {w1 : World} {R : Ending → World → Prop} (hR : ∀ w2,Hp [] w1 w2 [] → R (.returned (.bool true)) w2) : CallV Tryz.prog 8 [] w1 R := by
 refine callV (alive_spec w1) ?_
 rintro e w2 ⟨rfl,H'⟩
 exact hR w2 H'
theorem new_fit0 (room : Int) : (Dk.new room).Fit 1 := ⟨by show 0 ≤ 1; omega,(fun f hf => by cases hf),(fun M => by have e : (Dk.new room).chs.take M = [] := List.take_nil; rw [e]; show 0 ≤ 1; omega),by show 0 ≤ 1; omega⟩
set_option maxHeartbeats 4000000 in
theorem journalRaw_law (sa : Option Addr) (sc : Nat) (os : List (OW × Op)) (W : World) (hs : Scr W sa os) :
  Calls Tryz.prog 3 #[.slice sa os.length sc] W fun e W' => e = .returned (.bool true) ∧ Hp [] W W' [] := by
 apply journalRaw.ok; unfold journalRaw.vc
 refine callV (new_spec 300 W) ?_
 rintro e w1 ⟨x,rfl,hx,H⟩
 refine ⟨_,rfl,?_⟩
 refine JoinP.mk (fun s w' => s = decide (100 < (os.length : Int)) ∧ w' = w1) ?_ (fun R' hR' => ⟨_,eqv_ptrE gundPD,br_false (hR' _ _ ⟨rfl,rfl⟩)⟩)
 rintro s w' ⟨rfl,rfl⟩
 refine br_dec (fun _ => ⟨_,eqv_ptrN gundPD,br_true (aliveRet fun w2 H' => ⟨_,rfl,rfl,(H.ext0 H').done⟩)⟩) (fun hos => ?_)
 intro b w2 hn
 replace H := (H.new (cs := [.string nLog,.string nData]) (by exact ⟨rfl,rfl,rfl,rfl⟩) hn).perm (M := dkL x (Dk.new 300) ++ [.blk b [.string nLog,.string nData] 9]) (by (refine perm_cnt fun f g a b c d=>?_;simp only[c,b,a];omega))
 clear hn
 refine LoopP.mk (fun (m : Nat) (s : Int) (w' : World) => ∃ (k : Nat) (x2 : DW) (d2 : Dk),m = 2 - k ∧ k ≤ 2 ∧ s = (k : Int) ∧ x2.b = x.b ∧ x2.Ok d2 ∧ d2.Fit (1 + k * (1 + os.length)) ∧ Hp [] W w' (dkL x2 d2 ++ [.blk b [.string nLog,.string nData] 9])) 2 ⟨0,x,Dk.new 300,rfl,by omega,rfl,rfl,hx,(new_fit0 300).mono (by omega),H⟩ ?_
 clear H hx w2
 rintro m s w2 next ⟨k,x2,d2,rfl,hk,rfl,hxb,hx2,fit2,H⟩ hnext
 refine br_dec (fun h1 => ?_) (fun h1 => ?_)
 ·have hk2 : k < 2 := by omega
  obtain ⟨nm,hnm⟩ : ∃ nm,([.string nLog,.string nData] : List Value)[k]? = some (.string nm) ∧ nm.size ≤ 60 := by
   have : k = 0 ∨ k = 1 := by omega
   rcases this with rfl | rfl
   ·exact ⟨nLog,rfl,by decide⟩
   ·exact ⟨nData,rfl,by decide⟩
  have hkos : k * (1 + os.length) ≤ 101 := by
   have : k ≤ 1 := by omega
   calc k * (1 + os.length) ≤ 1 * (1 + os.length) := Nat.mul_le_mul_right _ this
    _ ≤ 101 := by omega
  refine ⟨⟨by omega,by omega⟩,_,by rw [add_lit,Nat.zero_add,Int.toNat_natCast,Nat.mul_one]; exact H.ld (cs := [.string nLog,.string nData]) (by exact ⟨rfl,rfl,rfl,rfl⟩) gStr (List.mem_append_right _ (.head _)) hnm.1,?_⟩
  have hcs := create_spec x2 d2 hx2 (by have := fit2.chs; omega) (by have := fit2.files; omega) nm w2 H.std1
  rw [hxb] at hcs
  refine callV hcs ?_
  rintro e w3 ⟨rfl,x3,hx3b,hx3,H'⟩
  have H2 := H.useL H'
  have fit3 := Fit.create fit2 nm
  clear H H' hcs
  refine ⟨_,rfl,?_⟩
  generalize (d2.create nm).1 = d3 at hx3 H2 fit3
  refine LoopP.mk (fun (m : Nat) (s : Int) (w' : World) => ∃ (j : Nat) (x4 : DW) (d4 : Dk),m = os.length - j ∧ j ≤ os.length ∧ s = (j : Int) ∧ x4.b = x.b ∧ x4.Ok d4 ∧ d4.Fit (1 + k * (1 + os.length) + 1 + j) ∧ Hp [] W w' (dkL x4 d4 ++ [.blk b [.string nLog,.string nData] 9])) os.length ⟨0,x3,d3,rfl,by omega,rfl,by rw [hx3b,hxb],hx3,fit3,H2⟩ ?_
  clear H2 fit3 hx3 hx3b d3 x3 w3 hx2 hxb fit2 d2 x2 w2 h1
  rintro m s w2 next1 ⟨j,x2,d2,rfl,hj,rfl,hxb,hx2,fit2,H⟩ hnext1
  refine br_dec (fun h3 => ?_) (fun h3 => ?_)
  ·have hjl : j < os.length := by omega
   obtain ⟨p,hp⟩ : ∃ p,os[j]? = some p := ⟨_,List.getElem?_eq_getElem hjl⟩
   have hpm := List.mem_of_getElem? hp
   obtain ⟨ad,ha,hld⟩ := (hs.chg0 H.chg).ldA hp
   refine onP_mk ha ⟨⟨by omega,by omega⟩,_,_,_,_,_,_,_,_,_,_,by rw [Int.toNat_natCast]; exact hld,?_⟩
   intro bo w3 hn
   replace H := H.new (by exact ⟨rfl,rfl,rfl,rfl⟩) hn
   clear hn
   refine Hp.stA H (by exact ⟨rfl,rfl,rfl,rfl⟩) raggO (vs := opC p) (cs' := opC p) rfl rfl (by simp) rfl ?_
   clear H; intro w4 H
   have skip : inR .i64 ((j : Int) + 1) ∧ next1 ((j : Int) + 1) w4 := ⟨inR64.2 (by omega),hnext1 (os.length - (j + 1)) _ _ (by omega) ⟨j + 1,x2,d2,rfl,by omega,by simp,hxb,hx2,fit2.mono (by omega),H.drop⟩⟩
   have write : ∃ i,Ld Tryz.prog 3 w4 ⟨bo,1,none⟩ (.int .i64 i) ∧ ∃ a l c,Ld Tryz.prog 29 w4 ⟨bo,4,none⟩ (.slice a l c) ∧ CallV Tryz.prog 10 [.pointer (some ⟨x.b,0,none⟩),.string nm,.int .i64 i,.slice a l c] w4 fun e w' => ∃ i,e = .returned (.int .i64 i) ∧ inR .i64 ((j : Int) + 1) ∧ next1 ((j : Int) + 1) w' := by
    refine ⟨_,H.ld (cs := opC p) (by exact ⟨rfl,rfl,rfl,rfl⟩) gInt (.head _) rfl,_,_,_,H.ld (cs := opC p) (by exact ⟨rfl,rfl,rfl,rfl⟩) rsclU (.head _) rfl,?_⟩
    have H2 : Hp [] W w4 (dkL x2 d2 ++ (.blk b [.string nLog,.string nData] 9 :: [.blk bo (opC p) 32])) := H.perm (by (refine perm_cnt fun f g a b c d=>?_;simp only[c,b,a];omega))
    have hws := write_spec x2 d2 hx2 fit2.few (by omega) (fit2.used (by omega)) nm p.2.n p.1.ba p.1.bc p.2.b w4 H2.std1 (fun W' hW => (hs.stable H2 hpm W' hW).b.cells) (hs.ops p hpm).b.nil
    rw [hxb] at hws
    refine callV hws ?_
    rintro e w5 ⟨rfl,x5,hx5b,hx5,H'⟩
    have H3 := H2.useL H'
    clear H' H2 hws
    have H4 : Hp [] W w5 ((dkL x5 (d2.write nm p.2.n p.2.b).1 ++ [.blk b [.string nLog,.string nData] 9]) ++ [.blk bo (opC p) 32]) := by rw [List.append_assoc]; exact H3
    exact ⟨_,rfl,inR64.2 (by omega),hnext1 (os.length - (j + 1)) _ _ (by omega) ⟨j + 1,x5,_,rfl,by omega,by simp,by rw [hx5b,hxb],hx5,(Fit.write fit2 nm p.2.n p.2.b).mono (by omega),H4.takeL⟩⟩
   refine ⟨_,H.ld (cs := opC p) (by exact ⟨rfl,rfl,rfl,rfl⟩) gInt (.head _) rfl,?_⟩
   refine br_dec (fun k1 => ⟨_,H.ld (cs := opC p) (by exact ⟨rfl,rfl,rfl,rfl⟩) gStr (.head _) rfl,br_dec (fun _ => write) (fun _ => br_dec (fun _ => write) (fun _ => skip))⟩) (fun _ => skip)
  ·have hjl : j = os.length := by omega
   refine ⟨inR64.2 (by omega),hnext (2 - (k + 1)) _ _ (by omega) ⟨k + 1,x2,d2,rfl,by omega,by omega,hxb,hx2,?_,H⟩⟩
   exact fit2.mono (by rw [hjl,Nat.add_mul]; omega)
 ·have hk2 : k = 2 := by omega
  subst hk2
  have hjo := jopen_spec x2 d2 hx2 fit2 (by omega) 4 (by omega) w2 H.std1
  rw [hxb] at hjo
  refine callV hjo ?_
  rintro e w3 ⟨x3,hx3b,hx3,hcase⟩
  rcases hcase with ⟨hc,rfl,H'⟩ | ⟨hc,y,s,p,tt,m,rfl,hR,hm,hsd,hslg,hsm,hsp,hsT,H'⟩
  ·have H2 := H.useL H'
   refine ⟨_,_,rfl,br_ndec (fun _ => ?_) (fun h => absurd h hc)⟩
   refine aliveRet fun w4 H' => ⟨_,rfl,br_true ⟨_,eqv_ptrE gundPJ,rfl,(H2.ext0 H').done⟩⟩
  ·have H2 := H.useL H'
   clear H H' hjo
   refine ⟨_,_,rfl,br_ndec (fun h => absurd rfl h) (fun _ => ?_)⟩
   refine aliveRet fun w4 H' => ⟨_,rfl,br_true ⟨_,eqv_ptrN gundPJ,br_true ?_⟩⟩
   have H3 := H2.ext0 H'
   clear H2 H'
   have hst : Std w4 (jpL y.jb (ptrV x3.b) (ptrV y.lw.b) (ptrV y.pb) p (some tt) 0 (jopenP d2).2.2.2.Ps) := Hp.std1 (L1 := jpL y.jb (ptrV x3.b) (ptrV y.lw.b) (ptrV y.pb) p (some tt) 0 (jopenP d2).2.2.2.Ps) H3.takeL
   refine callV (jrows_spec y.jb (ptrV x3.b) (ptrV y.lw.b) (ptrV y.pb) p (some tt) 0 _ hR.bs hR.few w4 hst) ?_
   rintro e w5 ⟨a5,c5,rfl,hlen,H'⟩
   have hsort := jp_sorted hst hR.bs
   have H4 := H3.ext1 H'
   clear H3 H'
   have hfew := hR.few
   refine ⟨_,_,_,rfl,?_⟩
   refine callV (plain_spec a5 c5 _ (by omega) w5 (H4.ownA (.head _)).cells) ?_
   rintro e w6 ⟨a6,c6,rfl,H'⟩
   have H5 := H4.ext1 H'
   clear H4 H'
   refine ⟨_,_,_,rfl,?_⟩
   refine callV (rise_spec a6 c6 (rowsP (jopenP d2).2.2.2.Ps) (by omega) (rise_next (rows_rise _ 0 hsort).1) w6 (H5.ownA (.head _)).cells) ?_
   rintro e w7 ⟨rfl,H'⟩
   have H6 := H5.ext0 H'
   clear H5 H'
   refine ⟨_,rfl,br_true ?_⟩
   refine callV (jwaiting_spec y.jb (ptrV x3.b) (ptrV y.lw.b) (ptrV y.pb) p (some tt) 0 w7 (H6.blk (.tail _ (.tail _ (.head _))))) ?_
   rintro e w8 ⟨rfl,H'⟩
   exact ⟨_,rfl,rfl,(H6.ext0 H').done⟩
end Go.Proofs.YtdeebigmpffnbaaGreat
namespace Go.Proofs.YtdeebigmpffnbaaGreat
open Go Go.Vc Go.Vault Go.ChangeAt
theorem rd_script (W : World) (K : List Value → Prop) : RdA Tryz.prog W 4 [22] K = ArgG W 3 32 (fun cs => K (ofC (some false) cs :: [])) := by kernel_rfl
theorem open_script {W : World} {args : Array Value} (h : RdA Tryz.prog W 4 [22] (fun l => args.toList = l)) : ∃ (a : Option Addr) (c : Nat) (os : List (OW × Op)),args = #[.slice a os.length c] ∧ Scr W a os := by
 rw [rd_script] at h
 obtain ⟨a,c,os,h1,h⟩ := argG_script h
 exact ⟨a,c,os,by cases args; simp_all [ofC],h1⟩
theorem journalRaw_holds : Rows.JournalRawSaid :=
 OpenClaim.holds_of_wide 3 Tryz.f3 rfl rfl rfl rfl rfl rfl rfl ⟨rfl,rfl,rfl,rfl,rfl⟩ rfl rfl rfl rfl rfl (by kernel_rfl) Tryz.func3 (by kernel_rfl)
  (of_decide_eq_true (by kernel_rfl)) (by unfold Func.isWrapper; first | (rw [if_pos (by decide +kernel)]; kernel_rfl) | (rw [if_neg (by decide +kernel)]; exact ⟨rfl,rfl⟩))
  (fun os started H enc _ => law_lift (C := Tryz.checked) (s := Rows.journalRawSpec) 3 Tryz.f3 4 own_ started (by kernel_rfl) Tryz.func3 laid_ (by kernel_rfl) rfl (by kernel_rfl) und4
   (fun ds h => by
    match ds,h with
    | [d0],_ => rfl)
   (ChangeSpec.witness6 (enc := enc) (C := Tryz.checked) false ⟨#[],#[.slice none 0 0],[]⟩ 8 (by kernel_rfl) (by kernel_rfl) (by kernel_rfl) (by kernel_rfl))
   (fun W args hrd => by
    obtain ⟨sa,sc,so,rfl,sh⟩ := open_script hrd
    exact (journalRaw_law sa sc so W sh).mono fun e W' ⟨he,hh⟩ => ⟨he,hh.chg⟩))
end Go.Proofs.YtdeebigmpffnbaaGreat
