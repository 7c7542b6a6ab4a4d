/- Part 6 of 6 of the proof of journalFirm_holds: for every input, from every world that may be reached. -/
import Derived.WalkKit
import Derived.RangeFuncSeq
import Derived.KernelRfl
import Derived.RangeFuncLeaves
import Derived.Test.YtdeebigmpffnbaaGreatChecked
import Derived.Deep.AppendSrc
import Derived.Laws.MakeOwn
import Derived.Laws.BytesArg
import Derived.Laws.BytesString
import Derived.Laws.IdiomStrings
import Derived.Maps.RangeRun
import Derived.Shelf.SlIter.Nil
import Derived.Shelf.SlIterI.Nil
import Derived.Shelf.SortM.Plain
import Derived.Shelf.SortM.SortNone
import Derived.Shelf.SlMaps.Clone
import Derived.StringKeys
import Derived.Laws.Pointers
import Derived.Sort.Walk0
import Derived.Lib.SliceRun
import Derived.Test.YtdeebigmpffnbaaGreatRows
import Derived.ProofKit
import Derived.Laws.StructEq
import Derived.ChangeKeysEq
import Derived.WideKeyRuns
import Derived.Test.YtdeebigmpffnbaaGreatPfi1
import Derived.Test.YtdeebigmpffnbaaGreatPfi2
import Derived.Test.YtdeebigmpffnbaaGreatPfi3
import Derived.Test.YtdeebigmpffnbaaGreatPfi4
import Derived.Test.YtdeebigmpffnbaaGreatPfi5
set_option linter.unusedVariables false
set_option linter.unusedSimpArgs false
set_option maxRecDepth 100000
set_option maxHeartbeats 4000000
open List(all_cons all_eq_true append_assoc append_nil append_of_mem cons_append drop_drop drop_eq_getElem_cons drop_eq_nil_of_le drop_length drop_take drop_zero eq_nil_of_length_eq_zero ext_getElem? filter_append filter_cons filter_eq_self flatMap_cons flatMap_def flatten_cons foldl_append foldl_cons getD_eq_getElem?_getD getElem_mem length_append length_cons length_drop length_filter_le length_map length_nil length_replicate length_set length_singleton length_take map_append map_congr_left map_cons map_drop map_map map_nil map_take mem_append mem_append_left mem_append_right mem_cons mem_cons_of_mem mem_cons_self mem_filter mem_map mem_of_getElem? mem_of_mem_take mem_or_eq_of_mem_set mem_range mem_singleton nil_append nodup_append nodup_cons nodup_iff_pairwise_ne pairwise_append pairwise_cons pairwise_map perm_append_comm set_append set_cons_succ set_cons_zero size_toArray sum_cons sum_nil take_append_drop take_append_of_le_length take_length take_nil take_of_length_le take_succ_eq_append_getElem take_take take_zero)
namespace Go.Proofs.YtdeebigmpffnbaaGreat
open Go Go.Vc Go.Vault Go.Redo
theorem FitC.core{d e:Dk}(c:Core d e){N:Nat}(h:d.Fit N):e.Fit N:=⟨by rw[c.files];exact h.files,by rw[c.files];exact h.now,by rw[c.firm,c.chs];exact h.names,by rw[c.chs];exact h.chs⟩
theorem FitC.put{d:Dk}{N:Nat}(h:d.Fit N)(k:Nat){f:Fl}(hf:f.now.length<=N):(d.put k f).Fit N:=
 ⟨by rw[DD];exact h.files,fun g hg=>(mem_or_eq_of_mem_set hg).elim (h.now g) (fun e=>e▸hf),h.names,h.chs⟩
theorem FitC.write{d:Dk}{N:Nat}(h:d.Fit N)(n:ByteArray){i:Nat}(hi:i<N)(b:List UInt8):(d.write n (i:Int) b).1.Fit N:=by
 rcases Ej d n (i:Int) b with⟨c,_⟩|⟨k,_,_,hle,_,c⟩
 ·exact FitC.core c h
 ·refine FitC.core c (FitC.put h k ?_)
  rw[Int.toNat_natCast]
  have hl:i<=(d.file k).now.length:=by unfold Dk.len at hle;omega
  rw[Ht _ _ hl]
  have:=Fit.file h k
  omega
theorem FitC.sync{d:Dk}{N:Nat}(h:d.Fit N)(n:ByteArray):(d.sync n).1.Fit N:=by
 rcases GY d n with⟨c,_⟩|⟨k,_,_,c⟩
 ·exact FitC.core c h
 ·exact FitC.core c (FitC.put h k (Fit.file h k))
theorem FitC.thn{r:Dk×Int}{f:Dk->Dk×Int}{N:Nat}(h:r.1.Fit N)(hf:∀d:Dk,d.Fit N->(f d).1.Fit N):(Redo.thn r f).1.Fit N:=by
 rw[Redo.thn]
 split
 ·exact hf _ h
 ·exact h
theorem FitC.dput(name:ByteArray)(b:List UInt8){N:Nat}(hN:b.length/512+3<=N):∀(m k:Nat){d:Dk},d.Fit N->(Redo.dput name b m k d).1.Fit N
 |0,k,d,h=>h
 |m+1,k,d,h=>by
  rw[Redo.dput]
  split
  ·exact h
  ·exact FitC.thn (FitC.write h name (by omega) _) fun d hd=>FitC.dput name b hN m (k+1) hd
theorem FitC.sealD{d:Dk}{N:Nat}(h:d.Fit N)(hN:2<=N)(name:ByteArray)(m f:Nat):(dseal d name m f).1.Fit N:=
 FitC.thn (FitC.thn (FitC.sync h name) fun d hd=>FitC.write hd name (by have:=Nat.mod_lt m (by omega:0<2);omega) _) fun d hd=>FitC.sync hd name
theorem FitC.flush{d:Dk}{l:Lg}{N:Nat}(h:d.Fit N)(hN:l.b.length/512+3<=N):(Aj d l).1.Fit N:=by
 have h1:(Redo.thn (dwrite d l.name l.b l.firm) fun d=>dseal d l.name (l.mark+1) l.b.length).1.Fit N:=FitC.thn (FitC.dput l.name l.b hN _ _ h) fun d hd=>FitC.sealD hd (by omega) _ _ _
 unfold Aj
 split
 ·dsimp only
  split
  ·exact h1
  ·exact h1
 ·exact h
theorem FitC.lay{r:Dk×Int}{N:Nat}(h:r.1.Fit N){i:Nat}(hi:i<N)(b:List UInt8):(layD r i b).1.Fit N:=by
 unfold layD
 split
 ·exact FitC.write h _ hi _
 ·exact h
theorem FitC.gap{N:Nat}:∀(m i:Nat){r:Dk×Int},r.1.Fit N->(m=0\/i+m<=N)->(gapD m i r).1.Fit N
 |0,i,r,h,_=>h
 |m+1,i,r,h,hm=>FitC.gap m (i+1) (FitC.lay h (by omega) []) (by omega)
theorem FitC.row(bs:List UInt8)(base:Nat){N:Nat}:∀(m k:Nat){r:Dk×Int},r.1.Fit N->base+k+m<=N->(rowD bs base m k r).1.Fit N
 |0,k,r,h,_=>h
 |m+1,k,r,h,hm=>FitC.row bs base m (k+1) (FitC.lay h (by omega) (Ba bs k)) (by omega)
theorem FitC.page{d:Dk}{N:Nat}(h:d.Fit N)(e0:Int){n:Nat}(hn:n*8+8<=N)(bs:List UInt8):(D8 d e0 n bs).1.Fit N:=
 FitC.row bs (n*8) 8 0 (FitC.gap _ _ (r:=(d,e0)) h (by omega)) (by omega)
theorem WP{d:Dk}{r:Dk×Int}(h:Nms d r.1)(i:Nat)(b:List UInt8):Nms d (layD r i b).1:=by
 unfold layD
 split
 ·exact h.trans (Ez _ _ _ _)
 ·exact h
theorem V4{d:Dk}:∀(m i:Nat){r:Dk×Int},Nms d r.1->Nms d (gapD m i r).1
 |0,i,r,h=>h
 |m+1,i,r,h=>V4 m (i+1) (WP h i [])
theorem XG{d:Dk}(bs:List UInt8)(base:Nat):∀(m k:Nat){r:Dk×Int},Nms d r.1->Nms d (rowD bs base m k r).1
 |0,k,r,h=>h
 |m+1,k,r,h=>XG bs base m (k+1) (WP h (base+k) (Ba bs k))
theorem writeD_nms(d:Dk)(e0:Int)(n:Nat)(bs:List UInt8):Nms d (D8 d e0 n bs).1:=XG bs (n*8) 8 0 (V4 _ _ (r:=(d,e0)) (.refl d))
theorem RU(s:St)(n:Nat):Nms s.d (BQ s n).1:=by
 rw[BQ]
 split
 ·exact .refl _
 ·exact Fa _ _
theorem Nms.sized{d e:Dk}(h:Nms d e){n:ByteArray}(hs:0<=d.size n):0<=e.size n:=by
 obtain⟨k,hk⟩:=Ed.1 hs
 exact Ed.2 ⟨k,by rw[h.find];exact hk⟩
structure WJ(N X:Nat)(s:St):Prop where
 fit:s.d.Fit N
 b:s.lg.b.length<=4000000
 firm:s.lg.firm<=4000000
 mark:s.lg.mark<=X
 sz:0<=s.d.size AX
theorem WJ.mono{N X N' X':Nat}{s:St}(h:WJ N X s)(hN:N<=N')(hX:X<=X'):WJ N' X' s:=⟨h.fit.mono hN,h.b,h.firm,Nat.le_trans h.mark hX,h.sz⟩
theorem WJ.lgB{N X:Nat}{s:St}(h:WJ N X s)(hX:X<=100000000):LgB s.lg:=⟨by have:=h.b;omega,by have:=h.firm;omega,by have:=h.mark;omega⟩
theorem KU(d:Dk)(l:Lg):(Aj d l).2.1.b=l.b/\(Aj d l).2.1.all=l.all/\(Aj d l).2.1.name=l.name/\((Aj d l).2.1.firm=l.firm\/(Aj d l).2.1.firm=l.b.length)/\(Aj d l).2.1.mark<=l.mark+1:=by
 unfold Aj
 split
 ·dsimp only
  split
  ·exact⟨rfl,rfl,rfl,.inr rfl,Nat.le_refl _⟩
  ·exact⟨rfl,rfl,rfl,.inl rfl,Nat.le_succ _⟩
 ·exact⟨rfl,rfl,rfl,.inl rfl,Nat.le_succ _⟩
theorem WJ.flush{N X:Nat}{s:St}(h:WJ N X s)(hN:10000<=N):WJ N (X+1) { s with d:=(Aj s.d s.lg).1,lg:=(Aj s.d s.lg).2.1 }:=by
 obtain⟨h1,h2,h3,h4,h5⟩:=KU s.d s.lg
 have hb:=h.b
 have hf:=h.firm
 have hm:=h.mark
 refine⟨FitC.flush h.fit (by omega),?_,?_,?_,(Fa _ _).sized h.sz⟩
 ·show(Aj s.d s.lg).2.1.b.length<=_
  rw[h1];exact hb
 ·show(Aj s.d s.lg).2.1.firm<=_
  rcases h4 with e|e<;>rw[e]<;>omega
 ·show(Aj s.d s.lg).2.1.mark<=_
  omega
theorem WJ.ahead{N X:Nat}{s:St}(h:WJ N X s)(hN:10000<=N)(n:Nat):WJ N (X+1) (DI s n):=by
 unfold DI BQ
 split
 ·exact h.mono (Nat.le_refl _) (Nat.le_succ _)
 ·exact h.flush hN
theorem WJ.wrote{N X:Nat}{s:St}(h:WJ N X s)(hN:10000<=N){f:Fr}(hn:f.n<=30)(bs:List UInt8):WJ N (X+1) (s.wrote f bs):=by
 have ha:=h.ahead hN f.pg.2
 exact⟨FitC.page ha.fit _ (by omega) bs,ha.b,ha.firm,ha.mark,(writeD_nms _ _ _ _).sized ha.sz⟩
theorem WJ.frames{N X:Nat}{s:St}(h:WJ N X s)(fs:List Fr)(hd pg:Nat):WJ N X { s with fs:=fs,hand:=hd,pages:=pg }:=⟨h.fit,h.b,h.firm,h.mark,h.sz⟩
def Low(s:St):Prop:=∀f∈s.fs,f.dirty=true->f.n<=30
theorem Be.at'{fs gs:List Fr}(h:Be fs gs){g:Fr}(hg:g∈gs):∃f∈fs,YV f g:=by
 have hl:=h.len
 obtain⟨k,hk,rfl⟩:=List.getElem_of_mem hg
 exact⟨_,getElem_mem (by omega),h.at_ k _ _ (List.getElem?_eq_getElem (by omega)) (List.getElem?_eq_getElem hk)⟩
theorem Be.low{s:St}{gs:List Fr}(h:Be s.fs gs)(hl:Low s):∀g∈gs,g.dirty=true->g.n<=30:=fun g hg hd=>by
 obtain⟨f,hf,h1,_,_,h4⟩:=h.at' hg
 rw[h1];exact hl f hf (by rw[<- h4];exact hd)
theorem Be.Yt{s:St}{gs:List Fr}(h:Be s.fs gs)(hi:Idle s 5000){hd:Nat}(hh:hd<gs.length):Idle { s with fs:=gs,hand:=hd } 5000:=by
 refine⟨fun g hg=> ?_,by show gs.length<=s.many;rw[h.len];exact hi.len,hi.many,?_,.inr hh,h.nd hi.nd⟩
 ·obtain⟨f,hf,h1,h2,h3,h4⟩:=h.at' hg
  have:=hi.fr f hf
  exact⟨by rw[h3];exact this.1,by rw[h1];exact this.2.1,fun h=>by omega⟩
 ·have:=hi.len
  have:=hi.many.2
  have:=h.len
  show hd<64
  omega
theorem Idle.set{s:St}(h:Idle s 5000){k:Nat}(hk:k<s.fs.length){F:Fr}(hF:F.pins=0/\F.n<4096)(hn:∀(j:Nat)(f:Fr),j≠k->s.fs[j]? =some f->f.n≠F.n)(pg:Nat):Idle { s with fs:=s.fs.set k F,pages:=pg } 5000:=by
 refine⟨fun f hf=> ?_,by show(s.fs.set k F).length<=s.many;rw[length_set];exact h.len,h.many,h.hand,by show s.hand=0\/s.hand<(s.fs.set k F).length;rw[length_set];exact h.turn,fun i j f g hij hf hg=> ?_⟩
 ·rcases mem_or_eq_of_mem_set hf with h1|rfl
  ·have:=h.fr f h1
   exact⟨this.1,this.2.1,fun h=>by omega⟩
  ·exact⟨hF.1,hF.2,fun h=>by omega⟩
 ·have hoff:∀(i:Nat)(f:Fr),i≠k->(s.fs.set k F)[i]? =some f->s.fs[i]? =some f:=fun i f hi hf=>by rw[List.getElem?_set_ne (fun h=>hi h.symm)]at hf;exact hf
  have hf:(s.fs.set k F)[i]? =some f:=hf
  have hg:(s.fs.set k F)[j]? =some g:=hg
  by_cases hi:i=k
  ·subst hi
   have h2:=hn j g (fun e=>hij e.symm) (hoff j g (fun e=>hij e.symm) hg)
   rw[List.getElem?_set_self hk]at hf
   rw[<- Option.some.inj hf]
   exact fun e=>h2 e.symm
  ·by_cases hj:j=k
   ·subst hj
    rw[List.getElem?_set_self hk]at hg
    rw[<- Option.some.inj hg]
    exact hn i f hi (hoff i f hi hf)
   ·exact h.nd i j f g hij (hoff i f hi hf) (hoff j g hj hg)
theorem Iu{s:St}{n:Nat}(h:Idle s n)(f:Fr)(bs:List UInt8):Idle (s.wrote f bs) n:=⟨h.fr,h.len,h.many,h.hand,h.turn,h.nd⟩
structure Kept(N X:Nat)(s s1:St):Prop where
 wj:WJ N (X+1) s1
 idle:Idle s1 5000
 low:Low s1
 pages:s1.pages<=4096
theorem Xn{s:St}{n:Nat}(h:ED s.fs (n:Int)=none):∀f∈s.fs,f.n≠n:=fun f hf e=>Y6 h f hf (by omega)
theorem Ha.kept{N X:Nat}{s s1:St}{n:Nat}{P:AP}(h:Ha s s1 n P)(hw:WJ N X s)(hN:10000<=N)(hi:Idle s 5000)(hl:Low s)(hp:s.pages<=4096)(hn:n<=30):Kept N X s s1:=by
 rcases h with⟨j,f,h1,h2,h3,h4,rfl⟩|⟨s0,k,h1,hfree,hk,rfl⟩
 ·have hj:=(List.getElem?_eq_some_iff.1 h2).1
  refine⟨(hw.mono (Nat.le_refl _) (Nat.le_succ _)).frames _ s.hand s.pages,hi.set hj (F:= { f with pg:=P,dirty:=true,used:=true }) ⟨h4,by show f.n<4096;omega⟩ (fun i g hij hg=>hi.nd i j g f hij hg h2) s.pages,fun g hg hd=> ?_,hp⟩
  rcases mem_or_eq_of_mem_set hg with h5|rfl
  ·exact hl g h5 hd
  ·show f.n<=30;omega
 ·have hno:=Xn h1
  have key:∀(s0:St),WJ N (X+1) s0->Idle s0 5000->Low s0->s0.pages<=4096->k<s0.fs.length->(∀(j:Nat)(f:Fr),j≠k->s0.fs[j]? =some f->f.n≠n)->Kept N X s { s0 with fs:=s0.fs.set k ⟨n,P,0,true,true⟩,pages:=max s0.pages (n+1) }:=fun s0 g1 g2 g3 g4 g5 g6=>
   ⟨g1.frames _ s0.hand _,g2.set g5 (F:=⟨n,P,0,true,true⟩) ⟨rfl,by show n<4096;omega⟩ g6 _,fun g hg hd=>by
    rcases mem_or_eq_of_mem_set hg with h5|rfl
    ·exact g3 g h5 hd
    ·exact hn,by show max s0.pages (n+1)<=4096;omega⟩
  have sameNo:∀{gs:List Fr},Be s.fs gs->∀(j:Nat)(f:Fr),j≠k->gs[j]? =some f->f.n≠n:=fun hs j f _ hf=>by
   obtain⟨g,hg,e,_⟩:=hs.at' (mem_of_getElem? hf)
   rw[e];exact hno g hg
  rcases hfree with⟨hlt,hkl,F,rfl⟩|⟨hnl,fs1,h1,f,hsame,hh1,hf,hpin,⟨hd,rfl⟩|⟨hd,g,hR,hw0,rfl⟩⟩
  ·--a frame more:it is filled at once
   have e:({ ({ s with fs:=s.fs++ [F] }:St)with fs:=(s.fs++ [F]).set k ⟨n,P,0,true,true⟩,pages:=max s.pages (n+1) }:St)= { ({ s with fs:=s.fs++ [(⟨n,P,0,true,true⟩:Fr)] }:St)with fs:=(s.fs++ [(⟨n,P,0,true,true⟩:Fr)]).set k ⟨n,P,0,true,true⟩,pages:=max s.pages (n+1) }:=by
    subst hkl
    simp
   show Kept N X s ({ ({ s with fs:=s.fs++ [F] }:St)with fs:=(s.fs++ [F]).set k ⟨n,P,0,true,true⟩,pages:=max s.pages (n+1) }:St)
   rw[e]
   refine key { s with fs:=s.fs++ [(⟨n,P,0,true,true⟩:Fr)] } ((hw.mono (Nat.le_refl _) (Nat.le_succ _)).frames _ s.hand s.pages) ⟨fun g hg=> ?_,?_,hi.many,hi.hand,?_,fun i j g1 g2 hij e1 e2=> ?_⟩ (fun g hg hd=> ?_) hp (by show k<(s.fs++_).length;rw[length_append,hkl];simp) (fun j g hj hg=> ?_)
   ·rcases mem_append.1 hg with h5|h5
    ·exact⟨(hi.fr g h5).1,(hi.fr g h5).2.1,fun h=>by omega⟩
    ·rw[mem_singleton.1 h5];exact⟨rfl,by show n<4096;omega,fun h=>by omega⟩
   ·show(s.fs++_).length<=s.many
    rw[length_append];simp only[length_singleton];omega
   ·show s.hand=0\/s.hand<(s.fs++_).length
    have:=hi.turn
    rw[length_append];simp only[length_singleton];omega
   ·have e1:(s.fs++ [(⟨n,P,0,true,true⟩:Fr)])[i]? =some g1:=e1
    have e2:(s.fs++ [(⟨n,P,0,true,true⟩:Fr)])[j]? =some g2:=e2
    have l1:=(List.getElem?_eq_some_iff.1 e1).1
    have l2:=(List.getElem?_eq_some_iff.1 e2).1
    rw[length_append]at l1 l2
    simp only[length_singleton]at l1 l2
    by_cases hi2:i<s.fs.length
    ·rw[List.getElem?_append_left hi2]at e1
     by_cases hj2:j<s.fs.length
     ·rw[List.getElem?_append_left hj2]at e2
      exact hi.nd i j g1 g2 hij e1 e2
     ·have hj3:j=s.fs.length:=by omega
      rw[List.getElem?_append_right (by omega),hj3,Nat.sub_self]at e2
      have e3:g2=⟨n,P,0,true,true⟩:=(Option.some.inj e2).symm
      rw[e3]
      exact hno g1 (mem_of_getElem? e1)
    ·have hi3:i=s.fs.length:=by omega
     rw[List.getElem?_append_right (by omega),hi3,Nat.sub_self]at e1
     have e3:g1=⟨n,P,0,true,true⟩:=(Option.some.inj e1).symm
     rw[List.getElem?_append_left (by omega)]at e2
     rw[e3]
     exact fun e=>hno g2 (mem_of_getElem? e2) e.symm
   ·rcases mem_append.1 hg with h5|h5
    ·exact hl g h5 hd
    ·rw[mem_singleton.1 h5];exact hn
   ·have hg:(s.fs++ [(⟨n,P,0,true,true⟩:Fr)])[j]? =some g:=hg
    have l1:=(List.getElem?_eq_some_iff.1 hg).1
    rw[length_append]at l1
    simp only[length_singleton]at l1
    rw[List.getElem?_append_left (by omega)]at hg
    exact hno g (mem_of_getElem? hg)
  ·exact key { s with fs:=fs1,hand:=h1 } ((hw.mono (Nat.le_refl _) (Nat.le_succ _)).frames _ _ s.pages) (hsame.Yt hi hh1) (hsame.low hl) hp hk (sameNo hsame)
  ·have hlow:=hsame.low hl f (mem_of_getElem? hf) hd
   have hw1:WJ N (X+1) (St.wrote { s with fs:=fs1,hand:=h1 } f g.bs):=(hw.frames fs1 h1 s.pages).wrote hN hlow g.bs
   exact key (St.wrote { s with fs:=fs1,hand:=h1 } f g.bs) hw1 (Iu (hsame.Yt hi hh1) f g.bs) (hsame.low hl) hp hk (sameNo hsame)
theorem GI.kept{N X:Nat}{s s1:St}{n:Nat}{c:Int}(h:GI s s1 n c)(hw:WJ N X s)(hN:10000<=N)(hi:Idle s 5000)(hl:Low s)(hp:s.pages<=4096):Kept N X s s1:=by
 have hwS:=hw.mono (Nat.le_refl N) (Nat.le_succ X)
 rcases h with⟨_,rfl,_⟩|⟨_,_,hnl,fs1,h1,hsame,hh1,⟨_,_,rfl⟩|⟨k,f,g,hf,_,hd,hR,_,rfl⟩⟩
 ·exact⟨hwS,hi,hl,hp⟩
 ·exact⟨hwS.frames _ _ s.pages,hsame.Yt hi hh1,hsame.low hl,hp⟩
 ·have hlow:=hsame.low hl f (mem_of_getElem? hf) hd
  exact⟨(hw.frames fs1 h1 s.pages).wrote hN hlow g.bs,Iu (hsame.Yt hi hh1) f g.bs,hsame.low hl,hp⟩
theorem nums_low{s:St}(hl:Low s):∀z∈Eb (nums Eh s.fs),z<=30:=fun z hz=>by
 obtain⟨f,hf,e⟩:=mem_map.1 (Dy.1 hz)
 obtain⟨h1,h2⟩:=mem_filter.1 hf
 have:=hl f h1 h2
 omega
theorem EJ.kept{N:Nat}{L:List Int}{s s1:St}{c:Int}(h:EJ L s s1 c)(hN:10000<=N):∀{X:Nat},WJ N X s->Idle s 5000->Low s->s.pages<=4096->(∀z∈L,z<=30)->WJ N (X+L.length) s1/\Idle s1 5000/\Low s1/\s1.pages<=4096:=by
 induction h with
 |nil s=>exact fun h1 h2 h3 h4 _=>⟨h1,h2,h3,h4⟩
 |ok z l s s' c j f g hfd hf hfn hR hE hfl ih=>
  intro X h1 h2 h3 h4 h5
  have hz:=h5 z (.head _)
  have hj:=(List.getElem?_eq_some_iff.1 hf).1
  have hfr:=h2.fr f (mem_of_getElem? hf)
  have hi:=(Iu h2 f g.bs).set (k:=j) hj (F:= { f with dirty:=false }) ⟨hfr.1,hfr.2.1⟩ (fun i g hij hg=>h2.nd i j g f hij hg hf) s.pages
  have hlo:Low { s.wrote f g.bs with fs:=s.fs.set j { f with dirty:=false } }:=fun q hq hd=>by
   rcases mem_or_eq_of_mem_set hq with h6|rfl
   ·exact h3 q h6 hd
   ·cases hd
  have:=ih ((h1.wrote hN (f:=f) (by omega) g.bs).frames _ _ _) hi hlo h4 (fun y hy=>h5 y (.tail _ hy))
  refine⟨this.1.mono (Nat.le_refl _) (by rw[length_cons];omega),this.2⟩
 |bad z l s j f g hfd hf hfn hR hE=>
  intro X h1 h2 h3 h4 h5
  have hz:=h5 z (.head _)
  exact⟨(h1.wrote hN (f:=f) (by omega) g.bs).mono (Nat.le_refl _) (by rw[length_cons];omega),Iu h2 f g.bs,h3,h4⟩
theorem Fg.kept{N X:Nat}{s s1:St}{c:Int}(h:Fg s s1 c)(hN:10000<=N)(h1:WJ N X s)(h2:Idle s 5000)(h3:Low s)(h4:s.pages<=4096):WJ N (X+64) s1/\Idle s1 5000/\Low s1/\s1.pages<=4096:=by
 rcases h with⟨_,_,rfl⟩|⟨_,s2,c2,hW,hc⟩
 ·exact⟨h1.mono (Nat.le_refl _) (by omega),h2,h3,h4⟩
 ·have hL:(Eb (nums Eh s.fs)).length<=64:=by
   rw[E5,nums,length_map]
   have:=length_filter_le Eh s.fs
   have:=h2.len
   have:=h2.many.2
   omega
  obtain⟨k1,k2,k3,k4⟩:=hW.kept hN h1 h2 h3 h4 (nums_low h3)
  have k1:=k1.mono (Nat.le_refl N) (Nat.add_le_add_left hL X)
  rcases hc with⟨_,_,rfl⟩|⟨_,_,rfl⟩
  ·exact⟨k1,k2,k3,k4⟩
  ·exact⟨⟨FitC.sync k1.fit _,k1.b,k1.firm,k1.mark,(Jp _ _).sized k1.sz⟩,⟨k2.fr,k2.len,k2.many,k2.hand,k2.turn,k2.nd⟩,k3,k4⟩
theorem Rest.okB{y:GW}{x:DW}{s:St}{p:JP}{Ps:List AP}{n:Nat}(h:Rest y x s p Ps n)(hl:LgB s.lg)(tt:Nat)(wt:Int):StOk (yj y x p tt wt) x s:=
 ⟨h.fs,rfl,h.dk,by have:=h.idle.len;have:=h.idle.many.2;omega,fun f hf=>(h.idle.fr f hf).2.1,fun f hf=>by have:=(h.idle.fr f hf).1;omega,.inr hl,h.idle.hand,h.pages,h.idle.many.2⟩
theorem Kept.rest{N X:Nat}{y:GW}{x:DW}{s s1:St}{p:JP}{Ps:List AP}(h:Kept N X s s1)(hf:y.fs.length=s1.fs.length)(hx:x.Ok s1.d)(hb:p.bs.length=Ps.length)(hl:Ps.length<=4096):Rest y x s1 p Ps 5000:=⟨hf,hx,h.idle,h.pages,KR h.wj.sz _,hb,hl⟩
def pgsR(p:JP)(tt:Nat)(Ps:List AP)(T:Tou)(k:Nat):List Asn:=.own 99 1 p.pa p.bs.length p.pc (EC p.bs)::(List.zipWith BG (p.bs.eraseIdx k) (Ps.eraseIdx k)++ [touA tt T])
theorem XX{p:JP}{tt:Nat}{Ps:List AP}{T:Tou}{k b:Nat}{P:AP}(hb:p.bs[k]? =some b)(hP:Ps[k]? =some P):(pgsL p tt Ps T).Perm (BG b P::pgsR p tt Ps T k):=by
 have h:=RQ hb hP
 rw[pgsL,pgsR]
 refine AL fun ff gg h0 hc ha hpm=> ?_
 have h9:=hpm _ _ h
 simp only[ha,hc,h0]at h9⊢
 omega
theorem jset_spec(y:GW)(x:DW)(s:St)(p:JP)(tt:Nat)(wt:Int)(Ps:List AP)(T:Tou)(hr:Rest y x s p Ps 5000)(hlo:Low s){N X:Nat}(hw:WJ N X s)(hN:10000<=N/\N<=400000)(hX:X<=100000000)(n:Nat)(hn:n<=30){b:Nat}(hb:p.bs[n]? =some b)(w:World)(st:Std w (Ac y x s p tt wt Ps T)):
  Calls Tryz.prog 50 #[.pointer (some ⟨y.pb,0,none⟩),.int .i64 (n:Int),.pointer (some ⟨b,0,none⟩)] w fun e w'=>∃(c:Int)(y':GW)(x':DW)(s':St),e=.returned (.int .i64 c)/\((c=0/\Ha s s' n (CJ Ps n))\/(c≠0/\GI s s' n c))/\
   EY y y' x x'/\Rest y' x' s' p Ps 5000/\Kept N X s s'/\Hp (feet (Ac y x s p tt wt Ps T)) w w' (Ac y' x' s' p tt wt Ps T):=by
 have H:=Hp.Ap st
 generalize hB:feet (Ac y x s p tt wt Ps T)=B at H⊢
 have hlt:n<Ps.length:=by rw[<- hr.bs];exact(List.getElem?_eq_some_iff.1 hb).1
 obtain⟨P,hP⟩:∃P,Ps[n]? =some P:=⟨_,List.getElem?_eq_getElem hlt⟩
 have hPP:CJ Ps (n:Int)=P:=by rw[CJ,Int.toNat_natCast,hP];rfl
 rw[hPP]
 have H1:Hp B w w (BG b P::(stL (yj y x p tt wt) x s++pgsR p tt Ps T n)):=(H.perm (GX ..)).perm (by
  have h:=XX (tt:=tt) (T:=T) hb hP
  refine AL fun ff gg h0 hc ha hpm=> ?_
  have h9:=hpm _ _ h
  simp only[ha,hc,h0]at h9⊢
  omega)
 obtain⟨g,hR,H2⟩:=Hp.CX H1
 have H3:Hp B w w ((stL (yj y x p tt wt) x s++ [Sl.pgA b g])++pgsR p tt Ps T n):=H2.perm (by(refine AL fun ff gg h0 hc ha hpm=> ?_;simp only[ha,hc,h0];omega))
 clear H H1 H2
 refine Calls.mono (setG_spec (yj y x p tt wt) x s (hr.okB (hw.lgB hX) tt wt) (hw.fit.mono hN.2) (Nat.le_refl _) (fun k=>(RU s k).sized hw.sz) hr.idle.len hr.idle.hh n (by omega) b g P hR w H3.std1) ?_
 rintro e w1 ⟨y1,x1,s1,c,hseat,hx1,hl1,H',rfl,hcase⟩
 obtain⟨hs2,hyj⟩:=VM hseat
 have H4:=H3.useL H'
 clear H3 H'
 have H5:Hp B w w1 (Sl.pgA b g::(stL y1 x1 s1++pgsR p tt Ps T n)):=H4.perm (by(refine AL fun ff gg h0 hc ha hpm=> ?_;simp only[ha,hc,h0];omega))
 have H6:=Hp.NG (P:=P) hR H5
 have hpm:=GX y1 x1 s1 p tt wt Ps T
 rw[hyj]at hpm
 have H7:Hp B w w1 (Ac y1 x1 s1 p tt wt Ps T):=H6.perm ((by
  have h:=XX (tt:=tt) (T:=T) hb hP
  refine AL fun ff gg h0 hc ha hpm=> ?_
  have h9:=hpm _ _ h
  simp only[ha,hc,h0]at h9⊢
  omega:(BG b P::(stL y1 x1 s1++pgsR p tt Ps T n)).Perm (stL y1 x1 s1++pgsL p tt Ps T)).trans hpm.symm)
 have hK:Kept N X s s1:=by
  rcases hcase with⟨_,hok⟩|hbad
  ·exact hok.kept hw hN.1 hr.idle hlo hr.pages hn
  ·exact hbad.kept hw hN.1 hr.idle hlo hr.pages
 refine⟨c,y1,x1,s1,rfl,?_,hs2,hK.rest hl1 hx1 hr.bs hr.few,hK,H7⟩
 rcases hcase with h|h
 ·exact .inl h
 ·refine .inr ⟨?_,h⟩
  rcases h with⟨rfl,_⟩|⟨h,_⟩
  ·decide
  ·exact h
theorem safeJ{N X:Nat}(hN:10000<=N/\N<=400000)(hX:X+64<=100000000):Safe (fun c s=>c<=64/\WJ N (X+c) s) (fun n=>n<=30):=
 ⟨fun c s h=>h.2.fit.mono hN.2,fun c s h=>h.2.lgB (by have:=h.1;omega),fun c s h n=>(RU s n).sized h.2.sz,fun c s f g h hc hD _ _=>⟨by omega,h.2.wrote hN.1 hD g.bs⟩,fun c s fs hd pg h=>⟨h.1,h.2.frames fs hd pg⟩⟩
theorem jflush_spec(y:GW)(x:DW)(s:St)(p:JP)(tt:Nat)(wt:Int)(Ps:List AP)(T:Tou)(hr:Rest y x s p Ps 5000)(hlo:Low s){N X:Nat}(hw:WJ N X s)(hN:10000<=N/\N<=400000)(hX:X+64<=100000000)(w:World)(st:Std w (Ac y x s p tt wt Ps T)):
  Calls Tryz.prog 51 #[.pointer (some ⟨y.pb,0,none⟩)] w fun e w'=>∃(c:Int)(y':GW)(x':DW)(s':St),e=.returned (.int .i64 c)/\Fg s s' c/\
   EY y y' x x'/\Rest y' x' s' p Ps 5000/\WJ N (X+64) s'/\Low s'/\Hp (feet (Ac y x s p tt wt Ps T)) w w' (Ac y' x' s' p tt wt Ps T):=by
 have H:=Hp.Ap st
 generalize hB:feet (Ac y x s p tt wt Ps T)=B at H⊢
 have H1:=H.perm (GX ..)
 refine Calls.mono (flushG_spec (safeJ hN hX) (yj y x p tt wt) x s (hr.okB (hw.lgB (by omega)) tt wt) ⟨Nat.zero_le _,hw⟩ hlo w H1.std1) ?_
 rintro e w1 ⟨y1,x1,s1,c,hseat,hx1,hl1,H',rfl,hR⟩
 obtain⟨hs2,hyj⟩:=VM hseat
 have hpm:=GX y1 x1 s1 p tt wt Ps T
 rw[hyj]at hpm
 have H2:Hp B w w1 (Ac y1 x1 s1 p tt wt Ps T):=(H1.useL H').perm hpm.symm
 obtain⟨k1,k2,k3,k4⟩:=hR.kept hN.1 hw hr.idle hlo hr.pages
 exact⟨c,y1,x1,s1,rfl,hR,hs2,⟨hl1,hx1,k2,k4,KR k1.sz _,hr.bs,hr.few⟩,k1,k3,H2⟩
def jnoL(y:GW)(x:DW)(s:St)(p:JP)(tt:Nat)(wt:Int)(Ps:List AP)(T:Tou):List Asn:=
 jpL y.jb (ptrV x.b) (ptrV y.lw.b) (ptrV y.pb) p (some tt) wt Ps++(touA tt T::BN y x s::fsA y s::frsL y.fs s.fs)
theorem Xf(y:GW)(x:DW)(s:St)(p:JP)(tt:Nat)(wt:Int)(Ps:List AP)(T:Tou):(Ac y x s p tt wt Ps T).Perm (lgL y.lw x s.d s.lg++jnoL y x s p tt wt Ps T):=by
 rw[Ac,DY,jnoL,lgL];(refine AL fun ff gg h0 hc ha hpm=> ?_;simp only[ha,hc,h0];omega)
theorem jnoL_eq{y:GW}{x x':DW}{lw:LW}(hx:x'.b=x.b)(hl:lw.b=y.lw.b)(s:St)(d:Dk)(lg:Lg)(p:JP)(tt:Nat)(wt:Int)(Ps:List AP)(T:Tou):jnoL { y with lw:=lw } x' { s with d:=d,lg:=lg } p tt wt Ps T=jnoL y x s p tt wt Ps T:=by
 have e1:BN { y with lw:=lw } x' { s with d:=d,lg:=lg }=BN y x s:=by simp only[BN,BK,hx]
 have e2:fsA { y with lw:=lw } { s with d:=d,lg:=lg }=fsA y s:=rfl
 have e3:jpL ({ y with lw:=lw }:GW).jb (ptrV x'.b) (ptrV ({ y with lw:=lw }:GW).lw.b) (ptrV ({ y with lw:=lw }:GW).pb) p (some tt) wt Ps=jpL y.jb (ptrV x.b) (ptrV y.lw.b) (ptrV y.pb) p (some tt) wt Ps:=by
  show jpL y.jb (ptrV x'.b) (ptrV lw.b) (ptrV y.pb) p (some tt) wt Ps=_
  rw[hx,hl]
 rw[jnoL,jnoL,e1,e2,e3]
def FndD(d e:Dk):Prop:=e.find AX=d.find AX
theorem FndD.thn{d:Dk}{r:Dk×Int}{f:Dk->Dk×Int}(h:FndD d r.1)(hf:∀e,FndD e (f e).1):FndD d (Redo.thn r f).1:=by
 rw[Redo.thn]
 split
 ·exact(hf _).trans h
 ·exact h
theorem P8{d e:Dk}(h:Nms d e):FndD d e:=h.find _
theorem create_fnd(d:Dk):FndD d (d.create nNew).1:=by
 rcases Jv d nNew with⟨c,_⟩|c
 ·exact c.find _
 ·refine(c.find _).trans ?_
  show nget (ons d.firm (d.chs++ [_])) AX=_
  rw[ons,foldl_append]
  show nget (with_ _ _) AX=_
  rw[EG,if_neg IZ.symm];rfl
theorem rename_fnd(d:Dk):FndD d (d.rename nNew nLog).1:=by
 rcases PQ d nNew nLog Me with⟨c,_⟩|⟨K,_,c⟩
 ·exact c.find _
 ·refine(c.find _).trans ?_
  show nget (ons d.firm (d.chs++ [_])) AX=_
  rw[ons,foldl_append]
  show nget (with_ (without _ _) _) AX=_
  rw[EG,if_neg OA.symm,GM,if_neg IZ.symm];rfl
theorem Fp(d:Dk):FndD d d.Aa.1:=by
 rcases FV d with⟨c,_⟩|⟨_,c⟩
 ·exact c.find _
 ·refine(c.find _).trans ?_
  show nget (ons d.names []) AX=_
  rfl
theorem RV(d:Dk):FndD d (drenew d nLog []).1:=by
 have h1:FndD d (dfill d nNew []).1:=FndD.thn (FndD.thn (FndD.thn (FndD.thn (create_fnd d) fun e=>P8 (Ez _ _ _ _)) fun e=>P8 (Ez _ _ _ _)) fun e=>P8 (QT _ _ _ _ _)) fun e=>P8 (UU _ _ _ _)
 exact FndD.thn (FndD.thn (r:=dfill d nNew []) h1 fun e=>rename_fnd e) fun e=>Fp e
theorem FndD.sized{d e:Dk}(h:FndD d e)(hs:0<=d.size AX):0<=e.size AX:=by
 obtain⟨k,hk⟩:=Ed.1 hs
 exact Ed.2 ⟨k,by rw[h];exact hk⟩
theorem ML{d:Dk}{l:Lg}:Dq d l []=if l.code=0 then(if(drenew d l.name []).2=0 then((drenew d l.name []).1,l.anew [],0)else((drenew d l.name []).1,{ l with code:=(drenew d l.name []).2 },(drenew d l.name []).2))else(d,l,l.code):=by
 rw[Dq,if_neg (by decide)]
theorem WJ.reset{N X:Nat}{s:St}(h:WJ N X s)(hX:1<=X)(hn:s.lg.name=nLog):WJ (N+12) X { s with d:=(Dq s.d s.lg []).1,lg:=(Dq s.d s.lg []).2.1 }:=by
 have hf:((drenew s.d s.lg.name []).1).Fit (N+12):=(SS h.fit s.lg.name []).mono (by show N+0/512+12<=_;omega)
 have hsz:0<=((drenew s.d s.lg.name []).1).size AX:=by rw[hn];exact(RV s.d).sized h.sz
 rw[ML]
 split
 ·split
  ·exact⟨hf,Nat.zero_le _,Nat.zero_le _,hX,hsz⟩
  ·exact⟨hf,h.b,h.firm,h.mark,hsz⟩
 ·exact h.mono (by omega) (Nat.le_refl _)
inductive Hg(Ps:List AP):List Int->St->St->Int->Prop where
 |nil (s:St):Hg Ps [] s s 0
 |ok (n:Int) (L:List Int) (s s1 s':St) (c:Int):Ha s s1 n.toNat (CJ Ps n)->Hg Ps L s1 s' c->Hg Ps (n::L) s s' c
 |bad (n:Int) (L:List Int) (s s1:St) (c:Int):c≠0->GI s s1 n.toNat c->Hg Ps (n::L) s s1 c
def V7(s:St)(T:Tou)(s':St)(T':Tou)(code:Int):Prop:=
 (s.d.Aa.2≠0/\code=s.d.Aa.2/\s'= { s with d:=s.d.Aa.1 }/\T'=T)\/
 (s.d.Aa.2=0/\code=(Dq s.d.Aa.1 s.lg []).2.2/\s'= { s with d:=(Dq s.d.Aa.1 s.lg []).1,lg:=(Dq s.d.Aa.1 s.lg []).2.1 }/\T'=if(Dq s.d.Aa.1 s.lg []).2.2=0 then T0 else T)
def J4(s:St)(Ps:List AP)(T:Tou)(wt:Int)(s':St)(T':Tou)(wt' code:Int):Prop:=
 wt'=(Aw s.d s.lg wt).2.2.1/\
 (((Aw s.d s.lg wt).2.2.2≠0/\code=(Aw s.d s.lg wt).2.2.2/\s'= { s with d:=(Aw s.d s.lg wt).1,lg:=(Aw s.d s.lg wt).2.1 }/\T'=T)\/
  ((Aw s.d s.lg wt).2.2.2=0/\∃(L:List Int)(s2:St)(c2:Int),L.Pairwise (· < ·)/\(∀n,n∈L↔0<T n)/\Hg Ps L { s with d:=(Aw s.d s.lg wt).1,lg:=(Aw s.d s.lg wt).2.1 } s2 c2/\
   ((c2≠0/\code=c2/\s'=s2/\T'=T)\/
   (c2=0/\∃(s3:St)(c3:Int),Fg s2 s3 c3/\((c3≠0/\code=c3/\s'=s3/\T'=T)\/(c3=0/\V7 s3 T s' T' code))))))
theorem syncP_lg(d:Dk)(l:Lg)(wt:Int):(Aw d l wt).2.1.name=l.name:=by
 unfold Aw
 split
 ·rfl
 ·exact(KU d l).2.2.1
theorem WJ.sync{N X:Nat}{s:St}(h:WJ N X s)(hN:10000<=N)(wt:Int):WJ N (X+1) { s with d:=(Aw s.d s.lg wt).1,lg:=(Aw s.d s.lg wt).2.1 }:=by
 unfold Aw
 split
 ·exact h.mono (Nat.le_refl _) (Nat.le_succ _)
 ·exact h.flush hN
theorem LK(s:St)(f:Fr)(bs:List UInt8):(s.wrote f bs).lg.name=s.lg.name:=by
 show(BQ s f.pg.2).2.1.name=_
 unfold BQ
 split
 ·rfl
 ·exact(KU s.d s.lg).2.2.1
theorem Ha.name{s s1:St}{n:Nat}{P:AP}(h:Ha s s1 n P):s1.lg.name=s.lg.name:=by
 rcases h with⟨j,f,_,_,_,_,rfl⟩|⟨s0,k,_,⟨_,_,F,rfl⟩|⟨_,fs1,h1,f,_,_,_,_,⟨_,rfl⟩|⟨_,g,_,_,rfl⟩⟩,_,rfl⟩
 ·rfl
 ·rfl
 ·rfl
 ·exact LK { s with fs:=fs1,hand:=h1 } f g.bs
theorem EJ.name{L:List Int}{s s1:St}{c:Int}(h:EJ L s s1 c):s1.lg.name=s.lg.name:=by
 induction h with
 |nil s=>rfl
 |ok z l s s' c j f g _ _ _ _ _ _ ih=>exact ih.trans (LK s f g.bs)
 |bad z l s j f g _ _ _ _ _=>exact LK s f g.bs
theorem Fg.name{s s1:St}{c:Int}(h:Fg s s1 c):s1.lg.name=s.lg.name:=by
 rcases h with⟨_,_,rfl⟩|⟨_,s2,c2,hW,⟨_,_,rfl⟩|⟨_,_,rfl⟩⟩
 ·rfl
 ·exact hW.name
 ·exact hW.name
theorem ints_get{w:World}{a:Option Addr}{L:List Int}(h:Cells w a (L.map (.int .i64))){k:Nat}(hk:k<L.length):∃ad,a=some ad/\Ld Tryz.prog 3 w (ad.add (k*1)) (.int .i64 L[k]):=by
 have hat:(L.map (Value.int .i64))[k]? =some (.int .i64 L[k]):=by simp[hk]
 obtain⟨ad,had,_⟩:=h _ _ hat
 exact⟨ad,had,by rw[Nat.mul_one];exact h.ld gInt had hat⟩
theorem ptrsJ_get{w:World}{a:Option Addr}{bs:List Nat}(h:Cells w a (EC bs)){k b:Nat}(hk:bs[k]? =some b):∃ad,a=some ad/\Ld Tryz.prog 99 w (ad.add (k*1)) (.pointer (some ⟨b,0,none⟩)):=by
 have hat:(EC bs)[k]? =some (.pointer (some ⟨b,0,none⟩)):=by simp[EC,hk]
 obtain⟨ad,had,_⟩:=h _ _ hat
 exact⟨ad,had,by rw[Nat.mul_one];exact h.ld gPG had hat⟩
theorem mem_own(y:GW)(x:DW)(s:St)(p:JP)(tt:Nat)(wt:Int)(Ps:List AP)(T:Tou):Asn.own 99 1 p.pa p.bs.length p.pc (EC p.bs)∈Ac y x s p tt wt Ps T:=by
 rw[Ac,jpL]
 exact mem_append_left _ (.tail _ (.head _))
theorem resetA_spec(y:GW)(x:DW)(s:St)(p:JP)(tt:Nat)(wt:Int)(Ps:List AP)(T:Tou)(hx:x.Ok s.d){N X:Nat}(hw:WJ N X s)(hN:N<=400000)(hn:s.lg.name=nLog)(w:World)(st:Std w (Ac y x s p tt wt Ps T)):
  Calls Tryz.prog 53 #[.pointer (some ⟨y.lw.b,0,none⟩),.slice none 0 0] w fun e w'=>e=.returned (.int .i64 (Dq s.d s.lg []).2.2)/\∃(x':DW)(lw:LW),x'.b=x.b/\lw.b=y.lw.b/\x'.Ok (Dq s.d s.lg []).1/\
   Hp (feet (Ac y x s p tt wt Ps T)) w w' (Ac { y with lw:=lw } x' { s with d:=(Dq s.d s.lg []).1,lg:=(Dq s.d s.lg []).2.1 } p tt wt Ps T):=by
 have H:=Hp.Ap st
 generalize hB:feet (Ac y x s p tt wt Ps T)=B at H⊢
 have H1:=H.perm (Xf ..)
 refine Calls.mono (lreset_spec y.lw x s.d s.lg hx hw.fit hN (by rw[hn];decide) none 0 [] (by decide) (by decide) w H1.std1 (fun W _=>by intro j v hj;simp at hj) (fun _=>rfl)) ?_
 rintro e w1 ⟨rfl,x',lw,hxb,hlw,hx',H'⟩
 have H2:=H1.useL H'
 refine⟨rfl,x',lw,hxb,hlw,hx',?_⟩
 refine H2.perm ((?_:List.Perm _ _).trans (Xf { y with lw:=lw } x' { s with d:=(Dq s.d s.lg []).1,lg:=(Dq s.d s.lg []).2.1 } p tt wt Ps T).symm)
 rw[jnoL_eq hxb hlw]
theorem PG(y:GW)(x:DW)(s:St)(p:JP)(tt:Nat)(wt:Int)(Ps:List AP)(T:Tou)(hr:Rest y x s p Ps 5000)(hlo:Low s){N X:Nat}(hw:WJ N X s)(hN:10000<=N/\N<=300000)(hX:1<=X/\X<=10000000)(hnm:s.lg.name=nLog)(hT:∀n,0<T n->0<=n/\n<=30/\n.toNat<Ps.length)(w:World)(st:Std w (Ac y x s p tt wt Ps T)):
  Calls Tryz.prog 23 #[.pointer (some ⟨y.jb,0,none⟩)] w fun e w'=>∃(code:Int)(s':St)(T':Tou)(wt':Int),J4 s Ps T wt s' T' wt' code/\e=.returned (.int .i64 code)/\
   ∃(y':GW)(x':DW),EY y y' x x'/\Rest y' x' s' p Ps 5000/\Low s'/\WJ (N+20) (X+200) s'/\Hp (feet (Ac y x s p tt wt Ps T)) w w' (Ac y' x' s' p tt wt' Ps T'):=by
 apply jcheck.ok;unfold jcheck.vc
 have H:=Hp.Ap st
 refine AC (G9 y x s p tt wt Ps T 5000 hr (hw.lgB (by omega)) hw.fit (by omega) w st) ?_
 rintro e w1 ⟨rfl,x1,lw1,hx1b,hlw1,hR1,H'⟩
 replace H:=H.Dt H'
 clear H'
 generalize hB:feet (Ac y x s p tt wt Ps T)=B at H⊢
 have hw1:=hw.sync hN.1 wt
 have hn1:=(syncP_lg s.d s.lg wt).trans hnm
 unfold J4
 generalize Aw s.d s.lg wt=r at hR1 H hw1 hn1⊢
 obtain⟨d1,lg1,wt1,c1⟩:=r
 dsimp only at hR1 H hw1 hn1⊢
 obtain⟨s1,hs1⟩:∃s1:St,s1= { s with d:=d1,lg:=lg1 }:=⟨_,rfl⟩
 obtain⟨y1,hy1⟩:∃y1:GW,y1= { y with lw:=lw1 }:=⟨_,rfl⟩
 have hlo1:Low s1:=by rw[hs1];exact hlo
 have hj1:y1.jb=y.jb:=by rw[hy1]
 have hS1:EY y y1 x x1:=by rw[hy1];exact⟨rfl,rfl,hlw1,hx1b⟩
 have hnm1:s1.lg.name=nLog:=by rw[hs1];exact hn1
 rw[<- hs1,<- hy1]at hR1 H
 rw[<- hs1]at hw1⊢
 refine⟨_,rfl,BD (fun hc=> ?_) (fun hc=> ?_)⟩
 ·exact⟨_,s1,T,wt1,⟨rfl,.inl ⟨hc,rfl,rfl,rfl⟩⟩,rfl,y1,x1,hS1,hR1,hlo1,hw1.mono (by omega) (by omega),H⟩
 rw[<- hj1]
 refine AA rfl ⟨_,H.ld (o:=4) (cs:=jcW y1 x1 p tt wt1) (by exact⟨rfl,rfl,rfl,rfl⟩) gMSP (Ei ..) rfl,?_⟩
 obtain⟨L,hL1,hL2,hL3,hL4⟩:=Xd (H.ok _ (YD ..)) (fun n hn=>by have:=hT n hn;omega)
 have hcv:=hL4 w1 (H.ok _ (YD ..)) rfl
 refine⟨hcv.1.mono ?_⟩
 rintro e w2 ⟨v,rfl,hRR⟩
 refine⟨v,rfl,hRR fun a c w3 H'=>⟨_,_,_,rfl,?_⟩⟩
 have hLn:∀z∈L,0<=z/\z<=30/\z.toNat<Ps.length:=fun z hz=>hT z ((hL2 z).1 hz)
 have hL31:L.length<=31:=by
  have:=J9 (L.map Int.toNat) 0 31 (pairwise_map.2 (hL1.imp_of_mem fun{a b} ha hb hab=>by
   have e1:=hLn a ha
   have e2:=hLn b hb
   omega)) (fun n hn=>by
   obtain⟨z,hz,rfl⟩:=mem_map.1 hn
   have:=hLn z hz
   omega) (Nat.zero_le _)
  rw[length_map]at this
  exact this
 have H3:Hp B w w3 (Ac y1 x1 s1 p tt wt1 Ps T++ [.own 3 1 a L.length c (L.map (.int .i64))]):=(H.ext H').perm perm_append_comm
 clear H H' hcv hRR hL4
 refine Ag.mk (fun m (sv:Int) w'=>∃(k:Nat)(y2:GW)(x2:DW)(s2:St),m=L.length-k/\k<=L.length/\sv=(k:Int)/\EY y1 y2 x1 x2/\Rest y2 x2 s2 p Ps 5000/\Low s2/\WJ N (X+1+k) s2/\s2.lg.name=nLog/\(∀s' c',Hg Ps (L.drop k) s2 s' c'->Hg Ps L s1 s' c')/\
   Hp B w w' (Ac y2 x2 s2 p tt wt1 Ps T++ [.own 3 1 a L.length c (L.map (.int .i64))])) L.length ⟨0,y1,x1,s1,rfl,by omega,rfl,EY.refl y1 x1,hR1,hlo1,hw1,hnm1,fun _ _ h=>h,H3⟩ ?_
 clear H3 hR1 hlo1 hw1 hnm1 w3 w2
 rintro m sv w4 next ⟨k,y2,x2,s2,rfl,hk,rfl,hS2,hR2,hlo2,hw2,hnm2,hlink,H⟩ hnext
 have hj2:y1.jb=y2.jb:=hS2.jb.symm
 rw[hj2]
 refine AO (fun h1=> ?_) (fun h1=> ?_)
 ·have hkl:k<L.length:=by omega
  obtain⟨ad,had,hld⟩:=ints_get (H.ownA (mem_append_right _ (.head _))).cells hkl
  have hz:=hLn _ (getElem_mem hkl)
  obtain⟨n,hn⟩:∃n:Nat,L[k]=(n:Int):=⟨L[k].toNat,by omega⟩
  have hdk:L.drop k=(n:Int)::L.drop (k+1):=by rw[drop_eq_getElem_cons hkl,hn]
  rw[hn]at hld hz
  have hnb:n<p.bs.length:=by have:=hR2.bs;omega
  obtain⟨b,hb⟩:∃b,p.bs[n]? =some b:=⟨_,List.getElem?_eq_getElem hnb⟩
  obtain⟨ad2,had2,hld2⟩:=ptrsJ_get (H.drew.ownA (mem_append_left _ (mem_own ..))).cells hb
  refine AA had ⟨⟨by omega,by omega⟩,_,by rw[Int.toNat_natCast];exact hld,?_⟩
  refine AA rfl ⟨_,H.drew.ld (o:=2) (cs:=jcW y2 x2 p tt wt1) (by exact⟨rfl,rfl,rfl,rfl⟩) gPP (mem_append_left _ (Ei ..)) rfl,AA rfl ⟨_,_,_,H.drew.ld (o:=3) (cs:=jcW y2 x2 p tt wt1) (by exact⟨rfl,rfl,rfl,rfl⟩) gSP (mem_append_left _ (Ei ..)) rfl,?_⟩⟩
  refine AA had2 ⟨⟨by omega,by omega⟩,_,by rw[Int.toNat_natCast];exact hld2,?_⟩
  refine AC (jset_spec y2 x2 s2 p tt wt1 Ps T hR2 hlo2 hw2 ⟨hN.1,by omega⟩ (by omega) n (by omega) hb w4.drew H.drew.std1) ?_
  rintro e w5 ⟨c2,y3,x3,s3,rfl,hcase,hS3,hR3,hK,H'⟩
  have H4:=H.drew.useL H'
  clear H H'
  refine⟨_,rfl,BD (fun hc2=> ?_) (fun hc2=> ?_)⟩
  ·have hbad:GI s2 s3 n c2:=by
    rcases hcase with⟨h,_⟩|⟨_,h⟩
    ·exact absurd h hc2
    ·exact h
   refine⟨_,s3,T,wt1,⟨rfl,.inr ⟨hc,L,s3,c2,hL1,hL2,hlink _ _ ?_,.inl ⟨hc2,rfl,rfl,rfl⟩⟩⟩,rfl,y3,x3,hS1.trans (hS2.trans hS3),hR3,hK.low,hK.wj.mono (by omega) (by omega),H4.CE⟩
   rw[hdk]
   exact .bad _ _ _ _ _ hc2 (by rw[Int.toNat_natCast];exact hbad)
  ·have hok:Ha s2 s3 n (CJ Ps n):=by
    rcases hcase with⟨_,h⟩|⟨h,_⟩
    ·exact h
    ·exact absurd hc2 h
   refine⟨AZ.2 (by omega),hnext (L.length-(k+1)) _ _ (by omega) ⟨k+1,y3,x3,s3,rfl,by omega,by omega,hS2.trans hS3,hR3,hK.low,hK.wj.mono (Nat.le_refl _) (by omega),hok.name.trans hnm2,fun s' c' h=>hlink _ _ ?_,H4⟩⟩
   rw[hdk]
   exact .ok _ _ _ _ _ _ (by rw[Int.toNat_natCast];exact hok) h
 ·have hke:k=L.length:=by omega
  subst hke
  clear hnext
  have hsets:Hg Ps L s1 s2 0:=hlink _ _ (by rw[drop_length];exact .nil _)
  clear hlink
  have H4:=H.CE
  clear H
  refine AA rfl ⟨_,H4.ld (o:=2) (cs:=jcW y2 x2 p tt wt1) (by exact⟨rfl,rfl,rfl,rfl⟩) gPP (Ei ..) rfl,?_⟩
  refine AC (jflush_spec y2 x2 s2 p tt wt1 Ps T hR2 hlo2 hw2 ⟨hN.1,by omega⟩ (by omega) w4 H4.std) ?_
  rintro e w5 ⟨c3,y3,x3,s3,rfl,hFl,hS3,hR3,hw3,hlo3,H'⟩
  have H5:=H4.Dt H'
  clear H4 H'
  have hj3:y2.jb=y3.jb:=hS3.jb.symm
  have hnm3:=hFl.name.trans hnm2
  refine⟨_,rfl,AO (fun hc3=> ?_) (fun hc3=> ?_)⟩
  ·rw[hj3]
   refine AA rfl ⟨_,H5.ld (o:=0) (cs:=jcW y3 x3 p tt wt1) (by exact⟨rfl,rfl,rfl,rfl⟩) gPD (Ei ..) rfl,?_⟩
   have H6:=H5.perm (Gj ..)
   clear H5
   refine AC (J7 x3 s3.d hR3.dk w5 H6.std1) ?_
   rintro e w6 ⟨rfl,x4,hx4b,hx4,H'⟩
   have H7:=H6.useL H'
   clear H6 H'
   have hw4:WJ (N+1) (X+1+L.length+64) { s3 with d:=s3.d.Aa.1 }:=⟨Fit.Aa hw3.fit,hw3.b,hw3.firm,hw3.mark,(Fp s3.d).sized hw3.sz⟩
   have H8:Hp B w w6 (Ac y3 x4 { s3 with d:=s3.d.Aa.1 } p tt wt1 Ps T):=by
    refine H7.perm ((?_:List.Perm _ _).trans (Gj y3 x4 { s3 with d:=s3.d.Aa.1 } p tt wt1 Ps T).symm)
    have e1:BN y3 x4 { s3 with d:=s3.d.Aa.1 }=BN y3 x3 s3:=by simp only[BN,BK,hx4b]
    have e2:fsA y3 { s3 with d:=s3.d.Aa.1 }=fsA y3 s3:=rfl
    rw[jnoD,jnoD,e1,e2,hx4b]
   clear H7
   have hR4:Rest y3 x4 { s3 with d:=s3.d.Aa.1 } p Ps 5000:=⟨hR3.fs,hx4,⟨hR3.idle.fr,hR3.idle.len,hR3.idle.many,hR3.idle.hand,hR3.idle.turn,hR3.idle.nd⟩,hR3.pages,KR hw4.sz _,hR3.bs,hR3.few⟩
   have hSx:EY y y3 x x4:=by
    have:=hS1.trans (hS2.trans hS3)
    exact⟨this.jb,this.pb,this.lwb,hx4b.trans this.xb⟩
   refine⟨_,rfl,AO (fun hc4=> ?_) (fun hc4=> ?_)⟩
   ·refine AA rfl ⟨_,H8.ld (o:=1) (cs:=jcW y3 x4 p tt wt1) (by exact⟨rfl,rfl,rfl,rfl⟩) gPL (Ei ..) rfl,?_⟩
    refine AC (resetA_spec y3 x4 { s3 with d:=s3.d.Aa.1 } p tt wt1 Ps T hx4 hw4 (by omega) hnm3 w6 H8.std) ?_
    rintro e w7 ⟨rfl,x5,lw5,hx5b,hlw5,hx5,H'⟩
    have H9:=H8.Dt H'
    clear H8 H'
    have hw5:=hw4.reset (by omega) hnm3
    obtain⟨s5,hs5⟩:∃s5:St,s5= { s3 with d:=(Dq s3.d.Aa.1 s3.lg []).1,lg:=(Dq s3.d.Aa.1 s3.lg []).2.1 }:=⟨_,rfl⟩
    have hw5:WJ (N+1+12) (X+1+L.length+64) s5:=by rw[hs5];exact hw5
    have hx5:x5.Ok s5.d:=by rw[hs5];exact hx5
    have hlo5:Low s5:=by rw[hs5];exact hlo3
    have H9:Hp B w w7 (Ac { y3 with lw:=lw5 } x5 s5 p tt wt1 Ps T):=by rw[hs5];exact H9
    have hR5:Rest { y3 with lw:=lw5 } x5 s5 p Ps 5000:=by
     refine⟨?_,hx5,?_,?_,KR hw5.sz _,hR3.bs,hR3.few⟩
     ·rw[hs5];exact hR3.fs
     ·rw[hs5];exact⟨hR3.idle.fr,hR3.idle.len,hR3.idle.many,hR3.idle.hand,hR3.idle.turn,hR3.idle.nd⟩
     ·rw[hs5];exact hR3.pages
    have hS5:EY y { y3 with lw:=lw5 } x x5:=⟨hSx.jb,hSx.pb,hlw5.trans hSx.lwb,hx5b.trans hSx.xb⟩
    have hlw:(X+1+L.length+64)<=X+200:=by omega
    refine⟨_,rfl,AO (fun hc5=> ?_) (fun hc5=> ?_)⟩
    ·refine AA rfl ⟨_,H9.ld (o:=4) (cs:=jcW { y3 with lw:=lw5 } x5 p tt wt1) (b:=y3.jb) (by exact⟨rfl,rfl,rfl,rfl⟩) gMSP (Ei ..) rfl,?_⟩
     obtain⟨l,hl,H10⟩:=Hp.Yq (b:=tt) (T:=T) (L:=jpL y3.jb (ptrV x5.b) (ptrV lw5.b) (ptrV y3.pb) p (some tt) wt1 Ps++DY { y3 with lw:=lw5 } x5 s5) (H9.perm (by rw[Ac];(refine AL fun ff gg h0 hc ha hpm=> ?_;simp only[ha,hc,h0];omega)))
     refine Hp.clrI gMII rfl H10 (by exact⟨rfl,rfl,rfl,rfl⟩) ?_
     intro w8 H11
     have H12:=Hp.UB (T:=T0) (l:= []) TouL.nil H11
     refine⟨_,s5,T0,wt1,⟨rfl,.inr ⟨hc,L,s2,0,hL1,hL2,hsets,.inr ⟨rfl,s3,c3,hFl,.inr ⟨hc3,.inr ⟨hc4,rfl,hs5,by rw[if_pos hc5]⟩⟩⟩⟩⟩,rfl,{ y3 with lw:=lw5 },x5,hS5,hR5,hlo5,hw5.mono (by omega) hlw,H12.perm (by rw[Ac];(refine AL fun ff gg h0 hc ha hpm=> ?_;simp only[ha,hc,h0];omega))⟩
    ·exact⟨_,s5,T,wt1,⟨rfl,.inr ⟨hc,L,s2,0,hL1,hL2,hsets,.inr ⟨rfl,s3,c3,hFl,.inr ⟨hc3,.inr ⟨hc4,rfl,hs5,by rw[if_neg hc5]⟩⟩⟩⟩⟩,rfl,{ y3 with lw:=lw5 },x5,hS5,hR5,hlo5,hw5.mono (by omega) hlw,H9⟩
   ·refine AO (fun h=>absurd h hc4) (fun _=> ?_)
    exact⟨_,_,T,wt1,⟨rfl,.inr ⟨hc,L,s2,0,hL1,hL2,hsets,.inr ⟨rfl,s3,c3,hFl,.inr ⟨hc3,.inl ⟨hc4,rfl,rfl,rfl⟩⟩⟩⟩⟩,rfl,y3,x4,hSx,hR4,hlo3,hw4.mono (by omega) (by omega),H8⟩
  ·refine AO (fun h=>absurd h hc3) (fun _=>AO (fun h=>absurd h hc3) (fun _=> ?_))
   exact⟨_,s3,T,wt1,⟨rfl,.inr ⟨hc,L,s2,0,hL1,hL2,hsets,.inr ⟨rfl,s3,c3,hFl,.inl ⟨hc3,rfl,rfl,rfl⟩⟩⟩⟩,rfl,y3,x3,hS1.trans (hS2.trans hS3),hR3,hlo3,hw3.mono (by omega) (by omega),H5⟩
structure JOp where
 kind:Int
 a:Option Addr
 c:Nat
 l:List Chg1
def JOp.cs(o:JOp):List Value:= [.int .i64 o.kind,.slice o.a o.l.length o.c]
def jopC(os:List JOp):List Value:=os.flatMap JOp.cs
theorem Wj:∀{os:List JOp}{k:Nat}(h:k<os.length),((jopC os).drop (k*2)).take 2=os[k].cs
 |o::r,0,_=>rfl
 |o::r,k+1,h=>by
  have ih:=Wj (os:=r) (k:=k) (by simpa using h)
  rw[show(k+1)*2=k*2+1+1 by omega]
  exact ih
theorem jopC_len(os:List JOp):(jopC os).length=os.length*2:=by
 induction os with
 |nil=>rfl
 |cons o r ih=>rw[jopC,flatMap_cons,length_append,<- jopC,ih,length_cons];show 2+_=_;omega
structure JScr(w:World)(sa:Option Addr)(os:List JOp):Prop where
 cells:Cells w sa (jopC os)
 rows:∀o∈os,Cells w o.a (chC o.l)
 len:os.length<=140737488355328
 lens:∀o∈os,o.l.length<=140737488355328
theorem JScr.chg{w w':World}{sa:Option Addr}{os:List JOp}(h:JScr w sa os)(hc:Chg [] w w'):JScr w' sa os:=⟨h.cells.chg hc (by simp),fun o ho=>(h.rows o ho).chg hc (by simp),h.len,h.lens⟩
theorem JScr.ld{w:World}{sa:Option Addr}{os:List JOp}(h:JScr w sa os){k:Nat}(hk:k<os.length):∃ad,sa=some ad/\Ld Tryz.prog 53 w (ad.add (k*2)) (.agg #[.int .i64 os[k].kind,.slice os[k].a os[k].l.length os[k].c]):=by
 have hne:0<(jopC os).length:=by rw[jopC_len];omega
 obtain⟨ad,had,_⟩:=h.cells 0 _ (List.getElem?_eq_getElem hne)
 exact⟨ad,had,h.cells.ldA Vw had (Wj hk) rfl⟩
def Pj(c:Chg1):Prop:=¬(30<c.page/\c.page<4096)/\c.s.size<=5000
def sumL(os:List JOp):Nat:=(os.map fun o=>o.l.length).sum
structure FewJ(os:List JOp):Prop where
 len:os.length<=60
 sum:sumL os<=300
 good:∀o∈os,∀c∈o.l,Pj c
theorem UI(os:List JOp)(o:JOp):sumL (os++ [o])=sumL os+o.l.length:=by simp[sumL]
theorem Y2:∀(os:List JOp),(∀o∈os,o.l.length<=140737488355328)->sumL os<=os.length*140737488355328
 | [],_=>by simp[sumL]
 |o::r,h=>by
  have ih:=Y2 r fun q hq=>h q (.tail _ hq)
  have:=h o (.head _)
  simp only[sumL,map_cons,sum_cons,length_cons]at ih⊢
  omega
theorem few_spec(sa:Option Addr)(sc:Nat)(os:List JOp)(w:World)(hs:JScr w sa os):
  Calls Tryz.prog 16 #[.slice sa os.length sc] w fun e w'=>∃b:Bool,e=.returned (.bool b)/\(b=true->FewJ os)/\Hp [] w w' []:=by
 apply few.ok;unfold few.vc
 have hsl:=hs.len
 refine Ag.mk (fun m (s:Int×Int) w'=>∃(k:Nat)(n:Int),m=os.length-k/\k<=os.length/\s=(n,(k:Int))/\(k<=60->n=(sumL (os.take k):Int))/\(∀o∈os.take k,∀c∈o.l,Pj c)/\Hp [] w w' []) os.length ⟨0,0,rfl,by omega,rfl,fun _=>rfl,by simp,Hp.start w⟩ ?_
 rintro m s w1 next ⟨k,n,rfl,hk,rfl,hn60,hgood,H⟩ hnext
 dsimp only
 refine AO (fun h1=> ?_) (fun h1=> ?_)
 ·have hkl:k<os.length:=by omega
  obtain⟨ad,had,hld⟩:=(hs.chg H.chg).ld hkl
  have hsn:os.take (k+1)=os.take k++ [os[k]]:=take_succ_eq_append_getElem hkl
  have hrows:=hs.rows _ (getElem_mem hkl)
  have hlens:=hs.lens _ (getElem_mem hkl)
  generalize os[k]=o at hld hsn hrows hlens
  refine AA had ⟨⟨by omega,by omega⟩,_,_,_,_,by rw[Int.toNat_natCast];exact hld,?_⟩
  intro b w2 hn
  replace H:=H.new (cs:= [.int .i64 0,.slice none 0 0]) (by exact⟨rfl,rfl,rfl,rfl⟩) hn
  clear hn
  refine Hp.stA (o:=0) H (by exact⟨rfl,rfl,rfl,rfl⟩) Vw (vs:= [.int .i64 o.kind,.slice o.a o.l.length o.c]) rfl rfl (by simp) (cs':= [.int .i64 o.kind,.slice o.a o.l.length o.c]) rfl ?_
  clear H;intro w3 H
  refine⟨_,_,_,H.ld (o:=1) (cs:= [.int .i64 o.kind,.slice o.a o.l.length o.c]) (by exact⟨rfl,rfl,rfl,rfl⟩) gSR (.head _) rfl,_,_,_,H.ld (o:=1) (cs:= [.int .i64 o.kind,.slice o.a o.l.length o.c]) (by exact⟨rfl,rfl,rfl,rfl⟩) gSR (.head _) rfl,?_⟩
  have H0:=H.done
  clear H
  refine Ag.mk (fun m (s:Int) w'=>∃j:Nat,m=o.l.length-j/\j<=o.l.length/\s=(j:Int)/\(∀c∈o.l.take j,Pj c)/\Hp [] w w' []) o.l.length ⟨0,rfl,by omega,rfl,by simp,H0⟩ ?_
  clear H0 w2 w3
  rintro m s w2 next1 ⟨j,rfl,hj,rfl,hg,H⟩ hnext1
  refine AO (fun h2=> ?_) (fun h2=> ?_)
  ·have hjl:j<o.l.length:=by omega
   obtain⟨ad2,had2,lA,_⟩:=X3 (hrows.chg H.chg (by simp)) hjl
   have hsn2:o.l.take (j+1)=o.l.take j++ [o.l[j]]:=LC hjl
   generalize o.l[j]=c at lA hsn2
   obtain⟨cp,cs,ct,cg⟩:=c
   refine AA had2 ⟨⟨by omega,by omega⟩,_,_,_,_,by rw[Int.toNat_natCast];exact lA,?_⟩
   intro b2 w3 hn
   replace H:=H.new (cs:= [.int .i64 0,.int .i64 0,.string ⟨#[]⟩,.bool false]) (by exact⟨rfl,rfl,rfl,rfl⟩) hn
   clear hn
   refine Hp.stA (o:=0) H (by exact⟨rfl,rfl,rfl,rfl⟩) Y8 (vs:= [.int .i64 cp,.int .i64 cs,.string ct,.bool cg]) rfl rfl (by simp) (cs':= [.int .i64 cp,.int .i64 cs,.string ct,.bool cg]) rfl ?_
   clear H;intro w4 H
   have stop:∃b:Bool,Ending.returned (.bool false)=.returned (.bool b)/\(b=true->FewJ os)/\Hp [] w w4 []:=⟨false,rfl,fun h=>(by cases h),H.done⟩
   have hwr:IntKind.i64.wrap ((j:Int)+1)=((j+1:Nat):Int):=by rw[DT (by omega)];rfl
   have go:¬(30<cp/\cp<4096)->∃s,Ld Tryz.prog 9 w4 ⟨b2,2,none⟩ (.string s)/\br (decide (5000<(s.size:Int))) (∃b:Bool,Ending.returned (.bool false)=.returned (.bool b)/\(b=true->FewJ os)/\Hp [] w w4 []) (next1 (IntKind.i64.wrap ((j:Int)+1)) w4):=fun hp=>by
    refine⟨_,H.ld (o:=2) (by exact⟨rfl,rfl,rfl,rfl⟩) gStr (.head _) rfl,AO (fun _=>stop) (fun h3=> ?_)⟩
    refine hnext1 (o.l.length-(j+1)) _ _ (by omega) ⟨j+1,rfl,by omega,hwr,fun c hc=> ?_,H.done⟩
    rw[hsn2]at hc
    rcases mem_append.1 hc with hc|hc
    ·exact hg c hc
    ·rw[mem_singleton.1 hc]
     exact⟨hp,by show ct.size<=5000;omega⟩
   refine⟨_,H.ld (o:=0) (by exact⟨rfl,rfl,rfl,rfl⟩) gInt (.head _) rfl,AO (fun h3=> ?_) (fun h3=>go (fun h=>h3 h.1))⟩
   exact⟨_,H.ld (o:=0) (by exact⟨rfl,rfl,rfl,rfl⟩) gInt (.head _) rfl,AO (fun _=>stop) (fun h4=>go (fun h=>h4 h.2))⟩
  ·have hje:j=o.l.length:=by omega
   subst hje
   rw[take_length]at hg
   have hwr:IntKind.i64.wrap ((k:Int)+1)=((k+1:Nat):Int):=by rw[DT (by omega)];rfl
   refine hnext (os.length-(k+1)) _ _ (by omega) ⟨k+1,_,rfl,by omega,by rw[hwr],fun h60=> ?_,fun q hq=> ?_,H⟩
   ·have hsum:=Y2 (os.take k) fun q hq=>hs.lens q (mem_of_mem_take hq)
    rw[length_take]at hsum
    have hn:=hn60 (by omega)
    have:min k os.length*140737488355328<=60*140737488355328:=Nat.mul_le_mul_right _ (by omega)
    rw[hn,hsn,UI,DT (by omega)]
    omega
   ·rw[hsn]at hq
    rcases mem_append.1 hq with hq|hq
    ·exact hgood q hq
    ·rw[mem_singleton.1 hq];exact hg
 ·have hke:k=os.length:=by omega
  subst hke
  rw[take_length]at hn60 hgood
  refine AO (fun h2=> ?_) (fun h2=>⟨false,rfl,fun h=>(by cases h),H⟩)
  have hn:=hn60 (by omega)
  refine⟨decide (n<=300),rfl,fun h=>⟨by omega,?_,hgood⟩,H⟩
  have:=of_decide_eq_true h
  omega
theorem rowsJ_spec(la:Option Addr)(lc:Nat)(l:List Chg1)(hl:l.length<=100000000)(w:World)(hL:Cells w la (chC l)):
  Calls Tryz.prog 45 #[.slice la l.length lc] w fun e w'=>∃a c,e=.returned (.slice a l.length c)/\Hp [] w w' [.own 73 4 a l.length c (chC l)]:=by
 apply BH.ok;unfold BH.vc
 refine Ag.mk (fun m s w'=>∃(k:Nat)(a:Option Addr)(c:Nat),m=l.length-k/\k<=l.length/\s=((a,k,c),(k:Int))/\Hp [] w w' [.own 73 4 a k c (chC (l.take k))]) l.length ⟨0,none,0,rfl,by omega,rfl,(Hp.start w).nilS 73 4⟩ ?_
 rintro m s w1 next ⟨k,a,c,rfl,hk,rfl,H⟩ hnext
 dsimp only
 refine AO (fun h1=> ?_) (fun h1=> ?_)
 ·have hkl:k<l.length:=by omega
  obtain⟨ad,had,hld⟩:=Zc (hL.chg H.chg (by simp)) hkl
  have hsn:chC (l.take (k+1))=chC (l.take k)++ [.int .i64 l[k].page,.int .i64 l[k].slot,.string l[k].s,.bool l[k].gone]:=by rw[take_succ_eq_append_getElem hkl,TA]
  generalize l[k]=q at hld hsn
  refine AA had ⟨⟨by omega,by omega⟩,_,_,_,_,by rw[Int.toNat_natCast];exact hld,?_⟩
  intro b1 w2 hn
  replace H:=H.new (cs:= [.int .i64 0,.int .i64 0,.string ⟨#[]⟩,.bool false]) (by exact⟨rfl,rfl,rfl,rfl⟩) hn
  clear hn
  refine Hp.stA (o:=0) H (by exact⟨rfl,rfl,rfl,rfl⟩) Y8 (vs:= [.int .i64 q.page,.int .i64 q.slot,.string q.s,.bool q.gone]) rfl rfl (by simp) (cs':= [.int .i64 q.page,.int .i64 q.slot,.string q.s,.bool q.gone]) rfl ?_
  clear H;intro w3 H
  refine⟨_,_,_,_,H.ldA (o:=0) (by exact⟨rfl,rfl,rfl,rfl⟩) Y8 (.head _) (vs:= [.int .i64 q.page,.int .i64 q.slot,.string q.s,.bool q.gone]) rfl rfl,?_⟩
  intro b2 w4 hn
  replace H:=H.new (cs:= [.int .i64 q.page,.int .i64 q.slot,.string q.s,.bool q.gone]) (by exact⟨rfl,rfl,rfl,rfl⟩) hn
  clear hn
  refine Hp.app Y7 (by omega) H.BF (by exact⟨rfl,rfl,rfl,rfl⟩) (Blk.src (n:=1) Vp (H.blk (.head _)) rfl rfl) (by simp only[maxLen];omega) (by omega) ?_
  clear H;intro a5 c5 w5 H
  refine⟨AZ.2 (by omega),hnext (l.length-(k+1)) _ _ (by omega) ⟨k+1,a5,c5,rfl,by omega,rfl,?_⟩⟩
  rw[hsn]
  exact H.del1.del1
 ·have hke:k=l.length:=by omega
  subst hke
  rw[take_length]at H
  exact⟨a,c,rfl,H⟩
structure Flt where
 dies:Int
 denies:Int
 names:Int
 pa:Option Addr
 pc:Nat
 picks:List Int
 again:Bool
def Flt.cs(f:Flt):List Value:= [.int .i64 f.dies,.int .i64 f.denies,.int .i64 f.names,.slice f.pa f.picks.length f.pc,.bool f.again]
structure Flt.Ok(f:Flt):Prop where
 dies:f.dies<=9223372036854775807
 denies:f.denies<=9223372036854775807
 cap:f.picks.length<=f.pc
theorem arm_okJ{x:DW}{d:Dk}(hx:x.Ok d){k:Int}(hk:k<=9223372036854775807):x.Ok (d.arm k):=
 ⟨⟨hx.dk.room,hx.dk.files,hx.dk.firm,hx.dk.chs,hx.dk.rise,by simp only[Dk.arm];omega,hx.dk.denied⟩,hx.fl,hx.cl,hx.keys,hx.na,hx.fi⟩
theorem deny_okJ{x:DW}{d:Dk}(hx:x.Ok d){k:Int}(hk:k<=9223372036854775807):x.Ok (d.deny k):=
 ⟨⟨hx.dk.room,hx.dk.files,hx.dk.firm,hx.dk.chs,hx.dk.rise,hx.dk.armed,by simp only[Dk.deny];omega⟩,hx.fl,hx.cl,hx.keys,hx.na,hx.fi⟩
theorem XI{d:Dk}{N:Nat}(h:d.Fit N)(k:Int):(d.arm k).Fit N:=⟨h.files,h.now,h.names,h.chs⟩
theorem TL{d:Dk}{N:Nat}(h:d.Fit N)(k:Int):(d.deny k).Fit N:=⟨h.files,h.now,h.names,h.chs⟩
theorem LJ{d:Dk}{N:Nat}(h:d.Fit N):(Ad d).1.Fit (N+13):=by
 have h1:=UQ h nLog
 unfold Ad
 dsimp only
 split
 ·exact h1.mono (by omega)
 ·have h2:=Qz h1
  split
  ·exact h2
  ·exact h2
def Bd(d:Dk)(f:Flt):Dk:=if f.again then(Ad (((d.crash f.names f.picks).arm f.dies).deny f.denies)).1.crash f.names f.picks else d.crash f.names f.picks
def QZ(x:DW)(d:Dk)(f:Flt)(w:World)(e:Ending)(w':World):Prop:=
 ∃z:DW,z.Ok (Ad (Bd d f)).1/\
  (((Ad (Bd d f)).2.1≠0/\e=.returned (.tuple #[.pointer (some ⟨z.b,0,none⟩),.pointer none])/\Hp (feet (dkL x d)) w w' (dkL z (Ad (Bd d f)).1++dkL x d))\/
   ((Ad (Bd d f)).2.1=0/\∃(y:GW)(s:St)(p:JP)(tt m:Nat),e=.returned (.tuple #[.pointer (some ⟨z.b,0,none⟩),.pointer (some ⟨y.jb,0,none⟩)])/\Rest y z s p (Ad (Bd d f)).2.2.2.Ps m/\m<=4096/\s.d=(Ad (Bd d f)).1/\s.lg=(Ad (Bd d f)).2.2.1/\s.many=4/\
    (∀n,(Ad (Bd d f)).2.2.2.T n<=2*s.lg.all.length)/\Hp (feet (dkL x d)) w w' (Ac y z s p tt 0 (Ad (Bd d f)).2.2.2.Ps (Ad (Bd d f)).2.2.2.T++dkL x d)))
theorem opened_spec(x:DW)(d:Dk)(hok:x.Ok d){N:Nat}(fit:d.Fit N)(hN:N<=29000)(f:Flt)(hf:f.Ok)(w:World)(st:Std w (dkL x d))(hP:∀W,Chg (feet (dkL x d)) w W->Cells W f.pa (ints f.picks)):
  Calls Tryz.prog 20 #[.pointer (some ⟨x.b,0,none⟩),.agg f.cs.toArray] w (QZ x d f w):=by
 unfold QZ
 obtain⟨cd,hcd⟩:∃cd,cd=Bd d f:=⟨_,rfl⟩
 rw[<- hcd]
 apply opened.ok;unfold opened.vc
 have H:=Hp.Ap st
 generalize hB:feet (dkL x d)=B at H hP⊢
 intro b w1 hn
 replace H:=(H.new (cs:=f.cs) (by exact⟨rfl,rfl,rfl,rfl⟩) hn).perm (M:=dkL x d++ [.blk b f.cs 46]) (by(refine AL fun ff gg h0 hc ha hpm=> ?_;simp only[ha,hc,h0];omega))
 clear hn
 have stay:∀{w':World}{L1 L2:List Asn},Hp B w w' (L1++L2)->∀W,Chg (feet L1) w' W->Cells W f.pa (ints f.picks):=fun{w'}{L1 L2} H W hW=>hP W (H.CE.later hW)
 refine⟨_,H.ld (o:=2) (cs:=f.cs) (by exact⟨rfl,rfl,rfl,rfl⟩) gInt (mem_append_right _ (.head _)) rfl,_,_,_,H.ld (o:=3) (cs:=f.cs) (by exact⟨rfl,rfl,rfl,rfl⟩) gSI (mem_append_right _ (.head _)) rfl,?_⟩
 refine AC (Lu x d hok fit.few (by omega) f.names f.pa f.pc f.picks w1 H.std1 (stay H) hf.cap) ?_
 rintro e w2 ⟨y,rfl,hy,H'⟩
 have fit1:=Fit.crash fit hok.dk f.names f.picks
 have H1:Hp B w w2 (dkL y (d.crash f.names f.picks)++(dkL x d++ [.blk b f.cs 46])):=by rw[<- append_assoc];exact H.useL H'
 clear H H'
 refine⟨_,rfl,_,Cj QI,C9 ?_⟩
 refine⟨_,H1.ld (o:=4) (cs:=f.cs) (by exact⟨rfl,rfl,rfl,rfl⟩) Ec (mem_append_right _ (mem_append_right _ (.head _))) rfl,?_⟩
 --the last open
 have last:∀(z:DW)(q:Dk)(w':World),q=cd->z.Ok q->q.Fit (N+13)->Hp B w w' (dkL z q++dkL x d)->AB Tryz.prog 11 [.pointer (some ⟨z.b,0,none⟩),.int .i64 4] w' fun e w'=>∃p_2 i,e=.returned (.tuple #[.pointer p_2,.int .i64 i])/\
   br (!decide (i=0)) (∃z_1:DW,z_1.Ok (Ad cd).1/\
    (((Ad cd).2.1≠0/\Ending.returned (.tuple #[.pointer (some ⟨z.b,0,none⟩),.pointer none])=.returned (.tuple #[.pointer (some ⟨z_1.b,0,none⟩),.pointer none])/\Hp B w w' (dkL z_1 (Ad cd).1++dkL x d))\/
     ((Ad cd).2.1=0/\∃(y:GW)(s:St)(p:JP)(tt m:Nat),Ending.returned (.tuple #[.pointer (some ⟨z.b,0,none⟩),.pointer none])=.returned (.tuple #[.pointer (some ⟨z_1.b,0,none⟩),.pointer (some ⟨y.jb,0,none⟩)])/\Rest y z_1 s p (Ad cd).2.2.2.Ps m/\m<=4096/\s.d=(Ad cd).1/\s.lg=(Ad cd).2.2.1/\s.many=4/\
      (∀n,(Ad cd).2.2.2.T n<=2*s.lg.all.length)/\Hp B w w' (Ac y z_1 s p tt 0 (Ad cd).2.2.2.Ps (Ad cd).2.2.2.T++dkL x d))))
   (∃z_1:DW,z_1.Ok (Ad cd).1/\
    (((Ad cd).2.1≠0/\Ending.returned (.tuple #[.pointer (some ⟨z.b,0,none⟩),.pointer p_2])=.returned (.tuple #[.pointer (some ⟨z_1.b,0,none⟩),.pointer none])/\Hp B w w' (dkL z_1 (Ad cd).1++dkL x d))\/
     ((Ad cd).2.1=0/\∃(y:GW)(s:St)(p:JP)(tt m:Nat),Ending.returned (.tuple #[.pointer (some ⟨z.b,0,none⟩),.pointer p_2])=.returned (.tuple #[.pointer (some ⟨z_1.b,0,none⟩),.pointer (some ⟨y.jb,0,none⟩)])/\Rest y z_1 s p (Ad cd).2.2.2.Ps m/\m<=4096/\s.d=(Ad cd).1/\s.lg=(Ad cd).2.2.1/\s.many=4/\
      (∀n,(Ad cd).2.2.2.T n<=2*s.lg.all.length)/\Hp B w w' (Ac y z_1 s p tt 0 (Ad cd).2.2.2.Ps (Ad cd).2.2.2.T++dkL x d)))):=by
  intro z q w' hq hz fq H
  subst hq
  refine AC (Gs z q hz fq (by omega) 4 (by omega) w' H.std1) ?_
  rintro e w3 ⟨z1,hz1b,hz1,hcase⟩
  rcases hcase with⟨hc,rfl,H'⟩|⟨hc,y,s,p,tt,m,rfl,hR,hm,hsd,hslg,hsm,hsp,hsT,H'⟩
  ·refine⟨_,_,rfl,BD (fun _=> ?_) (fun h=>absurd h hc)⟩
   exact⟨z1,hz1,.inl ⟨hc,by rw[hz1b],H.useL H'⟩⟩
  ·refine⟨_,_,rfl,BD (fun h=>absurd rfl h) (fun _=> ?_)⟩
   exact⟨z1,hz1,.inr ⟨hc,y,s,p,tt,m,by rw[hz1b],hR,hm,hsd,hslg,hsm,hsT,H.useL H'⟩⟩
 refine CP (fun ha=> ?_) (fun ha=> ?_)
 ·have hcd':cd=(Ad (((d.crash f.names f.picks).arm f.dies).deny f.denies)).1.crash f.names f.picks:=by rw[hcd,Bd,if_pos ha]
  refine⟨_,H1.ld (o:=0) (cs:=f.cs) (by exact⟨rfl,rfl,rfl,rfl⟩) gInt (mem_append_right _ (mem_append_right _ (.head _))) rfl,?_⟩
  refine AC (arm_spec y _ hy f.dies w2 H1.std1) ?_
  rintro e w3 ⟨rfl,H'⟩
  have H2:=H1.useL H'
  clear H1 H'
  have hy1:=arm_okJ hy hf.dies
  refine⟨rfl,_,H2.ld (o:=1) (cs:=f.cs) (by exact⟨rfl,rfl,rfl,rfl⟩) gInt (mem_append_right _ (mem_append_right _ (.head _))) rfl,?_⟩
  refine AC (deny_spec y _ hy1 f.denies w3 H2.std1) ?_
  rintro e w4 ⟨rfl,H'⟩
  have H3:=H2.useL H'
  clear H2 H'
  have hy2:=deny_okJ hy1 hf.denies
  have fit2:=TL (XI fit1 f.dies) f.denies
  generalize((d.crash f.names f.picks).arm f.dies).deny f.denies=q at hy2 fit2 H3 hcd'
  have fit3:=LJ fit2
  refine⟨rfl,?_⟩
  refine AC (Gs y q hy2 fit2 (by omega) 4 (by omega) w4 H3.std1) ?_
  rintro e w5 ⟨z1,hz1b,hz1,hcase⟩
  have key:∃p_1 i,e=.returned (.tuple #[.pointer p_1,.int .i64 i])/\∃X,Hp B w w5 (dkL z1 (Ad q).1++(X++(dkL x d++ [.blk b f.cs 46]))):=by
   rcases hcase with⟨hc,rfl,H'⟩|⟨hc,y5,s,p,tt,m,rfl,hR,hm,hsd,hslg,hsm,hsp,hsT,H'⟩
   ·exact⟨_,_,rfl,[],H3.useL H'⟩
   ·refine⟨_,_,rfl,jnoD y5 z1 s p tt 0 (Ad q).2.2.2.Ps (Ad q).2.2.2.T,?_⟩
    rw[<- hsd,<- append_assoc]
    exact(H3.useL H').perm ((Gj y5 z1 s p tt 0 _ _).append_right _)
  obtain⟨p1,i1,rfl,X,H4⟩:=key
  clear H3 hcase
  have mF:Asn.blk b f.cs 46∈dkL z1 (Ad q).1++(X++(dkL x d++ [.blk b f.cs 46])):=mem_append_right _ (mem_append_right _ (mem_append_right _ (.head _)))
  refine⟨_,_,rfl,_,H4.ld (o:=2) (cs:=f.cs) (by exact⟨rfl,rfl,rfl,rfl⟩) gInt mF rfl,_,_,_,H4.ld (o:=3) (cs:=f.cs) (by exact⟨rfl,rfl,rfl,rfl⟩) gSI mF rfl,?_⟩
  have hcr:=Lu z1 (Ad q).1 hz1 fit3.few (by omega) f.names f.pa f.pc f.picks w5 H4.std1 (stay H4) hf.cap
  rw[hz1b]at hcr
  refine AC hcr ?_
  rintro e w6 ⟨z2,rfl,hz2,H'⟩
  have H5:Hp B w w6 (dkL z2 ((Ad q).1.crash f.names f.picks)++(dkL z1 (Ad q).1++(X++(dkL x d++ [.blk b f.cs 46])))):=by rw[<- append_assoc];exact H4.useL H'
  clear H4 H'
  refine⟨_,rfl,_,Cj QI,C9 ?_⟩
  refine last z2 _ w6 hcd'.symm hz2 (Fit.crash fit3 hz1.dk f.names f.picks) ?_
  exact(H5.perm (M:=(dkL z2 ((Ad q).1.crash f.names f.picks)++dkL x d)++(dkL z1 (Ad q).1++(X++ [.blk b f.cs 46]))) (by(refine AL fun ff gg h0 hc ha hpm=> ?_;simp only[ha,hc,h0];omega))).CE
 ·have hcd':cd=d.crash f.names f.picks:=by rw[hcd,Bd,if_neg (by rw[ha];simp)]
  refine last y _ w2 hcd'.symm hy (fit1.mono (by omega)) ?_
  exact(H1.perm (M:=(dkL y (d.crash f.names f.picks)++dkL x d)++ [.blk b f.cs 46]) (by(refine AL fun ff gg h0 hc ha hpm=> ?_;simp only[ha,hc,h0];omega))).CE
open Go.ChangeAt
theorem rd_chg(W:World)(K:List Value->Prop):RdK Tryz.prog W 2 98 K=(∃p,inR .i64 p/\∃s,inR .i64 s/\∃t:ByteArray,t.size<=reachBytes/\∃g,K (.int .i64 p::.int .i64 s::.string t::.bool g:: [])):=by kernel_rfl
theorem rd_jop(W:World)(K:List Value->Prop):RdK Tryz.prog W 4 53 K=(∃i,inR .i64 i/\ArgG W 2 98 fun x=>K (.int .i64 i::(x++ []))):=by kernel_rfl
theorem chC_flat(l:List Chg1):(l.map fun c=> [Value.int .i64 c.page,.int .i64 c.slot,.string c.s,.bool c.gone]).flatten=chC l:=by rw[<- flatMap_def];rfl
theorem argG_chs{W:World}{K:List Value->Prop}(h:ArgG W 2 98 K):∃(a:Option Addr)(c:Nat)(l:List Chg1),Cells W a (chC l)/\l.length<=140737488355328/\K [.slice a l.length c]:=by
 obtain⟨a,cap,els,h1,_,hr,h2,hels,hc,he⟩:=h
 have e1:Tryz.prog.bytesOf 98=40:=by kernel_rfl
 rw[e1]at hr
 obtain⟨l,rfl,_⟩:=P6 (f:=fun c:Chg1=> [Value.int .i64 c.page,.int .i64 c.slot,.string c.s,.bool c.gone]) (Q:=fun _=>True) els fun x hx=>by
  have:=hels x hx
  rw[rd_chg]at this
  obtain⟨p,_,s,_,t,_,g,rfl⟩:=this
  exact⟨⟨p,s,t,g⟩,trivial,rfl⟩
 rw[length_map]at he hr
 rw[chC_flat]at hc
 have e2:reachBytes=140737488351232:=rfl
 exact⟨a,cap,l,hc,by omega,he⟩
theorem jopC_flat(l:List JOp):(l.map JOp.cs).flatten=jopC l:=by rw[<- flatMap_def];rfl
theorem argG_jscr{W:World}{K:List Value->Prop}(h:ArgG W 4 53 K):∃(a:Option Addr)(c:Nat)(os:List JOp),JScr W a os/\K [.slice a os.length c]:=by
 obtain⟨a,cap,els,h1,_,hr,h2,hels,hc,he⟩:=h
 have e1:Tryz.prog.bytesOf 53=32:=by kernel_rfl
 rw[e1]at hr
 obtain⟨l,rfl,hl⟩:=P6 (f:=JOp.cs) (Q:=fun o=>Cells W o.a (chC o.l)/\o.l.length<=140737488355328) els fun x hx=>by
  have:=hels x hx
  rw[rd_jop]at this
  obtain⟨i,_,h⟩:=this
  obtain⟨ca,cc,l,hl,hn,rfl⟩:=argG_chs h
  exact⟨⟨i,ca,cc,l⟩,⟨hl,hn⟩,rfl⟩
 rw[length_map]at he hr
 rw[jopC_flat]at hc
 have e2:reachBytes=140737488351232:=rfl
 exact⟨a,cap,l,⟨hc,fun o ho=>(hl o ho).1,by omega,fun o ho=>(hl o ho).2⟩,he⟩
def FltG(W:World)(K:List Value->Prop):Prop:=∃a,inR .i64 a/\∃b,inR .i64 b/\∃c,inR .i64 c/\ArgG W 3 3 fun p=>∃g,K (.int .i64 a::.int .i64 b::.int .i64 c::(p++(.bool g:: [])))
theorem fltG{W:World}{K:List Value->Prop}(h:FltG W K):∃f:Flt,f.Ok/\Cells W f.pa (ints f.picks)/\K f.cs:=by
 obtain⟨i,hi,j,hj,k,_,h⟩:=h
 obtain⟨pa,pc,l,hl,g,h⟩:=argG_ints h
 exact⟨⟨i,j,k,pa,pc,l,g⟩,⟨(AZ.1 hi).2,(AZ.1 hj).2,hl.le⟩,hl.cells,h⟩
theorem rd_firm(W:World)(K:List Value->Prop):RdA Tryz.prog W 5 [44,46,4] K=ArgG W 4 53 (fun cs=>FltG W fun x=>∃g,K (ofC (some false) cs::.agg x.toArray::.bool g:: [])):=by kernel_rfl
theorem open_firm{W:World}{args:Array Value}(h:RdA Tryz.prog W 5 [44,46,4] (fun l=>args.toList=l)):∃(a:Option Addr)(c:Nat)(os:List JOp)(f:Flt)(g:Bool),args= #[.slice a os.length c,.agg f.cs.toArray,.bool g]/\JScr W a os/\f.Ok/\Cells W f.pa (ints f.picks):=by
 rw[rd_firm]at h
 obtain⟨a,c,os,h1,h⟩:=argG_jscr h
 obtain⟨f,h2,h3,g,h⟩:=fltG h
 exact⟨a,c,os,f,g,by cases args;simp_all [ofC],h1,h2,h3⟩
theorem Live.mono{k m:Nat}{B:List UInt8}{G G':Cont->Prop}{d:Dk}(h:Live k m B G d)(hG:∀c,G c->G' c):Live k m B G' d:=
 ⟨h.fok,h.log,h.lt,h.logc,fun i=>by
  rcases h.data i with⟨h7,h8⟩|⟨q',h7,h8,h9,h10⟩
  ·exact .inl ⟨h7,hG _ h8⟩
  ·exact .inr ⟨q',h7,h8,h9,fun c hc=>hG c (h10 c hc)⟩⟩
theorem Live.dat{k m:Nat}{B:List UInt8}{G:Cont->Prop}{d:Dk}(h:Live k m B G d){q:Nat}(hq:d.find AX=some q):q<d.files.length/\q≠k/\∀c,(d.file q).Cr c->G c:=by
 have hd:=h.data d.chs.length
 unfold DatA at hd
 rw[FB]at hd
 rcases hd with⟨h1,_⟩|⟨q',h1,h2,h3,h4⟩
 ·rw[Dk.find,h1]at hq;cases hq
 ·rw[Dk.find,h1]at hq;cases hq;exact⟨h2,h3,h4⟩
theorem Live.Ya{k m:Nat}{B:List UInt8}{G:Cont->Prop}{d:Dk}(h:Live k m B G d){q:Nat}(hq:d.find AX=some q){i:Nat}{b:List UInt8}
  (hG:∀(c c':Cont)(p:Nat),(d.file q).Cr c->G c->(∀n,c'.v n=if n=i then torn p (pad b) (c.v i)else c.v n)->G c'):Live k m B G (d.write AX (i:Int) b).1:=by
 obtain⟨hql,hqk,hqG⟩:=h.dat hq
 obtain⟨ok,tidy⟩:=h.fok.at hql
 rcases Ej d AX (i:Int) b with⟨c,_⟩|⟨q',hq',h0,hle,hb,c⟩
 ·exact h.core c
 ·rw[hq]at hq'
  cases hq'
  rw[Int.toNat_natCast]at c
  have hle:i<=(d.file q).now.length:=by unfold Dk.len at hle;omega
  refine Live.core c ⟨h.fok.put (ok.write hle hb) (Fl.Ih tidy hle b) q,h.log,by rw[DD];exact h.lt,by rw[BM _ (Ne.symm hqk)];exact h.logc,fun j=> ?_⟩
  rcases h.data j with h1|⟨q2,h1,h2,h3,h4⟩
  ·exact .inl h1
  ·refine .inr ⟨q2,h1,by rw[DD];exact h2,h3,fun c' hc'=> ?_⟩
   by_cases e:q2=q
   ·subst e
    rw[CO hql]at hc'
    obtain⟨c0,p,hc0,_,_,hv⟩:=Fl.Cr.write ok hle hc'
    exact hG c0 c' p hc0 (h4 c0 hc0) hv
   ·rw[BM _ e]at hc'
    exact h4 c' hc'
theorem rdC_eq{c c':Cont}{n:Nat}(h:∀k,k<8->c'.v (n*8+k)=c.v (n*8+k)):rdC c' n=rdC c n:=by
 rw[rdC,rdC,flatMap_def,flatMap_def]
 congr 1
 exact map_congr_left fun k hk=>h k (mem_range.1 hk)
theorem Es.same{c c':Cont}{n:Nat}(h:∀k,k<8->c'.v (n*8+k)=c.v (n*8+k)){L:Sl.Recs}(hp:Es c n L):Es c' n L:=by
 obtain⟨st,hst⟩:=hp
 exact⟨st,by rw[pgC,rdC_eq h];exact hst⟩
theorem ZH:pad []=zsec:=rfl
theorem torn_z(p:Nat):torn p zsec zsec=zsec:=Oc p zsec
theorem Gof.row{all:List ByteArray}{R:Nat->Sl.Recs}{c c':Cont}{n i p:Nat}{x:List UInt8}(hn:0<Af all (n:Int))(hi:n*8<=i/\i<n*8+8)(h:Gof all R c)(hv:∀j,c'.v j=if j=i then torn p x (c.v i)else c.v j):Gof all R c':=fun m hm h0=>
 (h m hm h0).same fun k hk=>by
  have:m≠n:=fun e=>by subst e;omega
  rw[hv,if_neg (by omega)]
theorem Gof.gap{all:List ByteArray}{R:Nat->Sl.Recs}{c c':Cont}{i p:Nat}(h:Gof all R c)(hz:c.v i=zsec)(hv:∀j,c'.v j=if j=i then torn p (pad []) (c.v i)else c.v j):Gof all R c':=fun m hm h0=>
 (h m hm h0).same fun k hk=>by
  rw[hv]
  split
  ·rename_i e
   rw[hz,ZH,torn_z,e,hz]
  ·rfl
section
variable {k m:Nat} {B:List UInt8} {all:List ByteArray} {R:Nat->Sl.Recs} {q:Nat}
structure Wr(k m:Nat)(B:List UInt8)(all:List ByteArray)(R:Nat->Sl.Recs)(q:Nat)(v:Nat->List UInt8)(r:Dk×Int):Prop where
 live:Live k m B (Gof all R) r.1
 find:r.1.find AX=some q
 val:r.2=0->∀x,Vault.val (r.1.file q).now x=v x
theorem SV{d:Dk}(hl:Live k m B (Gof all R) d)(hf:d.find AX=some q){i:Nat}{b:List UInt8}(h0:(d.write AX (i:Int) b).2=0):i<=(d.file q).now.length/\(d.write AX (i:Int) b).1.file q=(d.file q).write i b:=by
 obtain⟨hql,_⟩:=hl.dat hf
 rcases Ej d AX (i:Int) b with⟨c,hne⟩|⟨q',hq',_,hle,_,c⟩
 ·exact absurd h0 hne
 ·rw[hf]at hq'
  cases hq'
  rw[Int.toNat_natCast]at c
  exact⟨by unfold Dk.len at hle;omega,by rw[c.file,CO hql]⟩
theorem aA{v:Nat->List UInt8}:∀(mm i:Nat){r:Dk×Int},Wr k m B all R q v r->(r.2=0->(r.1.file q).now.length=i)->
  Wr k m B all R q v (gapD mm i r)/\((gapD mm i r).2=0->((gapD mm i r).1.file q).now.length=i+mm)/\((gapD mm i r).2=0->r.2=0)
 |0,i,r,h,hl=>⟨h,hl,id⟩
 |mm+1,i,r,h,hl=>by
  rw[gapD]
  have key:Wr k m B all R q v (layD r i [])/\((layD r i []).2=0->((layD r i []).1.file q).now.length=i+1)/\((layD r i []).2=0->r.2=0):=by
   unfold layD
   by_cases h0:r.2=0
   ·rw[if_pos h0]
    have hlen:=hl h0
    obtain⟨hql,_⟩:=h.live.dat h.find
    obtain⟨ok,_⟩:=h.live.fok.at hql
    refine⟨⟨h.live.Ya h.find fun c c' p hc hG hv=>hG.gap (Fl.Cr.out ok hc (by omega)) hv,by rw[(Ez _ _ _ _).find];exact h.find,fun e x=> ?_⟩,fun e=> ?_,fun _=>h0⟩
    ·obtain⟨h1,h2⟩:=SV h.live h.find e
     rw[h2,Fh h1,<- h.val h0 x]
     split
     ·rename_i e2
      rw[ZH,KZ (by omega)]
     ·rfl
    ·obtain⟨h1,h2⟩:=SV h.live h.find e
     rw[h2,Ht _ _ h1];omega
   ·rw[if_neg h0]
    exact⟨h,fun e=>absurd e h0,fun e=>absurd e h0⟩
  obtain⟨k1,k2,k3⟩:=key
  obtain⟨i1,i2,i3⟩:=aA mm (i+1) k1 k2
  exact⟨i1,fun e=>by rw[i2 e];omega,fun e=>k3 (i3 e)⟩
theorem Zj{n:Nat}(hn:0<Af all (n:Int)){bs:List UInt8}(hbs:bs.length=4096):∀(mm j:Nat){v:Nat->List UInt8}{r:Dk×Int},j+mm=8->Wr k m B all R q v r->
  Wr k m B all R q (fun x=>if n*8+j<=x/\x<n*8+8 then Ba bs (x-n*8)else v x) (rowD bs (n*8) mm j r)/\((rowD bs (n*8) mm j r).2=0->r.2=0)
 |0,j,v,r,hj,h=>⟨⟨h.live,h.find,fun e x=>by rw[if_neg (by omega)];exact h.val e x⟩,id⟩
 |mm+1,j,v,r,hj,h=>by
  rw[rowD]
  have key:Wr k m B all R q (fun x=>if x=n*8+j then Ba bs j else v x) (layD r (n*8+j) (Ba bs j))/\((layD r (n*8+j) (Ba bs j)).2=0->r.2=0):=by
   unfold layD
   by_cases h0:r.2=0
   ·rw[if_pos h0]
    have hc8:(Ba bs j).length=512:=LM hbs (by omega)
    refine⟨⟨h.live.Ya h.find fun c c' p hc hG hv=>hG.row hn (by omega) hv,by rw[(Ez _ _ _ _).find];exact h.find,fun e x=> ?_⟩,fun _=>h0⟩
    obtain⟨h1,h2⟩:=SV h.live h.find e
    rw[h2,Fh h1,<- h.val h0 x]
    have hp:pad (Ba bs j)=Ba bs j:=by rw[pad,hc8,Nat.sub_self];simp
    rw[hp]
   ·rw[if_neg h0]
    exact⟨⟨h.live,h.find,fun e=>absurd e h0⟩,fun e=>absurd e h0⟩
  obtain⟨k1,k2⟩:=key
  obtain⟨i1,i2⟩:=Zj hn hbs mm (j+1) (by omega) k1
  refine⟨⟨i1.live,i1.find,fun e x=> ?_⟩,fun e=>k2 (i2 e)⟩
  rw[i1.val e x]
  by_cases h1:x=n*8+j
  ·rw[if_neg (by omega),if_pos h1,if_pos (by omega),show x-n*8=j by omega]
  ·by_cases h2:n*8+j<=x/\x<n*8+8
   ·rw[if_pos (by omega),if_pos h2]
   ·rw[if_neg (by omega),if_neg h1,if_neg h2]
theorem writeD_live{d:Dk}(h:Live k m B (Gof all R) d)(hf:d.find AX=some q){e0:Int}{n:Nat}(hn:0<Af all (n:Int)){bs:List UInt8}(hbs:bs.length=4096):
  Wr k m B all R q (fun x=>if n*8<=x/\x<n*8+8 then Ba bs (x-n*8)else val (d.file q).now x) (D8 d e0 n bs)/\((D8 d e0 n bs).2=0->e0=0):=by
 have hsz:(d.size AX).toNat=(d.file q).now.length:=by
  rw[Dk.size,hf]
  show((d.len q:Nat):Int).toNat=_
  rw[Int.toNat_natCast];rfl
 rw[D8,hsz]
 obtain⟨g1,g2,g3⟩:=aA (k:=k) (m:=m) (B:=B) (all:=all) (R:=R) (q:=q) (v:=val (d.file q).now) (n*8-(d.file q).now.length) (d.file q).now.length (r:=(d,e0)) ⟨h,hf,fun _ _=>rfl⟩ (fun _=>rfl)
 obtain⟨r1,r2⟩:=Zj hn hbs 8 0 (by omega) g1
 exact⟨⟨r1.live,r1.find,fun e x=>by rw[r1.val e x,Nat.add_zero]⟩,fun e=>g3 (r2 e)⟩
end
theorem chunks_flat{bs:List UInt8}(h:bs.length=4096):(List.range 8).flatMap (fun k=>Ba bs k)=bs:=by
 have e:(List.range 8).flatMap (fun k=>Ba bs k)=Ba bs 0++(Ba bs 1++(Ba bs 2++(Ba bs 3++(Ba bs 4++(Ba bs 5++(Ba bs 6++Ba bs 7)))))):=by
  simp[List.range_succ_eq_map]
 have st:∀k,(bs.drop (k*512)).take 512++bs.drop ((k+1)*512)=bs.drop (k*512):=fun k=>by
  have:=take_append_drop 512 (bs.drop (k*512))
  rw[drop_drop,show k*512+512=(k+1)*512 by omega]at this
  exact this
 rw[e]
 have h7:Ba bs 7=bs.drop (7*512):=by
  rw[Ba,take_of_length_le (by rw[length_drop];omega)]
 rw[h7]
 simp only[Ba]
 rw[st 6,st 5,st 4,st 3,st 2,st 1,st 0]
 simp
theorem wrote_page{c:Cont}{n:Nat}{bs:List UInt8}(hbs:bs.length=4096)(hv:∀x,n*8<=x->x<n*8+8->c.v x=Ba bs (x-n*8)){g:Sl.Pg}(hg:g.bs=bs){L:Sl.Recs}{st:Nat}(hR:Sl.Rep g L st):Es c n L:=by
 have e:rdC c n=bs:=by
  rw[<- chunks_flat hbs,rdC,flatMap_def,flatMap_def]
  congr 1
  refine map_congr_left fun k hk=> ?_
  have hk:=mem_range.1 hk
  rw[hv _ (by omega) (by omega),show n*8+k-n*8=k by omega]
 exact⟨st,by rw[pgC,e,<- hg];exact Sl.KC hR⟩
def DC(e:Int):Prop:=e=0\/(90<=e/\e<=130)
theorem VL(d:Dk):DC d.code:=by
 unfold Dk.code
 split
 ·exact .inr (by omega)
 ·exact .inl rfl
theorem dcl{e:Int}(d:Dk)(h:90<=e/\e<=130):DC (d,e).2:=.inr h
theorem Ju(d:Dk)(n:ByteArray)(i:Int)(b:List UInt8):DC (d.write n i b).2:=by
 unfold Dk.write
 split
 ·exact dcl _ (by decide)
 split
 ·exact dcl _ (by decide)
 split
 ·exact dcl _ (by decide)
 split
 ·exact dcl _ (by decide)
 split
 ·exact dcl _ (by decide)
 ·exact VL _
theorem VB(d:Dk)(n:ByteArray):DC (d.sync n).2:=by
 unfold Dk.sync
 split
 ·exact dcl _ (by decide)
 split
 ·exact dcl _ (by decide)
 split
 ·exact dcl _ (by decide)
 dsimp only
 split
 ·exact dcl _ (by decide)
 ·exact .inl rfl
theorem NF(d:Dk):DC d.Aa.2:=by
 unfold Dk.Aa
 split
 ·exact dcl _ (by decide)
 dsimp only
 split
 ·exact dcl _ (by decide)
 ·exact .inl rfl
theorem create_dc(d:Dk)(n:ByteArray):DC (d.create n).2:=by
 unfold Dk.create
 split
 ·exact dcl _ (by decide)
 split
 ·exact dcl _ (by decide)
 ·exact VL _
theorem rename_dc(d:Dk)(a b:ByteArray):DC (d.rename a b).2:=by
 unfold Dk.rename
 split
 ·exact dcl _ (by decide)
 split
 ·exact dcl _ (by decide)
 split
 ·exact dcl _ (by decide)
 split
 ·exact .inl rfl
 ·exact VL _
theorem IC{r:Dk×Int}{f:Dk->Dk×Int}(h:DC r.2)(hf:∀d,DC (f d).2):DC (Redo.thn r f).2:=by
 rw[Redo.thn]
 split
 ·exact hf _
 ·exact h
theorem VJ(n:ByteArray)(b:List UInt8):∀(m k:Nat)(d:Dk),DC (Redo.dput n b m k d).2
 |0,k,d=>.inl rfl
 |m+1,k,d=>by
  rw[Redo.dput]
  split
  ·exact .inl rfl
  ·exact IC (Ju _ _ _ _) fun d=>VJ n b m (k+1) d
theorem WX(d:Dk)(n:ByteArray)(m f:Nat):DC (dseal d n m f).2:=IC (IC (VB _ _) fun d=>Ju _ _ _ _) fun d=>VB _ _
theorem drenew_dc(d:Dk)(n:ByteArray)(all:List ByteArray):DC (drenew d n all).2:=by
 rw[drenew,dfill]
 exact IC (IC (IC (IC (IC (IC (create_dc _ _) fun d=>Ju _ _ _ _) fun d=>Ju _ _ _ _) fun d=>VJ _ _ _ _ _) fun d=>WX _ _ _ _) fun d=>rename_dc _ _ _) fun d=>NF _
theorem UX{d:Dk}{l:Lg}(h:l.code=0):DC (Aj d l).2.2:=by
 have h1:DC (Redo.thn (dwrite d l.name l.b l.firm) fun d=>dseal d l.name (l.mark+1) l.b.length).2:=IC (VJ _ _ _ _ _) fun d=>WX _ _ _ _
 unfold Aj
 rw[if_pos h]
 dsimp only
 split
 ·exact .inl rfl
 ·exact h1
theorem Zr{r:Dk×Int}(h:DC r.2)(i:Nat)(b:List UInt8):DC (layD r i b).2:=by
 unfold layD
 split
 ·exact Ju _ _ _ _
 ·exact h
theorem Zh:∀(m i:Nat){r:Dk×Int},DC r.2->DC (gapD m i r).2
 |0,i,r,h=>h
 |m+1,i,r,h=>Zh m (i+1) (Zr h i [])
theorem Z5(bs:List UInt8)(base:Nat):∀(m k:Nat){r:Dk×Int},DC r.2->DC (rowD bs base m k r).2
 |0,k,r,h=>h
 |m+1,k,r,h=>Z5 bs base m (k+1) (Zr h (base+k) (Ba bs k))
theorem writeD_dc(d:Dk){e0:Int}(h:DC e0)(n:Nat)(bs:List UInt8):DC (D8 d e0 n bs).2:=Z5 bs (n*8) 8 0 (Zh _ _ (r:=(d,e0)) h)
structure Oth(d e:Dk):Prop where
 nms:Nms d e
 file:∀q,d.find nLog≠some q->e.file q=d.file q
theorem Oth.refl(d:Dk):Oth d d:=⟨.refl d,fun _ _=>rfl⟩
theorem Oth.trans{a b c:Dk}(h:Oth a b)(h':Oth b c):Oth a c:=⟨h.nms.trans h'.nms,fun q hq=>(h'.file q (by rw[h.nms.find];exact hq)).trans (h.file q hq)⟩
theorem TW(d:Dk)(i:Int)(b:List UInt8):Oth d (d.write nLog i b).1:=⟨Ez _ _ _ _,fun q hq=>by
 rcases Ej d nLog i b with⟨c,_⟩|⟨k,hk,_,_,_,c⟩
 ·exact c.file q
 ·rw[c.file,BM _ (fun e=>hq (by rw[e];exact hk))]⟩
theorem XA(d:Dk):Oth d (d.sync nLog).1:=⟨Jp _ _,fun q hq=>by
 rcases GY d nLog with⟨c,_⟩|⟨k,hk,_,c⟩
 ·exact c.file q
 ·rw[c.file,BM _ (fun e=>hq (by rw[e];exact hk))]⟩
theorem Pz{d:Dk}{r:Dk×Int}{f:Dk->Dk×Int}(h:Oth d r.1)(hf:∀e,Oth e (f e).1):Oth d (Redo.thn r f).1:=by
 rw[Redo.thn]
 split
 ·exact h.trans (hf _)
 ·exact h
theorem Vy(b:List UInt8):∀(m k:Nat)(d:Dk),Oth d (Redo.dput nLog b m k d).1
 |0,k,d=>.refl d
 |m+1,k,d=>by
  rw[Redo.dput]
  split
  ·exact .refl d
  ·exact Pz (TW _ _ _) fun d=>Vy b m (k+1) d
theorem flushP_oth{d:Dk}{l:Lg}(hn:l.name=nLog):Oth d (Aj d l).1:=by
 have h1:Oth d (Redo.thn (dwrite d l.name l.b l.firm) fun d=>dseal d l.name (l.mark+1) l.b.length).1:=by
  rw[hn]
  exact Pz (Vy _ _ _ d) fun e=>Pz (Pz (XA e) fun e=>TW _ _ _) fun e=>XA e
 unfold Aj
 split
 ·dsimp only
  split
  ·exact h1
  ·exact h1
 ·exact .refl d
theorem WV{d:Dk}{l:Lg}(hc:l.code=0)(h:(Aj d l).2.2=0):(Aj d l).2.1= { l with mark:=l.mark+1,firm:=l.b.length,many:=l.all.length }:=by
 unfold Aj at h⊢
 rw[if_pos hc]at h⊢
 dsimp only at h⊢
 split at h
 ·rename_i h1;rw[if_pos h1]
 ·rename_i h1;exact absurd h h1
theorem UO{d:Dk}{l:Lg}(hc:l.code=0)(h:(Aj d l).2.2≠0):(Aj d l).2.1= { l with code:=(Aj d l).2.2 }:=by
 unfold Aj at h⊢
 rw[if_pos hc]at h⊢
 dsimp only at h⊢
 split at h
 ·exact absurd rfl h
 ·rename_i h1;rw[if_neg h1]
theorem Wi{r:Dk×Int}(h:r.2≠0)(i:Nat)(b:List UInt8):layD r i b=r:=by unfold layD;rw[if_neg h]
theorem WG:∀(m i:Nat){r:Dk×Int},r.2≠0->gapD m i r=r
 |0,i,r,h=>rfl
 |m+1,i,r,h=>by rw[gapD,Wi h];exact WG m (i+1) h
theorem Xp(bs:List UInt8)(base:Nat):∀(m k:Nat){r:Dk×Int},r.2≠0->rowD bs base m k r=r
 |0,k,r,h=>rfl
 |m+1,k,r,h=>by rw[rowD,Wi h];exact Xp bs base m (k+1) h
theorem writeD_stop(d:Dk){e0:Int}(h:e0≠0)(n:Nat)(bs:List UInt8):D8 d e0 n bs=(d,e0):=by
 rw[D8,WG _ _ (r:=(d,e0)) h]
 exact Xp _ _ _ _ h
structure Hl(k X:Nat)(b:List UInt8)(all:List ByteArray)(R:Nat->Sl.Recs)(q:Nat)(d:Dk)(l:Lg):Prop where
 code:l.code=0
 name:l.name=nLog
 lb:l.b=b
 la:l.all=all
 firm:l.firm=b.length
 mark:l.mark<=X
 live:Live k l.mark b (Gof all R) d
 find:d.find AX=some q
structure Sk(X:Nat)(b:List UInt8)(all:List ByteArray)(R:Nat->Sl.Recs)(d:Dk)(l:Lg):Prop where
 code:l.code≠0
 any:AnyD (fun m B=>m<=X/\B=b) (Gof all R) d
section
variable {k X:Nat} {b:List UInt8} {all:List ByteArray} {R:Nat->Sl.Recs} {q:Nat}
theorem Hl.mono{d:Dk}{l:Lg}(h:Hl k X b all R q d l){X':Nat}(hX:X<=X'):Hl k X' b all R q d l:=⟨h.code,h.name,h.lb,h.la,h.firm,Nat.le_trans h.mark hX,h.live,h.find⟩
theorem Sk.mono{d:Dk}{l:Lg}(h:Sk X b all R d l){X':Nat}(hX:X<=X'):Sk X' b all R d l:=⟨h.code,h.any.mono (fun m B hm=>⟨Nat.le_trans hm.1 hX,hm.2⟩) fun _ h=>h⟩
theorem Hl.flush{d:Dk}{l:Lg}(h:Hl k X b all R q d l)(hX:X+2<big)(hb:b.length<big):
  DC (Aj d l).2.2/\(((Aj d l).2.2=0/\Hl k (X+1) b all R q (Aj d l).1 (Aj d l).2.1)\/((Aj d l).2.2≠0/\Sk (X+1) b all R (Aj d l).1 (Aj d l).2.1)):=by
 have hm:=h.mark
 have hbt:l.b.take l.firm=b:=by rw[h.lb,h.firm,take_length]
 refine⟨UX h.code,?_⟩
 rcases Live.flush h.name h.code (by rw[h.lb,h.firm];exact Nat.le_refl _) (by rw[hbt];exact h.live) (by omega) (by rw[h.lb];exact hb)with⟨h0,h1⟩|⟨h0,h1⟩
 ·refine .inl ⟨h0,?_⟩
  have e:=WV h.code h0
  rw[h.lb]at h1
  exact⟨by rw[e];exact h.code,by rw[e];exact h.name,by rw[e];exact h.lb,by rw[e];exact h.la,by rw[e];show l.b.length=_;rw[h.lb],by rw[e];show l.mark+1<=_;omega,by rw[e];exact h1,by rw[(Fa d l).find];exact h.find⟩
 ·refine .inr ⟨h0,?_⟩
  have e:=UO h.code h0
  refine⟨by rw[e];exact h0,h1.mono (fun m B hm=> ?_) fun _ h=>h⟩
  rcases hm with⟨rfl,rfl⟩|⟨rfl,rfl⟩
  ·exact⟨by omega,hbt⟩
  ·exact⟨by omega,h.lb⟩
theorem Hl.other{d:Dk}{l:Lg}(h:Hl k X b all R q d l):d.find nLog≠some q:=by
 rw[h.live.find]
 obtain⟨_,h2,_⟩:=h.live.dat h.find
 exact fun e=>h2 (Option.some.inj e).symm
theorem Hl.ahead{s:St}(h:Hl k X b all R q s.d s.lg)(hX:X+2<big)(hb:b.length<big)(n:Nat):
  DC (Dp s n)/\(((Dp s n)=0/\Hl k (X+1) b all R q (BQ s n).1 (BQ s n).2.1)\/(Dp s n≠0/\Sk (X+1) b all R (BQ s n).1 (BQ s n).2.1))/\(BQ s n).1.file q=s.d.file q:=by
 unfold Dp BQ
 split
 ·exact⟨.inl rfl,.inl ⟨rfl,h.mono (Nat.le_succ _)⟩,rfl⟩
 ·obtain⟨h1,h2⟩:=h.flush hX hb
  exact⟨h1,h2,(flushP_oth h.name).file q h.other⟩
theorem Hl.wrote{s:St}(h:Hl k X b all R q s.d s.lg)(hX:X+2<big)(hb:b.length<big){f:Fr}(hf:0<Af all (f.n:Int)){g:Sl.Pg}(hg:Sl.Rep g f.pg.1 f.pg.2):
  DC (Cm s f g.bs)/\((Cm s f g.bs=0/\Hl k (X+1) b all R q (s.wrote f g.bs).d (s.wrote f g.bs).lg/\Es (cont ((s.wrote f g.bs).d.file q).now) f.n f.pg.1/\
    ∀n,n≠f.n->∀L,Es (cont (s.d.file q).now) n L->Es (cont ((s.wrote f g.bs).d.file q).now) n L)\/
   (Cm s f g.bs≠0/\(Hl k (X+1) b all R q (s.wrote f g.bs).d (s.wrote f g.bs).lg\/Sk (X+1) b all R (s.wrote f g.bs).d (s.wrote f g.bs).lg))):=by
 obtain⟨hdc,hcase,hfile⟩:=h.ahead hX hb f.pg.2
 unfold Cm
 refine⟨writeD_dc _ hdc _ _,?_⟩
 rcases hcase with⟨h0,hH⟩|⟨h0,hS⟩
 ·obtain⟨hW,_⟩:=writeD_live hH.live hH.find (e0:=Dp s f.pg.2) hf (bs:=g.bs) hg.ok.len
  have hH':Hl k (X+1) b all R q (s.wrote f g.bs).d (s.wrote f g.bs).lg:=⟨hH.code,hH.name,hH.lb,hH.la,hH.firm,hH.mark,hW.live,hW.find⟩
  by_cases e0:(D8 (BQ s f.pg.2).1 (Dp s f.pg.2) f.n g.bs).2=0
  ·refine .inl ⟨e0,hH',?_,fun n hn L hp=> ?_⟩
   ·refine wrote_page (bs:=g.bs) hg.ok.len (fun x h1 h2=> ?_) rfl hg
    have:=hW.val e0 x
    rw[if_pos ⟨h1,h2⟩]at this
    exact this
   ·refine hp.same fun j hj=> ?_
    have:=hW.val e0 (n*8+j)
    rw[if_neg (by omega),hfile]at this
    exact this
  ·exact .inr ⟨e0,.inl hH'⟩
 ·have e:=writeD_stop (BQ s f.pg.2).1 h0 f.n g.bs
  refine .inr ⟨by rw[e];exact h0,.inr ⟨hS.code,?_⟩⟩
  show AnyD _ _ (D8 (BQ s f.pg.2).1 (Dp s f.pg.2) f.n g.bs).1
  rw[e];exact hS.any
structure Cp(k X:Nat)(b:List UInt8)(all:List ByteArray)(R:Nat->Sl.Recs)(q:Nat)(dn:Nat->Prop)(s:St):Prop where
 hl:Hl k X b all R q s.d s.lg
 dirty:∀f∈s.fs,f.dirty=true->0<Af all (f.n:Int)
 pg:∀f∈s.fs,dn f.n->f.pg.1=R f.n
 there:∀n,dn n->(∃f∈s.fs,f.n=n/\f.dirty=true)\/Es (cont (s.d.file q).now) n (R n)
theorem Cp.mono{dn:Nat->Prop}{s:St}(h:Cp k X b all R q dn s){X':Nat}(hX:X<=X'):Cp k X' b all R q dn s:=⟨h.hl.mono hX,h.dirty,h.pg,h.there⟩
theorem Be.to{fs gs:List Fr}(h:Be fs gs){i:Nat}{f:Fr}(hf:fs[i]? =some f):∃g,gs[i]? =some g/\YV f g:=by
 have hi:=(List.getElem?_eq_some_iff.1 hf).1
 have hl:=h.len
 exact⟨_,List.getElem?_eq_getElem (by omega),h.at_ i _ _ hf (List.getElem?_eq_getElem (by omega))⟩
theorem Sm{fs:List Fr}{f:Fr}(h:f∈fs):∃i:Nat,fs[i]? =some f:=List.getElem?_of_mem h
theorem Cp.turn{dn:Nat->Prop}{s s0:St}{n j:Nat}{P:AP}(h:Cp k X b all R q dn s0)(hno:∀(i:Nat)(f:Fr),i≠j->s0.fs[i]? =some f->f.n≠n)(hj:j<s0.fs.length)
  (hfree:∀f,s0.fs[j]? =some f->f.dirty=true->f.n=n\/(dn f.n->Es (cont (s0.d.file q).now) f.n (R f.n))) (hn:0<Af all (n:Int)) (hP:P.1=R n) {F:Fr} (hF:F.n=n/\F.pg=P/\F.dirty=true) (pg hd:Nat):
  Cp k X b all R q (fun m=>dn m\/m=n) { s0 with fs:=s0.fs.set j F,pages:=pg,hand:=hd }:=by
 obtain⟨F1,F2,F3⟩:=hF
 refine⟨h.hl,fun f hf hd=> ?_,fun f hf hd=> ?_,fun m hm=> ?_⟩
 ·rcases mem_or_eq_of_mem_set hf with h1|rfl
  ·exact h.dirty f h1 hd
  ·rw[F1];exact hn
 ·have hf:f∈s0.fs.set j F:=hf
  obtain⟨i,hi⟩:=Sm hf
  by_cases hij:j=i
  ·subst hij
   rw[List.getElem?_set_self hj]at hi
   rw[<- Option.some.inj hi,F1,F2,hP]
  ·rw[List.getElem?_set_ne hij]at hi
   rcases hd with hd|hd
   ·exact h.pg f (mem_of_getElem? hi) hd
   ·exact absurd hd (hno i f (fun e=>hij e.symm) hi)
 ·by_cases hmn:m=n
  ·exact .inl ⟨F,List.mem_iff_getElem?.2 ⟨j,List.getElem?_set_self hj⟩,by rw[F1,hmn],F3⟩
  ·rcases hm with hm|hm
   ·rcases h.there m hm with⟨f,hf,h1,h2⟩|h1
    ·obtain⟨i,hi⟩:=Sm hf
     by_cases hij:j=i
     ·subst hij
      rcases hfree f hi h2 with h3|h3
      ·exact absurd (h1.symm.trans h3) hmn
      ·rw[h1]at h3
       exact .inr (h3 hm)
     ·exact .inl ⟨f,List.mem_iff_getElem?.2 ⟨i,by rw[List.getElem?_set_ne hij];exact hi⟩,h1,h2⟩
    ·exact .inr h1
   ·exact absurd hm hmn
theorem Cp.same{dn:Nat->Prop}{s:St}(h:Cp k X b all R q dn s){gs:List Fr}(hs:Be s.fs gs)(hd:Nat):Cp k X b all R q dn { s with fs:=gs,hand:=hd }:=by
 refine⟨h.hl,fun f hf hd=> ?_,fun f hf hd=> ?_,fun m hm=> ?_⟩
 ·obtain⟨g,hg,h1,h2,h3,h4⟩:=hs.at' hf
  rw[h1];exact h.dirty g hg (by rw[<- h4];exact hd)
 ·obtain⟨g,hg,h1,h2,h3,h4⟩:=hs.at' hf
  rw[h1,h2];exact h.pg g hg (by rw[<- h1];exact hd)
 ·rcases h.there m hm with⟨f,hf,h1,h2⟩|h1
  ·obtain⟨i,hi⟩:=Sm hf
   obtain⟨g,hg,g1,g2,g3,g4⟩:=hs.to hi
   exact .inl ⟨g,mem_of_getElem? hg,by rw[g1,h1],by rw[g4,h2]⟩
  ·exact .inr h1
theorem Cp.wrote{dn:Nat->Prop}{s:St}(h:Cp k X b all R q dn s)(hX:X+2<big)(hb:b.length<big){f:Fr}(hm:f∈s.fs)(hi:0<Af all (f.n:Int)){g:Sl.Pg}(hg:Sl.Rep g f.pg.1 f.pg.2):
  DC (Cm s f g.bs)/\((Cm s f g.bs=0/\Cp k (X+1) b all R q dn (s.wrote f g.bs)/\(dn f.n->Es (cont ((s.wrote f g.bs).d.file q).now) f.n (R f.n)))\/
   (Cm s f g.bs≠0/\(Hl k (X+1) b all R q (s.wrote f g.bs).d (s.wrote f g.bs).lg\/Sk (X+1) b all R (s.wrote f g.bs).d (s.wrote f g.bs).lg))):=by
 obtain⟨hdc,hc⟩:=h.hl.wrote hX hb hi hg
 refine⟨hdc,?_⟩
 rcases hc with⟨h0,hH,hP,hO⟩|hbad
 ·refine .inl ⟨h0,⟨hH,h.dirty,h.pg,fun n hn=> ?_⟩,fun hdn=>by rw[<- h.pg f hm hdn];exact hP⟩
  rcases h.there n hn with h1|h1
  ·exact .inl h1
  ·by_cases e:n=f.n
   ·subst e
    rw[h.pg f hm hn]at hP
    exact .inr hP
   ·exact .inr (hO n e _ h1)
 ·exact .inr hbad
def Vu(all:List ByteArray)(s:St):Prop:=∀f∈s.fs,f.dirty=true->0<Af all (f.n:Int)
def Bad(k X:Nat)(b:List UInt8)(all:List ByteArray)(R:Nat->Sl.Recs)(q:Nat)(s:St):Prop:=(Hl k X b all R q s.d s.lg\/Sk X b all R s.d s.lg)/\Vu all s
theorem Cp.bad{dn:Nat->Prop}{s:St}(h:Cp k X b all R q dn s):Bad k X b all R q s:=⟨.inl h.hl,h.dirty⟩
theorem Bad.mono{s:St}(h:Bad k X b all R q s){X':Nat}(hX:X<=X'):Bad k X' b all R q s:=⟨h.1.imp (·.mono hX) (·.mono hX),h.2⟩
theorem Ha.cp{dn:Nat->Prop}{s s1:St}{n:Nat}{P:AP}(h:Ha s s1 n P)(hc:Cp k X b all R q dn s)(hnd:O5 s.fs)(hX:X+2<big)(hb:b.length<big)(hn:0<Af all (n:Int))(hP:P.1=R n):Cp k (X+1) b all R q (fun m=>dn m\/m=n) s1:=by
 rcases h with⟨j,f,h1,h2,h3,h4,rfl⟩|⟨s0,j,h1,hfree,hk,rfl⟩
 ·have hj:=(List.getElem?_eq_some_iff.1 h2).1
  exact(hc.mono (Nat.le_succ _)).turn (s:=s) (j:=j) (P:=P) (fun i g hij hg=>by rw[<- h3];exact hnd i j g f hij hg h2) hj (fun g hg _=>.inl (by rw[h2]at hg;cases hg;exact h3)) hn hP (F:= { f with pg:=P,dirty:=true,used:=true }) ⟨h3,rfl,rfl⟩ s.pages s.hand
 ·have hno:=Xn h1
  have hsame:∀{gs:List Fr},Be s.fs gs->∀(i:Nat)(f:Fr),i≠j->gs[i]? =some f->f.n≠n:=fun hs i f _ hf=>by
   obtain⟨g,hg,e,_⟩:=hs.at' (mem_of_getElem? hf)
   rw[e];exact hno g hg
  rcases hfree with⟨hlt,rfl,F,rfl⟩|⟨hnl,fs1,h1,f,hsm,hh1,hf,hpin,⟨hd,rfl⟩|⟨hd,g,hR,hw0,rfl⟩⟩
  ·have e:(s.fs++ [F]).set s.fs.length ⟨n,P,0,true,true⟩=(s.fs++ [(⟨n,P,0,true,true⟩:Fr)]).set s.fs.length ⟨n,P,0,true,true⟩:=by simp
   have hc2:Cp k (X+1) b all R q (fun m=>dn m\/m=n) { s with fs:=s.fs++ [(⟨n,P,0,true,true⟩:Fr)],pages:=max s.pages (n+1) }:=by
    refine⟨hc.hl.mono (Nat.le_succ _),fun f hf hd=> ?_,fun f hf hd=> ?_,fun m hm=> ?_⟩
    ·rcases mem_append.1 hf with h5|h5
     ·exact hc.dirty f h5 hd
     ·rw[mem_singleton.1 h5];exact hn
    ·rcases mem_append.1 hf with h5|h5
     ·rcases hd with hd|hd
      ·exact hc.pg f h5 hd
      ·exact absurd hd (hno f h5)
     ·rw[mem_singleton.1 h5];exact hP
    ·rcases hm with hm|hm
     ·rcases hc.there m hm with⟨f,hf,h2⟩|h2
      ·exact .inl ⟨f,mem_append_left _ hf,h2⟩
      ·exact .inr h2
     ·exact .inl ⟨⟨n,P,0,true,true⟩,mem_append_right _ (.head _),hm.symm,rfl⟩
   show Cp k (X+1) b all R q (fun m=>dn m\/m=n) { s with fs:=(s.fs++ [F]).set s.fs.length ⟨n,P,0,true,true⟩,pages:=max s.pages (n+1) }
   have e2:(s.fs++ [F]).set s.fs.length ⟨n,P,0,true,true⟩=s.fs++ [(⟨n,P,0,true,true⟩:Fr)]:=by simp
   rw[e2]
   exact hc2
  ·exact((hc.mono (Nat.le_succ _)).same hsm h1).turn (s:=s) (j:=j) (P:=P) (hsame hsm) hk (fun g hg hgd=>by rw[show fs1[j]? =some g from hg]at hf;cases hf;rw[hd]at hgd;cases hgd) hn hP (F:=⟨n,P,0,true,true⟩) ⟨rfl,rfl,rfl⟩ _ h1
  ·obtain⟨_,⟨_,hW,hpg⟩|⟨h0,_⟩⟩:=(hc.same hsm h1).wrote hX hb (mem_of_getElem? hf) ((hc.same hsm h1).dirty f (mem_of_getElem? hf) hd) hR
   ·exact hW.turn (s:=s) (j:=j) (P:=P) (hsame hsm) hk (fun g2 hg2 _=>by rw[show fs1[j]? =some g2 from hg2]at hf;cases hf;exact .inr hpg) hn hP (F:=⟨n,P,0,true,true⟩) ⟨rfl,rfl,rfl⟩ _ _
   ·exact absurd hw0 h0
theorem GI.cp{dn:Nat->Prop}{s s1:St}{n:Nat}{c:Int}(h:GI s s1 n c)(hc:Cp k X b all R q dn s)(hX:X+2<big)(hb:b.length<big):DC c/\Bad k (X+1) b all R q s1:=by
 rcases h with⟨rfl,rfl,_⟩|⟨_,_,hnl,fs1,h1,hsm,hh1,⟨rfl,_,rfl⟩|⟨j,f,g,hf,hpin,hd,hR,rfl,rfl⟩⟩
 ·exact⟨.inr (by decide),hc.bad.mono (Nat.le_succ _)⟩
 ·exact⟨.inr (by decide),(hc.same hsm h1).bad.mono (Nat.le_succ _)⟩
 ·have hs:=hc.same hsm h1
  obtain⟨hdc,hcase⟩:=hs.wrote hX hb (mem_of_getElem? hf) (hs.dirty f (mem_of_getElem? hf) hd) hR
  refine⟨hdc,?_,hs.dirty⟩
  rcases hcase with⟨_,hW,_⟩|⟨_,hb⟩
  ·exact .inl hW.hl
  ·exact hb
end
section
variable {k X:Nat} {b:List UInt8} {all:List ByteArray} {R:Nat->Sl.Recs} {q:Nat}
theorem Cp.to{dn dn':Nat->Prop}{s:St}(h:Cp k X b all R q dn s)(he:∀n,dn' n->dn n):Cp k X b all R q dn' s:=⟨h.hl,h.dirty,fun f hf hd=>h.pg f hf (he _ hd),fun n hn=>h.there n (he _ hn)⟩
theorem Hg.cp{Ps:List AP}(hR:∀n:Nat,R n=recs Ps n){N:Nat}(hN:10000<=N)(hb:b.length<big){L:List Int}{s s1:St}{c:Int}(h:Hg Ps L s s1 c):∀{X Y:Nat}{dn:Nat->Prop},Cp k X b all R q dn s->WJ N Y s->Idle s 5000->Low s->s.pages<=4096->(∀z∈L,0<=z/\z<=30/\0<Af all z)->X+L.length+2<big->
  DC c/\((c=0/\Cp k (X+L.length) b all R q (fun m=>dn m\/(m:Int)∈L) s1/\WJ N (Y+L.length) s1/\Idle s1 5000/\Low s1/\s1.pages<=4096)\/(c≠0/\Bad k (X+L.length) b all R q s1)):=by
 induction h with
 |nil s=>exact fun h1 h2 h3 h4 h5 _ _=>⟨.inl rfl,.inl ⟨rfl,h1.to (fun n hn=>hn.elim id (fun h=>(by cases h))),h2,h3,h4,h5⟩⟩
 |ok n L s s2 s' c h1 _ ih=>
  intro X Y dn hc hw hi hl hp hz hX
  obtain⟨hz0,hz30,hzi⟩:=hz n (.head _)
  rw[length_cons]at hX
  have hnn:((n.toNat:Nat):Int)=n:=by omega
  have hk:=h1.kept hw hN hi hl hp (by omega)
  have hc2:=h1.cp hc hi.nd (by omega) hb (by rw[hnn];exact hzi) (by rw[hR];rfl)
  obtain⟨i1,i2⟩:=ih hc2 hk.wj hk.idle hk.low hk.pages (fun z hz2=>hz z (.tail _ hz2)) (by omega)
  refine⟨i1,?_⟩
  rw[length_cons,show X+(L.length+1)=X+1+L.length by omega,show Y+(L.length+1)=Y+1+L.length by omega]
  rcases i2 with⟨c0,i3,i4⟩|i3
  ·refine .inl ⟨c0,i3.to fun m hm=> ?_,i4⟩
   rcases hm with hm|hm
   ·exact .inl (.inl hm)
   ·rcases mem_cons.1 hm with e|hm
    ·exact .inl (.inr (by omega))
    ·exact .inr hm
  ·exact .inr i3
 |bad n L s s2 c hc0 h1=>
  intro X Y dn hc hw hi hl hp hz hX
  rw[length_cons]at hX
  obtain⟨i1,i2⟩:=h1.cp hc (by omega) hb
  exact⟨i1,.inr ⟨hc0,i2.mono (by rw[length_cons];omega)⟩⟩
theorem O5.set{fs:List Fr}(h:O5 fs){j:Nat}{f F:Fr}(hf:fs[j]? =some f)(hF:F.n=f.n):O5 (fs.set j F):=by
 have hj:=(List.getElem?_eq_some_iff.1 hf).1
 have key:∀(i:Nat)(g:Fr),(fs.set j F)[i]? =some g->∃g0,fs[i]? =some g0/\g.n=g0.n:=fun i g hg=>by
  by_cases e:j=i
  ·subst e
   rw[List.getElem?_set_self hj]at hg
   exact⟨f,hf,by rw[<- Option.some.inj hg];exact hF⟩
  ·rw[List.getElem?_set_ne e]at hg
   exact⟨g,hg,rfl⟩
 intro i i2 g g2 hne h1 h2
 obtain⟨a,ha,e1⟩:=key i g h1
 obtain⟨a2,ha2,e2⟩:=key i2 g2 h2
 rw[e1,e2]
 exact h i i2 a a2 hne ha ha2
def img(all:List ByteArray)(n:Nat):Prop:=0<Af all (n:Int)
theorem EJ.cp(hb:b.length<big){L:List Int}{s s':St}{c:Int}(h:EJ L s s' c):∀{X:Nat},Cp k X b all R q (img all) s->O5 s.fs->X+L.length+2<big->(∀z∈L,0<Af all z)->(∀f∈s.fs,f.dirty=true->(f.n:Int)∈L)->
  DC c/\((c=0/\Cp k (X+L.length) b all R q (img all) s'/\∀f∈s'.fs,f.dirty=false)\/(c≠0/\Bad k (X+L.length) b all R q s')):=by
 induction h with
 |nil s=>exact fun h1 _ _ _ h5=>⟨.inl rfl,.inl ⟨rfl,h1,fun f hf=>by
   cases e:f.dirty with
   |false=>rfl
   |true=>exact absurd (h5 f hf e) (by simp)⟩⟩
 |ok z l s s' c j f g hfd hf hfn hg hE hfl ih=>
  intro X hc hnd hX hz hd
  rw[length_cons]at hX
  have hj:=(List.getElem?_eq_some_iff.1 hf).1
  have hfi:0<Af all (f.n:Int):=by rw[hfn];exact hz z (.head _)
  obtain⟨_,⟨_,hW,hP⟩|⟨h0,_⟩⟩:=hc.wrote (by omega) hb (mem_of_getElem? hf) hfi hg
  ·have hc2:Cp k (X+1) b all R q (img all) { s.wrote f g.bs with fs:=s.fs.set j { f with dirty:=false } }:=by
    refine⟨hW.hl,fun F hF hd2=> ?_,fun F hF hd2=> ?_,fun m hm=> ?_⟩
    ·rcases mem_or_eq_of_mem_set hF with h5|rfl
     ·exact hW.dirty F h5 hd2
     ·cases hd2
    ·rcases mem_or_eq_of_mem_set hF with h5|rfl
     ·exact hW.pg F h5 hd2
     ·exact hW.pg f (mem_of_getElem? hf) hd2
    ·rcases hW.there m hm with⟨F,hF,h1,h2⟩|h1
     ·obtain⟨i,hi⟩:=Sm hF
      by_cases e:j=i
      ·subst e
       have hi:s.fs[j]? =some F:=hi
       rw[hf]at hi
       cases hi
       rw[h1]at hP
       exact .inr (hP hm)
      ·exact .inl ⟨F,List.mem_iff_getElem?.2 ⟨i,by rw[List.getElem?_set_ne e];exact hi⟩,h1,h2⟩
     ·exact .inr h1
   obtain⟨i1,i2⟩:=ih hc2 (hnd.set hf rfl) (by omega) (fun y hy=>hz y (.tail _ hy)) (fun F hF hFd=>by
    have hF:F∈s.fs.set j { f with dirty:=false }:=hF
    obtain⟨i,hi⟩:=Sm hF
    by_cases e:j=i
    ·subst e
     rw[List.getElem?_set_self hj]at hi
     rw[<- Option.some.inj hi]at hFd
     cases hFd
    ·rw[List.getElem?_set_ne e]at hi
     rcases mem_cons.1 (hd F (mem_of_getElem? hi) hFd)with h5|h5
     ·exact absurd (by omega:f.n=F.n) (hnd j i f F e hf hi)
     ·exact h5)
   rw[length_cons,show X+(l.length+1)=X+1+l.length by omega]
   exact⟨i1,i2⟩
  ·exact absurd hE h0
 |bad z l s j f g hfd hf hfn hg hE=>
  intro X hc hnd hX hz hd
  rw[length_cons]at hX
  have hfi:0<Af all (f.n:Int):=by rw[hfn];exact hz z (.head _)
  obtain⟨hdc,hcase⟩:=hc.wrote (by omega) hb (mem_of_getElem? hf) hfi hg
  refine⟨hdc,.inr ⟨hE,?_,hc.dirty⟩⟩
  rw[length_cons]
  rcases hcase with⟨h0,_⟩|⟨_,hbad⟩
  ·exact absurd h0 hE
  ·exact hbad.imp (·.mono (by omega)) (·.mono (by omega))
theorem Live.syncD{m:Nat}{B:List UInt8}{G:Cont->Prop}{d:Dk}(h:Live k m B G d)(hq:d.find AX=some q):Live k m B G (d.sync AX).1/\((d.sync AX).2=0->(d.sync AX).1.file q=(d.file q).sync):=by
 obtain⟨hql,hqk,hqG⟩:=h.dat hq
 obtain⟨ok,tidy⟩:=h.fok.at hql
 rcases GY d AX with⟨c,hne⟩|⟨q',hq',h0,c⟩
 ·exact⟨h.core c,fun e=>absurd e hne⟩
 ·rw[hq]at hq'
  cases hq'
  refine⟨Live.core c ⟨h.fok.put (Fl.Pq ok) (Fl.KO _) q,h.log,by rw[DD];exact h.lt,by rw[BM _ (Ne.symm hqk)];exact h.logc,fun j=> ?_⟩,fun _=>by rw[c.file,CO hql]⟩
  rcases h.data j with h1|⟨q2,h1,h2,h3,h4⟩
  ·exact .inl h1
  ·refine .inr ⟨q2,h1,by rw[DD];exact h2,h3,fun c' hc'=> ?_⟩
   by_cases e:q2=q
   ·subst e
    rw[CO hql]at hc'
    exact h4 c' (Fl.Cr.sync ok tidy hc')
   ·rw[BM _ e]at hc'
    exact h4 c' hc'
structure Wd(k X:Nat)(b:List UInt8)(all:List ByteArray)(R:Nat->Sl.Recs)(q:Nat)(s:St):Prop where
 hl:Hl k X b all R q s.d s.lg
 firm:∀c,(s.d.file q).Cr c->Gof [] R c
 clean:∀f∈s.fs,f.dirty=false
theorem Wd.bad{s:St}(h:Wd k X b all R q s):Bad k X b all R q s:=⟨.inl h.hl,fun f hf hd=>by rw[h.clean f hf]at hd;cases hd⟩
theorem nums_len(s:St):(Eb (nums Eh s.fs)).length<=s.fs.length:=by
 rw[E5,nums,length_map]
 exact length_filter_le _ _
theorem Fg.cp(hb:b.length<big){s s1:St}{c:Int}(h:Fg s s1 c)(hc:Cp k X b all R q (img all) s)(hnd:O5 s.fs)(hl:s.fs.length<=64)(hX:X+64+2<big):
  DC c/\((c=0/\Wd k (X+64) b all R q s1)\/(c≠0/\Bad k (X+64) b all R q s1)):=by
 rcases h with⟨_,rfl,rfl⟩|⟨_,s2,c2,hW,hcase⟩
 ·exact⟨.inr (by decide),.inr ⟨by decide,hc.bad.mono (by omega)⟩⟩
 ·have hL:=nums_len s
  obtain⟨i1,i2⟩:=hW.cp hb hc hnd (by omega) (fun z hz=>by
   obtain⟨f,hf,rfl⟩:=mem_map.1 (Dy.1 hz)
   obtain⟨h1,h2⟩:=mem_filter.1 hf
   exact hc.dirty f h1 h2) (fun f hf hd=>Dy.2 (mem_map.2 ⟨f,mem_filter.2 ⟨hf,hd⟩,rfl⟩))
  rcases i2 with⟨rfl,hc2,hcl⟩|⟨h0,hbad⟩
  ·rcases hcase with⟨h0,_⟩|⟨_,rfl,rfl⟩
   ·exact absurd rfl h0
   ·refine⟨VB _ _,?_⟩
    obtain⟨g1,g2⟩:=hc2.hl.live.syncD hc2.hl.find
    have hH:Hl k (X+64) b all R q (s2.d.sync AX).1 s2.lg:=⟨hc2.hl.code,hc2.hl.name,hc2.hl.lb,hc2.hl.la,hc2.hl.firm,Nat.le_trans hc2.hl.mark (by omega),g1,by rw[(Jp _ _).find];exact hc2.hl.find⟩
    by_cases h0:(s2.d.sync AX).2=0
    ·refine .inl ⟨h0,hH,fun c hcr=> ?_,hcl⟩
     have hcr:((s2.d.sync AX).1.file q).Cr c:=hcr
     rw[g2 h0]at hcr
     rw[Fl.Cr.same (l:=(s2.d.file q).now) hcr]
     obtain⟨hql,_,hqG⟩:=hc2.hl.live.dat hc2.hl.find
     obtain⟨ok,tidy⟩:=hc2.hl.live.fok.at hql
     intro n hn _
     by_cases hi:Af all (n:Int)=0
     ·exact hqG _ (Fl.Cr.now ok tidy) n hn hi
     ·rcases hc2.there n (Nat.pos_of_ne_zero hi)with⟨f,hf,_,h2⟩|h2
      ·rw[hcl f hf]at h2;cases h2
      ·exact h2
    ·exact .inr ⟨h0,.inl hH,hc2.dirty⟩
  ·rcases hcase with⟨_,rfl,rfl⟩|⟨h1,_⟩
   ·exact⟨i1,.inr ⟨h0,hbad.mono (by omega)⟩⟩
   ·exact absurd h1 h0
def Anew(R:Nat->Sl.Recs)(q:Nat)(s:St):Prop:=∃K,Hl K 1 [] [] R q s.d s.lg/\∀f∈s.fs,f.dirty=false
def Half(X:Nat)(b:List UInt8)(R:Nat->Sl.Recs)(s:St):Prop:=s.lg.code≠0/\AnyD (fun m B=>m<=X/\(B=b\/B= [])) (Gof [] R) s.d
theorem Live.names{m:Nat}{B:List UInt8}{G G':Cont->Prop}{d e:Dk}(h:Live k m B G d)(hq:d.find AX=some q)(hG:∀c,(d.file q).Cr c->G' c)(c:Core { d with firm:=d.names,chs:= [] } e):Live k m B G' e:=by
 obtain⟨hql,hqk,_⟩:=h.dat hq
 have hlist:∀i,lists { d with firm:=d.names,chs:= [] } i=d.names:=fun i=>by
  rw[lists]
  show ons d.names (List.take i [])=_
  rw[take_nil];rfl
 refine Live.core c ⟨⟨h.fok.ok,h.fok.tidy⟩,fun i=>by rw[hlist];exact h.find,h.lt,h.logc,fun i=>.inr ⟨q,by rw[hlist];exact hq,hql,hqk,hG⟩⟩
theorem V7.out{s s':St}{T T':Tou}{code:Int}(h:V7 s T s' T' code)(hw:Wd k X b all R q s):
  DC code/\((code=0/\T'=T0/\Anew R q s')\/(code≠0/\T'=T/\(Bad k (X+1) b all R q s'\/Half (X+1) b R s'))):=by
 have hH:=hw.hl
 rcases h with⟨h0,rfl,rfl,rfl⟩|⟨h0,rfl,rfl,rfl⟩
 ·refine⟨NF _,.inr ⟨h0,rfl,.inl ⟨.inl ⟨hH.code,hH.name,hH.lb,hH.la,hH.firm,Nat.le_trans hH.mark (by omega),?_,?_⟩,hw.bad.2⟩⟩⟩
  ·rcases FV s.d with⟨c,_⟩|⟨h1,_⟩
   ·exact hH.live.core c
   ·exact absurd h1 h0
  ·rw[Fp];exact hH.find
 ·have hL:Live k s.lg.mark b (Gof [] R) s.d.Aa.1:=by
   rcases FV s.d with⟨_,h1⟩|⟨_,c⟩
   ·exact absurd h0 h1
   ·exact hH.live.names hH.find hw.firm c
  have hfd:s.d.Aa.1.find AX=some q:=by rw[Fp];exact hH.find
  rw[ML,if_pos hH.code,hH.name]
  have hm:=hH.mark
  rcases hL.renew with⟨r0,K,hK⟩|⟨r0,hA⟩
  ·rw[if_pos r0]
   refine⟨.inl rfl,.inl ⟨rfl,by rw[if_pos rfl],K,⟨hH.code,hH.name,rfl,rfl,rfl,Nat.le_refl _,hK,?_⟩,hw.clean⟩⟩
   rw[RV];exact hfd
  ·rw[if_neg r0]
   refine⟨drenew_dc _ _ _,.inr ⟨r0,by rw[if_neg r0],.inr ⟨r0,hA.mono (fun m B hmB=> ?_) fun _ h=>h⟩⟩⟩
   rcases hmB with⟨rfl,rfl⟩|⟨rfl,rfl⟩
   ·exact⟨by omega,.inl rfl⟩
   ·exact⟨by omega,.inr rfl⟩
end
theorem ahead_irr(a:Chg1):¬Bg a a:=by
 unfold Bg
 rw[if_neg (fun h=>h rfl)]
 omega
theorem ahead_asym{a b:Chg1}(h:Bg a b):¬Bg b a:=by
 unfold Bg at h⊢
 by_cases e:a.page=b.page
 ·rw[if_neg (fun h=>h e)]at h
  rw[if_neg (fun h=>h e.symm)]
  omega
 ·rw[if_pos e]at h
  rw[if_pos (fun h=>e h.symm)]
  omega
theorem ahead_trans{a b c:Chg1}(h:Bg a b)(h':Bg b c):Bg a c:=by
 unfold Bg at h h'⊢
 split at h<;>split at h'<;>split<;>omega
theorem ahead_total{a b:Chg1}(h:Kv a b=false)(hn:¬Bg a b):Bg b a:=by
 unfold Bg at hn⊢
 unfold Kv at h
 by_cases e:a.page=b.page
 ·rw[if_neg (fun h=>h e)]at hn
  rw[if_neg (fun h=>h e.symm)]
  rw[decide_eq_true e.symm,Bool.true_and,decide_eq_false_iff_not]at h
  omega
 ·rw[if_pos e]at hn
  rw[if_pos (fun h=>e h.symm)]
  omega
theorem sort_ext{l m:List Chg1}(hl:l.Pairwise Bg)(hm:m.Pairwise Bg)(h:∀x,x∈l↔x∈m):l=m:=by
 have nd:∀{l:List Chg1},l.Pairwise Bg->l.Nodup:=fun h=>by
  rw[nodup_iff_pairwise_ne]
  exact h.imp fun h e=>by subst e;exact ahead_irr _ h
 exact List.Perm.eq_of_pairwise (le:=Bg) (fun a b _ _ h1 h2=>absurd h2 (ahead_asym h1)) hl hm ((List.perm_ext_iff_of_nodup (nd hl) (nd hm)).2 h)
theorem recs_ext{l m:Sl.Recs}(hl:l.Pairwise fun a b=>a.1<b.1)(hm:m.Pairwise fun a b=>a.1<b.1)(h:∀x,x∈l↔x∈m):l=m:=by
 have nd:∀{l:Sl.Recs},(l.Pairwise fun a b=>a.1<b.1)->l.Nodup:=fun h=>by
  rw[nodup_iff_pairwise_ne]
  exact h.imp fun h e=>by subst e;omega
 exact List.Perm.eq_of_pairwise (le:=fun a b=>a.1<b.1) (fun a b _ _ h1 h2=>by omega) hl hm ((List.perm_ext_iff_of_nodup (nd hl) (nd hm)).2 h)
theorem Pv{c x:Chg1}:Kv c x=true↔(x.page,x.slot)=(c.page,c.slot):=by simp[Kv]
theorem key_false{c x:Chg1}:Kv c x=false↔¬(x.page,x.slot)=(c.page,c.slot):=by
 rw[<- Pv];simp
theorem VY(c:Chg1):∀l,wiG c true l=l
 | []=>rfl
 |d::r=>by
  rw[wiG,if_neg (by simp),VY c r]
theorem X4(c x:Chg1):∀l,x∈wiG c false l↔x=c\/x∈l
 | []=>by simp[wiG]
 |d::r=>by
  rw[wiG]
  split
  ·rw[VY];simp
  ·rw[mem_cons,X4 c x r,mem_cons]
   constructor
   ·rintro(h|h|h)
    ·exact .inr (.inl h)
    ·exact .inl h
    ·exact .inr (.inr h)
   ·rintro(h|h|h)
    ·exact .inr (.inl h)
    ·exact .inl h
    ·exact .inr (.inr h)
theorem chg_mem_iff(l:List Chg1)(c x:Chg1):x∈chgF l c↔(c.gone=false/\x=c)\/(x∈l/\Kv c x=false):=by
 have hw:x∈woF l c↔x∈l/\Kv c x=false:=by rw[woF,mem_filter];simp
 unfold chgF
 split
 ·rename_i h
  rw[hw]
  exact⟨.inr,fun h2=>h2.elim (fun h3=>by rw[h]at h3;cases h3.1) id⟩
 ·rename_i h
  rw[X4,hw]
  have h:c.gone=false:=by simpa using h
  exact⟨fun h2=>h2.imp (fun h3=>⟨h,h3⟩) id,fun h2=>h2.imp (fun h3=>h3.2) id⟩
theorem Z8(c:Chg1):∀(l:List Chg1),l.Pairwise Bg->(∀d∈l,Kv c d=false)->(wiG c false l).Pairwise Bg
 | [],_,_=>by simp[wiG]
 |d::r,hp,hk=>by
  have hp2:=pairwise_cons.1 hp
  rw[wiG]
  split
  ·rename_i h
   have h:Bg c d:=by simpa using h
   rw[VY]
   refine pairwise_cons.2 ⟨fun x hx=> ?_,hp⟩
   rcases mem_cons.1 hx with rfl|hx
   ·exact h
   ·exact ahead_trans h (hp2.1 x hx)
  ·rename_i h
   have h:¬Bg c d:=by simpa using h
   refine pairwise_cons.2 ⟨fun x hx=> ?_,Z8 c r hp2.2 fun x hx=>hk x (.tail _ hx)⟩
   rcases(X4 c x r).1 hx with rfl|hx
   ·exact ahead_total (hk d (.head _)) h
   ·exact hp2.1 x hx
theorem chg_srt{l:List Chg1}(h:l.Pairwise Bg)(c:Chg1):(chgF l c).Pairwise Bg:=by
 have hw:(woF l c).Pairwise Bg:=h.filter _
 unfold chgF
 split
 ·exact hw
 ·exact Z8 c _ hw fun d hd=>by
   have:=(mem_filter.1 hd).2
   simpa using this
theorem Ud:∀(Ps:List AP)(n:Nat)(x:Chg1),x∈DN n Ps↔∃i q,q∈recs Ps i/\x=rowP (n+i) q
 | [],n,x=>by
  simp only[DN,List.not_mem_nil,false_iff]
  rintro⟨i,q,h,_⟩
  simp[recs]at h
 |P::r,n,x=>by
  rw[DN,mem_append,Ud r (n+1) x]
  constructor
  ·rintro(h|⟨i,q,h,e⟩)
   ·obtain⟨q,hq,rfl⟩:=mem_map.1 h
    exact⟨0,q,hq,rfl⟩
   ·exact⟨i+1,q,h,by rw[e,show n+1+i=n+(i+1) by omega]⟩
  ·rintro⟨i,q,h,e⟩
   cases i with
   |zero=>exact .inl (mem_map.2 ⟨q,h,e.symm⟩)
   |succ i=>exact .inr ⟨i,q,h,by rw[e,show n+1+i=n+(i+1) by omega]⟩
theorem Jt(Ps:List AP)(x:Chg1):x∈BH Ps↔∃i q,q∈recs Ps i/\x=rowP i q:=by
 rw[BH,Ud];simp only[Nat.zero_add]
theorem rowP_inj{i j:Nat}{p q:Nat×List UInt8}(h:rowP i p=rowP j q):i=j/\p=q:=by
 obtain⟨a,b⟩:=p
 obtain⟨c,d⟩:=q
 simp only[rowP,Chg1.mk.injEq]at h
 obtain⟨h1,h2,h3,_⟩:=h
 have h4:b=d:=by
  have:=congrArg (fun s:ByteArray=>s.data.toList) h3
  exact this
 exact⟨by omega,by rw[h4,show a=c by omega]⟩
theorem SY(Ps:List AP)(n:Nat)(q:Nat×List UInt8):rowP n q∈BH Ps↔q∈recs Ps n:=by
 rw[Jt]
 constructor
 ·rintro⟨i,p,hp,e⟩
  obtain⟨rfl,rfl⟩:=rowP_inj e
  exact hp
 ·exact fun h=>⟨n,q,h,rfl⟩
structure Rel(Ps:List AP)(now:List Chg1)(o:Ord)(la:Last):Prop where
 mem:∀x,x∈now↔(∃c,gget la (x.page,x.slot)=some c/\c.gone=false/\x=c)\/(gget la (x.page,x.slot)=none/\x∈BH Ps)
 srt:now.Pairwise Bg
 keys:o=la.map (·.1)
 nd:o.Nodup
 good:∀p∈la,¬badC p.2/\(p.2.page,p.2.slot)=p.1
theorem F6(c:Chg1):¬badC c->0<=c.page/\c.page<4096/\0<=c.slot/\c.slot<120/\(c.gone=false->c.s.size<=3600):=fun h=>by
 unfold badC at h
 exact⟨Int.not_lt.1 fun e=>h (.inl e),Int.not_le.1 fun e=>h (.inr (.inl e)),Int.not_lt.1 fun e=>h (.inr (.inr (.inl e))),Int.not_le.1 fun e=>h (.inr (.inr (.inr (.inl e)))),fun hg=>Nat.not_lt.1 fun e=>h (.inr (.inr (.inr (.inr ⟨hg,e⟩))))⟩
theorem there_iff{l:List Chg1}{c:Chg1}:QP l c=true↔∃x∈l,(x.page,x.slot)=(c.page,c.slot):=by
 rw[QP,List.any_eq_true]
 exact⟨fun⟨x,h1,h2⟩=>⟨x,h1,Pv.1 h2⟩,fun⟨x,h1,h2⟩=>⟨x,h1,Pv.2 h2⟩⟩
theorem Rel.there{Ps:List AP}{now:List Chg1}{o:Ord}{la:Last}(h:Rel Ps now o la){c:Chg1}(hc:¬badC c):QP now c=match gget la (c.page,c.slot)with
  |some was=> !was.gone
  |none=>FP Ps c:=by
 obtain⟨b1,b2,b3,b4,_⟩:=F6 c hc
 rw[Bool.eq_iff_iff,there_iff]
 cases hg:gget la (c.page,c.slot)with
 |some was=>
  have hw:=h.good _ (Gz hg)
  dsimp only at hw⊢
  constructor
  ·rintro⟨x,hx,hk⟩
   rcases(h.mem x).1 hx with⟨c',h1,h2,_⟩|⟨h1,_⟩
   ·rw[hk,hg]at h1
    cases h1
    simp[h2]
   ·rw[hk,hg]at h1;cases h1
  ·intro hf
   have hf:was.gone=false:=by simpa using hf
   exact⟨was,(h.mem was).2 (.inl ⟨was,by rw[hw.2];exact hg,hf,rfl⟩),hw.2⟩
 |none=>
  dsimp only
  rw[LQ]
  constructor
  ·rintro⟨x,hx,hk⟩
   rcases(h.mem x).1 hx with⟨c',h1,_⟩|⟨_,h2⟩
   ·rw[hk,hg]at h1;cases h1
   ·obtain⟨i,q,hq,rfl⟩:=(Jt Ps x).1 h2
    have e1:(i:Int)=c.page:=congrArg Prod.fst hk
    have e2:(q.1:Int)=c.slot:=congrArg Prod.snd hk
    rw[<- e1,Int.toNat_natCast,<- e2]
    rcases Sl.Jo (L:=recs Ps i) (q.1:Int)with⟨_,h4⟩|⟨K,s,_,_,h5⟩
    ·exact absurd rfl (h4 q hq)
    ·rw[h5];rfl
  ·intro hs
   rcases Sl.Jo (L:=recs Ps c.page.toNat) c.slot with⟨h3,_⟩|⟨K,s,h3,h4,_⟩
   ·rw[h3]at hs;cases hs
   ·have hk:((rowP c.page.toNat (K,s)).page,(rowP c.page.toNat (K,s)).slot)=(c.page,c.slot):=by
     show(((c.page.toNat:Nat):Int),(K:Int))=_
     rw[h3,show((c.page.toNat:Nat):Int)=c.page by omega]
    exact⟨rowP c.page.toNat (K,s),(h.mem _).2 (.inr ⟨by rw[hk];exact hg,(SY Ps _ _).2 h4⟩),hk⟩
theorem Rel.step{Ps:List AP}{now:List Chg1}{o:Ord}{la:Last}(h:Rel Ps now o la){c:Chg1}(hc:¬badC c):
  Rel Ps (chgF now c) (match gget la (c.page,c.slot)with|some _=>o|none=>o++ [(c.page,c.slot)]) (gput la (c.page,c.slot) c):=by
 refine⟨fun x=> ?_,chg_srt h.srt c,?_,?_,fun p hp=> ?_⟩
 ·rw[chg_mem_iff,Dw]
  by_cases hk:(x.page,x.slot)=(c.page,c.slot)
  ·rw[if_pos hk,Pv.2 hk]
   constructor
   ·rintro(⟨h1,h2⟩|⟨_,h2⟩)
    ·exact .inl ⟨c,rfl,h1,h2⟩
    ·cases h2
   ·rintro(⟨c',h1,h2,h3⟩|⟨h1,_⟩)
    ·cases h1;exact .inl ⟨h2,h3⟩
    ·cases h1
  ·rw[if_neg hk,key_false.2 hk,h.mem x]
   constructor
   ·rintro(⟨_,h2⟩|⟨h1,_⟩)
    ·exact absurd (by rw[h2]) hk
    ·exact h1
   ·exact fun h1=>.inr ⟨h1,rfl⟩
 ·cases hg:gget la (c.page,c.slot)with
  |some was=>rw[Tm (by rw[hg];simp)];exact h.keys
  |none=>rw[SN hg,map_append,<- h.keys];rfl
 ·have:=LY (k:=(c.page,c.slot)) (v:=c) (l:=la) (by rw[<- h.keys];exact h.nd)
  cases hg:gget la (c.page,c.slot)with
  |some was=>
   exact h.nd
  |none=>
   rw[SN hg,map_append,<- h.keys]at this
   exact this
 ·rcases JU hp with rfl|hp
  ·exact⟨hc,rfl⟩
  ·exact h.good p hp
theorem Oo{Ps:List AP}:∀(l now:List Chg1)(o:Ord)(la:Last),Rel Ps now o la->(BR Ps l o la=none->rcF now l=none)/\∀z,BR Ps l o la=some z->∃now',rcF now l=some now'/\Rel Ps now' z.1 z.2
 | [],now,o,la,h=>⟨fun e=>(by rw[BR]at e;cases e),fun z e=>(by rw[BR]at e;cases e;exact⟨now,rfl,h⟩)⟩
 |c::r,now,o,la,h=>by
  rw[BR]
  by_cases hb:badC c
  ·have hbr:badR now c:=by
    unfold badC at hb
    unfold badR
    rcases hb with h|h|h|h|h
    ·exact .inl h
    ·exact .inr (.inl h)
    ·exact .inr (.inr (.inl h))
    ·exact .inr (.inr (.inr (.inl h)))
    ·exact .inr (.inr (.inr (.inr (.inr h))))
   rw[if_pos hb]
   exact⟨fun _=>VF hbr,fun z e=>by cases e⟩
  ·obtain⟨b1,b2,b3,b4,b5⟩:=F6 c hb
   have hth:=h.there hb
   have hst:=h.step hb
   have hbr:badR now c↔(c.gone=true/\QP now c=false):=by
    unfold badR
    constructor
    ·rintro(h|h|h|h|h|⟨h1,h2⟩)
     ·omega
     ·omega
     ·omega
     ·omega
     ·exact h
     ·have:=b5 h1;omega
    ·exact fun h=>.inr (.inr (.inr (.inr (.inl h))))
   rw[if_neg hb]
   cases hg:gget la (c.page,c.slot)with
   |some was=>
    rw[hg]at hth hst
    dsimp only at hth hst⊢
    by_cases hgg:c.gone=true/\was.gone=true
    ·rw[if_pos hgg]
     exact⟨fun _=>VF (hbr.2 ⟨hgg.1,by rw[hth,hgg.2];rfl⟩),fun z e=>by cases e⟩
    ·rw[if_neg hgg,Zb (fun e=>by
      obtain⟨e1,e2⟩:=hbr.1 e
      rw[hth]at e2
      exact hgg ⟨e1,by simpa using e2⟩)]
     exact Oo r _ _ _ hst
   |none=>
    rw[hg]at hth hst
    dsimp only at hth hst⊢
    by_cases hgg:c.gone=true/\FP Ps c=false
    ·rw[if_pos hgg]
     exact⟨fun _=>VF (hbr.2 ⟨hgg.1,by rw[hth,hgg.2]⟩),fun z e=>by cases e⟩
    ·rw[if_neg hgg,Zb (fun e=>by
      obtain⟨e1,e2⟩:=hbr.1 e
      rw[hth]at e2
      exact hgg ⟨e1,e2⟩)]
     exact Oo r _ _ _ hst
def recM(Ps:List AP)(M:TM)(n:Int):Sl.Recs:=match gget M n with
 |some P=>P.1
 |none=>recs Ps n.toNat
theorem V8(Ps:List AP)(M:TM)(p:Int)(P:AP)(n:Int):recM Ps (gput M p P) n=if n=p then P.1 else recM Ps M n:=by
 rw[recM,Dw]
 by_cases h:n=p
 ·rw[if_pos h,if_pos h]
 ·rw[if_neg h,if_neg h];rfl
def JY:Ord->(Int->Sl.Recs)->Int->Sl.Recs
 | [],F=>F
 |(p,s)::r,F=>JY r fun n=>if n=p then Sl.wo (F n) s.toNat else F n
theorem adel_wo(L:Sl.Recs){s:Int}(hs:0<=s):(Sl.adel L s).1=Sl.wo L s.toNat:=by
 unfold Sl.adel
 rcases Sl.Jo (L:=L) s with⟨h1,h2⟩|⟨K,t,_,_,h3⟩
 ·rw[h1,if_neg (by simp)]
  exact(Sl.KF fun t ht=>h2 _ ht (by simp only;omega)).symm
 ·rw[h3];rfl
theorem Yn{Ps:List AP}:∀(o:Ord)(M:TM),(∀q∈o,0<=q.2)->recM Ps (delF Ps o M)=JY o (recM Ps M)
 | [],M,_=>rfl
 |(p,s)::r,M,h=>by
  rw[delF,JY,Yn r _ fun q hq=>h q (.tail _ hq)]
  congr 1
  funext n
  rw[V8]
  have hP:((gget M p).getD (CJ Ps p)).1=recM Ps M p:=by
   rw[recM]
   cases gget M p with
   |none=>rfl
   |some P=>rfl
  split
  ·rename_i e
   subst e
   rw[<- hP]
   exact adel_wo _ (h (n,s) (.head _))
  ·rfl
theorem Vb{Ps:List AP}:∀(o:Ord)(M:TM)(n:Int),((∃q∈o,q.1=n)\/gget M n≠none)->gget (delF Ps o M) n≠none
 | [],M,n,h=>h.elim (fun⟨q,hq,_⟩=>by cases hq) id
 |(p,s)::r,M,n,h=>by
  rw[delF]
  refine Vb r _ n ?_
  rcases h with⟨q,hq,rfl⟩|h
  ·rcases mem_cons.1 hq with rfl|hq
   ·right;rw[Dw,if_pos rfl];simp
   ·exact .inl ⟨q,hq,rfl⟩
  ·right
   rw[Dw]
   split
   ·simp
   ·exact h
theorem Lt:∀(o:Ord)(F:Int->Sl.Recs)(n:Int)(q:Nat×List UInt8),(∀z∈o,0<=z.2)->(q∈JY o F n↔q∈F n/\(n,(q.1:Int))∉o)
 | [],F,n,q,_=>by simp[JY]
 |(p,s)::r,F,n,q,h=>by
  have h0:0<=s:=h (p,s) (.head _)
  rw[JY,Lt r _ n q fun z hz=>h z (.tail _ hz)]
  by_cases hn:n=p
  ·subst hn
   rw[if_pos rfl,Sl.Zu,mem_cons,Prod.mk.injEq]
   constructor
   ·rintro⟨⟨h1,h2⟩,h3⟩
    exact⟨h1,fun h4=>h4.elim (fun h5=>h2 (by omega)) h3⟩
   ·rintro⟨h1,h2⟩
    exact⟨⟨h1,fun h3=>h2 (.inl ⟨rfl,by omega⟩)⟩,fun h3=>h2 (.inr h3)⟩
  ·rw[if_neg hn,mem_cons,Prod.mk.injEq]
   constructor
   ·rintro⟨h1,h2⟩
    exact⟨h1,fun h3=>h3.elim (fun h4=>hn h4.1) h2⟩
   ·rintro⟨h1,h2⟩
    exact⟨h1,fun h3=>h2 (.inr h3)⟩
theorem Sr:∀(o:Ord)(F:Int->Sl.Recs),(∀n,(F n).Pairwise fun a b=>a.1<b.1)->∀n,(JY o F n).Pairwise fun a b=>a.1<b.1
 | [],F,h=>h
 |(p,s)::r,F,h=>Sr r _ fun n=>by
  split
  ·exact(h n).filter _
  ·exact h n
def GK(la:Last):Ord->(Int->Sl.Recs)->Int->Sl.Recs
 | [],F=>F
 |(p,s)::r,F=>GK la r (match gget la (p,s)with
  |some c=>if c.gone=true then F else fun n=>if n=p then Sl.insR (s.toNat,c.s.data.toList) (F n)else F n
  |none=>F)
theorem Xt(la:Last):∀(o:Ord)(F:Int->Sl.Recs)(n:Int),Sl.tot (F n)<=Sl.tot (GK la o F n)
 | [],F,n=>Nat.le_refl _
 |(p,s)::r,F,n=>by
  rw[GK]
  refine Nat.le_trans ?_ (Xt la r _ n)
  cases gget la (p,s)with
  |none=>exact Nat.le_refl _
  |some c=>
   dsimp only
   split
   ·exact Nat.le_refl _
   ·dsimp only
    split
    ·rw[Sl.Ic (Sl.Gi _ _),Sl.DV];omega
    ·exact Nat.le_refl _
structure Free(la:Last)(o:Ord)(F:Int->Sl.Recs):Prop where
 nd:o.Nodup
 good:∀q∈o,∃c,gget la q=some c/\¬badC c/\(c.page,c.slot)=q
 free:∀q∈o,∀b,(q.2.toNat,b)∉F q.1
theorem Free.next{la:Last}{p s:Int}{r:Ord}{F:Int->Sl.Recs}(h:Free la ((p,s)::r) F){c:Chg1}(hc:gget la (p,s)=some c):Free la r (if c.gone=true then F else fun n=>if n=p then Sl.insR (s.toNat,c.s.data.toList) (F n)else F n):=by
 have hn:=nodup_cons.1 h.nd
 have key:∀q∈(p,s)::r,0<=q.2:=fun q hq=>by
  obtain⟨c,_,hb,he⟩:=h.good q hq
  have:=(F6 c hb).2.2.1
  rw[<- he];exact this
 refine⟨hn.2,fun q hq=>h.good q (.tail _ hq),fun q hq b=> ?_⟩
 split
 ·exact h.free q (.tail _ hq) b
 ·dsimp only
  split
  ·rename_i e
   rw[Sl.FK]
   rintro(h1|h1)
   ·have h2:q.2.toNat=s.toNat:=congrArg Prod.fst h1
    have k1:=key q (.tail _ hq)
    have k2:0<=s:=key (p,s) (.head _)
    have:q=(p,s):=Prod.ext e (by show q.2=s;omega)
    rw[this]at hq
    exact hn.1 hq
   ·exact h.free q (.tail _ hq) b h1
  ·exact h.free q (.tail _ hq) b
theorem ZF(la:Last):∀(o:Ord)(F:Int->Sl.Recs),Free la o F->(∀n,(F n).Pairwise fun a b=>a.1<b.1)->∀n,(GK la o F n).Pairwise fun a b=>a.1<b.1
 | [],F,_,h=>h
 |(p,s)::r,F,hf,h=>by
  obtain⟨c,hc,_⟩:=hf.good (p,s) (.head _)
  have hn:=hf.next hc
  rw[GK,hc]
  refine ZF la r _ hn fun n=> ?_
  dsimp only
  split
  ·exact h n
  ·dsimp only
   split
   ·rename_i e
    refine Sl.Hm _ _ (h n) fun q hq e2=> ?_
    obtain⟨q1,q2⟩:=q
    have e2:q1=s.toNat:=e2
    subst e2
    rw[e]at hq
    exact hf.free (p,s) (.head _) q2 hq
   ·exact h n
theorem Yx(la:Last):∀(o:Ord)(F:Int->Sl.Recs)(n:Int)(q:Nat×List UInt8),q∈GK la o F n↔q∈F n\/∃s c,(n,s)∈o/\gget la (n,s)=some c/\c.gone=false/\q=(s.toNat,c.s.data.toList)
 | [],F,n,q=>by simp[GK]
 |(p,s)::r,F,n,q=>by
  rw[GK,Yx la r _ n q]
  have hh:q∈(match gget la (p,s)with
    |some c=>if c.gone=true then F else fun n=>if n=p then Sl.insR (s.toNat,c.s.data.toList) (F n)else F n
    |none=>F) n↔q∈F n\/(n=p/\∃c,gget la (p,s)=some c/\c.gone=false/\q=(s.toNat,c.s.data.toList)):=by
   cases hg:gget la (p,s)with
   |none=>exact⟨.inl,fun h=>h.elim id fun⟨_,c,h1,_⟩=>by cases h1⟩
   |some c=>
    dsimp only
    split
    ·rename_i e
     exact⟨.inl,fun h=>h.elim id fun⟨_,c',h1,h2,_⟩=>by cases h1;rw[e]at h2;cases h2⟩
    ·rename_i e
     have e:c.gone=false:=by simpa using e
     dsimp only
     by_cases hn:n=p
     ·rw[if_pos hn,Sl.FK]
      exact⟨fun h=>h.elim (fun h1=>.inr ⟨hn,c,rfl,e,h1⟩) .inl,fun h=>h.elim .inr fun⟨_,c',h1,_,h3⟩=>by cases h1;exact .inl h3⟩
     ·rw[if_neg hn]
      exact⟨.inl,fun h=>h.elim id fun h1=>absurd h1.1 hn⟩
  rw[hh]
  constructor
  ·rintro((h|⟨rfl,c,h1,h2,h3⟩)|⟨t,c,h1,h2⟩)
   ·exact .inl h
   ·exact .inr ⟨s,c,.head _,h1,h2,h3⟩
   ·exact .inr ⟨t,c,.tail _ h1,h2⟩
  ·rintro(h|⟨t,c,h1,h2,h3,h4⟩)
   ·exact .inl (.inl h)
   ·rcases mem_cons.1 h1 with h5|h5
    ·have e1:n=p:=congrArg Prod.fst h5
     have e2:t=s:=congrArg Prod.snd h5
     subst e1 e2
     exact .inl (.inr ⟨rfl,c,h2,h3,h4⟩)
    ·exact .inr ⟨t,c,h5,h2,h3,h4⟩
theorem VW{Ps:List AP}(la:Last):∀(o:Ord)(M:TM)(F:Int->Sl.Recs),recM Ps M=F->(∀q∈o,gget M q.1≠none)->Free la o F->
  (∀M',putF o la M=some M'->recM Ps M'=GK la o F)/\(putF o la M=none->∃q∈o,3600<Sl.tot (GK la o F q.1))
 | [],M,F,hF,_,_=>⟨fun M' e=>by rw[putF]at e;cases e;exact hF,fun e=>by rw[putF]at e;cases e⟩
 |(p,s)::r,M,F,hF,hM,hf=>by
  obtain⟨c,hc,hb,hk⟩:=hf.good (p,s) (.head _)
  obtain⟨b1,b2,b3,b4,b5⟩:=F6 c hb
  have hs:c.slot=s:=congrArg Prod.snd hk
  rw[hs]at b3 b4
  have hn:=hf.next hc
  have hMp:=hM (p,s) (.head _)
  cases hP:gget M p with
  |none=>exact absurd hP hMp
  |some P=>
   have hFp:F p=P.1:=by rw[<- hF,recM,hP]
   rw[putF,hc,hP,GK,hc]
   dsimp only
   by_cases hg:c.gone=true
   ·rw[if_pos hg]at hn⊢
    rw[if_pos hg]
    obtain⟨i1,i2⟩:=VW la r M F hF (fun q hq=>hM q (.tail _ hq)) hn
    exact⟨i1,fun e=>by obtain⟨q,hq,h⟩:=i2 e;exact⟨q,.tail _ hq,h⟩⟩
   ·rw[if_neg hg]at hn⊢
    rw[if_neg hg]
    have hwo:Sl.wo P.1 s.toNat=P.1:=Sl.KF fun t ht=>hf.free (p,s) (.head _) t (by rw[hFp];exact ht)
    have hap:Sl.aput P.1 s c.s.data.toList=if 3600<Sl.tot P.1+c.s.data.toList.length then(P.1,111)else(Sl.insR (s.toNat,c.s.data.toList) P.1,0):=by
     rw[Sl.aput,if_neg (by omega),hwo]
    by_cases ht:3600<Sl.tot P.1+c.s.data.toList.length
    ·rw[if_pos ht]at hap
     rw[hap,if_neg (show¬((111:Int)=0) by decide)]
     refine⟨fun M' e=>(by cases e),fun _=>⟨(p,s),.head _,Nat.lt_of_lt_of_le ?_ (Xt la r _ p)⟩⟩
     rw[if_pos rfl,Sl.Ic (Sl.Gi _ _),Sl.DV,hFp]
     dsimp only
     omega
    ·rw[if_neg ht]at hap
     rw[hap,if_pos rfl]
     obtain⟨i1,i2⟩:=VW la r (gput M p (Sl.insR (s.toNat,c.s.data.toList) P.1,P.2)) _ (by
      funext n
      rw[V8,<- hF]
      by_cases e:n=p
      ·rw[if_pos e,if_pos e,e]
       rw[<- hF]at hFp
       rw[hFp]
      ·rw[if_neg e,if_neg e]) (fun q hq=>by
       rw[Dw]
       split
       ·simp
       ·exact hM q (.tail _ hq)) hn
     exact⟨i1,fun e=>by obtain⟨q,hq,h⟩:=i2 e;exact⟨q,.tail _ hq,h⟩⟩
theorem WO(p:Int):∀(n:Nat)(l:List Chg1),l.length=n->Rw l p=3600-(((l.filter fun d=>decide (d.page=p)).map fun d=>d.s.size).sum:Nat)
 |0,l,hl=>by rw[eq_nil_of_length_eq_zero hl];rfl
 |n+1,l,hl=>by
  rcases List.eq_nil_or_concat l with rfl|⟨r,d,rfl⟩
  ·cases hl
  rw[List.concat_eq_append]at*
  have ih:=WO p n r (by simpa using hl)
  rw[room_snoc,ih,filter_append,map_append,List.sum_append]
  by_cases h:d.page=p
  ·rw[if_pos h,List.filter_cons_of_pos (by simpa using h)]
   simp only[List.filter_nil,map_cons,map_nil,sum_cons,sum_nil]
   omega
  ·rw[if_neg h,List.filter_cons_of_neg (by simpa using h)]
   simp
def aT(x:Chg1):Nat×List UInt8:=(x.slot.toNat,x.s.data.toList)
theorem G7(n:Nat)(q:Nat×List UInt8):aT (rowP n q)=q:=by
 obtain⟨a,b⟩:=q
 show(((a:Nat):Int).toNat,b)=_
 rw[Int.toNat_natCast]
theorem tot_map(l:List Chg1):Sl.tot (l.map aT)=(l.map fun d=>d.s.size).sum:=by
 rw[Sl.tot,map_map]
 congr 1
structure Nice(Ps:List AP):Prop where
 rep:∀P∈Ps,∃g,Sl.Rep g P.1 P.2
theorem Nice.at{Ps:List AP}(h:Nice Ps)(n:Nat):((recs Ps n).Pairwise fun a b=>a.1<b.1)/\Sl.tot (recs Ps n)<=3600:=by
 rw[recs]
 cases e:Ps[n]? with
 |none=>exact⟨.nil,by show 0<=3600;omega⟩
 |some P=>
  obtain⟨g,hg⟩:=h.rep P (mem_of_getElem? e)
  exact⟨hg.sorted,hg.small⟩
theorem Nice.srt{Ps:List AP}(h:Nice Ps):(BH Ps).Pairwise Bg:=(UE Ps 0 fun P hP=>by
 obtain⟨g,hg⟩:=h.rep P hP
 exact hg.sorted).1
theorem Rk{Ps:List AP}(hN:Nice Ps)(l:List Chg1):
  (CY Ps l=none->FC (BH Ps) l=(BH Ps,false))/\
  ∀M st L,CY Ps l=some M->Nice (layP st (BJ Ps L) M)->FC (BH Ps) l=(BH (layP st (BJ Ps L) M),true):=by
 have hR0:Rel Ps (BH Ps) [] []:=⟨fun x=>⟨fun h=>.inr ⟨rfl,h⟩,fun h=>h.elim (fun⟨c,h1,_⟩=>by cases h1) fun h=>h.2⟩,hN.srt,rfl,.nil,by simp⟩
 obtain⟨hf1,hf2⟩:=Oo l (BH Ps) [] [] hR0
 unfold CY
 cases hz:BR Ps l [] []with
 |none=>
  refine⟨fun _=> ?_,fun M st L e=>by cases e⟩
  rw[FC,hf1 hz]
 |some z=>
  obtain⟨o,la⟩:=z
  obtain⟨now,hnow,hR⟩:=hf2 _ hz
  have hpg:=F9 Ps l [] [] hz
  dsimp only at hR hpg⊢
  have hgood:∀q∈o,∃c,gget la q=some c/\¬badC c/\(c.page,c.slot)=q:=fun q hq=>by
   rw[hR.keys]at hq
   obtain⟨p,hp,rfl⟩:=mem_map.1 hq
   have:=hR.good p hp
   exact⟨p.2,P9 (by rw[<- hR.keys];exact hR.nd) hp,this.1,this.2⟩
  have hpos:∀q∈o,0<=q.2:=fun q hq=>by
   obtain⟨c,_,hb,he⟩:=hgood q hq
   rw[<- he];exact(F6 c hb).2.2.1
  obtain⟨F0,hF0⟩:∃F0,F0=JY o fun n=>recs Ps n.toNat:=⟨_,rfl⟩
  have hdel:recM Ps (delF Ps o [])=F0:=by rw[hF0,Yn o [] hpos];rfl
  have hfree:Free la o F0:=⟨hR.nd,hgood,fun q hq b hb=>by
   rw[hF0,Lt o _ _ _ hpos]at hb
   refine hb.2 ?_
   have:=hpos q hq
   have e:(q.1,((q.2.toNat:Nat):Int))=q:=Prod.ext rfl (by show((q.2.toNat:Nat):Int)=q.2;omega)
   rw[e];exact hq⟩
  obtain⟨hp1,hp2⟩:=VW (Ps:=Ps) la o (delF Ps o []) F0 hdel (fun q hq=>Vb o [] q.1 (.inl ⟨q,hq,rfl⟩)) hfree
  obtain⟨F,hF⟩:∃F,F=GK la o F0:=⟨_,rfl⟩
  rw[<- hF]at hp1 hp2
  have hFs:∀n,(F n).Pairwise fun a b=>a.1<b.1:=by
   rw[hF]
   exact ZF la o F0 hfree (by rw[hF0];exact Sr o _ fun n=>(hN.at _).1)
  have hkey:∀k,gget la k=none↔k∉o:=fun k=>by
   rw[Ob,hR.keys]
   constructor
   ·intro h hm
    obtain⟨p,hp,e⟩:=mem_map.1 hm
    exact h p hp e
   ·intro h p hp e
    exact h (mem_map.2 ⟨p,hp,e⟩)
  have hmem:∀(n:Nat)(q:Nat×List UInt8),q∈F (n:Int)↔rowP n q∈now:=fun n q=>by
   rw[hF,Yx,hF0,Lt o _ _ _ hpos,hR.mem,Int.toNat_natCast,SY]
   have hk:((rowP n q).page,(rowP n q).slot)=((n:Int),(q.1:Int)):=rfl
   rw[hk,hkey]
   constructor
   ·rintro(⟨h1,h2⟩|⟨s,c,h1,h2,h3,rfl⟩)
    ·exact .inr ⟨h2,h1⟩
    ·obtain⟨c',h4,hb,he⟩:=hgood _ h1
     rw[h2]at h4
     cases h4
     have e1:c.page=(n:Int):=congrArg Prod.fst he
     have e2:c.slot=s:=congrArg Prod.snd he
     have hs:=hpos _ h1
     dsimp only at hs
     have e3:(((s.toNat:Nat)):Int)=s:=by omega
     refine .inl ⟨c,by dsimp only;rw[e3];exact h2,h3,?_⟩
     obtain⟨cp,cs,ct,cg⟩:=c
     dsimp only at e1 e2 h3
     subst e1 e2 h3
     show Chg1.mk (n:Int) ((cs.toNat:Nat):Int) ct false=_
     rw[e3]
   ·rintro(⟨c,h1,h2,h3⟩|⟨h1,h2⟩)
    ·right
     have h4:((n:Int),(q.1:Int))∈o:=Classical.byContradiction fun h=>by rw[(hkey _).2 h]at h1;cases h1
     refine⟨(q.1:Int),c,h4,h1,h2,?_⟩
     rw[<- h3]
     exact(G7 n q).symm
    ·exact .inl ⟨h2,h1⟩
  have hall:∀x∈now,∃(n:Nat)(q:Nat×List UInt8),x=rowP n q:=fun x hx=>by
   rcases(hR.mem x).1 hx with⟨c,h1,h2,rfl⟩|⟨_,h2⟩
   ·have hg:=hR.good _ (Gz h1)
    obtain⟨b1,_,b3,_,_⟩:=F6 x hg.1
    obtain⟨xp,xs,xt,xg⟩:=x
    dsimp only at b1 b3 h2
    subst h2
    refine⟨xp.toNat,(xs.toNat,xt.data.toList),?_⟩
    show _=Chg1.mk ((xp.toNat:Nat):Int) ((xs.toNat:Nat):Int) xt false
    rw[show((xp.toNat:Nat):Int)=xp by omega,show((xs.toNat:Nat):Int)=xs by omega]
   ·obtain⟨i,q,_,rfl⟩:=(Jt Ps x).1 h2
    exact⟨i,q,rfl⟩
  have hroom:∀n:Nat,Rw now (n:Int)=3600-(Sl.tot (F (n:Int)):Int):=fun n=>by
   rw[WO (n:Int) _ now rfl,<- tot_map]
   congr 2
   congr 1
   refine recs_ext (pairwise_map.2 ?_) (hFs _) fun q=> ?_
   ·refine(List.Pairwise.and_mem.1 (hR.srt.filter _)).imp fun{a b} h=> ?_
    obtain⟨ha,hb,hab⟩:=h
    obtain⟨ha1,ha2⟩:=mem_filter.1 ha
    obtain⟨hb1,hb2⟩:=mem_filter.1 hb
    obtain⟨i,p,rfl⟩:=hall a ha1
    obtain⟨j,q,rfl⟩:=hall b hb1
    have ha2:(i:Int)=n:=of_decide_eq_true ha2
    have hb2:(j:Int)=n:=of_decide_eq_true hb2
    rw[G7,G7]
    unfold Bg at hab
    have hp:(rowP i p).page=(rowP j q).page:=by show(i:Int)=j;omega
    rw[if_neg (fun h=>h hp)]at hab
    have hab:(p.1:Int)<q.1:=hab
    omega
   ·rw[hmem,mem_map]
    constructor
    ·rintro⟨x,hx,rfl⟩
     obtain⟨h1,h2⟩:=mem_filter.1 hx
     obtain⟨i,p,rfl⟩:=hall x h1
     have h2:(i:Int)=n:=of_decide_eq_true h2
     have:i=n:=by omega
     subst this
     rw[G7];exact h1
    ·exact fun h=>⟨rowP n q,mem_filter.2 ⟨h,by simp[rowP]⟩,G7 n q⟩
  constructor
  ·intro hnone
   obtain⟨q,hq,htot⟩:=hp2 hnone
   obtain⟨c0,_,hb0,he0⟩:=hgood q hq
   obtain⟨b1,_⟩:=F6 c0 hb0
   have e0:c0.page=q.1:=congrArg Prod.fst he0
   rcases hpg q hq with h|⟨c,hc,hcq⟩
   ·cases h
   rw[FC,hnow]
   dsimp only
   rw[if_neg]
   intro h
   have:=all_eq_true.1 h c hc
   simp only[decide_eq_true_eq]at this
   have hr:=hroom q.1.toNat
   rw[show((q.1.toNat:Nat):Int)=q.1 by omega]at hr
   rw[hcq,hr]at this
   omega
  ·intro M st L hM hN'
   have hrec:=hp1 M hM
   have hMok:M.Ok:=Gn (Ps:=Ps) (l:=l) (by unfold CY;rw[hz];exact hM)
   have hrecs:∀n:Nat,recs (layP st (BJ Ps L) M) n=F (n:Int):=fun n=>by
    rw[Js M _ (fun e he=>(hMok.key e he).1) hMok.nodup,<- hrec,recM]
    cases gget M (n:Int)with
    |some P=>rfl
    |none=>
     have:=Fq L Ps (n:Int)
     rw[CJ,CJ,Int.toNat_natCast]at this
     show recs (BJ Ps L) n=recs Ps _
     rw[recs,this,Int.toNat_natCast];rfl
   have hrows:now=BH (layP st (BJ Ps L) M):=sort_ext hR.srt hN'.srt fun x=>by
    constructor
    ·intro hx
     obtain⟨n,q,rfl⟩:=hall x hx
     rw[SY,hrecs,hmem];exact hx
    ·intro hx
     obtain⟨n,q,hq,rfl⟩:=(Jt _ x).1 hx
     rw[hrecs,hmem]at hq
     exact hq
   rw[FC,hnow]
   dsimp only
   rw[if_pos,hrows]
   refine all_eq_true.2 fun c hc=> ?_
   simp only[decide_eq_true_eq]
   have hb:=Fj (Ps:=Ps) (l:=l) (M:=M) (by unfold CY;rw[hz];exact hM) c hc
   have h0:=(F6 c hb).1
   have hr:=hroom c.page.toNat
   rw[show((c.page.toNat:Nat):Int)=c.page by omega]at hr
   have ht:=(hN'.at c.page.toNat).2
   rw[hrecs,show((c.page.toNat:Nat):Int)=c.page by omega]at ht
   omega
structure LgK(l l':Lg):Prop where
 b:l'.b=l.b
 all:l'.all=l.all
 name:l'.name=l.name
theorem LgK.refl(l:Lg):LgK l l:=⟨rfl,rfl,rfl⟩
theorem LgK.trans{a b c:Lg}(h:LgK a b)(h':LgK b c):LgK a c:=⟨h'.b.trans h.b,h'.all.trans h.all,h'.name.trans h.name⟩
theorem Uz(d:Dk)(l:Lg):LgK l (Aj d l).2.1:=by
 obtain⟨h1,h2,h3,_⟩:=KU d l
 exact⟨h1,h2,h3⟩
theorem KY(s:St)(f:Fr)(bs:List UInt8):LgK s.lg (s.wrote f bs).lg:=by
 show LgK s.lg (BQ s f.pg.2).2.1
 unfold BQ
 split
 ·exact .refl _
 ·exact Uz s.d s.lg
theorem Ha.lgk{s s1:St}{n:Nat}{P:AP}(h:Ha s s1 n P):LgK s.lg s1.lg:=by
 rcases h with⟨j,f,_,_,_,_,rfl⟩|⟨s0,k,_,⟨_,_,F,rfl⟩|⟨_,fs1,h1,f,_,_,_,_,⟨_,rfl⟩|⟨_,g,_,_,rfl⟩⟩,_,rfl⟩
 ·exact .refl _
 ·exact .refl _
 ·exact .refl _
 ·exact KY { s with fs:=fs1,hand:=h1 } f g.bs
theorem GI.lgk{s s1:St}{n:Nat}{c:Int}(h:GI s s1 n c):LgK s.lg s1.lg:=by
 rcases h with⟨_,rfl,_⟩|⟨_,_,_,fs1,h1,_,_,⟨_,_,rfl⟩|⟨k,f,g,_,_,_,_,_,rfl⟩⟩
 ·exact .refl _
 ·exact .refl _
 ·exact KY { s with fs:=fs1,hand:=h1 } f g.bs
theorem Hg.lgk{Ps:List AP}{L:List Int}{s s1:St}{c:Int}(h:Hg Ps L s s1 c):LgK s.lg s1.lg:=by
 induction h with
 |nil s=>exact .refl _
 |ok n L s s1 s' c h1 _ ih=>exact h1.lgk.trans ih
 |bad n L s s1 c _ h1=>exact h1.lgk
theorem EJ.lgk{L:List Int}{s s1:St}{c:Int}(h:EJ L s s1 c):LgK s.lg s1.lg:=by
 induction h with
 |nil s=>exact .refl _
 |ok z l s s' c j f g _ _ _ _ _ _ ih=>exact(KY s f g.bs).trans ih
 |bad z l s j f g _ _ _ _ _=>exact KY s f g.bs
theorem Fg.lgk{s s1:St}{c:Int}(h:Fg s s1 c):LgK s.lg s1.lg:=by
 rcases h with⟨_,_,rfl⟩|⟨_,s2,c2,hW,⟨_,_,rfl⟩|⟨_,_,rfl⟩⟩
 ·exact .refl _
 ·exact hW.lgk
 ·exact hW.lgk
theorem OM(d:Dk)(l:Lg)(wt:Int):LgK l (Aw d l wt).2.1:=by
 unfold Aw
 split
 ·exact .refl _
 ·exact Uz d l
theorem J4.lgk{s s':St}{Ps:List AP}{T T':Tou}{wt wt' code:Int}(h:J4 s Ps T wt s' T' wt' code):(LgK s.lg s'.lg/\T'=T)\/(s'.lg.name=s.lg.name/\s'.lg.b= []/\s'.lg.all= []/\T'=T0)\/(LgK s.lg s'.lg/\T'=T0):=by
 have hs:=OM s.d s.lg wt
 obtain⟨_,⟨_,_,rfl,rfl⟩|⟨_,L,s2,c2,_,_,hS,⟨_,_,rfl,rfl⟩|⟨_,s3,c3,hF,⟨_,_,rfl,rfl⟩|⟨_,⟨_,_,rfl,rfl⟩|⟨_,_,rfl,rfl⟩⟩⟩⟩⟩:=h
 ·exact .inl ⟨hs,rfl⟩
 ·exact .inl ⟨hs.trans hS.lgk,rfl⟩
 ·exact .inl ⟨(hs.trans hS.lgk).trans hF.lgk,rfl⟩
 ·exact .inl ⟨(hs.trans hS.lgk).trans hF.lgk,rfl⟩
 ·have hk:=(hs.trans hS.lgk).trans hF.lgk
  rw[ML]
  split
  ·split
   ·exact .inr (.inl ⟨hk.name,rfl,rfl,rfl⟩)
   ·exact .inl ⟨⟨hk.b,hk.all,hk.name⟩,rfl⟩
  ·exact .inl ⟨hk,rfl⟩
structure JBnd(k t:Nat)(s:St)(Ps:List AP)(T:Tou)(wt:Int):Prop where
 wj:WJ (20000+60*k) (2+200*k) s
 low:Low s
 b:s.lg.b.length<=7720*t+5*k
 all:s.lg.all.length<=2*t+k
 tn:∀n,T n<=4*t+3*k
 tp:∀n,0<T n->0<=n/\n<=30/\n.toNat<Ps.length
 wt:0<=wt/\wt<=k
 name:s.lg.name=nLog
theorem RY:∀(rs:List ByteArray)(b:List UInt8),(rs.foldl framed b).length=b.length+(rs.map fun r=>r.size+4).sum
 | [],b=>by simp
 |r::t,b=>by
  rw[foldl_cons,RY t,GG,map_cons,sum_cons]
  omega
theorem Rz{Ps:List AP}{L:List Int}{rs:List ByteArray}(h:ND Ps L rs):rs.length=L.length/\(rs.map fun r=>r.size+4).sum=4103*L.length/\∀r∈rs,r.size=4099:=by
 obtain⟨G,h1,rfl⟩:=h
 have hsz:∀n∈L,(imgR n (G n)).size=4099:=fun n hn=>by
  rw[imgR,Cc,length_cons,length_append,AU,(h1 n hn).ok.len]
 refine⟨length_map _,?_,fun r hr=> ?_⟩
 ·clear h1
  induction L with
  |nil=>rfl
  |cons n r ih=>
   have:=hsz n (.head _)
   simp only[map_cons,sum_cons,length_cons]at ih⊢
   rw[ih fun m hm=>hsz m (.tail _ hm),this]
   omega
 ·obtain⟨n,hn,rfl⟩:=mem_map.1 hr
  exact hsz n hn
theorem Ol:∀(l:List Chg1)(b:List UInt8),(∀c∈l,¬badC c)->((DU l b).map fun x=>x.length+4).sum<=b.length+3606*l.length+5*(l.length+1)
 | [],b,_=>by simp[DU]
 |c::r,b,h=>by
  have hc:=JF (h c (.head _))
  have hr:∀d∈r,¬badC d:=fun d hd=>h d (.tail _ hd)
  rw[DU,length_cons]
  split
  ·have ih:=Ol r (BP c) hr
   rw[map_cons,sum_cons,length_cons]
   omega
  ·have ih:=Ol r (b++BP c) hr
   rw[length_append]at ih
   omega
theorem packR_sum(l:List Chg1)(h:∀c∈l,¬badC c):((CS l).map fun r=>r.size+4).sum<=3606*l.length+5*(l.length+1):=by
 have e:(CS l).map (fun r=>r.size+4)=(DU l []).map fun x=>x.length+4:=by
  rw[CS,map_map]
  refine map_congr_left fun x _=> ?_
  show(ByteArray.mk x.toArray).size+4=_
  rw[Cc]
 rw[e]
 have:=Ol l [] h
 simp only[length_nil]at this
 omega
theorem Za{α:Type}[DecidableEq α]:∀(L M:List α),L.Nodup->(∀x∈L,x∈M)->L.length<=M.length
 | [],M,_,_=>Nat.zero_le _
 |x::r,M,hn,h=>by
  have hn:=nodup_cons.1 hn
  have ih:=Za r (M.erase x) hn.2 fun y hy=>(List.mem_erase_of_ne (by intro e;subst e;exact hn.1 hy)).2 (h y (.tail _ hy))
  have hx:=h x (.head _)
  rw[List.length_erase_of_mem hx]at ih
  have:0<M.length:=List.length_pos_of_mem hx
  rw[length_cons];omega
theorem fresh_len{T:Tou}{l:List Chg1}{L:List Int}(h:MS T l L):L.length<=l.length:=by
 have hn:L.Nodup:=by
  rw[nodup_iff_pairwise_ne]
  exact h.rise.imp fun h=>by omega
 have:=Za L (l.map (·.page)) hn fun n hn=>by
  obtain⟨c,hc,h1,_⟩:=(h.mem n).1 hn
  exact mem_map.2 ⟨c,hc,h1⟩
 rwa [length_map]at this
theorem aC:∀(M:TM)(T:Tou)(n:Int),(M.map (·.1)).Nodup->upP T M n<=T n+1/\(n∉M.map (·.1)->upP T M n=T n)
 | [],T,n,_=>⟨Nat.le_succ _,fun _=>rfl⟩
 |e::r,T,n,h=>by
  have h:=nodup_cons.1 h
  obtain⟨h1,h2⟩:=aC r (T.up e.1) n h.2
  have e1:upP T (e::r) n=upP (T.up e.1) r n:=rfl
  rw[e1]
  by_cases hn:n=e.1
  ·have h3:=h2 (by rw[hn];exact h.1)
   have h4:T.up e.1 n=T n+1:=by unfold Tou.up;rw[if_pos hn]
   exact⟨by omega,fun h5=>absurd (by rw[hn];exact .head _) h5⟩
  ·have h4:T.up e.1 n=T n:=by unfold Tou.up;rw[if_neg hn]
   rw[h4]at h1
   exact⟨h1,fun h5=>by rw[h2 fun h6=>h5 (.tail _ h6),h4]⟩
theorem growAll_ge(L:List Int):∀(Ps:List AP),Ps.length<=(BJ Ps L).length:=by
 induction L with
 |nil=>intro Ps;exact Nat.le_refl _
 |cons n r ih=>
  intro Ps
  have h1:=ih (CV Ps (n.toNat+1))
  rw[ET]at h1
  show Ps.length<=(BJ (CV Ps (n.toNat+1)) r).length
  omega
theorem good_page{c:Chg1}(h:¬badC c)(hg:Pj c):0<=c.page/\c.page<=30:=by
 unfold badC at h
 have h1:0<=c.page:=Int.not_lt.1 fun e=>h (.inl e)
 have h2:c.page<4096:=Int.not_le.1 fun e=>h (.inr (.inl e))
 exact⟨h1,Int.not_lt.1 fun e=>hg.1 ⟨e,h2⟩⟩
theorem Qq{k t:Nat}{s:St}{Ps Ps':List AP}{T T':Tou}{wt wt' code:Int}{l:List Chg1}{lg':Lg}(h:GN s.lg Ps T wt l lg' Ps' T' wt' code)(hb:JBnd k t s Ps T wt)(hg:∀c∈l,Pj c)(hk:k<=200)(ht:t+l.length<=300):
  JBnd (k+1) (t+l.length) { s with lg:=lg' } Ps' T' wt':=by
 have hb1:=hb.b
 have hb2:=hb.all
 have hb3:=hb.wt
 rcases h with⟨_,_,rfl,rfl,rfl,rfl⟩|⟨_,_,_,rfl,rfl,rfl,rfl⟩|⟨_,_,M,L,rs,htr,hL,hI,rfl,rfl,rfl,rfl⟩
 ·exact⟨hb.wj.mono (by omega) (by omega),hb.low,by show s.lg.b.length<=_;omega,by show s.lg.all.length<=_;omega,fun n=>by have:=hb.tn n;omega,hb.tp,by omega,hb.name⟩
 ·exact⟨hb.wj.mono (by omega) (by omega),hb.low,by show s.lg.b.length<=_;omega,by show s.lg.all.length<=_;omega,fun n=>by have:=hb.tn n;omega,hb.tp,by omega,hb.name⟩
 ·have hgood:=Fj htr
  have hMok:=Gn htr
  obtain⟨i1,i2,i3⟩:=Rz hI
  have hpl:=Gh l [] (by simp) hgood
  have hps:=packR_sum l hgood
  have hLl:=fresh_len hL
  have happ:=Ep s.lg (rs++CS l) (fun r hr=>by
   rcases mem_append.1 hr with hr|hr
   ·have:=i3 r hr;omega
   ·obtain⟨x,hx,rfl⟩:=mem_map.1 hr
    rw[Cc]
    have:=hpl.2 x hx
    omega)
  have hbl:(A7 s.lg (rs++CS l)).b.length<=7720*(t+l.length)+5*(k+1):=by
   rw[happ.b,RY,map_append,List.sum_append]
   omega
  have hmem:∀e∈M,0<=e.1/\e.1<=30:=fun e he=>by
   obtain⟨c,hc,h1⟩:=SL htr e he
   rw[<- h1];exact good_page (hgood c hc) (hg c hc)
  have hw:=hb.wj
  refine⟨⟨hw.fit.mono (by omega),by show(A7 _ _).b.length<=_;omega,by show(A7 _ _).firm<=_;rw[happ.firm];exact hw.firm,by show(A7 _ _).mark<=_;rw[happ.mark];have:=hw.mark;omega,hw.sz⟩,hb.low,hbl,?_,fun n=> ?_,fun n hn=> ?_,by omega,by show(A7 _ _).name=_;rw[happ.name];exact hb.name⟩
  ·show(A7 _ _).all.length<=_
   rw[happ.all,length_append,length_append,CS,length_map]
   omega
  ·have:=(aC M T n hMok.nodup).1
   have:=hb.tn n
   omega
  ·obtain⟨g1,g2⟩:=Vo (st:=(A7 s.lg (rs++CS l)).all.length) M (BJ Ps L)
   have g3:=growAll_ge L Ps
   rcases P7 M T n hn with h1|⟨e,he,rfl⟩
   ·have:=hb.tp n h1
    omega
   ·have:=hmem e he
    have:=g2 e he
    omega
def JM(s:St)(Ps:List AP)(T:Tou)(wt:Int)(kind:Int)(l:List Chg1)(s':St)(Ps':List AP)(T':Tou)(wt' code:Int):Prop:=
 if kind=0 then∃lg',GN s.lg Ps T wt l lg' Ps' T' wt' code/\s'= { s with lg:=lg' }
 else if kind=1 then s'= { s with d:=(Aw s.d s.lg wt).1,lg:=(Aw s.d s.lg wt).2.1 }/\wt'=(Aw s.d s.lg wt).2.2.1/\code=(Aw s.d s.lg wt).2.2.2/\Ps'=Ps/\T'=T
 else if kind=2 then J4 s Ps T wt s' T' wt' code/\Ps'=Ps
 else s'=s/\Ps'=Ps/\T'=T/\wt'=wt/\code=0
theorem Vg{d:Dk}{l:Lg}{wt:Int}{k:Nat}(h:0<=wt/\wt<=k):0<=(Aw d l wt).2.2.1/\(Aw d l wt).2.2.1<=k:=by
 unfold Aw
 split
 ·exact h
 ·dsimp only
  split<;>omega
theorem does_spec(y:GW)(x:DW)(s:St)(p:JP)(tt:Nat)(wt:Int)(Ps:List AP)(T:Tou)(hr:Rest y x s p Ps 5000){k t:Nat}(hb:JBnd k t s Ps T wt)(hk:k<=200)(o:JOp)(ht:t+o.l.length<=300)(hg:∀c∈o.l,Pj c)(w:World)(st:Std w (Ac y x s p tt wt Ps T))(hC:∀W,Chg (feet (Ac y x s p tt wt Ps T)) w W->Cells W o.a (chC o.l)):
  Calls Tryz.prog 19 #[.pointer (some ⟨y.jb,0,none⟩),.agg o.cs.toArray] w fun e w'=>∃(code:Int)(s':St)(Ps':List AP)(T':Tou)(wt':Int),JM s Ps T wt o.kind o.l s' Ps' T' wt' code/\e=.returned (.int .i64 code)/\
   ∃(y':GW)(x':DW)(p':JP),EY y y' x x'/\Rest y' x' s' p' Ps' 5000/\JBnd (k+1) (t+o.l.length) s' Ps' T' wt'/\Hp (feet (Ac y x s p tt wt Ps T)) w w' (Ac y' x' s' p' tt wt' Ps' T'):=by
 apply does.ok;unfold does.vc
 have H:=Hp.Ap st
 generalize hB:feet (Ac y x s p tt wt Ps T)=B at H hC⊢
 have hw:=hb.wj
 have hb1:=hb.b
 have hb2:=hb.all
 have hb3:=hb.wt
 intro b w1 hn
 replace H:=(H.new (cs:=o.cs) (by exact⟨rfl,rfl,rfl,rfl⟩) hn).perm (M:=Ac y x s p tt wt Ps T++ [.blk b o.cs 53]) (by(refine AL fun ff gg h0 hc ha hpm=> ?_;simp only[ha,hc,h0];omega))
 clear hn
 have mO:Asn.blk b o.cs 53∈Ac y x s p tt wt Ps T++ [.blk b o.cs 53]:=mem_append_right _ (.head _)
 refine⟨_,H.ld (o:=0) (cs:=o.cs) (by exact⟨rfl,rfl,rfl,rfl⟩) gInt mO rfl,AO (fun h0=> ?_) (fun h0=> ?_)⟩
 ·refine⟨_,_,_,H.ld (o:=1) (cs:=o.cs) (by exact⟨rfl,rfl,rfl,rfl⟩) gSR mO rfl,?_⟩
  refine AC (rowsJ_spec o.a o.c o.l (by omega) w1 (hC w1 H.chg)) ?_
  rintro e w2 ⟨ra,rc,rfl,H'⟩
  have H2:Hp B w w2 (Ac y x s p tt wt Ps T++ [.own 73 4 ra o.l.length rc (chC o.l),.blk b o.cs 53]):=(H.ext1 H').perm (by(refine AL fun ff gg h0 hc ha hpm=> ?_;simp only[ha,hc,h0];omega))
  clear H H'
  refine⟨_,_,_,rfl,?_⟩
  have hlen2:∀n,T n<=100000000:=fun n=>by have:=hb.tn n;omega
  refine AC (Ie y x s p tt wt Ps T 5000 hr (by omega) hlen2 (by omega) (by omega) ra rc o.l (by omega) (fun c hc=>by have:=(hg c hc).2;omega) w2 H2.std1 (fun W hW=>Own.cells (SG H2 W hW))) ?_
  rintro e w3 ⟨code,lg',Ps',T',wt',hcr,rfl,lw,p',hlw,hR',H'⟩
  have H3:=H2.useL H'
  exact⟨_,rfl,code,{ s with lg:=lg' },Ps',T',wt',by rw[JM,if_pos h0];exact⟨lg',hcr,rfl⟩,rfl,{ y with lw:=lw },x,p',⟨rfl,rfl,hlw,rfl⟩,hR',Qq hcr hb hg hk ht,H3.CE⟩
 refine AO (fun h1=> ?_) (fun h1=> ?_)
 ·refine AC (G9 y x s p tt wt Ps T 5000 hr (hw.lgB (by omega)) hw.fit (by omega) w1 H.std1) ?_
  rintro e w2 ⟨rfl,x',lw,hxb,hlw,hR',H'⟩
  have H2:=H.useL H'
  have hk1:=OM s.d s.lg wt
  have hwk:=hw.sync (by omega) wt
  refine⟨_,rfl,_,_,Ps,T,_,by rw[JM,if_neg h0,if_pos h1];exact⟨rfl,rfl,rfl,rfl,rfl⟩,rfl,{ y with lw:=lw },x',p,⟨rfl,rfl,hlw,hxb⟩,hR',⟨hwk.mono (by omega) (by omega),hb.low,by show(Aw s.d s.lg wt).2.1.b.length<=_;rw[hk1.b];omega,by show(Aw s.d s.lg wt).2.1.all.length<=_;rw[hk1.all];omega,fun n=>by have:=hb.tn n;omega,hb.tp,by have:=Vg (d:=s.d) (l:=s.lg) hb3;omega,by show(Aw s.d s.lg wt).2.1.name=_;rw[hk1.name];exact hb.name⟩,H2.CE⟩
 refine AO (fun h2=> ?_) (fun h2=> ?_)
 ·refine AC (PG y x s p tt wt Ps T hr hb.low hw (by omega) (by omega) hb.name hb.tp w1 H.std1) ?_
  rintro e w2 ⟨code,s',T',wt',hcr,rfl,y',x',hS,hR',hlo',hw',H'⟩
  have H2:=H.useL H'
  have hwt:wt'=(Aw s.d s.lg wt).2.2.1:=hcr.1
  have hsw:=Vg (d:=s.d) (l:=s.lg) hb3
  rw[<- hwt]at hsw
  have hT0:∀n,¬0<T0 n:=fun n=>Nat.lt_irrefl 0
  refine⟨_,rfl,code,s',Ps,T',wt',by rw[JM,if_neg h0,if_neg h1,if_pos h2];exact⟨hcr,rfl⟩,rfl,y',x',p,hS,hR',?_,H2.CE⟩
  rcases hcr.lgk with⟨hK,rfl⟩|⟨hn,hb',ha',rfl⟩|⟨hK,rfl⟩
  ·exact⟨hw'.mono (by omega) (by omega),hlo',by rw[hK.b];omega,by rw[hK.all];omega,fun n=>by have:=hb.tn n;omega,hb.tp,by omega,by rw[hK.name];exact hb.name⟩
  ·exact⟨hw'.mono (by omega) (by omega),hlo',by rw[hb'];exact Nat.zero_le _,by rw[ha'];exact Nat.zero_le _,fun n=>Nat.zero_le _,fun n h=>absurd h (hT0 n),by omega,by rw[hn];exact hb.name⟩
  ·exact⟨hw'.mono (by omega) (by omega),hlo',by rw[hK.b];omega,by rw[hK.all];omega,fun n=>Nat.zero_le _,fun n h=>absurd h (hT0 n),by omega,by rw[hK.name];exact hb.name⟩
 ·exact⟨0,s,Ps,T,wt,by rw[JM,if_neg h0,if_neg h1,if_neg h2];exact⟨rfl,rfl,rfl,rfl,rfl⟩,rfl,y,x,p,EY.refl y x,hr,⟨hw.mono (by omega) (by omega),hb.low,by omega,by omega,fun n=>by have:=hb.tn n;omega,hb.tp,by omega,hb.name⟩,H.CE⟩
theorem Oq(Ps:List AP):∀(l:List Chg1)(o:Ord)(la:Last){z:Ord×Last},BR Ps l o la=some z->(∀k,gget la k≠none->k∈o)->(∀q∈o,q∈z.1)/\∀c∈l,(c.page,c.slot)∈z.1
 | [],o,la,z,h,_=>by
  rw[BR]at h
  cases h
  exact⟨fun q hq=>hq,by simp⟩
 |c::r,o,la,z,h,hk=>by
  rw[BR]at h
  split at h
  ·cases h
  ·split at h
   ·rename_i was hw
    split at h
    ·cases h
    ·have hm:(c.page,c.slot)∈o:=hk _ (by rw[hw];simp)
     obtain⟨i1,i2⟩:=Oq Ps r o _ h fun k hk2=>by
      rw[Dw]at hk2
      split at hk2
      ·rename_i e;rw[e];exact hm
      ·exact hk k hk2
     refine⟨i1,fun d hd=> ?_⟩
     rcases mem_cons.1 hd with rfl|hd
     ·exact i1 _ hm
     ·exact i2 d hd
   ·split at h
    ·cases h
    ·obtain⟨i1,i2⟩:=Oq Ps r _ _ h fun k hk2=>by
      rw[Dw]at hk2
      split at hk2
      ·rename_i e;rw[e];exact mem_append_right _ (.head _)
      ·exact mem_append_left _ (hk k hk2)
     refine⟨fun q hq=>i1 q (mem_append_left _ hq),fun d hd=> ?_⟩
     rcases mem_cons.1 hd with rfl|hd
     ·exact i1 _ (mem_append_right _ (.head _))
     ·exact i2 d hd
theorem Vt(la:Last):∀(o:Ord)(M:TM){M':TM}(n:Int),putF o la M=some M'->gget M n≠none->gget M' n≠none
 | [],M,M',n,h,hn=>by rw[putF]at h;cases h;exact hn
 |(p,s)::r,M,M',n,h,hn=>by
  rw[putF]at h
  split at h
  ·split at h
   ·exact Vt la r M n h hn
   ·split at h
    ·refine Vt la r _ n h ?_
     rw[Dw]
     split
     ·simp
     ·exact hn
    ·cases h
  ·cases h
theorem tried_has{Ps:List AP}{l:List Chg1}{M:TM}(h:CY Ps l=some M):∀c∈l,gget M c.page≠none:=fun c hc=>by
 unfold CY at h
 cases hz:BR Ps l [] []with
 |none=>rw[hz]at h;cases h
 |some z=>
  obtain⟨o,la⟩:=z
  rw[hz]at h
  have hm:=(Oq Ps l [] [] hz (fun k hk=>absurd rfl hk)).2 c hc
  exact Vt la o _ c.page h (Vb o [] c.page (.inl ⟨_,hm,rfl⟩))
theorem Yc:∀(M:TM)(T:Tou),∀e∈M,0<upP T M e.1
 | [],T,e,h=>by cases h
 |x::r,T,e,h=>by
  rcases mem_cons.1 h with rfl|h
  ·have h1:=VX r (T.up e.1) e.1
   have h2:T.up e.1 e.1=T e.1+1:=by unfold Tou.up;rw[if_pos rfl]
   show 0<upP (T.up e.1) r e.1
   omega
  ·exact Yc r (T.up x.1) e h
theorem Qa(a b:List ByteArray):AY (a++b)=AY a++AY b:=by
 rw[ER,ER,ER,frames_append]
structure Bs(all:List ByteArray)(Ps:List AP)(T:Tou):Prop where
 rep:Replays all (recs Ps)
 sz:∀r∈all,r.size<=65536
 tou:∀n,0<T n↔0<Af all n
 hi:∀n,4096<=n->recs Ps n= []
structure RunH(k q:Nat)(F:List ByteArray)(Pf:List AP)(s:St)(Ps:List AP)(T:Tou)(wt:Int):Prop where
 code:s.lg.code=0
 b:s.lg.b=AY s.lg.all
 firm:s.lg.firm<=s.lg.b.length/\s.lg.b.take s.lg.firm=AY F
 pre:F<+:s.lg.all
 live:Live k s.lg.mark (AY F) (Gof F (recs Pf)) s.d
 find:s.d.find AX=some q
 bs:Bs s.lg.all Ps T
 repF:Replays F (recs Pf)
 un:∀n:Nat,Af s.lg.all (n:Int)=0->recs Ps n=recs Pf n
 hif:∀n,4096<=n->recs Pf n= []
 dirty:Vu s.lg.all s
 wt:wt=0->F=s.lg.all/\∀n,recs Pf n=recs Ps n
theorem Qu{F all:List ByteArray}(h:F<+:all)(n:Int):Af F n<=Af all n:=by
 obtain⟨r,rfl⟩:=h
 rw[Kq]
 exact images_mono r _ n
theorem RunH.gof{k q:Nat}{F:List ByteArray}{Pf:List AP}{s:St}{Ps:List AP}{T:Tou}{wt:Int}(h:RunH k q F Pf s Ps T wt){c:Cont}(hc:Gof F (recs Pf) c):Gof s.lg.all (recs Ps) c:=fun n hn hi=>by
 have:=Qu h.pre (n:Int)
 rw[h.un n hi]
 exact hc n hn (by omega)
theorem Bs.run{all:List ByteArray}{Ps:List AP}{T:Tou}(h:Bs all Ps T){k X q:Nat}{s:St}(hl:Hl k X (AY all) all (recs Ps) q s.d s.lg)(hd:Vu all s)(wt:Int):RunH k q all Ps s Ps T wt:=by
 have ha:=hl.la
 refine⟨hl.code,by rw[hl.lb,ha],⟨by rw[hl.lb,hl.firm];exact Nat.le_refl _,by rw[hl.lb,hl.firm,take_length]⟩,by rw[ha];exact List.prefix_rfl,hl.live,hl.find,by rw[ha];exact h,h.rep,fun _ _=>rfl,h.hi,by rw[ha];exact hd,fun _=>⟨ha.symm,fun _=>rfl⟩⟩
theorem Bs.anew{all:List ByteArray}{Ps:List AP}{T:Tou}(h:Bs all Ps T):Bs [] Ps T0:=⟨.nil _,by simp,fun n=>Iff.rfl,h.hi⟩
section
variable {k q:Nat} {F:List ByteArray} {Pf:List AP} {s:St} {Ps:List AP} {T:Tou} {wt:Int}
theorem RunH.commit(h:RunH k q F Pf s Ps T wt)(hw:0<=wt){l:List Chg1}{lg':Lg}{Ps':List AP}{T':Tou}{wt' code:Int}(hc:GN s.lg Ps T wt l lg' Ps' T' wt' code)(hN:Nice Ps)(hN':Nice Ps'):
  (code=0/\FC (BH Ps) l=(BH Ps',true)/\RunH k q F Pf { s with lg:=lg' } Ps' T' wt'/\wt'=wt+1)\/
  (code=180/\FC (BH Ps) l=(BH Ps,false)/\lg'=s.lg/\Ps'=Ps/\T'=T/\wt'=wt):=by
 rcases hc with⟨h0,_⟩|⟨_,hn,rfl,rfl,rfl,rfl,rfl⟩|⟨_,rfl,M,L,rs,ht,hL,hI,rfl,rfl,rfl,rfl⟩
 ·exact absurd h.code h0
 ·exact .inr ⟨rfl,(Rk hN l).1 hn,rfl,rfl,rfl,rfl⟩
 ·refine .inl ⟨rfl,(Rk hN l).2 M _ L ht hN',?_,rfl⟩
  have hgood:=Fj ht
  have hMok:=Gn ht
  obtain⟨i1,i2,i3⟩:=Rz hI
  have hpl:=Gh l [] (by simp) hgood
  have hszs:∀r∈rs++CS l,r.size<=65536:=fun r hr=>by
   rcases mem_append.1 hr with hr|hr
   ·have:=i3 r hr;omega
   ·obtain⟨x,hx,rfl⟩:=mem_map.1 hr
    rw[Cc]
    have:=hpl.2 x hx
    omega
  have happ:=Ep s.lg (rs++CS l) hszs
  obtain⟨g1,g2,g3⟩:=h.bs.rep.commit ht hL hI (fun n hn=>(h.bs.tou n).1 hn) (A7 s.lg (rs++CS l)).all.length
  generalize hlg:A7 s.lg (rs++CS l)=lg' at happ g1⊢
  have hrec:∀(st:Nat)(n:Nat),recs (layP st (BJ Ps L) M) n=((gget M (n:Int)).map (·.1)).getD (recs Ps n):=fun st n=>by
   rw[Js M _ (fun e he=>(hMok.key e he).1) hMok.nodup]
   have:=Fq L Ps (n:Int)
   rw[CJ,CJ,Int.toNat_natCast]at this
   have e:recs (BJ Ps L) n=recs Ps n:=by rw[recs,this];rfl
   cases gget M (n:Int)with
   |none=>exact e
   |some P=>rfl
  have hb':lg'.b=s.lg.b++AY (rs++CS l):=by
   rw[happ.b,h.b,<- Qa]
   exact(foldl_append (f:=framed) (b:= []) (l:=s.lg.all) (l':=rs++CS l)).symm
  refine⟨by show lg'.code=0;rw[happ.code];exact h.code,?_,⟨?_,?_⟩,?_,?_,h.find,⟨?_,?_,?_,?_⟩,h.repF,?_,h.hif,?_,fun e=> ?_⟩
  ·show lg'.b=AY lg'.all
   rw[hb',happ.all,h.b,Qa s.lg.all]
  ·show lg'.firm<=lg'.b.length
   rw[happ.firm,hb',length_append]
   have:=h.firm.1
   omega
  ·show lg'.b.take lg'.firm=_
   rw[happ.firm,hb',take_append_of_le_length h.firm.1]
   exact h.firm.2
  ·show F<+:lg'.all
   rw[happ.all]
   exact h.pre.trans (List.prefix_append _ _)
  ·show Live k lg'.mark _ _ _
   rw[happ.mark];exact h.live
  ·show Replays lg'.all (recs (layP lg'.all.length (BJ Ps L) M))
   generalize layP lg'.all.length (BJ Ps L) M=Q at g1⊢
   rw[happ.all];exact g1
  ·show∀r∈lg'.all,_
   rw[happ.all]
   exact fun r hr=>(mem_append.1 hr).elim (h.bs.sz r) (hszs r)
  ·intro n
   show _↔0<Af lg'.all n
   rw[happ.all]
   constructor
   ·intro hn
    rcases P7 M T n hn with h1|⟨e,he,rfl⟩
    ·exact(g2 n).2 (.inl ((h.bs.tou n).1 h1))
    ·exact g3 e he
   ·intro hn
    rcases(g2 n).1 hn with h1|h1
    ·have h2:=(h.bs.tou n).2 h1
     have:=VX M T n
     omega
    ·obtain⟨c,hc,rfl,_⟩:=(hL.mem n).1 h1
     have h2:=tried_has ht c hc
     cases hg:gget M c.page with
     |none=>exact absurd hg h2
     |some P=>exact Yc M T (c.page,P) (Gz hg)
  ·intro n hn
   rw[hrec]
   cases hg:gget M (n:Int)with
   |none=>exact h.bs.hi n hn
   |some P=>
    have:=hMok.key _ (Gz hg)
    dsimp only at this
    omega
  ·intro n hn
   have hn:Af lg'.all (n:Int)=0:=hn
   rw[happ.all]at hn
   have h1:¬0<Af s.lg.all (n:Int):=fun h1=>by
    have:=(g2 (n:Int)).2 (.inl h1)
    omega
   rw[hrec]
   cases hg:gget M (n:Int)with
   |none=>exact h.un n (by omega)
   |some P=>
    have:=g3 _ (Gz hg)
    dsimp only at this
    omega
  ·intro f hf hd
   show 0<Af lg'.all _
   rw[happ.all]
   exact(g2 _).2 (.inl (h.dirty f hf hd))
  ·omega
theorem RunH.sync(h:RunH k q F Pf s Ps T wt)(hn:s.lg.name=nLog)(hm:s.lg.mark+2<big)(hb:s.lg.b.length<big):
  DC (Aw s.d s.lg wt).2.2.2/\(((Aw s.d s.lg wt).2.2.2=0/\(Aw s.d s.lg wt).2.2.1=0/\Hl k (s.lg.mark+1) (AY s.lg.all) s.lg.all (recs Ps) q (Aw s.d s.lg wt).1 (Aw s.d s.lg wt).2.1)\/
   ((Aw s.d s.lg wt).2.2.2≠0/\(Aw s.d s.lg wt).2.2.1=wt/\(Aw s.d s.lg wt).2.1.code≠0/\AnyD (Two s.lg.mark (AY F) (s.lg.mark+1) (AY s.lg.all)) (Gof F (recs Pf)) (Aw s.d s.lg wt).1)):=by
 have e:Aw s.d s.lg wt=((Aj s.d s.lg).1,(Aj s.d s.lg).2.1,if(Aj s.d s.lg).2.2=0 then 0 else wt,(Aj s.d s.lg).2.2):=by
  unfold Aw;rw[if_neg (fun h0=>h0 h.code)]
 rw[e]
 dsimp only
 refine⟨UX h.code,?_⟩
 rcases Live.flush hn h.code h.firm.1 (by rw[h.firm.2];exact h.live) hm hb with⟨h0,h1⟩|⟨h0,h1⟩
 ·refine .inl ⟨h0,by rw[if_pos h0],?_⟩
  have e2:=WV h.code h0
  rw[e2]
  exact⟨h.code,hn,h.b,rfl,by show s.lg.b.length=_;rw[h.b],Nat.le_refl _,by rw[h.b]at h1;exact h1.mono fun c hc=>h.gof hc,by rw[(Fa _ _).find];exact h.find⟩
 ·refine .inr ⟨h0,by rw[if_neg h0],by rw[UO h.code h0];exact h0,?_⟩
  rw[h.firm.2,h.b]at h1
  exact h1
theorem RunH.check(h:RunH k q F Pf s Ps T wt){kk t:Nat}(hb:JBnd kk t s Ps T wt)(hkk:kk<=200/\t<=300)(hi:Idle s 5000)(hpg:s.pages<=4096){s':St}{T':Tou}{wt' code:Int}(hc:J4 s Ps T wt s' T' wt' code):
  DC code/\((code=0/\T'=T0/\wt'=0/\∃K,RunH K q [] Ps s' Ps T0 0)\/
   (code≠0/\T'=T/\((wt'=0/\RunH k q s.lg.all Ps s' Ps T 0)\/
    (wt'=0/\s'.lg.code≠0/\AnyD (fun m B=>m<=s.lg.mark+150/\B=AY s.lg.all) (Gof s.lg.all (recs Ps)) s'.d)\/
    (wt'=0/\s'.lg.code≠0/\AnyD (fun m B=>m<=s.lg.mark+150/\(B=AY s.lg.all\/B= [])) (Gof [] (recs Ps)) s'.d)\/
    (wt'=wt/\s'.lg.code≠0/\AnyD (Two s.lg.mark (AY F) (s.lg.mark+1) (AY s.lg.all)) (Gof F (recs Pf)) s'.d)))):=by
 have hw:=hb.wj
 have hm:=hw.mark
 have hbl:=hw.b
 have hbig:(10:Nat)^8<=big:=by decide
 have hbb:(AY s.lg.all).length<big:=by rw[<- h.b];omega
 obtain⟨hdc,hsy⟩:=h.sync hb.name (by omega) (by omega)
 have hws:=hw.sync (by omega) wt
 have hbs:=h.bs
 have hdi:=h.dirty
 unfold J4 at hc
 generalize Aw s.d s.lg wt=r at hdc hsy hws hc
 obtain⟨d1,lg1,wt1,c1⟩:=r
 dsimp only at hdc hsy hws hc
 obtain⟨rfl,hc⟩:=hc
 rcases hsy with⟨rfl,rfl,hH⟩|⟨h0,rfl,hl0,hA⟩
 ·rcases hc with⟨h0,_⟩|⟨_,L,s2,c2,hL1,hL2,hS,hc⟩
  ·exact absurd rfl h0
  have hLl:L.length<=31:=by
   have:=J9 (L.map Int.toNat) 0 31 (pairwise_map.2 (hL1.imp_of_mem fun{a b} ha hb2 hab=>by
    have e1:=hb.tp a ((hL2 a).1 ha)
    have e2:=hb.tp b ((hL2 b).1 hb2)
    omega)) (fun n hn=>by
    obtain⟨z,hz,rfl⟩:=mem_map.1 hn
    have:=hb.tp z ((hL2 z).1 hz)
    omega) (Nat.zero_le _)
   rwa [length_map]at this
  have hzL:∀z∈L,0<=z/\z<=30/\0<Af s.lg.all z:=fun z hz=>by
   have h1:=(hL2 z).1 hz
   have:=hb.tp z h1
   exact⟨this.1,this.2.1,(hbs.tou z).1 h1⟩
  have hcp0:Cp k (s.lg.mark+1) (AY s.lg.all) s.lg.all (recs Ps) q (fun _=>False) { s with d:=d1,lg:=lg1 }:=⟨hH,hdi,fun f _ h=>h.elim,fun n h=>h.elim⟩
  have hid:Idle { s with d:=d1,lg:=lg1 } 5000:=⟨hi.fr,hi.len,hi.many,hi.hand,hi.turn,hi.nd⟩
  obtain⟨dc2,hcase⟩:=hS.cp (fun n=>rfl) (N:=20000+60*kk) (by omega) hbb hcp0 hws hid hb.low hpg hzL (by omega)
  have bad:∀{Y:Nat}{s3:St}{c:Int},Y<=s.lg.mark+150->c≠0->Bad k Y (AY s.lg.all) s.lg.all (recs Ps) q s3->
    ((c=0/\T'=T0/\(0:Int)=0/\∃K,RunH K q [] Ps s3 Ps T0 0)\/
   (c≠0/\T=T/\(((0:Int)=0/\RunH k q s.lg.all Ps s3 Ps T 0)\/
    ((0:Int)=0/\s3.lg.code≠0/\AnyD (fun m B=>m<=s.lg.mark+150/\B=AY s.lg.all) (Gof s.lg.all (recs Ps)) s3.d)\/
    ((0:Int)=0/\s3.lg.code≠0/\AnyD (fun m B=>m<=s.lg.mark+150/\(B=AY s.lg.all\/B= [])) (Gof [] (recs Ps)) s3.d)\/
    ((0:Int)=wt/\s3.lg.code≠0/\AnyD (Two s.lg.mark (AY F) (s.lg.mark+1) (AY s.lg.all)) (Gof F (recs Pf)) s3.d)))):=by
   intro Y s3 c hY hc0 hB
   refine .inr ⟨hc0,rfl,?_⟩
   rcases hB with⟨hB|hB,hD⟩
   ·exact .inl ⟨rfl,hbs.run hB hD 0⟩
   ·exact .inr (.inl ⟨rfl,hB.code,hB.any.mono (fun m B hmB=>⟨by have:=hmB.1;omega,hmB.2⟩) fun _ h=>h⟩)
  rcases hc with⟨hc0,rfl,rfl,rfl⟩|⟨rfl,s3,c3,hF,hc⟩
  ·rcases hcase with⟨h0,_⟩|⟨_,hB⟩
   ·exact absurd h0 hc0
   ·exact⟨dc2,bad (by omega) hc0 hB⟩
  ·rcases hcase with⟨_,hcp,hw2,hi2,hl2,hp2⟩|⟨h0,_⟩
   ·have hcp2:Cp k (s.lg.mark+1+L.length) (AY s.lg.all) s.lg.all (recs Ps) q (img s.lg.all) s2:=hcp.to fun n hn=>.inr ((hL2 _).2 ((hbs.tou _).2 hn))
    obtain⟨dc3,hcase3⟩:=hF.cp hbb hcp2 hi2.nd (Nat.le_trans hi2.len hi2.many.2) (by omega)
    rcases hc with⟨hc0,rfl,rfl,rfl⟩|⟨rfl,hT⟩
    ·rcases hcase3 with⟨h0,_⟩|⟨_,hB⟩
     ·exact absurd h0 hc0
     ·exact⟨dc3,bad (by omega) hc0 hB⟩
    ·rcases hcase3 with⟨_,hWd⟩|⟨h0,_⟩
     ·obtain⟨dc4,hcase4⟩:=hT.out hWd
      refine⟨dc4,?_⟩
      rcases hcase4 with⟨rfl,rfl,K,hK,hcl⟩|⟨hc0,rfl,hB|hB⟩
      ·exact .inl ⟨rfl,rfl,rfl,K,hbs.anew.run hK (fun f hf hd=>by rw[hcl f hf]at hd;cases hd) 0⟩
      ·exact bad (by omega) hc0 hB
      ·refine .inr ⟨hc0,rfl,.inr (.inr (.inl ⟨rfl,hB.1,hB.2.mono (fun m B hmB=>⟨by have:=hmB.1;omega,hmB.2⟩) fun _ h=>h⟩))⟩
     ·exact absurd rfl h0
   ·exact absurd rfl h0
 ·rcases hc with⟨_,rfl,rfl,rfl⟩|⟨h1,_⟩
  ·exact⟨hdc,.inr ⟨h0,rfl,.inr (.inr (.inr ⟨rfl,hl0,hA⟩))⟩⟩
  ·exact absurd h1 h0
end
structure Opt(past:List (List Chg1))(LB LA:Nat)(A:List ByteArray)(Q:List AP):Prop where
 rep:Replays A (recs Q)
 hi:∀n,4096<=n->recs Q n= []
 past:BH Q∈past
 sz:∀r∈A,r.size<=65536
 b:(AY A).length<=LB
 a:A.length<=LA
 low:∀n:Int,0<Af A n->0<=n/\n<=30
def OptQ(past:List (List Chg1))(LB LA X:Nat)(G:Cont->Prop)(m:Nat)(B:List UInt8):Prop:=m<=X/\∃A Q,B=AY A/\Opt past LB LA A Q/\∀c,G c->Gof A (recs Q) c
def Saf(past:List (List Chg1))(LB LA X:Nat)(d:Dk):Prop:=∃G,AnyD (OptQ past LB LA X G) G d
section
variable {k q:Nat} {F:List ByteArray} {Pf:List AP} {s:St} {Ps:List AP} {T:Tou} {wt:Int} {past:List (List Chg1)} {kk t:Nat}
theorem RunH.X9(h:RunH k q F Pf s Ps T wt)(hb:JBnd kk t s Ps T wt)(hp:BH Ps∈past):Opt past (7720*t+5*kk) (2*t+kk) s.lg.all Ps:=
 ⟨h.bs.rep,h.bs.hi,hp,h.bs.sz,by rw[<- h.b];exact hb.b,hb.all,fun n hn=>by have:=hb.tp n ((h.bs.tou n).2 hn);exact⟨this.1,this.2.1⟩⟩
theorem RunH.optF(h:RunH k q F Pf s Ps T wt)(hb:JBnd kk t s Ps T wt)(hp:BH Pf∈past):Opt past (7720*t+5*kk) (2*t+kk) F Pf:=by
 refine⟨h.repF,h.hif,hp,fun r hr=>h.bs.sz r (h.pre.subset hr),?_,?_,fun n hn=> ?_⟩
 ·rw[<- h.firm.2,length_take]
  have:=hb.b
  omega
 ·have:=h.pre.length_le
  have:=hb.all
  omega
 ·have h1:=Qu h.pre n
  have:=hb.tp n ((h.bs.tou n).2 (by omega))
  exact⟨this.1,this.2.1⟩
theorem RunH.optNil(h:RunH k q F Pf s Ps T wt)(hp:BH Ps∈past)(LB LA:Nat):Opt past LB LA [] Ps:=
 ⟨.nil _,h.bs.hi,hp,by simp,Nat.zero_le _,Nat.zero_le _,fun n hn=>absurd hn (Nat.lt_irrefl 0)⟩
theorem RunH.saf(h:RunH k q F Pf s Ps T wt)(hb:JBnd kk t s Ps T wt)(hp:BH Pf∈past):Saf past (7720*t+5*kk) (2*t+kk) (2+200*kk) s.d:=
 ⟨_,h.live.any ⟨hb.wj.mark,F,Pf,rfl,h.optF hb hp,fun _ h=>h⟩⟩
theorem RunH.row(h:RunH k q F Pf s Ps T 0):BH Pf=BH Ps:=GZ _ _ _ (h.wt rfl).2
def After(past:List (List Chg1))(kk t:Nat)(s:St)(Ps:List AP)(T:Tou)(wt:Int):Prop:=
 (∃k q F Pf,RunH k q F Pf s Ps T wt/\BH Pf∈past)\/(s.lg.code≠0/\Saf past (7720*t+5*kk) (2*t+kk) (2+200*kk) s.d)
theorem Opt.mono{past:List (List Chg1)}{LB LA LB' LA':Nat}{A:List ByteArray}{Q:List AP}(h:Opt past LB LA A Q)(h1:LB<=LB')(h2:LA<=LA'):Opt past LB' LA' A Q:=⟨h.rep,h.hi,h.past,h.sz,Nat.le_trans h.b h1,Nat.le_trans h.a h2,h.low⟩
theorem RunH.two(h:RunH k q F Pf s Ps T wt)(hb:JBnd kk t s Ps T wt)(hpf:BH Pf∈past)(hps:BH Ps∈past){d:Dk}(hA:AnyD (Two s.lg.mark (AY F) (s.lg.mark+1) (AY s.lg.all)) (Gof F (recs Pf)) d):Saf past (7720*t+5*(kk+1)) (2*t+(kk+1)) (2+200*(kk+1)) d:=by
 have hm:=hb.wj.mark
 refine⟨_,hA.mono (fun m B hmB=> ?_) fun _ h=>h⟩
 rcases hmB with⟨rfl,rfl⟩|⟨rfl,rfl⟩
 ·exact⟨by omega,F,Pf,rfl,(h.optF hb hpf).mono (by omega) (by omega),fun _ h=>h⟩
 ·exact⟨by omega,s.lg.all,Ps,rfl,(h.X9 hb hps).mono (by omega) (by omega),fun c hc=>h.gof hc⟩
theorem RunH.step(h:RunH k q F Pf s Ps T wt)(hb:JBnd kk t s Ps T wt)(hkk:kk<=200)(hi:Idle s 5000)(hpg:s.pages<=4096){kind:Int}{l:List Chg1}(ht:t+l.length<=300){s':St}{Ps':List AP}{T':Tou}{wt' code:Int}(hst:JM s Ps T wt kind l s' Ps' T' wt' code)(hN:Nice Ps)(hN':Nice Ps'):
  (kind=0/\code=0/\FC (BH Ps) l=(BH Ps',true)/\RunH k q F Pf s' Ps' T' wt')\/
  (kind=0/\code=180/\FC (BH Ps) l=(BH Ps,false)/\Ps'=Ps/\RunH k q F Pf s' Ps' T' wt')\/
  ((kind=1\/kind=2)/\code=0/\Ps'=Ps/\wt'=0/\∃k F,RunH k q F Ps s' Ps T' 0)\/
  (¬(kind=0\/kind=1\/kind=2)/\code=0/\Ps'=Ps/\RunH k q F Pf s' Ps' T' wt')\/
  ((kind=1\/kind=2)/\code≠0/\DC code/\Ps'=Ps/\∀past:List (List Chg1),BH Ps∈past->(wt'≠0->BH Pf∈past)->After past (kk+1) t s' Ps T' wt'):=by
 have hw:=hb.wj
 have hm:=hw.mark
 have hbl:=hw.b
 have hbig:(10:Nat)^8<=big:=by decide
 have hpfs:∀{past:List (List Chg1)},BH Ps∈past->(wt≠0->BH Pf∈past)->BH Pf∈past:=fun h1 h2=>by
  by_cases e:wt=0
  ·subst e;rw[h.row];exact h1
  ·exact h2 e
 unfold JM at hst
 split at hst
 ·rename_i k0
  obtain⟨lg',hc,rfl⟩:=hst
  rcases h.commit hb.wt.1 hc hN hN' with⟨h1,h2,h3,_⟩|⟨h1,h2,rfl,rfl,rfl,rfl⟩
  ·exact .inl ⟨k0,h1,h2,h3⟩
  ·exact .inr (.inl ⟨k0,h1,h2,rfl,h⟩)
 split at hst
 ·rename_i k1
  obtain⟨rfl,rfl,rfl,rfl,rfl⟩:=hst
  obtain⟨hdc,hcase⟩:=h.sync hb.name (by omega) (by omega)
  rcases hcase with⟨h0,hwt,hH⟩|⟨h0,hwt,hl0,hA⟩
  ·exact .inr (.inr (.inl ⟨.inl k1,h0,rfl,hwt,k,s.lg.all,h.bs.run (s:= { s with d:=(Aw s.d s.lg wt).1,lg:=(Aw s.d s.lg wt).2.1 }) hH h.dirty 0⟩))
  ·refine .inr (.inr (.inr (.inr ⟨.inl k1,h0,hdc,rfl,fun past h1 h2=>.inr ⟨hl0,?_⟩⟩)))
   rw[hwt]at h2
   exact h.two hb (hpfs h1 h2) h1 hA
 split at hst
 ·rename_i k2
  obtain⟨hc,rfl⟩:=hst
  obtain⟨hdc,hcase⟩:=h.check hb ⟨hkk,by omega⟩ hi hpg hc
  rcases hcase with⟨h0,rfl,rfl,K,hK⟩|⟨h0,rfl,hcase⟩
  ·exact .inr (.inr (.inl ⟨.inr k2,h0,rfl,rfl,K,[],hK⟩))
  ·refine .inr (.inr (.inr (.inr ⟨.inr k2,h0,hdc,rfl,fun past h1 h2=> ?_⟩)))
   rcases hcase with⟨rfl,hR⟩|⟨rfl,hl0,hA⟩|⟨rfl,hl0,hA⟩|⟨rfl,hl0,hA⟩
   ·exact .inl ⟨k,q,_,Ps',hR,h1⟩
   ·refine .inr ⟨hl0,_,hA.mono (fun m B hmB=> ?_) fun _ h=>h⟩
    obtain⟨g1,rfl⟩:=hmB
    exact⟨by omega,s.lg.all,Ps',rfl,(h.X9 hb h1).mono (by omega) (by omega),fun _ h=>h⟩
   ·refine .inr ⟨hl0,_,hA.mono (fun m B hmB=> ?_) fun _ h=>h⟩
    obtain⟨g1,rfl|rfl⟩:=hmB
    ·exact⟨by omega,s.lg.all,Ps',rfl,(h.X9 hb h1).mono (by omega) (by omega),fun c hc n hn _=>hc n hn rfl⟩
    ·exact⟨by omega,[],Ps',rfl,h.optNil h1 _ _,fun c hc=>hc⟩
   ·exact .inr ⟨hl0,h.two hb (hpfs h1 h2) h1 hA⟩
 ·rename_i k0 k1 k2
  obtain⟨rfl,rfl,rfl,rfl,rfl⟩:=hst
  exact .inr (.inr (.inr (.inl ⟨fun h=>h.elim k0 fun h=>h.elim k1 k2,rfl,rfl,h⟩)))
end
theorem Fit.Z9{d:Dk}{N:Nat}(h:d.Fit N)(hok:Fok d)(n:Int)(ps:List Int):(d.crash n ps).Fit N:=by
 refine⟨by simp only[Dk.crash,FY];exact h.files,fun f hf=> ?_,fun M=> ?_,by simp[Dk.crash]⟩
 ·obtain⟨g,hg,qs,rfl⟩:=Gw hf
  have:=(Jn (hok.ok g hg) qs).2
  have:=h.now g hg
  omega
 ·show(ons (ons d.firm (d.chs.take _)) (([]:List Ch).take M)).length<=N
  rw[take_nil]
  exact h.names _
section
variable {past:List (List Chg1)} {LB LA X:Nat}
structure Fnd(past:List (List Chg1))(LB LA X:Nat)(k m:Nat)(A:List ByteArray)(Q:List AP)(d:Dk):Prop where
 live:Live k m (AY A) (Gof A (recs Q)) d
 opt:Opt past LB LA A Q
 mark:m<=X
theorem Fnd.saf{k m:Nat}{A:List ByteArray}{Q:List AP}{d:Dk}(h:Fnd past LB LA X k m A Q d):Saf past LB LA X d:=⟨_,h.live.any ⟨h.mark,A,Q,rfl,h.opt,fun _ h=>h⟩⟩
theorem Saf.crash{d:Dk}(h:Saf past LB LA X d)(n:Int)(ps:List Int):∃k m A Q,Fnd past LB LA X k m A Q (d.crash n ps):=by
 obtain⟨G,hA⟩:=h
 obtain⟨k,m,B,⟨hm,A,Q,rfl,hO,hG⟩,hL⟩:=hA.crash n ps
 exact⟨k,m,A,Q,hL.mono hG,hO,hm⟩
theorem Fnd.core{k m:Nat}{A:List ByteArray}{Q:List AP}{d e:Dk}(h:Fnd past LB LA X k m A Q d)(c:Core d e):Fnd past LB LA X k m A Q e:=⟨h.live.core c,h.opt,h.mark⟩
theorem Fnd.opened{k m:Nat}{A:List ByteArray}{Q:List AP}{d:Dk}(h:Fnd past LB LA X k m A Q d)(hd:d.dead=false):(Ad d).1=(Au d).1/\Fnd past LB LA X k m A Q (Ad d).1:=by
 have ho:=h.live.CX hd (Gl h.opt.sz)
 have e:(Ad d).1=(Au d).1:=by
  unfold Ad
  rw[ho]
  dsimp only
  rw[if_neg (by decide)]
  split<;>rfl
 exact⟨e,by rw[e];exact⟨h.live.fopen,h.opt,h.mark⟩⟩
theorem crash_alive(d:Dk)(n:Int)(ps:List Int):(d.crash n ps).dead=false:=(Iz d n ps).dead
theorem Saf.crashed{d:Dk}(h:Saf past LB LA X d){N:Nat}(hf:d.Fit N)(f:Flt):(∃k m A Q,Fnd past LB LA X k m A Q (Bd d f))/\Calm (Bd d f)/\(Bd d f).Fit (N+13):=by
 have hok:Fok d:=h.elim fun G hA=>hA.fok
 obtain⟨k,m,A,Q,hF⟩:=h.crash f.names f.picks
 have fit1:=Fit.Z9 hf hok f.names f.picks
 unfold Bd
 split
 ·have hF2:=(hF.core (core_arm _ f.dies)).core (core_deny _ f.denies)
  have hd2:(((d.crash f.names f.picks).arm f.dies).deny f.denies).dead=false:=crash_alive d f.names f.picks
  obtain⟨_,hF3⟩:=hF2.opened hd2
  exact⟨hF3.saf.crash f.names f.picks,Iz _ _ _,Fit.Z9 (LJ (TL (XI fit1 f.dies) f.denies)) hF3.live.fok f.names f.picks⟩
 ·exact⟨⟨k,m,A,Q,hF⟩,Iz _ _ _,fit1.mono (by omega)⟩
end
theorem first_run{s:St}(hd:s.d=CZ 8000)(hl:s.lg=lg0)(hcl:∀f∈s.fs,f.dirty=false):RunH 0 1 [] [] s [] T0 0/\JBnd 0 0 s [] T0 0:=by
 have hL:Live 0 1 [] (Gof [] (recs [])) (CZ 8000):=Sj 8000 (aP UL fun n _ _=>rfl)
 have hq:(CZ 8000).find AX=some 1:=by
  rw[Dk.find,KJ];exact OT.2.2.2
 have hH:Hl 0 1 (AY []) [] (recs []) 1 s.d s.lg:=by
  rw[hd,hl]
  exact⟨rfl,rfl,rfl,rfl,rfl,Nat.le_refl _,hL,hq⟩
 have hbs:Bs [] [] T0:=⟨.nil _,by simp,fun n=>Iff.rfl,fun n _=>rfl⟩
 refine⟨hbs.run hH (fun f hf hd=>by rw[hcl f hf]at hd;cases hd) 0,⟨⟨by rw[hd];exact(Ti 8000).mono (by omega),?_,?_,?_,?_⟩,fun f hf hd=>(by rw[hcl f hf]at hd;cases hd),?_,?_,fun n=>Nat.zero_le _,fun n hn=>absurd hn (Nat.lt_irrefl 0),by omega,?_⟩⟩
 ·rw[hl];exact Nat.zero_le _
 ·rw[hl];exact Nat.zero_le _
 ·rw[hl];show 1<=_;omega
 ·rw[hd];exact Ed.2 ⟨1,hq⟩
 ·rw[hl];exact Nat.zero_le _
 ·rw[hl];exact Nat.zero_le _
 ·rw[hl];rfl
theorem Z7:∀{L:Sl.Recs}{q:Nat×List UInt8},q∈L->q.2.length<=Sl.tot L
 |x::r,q,h=>by
  rw[Sl.DV]
  rcases mem_cons.1 h with rfl|h
  ·omega
  ·have:=Z7 h;omega
theorem Uu:∀(Ps:List AP)(n:Nat),(∀P∈Ps,P.1.length<=120)->(DN n Ps).length<=120*Ps.length
 | [],n,_=>Nat.zero_le _
 |P::r,n,h=>by
  have ih:=Uu r (n+1) fun Q hQ=>h Q (.tail _ hQ)
  have:=h P (.head _)
  rw[DN,length_append,length_map,length_cons]
  omega
theorem nice_rows{Ps:List AP}(h:Nice Ps)(hl:Ps.length<=4096):(BH Ps).length<=500000/\∀c∈BH Ps,c.s.size<=3600:=by
 refine⟨?_,fun c hc=> ?_⟩
 ·have:=Uu Ps 0 fun P hP=>by
   obtain⟨g,hg⟩:=h.rep P hP
   exact Yw hg
  show(DN 0 Ps).length<=_
  omega
 ·obtain⟨i,q,hq,rfl⟩:=(Jt Ps c).1 hc
  have h1:=Z7 hq
  have h2:=(h.at i).2
  show(ByteArray.mk q.2.toArray).size<=_
  rw[Cc]
  omega
section
variable {past:List (List Chg1)}
end
structure Doc(S:SW)(n:Nat)(now:List Chg1):Prop where
 at_:S.now.l=now
 mem:now∈S.rows
 len:S.past.length<=n+1
 few:∀l∈S.rows,l.length<=500000
theorem Rx{y:GW}{x:DW}{s:St}{p:JP}{tt:Nat}{wt:Int}{Ps:List AP}{T:Tou}{w:World}(st:Std w (Ac y x s p tt wt Ps T))(hl:p.bs.length=Ps.length):Nice Ps:=⟨fun P hP=>by
 have st2:Std w (jpL y.jb (ptrV x.b) (ptrV y.lw.b) (ptrV y.pb) p (some tt) wt Ps):=Hp.std1 (Hp.Ap st)
 obtain⟨k,hk⟩:=List.getElem?_of_mem hP
 have hlt:=(List.getElem?_eq_some_iff.1 hk).1
 obtain⟨g,hR,_⟩:=KQ st2 (List.getElem?_eq_getElem (by omega:k<p.bs.length)) hk
 exact⟨g,hR⟩⟩
section
variable {k t:Nat} {s:St} {Ps:List AP} {T:Tou} {wt:Int}
theorem JBnd.mono(h:JBnd k t s Ps T wt){k' t':Nat}(h1:k<=k')(h2:t<=t'):JBnd k' t' s Ps T wt:=
 ⟨h.wj.mono (by omega) (by omega),h.low,by have:=h.b;omega,by have:=h.all;omega,fun n=>by have:=h.tn n;omega,h.tp,by have:=h.wt;omega,h.name⟩
end
def Goes(past:List (List Chg1))(s:St)(Ps:List AP)(T:Tou)(wt:Int):Prop:=∃k q F Pf,RunH k q F Pf s Ps T wt/\BH Pf∈past
theorem nm2(q k:Nat):nget [⟨AX,q⟩,⟨nLog,k⟩] nLog=some k/\nget [⟨AX,q⟩,⟨nLog,k⟩] AX=some q:=⟨by kernel_rfl,by kernel_rfl⟩
theorem nm3(q k K:Nat):with_ [⟨AX,q⟩,⟨nLog,k⟩] ⟨nNew,K⟩= [⟨AX,q⟩,⟨nLog,k⟩,⟨nNew,K⟩]:=by kernel_rfl
theorem nm4(q k K:Nat):with_ (without [⟨AX,q⟩,⟨nLog,k⟩,⟨nNew,K⟩] nNew) ⟨nLog,K⟩= [⟨AX,q⟩,⟨nLog,K⟩]:=by kernel_rfl
theorem nm5(q k K:Nat):nget [⟨AX,q⟩,⟨nLog,k⟩,⟨nNew,K⟩] nNew=some K:=by kernel_rfl
structure Cap(k q:Nat)(d:Dk)(l:Lg):Prop where
 calm:Calm d
 room:d.room=8000
 names:d.names= [⟨AX,q⟩,⟨nLog,k⟩]
 ne:q≠k
 lt:k<d.files.length/\q<d.files.length
 code:l.code=0
 name:l.name=nLog
 firm:l.firm<=l.b.length
 lb:l.b.length<=2400000
 lo:2+l.firm/512<=(d.file k).now.length
 hi:(d.file k).now.length<=2+nsec l.b.length
 data:(d.file q).now.length<=248
section
variable {k q:Nat}
theorem Cap.log{d:Dk}{l:Lg}(h:Cap k q d l):(d.file k).now.length<=4692:=by
 have h1:=h.hi
 have h2:=h.lb
 unfold nsec at h1
 omega
theorem Cap.findL{d:Dk}{l:Lg}(h:Cap k q d l):d.find nLog=some k:=by rw[Dk.find,h.names];exact(nm2 q k).1
theorem Cap.Ze{d:Dk}{l:Lg}(h:Cap k q d l):d.find AX=some q:=by rw[Dk.find,h.names];exact(nm2 q k).2
theorem Cap.used{d:Dk}{l:Lg}(h:Cap k q d l):d.used=(d.file q).now.length+(d.file k).now.length:=by
 rw[Dk.used,h.names]
 show [d.len q,d.len k].sum=_
 simp only[sum_cons,sum_nil,Nat.add_zero]
 rfl
theorem Cap.one{d:Dk}{l:Lg}(h:Cap k q d l):One d nLog k (d.file q).now.length:=by
 refine⟨h.calm,h.findL,h.lt.1,fun f=> ?_⟩
 rw[Dk.used,show(d.put k f).names=d.names from rfl,h.names]
 show [(d.put k f).len q,(d.put k f).len k].sum=_
 have e1:(d.put k f).len q=(d.file q).now.length:=by rw[Dk.len,BM f h.ne]
 have e2:(d.put k f).len k=f.now.length:=by rw[Dk.len,CO h.lt.1]
 rw[e1,e2]
 simp only[sum_cons,sum_nil]
 omega
theorem Cap.flush{d:Dk}{l:Lg}(h:Cap k q d l):(Aj d l).2.2=0/\Cap k q (Aj d l).1 (Aj d l).2.1:=by
 have hb:=h.lb
 have hd:=h.data
 have hs:nsec l.b.length<=4690:=by unfold nsec;omega
 obtain⟨g,e1,e2⟩:=RJ h.one h.name h.code h.lo h.hi h.firm (by rw[h.room];omega)
 rw[e1]
 refine⟨rfl,⟨h.calm.put _ _,h.room,h.names,h.ne,by rw[DD];exact h.lt,h.code,h.name,Nat.le_refl _,h.lb,?_,?_,?_⟩⟩
 ·rw[CO h.lt.1,e2]
  show 2+l.b.length/512<=_
  unfold nsec;omega
 ·rw[CO h.lt.1,e2]
  exact Nat.le_refl _
 ·rw[BM g h.ne];exact h.data
theorem Cap.lay{r:Dk×Int}{l:Lg}(h:Cap k q r.1 l)(h0:r.2=0){i:Nat}{b:List UInt8}(hb:b.length<=512)(hi:i<=(r.1.file q).now.length)(h248:i<248):
  (layD r i b).2=0/\Cap k q (layD r i b).1 l/\((layD r i b).1.file q).now.length=max (r.1.file q).now.length (i+1):=by
 have hlog:=h.log
 have hdat:=h.data
 unfold layD
 rw[if_pos h0]
 rcases Oy h.calm hb h.Ze (show i<=r.1.len q from hi)with⟨_,_,h2⟩|⟨e,_⟩
 ·rw[h.used,h.room]at h2
  omega
 ·rw[e]
  have hl:=Us (r.1.file q) b hi
  refine⟨rfl,⟨h.calm.put _ _,h.room,h.names,h.ne,by rw[DD];exact h.lt,h.code,h.name,h.firm,h.lb,?_,?_,?_⟩,by rw[CO h.lt.2];exact hl⟩
  ·rw[BM _ (Ne.symm h.ne)];exact h.lo
  ·rw[BM _ (Ne.symm h.ne)];exact h.hi
  ·rw[CO h.lt.2,hl];omega
theorem Cap.gap{l:Lg}:∀(m i:Nat){r:Dk×Int},Cap k q r.1 l->r.2=0->(r.1.file q).now.length=i->i+m<=248->(gapD m i r).2=0/\Cap k q (gapD m i r).1 l/\((gapD m i r).1.file q).now.length=i+m
 |0,i,r,h,h0,hl,_=>⟨h0,h,hl⟩
 |m+1,i,r,h,h0,hl,hm=>by
  obtain⟨g1,g2,g3⟩:=h.lay h0 (b:= []) (Nat.zero_le _) (i:=i) (by omega) (by omega)
  obtain⟨i1,i2,i3⟩:=Cap.gap m (i+1) g2 g1 (by rw[g3];omega) (by omega)
  exact⟨i1,i2,by rw[gapD,i3];omega⟩
theorem Cap.row{l:Lg}{bs:List UInt8}(hbs:bs.length=4096){base:Nat}(hbase:base+8<=248):∀(m j:Nat){r:Dk×Int},Cap k q r.1 l->r.2=0->base+j<=(r.1.file q).now.length->j+m=8->(rowD bs base m j r).2=0/\Cap k q (rowD bs base m j r).1 l
 |0,j,r,h,h0,_,_=>⟨h0,h⟩
 |m+1,j,r,h,h0,hl,hm=>by
  obtain⟨g1,g2,g3⟩:=h.lay h0 (b:=Ba bs j) (by rw[LM hbs (by omega)];omega) (i:=base+j) hl (by omega)
  exact Cap.row hbs hbase m (j+1) g2 g1 (by rw[g3];omega) (by omega)
theorem Cap.page{d:Dk}{l:Lg}(h:Cap k q d l){n:Nat}(hn:n<=30){bs:List UInt8}(hbs:bs.length=4096):(D8 d 0 n bs).2=0/\Cap k q (D8 d 0 n bs).1 l:=by
 have hsz:(d.size AX).toNat=(d.file q).now.length:=by
  rw[Dk.size,h.Ze]
  show((d.len q:Nat):Int).toNat=_
  rw[Int.toNat_natCast];rfl
 have hdat:=h.data
 rw[D8,hsz]
 obtain⟨g1,g2,g3⟩:=Cap.gap (l:=l) (n*8-(d.file q).now.length) (d.file q).now.length (r:=(d,0)) h rfl rfl (by omega)
 exact Cap.row hbs (by omega) 8 0 g2 g1 (by rw[g3];omega) rfl
theorem Cap.ahead{s:St}(h:Cap k q s.d s.lg)(n:Nat):Dp s n=0/\Cap k q (BQ s n).1 (BQ s n).2.1:=by
 unfold Dp BQ
 split
 ·exact⟨rfl,h⟩
 ·exact h.flush
theorem Cap.wrote{s:St}(h:Cap k q s.d s.lg){f:Fr}(hn:f.n<=30){g:Sl.Pg}(hg:Sl.Rep g f.pg.1 f.pg.2):Cm s f g.bs=0/\Cap k q (s.wrote f g.bs).d (s.wrote f g.bs).lg:=by
 obtain⟨h1,h2⟩:=h.ahead f.pg.2
 have h3:=h2.page hn hg.ok.len
 unfold Cm
 rw[h1]
 refine⟨h3.1,?_⟩
 show Cap k q (D8 (BQ s f.pg.2).1 (Dp s f.pg.2) f.n g.bs).1 _
 rw[h1]
 exact h3.2
theorem Ha.cap{s s1:St}{n:Nat}{P:AP}(h:Ha s s1 n P)(hc:Cap k q s.d s.lg)(hl:Low s):Cap k q s1.d s1.lg:=by
 rcases h with⟨j,f,_,_,_,_,rfl⟩|⟨s0,j,_,hfree,_,rfl⟩
 ·exact hc
 ·rcases hfree with⟨_,_,F,rfl⟩|⟨_,fs1,h1,f,hsm,_,hf,_,⟨_,rfl⟩|⟨hd,g,hR,_,rfl⟩⟩
  ·exact hc
  ·exact hc
  ·exact(Cap.wrote (s:= { s with fs:=fs1,hand:=h1 }) hc (hsm.low hl f (mem_of_getElem? hf) hd) hR).2
theorem GI.no{s s1:St}{n:Nat}{c:Int}(h:GI s s1 n c)(hc:Cap k q s.d s.lg)(hl:Low s)(hi:Idle s 5000):False:=by
 rcases h with⟨_,_,f,hf,_,hp⟩|⟨h0,_,hnl,fs1,h1,hsm,hh1,⟨_,hp,_⟩|⟨j,f,g,hf,hpin,hd,hR,rfl,_⟩⟩
 ·have:=(hi.fr f hf).1
  omega
 ·have hm:=hi.many.1
  cases hfs:s.fs with
  |nil=>rw[hfs]at hnl;simp at hnl;omega
  |cons f r=>
   have hm:f∈s.fs:=by rw[hfs];exact .head _
   have h2:=hp f hm
   have h3:=(hi.fr f hm).1
   omega
 ·exact h0 (Cap.wrote (s:= { s with fs:=fs1,hand:=h1 }) hc (hsm.low hl f (mem_of_getElem? hf) hd) hR).1
theorem Hg.cap{Ps:List AP}{N:Nat}(hN:10000<=N){L:List Int}{s s1:St}{c:Int}(h:Hg Ps L s s1 c):∀{Y:Nat},Cap k q s.d s.lg->WJ N Y s->Idle s 5000->Low s->s.pages<=4096->(∀z∈L,0<=z/\z<=30)->
  c=0/\Cap k q s1.d s1.lg/\WJ N (Y+L.length) s1/\Idle s1 5000/\Low s1/\s1.pages<=4096:=by
 induction h with
 |nil s=>exact fun h1 h2 h3 h4 h5 _=>⟨rfl,h1,h2,h3,h4,h5⟩
 |ok n L s s2 s' c h1 _ ih=>
  intro Y hc hw hi hl hp hz
  have hz0:=hz n (.head _)
  have hk:=h1.kept hw hN hi hl hp (by omega)
  have:=ih (h1.cap hc hl) hk.wj hk.idle hk.low hk.pages (fun z hz2=>hz z (.tail _ hz2))
  rw[length_cons,show Y+(L.length+1)=Y+1+L.length by omega]
  exact this
 |bad n L s s2 c hc0 h1=>
  intro Y hc hw hi hl hp hz
  exact(h1.no hc hl hi).elim
theorem EJ.cap{L:List Int}{s s':St}{c:Int}(h:EJ L s s' c):Cap k q s.d s.lg->(∀z∈L,z<=30)->c=0/\Cap k q s'.d s'.lg:=by
 induction h with
 |nil s=>exact fun h _=>⟨rfl,h⟩
 |ok z l s s' c j f g hfd hf hfn hg hE hfl ih=>
  intro hc hz
  have:=hz z (.head _)
  exact ih (hc.wrote (by omega) hg).2 (fun y hy=>hz y (.tail _ hy))
 |bad z l s j f g hfd hf hfn hg hE=>
  intro hc hz
  have:=hz z (.head _)
  exact absurd (hc.wrote (by omega) hg).1 hE
theorem Fg.cap{s s1:St}{c:Int}(h:Fg s s1 c)(hc:Cap k q s.d s.lg)(hi:Idle s 5000)(hl:Low s):c=0/\Cap k q s1.d s1.lg:=by
 rcases h with⟨hp,_,_⟩|⟨_,s2,c2,hW,hcase⟩
 ·exfalso
  rw[nums,length_map]at hp
  obtain⟨f,hf⟩:=List.exists_mem_of_length_pos hp
  obtain⟨h1,h2⟩:=mem_filter.1 hf
  have h3:=(hi.fr f h1).1
  rw[JV,h3]at h2
  simp at h2
 ·obtain⟨rfl,hc2⟩:=hW.cap hc (fun z hz=>by
   obtain⟨f,hf,rfl⟩:=mem_map.1 (Dy.1 hz)
   obtain⟨h1,h2⟩:=mem_filter.1 hf
   have:=hl f h1 h2
   omega)
  rcases hcase with⟨h0,_⟩|⟨_,rfl,rfl⟩
  ·exact absurd rfl h0
  ·have e:=U0 hc2.calm hc2.Ze
   show(s2.d.sync AX).2=0/\Cap k q (s2.d.sync AX).1 s2.lg
   rw[e]
   refine⟨rfl,⟨hc2.calm.put _ _,hc2.room,hc2.names,hc2.ne,by rw[DD];exact hc2.lt,hc2.code,hc2.name,hc2.firm,hc2.lb,?_,?_,?_⟩⟩
   ·rw[BM _ (Ne.symm hc2.ne)];exact hc2.lo
   ·rw[BM _ (Ne.symm hc2.ne)];exact hc2.hi
   ·rw[CO hc2.lt.2];exact hc2.data
theorem nNew_right:Vault.right nNew=true:=by decide+kernel
theorem nLog_right:Vault.right nLog=true:=by decide+kernel
theorem Cap.renew{d:Dk}{l:Lg}(h:Cap k q d l):(drenew d nLog []).2=0/\∃K,Cap K q (drenew d nLog []).1 (l.anew []):=by
 have hlog:=h.log
 have hdat:=h.data
 obtain⟨K,hK⟩:∃K,K=d.files.length:=⟨_,rfl⟩
 have e1:=PL h.calm (n:=nNew) nNew_right
 obtain⟨d1,hd1⟩:∃d1,d1=Dk.change { d with files:=d.files++ [Fl.none] } (.create nNew d.files.length):=⟨_,rfl⟩
 rw[<- hd1]at e1
 have hn1:d1.names= [⟨AX,q⟩,⟨nLog,k⟩,⟨nNew,K⟩]:=by
  rw[hd1,hK]
  show ons d.firm (d.chs++ [_])=_
  rw[ons,foldl_append]
  show with_ d.names ⟨nNew,d.files.length⟩=_
  rw[h.names,nm3]
 have hf1:∀j,j<d.files.length->d1.file j=d.file j:=fun j hj=>by rw[hd1];exact KL hj _ _
 have hfK:d1.file K=Fl.none:=by rw[hd1,hK];exact Ru _ _
 have hlen1:d1.files.length=K+1:=by rw[hd1,hK];show(d.files++ [_]).length=_;rw[length_append];rfl
 have hc1:Calm d1:=by rw[hd1];exact⟨h.calm.armed,h.calm.denied,h.calm.dead⟩
 have hr1:d1.room=8000:=by rw[hd1];exact h.room
 have hlt:=h.lt
 have o1:One d1 nNew K ((d.file q).now.length+(d.file k).now.length):=by
  refine⟨hc1,by rw[Dk.find,hn1];exact nm5 q k K,by omega,fun f=> ?_⟩
  rw[Dk.used,show(d1.put K f).names=d1.names from rfl,hn1]
  show [(d1.put K f).len q,(d1.put K f).len k,(d1.put K f).len K].sum=_
  have a1:(d1.put K f).len q=(d.file q).now.length:=by rw[Dk.len,BM f (by omega),hf1 q hlt.2]
  have a2:(d1.put K f).len k=(d.file k).now.length:=by rw[Dk.len,BM f (by omega),hf1 k hlt.1]
  have a3:(d1.put K f).len K=f.now.length:=by rw[Dk.len,CO (by omega)]
  rw[a1,a2,a3]
  simp only[sum_cons,sum_nil]
  omega
 have e2:=o1.write (i:=0) (b:= []) (Nat.zero_le _) (Nat.zero_le _) (fun _=>by omega)
 rw[hfK]at e2
 have o2:=o1.put (Fl.none.write 0 [])
 have e3:=o2.write (i:=1) (b:= []) (Nat.zero_le _) (by rw[o1.fil];exact Nat.le_refl 1) (fun _=>by show 1+_<d1.room;omega)
 rw[o1.fil,Io]at e3
 have o3:=o1.put ((Fl.none.write 0 []).write 1 [])
 obtain⟨g,e4,e5⟩:=U1 o3 (by rw[o1.fil];exact Nat.le_refl 2) 1 0
 rw[Io]at e4
 rw[o1.fil]at e5
 have hfill:dfill d nNew []=(d1.put K g,0):=by
  have s1:thn (d.create nNew) (fun d=>d.write nNew 0 [])=(d1.put K (Fl.none.write 0 []),0):=(thn0 e1).trans e2
  have s2:thn (thn (d.create nNew) fun d=>d.write nNew 0 []) (fun d=>d.write nNew 1 [])=(d1.put K ((Fl.none.write 0 []).write 1 []),0):=(thn0 s1).trans e3
  have s3:thn (thn (thn (d.create nNew) fun d=>d.write nNew 0 []) fun d=>d.write nNew 1 []) (fun d=>dwrite d nNew [] 0)=(d1.put K ((Fl.none.write 0 []).write 1 []),0):=(thn0 s2).trans rfl
  exact(thn0 s3).trans e4
 have hfg:(d1.put K g).find nNew=some K:=by rw[Dk.find,show(d1.put K g).names=d1.names from rfl,hn1];exact nm5 q k K
 have e6:=rename_calm (hc1.put K g) hfg nLog_right Me
 have hn2:((d1.put K g).change (.rename nNew nLog K)).names= [⟨AX,q⟩,⟨nLog,K⟩]:=by
  show ons d1.firm (d1.chs++ [_])=_
  rw[ons,foldl_append]
  show with_ (without d1.names nNew) ⟨nLog,K⟩=_
  rw[hn1,nm4]
 have e7:=Jr ((hc1.put K g).change (.rename nNew nLog K))
 have hall:drenew d nLog []=({ (d1.put K g).change (.rename nNew nLog K)with firm:= [⟨AX,q⟩,⟨nLog,K⟩],chs:= [] },0):=by
  have s1:thn (dfill d nNew []) (fun d=>d.rename nNew nLog)=((d1.put K g).change (.rename nNew nLog K),0):=(thn0 hfill).trans e6
  rw[hn2]at e7
  exact(thn0 s1).trans e7
 rw[hall]
 have hgl:g.now.length=2:=by rw[e5,length_set];rfl
 have hfile:∀j,Dk.file { (d1.put K g).change (.rename nNew nLog K)with firm:= [⟨AX,q⟩,⟨nLog,K⟩],chs:= [] } j=(d1.put K g).file j:=fun j=>rfl
 have hfl:({ (d1.put K g).change (.rename nNew nLog K)with firm:= [⟨AX,q⟩,⟨nLog,K⟩],chs:= [] }:Dk).files.length=K+1:=(DD d1 K g).trans hlen1
 refine⟨rfl,K,⟨⟨hc1.armed,hc1.denied,hc1.dead⟩,hr1,rfl,by omega,⟨by rw[hfl];omega,by rw[hfl];omega⟩,h.code,h.name,Nat.le_refl _,Nat.zero_le _,?_,?_,?_⟩⟩
 ·rw[hfile,CO (by omega),hgl];exact(show 2+0/512<=2 by decide)
 ·rw[hfile,CO (by omega),hgl];exact(show 2<=2+nsec 0 by decide)
 ·rw[hfile,BM _ (by omega),hf1 q hlt.2];exact hdat
theorem V7.cap{s s':St}{T T':Tou}{code:Int}(h:V7 s T s' T' code)(hc:Cap k q s.d s.lg):code=0/\∃K,Cap K q s'.d s'.lg:=by
 have e:=Jr hc.calm
 have hc2:Cap k q s.d.Aa.1 s.lg:=by
  rw[e]
  exact⟨⟨hc.calm.armed,hc.calm.denied,hc.calm.dead⟩,hc.room,hc.names,hc.ne,hc.lt,hc.code,hc.name,hc.firm,hc.lb,hc.lo,hc.hi,hc.data⟩
 rcases h with⟨h0,_⟩|⟨_,rfl,rfl,_⟩
 ·rw[e]at h0;exact absurd rfl h0
 ·obtain⟨r0,K,hK⟩:=hc2.renew
  rw[ML,if_pos hc.code,hc.name,if_pos r0]
  exact⟨rfl,K,hK⟩
theorem Cap.sync{d:Dk}{l:Lg}(h:Cap k q d l)(wt:Int):(Aw d l wt).2.2.2=0/\(Aw d l wt).2.2.1=0/\Cap k q (Aw d l wt).1 (Aw d l wt).2.1:=by
 obtain⟨h1,h2⟩:=h.flush
 unfold Aw
 rw[if_neg (fun h0=>h0 h.code)]
 exact⟨h1,by rw[if_pos h1],h2⟩
theorem Cap.step{kk t:Nat}{s:St}{Ps:List AP}{T:Tou}{wt:Int}(h:Cap k q s.d s.lg)(hb:JBnd kk t s Ps T wt)(hkk:kk<=100)(hi:Idle s 5000)(hpg:s.pages<=4096){kind:Int}{l:List Chg1}(ht:t+l.length<=300)(hg:∀c∈l,Pj c){s':St}{Ps':List AP}{T':Tou}{wt' code:Int}(hst:JM s Ps T wt kind l s' Ps' T' wt' code):
  (∃K,Cap K q s'.d s'.lg)/\(kind=1\/kind=2->code=0/\wt'=0/\Ps'=Ps):=by
 unfold JM at hst
 split at hst
 ·rename_i k0
  obtain⟨lg',hc,rfl⟩:=hst
  refine⟨⟨k,?_⟩,fun h=>by omega⟩
  have hb':=(Qq hc hb hg (by omega) ht).b
  rcases hc with⟨h0,_⟩|⟨_,_,_,rfl,_⟩|⟨_,_,M,L,rs,htr,hL,hI,rfl,_⟩
  ·exact absurd h.code h0
  ·exact h
  ·have hgood:=Fj htr
   obtain⟨i1,i2,i3⟩:=Rz hI
   have hpl:=Gh l [] (by simp) hgood
   have happ:=Ep s.lg (rs++CS l) (fun r hr=>by
    rcases mem_append.1 hr with hr|hr
    ·have:=i3 r hr;omega
    ·obtain⟨x,hx,rfl⟩:=mem_map.1 hr
     rw[Cc]
     have:=hpl.2 x hx
     omega)
   have hge:s.lg.b.length<=(A7 s.lg (rs++CS l)).b.length:=by
    rw[happ.b,RY];omega
   have hb':(A7 s.lg (rs++CS l)).b.length<=7720*(t+l.length)+5*(kk+1):=hb'
   generalize A7 s.lg (rs++CS l)=lg' at happ hge hb'⊢
   refine⟨h.calm,h.room,h.names,h.ne,h.lt,by rw[happ.code];exact h.code,by rw[happ.name];exact h.name,by show lg'.firm<=lg'.b.length;rw[happ.firm];have:=h.firm;omega,by show lg'.b.length<=_;omega,by show 2+lg'.firm/512<=_;rw[happ.firm];exact h.lo,?_,h.data⟩
   have:=h.hi
   unfold nsec at this⊢
   show(s.d.file k).now.length<=2+(lg'.b.length+511)/512
   omega
 split at hst
 ·rename_i k1
  obtain⟨rfl,rfl,rfl,rfl,rfl⟩:=hst
  obtain⟨h1,h2,h3⟩:=h.sync wt
  exact⟨⟨k,h3⟩,fun _=>⟨h1,h2,rfl⟩⟩
 split at hst
 ·rename_i k2
  obtain⟨hc,rfl⟩:=hst
  obtain⟨h1,h2,h3⟩:=h.sync wt
  have hws:=hb.wj.sync (by omega) wt
  unfold J4 at hc
  generalize Aw s.d s.lg wt=r at h1 h2 h3 hws hc
  obtain⟨d1,lg1,wt1,c1⟩:=r
  dsimp only at h1 h2 h3 hws hc
  subst h1 h2
  obtain⟨rfl,hc⟩:=hc
  have hid:Idle { s with d:=d1,lg:=lg1 } 5000:=⟨hi.fr,hi.len,hi.many,hi.hand,hi.turn,hi.nd⟩
  rcases hc with⟨h0,_⟩|⟨_,L,s2,c2,hL1,hL2,hS,hc⟩
  ·exact absurd rfl h0
  obtain⟨rfl,hc2,hw2,hi2,hl2,hp2⟩:=hS.cap (N:=20000+60*kk) (by omega) (show Cap k q ({ s with d:=d1,lg:=lg1 }:St).d _ from h3) hws hid hb.low hpg (fun z hz=>by
   have:=hb.tp z ((hL2 z).1 hz)
   exact⟨this.1,this.2.1⟩)
  rcases hc with⟨h0,_⟩|⟨_,s3,c3,hF,hc⟩
  ·exact absurd rfl h0
  obtain⟨rfl,hc3⟩:=hF.cap hc2 hi2 hl2
  rcases hc with⟨h0,_⟩|⟨_,hT⟩
  ·exact absurd rfl h0
  obtain⟨h4,h5⟩:=hT.cap hc3
  exact⟨h5,fun _=>⟨h4,rfl,rfl⟩⟩
 ·rename_i k0 k1 k2
  obtain⟨rfl,rfl,rfl,rfl,rfl⟩:=hst
  exact⟨⟨k,h⟩,fun h=>(h.elim k1 k2).elim⟩
end
theorem first_cap{s:St}(hd:s.d=CZ 8000)(hl:s.lg=lg0):Cap 0 1 s.d s.lg:=by
 rw[hd,hl]
 exact⟨⟨rfl,rfl,rfl⟩,rfl,KJ 8000,by omega,⟨by show 0<2;omega,by show 1<2;omega⟩,rfl,rfl,Nat.le_refl _,Nat.zero_le _,Nat.le_refl 2,Nat.le_refl 2,Nat.zero_le _⟩
theorem gaggFl:Agg Tryz.prog 46 5:=I8 (by kernel_rfl)
theorem U3(os:List JOp)(k:Nat):sumL (os.take k)<=sumL os:=by
 have h:=congrArg sumL (take_append_drop k os)
 have e:sumL (os.take k++os.drop k)=sumL (os.take k)+sumL (os.drop k):=by rw[sumL,map_append,List.sum_append];rfl
 omega
theorem FewJ.step{os:List JOp}(h:FewJ os){k:Nat}(hk:k<os.length):sumL (os.take (k+1))=sumL (os.take k)+os[k].l.length/\sumL (os.take k)+os[k].l.length<=300:=by
 have e:os.take (k+1)=os.take k++ [os[k]]:=take_succ_eq_append_getElem hk
 have h1:=U3 os (k+1)
 have h2:=h.sum
 rw[e,UI]at*
 exact⟨rfl,by omega⟩
structure Calmly(past:List (List Chg1))(s:St)(Ps:List AP)(T:Tou)(wt:Int):Prop where
 goes:Goes past s Ps T wt
 cap:∃k q,Cap k q s.d s.lg
theorem Ot{past:List (List Chg1)}{kk t:Nat}{s:St}{Ps:List AP}{T:Tou}{wt:Int}(h:Calmly past s Ps T wt)(hb:JBnd kk t s Ps T wt)(hkk:kk<=100)(hi:Idle s 5000)(hpg:s.pages<=4096){kind:Int}{l:List Chg1}(ht:t+l.length<=300)(hg:∀c∈l,Pj c){s':St}{Ps':List AP}{T':Tou}{wt' code:Int}(hst:JM s Ps T wt kind l s' Ps' T' wt' code)(hN:Nice Ps)(hN':Nice Ps'):
  (∃past',Calmly past' s' Ps' T' wt')/\(kind=1\/kind=2->code=0/\wt'=0/\Ps'=Ps/\Calmly [BH Ps'] s' Ps' T' wt'):=by
 obtain⟨⟨k,q,F,Pf,h,hp⟩,k2,q2,hc⟩:=h
 obtain⟨hc2,hk⟩:=hc.step hb hkk hi hpg ht hg hst
 obtain⟨K,hK⟩:=hc2
 rcases h.step hb (by omega) hi hpg ht hst hN hN' with⟨rfl,rfl,h1,h2⟩|⟨rfl,rfl,h1,rfl,h2⟩|⟨hk1,rfl,rfl,rfl,k',F',h2⟩|⟨hk1,rfl,rfl,h2⟩|⟨hk1,h0,_⟩
 ·exact⟨⟨_,⟨k,q,F,Pf,h2,hp⟩,K,q2,hK⟩,fun h=>by omega⟩
 ·exact⟨⟨_,⟨k,q,F,Pf,h2,hp⟩,K,q2,hK⟩,fun h=>by omega⟩
 ·have:Calmly [BH Ps'] s' Ps' T' 0:=⟨⟨k',q,F',_,h2,.head _⟩,K,q2,hK⟩
  exact⟨⟨_,this⟩,fun _=>⟨rfl,rfl,rfl,this⟩⟩
 ·exact⟨⟨_,⟨k,q,F,Pf,h2,hp⟩,K,q2,hK⟩,fun h=>(hk1 (.inr h)).elim⟩
 ·exact absurd (hk hk1).1 h0
theorem journalFirm_law(sa:Option Addr)(sc:Nat)(os:List JOp)(f:Flt)(check:Bool)(W:World)(hs:JScr W sa os)(hf:f.Ok)(hP:Cells W f.pa (ints f.picks)):
  Calls Tryz.prog 5 #[.slice sa os.length sc,.agg f.cs.toArray,.bool check] W fun e W'=>e=.returned (.bool true)/\Hp [] W W' []:=by
 apply journalFirm.ok;unfold journalFirm.vc
 intro b w1 hn
 have H:=(Hp.start W).new (cs:=f.cs) (by exact⟨rfl,rfl,rfl,rfl⟩) hn
 clear hn
 refine AC (few_spec sa sc os w1 (hs.chg H.chg)) ?_
 rintro e w2 ⟨bb,rfl,hbb,H'⟩
 replace H:=H.ext0 H'
 clear H'
 refine⟨_,rfl,Bc (fun hb0=>V3 fun w3 H'=>⟨_,rfl,rfl,(H.ext0 H').done⟩) (fun hb1=> ?_)⟩
 have hfw:=hbb hb1
 have hol:=hfw.len
 refine AC (Qj 8000 w2) ?_
 rintro e w3 ⟨x0,rfl,hx0,H'⟩
 replace H:=H.ext H'
 clear H'
 refine⟨_,rfl,_,Cj QI,C9 ?_⟩
 have hbg:=begun8000
 refine AC (Gs x0 (Dk.new 8000) hx0 (new_fit0 8000) (by omega) 4 (by omega) w3 H.std1) ?_
 rintro e w4 ⟨x1,hx1b,hx1,hcase⟩
 rcases hcase with⟨hc,_⟩|⟨_,y1,s1,p1,tt1,m1,rfl,hR1,hm1,hsd,hslg,hsm,hsp,hsT,H'⟩
 ·exact absurd hbg.code hc
 replace H:=H.useL H'
 clear H'
 rw[hbg.Ps]at hR1 H
 rw[hbg.T]at H
 rw[hbg.d]at hsd
 rw[hbg.lg]at hslg
 obtain⟨hrun,hbnd⟩:=first_run hsd hslg (fun f hf=>(hR1.idle.cl hm1 f hf).1)
 have hcap:=first_cap hsd hslg
 refine⟨_,_,rfl,IL.mk (fun s w'=>s=false/\w'=w4) ?_ (fun R' hR'=>BD (fun h=>absurd rfl h) (fun _=>⟨_,Cj VG,hR' _ _ ⟨rfl,rfl⟩⟩))⟩
 rintro sj wj ⟨rfl,rfl⟩
 refine C9 ?_
 have hx1b:x1.b=x0.b:=hx1b
 obtain⟨yb,hyb⟩:∃yb,yb=y1.jb:=⟨_,rfl⟩
 rw[<- hyb]
 have mB:∀{Z:List Asn},Asn.blk b f.cs 46∈Z++ [.blk b f.cs 46]:=mem_append_right _ (.head _)
 refine Ag.mk (fun(m:Nat)(sv:Int)(w':World)=>∃(k:Nat)(y:GW)(x:DW)(s:St)(p:JP)(tt:Nat)(wt:Int)(Ps:List AP)(T:Tou),m=os.length-k/\k<=os.length/\sv=(k:Int)/\y.jb=yb/\x.b=x0.b/\Rest y x s p Ps 5000/\JBnd k (sumL (os.take k)) s Ps T wt/\(∃past,Calmly past s Ps T wt)/\
   Hp [] W w' (Ac y x s p tt wt Ps T++ [.blk b f.cs 46])) os.length
  ⟨0,y1,x1,s1,p1,tt1,0,[],T0,rfl,by omega,rfl,hyb.symm,hx1b,⟨hR1.fs,hR1.dk,hR1.idle.any,hR1.pages,hR1.sz,hR1.bs,hR1.few⟩,hbnd,⟨[BH []],⟨_,_,_,_,hrun,.head _⟩,0,1,hcap⟩,H⟩ ?_
 clear H hrun hbnd hcap hR1 hx1b hx1 hsd hslg hsm hsp hsT hm1 hyb
 rintro m sv w7 next ⟨k,y,x,s,p,tt,wt,Ps,T,rfl,hk,rfl,hyb,hxb,hR,hb,⟨past,hC⟩,H⟩ hnext
 have hsum:=U3 os k
 have hfs:=hfw.sum
 refine AO (fun h1=> ?_) (fun h1=> ?_)
 ·have hkl:k<os.length:=by omega
  obtain⟨ad,had,hld⟩:=(hs.chg H.chg).ld hkl
  obtain⟨hst1,hst2⟩:=hfw.step hkl
  have hgd:=hfw.good _ (getElem_mem hkl)
  have hro:=hs.rows _ (getElem_mem hkl)
  generalize os[k]=o at hld hst1 hst2 hgd hro
  refine AA had ⟨⟨by omega,by omega⟩,_,_,_,_,by rw[Int.toNat_natCast];exact hld,?_⟩
  intro b4 w8 hn
  replace H:=H.new (cs:= [.int .i64 0,.slice none 0 0]) (by exact⟨rfl,rfl,rfl,rfl⟩) hn
  clear hn
  refine Hp.stA (o:=0) H (by exact⟨rfl,rfl,rfl,rfl⟩) Vw (vs:=o.cs) rfl rfl (by simp) (cs':=o.cs) rfl ?_
  clear H w8;intro w8 H
  refine⟨_,_,_,_,H.ldA (o:=0) (by exact⟨rfl,rfl,rfl,rfl⟩) Vw (.head _) (vs:=o.cs) rfl rfl,?_⟩
  replace H:=H.drop
  have hds:=does_spec y x s p tt wt Ps T hR hb (by omega) o (by omega) hgd w8 H.std1 (fun W' hW=>hro.chg (H.CE.later hW) (by simp))
  rw[hyb]at hds
  refine AC hds ?_
  rintro e w9 ⟨code,s',Ps',T',wt',hstep,rfl,y',x',p',hS2,hR',hb',H'⟩
  have hN:=Rx H.std1 hR.bs
  have H2:=H.useL H'
  clear H H' hds
  have hN':=Rx H2.std1 hR'.bs
  obtain⟨hC',_⟩:=Ot hC hb (by omega) hR.idle hR.pages hst2 hgd hstep hN hN'
  rw[<- hst1]at hb'
  exact⟨_,rfl,AZ.2 (by omega),hnext (os.length-(k+1)) _ _ (by omega) ⟨k+1,y',x',s',p',tt,wt',Ps',T',rfl,by omega,by omega,hS2.jb.trans hyb,hS2.xb.trans hxb,hR',hb',hC',H2⟩⟩
 ·have hke:k=os.length:=by omega
  subst hke
  clear hnext
  rw[take_length]at hb
  have hw:=hb.wj
  --Sync
  have hsy:=G9 y x s p tt wt Ps T 5000 hR (hw.lgB (by omega)) hw.fit (by omega) w7 H.std1
  rw[<- hyb]
  refine AC hsy ?_
  rintro e w8 ⟨rfl,x2,lw2,hx2b,hlw2,hR2,H'⟩
  rw[hyb]
  have hN:=Rx H.std1 hR.bs
  have H2:=H.useL H'
  clear H H' hsy
  have hb1:JBnd (os.length+1) (sumL os+0) { s with d:=(Aw s.d s.lg wt).1,lg:=(Aw s.d s.lg wt).2.1 } Ps T (Aw s.d s.lg wt).2.2.1:=by
   have hk1:=OM s.d s.lg wt
   have hwk:=hw.sync (by omega) wt
   exact⟨hwk.mono (by omega) (by omega),hb.low,by show(Aw s.d s.lg wt).2.1.b.length<=_;rw[hk1.b];have:=hb.b;omega,by show(Aw s.d s.lg wt).2.1.all.length<=_;rw[hk1.all];have:=hb.all;omega,fun n=>by have:=hb.tn n;omega,hb.tp,by have:=Vg (d:=s.d) (l:=s.lg) hb.wt;omega,by show(Aw s.d s.lg wt).2.1.name=_;rw[hk1.name];exact hb.name⟩
  obtain⟨-,hsync⟩:=Ot hC hb (by omega) hR.idle hR.pages (kind:=1) (l:= []) (by simp;omega) (by simp) (s':= { s with d:=(Aw s.d s.lg wt).1,lg:=(Aw s.d s.lg wt).2.1 }) (Ps':=Ps) (T':=T) (wt':=(Aw s.d s.lg wt).2.2.1) (code:=(Aw s.d s.lg wt).2.2.2) (by rw[JM,if_neg (by decide),if_pos rfl];exact⟨rfl,rfl,rfl,rfl,rfl⟩) hN hN
  obtain⟨hc0,hwt0,-,hC1⟩:=hsync (.inl rfl)
  have hjb2:({ y with lw:=lw2 }:GW).jb=yb:=hyb
  generalize({ y with lw:=lw2 }:GW)=y2 at H2 hR2 hjb2
  generalize({ s with d:=(Aw s.d s.lg wt).1,lg:=(Aw s.d s.lg wt).2.1 }:St)=s2 at H2 hR2 hb1 hC1
  rw[hc0]
  rw[hwt0]at H2 hb1 hC1
  clear hsync hc0 hwt0
  have hx2:x2.b=x0.b:=hx2b.trans hxb
  refine⟨_,rfl,IL.mk (fun(sv:Int)(w':World)=>sv=0/\∃(y:GW)(x:DW)(s:St)(T:Tou),y.jb=yb/\x.b=x0.b/\Rest y x s p Ps 5000/\JBnd (os.length+2) (sumL os) s Ps T 0/\Calmly [BH Ps] s Ps T 0/\Hp [] W w' (Ac y x s p tt 0 Ps T++ [.blk b f.cs 46])) ?rest ?chk⟩
  case chk=>
   intro R2 hR2'
   refine CP (fun _=> ?_) (fun _=>hR2' _ _ ⟨rfl,y2,x2,s2,T,hjb2,hx2,hR2,hb1.mono (Nat.le_succ _) (Nat.le_refl _),hC1,H2⟩)
   have hw1:=hb1.wj
   have hck:=PG y2 x2 s2 p tt 0 Ps T hR2 hb1.low hw1 (by omega) (by omega) hb1.name hb1.tp w8 H2.std1
   rw[hjb2]at hck
   refine AC hck ?_
   rintro e w9 ⟨code,s3,T3,wt3,hcr,rfl,y3,x3,hS3,hR3,hlo3,hw3,H'⟩
   have H3:=H2.useL H'
   clear H2 H' hck
   obtain⟨-,hchk⟩:=Ot hC1 hb1 (by omega) hR2.idle hR2.pages (kind:=2) (l:= []) (by simp;omega) (by simp) (s':=s3) (Ps':=Ps) (T':=T3) (wt':=wt3) (code:=code) (by rw[JM,if_neg (by decide),if_neg (by decide),if_pos rfl];exact⟨hcr,rfl⟩) hN hN
   obtain⟨rfl,rfl,-,hC3⟩:=hchk (.inr rfl)
   have hb3:JBnd (os.length+2) (sumL os) s3 Ps T3 0:=by
    have h1:=hb1.b
    have h2:=hb1.all
    have hT0:∀n,¬0<T0 n:=fun n=>Nat.lt_irrefl 0
    rcases hcr.lgk with⟨hK,rfl⟩|⟨hn,hb',ha',rfl⟩|⟨hK,rfl⟩
    ·exact⟨hw3.mono (by omega) (by omega),hlo3,by rw[hK.b];omega,by rw[hK.all];omega,fun n=>by have:=hb1.tn n;omega,hb1.tp,by omega,by rw[hK.name];exact hb1.name⟩
    ·exact⟨hw3.mono (by omega) (by omega),hlo3,by rw[hb'];exact Nat.zero_le _,by rw[ha'];exact Nat.zero_le _,fun n=>Nat.zero_le _,fun n h=>absurd h (hT0 n),by omega,by rw[hn];exact hb1.name⟩
    ·exact⟨hw3.mono (by omega) (by omega),hlo3,by rw[hK.b];omega,by rw[hK.all];omega,fun n=>Nat.zero_le _,fun n h=>absurd h (hT0 n),by omega,by rw[hK.name];exact hb1.name⟩
   exact⟨_,rfl,hR2' _ _ ⟨rfl,y3,x3,s3,T3,hS3.jb.trans hjb2,hS3.xb.trans hx2,hR3,hb3,hC3,H3⟩⟩
  case rest=>
  clear H2 hb1 hC1 hR2 hjb2 hx2 hx2b hlw2 y2 s2
  clear hb hw hR hC hyb hxb y x s T
  rintro sv w9 ⟨rfl,y,x,s,T,hyb,hxb,hR,hb,hC,H⟩
  refine IL.mk (fun(sv:Bool)(w':World)=>sv=false/\Hp [] W w' (Ac y x s p tt 0 Ps T++ [.blk b f.cs 46])) ?rows ?ask
  case ask=>
   intro R3 hR3
   refine BD (fun h=>absurd rfl h) (fun _=> ?_)
   have hjw:=Kt y.jb (ptrV x.b) (ptrV y.lw.b) (ptrV y.pb) p (some tt) 0 w9 (H.blk (mem_append_left _ (Ei ..)))
   rw[hyb]at hjw
   refine AC hjw ?_
   rintro e w10 ⟨rfl,H'⟩
   exact⟨_,rfl,hR3 _ _ ⟨rfl,H.ext0 H'⟩⟩
  case rows=>
  clear H
  rintro sv w10 ⟨rfl,H⟩
  refine C9 ?_
  have hjr:=JA y.jb (ptrV x.b) (ptrV y.lw.b) (ptrV y.pb) p (some tt) 0 Ps hR.bs hR.few w10 (Hp.std1 (L1:=jpL y.jb (ptrV x.b) (ptrV y.lw.b) (ptrV y.pb) p (some tt) 0 Ps) H.CE)
  rw[hyb]at hjr
  refine AC hjr ?_
  rintro e w11 ⟨a5,c5,rfl,hlen,H'⟩
  have hfew:=hR.few
  have H1:=H.ext1 H'
  clear H H' hjr
  refine⟨_,_,_,rfl,?_⟩
  refine AC (RP a5 c5 _ (by omega) w11 (H1.ownA (.head _)).cells) ?_
  rintro e w12 ⟨a6,c6,rfl,H'⟩
  have H2:=H1.ext1 H'
  clear H1 H'
  refine⟨_,_,_,rfl,?_⟩
  have hnr:=(nice_rows hN hfew).1
  obtain⟨now,hnow⟩:∃now,now=BH Ps:=⟨_,rfl⟩
  have hsaf:Saf [now] (7720*sumL os+5*(os.length+2)) (2*sumL os+(os.length+2)) (2+200*(os.length+2)) s.d:=by
   obtain⟨k1,q1,F1,Pf1,h1,h2⟩:=hC.goes
   rw[hnow]
   exact h1.saf hb h2
  rw[<- hnow]at H2 hnr hlen⊢
  have H3:=H2.perm (M:=(dkL x s.d++ [.own 98 4 a6 now.length c6 (chC now),.blk b f.cs 46])++(.own 73 4 a5 now.length c5 (chC now)::jnoD y x s p tt 0 Ps T)) ((((Gj y x s p tt 0 Ps T).append_right _).cons _).cons _ |>.trans (by(refine AL fun ff gg h0 hc ha hpm=> ?_;simp only[ha,hc,h0];omega)))
  have H4:=H3.CE
  clear H2 H3
  have hfitN:=hb.wj.fit
  refine Ag.mk (fun(m:Nat)(sv:Option Addr×Int)(w':World)=>∃(j:Nat)(x:DW)(d:Dk),m=2-j/\j<=2/\sv=(some ⟨x.b,0,none⟩,(j:Int))/\x.Ok d/\d.Fit (20000+60*(os.length+2)+26*j)/\Saf [now] (7720*sumL os+5*(os.length+2)) (2*sumL os+(os.length+2)) (2+200*(os.length+2)) d/\
    Hp [] W w' (dkL x d++ [.own 98 4 a6 now.length c6 (chC now),.blk b f.cs 46])) 2 ⟨0,x,s.d,rfl,by omega,by rw[hxb];rfl,hR.dk,hfitN,hsaf,H4⟩ ?_
  clear H4 hsaf hfitN hb hC hR hxb hyb x s y
  rintro m sv w13 next ⟨j,x,d,rfl,hj,rfl,hx,hfit,hsaf,H⟩ hnext
  dsimp only
  refine AO (fun hj2=> ?_) (fun _=>V3 fun w3 H'=>⟨_,rfl,rfl,(H.ext0 H').done⟩)
  have mF:∀{Z:List Asn},Asn.blk b f.cs 46∈Z++ [.own 98 4 a6 now.length c6 (chC now),.blk b f.cs 46]:=mem_append_right _ (.tail _ (.head _))
  have mR:∀{Z:List Asn},Asn.own 98 4 a6 now.length c6 (chC now)∈Z++ [.own 98 4 a6 now.length c6 (chC now),.blk b f.cs 46]:=mem_append_right _ (.head _)
  refine⟨_,_,_,_,_,_,_,H.ldA (o:=0) (by exact⟨rfl,rfl,rfl,rfl⟩) gaggFl mF (vs:=f.cs) rfl rfl,?_⟩
  obtain⟨⟨k0,m0,A0,Q0,hF⟩,hcalm,hfit2⟩:=hsaf.crashed hfit f
  have hfe:(Au (Bd d f)).2=0:=(Qc hcalm).1
  obtain⟨e1,e2,e3,e4,e5,e6⟩:=TT hF.live hcalm.dead (Gl hF.opt.sz) hF.opt.rep hF.opt.hi hfe
  have hrows:BH (Ad (Bd d f)).2.2.2.Ps=now:=by
   rw[show BH (Ad (Bd d f)).2.2.2.Ps=BH Q0 from GZ _ _ 0 e4]
   exact mem_singleton.1 hF.opt.past
  obtain⟨_,hF2⟩:=hF.opened hcalm.dead
  have hfit3:=LJ hfit2
  refine AC (opened_spec x d hx hfit (by omega) f hf w13 H.std1 (fun W' hW=>hP.chg (H.CE.later hW) (by simp))) ?_
  rintro e w14 ⟨z,hz,hcase⟩
  rcases hcase with⟨hc,_⟩|⟨_,y2,s2,p2,tt2,m2,rfl,hR2,hm2,hsd2,hsl2,hsm2,hT2,H'⟩
  ·exact absurd e2 hc
  have H2:=H.useL H'
  clear H H'
  refine⟨_,_,rfl,_,Cj VG,C9 ?_⟩
  have hst:Std w14 (jpL y2.jb (ptrV z.b) (ptrV y2.lw.b) (ptrV y2.pb) p2 (some tt2) 0 (Ad (Bd d f)).2.2.2.Ps):=Hp.std1 (L1:=jpL y2.jb (ptrV z.b) (ptrV y2.lw.b) (ptrV y2.pb) p2 (some tt2) 0 (Ad (Bd d f)).2.2.2.Ps) H2.CE.CE
  have hsaf2:=hF2.saf
  generalize Ad (Bd d f)=r at hrows hR2 hst H2 hsaf2 hz hfit3 hsd2
  refine AC (JA y2.jb (ptrV z.b) (ptrV y2.lw.b) (ptrV y2.pb) p2 (some tt2) 0 _ hR2.bs hR2.few w14 hst) ?_
  rintro e w15 ⟨a7,c7,rfl,hlen2,H'⟩
  have hfew2:=hR2.few
  have H3:=H2.ext1 H'
  clear H2 H' hst
  refine⟨_,_,_,rfl,?_⟩
  refine AC (RP a7 c7 _ (by omega) w15 (H3.ownA (.head _)).cells) ?_
  rintro e w16 ⟨a8,c8,rfl,H'⟩
  have H4:=H3.ext1 H'
  clear H3 H'
  refine⟨_,_,_,rfl,?_⟩
  refine AC (rsame_spec a8 c8 (BH r.2.2.2.Ps) a6 c6 now (by omega) w16 (H4.ownA (.head _)).cells (H4.ownA (.tail _ (.tail _ mR))).cells) ?_
  rintro e w17 ⟨rfl,H'⟩
  replace H4:=H4.ext0 H'
  clear H'
  refine⟨_,rfl,Bc (fun h=>by rw[decide_eq_true hrows]at h;cases h) (fun _=>⟨AZ.2 (by omega),?_⟩)⟩
  refine hnext (2-(j+1)) _ _ (by omega) ⟨j+1,z,r.1,rfl,by omega,rfl,hz,hfit3.mono (by omega),hsaf2,?_⟩
  have H5:=H4.drop.drop
  rw[append_assoc]at H5
  have H6:=H5.perm ((Gj y2 z s2 p2 tt2 0 r.2.2.2.Ps r.2.2.2.T).append_right _)
  rw[hsd2]at H6
  exact(H6.perm (M:=(dkL z r.1++ [.own 98 4 a6 now.length c6 (chC now),.blk b f.cs 46])++(jnoD y2 z s2 p2 tt2 0 r.2.2.2.Ps r.2.2.2.T++dkL x d)) (by(refine AL fun ff gg h0 hc ha hpm=> ?_;simp only[ha,hc,h0];omega))).CE
theorem journalFirm_holds:Rows.JournalFirmSaid:=
 OpenClaim.holds_of_wide 5 Tryz.f5 rfl rfl rfl rfl rfl rfl rfl ⟨rfl,rfl,rfl,rfl,rfl⟩ rfl rfl rfl rfl rfl (by kernel_rfl) Tryz.func5 (by kernel_rfl)
  (of_decide_eq_true (by kernel_rfl)) (by unfold Func.isWrapper;first|(rw[if_pos (by decide+kernel)];kernel_rfl)|(rw[if_neg (by decide+kernel)];exact⟨rfl,rfl⟩))
  (fun os started H enc _=>law_lift (C:=Tryz.checked) (s:=Rows.journalFirmSpec) 5 Tryz.f5 5 own_ started (by kernel_rfl) Tryz.func5 laid_ (by kernel_rfl) rfl (by kernel_rfl) und4
   (fun ds h=>by
    match ds,h with
    | [d0,d1,d2],_=>rfl)
   (ChangeSpec.witness6 (enc:=enc) (C:=Tryz.checked) false ⟨#[],#[.slice none 0 0,.agg #[.int .i64 0,.int .i64 0,.int .i64 0,.slice none 0 0,.bool false],.bool false],[]⟩ 8 (by kernel_rfl) (by kernel_rfl) (by kernel_rfl) (by kernel_rfl))
   (fun W args hrd=>by
    obtain⟨sa,sc,os,f,g,rfl,h1,h2,h3⟩:=open_firm hrd
    exact(journalFirm_law sa sc os f g W h1 h2 h3).mono fun e W' ⟨he,hh⟩=>⟨he,hh.chg⟩))
end Go.Proofs.YtdeebigmpffnbaaGreat
