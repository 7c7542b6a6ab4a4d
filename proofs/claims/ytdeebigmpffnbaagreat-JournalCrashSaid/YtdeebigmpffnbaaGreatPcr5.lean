/- Part 5 of 6 of the proof of journalCrash_holds: for every input, from every world that may be reached. -/
import Derived.WalkKit
import Derived.RangeFuncSeq
import Derived.KernelRfl
import Derived.RangeFuncLeaves
import Derived.Test.YtdeebigmpffnbaaGreatChecked
import Derived.Deep.AppendSrc
import Derived.Laws.MakeOwn
import Derived.Laws.BytesArg
import Derived.Laws.BytesString
import Derived.Laws.IdiomStrings
import Derived.Maps.RangeRun
import Derived.Shelf.SlIter.Nil
import Derived.Shelf.SlIterI.Nil
import Derived.Shelf.SortM.Plain
import Derived.Shelf.SortM.SortNone
import Derived.Shelf.SlMaps.Clone
import Derived.StringKeys
import Derived.Laws.Pointers
import Derived.Sort.Walk0
import Derived.Lib.SliceRun
import Derived.Test.YtdeebigmpffnbaaGreatRows
import Derived.ProofKit
import Derived.Laws.StructEq
import Derived.ChangeKeysEq
import Derived.WideKeyRuns
import Derived.Test.YtdeebigmpffnbaaGreatPcr1
import Derived.Test.YtdeebigmpffnbaaGreatPcr2
import Derived.Test.YtdeebigmpffnbaaGreatPcr3
import Derived.Test.YtdeebigmpffnbaaGreatPcr4
set_option linter.unusedVariables false
set_option linter.unusedSimpArgs false
set_option maxRecDepth 100000
set_option maxHeartbeats 4000000
open List(append_assoc append_nil cons_append drop_drop drop_eq_getElem_cons drop_length drop_one drop_take flatMap_cons flatMap_def foldl_append foldl_cons getD_eq_getElem?_getD getElem_mem length_append length_cons length_drop length_map length_nil length_set length_singleton length_take map_append map_cons map_map map_nil mem_append mem_append_left mem_append_right mem_cons mem_map mem_of_getElem? mem_singleton nil_append nodup_append nodup_cons pairwise_map set_set sum_cons take_append_drop take_length take_nil take_of_length_le take_succ_eq_append_getElem take_take take_zero)
namespace Go.Proofs.YtdeebigmpffnbaaGreat
open Go Go.Vc Go.Vault Go.Redo
section
variable{K V:Type}[DecidableEq K]
def gget:List (K×V)->K->Option V
 | [],_=>none
 |(x,v)::r,k=>if k=x then some v else gget r k
def gput:List (K×V)->K->V->List (K×V)
 | [],k,v=>[(k,v)]
 |(x,u)::r,k,v=>if k=x then(x,v)::r else(x,u)::gput r k v
def mapV(f:V->Value)(l:List (K×V)):List (K×Value):=l.map fun p=>(p.1,f p.2)
theorem F7(f:V->Value):∀(l:List (K×V))(k:K),Vc.aget (mapV f l) k=(gget l k).map f
 | [],_=>rfl
 |(x,v)::r,k=>by
  have ih:=F7 f r k
  simp only[mapV,map_cons,Vc.aget,gget]at ih⊢
  split
  ·rfl
  ·exact ih
theorem Ia(f:V->Value):∀(l:List (K×V))(k:K)(v:V),Vc.aput (mapV f l) k (f v)=mapV f (gput l k v)
 | [],_,_=>rfl
 |(x,u)::r,k,v=>by
  have ih:=Ia f r k v
  simp only[mapV,map_cons,Vc.aput,gput]at ih⊢
  split
  ·rfl
  ·rw[ih];rfl
theorem D5(l:List (K×V))(k:K)(v:V)(j:K):gget (gput l k v) j=if j=k then some v else gget l j:=by
 induction l with
 |nil=>simp[gput,gget]
 |cons p r ih=>
  obtain⟨x,u⟩:=p
  simp only[gput]
  by_cases hk:k=x
  ·rw[if_pos hk]
   subst hk
   simp only[gget]
   split<;>rfl
  ·rw[if_neg hk]
   simp only[gget]
   by_cases hj:j=x
   ·rw[if_pos hj,if_pos hj,if_neg (fun h=>hk (by rw[<- h,hj]))]
   ·rw[if_neg hj,if_neg hj,ih]
theorem OM{l:List (K×V)}{k:K}:gget l k=none↔∀p∈l,p.1≠k:=by
 induction l with
 |nil=>simp[gget]
 |cons p r ih=>
  obtain⟨x,u⟩:=p
  simp only[gget,List.forall_mem_cons]
  by_cases hk:k=x
  ·rw[if_pos hk];simp[hk]
  ·rw[if_neg hk,ih]
   exact⟨fun h=>⟨fun e=>hk e.symm,h⟩,fun h=>h.2⟩
theorem Gq{l:List (K×V)}{k:K}{v:V}(h:gget l k=some v):(k,v)∈l:=by
 induction l with
 |nil=>cases h
 |cons p r ih=>
  obtain⟨x,u⟩:=p
  simp only[gget]at h
  split at h
  ·rename_i hk;subst hk;cases h;exact .head _
  ·exact .tail _ (ih h)
theorem UJ{l:List (K×V)}{k:K}{v:V}(h:gget l k≠none):(gput l k v).map (·.1)=l.map (·.1):=by
 induction l with
 |nil=>exact absurd rfl h
 |cons p r ih=>
  obtain⟨x,u⟩:=p
  simp only[gget]at h
  simp only[gput]
  split
  ·rfl
  ·rename_i hk
   rw[if_neg hk]at h
   simp only[map_cons,ih h]
theorem QW{l:List (K×V)}{k:K}{v:V}(h:gget l k=none):gput l k v=l++[(k,v)]:=by
 induction l with
 |nil=>rfl
 |cons p r ih=>
  obtain⟨x,u⟩:=p
  simp only[gget]at h
  split at h
  ·cases h
  ·rename_i hk
   simp only[gput,if_neg hk,ih h,cons_append]
theorem Lh{l:List (K×V)}{k:K}{v:V}(h:(l.map (·.1)).Nodup):((gput l k v).map (·.1)).Nodup:=by
 by_cases hk:gget l k=none
 ·rw[QW hk,map_append,nodup_append]
  refine⟨h,by simp,fun a ha b hb=>?_⟩
  simp at hb;subst hb
  obtain⟨p,hp,rfl⟩:=mem_map.1 ha
  exact OM.1 hk p hp
 ·rw[UJ hk];exact h
theorem QK{l:List (K×V)}(h:(l.map (·.1)).Nodup){k:K}{v:V}(hm:(k,v)∈l):gget l k=some v:=by
 induction l with
 |nil=>cases hm
 |cons p r ih=>
  obtain⟨x,u⟩:=p
  simp only[map_cons,nodup_cons]at h
  simp only[gget]
  rcases mem_cons.1 hm with h2|h2
  ·cases h2;rw[if_pos rfl]
  ·rw[if_neg (fun e=>h.1 (mem_map.2 ⟨_,h2,e⟩))]
   exact ih h.2 h2
theorem KI{l:List (K×V)}{k:K}{v:V}{p:K×V}(h:p∈gput l k v):p=(k,v)\/p∈l:=by
 induction l with
 |nil=>simp only[gput,mem_singleton]at h;exact .inl h
 |cons q r ih=>
  obtain⟨x,u⟩:=q
  simp only[gput]at h
  split at h
  ·rename_i hk
   rcases mem_cons.1 h with h|h
   ·subst hk;exact .inl h
   ·exact .inr (.tail _ h)
  ·rcases mem_cons.1 h with h|h
   ·exact .inr (h▸.head _)
   ·exact(ih h).imp id (.tail _)
end
abbrev Tou:=Int->Nat
def Tou.up(T:Tou)(n:Int):Tou:=fun k=>if k=n then T k+1 else T k
def cntV(n:Nat):Value:=.int .i64 (n:Int)
structure TouL(T:Tou)(l:List (Int×Nat)):Prop where
 nodup:(l.map (·.1)).Nodup
 at_:∀n,(gget l n).getD 0=T n
 pos:∀p∈l,0<p.2
theorem TouL.nil:TouL (fun _=>0) []:=⟨by simp,fun _=>rfl,by simp⟩
theorem TouL.up{T:Tou}{l:List (Int×Nat)}(h:TouL T l)(n:Int):TouL (T.up n) (gput l n (T n+1)):=by
 refine⟨Lh h.nodup,fun k=>?_,fun p hp=>?_⟩
 ·rw[D5,Tou.up]
  by_cases hk:k=n
  ·rw[if_pos hk,if_pos hk,hk];rfl
  ·rw[if_neg hk,if_neg hk];exact h.at_ k
 ·rcases KI hp with rfl|hp
  ·exact Nat.succ_pos _
  ·exact h.pos p hp
theorem TouL.keys{T:Tou}{l:List (Int×Nat)}(h:TouL T l)(n:Int):n∈l.map (·.1)↔0<T n:=by
 rw[<- h.at_ n]
 constructor
 ·intro hm
  obtain⟨p,hp,rfl⟩:=mem_map.1 hm
  rw[QK h.nodup (k:=p.1) (v:=p.2) hp]
  exact h.pos p hp
 ·intro hp
  cases hg:gget l n with
  |none=>rw[hg]at hp;simp at hp
  |some c=>exact mem_map.2 ⟨_,Gq hg,rfl⟩
def touA(b:Nat)(T:Tou):Asn:=.any [b] fun w=>∃l,TouL T l/\MapAt (ET .i64) w b (mapV cntV l)
theorem tou_ok{b:Nat}{T:Tou}{l:List (Int×Nat)}{w:World}(hl:TouL T l)(h:MapAt (ET .i64) w b (mapV cntV l)):(touA b T).ok w:=
 ⟨by intro k hk;simp at hk;subst hk;exact h.lt,fun w' e=>⟨l,hl,by
  obtain⟨es,c,h1,h2⟩:=h
  exact⟨es,c,(e b (by simp)).trans h1,h2⟩⟩⟩
theorem Vt{b:Nat}{T:Tou}{w:World}(h:(touA b T).ok w):∃l,TouL T l/\MapAt (ET .i64) w b (mapV cntV l):=h.2 w fun _ _=>rfl
theorem Hp.ZJ{B:List Nat}{w0 w:World}{L:List Asn}{b:Nat}{T:Tou}(H:Hp B w0 w (touA b T::L)):∃l,TouL T l/\Hp B w0 w (.imap b .i64 (mapV cntV l)::L):=by
 obtain⟨l,hl,hm⟩:=Vt (H.ok _ (.head _))
 exact⟨l,hl,H.set (Chg.refl _ _) hm fun k hk=>.inl (by simpa [Asn.foot,touA]using hk)⟩
theorem Hp.UR{B:List Nat}{w0 w:World}{L:List Asn}{b:Nat}{T:Tou}{l:List (Int×Nat)}(hl:TouL T l)(H:Hp B w0 w (.imap b .i64 (mapV cntV l)::L)):Hp B w0 w (touA b T::L):=
 H.set (Chg.refl _ _) (tou_ok hl (H.ok _ (.head _))) fun k hk=>.inl (by simpa [Asn.foot,touA]using hk)
def imgN(l:List UInt8):Option Nat:=if 3<l.length/\l.head? =some 112 then some (valN ((l.take 3).drop 1))else none
def imgS(T:Tou)(s:ByteArray):Tou:=match imgN s.data.toList with
 |some n=>T.up (n:Int)
 |none=>T
def Ag(l:List ByteArray):Tou:=l.foldl imgS fun _=>0
def cgV(c:Chg1):Value:=.agg #[.int .i64 c.page,.int .i64 c.slot,.string c.s,.bool c.gone]
abbrev Ord:=List (Int×Int)
abbrev Last:=List ((Int×Int)×Chg1)
abbrev TM:=List (Int×AP)
def badC(c:Chg1):Prop:=c.page<0\/4096<=c.page\/c.slot<0\/120<=c.slot\/(c.gone=false/\3600<c.s.size)
instance (c:Chg1):Decidable (badC c):=by unfold badC;infer_instance
def FX(Ps:List AP)(c:Chg1):Bool:=match Ps[c.page.toNat]? with
 |some P=>(Sl.lk P.1 c.slot).isSome
 |none=>false
def BU(Ps:List AP):List Chg1->Ord->Last->Option (Ord×Last)
 | [],o,la=>some (o,la)
 |c::r,o,la=>if badC c then none else match gget la (c.page,c.slot)with
  |some was=>if c.gone=true/\was.gone=true then none else BU Ps r o (gput la (c.page,c.slot) c)
  |none=>if c.gone=true/\FX Ps c=false then none else BU Ps r (o++[(c.page,c.slot)]) (gput la (c.page,c.slot) c)
def CO(Ps:List AP)(n:Int):AP:=(Ps[n.toNat]?).getD ([],0)
def delF(Ps:List AP):Ord->TM->TM
 | [],M=>M
 |(p,s)::r,M=>
  let P:=(gget M p).getD (CO Ps p)
  delF Ps r (gput M p ((Sl.adel P.1 s).1,P.2))
def putF:Ord->Last->TM->Option TM
 | [],_,M=>some M
 |(p,s)::r,la,M=>match gget la (p,s),gget M p with
  |some c,some P=>if c.gone=true then putF r la M else if(Sl.aput P.1 s c.s.data.toList).2=0 then putF r la (gput M p ((Sl.aput P.1 s c.s.data.toList).1,P.2))else none
  |_,_=>none
def CU(Ps:List AP)(l:List Chg1):Option TM:=match BU Ps l [] []with
 |none=>none
 |some (o,la)=>putF o la (delF Ps o [])
def RQ(st:Nat)(P:AP):AP:=(P.1,Sl.cu P.2 (st:Int))
def lay1(st:Nat)(Ps:List AP)(e:Int×AP):List AP:=(CS Ps (e.1.toNat+1)).set e.1.toNat (RQ st e.2)
def layP(st:Nat)(Ps:List AP)(M:TM):List AP:=M.foldl (lay1 st) Ps
def upP(T:Tou)(M:TM):Tou:=M.foldl (fun T e=>T.up e.1) T
def readAll(d:Dk)(T:Tou):Nat->Nat->List AP->List AP×Int
 |0,_,Ps=>(Ps,0)
 |m+1,n,Ps=>if 0<T n then readAll d T m (n+1) (CS Ps (n+1))else match EG d n with
  |(some P,_)=>readAll d T m (n+1) ((CS Ps (n+1)).set n P)
  |(none,e)=>(Ps,e)
def nLog:ByteArray:=⟨#[108,111,103]⟩
structure JS where
 Ps:List AP
 T:Tou
def recF:List ByteArray->Nat->JS->List Chg1->JS×Int
 | [],_,J,_=>(J,0)
 |s::r,k,J,g=>if s.size=0 then(J,180)else if s.data.toList.head? =some 112 then
   (if(Fb J.Ps s.data.toList).2=0 then recF r (k+1) ⟨(Fb J.Ps s.data.toList).1,J.T⟩ g else(J,(Fb J.Ps s.data.toList).2))
  else match IM s.size (s.data.toList.drop 1) []with
   |none=>(J,180)
   |some c=>if s.data.toList.head? =some 101 then(match CU J.Ps (g++c)with
     |none=>(J,180)
     |some M=>recF r (k+1) ⟨layP (k+1) J.Ps M,upP J.T M⟩ [])else recF r (k+1) J (g++c)
def DF(d:Dk)(all:List ByteArray):JS×Int:=
 let R:=readAll d (Ag all) (min (D9 d) 4096) 0 []
 if R.2=0 then recF all 0 ⟨R.1,Ag all⟩ []else(⟨R.1,Ag all⟩,R.2)
def Ac(d:Dk):Dk×Int×Lg×JS:=
 let o:=CV d nLog
 if o.2.1≠0 then(o.1,o.2.1,o.2.2,⟨[],fun _=>0⟩)else
 let f:=Au o.1
 if f.2≠0 then(f.1,f.2,o.2.2,⟨[],fun _=>0⟩)else
 (f.1,(DF f.1 o.2.2.all).2,o.2.2,(DF f.1 o.2.2.all).1)
theorem gMII:MapT Tryz.prog (ET .i64) 86 3 3 (.int .i64 0):=⟨by kernel_rfl,by kernel_rfl,by kernel_rfl⟩
theorem QJ(s:ByteArray):(⟨s.data.toList.toArray⟩:ByteArray)=s:=by
 obtain⟨⟨l⟩⟩:=s;rfl
theorem Vx(s:ByteArray):s.data.toList.length=s.size:=Array.length_toList
theorem Va(l:List UInt8)(h:l≠[])(c:UInt8):sb ⟨l.toArray⟩ 0=(c.toNat:Int)↔l.head? =some c:=by
 cases l with
 |nil=>exact absurd rfl h
 |cons x r=>
  simp only[sb,List.head?_cons,Option.some.injEq]
  show(x.toNat:Int)=(c.toNat:Int)↔x=c
  constructor
  ·intro e
   exact UInt8.toNat_inj.1 (by omega)
  ·rintro rfl;rfl
theorem Md{T:Tou}{l:List (Int×Nat)}(h:TouL T l)(n:Int):(Vc.aget (mapV cntV l) n).getD (.int .i64 0)=.int .i64 (T n:Int):=by
 rw[F7]
 have:=h.at_ n
 cases hg:gget l n with
 |none=>rw[hg]at this;rw[<- this];rfl
 |some c=>rw[hg]at this;rw[<- this];rfl
theorem jimages_spec(la:Option Addr)(lc:Nat)(l:List ByteArray)(hl:l.length<=100000000)(w:World)(hL:Cells w la (l.map .string)):
  Calls Tryz.prog 72 #[.slice la l.length lc] w fun e w'=>∃b,e=.returned (.map (some b))/\(∀n,Ag l n<=l.length)/\Hp [] w w' [touA b (Ag l)]:=by
 apply jimages.ok;unfold jimages.vc
 intro b w1 hn
 have H:=((Hp.start w).newI EQ4 .i64 hn)
 clear hn
 refine Ae.mk (fun m s w'=>∃(k:Nat)(T:Tou),m=l.length-k/\k<=l.length/\s=(k:Int)/\T=(l.take k).foldl imgS (fun _=>0)/\(∀n,T n<=k)/\Hp [] w w' [touA b T]) l.length ⟨0,fun _=>0,rfl,by omega,rfl,rfl,fun _=>Nat.le_refl _,Hp.UR TouL.nil H⟩ ?_
 clear H w1
 rintro m s w1 next ⟨k,T,rfl,hk,rfl,hT,hle,H⟩ hnext
 refine AO (fun h1=>?_) (fun h1=>?_)
 ·have hkl:k<l.length:=by omega
  have hcw:=hL.chg H.chg (by simp)
  have hat:(l.map Value.string)[k]? =some (.string l[k]):=by simp[hkl]
  obtain⟨ad,ha,_⟩:=hcw k _ hat
  have hst:(l.take (k+1)).foldl imgS (fun _=>0)=imgS T l[k]:=by
   rw[take_succ_eq_append_getElem hkl,foldl_append,<- hT];rfl
  refine AA ha ⟨⟨by omega,by omega⟩,_,by rw[Int.toNat_natCast,Nat.mul_one];exact hcw.ld gStr ha hat,?_⟩
  have skip:imgN l[k].data.toList=none->inR .i64 ((k:Int)+1)/\next ((k:Int)+1) w1:=fun h=>by
   refine⟨AY.2 (by omega),hnext (l.length-(k+1)) _ _ (by omega) ⟨k+1,T,rfl,by omega,by omega,?_,fun n=>by have:=hle n;omega,H⟩⟩
   rw[hst,imgS,h]
  obtain⟨q,hq⟩:∃q,q=l[k].data.toList:=⟨_,rfl⟩
  have hs:l[k]=⟨q.toArray⟩:=by rw[hq,QJ]
  rw[<- hq]at skip
  rw[hs]
  have hsz:(ByteArray.mk q.toArray).size=q.length:=by simp[ByteArray.size]
  rw[hsz]
  refine Aw (fun h2=>?_) (fun h2=>?_)
  ·have h0:q.length≠0:=fun h=>h2 (P6.2 (by rw[hsz];exact h))
   have hh:=Va q (fun h=>h0 (by rw[h];rfl)) 112
   refine⟨⟨by omega,by omega⟩,AO (fun h3=>?_) (fun h3=>?_)⟩
   ·refine AO (fun h4=>?_) (fun h4=>?_)
    ·refine⟨⟨by omega,by omega,by omega⟩,?_⟩
     rw[I4,show Int.toNat 1=1 from rfl,show Int.toNat 3=3 from rfl]
     refine AL (Gj ((q.take 3).drop 1) (by rw[length_drop,length_take];omega) _) ?_
     rintro e w2 ⟨rfl,H'⟩
     replace H:=H.ext0 H';clear H'
     obtain⟨tl,htl,H2⟩:=Hp.ZJ H
     clear H
     have hi:imgN q=some (valN ((q.take 3).drop 1)):=by rw[imgN,if_pos ⟨by omega,hh.1 h3⟩]
     generalize hv:valN ((q.take 3).drop 1)=v at hi⊢
     have hTv:=hle (v:Int)
     refine⟨_,rfl,_,H2.lkI gMII EQ4 (.head _) (Md htl (v:Int)),AY.2 (by omega),?_⟩
     refine H2.mupI gMII EQ4 ?_
     intro w3 H
     have e1:Value.int .i64 ((T (v:Int):Int)+1)=cntV (T (v:Int)+1):=by rw[cntV];congr 1
     rw[e1,Ia]at H
     have H3:=Hp.UR (htl.up (v:Int)) H
     refine⟨AY.2 (by omega),hnext (l.length-(k+1)) _ _ (by omega) ⟨k+1,T.up (v:Int),rfl,by omega,by omega,?_,?_,H3⟩⟩
     ·rw[hst,hs,imgS]
      show _=match imgN q with|some n=>T.up (n:Int)|none=>T
      rw[hi]
     ·intro n
      have:=hle n
      unfold Tou.up
      split<;>omega
    ·exact skip (by rw[imgN,if_neg (fun h=>h4 (by have:=h.1;omega))])
   ·exact skip (by rw[imgN,if_neg (fun h=>h3 (hh.2 h.2))])
  ·have h0:q.length=0:=by rw[<- hsz];exact P6.1 h2
   exact skip (by rw[imgN,if_neg (fun h=>by have:=h.1;omega)])
 ·have hke:k=l.length:=by omega
  rw[hke,take_length]at hT
  have e:Ag l=T:=hT.symm
  rw[e]
  exact⟨b,rfl,fun n=>by have:=hle n;omega,H⟩
def chB(c:Chg1):ByteArray:=if c.gone then⟨#[]⟩else c.s
def BR(c:Chg1):List UInt8:=be c.page 2++(be c.slot 1++(be (if c.gone then 1 else 0) 1++(be ((chB c).size:Int) 2++(chB c).data.toList)))
theorem C9(x y:List UInt8):(⟨x.toArray⟩:ByteArray)++⟨y.toArray⟩=⟨(x++y).toArray⟩:=by
 refine Yg ?_
 simp
theorem Cj(l:List UInt8):(ByteArray.mk l.toArray).size=l.length:=by simp[ByteArray.size]
theorem Jz:Agg Tryz.prog 73 4:=IK (by kernel_rfl)
theorem NY:Agg Tryz.prog 169 2:=IK (by kernel_rfl)
theorem gpairS:PN Tryz.prog 169:=pair_of (by kernel_rfl) (by kernel_rfl)
theorem geltS:Elt Tryz.prog 164 169 2 16:=FP (by kernel_rfl)
theorem gundSS:Tryz.prog.underlying 164=some (.slice 169):=by kernel_rfl
theorem gMPC:Uo Tryz.prog 165 169 73 (cgV ⟨0,0,⟨#[]⟩,false⟩):=⟨by kernel_rfl,gpairS,by kernel_rfl⟩
theorem _root_.Go.Vc.Std.PW{w w':World}{L:List Asn}(h:Std w L)(hc:Chg [] w w'):Std w' L:=((Hp.Ap h).chg0 hc).std
section
variable{w:World}{jb:Nat}{va vb vc:Value}{p:JP}{t:Option Nat}{wt:Int}{Ps:List AP}
theorem O9(st:Std w (jpL jb va vb vc p t wt Ps)):Blk w jb (jcV va vb vc p t wt) 91:=st.1 _ (.head _)
theorem jp_ptr(st:Std w (jpL jb va vb vc p t wt Ps)):Own w 0 99 1 p.pa p.bs.length p.pc (EH p.bs):=st.1 _ (.tail _ (.head _))
theorem Yk:∀{bs:List Nat}{Ps:List AP}{n b:Nat}{P:AP},bs[n]? =some b->Ps[n]? =some P->BG b P∈List.zipWith BG bs Ps
 | [],_,_,_,_,h,_=>by simp at h
 |_::_,[],_,_,_,_,h=>by simp at h
 |x::bs,y::Ps,0,b,P,h,h'=>by
  simp at h h';subst h h'
  exact .head _
 |x::bs,y::Ps,n+1,b,P,h,h'=>by
  simp at h h'
  exact .tail _ (Yk h h')
theorem Kq(st:Std w (jpL jb va vb vc p t wt Ps)){n b:Nat}{P:AP}(h:p.bs[n]? =some b)(h':Ps[n]? =some P):∃g,Sl.Rep g P.1 P.2/\Blk w b g.cells 144:=
 RU (st.1 _ (.tail _ (.tail _ (Yk h h'))))
theorem YC(st:Std w (jpL jb va vb vc p t wt Ps)){n:Nat}(hn:n<p.bs.length):∃ad,p.pa=some ad/\Ld Tryz.prog 99 w (ad.add n) (.pointer (some ⟨p.bs[n],0,none⟩)):=by
 have hown:=(jp_ptr st).cells
 have hat:(EH p.bs)[n]? =some (.pointer (some ⟨p.bs[n],0,none⟩)):=by simp[EH,hn]
 obtain⟨ad,had,_⟩:=hown _ _ hat
 exact⟨ad,had,hown.ld gPG had hat⟩
end
def ordC(o:Ord):List Value:=o.flatMap fun q=>[.int .i64 q.1,.int .i64 q.2]
theorem ordC_append(x y:Ord):ordC (x++y)=ordC x++ordC y:=by simp[ordC]
theorem QP:∀{l:List Chg1}{k:Nat}(h:k<l.length),((chC l).drop (k*4)).take 4=[.int .i64 l[k].page,.int .i64 l[k].slot,.string l[k].s,.bool l[k].gone]
 | [],k,h=>by simp at h
 |c::r,0,h=>rfl
 |c::r,k+1,h=>by
  have e:chC (c::r)=[.int .i64 c.page,.int .i64 c.slot,.string c.s,.bool c.gone]++chC r:=rfl
  rw[e,show(k+1)*4=4+k*4 by omega,<- drop_drop]
  exact QP (l:=r) (by simpa using h)
theorem V4(l:List Chg1):(chC l).length=l.length*4:=by
 induction l with
 |nil=>rfl
 |cons c r ih=>
  have e:chC (c::r)=[.int .i64 c.page,.int .i64 c.slot,.string c.s,.bool c.gone]++chC r:=rfl
  rw[e,length_append,ih,length_cons];simp only[length_cons,length_nil];omega
theorem chC_one{l:List Chg1}{u:Value}(h:u∈chC l):u.oneCell'=true:=by
 obtain⟨c,_,hc⟩:=List.mem_flatMap.1 h
 simp only[mem_cons,List.not_mem_nil,or_false]at hc
 rcases hc with rfl|rfl|rfl|rfl<;>rfl
theorem Vo{w:World}{a:Option Addr}{l:List Chg1}(h:Cells w a (chC l)){k:Nat}(hk:k<l.length):∃ad,a=some ad/\Ld Tryz.prog 73 w (ad.add (k*4)) (cgV l[k]):=by
 have hne:0<(chC l).length:=by rw[V4];omega
 obtain⟨ad,had,_⟩:=h 0 _ (List.getElem?_eq_getElem hne)
 exact⟨ad,had,h.ldA Jz had (QP hk) rfl⟩
def Ye(Ps:List AP)(l:List Chg1)(w:World)(e:Ending)(w':World):Prop:=
 (BU Ps l [] []=none/\e=.returned (.tuple #[.slice none 0 0,.map none,.bool false])/\Hp [] w w' [])\/
 ∃(o:Ord)(la:Last)(oa:Option Addr)(oc mb:Nat),BU Ps l [] []=some (o,la)/\o.length<=l.length/\e=.returned (.tuple #[.slice oa o.length oc,.map (some mb),.bool true])/\Hp [] w w' [Ed mb (mapV cgV la),.own 169 2 oa o.length oc (ordC o)]
theorem jfinal_spec(jb:Nat)(va vb vc:Value)(p:JP)(t:Option Nat)(wt:Int)(Ps:List AP)(hl:p.bs.length=Ps.length)(hsz:Ps.length<=4096)(ca:Option Addr)(cc:Nat)(l:List Chg1)(hll:l.length<=100000000)(w:World)(st:Std w (jpL jb va vb vc p t wt Ps))(hC:Cells w ca (chC l)):
  Calls Tryz.prog 97 #[.pointer (some ⟨jb,0,none⟩),.slice ca l.length cc] w (Ye Ps l w):=by
 apply jfinal.ok;unfold jfinal.vc
 intro b w1 hn
 have H:=(Hp.start w).newP EQ4 hn
 clear hn
 refine Ae.mk (fun m s w'=>∃(k:Nat)(o:Ord)(la:Last)(oa:Option Addr)(oc:Nat),m=l.length-k/\k<=l.length/\s=((oa,o.length,oc),(k:Int))/\o.length<=k/\BU Ps (l.drop k) o la=BU Ps l [] []/\Hp [] w w' [Ed b (mapV cgV la),.own 169 2 oa o.length oc (ordC o)]) l.length
  ⟨0,[],[],none,0,rfl,by omega,rfl,Nat.le_refl _,rfl,(H.nilS 169 2).Aq⟩ ?_
 clear H w1
 rintro m s w1 next ⟨k,o,la,oa,oc,rfl,hk,rfl,hol,hf,H⟩ hnext
 dsimp only
 refine AO (fun h1=>?_) (fun h1=>?_)
 ·have hkl:k<l.length:=by omega
  obtain⟨ad,had,hld⟩:=Vo (hC.chg H.chg (by simp)) hkl
  rw[drop_eq_getElem_cons hkl]at hf
  generalize l[k]=c at hld hf
  obtain⟨cp,cs,ct,cg⟩:=c
  refine AA had ⟨⟨by omega,by omega⟩,_,_,_,_,by rw[Int.toNat_natCast];exact hld,?_⟩
  clear hld
  have hbad:badC ⟨cp,cs,ct,cg⟩->∀w',Hp [] w w' []->Ye Ps l w (.returned (.tuple #[.slice none 0 0,.map none,.bool false])) w':=fun hb w' H'=>.inl ⟨by rw[<- hf,BU,if_pos hb],rfl,H'⟩
  intro b2 w2 hn
  replace H:=H.new (cs:=[.int .i64 0,.int .i64 0,.string ⟨#[]⟩,.bool false]) EQ4 hn
  clear hn
  refine Hp.stA (o:=0) H EQ4 Jz (vs:=[.int .i64 cp,.int .i64 cs,.string ct,.bool cg]) rfl rfl (by simp) (cs':=[.int .i64 cp,.int .i64 cs,.string ct,.bool cg]) rfl ?_
  clear H;intro w3 H
  refine⟨_,H.ld (o:=0) EQ4 gInt (.head _) rfl,AO (fun h2=>hbad (.inl h2) _ H.done) (fun h2=>?_)⟩
  refine⟨_,H.ld (o:=0) EQ4 gInt (.head _) rfl,AO (fun h3=>hbad (.inr (.inl h3)) _ H.done) (fun h3=>?_)⟩
  refine⟨_,H.ld (o:=1) EQ4 gInt (.head _) rfl,AO (fun h4=>hbad (.inr (.inr (.inl h4))) _ H.done) (fun h4=>?_)⟩
  refine⟨_,H.ld (o:=1) EQ4 gInt (.head _) rfl,AO (fun h5=>hbad (.inr (.inr (.inr (.inl h5)))) _ H.done) (fun h5=>?_)⟩
  refine⟨_,H.ld (o:=3) EQ4 EN (.head _) rfl,?_⟩
  refine(fun(kk:¬badC ⟨cp,cs,ct,cg⟩->_)=>BI (fun h6=>⟨_,H.ld (o:=2) EQ4 gStr (.head _) rfl,AO (fun h7=>hbad (.inr (.inr (.inr (.inr ⟨h6,by show 3600<ct.size;omega⟩)))) _ H.done) (fun h7=>kk (fun hb=>by
    rcases hb with h|h|h|h|h
    ·exact h2 h
    ·exact h3 h
    ·exact h4 h
    ·exact h5 h
    ·exact h7 (by have:=h.2;dsimp only at this;omega)))⟩) (fun h6=>kk (fun hb=>by
    rcases hb with h|h|h|h|h
    ·exact h2 h
    ·exact h3 h
    ·exact h4 h
    ·exact h5 h
    ·rw[show cg=true from h6]at h;cases h.1))) ?_
  intro hok
  rw[BU,if_neg hok]at hf
  dsimp only at hf
  refine⟨_,H.ld (o:=0) EQ4 gInt (.head _) rfl,_,H.ld (o:=1) EQ4 gInt (.head _) rfl,?_⟩
  intro b4 w4 hn
  replace H:=H.new (cs:=[.int .i64 0,.int .i64 0]) EQ4 hn
  clear hn
  refine Hp.stA (o:=0) H EQ4 NY (vs:=[.int .i64 cp,.int .i64 cs]) rfl rfl (by simp) (cs':=[.int .i64 cp,.int .i64 cs]) rfl ?_
  clear H;intro w5 H
  refine⟨_,_,H.ldA (o:=0) EQ4 NY (.head _) (vs:=[.int .i64 cp,.int .i64 cs]) rfl rfl,?_⟩
  have fin:∀(o2:Ord)(a2:Option Addr)(c2:Nat)(w8:World)(X:List Asn),o2.length<=k+1->BU Ps (l.drop (k+1)) o2 (gput la (cp,cs) ⟨cp,cs,ct,cg⟩)=BU Ps l [] []->
    Hp [] w w8 ([Ed b (mapV cgV la),.own 169 2 a2 o2.length c2 (ordC o2),.blk b4 [.int .i64 cp,.int .i64 cs] 169,.blk b2 [.int .i64 cp,.int .i64 cs,.string ct,.bool cg] 73]++X)->
    ∃i i_6,Ld Tryz.prog 169 w8 ⟨b4,0,none⟩ (.agg #[.int .i64 i,.int .i64 i_6])/\∃i_7 i_8 s_4 b_10,Ld Tryz.prog 73 w8 ⟨b2,0,none⟩ (.agg #[.int .i64 i_7,.int .i64 i_8,.string s_4,.bool b_10])/\
     ∃w1,MUp Tryz.prog 165 w8 (.map (some b)) (.agg #[.int .i64 i,.int .i64 i_6]) (.agg #[.int .i64 i_7,.int .i64 i_8,.string s_4,.bool b_10]) w1/\inR .i64 ((k:Int)+1)/\next ((a2,o2.length,c2),(k:Int)+1) w1:=by
   intro o2 a2 c2 w8 X hol2 hf2 K
   refine⟨_,_,K.ldA (o:=0) EQ4 NY (.tail _ (.tail _ (.head _))) (vs:=[.int .i64 cp,.int .i64 cs]) rfl rfl,_,_,_,_,K.ldA (o:=0) EQ4 Jz (.tail _ (.tail _ (.tail _ (.head _)))) (vs:=[.int .i64 cp,.int .i64 cs,.string ct,.bool cg]) rfl rfl,?_⟩
   refine Hp.mupP (x:=(cp,cs)) (v:=cgV ⟨cp,cs,ct,cg⟩) gMPC K EQ4 ?_
   intro w9 K
   rw[Ia]at K
   refine⟨AY.2 (by omega),hnext (l.length-(k+1)) _ _ (by omega) ⟨k+1,o2,_,a2,c2,rfl,by omega,rfl,hol2,hf2,?_⟩⟩
   have K2:Hp [] w w9 ([Ed b (mapV cgV (gput la (cp,cs) ⟨cp,cs,ct,cg⟩)),.own 169 2 a2 o2.length c2 (ordC o2)]++([.blk b4 [.int .i64 cp,.int .i64 cs] 169,.blk b2 [.int .i64 cp,.int .i64 cs,.string ct,.bool cg] 73]++X)):=K
   exact K2.BQ
  cases hg:gget la (cp,cs)with
  |some was=>
   rw[hg]at hf
   dsimp only at hf
   refine⟨_,_,_,_,_,H.bH gMPC (x:=(cp,cs)) EQ4 (.tail _ (.tail _ (.head _))) (v:=cgV was) (o:=true) (by rw[F7,hg];rfl) (by rw[F7,hg];rfl),?_⟩
   intro b7 w7 hn
   replace H:=H.new (cs:=[.int .i64 0,.int .i64 0,.string ⟨#[]⟩,.bool false]) EQ4 hn
   clear hn
   refine Hp.stA (o:=0) H EQ4 Jz (vs:=[.int .i64 was.page,.int .i64 was.slot,.string was.s,.bool was.gone]) rfl rfl (by simp) (cs':=[.int .i64 was.page,.int .i64 was.slot,.string was.s,.bool was.gone]) rfl ?_
   clear H;intro w8 H
   refine D8 ⟨_,H.ld (o:=3) EQ4 EN (.head _) rfl,CX ⟨_,H.ld (o:=3) (cs:=[.int .i64 cp,.int .i64 cs,.string ct,.bool cg]) EQ4 EN (.tail _ (.tail _ (.head _))) rfl,?_⟩⟩
   have HF:Hp [] w w8 ([Ed b (mapV cgV la),.own 169 2 oa o.length oc (ordC o),.blk b4 [.int .i64 cp,.int .i64 cs] 169,.blk b2 [.int .i64 cp,.int .i64 cs,.string ct,.bool cg] 73]++[.blk b7 [.int .i64 was.page,.int .i64 was.slot,.string was.s,.bool was.gone] 73]):=H.perm (by(refine AC fun ff gg h0 hc ha hpm=>?_;simp only[ha,hc,h0];omega))
   refine CE (fun h8=>CE (fun h9=>?_) (fun h9=>?_)) (fun h8=>?_)
   ·rw[if_pos ⟨h8,by cases hw:was.gone with|true=>rfl|false=>rw[hw]at h9;cases h9⟩]at hf
    exact .inl ⟨hf.symm,rfl,H.done⟩
   ·rw[if_neg (fun h=>by rw[h.2]at h9;cases h9)]at hf
    exact fin o oa oc w8 _ (by omega) hf HF
   ·rw[if_neg (fun h=>by rw[h.1]at h8;cases h8)]at hf
    exact fin o oa oc w8 _ (by omega) hf HF
  |none=>
   rw[hg]at hf
   dsimp only at hf
   refine⟨_,_,_,_,_,H.bH gMPC (x:=(cp,cs)) EQ4 (.tail _ (.tail _ (.head _))) (v:=cgV ⟨0,0,⟨#[]⟩,false⟩) (o:=false) (by rw[F7,hg];rfl) (by rw[F7,hg];rfl),?_⟩
   intro b7 w7 hn
   replace H:=H.new (cs:=[.int .i64 0,.int .i64 0,.string ⟨#[]⟩,.bool false]) EQ4 hn
   clear hn
   refine Hp.stA (o:=0) H EQ4 Jz (vs:=[.int .i64 0,.int .i64 0,.string ⟨#[]⟩,.bool false]) rfl rfl (by simp) (cs':=[.int .i64 0,.int .i64 0,.string ⟨#[]⟩,.bool false]) rfl ?_
   clear H;intro w8 H
   refine CX (D8 ⟨_,_,H.ldA (o:=0) (cs:=[.int .i64 cp,.int .i64 cs]) EQ4 NY (.tail _ (.head _)) (vs:=[.int .i64 cp,.int .i64 cs]) rfl rfl,?_⟩)
   intro b9 w9 hn
   replace H:=H.new (cs:=[.int .i64 cp,.int .i64 cs]) EQ4 hn
   clear hn
   have H1:Hp [] w w9 (.own 169 2 oa o.length oc (ordC o)::.blk b9 [.int .i64 cp,.int .i64 cs] 169::[Ed b (mapV cgV la),.blk b4 [.int .i64 cp,.int .i64 cs] 169,.blk b2 [.int .i64 cp,.int .i64 cs,.string ct,.bool cg] 73]):=by
    have:=H.perm (M:=[.blk b7 [.int .i64 0,.int .i64 0,.string ⟨#[]⟩,.bool false] 73,.own 169 2 oa o.length oc (ordC o),.blk b9 [.int .i64 cp,.int .i64 cs] 169,Ed b (mapV cgV la),.blk b4 [.int .i64 cp,.int .i64 cs] 169,.blk b2 [.int .i64 cp,.int .i64 cs,.string ct,.bool cg] 73]) (by(refine AC fun ff gg h0 hc ha hpm=>?_;simp only[ha,hc,h0];omega))
    exact this.drop
   clear H
   refine Hp.app geltS (by omega) H1 EQ4 (Blk.src (n:=1) gundSS (H1.blk (.tail _ (.head _))) (by simp) (by rfl)) (by simp only[maxLen];omega) (by omega) ?_
   clear H1;intro a2 c2 w10 H
   have e2:ordC o++[.int .i64 cp,.int .i64 cs]=ordC (o++[(cp,cs)]):=by rw[ordC_append];rfl
   have e3:o.length+1=(o++[(cp,cs)]).length:=by rw[length_append];rfl
   rw[e2,e3]at H
   rw[e3]
   have HF:∀w',Chg [] w10 w'->Hp [] w w' ([Ed b (mapV cgV la),.own 169 2 a2 (o++[(cp,cs)]).length c2 (ordC (o++[(cp,cs)])),.blk b4 [.int .i64 cp,.int .i64 cs] 169,.blk b2 [.int .i64 cp,.int .i64 cs,.string ct,.bool cg] 73]++[.blk b9 [.int .i64 cp,.int .i64 cs] 169]):=fun w' hc=>(H.chg0 hc).perm (by(refine AC fun ff gg h0 hc ha hpm=>?_;simp only[ha,hc,h0];omega))
   have S2:=st.PW H.drew.chg
   have hlen2:(o++[(cp,cs)]).length<=k+1:=by rw[length_append];simp only[length_singleton];omega
   refine⟨_,H.drew.ld (o:=0) (cs:=[.int .i64 cp,.int .i64 cs,.string ct,.bool cg]) EQ4 gInt (by repeat first|exact .head _|refine .tail _ ?_) rfl,?_⟩
   refine AA rfl ⟨_,_,_,(O9 S2).ld (o:=3) gSP.agg rfl,?_⟩
   refine AO (fun h8=>?_) (fun h8=>?_)
   ·have S3:=st.PW H.drew.drew.chg
    refine AA rfl ⟨_,_,_,(O9 S3).ld (o:=3) gSP.agg rfl,_,H.drew.drew.ld (o:=0) (cs:=[.int .i64 cp,.int .i64 cs,.string ct,.bool cg]) EQ4 gInt (by repeat first|exact .head _|refine .tail _ ?_) rfl,?_⟩
    have hn:cp.toNat<p.bs.length:=by omega
    have hnP:cp.toNat<Ps.length:=by omega
    obtain⟨ad,had,hldp⟩:=YC S3 hn
    refine AA had ⟨⟨by omega,by omega⟩,_,by rw[Nat.mul_one];exact hldp,_,H.drew.drew.ld (o:=1) (cs:=[.int .i64 cp,.int .i64 cs,.string ct,.bool cg]) EQ4 gInt (by repeat first|exact .head _|refine .tail _ ?_) rfl,?_⟩
    obtain⟨g,hR,hb⟩:=Kq S3 (List.getElem?_eq_getElem hn) (List.getElem?_eq_getElem hnP)
    refine AL (Sl.get_any hR hb cs) ?_
    rintro e w11 ⟨rfl,H'⟩
    have H2:=H.drew.drew.ext0 H'
    have hth:FX Ps ⟨cp,cs,ct,cg⟩=(Sl.lk Ps[cp.toNat].1 cs).isSome:=by
     rw[FX];dsimp only;rw[List.getElem?_eq_getElem hnP]
    rw[hth]at hf
    refine⟨_,_,rfl,_,H2.ld (o:=3) (cs:=[.int .i64 cp,.int .i64 cs,.string ct,.bool cg]) EQ4 EN (by repeat first|exact .head _|refine .tail _ ?_) rfl,?_⟩
    have hc10:Chg [] w10 w11:=(Eqw.chg ⟨rfl,rfl,rfl,rfl⟩:Chg [] w10 w10.drew.drew).ext H'.chg
    refine CE (fun h9=>BI (fun h10=>?_) (fun h10=>?_)) (fun h9=>?_)
    ·rw[if_pos ⟨h9,h10⟩]at hf
     exact .inl ⟨hf.symm,rfl,H2.done⟩
    ·rw[if_neg (fun h=>by rw[h.2]at h10;cases h10)]at hf
     exact fin _ a2 c2 _ _ hlen2 hf (HF _ hc10)
    ·rw[if_neg (fun h=>by rw[h.1]at h9;cases h9)]at hf
     exact fin _ a2 c2 _ _ hlen2 hf (HF _ hc10)
   ·have hth:FX Ps ⟨cp,cs,ct,cg⟩=false:=by
     rw[FX];dsimp only
     have e9:Ps[cp.toNat]? =none:=List.getElem?_eq_none (by omega)
     rw[e9]
    rw[hth]at hf
    refine⟨_,H.drew.ld (o:=3) (cs:=[.int .i64 cp,.int .i64 cs,.string ct,.bool cg]) EQ4 EN (by repeat first|exact .head _|refine .tail _ ?_) rfl,?_⟩
    have hc10:Chg [] w10 w10.drew:=Eqw.chg ⟨rfl,rfl,rfl,rfl⟩
    refine CE (fun h9=>?_) (fun h9=>?_)
    ·rw[if_pos ⟨h9,rfl⟩]at hf
     exact .inl ⟨hf.symm,rfl,H.drew.done⟩
    ·rw[if_neg (fun h=>by rw[h.1]at h9;cases h9)]at hf
     exact fin _ a2 c2 _ _ hlen2 hf (HF _ hc10)
 ·have hke:k=l.length:=by omega
  rw[hke,drop_length,BU]at hf
  exact .inr ⟨o,la,oa,oc,b,hf.symm,by omega,rfl,H⟩
theorem gMIP:MapT Tryz.prog (ET .i64) 112 3 99 (.pointer none):=⟨by kernel_rfl,by kernel_rfl,by kernel_rfl⟩
section
variable{K V:Type}[DecidableEq K]
def gdel:List (K×V)->K->List (K×V)
 | [],_=>[]
 |(x,u)::r,k=>if k=x then r else(x,u)::gdel r k
theorem gdel_none{l:List (K×V)}{k:K}(h:gget l k=none):gdel l k=l:=by
 induction l with
 |nil=>rfl
 |cons p r ih=>
  obtain⟨x,u⟩:=p
  simp only[gget]at h
  split at h
  ·cases h
  ·rename_i hk
   simp only[gdel,if_neg hk,ih h]
theorem gget_perm{l:List (K×V)}{k:K}{v:V}(h:gget l k=some v):l.Perm ((k,v)::gdel l k):=by
 induction l with
 |nil=>cases h
 |cons p r ih=>
  obtain⟨x,u⟩:=p
  simp only[gget]at h
  simp only[gdel]
  split at h
  ·rename_i hk
   cases h
   rw[if_pos hk,hk]
  ·rename_i hk
   rw[if_neg hk]
   exact((ih h).cons _).trans (.swap _ _ _)
theorem gput_perm{l:List (K×V)}{k:K}(v:V):(gput l k v).Perm ((k,v)::gdel l k):=by
 induction l with
 |nil=>exact .refl _
 |cons p r ih=>
  obtain⟨x,u⟩:=p
  simp only[gput,gdel]
  split
  ·rename_i hk;rw[hk]
  ·exact(ih.cons _).trans (.swap _ _ _)
end
structure OkQ(la:Last)(q:Int×Int):Prop where
 page:0<=q.1/\q.1<4096
 slot:0<=q.2/\q.2<120
 has:∃c,gget la q=some c
theorem OkQ.put{la:Last}{q:Int×Int}(h:OkQ la q)(k:Int×Int)(c:Chg1):OkQ (gput la k c) q:=by
 refine⟨h.page,h.slot,?_⟩
 rw[D5]
 split
 ·exact⟨_,rfl⟩
 ·exact h.has
theorem Ku(Ps:List AP):∀(l:List Chg1)(o:Ord)(la:Last){o':Ord}{la':Last},BU Ps l o la=some (o',la')->(∀q∈o,OkQ la q)->∀q∈o',OkQ la' q
 | [],o,la,o',la',h,ho=>by
  rw[BU]at h;cases h;exact ho
 |c::r,o,la,o',la',h,ho=>by
  rw[BU]at h
  split at h
  ·cases h
  rename_i hb
  have hc:OkQ (gput la (c.page,c.slot) c) (c.page,c.slot):=by
   unfold badC at hb
   refine⟨⟨?_,?_⟩,⟨?_,?_⟩,c,by rw[D5,if_pos rfl]⟩
   ·exact Int.not_lt.1 fun h=>hb (.inl h)
   ·exact Int.not_le.1 fun h=>hb (.inr (.inl h))
   ·exact Int.not_lt.1 fun h=>hb (.inr (.inr (.inl h)))
   ·exact Int.not_le.1 fun h=>hb (.inr (.inr (.inr (.inl h))))
  split at h
  ·split at h
   ·cases h
   ·exact Ku Ps r _ _ h fun q hq=>(ho q hq).put _ _
  ·split at h
   ·cases h
   ·refine Ku Ps r _ _ h fun q hq=>?_
    rcases mem_append.1 hq with hq|hq
    ·exact(ho q hq).put _ _
    ·rw[mem_singleton]at hq;subst hq;exact hc
abbrev TE:=List (Int×(Nat×AP))
def peV(e:Nat×AP):Value:=.pointer (some ⟨e.1,0,none⟩)
def pgsE(E:TE):List Asn:=E.map fun e=>BG e.2.1 e.2.2
def tmE(E:TE):TM:=E.map fun e=>(e.1,e.2.2)
theorem YF(E:TE)(k:Int):gget (tmE E) k=(gget E k).map (·.2):=by
 induction E with
 |nil=>rfl
 |cons p r ih=>
  obtain⟨x,u⟩:=p
  simp only[tmE,map_cons,gget]at ih⊢
  split
  ·rfl
  ·exact ih
theorem aG(E:TE)(k:Int)(b:Nat)(P:AP):tmE (gput E k (b,P))=gput (tmE E) k P:=by
 induction E with
 |nil=>rfl
 |cons p r ih=>
  obtain⟨x,u⟩:=p
  simp only[tmE,map_cons,gput]at ih⊢
  split
  ·rfl
  ·rw[<- ih];rfl
theorem Xa{E:TE}{k:Int}{b:Nat}{P:AP}(h:gget E k=some (b,P)):(pgsE E).Perm (BG b P::pgsE (gdel E k)):=(gget_perm h).map _
theorem Y9(E:TE)(k:Int)(b:Nat)(P:AP):(pgsE (gput E k (b,P))).Perm (BG b P::pgsE (gdel E k)):=(gput_perm (l:=E) (k:=k) (b,P)).map _
theorem ZG{o:Ord}{k:Nat}(h:k<o.length):((ordC o).drop (k*2)).take 2=[.int .i64 o[k].1,.int .i64 o[k].2]:=by
 induction o generalizing k with
 |nil=>simp at h
 |cons q r ih=>
  have e:ordC (q::r)=[.int .i64 q.1,.int .i64 q.2]++ordC r:=rfl
  cases k with
  |zero=>rfl
  |succ k=>
   rw[e,show(k+1)*2=2+k*2 by omega,<- drop_drop]
   exact ih (k:=k) (by simpa using h)
def TriPost(Ps:List AP)(l:List Chg1)(w:World)(e:Ending)(w':World):Prop:=
 (CU Ps l=none/\e=.returned (.tuple #[.map none,.bool false])/\Hp [] w w' [])\/
 ∃(E:TE)(tb:Nat),CU Ps l=some (tmE E)/\e=.returned (.tuple #[.map (some tb),.bool true])/\Hp [] w w' (.imap tb .i64 (mapV peV E)::pgsE E)
theorem MR{K V:Type}[DecidableEq K]{f:V->Value}{l:List (K×V)}{k:K}{v:V}(h:gget l k=some v)(z:Value):(Vc.aget (mapV f l) k).getD z=f v/\(Vc.aget (mapV f l) k).isSome=true:=by
 rw[F7,h];exact⟨rfl,rfl⟩
theorem Yo{K V:Type}[DecidableEq K]{f:V->Value}{l:List (K×V)}{k:K}(h:gget l k=none)(z:Value):(Vc.aget (mapV f l) k).getD z=z/\(Vc.aget (mapV f l) k).isSome=false:=by
 rw[F7,h];exact⟨rfl,rfl⟩
theorem Pi(jb:Nat)(va vb vc:Value)(p:JP)(t:Option Nat)(wt:Int)(Ps:List AP)(hl:p.bs.length=Ps.length)(hsz:Ps.length<=4096)(ca:Option Addr)(cc:Nat)(l:List Chg1)(hll:l.length<=100000000)(w:World)(st:Std w (jpL jb va vb vc p t wt Ps))(hC:Cells w ca (chC l)):
  Calls Tryz.prog 54 #[.pointer (some ⟨jb,0,none⟩),.slice ca l.length cc] w (TriPost Ps l w):=by
 apply jtried.ok;unfold jtried.vc
 refine AL (jfinal_spec jb va vb vc p t wt Ps hl hsz ca cc l hll w st hC) ?_
 rintro e w1 (⟨hf,rfl,H⟩|⟨o,la,oa,oc,mb,hf,hol,rfl,H⟩)
 ·exact⟨_,_,_,_,_,rfl,D8 (.inl ⟨by rw[CU,hf],rfl,H⟩)⟩
 refine⟨_,_,_,_,_,rfl,CX ?_⟩
 have hok:=Ku Ps l [] [] hf (by simp)
 have htr:CU Ps l=putF o la (delF Ps o []):=by rw[CU,hf]
 intro tb w2 hn
 replace H:=H.newI EQ4 .i64 hn
 clear hn
 refine Ae.mk (fun m s w'=>∃(k:Nat)(E:TE),m=o.length-k/\k<=o.length/\s=(k:Int)/\delF Ps (o.drop k) (tmE E)=delF Ps o []/\(∀q∈o.take k,∃x,gget E q.1=some x)/\
  Hp [] w w' (.own 169 2 oa o.length oc (ordC o)::Ed mb (mapV cgV la)::.imap tb .i64 (mapV peV E)::pgsE E)) o.length ⟨0,[],rfl,by omega,rfl,rfl,by simp,H.perm (by rw[show pgsE []=[]from rfl,show mapV peV []=[]from rfl];(refine AC fun ff gg h0 hc ha hpm=>?_;simp only[ha,hc,h0];omega))⟩ ?_
 clear H w1 w2
 rintro m s w1 next ⟨k,E,rfl,hk,rfl,hd,hE,H⟩ hnext
 refine AO (fun h1=>?_) (fun h1=>?_)
 ·have hkl:k<o.length:=by omega
  have hq:=hok _ (getElem_mem hkl)
  have hgo:=ZG hkl
  rw[drop_eq_getElem_cons hkl,delF]at hd
  try dsimp only at hd
  have htk:o.take (k+1)=o.take k++[o[k]]:=take_succ_eq_append_getElem hkl
  generalize o[k]=q at hq hgo hd htk
  obtain⟨q1,q2⟩:=q
  have hq1:0<=q1/\q1<4096:=hq.page
  try dsimp only at hgo
  try dsimp only at hd
  obtain⟨ad,had,hld⟩:=H.ldOA EQ4 NY (by omega) (.head _) (o:=k*2) hgo rfl
  refine AA had ⟨⟨by omega,by omega⟩,_,_,by rw[Int.toNat_natCast];exact hld,?_⟩
  clear hld
  intro b1 w2 hn
  replace H:=H.new (cs:=[.int .i64 0,.int .i64 0]) EQ4 hn
  clear hn
  refine Hp.stA (o:=0) H EQ4 NY (vs:=[.int .i64 q1,.int .i64 q2]) rfl rfl (by simp) (cs':=[.int .i64 q1,.int .i64 q2]) rfl ?_
  clear H;intro w3 H
  refine⟨_,H.ld (o:=0) EQ4 gInt (.head _) rfl,?_⟩
  have fin:∀(b:Nat)(P:AP)(w4:World)(g':Sl.Pg),Sl.Rep g' (Sl.adel P.1 q2).1 P.2->(gget (tmE E) q1).getD (CO Ps q1)=P->
    Hp [] w w4 (Sl.pgA b g'::.blk b1 [.int .i64 q1,.int .i64 q2] 169::.own 169 2 oa o.length oc (ordC o)::Ed mb (mapV cgV la)::.imap tb .i64 (mapV peV E)::pgsE (gdel E q1))->
    ∃i,Ld Tryz.prog 3 w4 ⟨b1,0,none⟩ (.int .i64 i)/\∃w1,MUp Tryz.prog 112 w4 (.map (some tb)) (.int .i64 i) (.pointer (some ⟨b,0,none⟩)) w1/\inR .i64 ((k:Int)+1)/\next ((k:Int)+1) w1:=by
   intro b P w4 g' hR hP K
   refine⟨_,K.ld (o:=0) (cs:=[.int .i64 q1,.int .i64 q2]) EQ4 gInt (.tail _ (.head _)) rfl,?_⟩
   have K1:=(Hp.NE (P:=((Sl.adel P.1 q2).1,P.2)) hR K).Bc
   refine Hp.mupI gMIP (v:=peV (b,((Sl.adel P.1 q2).1,P.2))) K1 EQ4 ?_
   intro w5 K2
   rw[Ia]at K2
   refine⟨AY.2 (by omega),hnext (o.length-(k+1)) _ _ (by omega) ⟨k+1,gput E q1 (b,((Sl.adel P.1 q2).1,P.2)),rfl,by omega,by omega,by rw[aG,<- hP]at*;exact hd,?_,?_⟩⟩
   ·intro q hq
    rw[htk]at hq
    rw[D5]
    split
    ·exact⟨_,rfl⟩
    ·rename_i hne
     rcases mem_append.1 hq with hq|hq
     ·exact hE q hq
     ·rw[mem_singleton]at hq;subst hq;exact absurd rfl hne
   ·have K3:=K2.perm (M:=.blk b1 [.int .i64 q1,.int .i64 q2] 169::.own 169 2 oa o.length oc (ordC o)::Ed mb (mapV cgV la)::.imap tb .i64 (mapV peV (gput E q1 (b,((Sl.adel P.1 q2).1,P.2))))::BG b ((Sl.adel P.1 q2).1,P.2)::pgsE (gdel E q1)) (by(refine AC fun ff gg h0 hc ha hpm=>?_;simp only[ha,hc,h0];omega))
    exact K3.drop.perm ((((Y9 E q1 b ((Sl.adel P.1 q2).1,P.2)).symm.cons _).cons _).cons _)
  cases hg:gget E q1 with
  |some e=>
   obtain⟨b,P⟩:=e
   have hP:(gget (tmE E) q1).getD (CO Ps q1)=P:=by rw[YF,hg];rfl
   refine⟨_,_,H.bD gMIP EQ4 (.tail _ (.tail _ (.tail _ (.head _)))) (MR hg _).1 (MR hg (.pointer none)).2,D8 ⟨_,H.ld (o:=1) EQ4 gInt (.head _) rfl,?_⟩⟩
   have K:Hp [] w w3 (BG b P::.blk b1 [.int .i64 q1,.int .i64 q2] 169::.own 169 2 oa o.length oc (ordC o)::Ed mb (mapV cgV la)::.imap tb .i64 (mapV peV E)::pgsE (gdel E q1)):=by
    have hp:=Xa hg
    refine H.perm (AC fun ff gg h0 hc ha hpm=>?_)
    have h9:=hpm _ _ hp
    simp only[ha,hc,h0]at h9⊢
    omega
   obtain⟨g,hR,K2⟩:=Hp.CV K
   refine AL (Sl.LH hR (K2.blk (.head _)) q2) ?_
   rintro e w4 ⟨rfl,g',hR',H'⟩
   exact⟨_,rfl,fin b P w4 g' hR' hP (K2.FO H')⟩
  |none=>
   have hPd:(gget (tmE E) q1).getD (CO Ps q1)=CO Ps q1:=by rw[YF,hg];rfl
   have hdE:gdel E q1=E:=gdel_none hg
   refine⟨_,_,H.bD gMIP EQ4 (.tail _ (.tail _ (.tail _ (.head _)))) (Yo hg _).1 (Yo hg (.pointer none)).2,CX ⟨_,H.drew.ld (o:=0) EQ4 gInt (.head _) rfl,?_⟩⟩
   have S2:=st.PW H.drew.chg
   refine AA rfl ⟨_,_,_,(O9 S2).ld (o:=3) gSP.agg rfl,AO (fun h2=>?_) (fun h2=>?_)⟩
   ·have S3:=st.PW H.drew.drew.chg
    have hn:q1.toNat<p.bs.length:=by omega
    have hnP:q1.toNat<Ps.length:=by omega
    have hPv:CO Ps q1=Ps[q1.toNat]:=by rw[CO,List.getElem?_eq_getElem hnP];rfl
    refine AA rfl ⟨_,_,_,(O9 S3).ld (o:=3) gSP.agg rfl,_,H.drew.drew.ld (o:=0) EQ4 gInt (.head _) rfl,?_⟩
    obtain⟨ad,had,hldp⟩:=YC S3 hn
    refine AA had ⟨⟨by omega,by omega⟩,_,by rw[Nat.mul_one];exact hldp,?_⟩
    obtain⟨g,hR,hb⟩:=Kq S3 (List.getElem?_eq_getElem hn) (List.getElem?_eq_getElem hnP)
    refine AL (Sl.clone_any _ g _ ⟨hR.ok,hb⟩) ?_
    rintro e w4 ⟨b,rfl,H'⟩
    have H2:=H.drew.drew.ext1 H'
    clear H H'
    refine⟨_,rfl,_,H2.ld (o:=1) (cs:=[.int .i64 q1,.int .i64 q2]) EQ4 gInt (.tail _ (.head _)) rfl,?_⟩
    refine AL (Sl.LH hR (H2.blk (.head _)) q2) ?_
    rintro e w5 ⟨rfl,g',hR',H'⟩
    have H3:=H2.FO H'
    refine⟨_,rfl,fin b Ps[q1.toNat] w5 g' hR' (by rw[hPd,hPv]) ?_⟩
    rw[hdE];exact H3
   ·have hPv:CO Ps q1=([],0):=by
     have e9:Ps[q1.toNat]? =none:=List.getElem?_eq_none (by omega)
     rw[CO,e9];rfl
    refine AL (Sl.new_any _) ?_
    rintro e w4 ⟨b,rfl,H'⟩
    have H2:=H.drew.ext1 H'
    clear H H'
    refine⟨_,rfl,_,H2.ld (o:=1) (cs:=[.int .i64 q1,.int .i64 q2]) EQ4 gInt (.tail _ (.head _)) rfl,?_⟩
    refine AL (Sl.LH Sl.Vz (H2.blk (.head _)) q2) ?_
    rintro e w5 ⟨rfl,g',hR',H'⟩
    have H3:=H2.FO H'
    refine⟨_,rfl,fin b ([],0) w5 g' hR' (by rw[hPd,hPv]) ?_⟩
    rw[hdE];exact H3
 have hko:k=o.length:=by omega
 rw[hko,drop_length,delF]at hd
 rw[hko,take_length]at hE
 rw[<- hd]at htr
 clear hd h1 hnext hko hk
 refine Ae.mk (fun m s w'=>∃(k:Nat)(E:TE),m=o.length-k/\k<=o.length/\s=(k:Int)/\CU Ps l=putF (o.drop k) la (tmE E)/\(∀q∈o,∃x,gget E q.1=some x)/\
  Hp [] w w' (.own 169 2 oa o.length oc (ordC o)::Ed mb (mapV cgV la)::.imap tb .i64 (mapV peV E)::pgsE E)) o.length ⟨0,E,rfl,by omega,rfl,htr,hE,H⟩ ?_
 clear H htr hE
 clear E
 rintro m s w1 next ⟨k,E,rfl,hk,rfl,htr,hE,H⟩ hnext
 refine AO (fun h1=>?_) (fun h1=>?_)
 ·have hkl:k<o.length:=by omega
  have hq:=hok _ (getElem_mem hkl)
  have hqE:=hE _ (getElem_mem hkl)
  have hgo:=ZG hkl
  rw[drop_eq_getElem_cons hkl]at htr
  generalize o[k]=q at hq hgo htr hqE
  obtain⟨q1,q2⟩:=q
  obtain⟨c,hc⟩:=hq.has
  obtain⟨⟨b,P⟩,hg⟩:=hqE
  try dsimp only at hgo
  try dsimp only at hc
  try dsimp only at hg
  have htm:gget (tmE E) q1=some P:=by rw[YF,hg];rfl
  rw[putF,hc,htm]at htr
  dsimp only at htr
  obtain⟨ad,had,hld⟩:=H.ldOA EQ4 NY (by omega) (.head _) (o:=k*2) hgo rfl
  refine AA had ⟨⟨by omega,by omega⟩,_,_,by rw[Int.toNat_natCast];exact hld,?_⟩
  clear hld
  intro b1 w2 hn
  replace H:=H.new (cs:=[.int .i64 0,.int .i64 0]) EQ4 hn
  clear hn
  refine Hp.stA (o:=0) H EQ4 NY (vs:=[.int .i64 q1,.int .i64 q2]) rfl rfl (by simp) (cs':=[.int .i64 q1,.int .i64 q2]) rfl ?_
  clear H;intro w3 H
  refine⟨_,_,H.ldA (o:=0) EQ4 NY (.head _) (vs:=[.int .i64 q1,.int .i64 q2]) rfl rfl,?_⟩
  refine⟨_,_,_,_,H.lkP gMPC (x:=(q1,q2)) EQ4 (.tail _ (.tail _ (.head _))) (v:=cgV c) (MR hc _).1,?_⟩
  intro b3 w4 hn
  replace H:=H.new (cs:=[.int .i64 0,.int .i64 0,.string ⟨#[]⟩,.bool false]) EQ4 hn
  clear hn
  refine Hp.stA (o:=0) H EQ4 Jz (vs:=[.int .i64 c.page,.int .i64 c.slot,.string c.s,.bool c.gone]) rfl rfl (by simp) (cs':=[.int .i64 c.page,.int .i64 c.slot,.string c.s,.bool c.gone]) rfl ?_
  clear H;intro w5 H
  refine⟨_,H.ld (o:=3) EQ4 EN (.head _) rfl,BI (fun h2=>?_) (fun h2=>?_)⟩
  ·rw[if_neg (by rw[h2];simp)]at htr
   refine⟨_,H.ld (o:=0) (cs:=[.int .i64 q1,.int .i64 q2]) EQ4 gInt (.tail _ (.head _)) rfl,_,H.lkI gMIP EQ4 (.tail _ (.tail _ (.tail _ (.tail _ (.head _))))) (MR hg _).1,_,H.ld (o:=1) (cs:=[.int .i64 q1,.int .i64 q2]) EQ4 gInt (.tail _ (.head _)) rfl,_,H.ld (o:=2) EQ4 gStr (.head _) rfl,?_⟩
   have K:Hp [] w w5 (BG b P::.own 169 2 oa o.length oc (ordC o)::Ed mb (mapV cgV la)::.imap tb .i64 (mapV peV E)::pgsE (gdel E q1)):=by
    have hp:=Xa hg
    refine H.drop.drop.perm (AC fun ff gg h0 hc ha hpm=>?_)
    have h9:=hpm _ _ hp
    simp only[ha,hc,h0]at h9⊢
    omega
   obtain⟨g,hR,K2⟩:=Hp.CV K
   have hps:=Sl.X0 b g P.1 P.2 hR q2 c.s.data.toList w5 (K2.blk (.head _))
   rw[sv,QJ]at hps
   refine AL hps ?_
   rintro e w6 ⟨rfl,g',hR',H'⟩
   have K3:=K2.FO H'
   refine⟨_,rfl,BI (fun h3=>?_) (fun h3=>?_)⟩
   ·rw[if_neg (of_decide_eq_false h3)]at htr
    exact .inl ⟨htr,rfl,K3.done⟩
   ·rw[if_pos (of_decide_eq_true h3)]at htr
    refine⟨AY.2 (by omega),hnext (o.length-(k+1)) _ _ (by omega) ⟨k+1,gput E q1 (b,((Sl.aput P.1 q2 c.s.data.toList).1,P.2)),rfl,by omega,by omega,by rw[aG];exact htr,?_,?_⟩⟩
    ·intro q hq
     rw[D5]
     split
     ·exact⟨_,rfl⟩
     ·exact hE q hq
    ·have K4:=Hp.NE (P:=((Sl.aput P.1 q2 c.s.data.toList).1,P.2)) hR' K3
     have e5:mapV peV (gput E q1 (b,((Sl.aput P.1 q2 c.s.data.toList).1,P.2)))=mapV peV E:=by
      have hsame:∀(E:TE),gget E q1=some (b,P)->mapV peV (gput E q1 (b,((Sl.aput P.1 q2 c.s.data.toList).1,P.2)))=mapV peV E:=by
       intro E
       induction E with
       |nil=>intro h;cases h
       |cons x r ih=>
        obtain⟨x,u⟩:=x
        intro h
        simp only[gget]at h
        simp only[gput]
        split at h
        ·rename_i hx
         cases h
         rw[if_pos hx];rfl
        ·rename_i hx
         rw[if_neg hx]
         have:=ih h
         simp only[mapV,map_cons]at this⊢
         rw[this]
      exact hsame E hg
     rw[e5]
     have hp:=Y9 E q1 b ((Sl.aput P.1 q2 c.s.data.toList).1,P.2)
     refine K4.perm (AC fun ff gg h0 hc ha hpm=>?_)
     have h9:=hpm _ _ hp
     simp only[ha,hc,h0]at h9⊢
     omega
  ·rw[if_pos h2]at htr
   refine⟨AY.2 (by omega),hnext (o.length-(k+1)) _ _ (by omega) ⟨k+1,E,rfl,by omega,by omega,htr,hE,H.drop.drop⟩⟩
 ·have hko:k=o.length:=by omega
  rw[hko,drop_length,putF]at htr
  exact .inr ⟨E,tb,htr,rfl,H.drop.drop⟩
theorem gundMIP:Tryz.prog.underlying 112=some (.map 3 99):=by kernel_rfl
theorem gMSP:Scl Tryz.prog 86:=BP (by kernel_rfl)
theorem UQ(Ps:List AP)(m k:Nat):(CS Ps m)[k]? =if k<max Ps.length m then some ((Ps[k]?).getD ([],0))else none:=by
 rw[CS]
 by_cases h:k<Ps.length
 ·rw[List.getElem?_append_left h,if_pos (by omega),List.getElem?_eq_getElem h];rfl
 ·rw[List.getElem?_append_right (by omega),List.getElem?_replicate,List.getElem?_eq_none (l:=Ps) (by omega)]
  by_cases h2:k<max Ps.length m
  ·rw[if_pos (by omega),if_pos h2];rfl
  ·rw[if_neg (by omega),if_neg h2]
theorem EY(Ps:List AP)(m:Nat):(CS Ps m).length=max Ps.length m:=by
 rw[CS,length_append,List.length_replicate];omega
theorem Nj(st:Nat)(Ps:List AP)(e:Int×AP):(lay1 st Ps e).length=max Ps.length (e.1.toNat+1):=by
 rw[lay1,length_set,EY]
theorem NT(st:Nat)(Ps:List AP)(e:Int×AP)(k:Nat):(lay1 st Ps e)[k]? =if k=e.1.toNat then some (RQ st e.2)else if k<max Ps.length (e.1.toNat+1)then some ((Ps[k]?).getD ([],0))else none:=by
 rw[lay1]
 by_cases h:k=e.1.toNat
 ·subst h
  rw[if_pos rfl,List.getElem?_set_self (by rw[EY];omega)]
 ·rw[if_neg h,List.getElem?_set_ne (fun h2=>h h2.symm),UQ]
theorem lay1_comm(st:Nat)(Ps:List AP){e f:Int×AP}(h:e.1.toNat≠f.1.toNat):lay1 st (lay1 st Ps e) f=lay1 st (lay1 st Ps f) e:=by
 apply List.ext_getElem?
 intro k
 rw[NT,NT,NT,NT,Nj,Nj]
 by_cases h1:k=f.1.toNat
 ·rw[if_pos h1,if_neg (fun h2=>h (by rw[<- h2,h1])),if_pos (by omega)]
  rw[if_pos h1];rfl
 ·rw[if_neg h1]
  by_cases h2:k=e.1.toNat
  ·rw[if_pos h2,if_pos h2,if_pos (by omega)];rfl
  ·rw[if_neg h2,if_neg h2,if_neg h1]
   have hm:max (max Ps.length (e.1.toNat+1)) (f.1.toNat+1)=max (max Ps.length (f.1.toNat+1)) (e.1.toNat+1):=by omega
   rw[hm]
   by_cases h3:k<max (max Ps.length (f.1.toNat+1)) (e.1.toNat+1)
   ·rw[if_pos h3,if_pos h3]
    by_cases h4:k<Ps.length
    ·rw[if_pos (by omega),if_pos (by omega)]
    ·rw[List.getElem?_eq_none (l:=Ps) (by omega)]
     split<;>split<;>rfl
   ·rw[if_neg h3,if_neg h3]
theorem up_comm(T:Tou)(a b:Int):(T.up a).up b=(T.up b).up a:=by
 funext k
 by_cases h:a=b
 ·rw[h]
 ·unfold Tou.up
  by_cases h1:k=a
  ·have h2:¬k=b:=fun e=>h (by rw[<- h1,e])
   simp only[h1,if_true,if_neg h]
  ·simp only[if_neg h1]
theorem layP_perm{st:Nat}{Ps:List AP}{M M':TM}(h:M.Perm M')(hk:∀e∈M,0<=e.1)(hn:(M.map (·.1)).Nodup):layP st Ps M=layP st Ps M':=by
 refine List.Perm.foldl_eq' h ?_ Ps
 intro x hx y hy z
 by_cases hxy:x=y
 ·subst hxy;rfl
 ·refine lay1_comm st z fun e=>hxy ?_
  have h1:=hk x hx
  have h2:=hk y hy
  have h3:x.1=y.1:=by omega
  have e1:=QK hn (k:=x.1) (v:=x.2) hx
  have e2:=QK hn (k:=y.1) (v:=y.2) hy
  rw[h3,e2]at e1
  exact Prod.ext h3 (Option.some.inj e1).symm
theorem upP_perm{T:Tou}{M M':TM}(h:M.Perm M'):upP T M=upP T M':=by
 refine List.Perm.foldl_eq' h ?_ T
 intro x hx y hy z
 exact up_comm z x.1 y.1
theorem Rk{n:Int}:∀{M:TM}{T:Tou},n∉M.map (·.1)->upP T M n=T n
 | [],_,_=>rfl
 |e::r,T,h=>by
  simp only[map_cons,mem_cons,not_or]at h
  show upP (T.up e.1) r n=T n
  rw[Rk h.2,Tou.up,if_neg h.1]
theorem MO{st:Nat}:∀{M:TM}{Ps:List AP},Ps.length<=4096->(∀e∈M,e.1<4096)->(layP st Ps M).length<=4096
 | [],Ps,h,_=>h
 |e::r,Ps,h,hk=>by
  have h1:=hk e (.head _)
  exact MO (M:=r) (Ps:=lay1 st Ps e) (by rw[Nj];omega) (fun x hx=>hk x (.tail _ hx))
structure TM.Ok(M:TM):Prop where
 nodup:(M.map (·.1)).Nodup
 key:∀e∈M,0<=e.1/\e.1<4096
theorem TM.Ok.put{M:TM}(h:M.Ok){k:Int}(hk:0<=k/\k<4096)(P:AP):TM.Ok (gput M k P):=
 ⟨Lh h.nodup,fun e he=>by
  rcases KI he with rfl|he
  ·exact hk
  ·exact h.key e he⟩
theorem ZI(Ps:List AP):∀(o:Ord)(M:TM),M.Ok->(∀q∈o,0<=q.1/\q.1<4096)->TM.Ok (delF Ps o M)
 | [],M,h,_=>h
 |q::r,M,h,ho=>ZI Ps r _ (h.put (ho q (.head _)) _) fun x hx=>ho x (.tail _ hx)
theorem VR(la:Last):∀(o:Ord)(M:TM){M':TM},M.Ok->(∀q∈o,0<=q.1/\q.1<4096)->putF o la M=some M'->TM.Ok M'
 | [],M,M',h,_,e=>by rw[putF]at e;cases e;exact h
 |(p,s)::r,M,M',h,ho,e=>by
  rw[putF]at e
  have h1:=ho (p,s) (.head _)
  have h2:∀q∈r,0<=q.1/\q.1<4096:=fun x hx=>ho x (.tail _ hx)
  split at e
  ·split at e
   ·exact VR la r M h h2 e
   ·split at e
    ·exact VR la r _ (h.put h1 _) h2 e
    ·cases e
  ·cases e
theorem G5{Ps:List AP}{l:List Chg1}{M:TM}(h:CU Ps l=some M):M.Ok:=by
 unfold CU at h
 split at h
 ·cases h
 ·rename_i o la hf
  have hok:=Ku Ps l [] [] hf (by simp)
  exact VR la o _ (ZI Ps o [] ⟨by simp,by simp⟩ fun q hq=>(hok q hq).page) (fun q hq=>(hok q hq).page) h
theorem Hp.ldPg{B:List Nat}{w w4 w5:World}{L:List Asn}{b:Nat}{g:Sl.Pg}(K:Hp B w w4 L)(e:Eqw w4 w5)(hok:g.Ok)(m:Sl.pgA b g∈L):
  Ld Tryz.prog 144 w5 ⟨b,0,none⟩ (.agg (bQ g.bs++([Value.int .i64 (g.many:Int)]++([Value.int .i64 (g.low:Int)]++[]))).toArray):=
 K.ldA (cs:=g.cells) e YJ m (by rw[List.drop_zero,take_of_length_le (by rw[hok.clen];exact Nat.le_refl _)];rfl) hok.clen
theorem Yf(x y:TE):tmE (x++y)=tmE x++tmE y:=by simp[tmE]
theorem Xj(E:TE):(tmE E).map (·.1)=E.map (·.1):=by simp[tmE,map_map,Function.comp_def]
theorem Ny(jb:Nat)(va vb vc:Value)(p:JP)(tt:Nat)(wt:Int)(Ps:List AP)(hl:p.bs.length=Ps.length)(hsz:Ps.length<=4096)(T:Tou)(hT:∀n,T n<=1000000000)(tb:Nat)(E:TE)(hE:(tmE E).Ok)(stp:Nat)(w:World)
  (st:Std w (jpL jb va vb vc p (some tt) wt Ps++(touA tt T::.imap tb .i64 (mapV peV E)::pgsE E))):
  Calls Tryz.prog 61 #[.pointer (some ⟨jb,0,none⟩),.map (some tb),.int .i64 (stp:Int)] w fun e w'=>e=.returned (.tuple #[])/\∃p':JP,p'.bs.length=(layP stp Ps (tmE E)).length/\
   Hp (feet (jpL jb va vb vc p (some tt) wt Ps++(touA tt T::.imap tb .i64 (mapV peV E)::pgsE E))) w w' (jpL jb va vb vc p' (some tt) wt (layP stp Ps (tmE E))++[touA tt (upP T (tmE E))]):=by
 apply jchange.ok;unfold jchange.vc
 have H:=Hp.Ap st
 generalize hB:feet (jpL jb va vb vc p (some tt) wt Ps++(touA tt T::.imap tb .i64 (mapV peV E)::pgsE E))=B at H⊢
 replace H:=H.perm (M:=.imap tb .i64 (mapV peV E)::(jpL jb va vb vc p (some tt) wt Ps++(touA tt T::pgsE E))) (by(refine AC fun ff gg h0 hc ha hpm=>?_;simp only[ha,hc,h0];omega))
 obtain⟨es,clock,hb,hr,hn,ho⟩:MapAt (ET .i64) w tb (mapV peV E):=H.ok _ (.head _)
 replace H:Hp B w w (objA tb (.map es clock)::(jpL jb va vb vc p (some tt) wt Ps++(touA tt T::pgsE E))):=H.set (Chg.refl _ _) (Vr hb) (fun k hk=>.inl hk)
 refine H.rng EQ4 gundMIP hb ?_
 intro it w1 H
 have hpairs:∀(l:List MapEntry)(rs:TE),(l.map fun e=>(e.key,e.val)).Perm (rs.map fun e=>(Value.int .i64 e.1,peV e.2))->l=[]->rs=[]:=fun l rs hp hl=>by
  subst hl
  have:=hp.length_eq
  simp at this
  exact List.eq_nil_of_length_eq_zero this.symm
 refine Ae.mk (fun(m:Nat)(s:PUnit)(w':World)=>∃(seen:Array Nat)(ds rs:TE)(p1:JP),m=(EO es seen).length/\(ds++rs).Perm E/\((EO es seen).map fun e=>(e.key,e.val)).Perm (rs.map fun e=>(Value.int .i64 e.1,peV e.2))/\
  p1.bs.length=(layP stp Ps (tmE ds)).length/\Hp B w w' (objA it (.mapIter (some tb) clock seen clock)::objA tb (.map es clock)::(jpL jb va vb vc p1 (some tt) wt (layP stp Ps (tmE ds))++(touA tt (upP T (tmE ds))::pgsE rs)))) (EO es #[]).length
  ⟨#[],[],E,p,rfl,.refl _,?_,hl,H⟩ ?_
 ·rw[PV]
  have e1:(mapV peV E).map (fun q=>((ET .i64).enc q.1,q.2))=E.map fun e=>(Value.int .i64 e.1,peV e.2):=by
   simp only[mapV,map_map];rfl
  have hr2:es.toList.map (fun e=>(e.key,e.val))=_:=hr
  rw[hr2,e1]
 clear H w1
 rintro m s w1 next ⟨seen,ds,rs,p1,rfl,hperm,hpr,hl1,H⟩ hnext
 have hEk:∀e∈tmE ds,0<=e.1/\e.1<4096:=fun e he=>by
  obtain⟨x,hx,rfl⟩:=mem_map.1 he
  exact hE.key (x.1,x.2.2) (mem_map.2 ⟨x,hperm.mem_iff.1 (mem_append_left _ hx),rfl⟩)
 have hlen1:=MO (st:=stp) hsz (fun e he=>(hEk e he).2)
 refine H.nxt EQ4 (H.obj (.tail _ (.head _))) ho hn ?_ ?_
 ·intro h0
  have hrs:=hpairs _ _ hpr h0
  subst hrs
  rw[append_nil]at hperm
  have hpm:(tmE ds).Perm (tmE E):=hperm.map _
  have e1:layP stp Ps (tmE ds)=layP stp Ps (tmE E):=layP_perm hpm (fun e he=>(hEk e he).1) ((hpm.map (·.1)).nodup_iff.2 hE.nodup)
  have e2:upP T (tmE ds)=upP T (tmE E):=upP_perm hpm
  rw[e1,e2]at H
  rw[e1]at hl1
  exact⟨rfl,p1,hl1,H.drop.drop⟩
 ·intro e w2 he hp H2 hent
  clear H
  have hmem:(e.key,e.val)∈rs.map fun e=>(Value.int .i64 e.1,peV e.2):=hpr.mem_iff.1 (mem_map.2 ⟨e,hp.mem_iff.2 (.head _),rfl⟩)
  obtain⟨r,hr1,hr2⟩:=mem_map.1 hmem
  obtain⟨l1,l2,rfl⟩:=List.append_of_mem hr1
  obtain⟨n,b,P⟩:=r
  simp only[Prod.mk.injEq]at hr2
  obtain⟨hk1,hk2⟩:=hr2
  rw[<- hk1,<- hk2]at hent
  have hrest:((EO es (seen.push e.born)).map fun e=>(e.key,e.val)).Perm ((l1++l2).map fun e=>(Value.int .i64 e.1,peV e.2)):=by
   have h1:((e.key,e.val)::(EO es (seen.push e.born)).map fun e=>(e.key,e.val)).Perm ((e.key,e.val)::((l1++l2).map fun e=>(Value.int .i64 e.1,peV e.2))):=by
    refine((hp.map fun e=>(e.key,e.val)).symm.trans hpr).trans ?_
    rw[<- hk1,<- hk2]
    exact(List.perm_middle (a:=(n,(b,P))) (l₁:=l1) (l₂:=l2)).map _
   exact(List.perm_cons _).1 h1
  have hlt:(EO es (seen.push e.born)).length<(EO es seen).length:=by
   have:=hp.length_eq
   simp only[length_cons]at this
   omega
  have hnE:(n,(b,P))∈E:=hperm.mem_iff.1 (mem_append_right _ hr1)
  have hn4:=hE.key (n,P) (mem_map.2 ⟨_,hnE,rfl⟩)
  dsimp only at hn4
  have hnod:((ds++(l1++(n,(b,P))::l2)).map (·.1)).Nodup:=((hperm.map (·.1)).nodup_iff).2 (by rw[<- Xj];exact hE.nodup)
  have hnds:n∉(tmE ds).map (·.1):=by
   rw[Xj]
   rw[map_append,nodup_append]at hnod
   intro hm
   exact hnod.2.2 n hm n (mem_map.2 ⟨_,hr1,rfl⟩) rfl
  have hTn:upP T (tmE ds) n=T n:=Rk hnds
  have hT1:=hT n
  refine⟨n,_,_,hent,?_⟩
  have H3:Hp B w w2 (BG b P::(jpL jb va vb vc p1 (some tt) wt (layP stp Ps (tmE ds))++(touA tt (upP T (tmE ds))::objA it (.mapIter (some tb) clock (seen.push e.born) clock)::objA tb (.map es clock)::pgsE (l1++l2)))):=by
   have hpp:(pgsE (l1++(n,(b,P))::l2)).Perm (BG b P::pgsE (l1++l2)):=List.perm_middle.map _
   refine H2.perm (AC fun ff gg h0 hc ha hpm=>?_)
   have h9:=hpm _ _ hpp
   simp only[ha,hc,h0]at h9⊢
   omega
  clear H2
  obtain⟨g,hR,H4⟩:=Hp.CV H3
  clear H3
  refine AL (Sl.ND hR (H4.blk (.head _)) (stp:Int)) ?_
  rintro e3 w3 ⟨rfl,g',hR',H'⟩
  have H5:=H4.FO H'
  clear H4 H'
  refine⟨_,rfl,AA rfl ⟨_,_,_,Hp.ldPg H5.drew EQ4 hR'.ok (.head _),?_⟩⟩
  have H6:=H5.drew.perm (M:=jpL jb va vb vc p1 (some tt) wt (layP stp Ps (tmE ds))++(Sl.pgA b g'::touA tt (upP T (tmE ds))::objA it (.mapIter (some tb) clock (seen.push e.born) clock)::objA tb (.map es clock)::pgsE (l1++l2))) (by(refine AC fun ff gg h0 hc ha hpm=>?_;simp only[ha,hc,h0];omega))
  clear H5
  have hjp:=Gy jb va vb vc p1 (some tt) wt (layP stp Ps (tmE ds)) hl1 hlen1 n.toNat (by omega) w3.drew H6.std1
  rw[Int.toNat_of_nonneg hn4.1]at hjp
  refine AL hjp ?_
  rintro e4 w4 ⟨p2,b2,rfl,hb2,hl2,H'⟩
  have H7:=H6.useL H'
  clear H6 H'
  refine⟨_,rfl,Hp.ldPg H7 EQ4 hR'.ok (mem_append_right _ (.head _)),AA rfl ?_⟩
  refine MF (g:=g') (Q:=RQ stp P) hR' H7 EQ4 hb2 hl2 ?_
  clear H7;intro w5 H8
  have hlay:(CS (layP stp Ps (tmE ds)) (n.toNat+1)).set n.toNat (RQ stp P)=layP stp Ps (tmE (ds++[(n,(b,P))])):=by
   rw[Yf,layP,layP,foldl_append];rfl
  have hupp:(upP T (tmE ds)).up n=upP T (tmE (ds++[(n,(b,P))])):=by
   rw[Yf,upP,upP,foldl_append];rfl
  rw[hlay]at H8
  have hl3:p2.bs.length=(layP stp Ps (tmE (ds++[(n,(b,P))]))).length:=by rw[<- hlay,length_set];exact hl2
  have H9:=H8.perm (M:=.blk jb (jcV va vb vc p2 (some tt) wt) 91::touA tt (upP T (tmE ds))::(.own 99 1 p2.pa p2.bs.length p2.pc (EH p2.bs)::List.zipWith BG p2.bs (layP stp Ps (tmE (ds++[(n,(b,P))])))++(Sl.pgA b g'::objA it (.mapIter (some tb) clock (seen.push e.born) clock)::objA tb (.map es clock)::pgsE (l1++l2)))) (by rw[jpL];(refine AC fun ff gg h0 hc ha hpm=>?_;simp only[ha,hc,h0];omega))
  clear H8
  refine AA rfl ⟨_,H9.ld (o:=4) EQ4 gMSP (.head _) rfl,?_⟩
  obtain⟨tl,htl,H10⟩:=Hp.ZJ H9.Aq
  clear H9
  refine⟨_,H10.lkI gMII EQ4 (.head _) (Md htl n),by rw[hTn];exact AY.2 (by omega),?_⟩
  refine H10.mupI gMII EQ4 ?_
  clear H10;intro w6 H11
  have e1:Value.int .i64 ((upP T (tmE ds) n:Int)+1)=cntV (upP T (tmE ds) n+1):=by rw[cntV];congr 1
  rw[e1,Ia]at H11
  have H12:=Hp.UR (htl.up n) H11
  rw[hupp]at H12
  refine hnext _ _ _ hlt ⟨seen.push e.born,ds++[(n,(b,P))],l1++l2,p2,rfl,?_,hrest,hl3,?_⟩
  ·refine List.Perm.trans ?_ hperm
   rw[append_assoc]
   exact(show((n,(b,P))::(l1++l2)).Perm (l1++(n,(b,P))::l2)from List.perm_middle.symm).append_left ds
  ·have H13:=H12.perm (M:=Sl.pgA b g'::(objA it (.mapIter (some tb) clock (seen.push e.born) clock)::objA tb (.map es clock)::(jpL jb va vb vc p2 (some tt) wt (layP stp Ps (tmE (ds++[(n,(b,P))])))++(touA tt (upP T (tmE (ds++[(n,(b,P))])))::pgsE (l1++l2))))) (by rw[jpL];(refine AC fun ff gg h0 hc ha hpm=>?_;simp only[ha,hc,h0];omega))
   exact H13.drop
def DX(y:GW)(x:DW)(s:St):List Asn:=BN y x s::fsA y s::lgT y.lw s.lg::lgB y.lw s.lg::lgA y.lw x.b s.lg::(frsL y.fs s.fs++dkL x s.d)
theorem st_rest(y:GW)(x:DW)(s:St):(stL y x s).Perm (.blk y.jb y.jc 91::DX y x s):=by
 rw[stL,DX,CQ];(refine AC fun ff gg h0 hc ha hpm=>?_;simp only[ha,hc,h0];omega)
def ptrV(b:Nat):Value:=.pointer (some ⟨b,0,none⟩)
def jcW(y:GW)(x:DW)(p:JP)(tt:Nat)(wt:Int):List Value:=jcV (ptrV x.b) (ptrV y.lw.b) (ptrV y.pb) p (some tt) wt
def yj(y:GW)(x:DW)(p:JP)(tt:Nat)(wt:Int):GW:= {y with jc:=jcW y x p tt wt}
def AZ(y:GW)(x:DW)(s:St)(p:JP)(tt:Nat)(wt:Int)(Ps:List AP)(T:Tou):List Asn:=
 jpL y.jb (ptrV x.b) (ptrV y.lw.b) (ptrV y.pb) p (some tt) wt Ps++(touA tt T::DX y x s)
def pgsL(p:JP)(tt:Nat)(Ps:List AP)(T:Tou):List Asn:=.own 99 1 p.pa p.bs.length p.pc (EH p.bs)::(List.zipWith BG p.bs Ps++[touA tt T])
theorem GZ(y:GW)(x:DW)(s:St)(p:JP)(tt:Nat)(wt:Int)(Ps:List AP)(T:Tou):(AZ y x s p tt wt Ps T).Perm (stL (yj y x p tt wt) x s++pgsL p tt Ps T):=by
 have h:=st_rest (yj y x p tt wt) x s
 rw[AZ,jpL,pgsL]
 refine AC fun ff gg h0 hc ha hpm=>?_
 have h9:=hpm _ _ h
 have e:DX (yj y x p tt wt) x s=DX y x s:=rfl
 rw[e]at h9
 simp only[ha,hc,h0]at h9⊢
 have e2:gg (Asn.blk (yj y x p tt wt).jb (yj y x p tt wt).jc 91)=gg (Asn.blk y.jb (jcV (ptrV x.b) (ptrV y.lw.b) (ptrV y.pb) p (some tt) wt) 91):=rfl
 omega
structure Idle(s:St)(n:Nat):Prop where
 fr:∀f∈s.fs,f.pins=0/\f.n<4096/\(n<=4096->f.dirty=false/\f.n<n)
 len:s.fs.length<=s.many
 many:4<=s.many/\s.many<=64
 hand:s.hand<64
 turn:s.hand=0\/s.hand<s.fs.length
 nd:∀(i j:Nat)(f g:Fr),i≠j->s.fs[i]? =some f->s.fs[j]? =some g->f.n≠g.n
theorem Idle.cl{s:St}{n:Nat}(h:Idle s n)(hn:n<=4096):∀f∈s.fs,f.dirty=false/\f.pins=0/\f.n<n:=fun f hf=>by
 obtain⟨h1,_,h2⟩:=h.fr f hf
 obtain⟨h3,h4⟩:=h2 hn
 exact⟨h3,h1,h4⟩
theorem Idle.any{s:St}{n:Nat}(h:Idle s n):Idle s 5000:=⟨fun f hf=>⟨(h.fr f hf).1,(h.fr f hf).2.1,fun h=>by omega⟩,h.len,h.many,h.hand,h.turn,h.nd⟩
theorem Idle.hh{s:St}{n:Nat}(h:Idle s n):s.fs.length=s.many->s.hand<s.fs.length:=fun e=>by
 have:=h.turn
 have:=h.many.1
 omega
theorem findN_none{s:St}{n:Nat}(h:∀f∈s.fs,f.n<n):EC s.fs (n:Int)=none:=Ud _ _ fun j f hf e=>by
 have:=h f (mem_of_getElem? hf)
 omega
theorem Bf.idle{fs gs:List Fr}(h:Bf fs gs){n:Nat}(hf:∀f∈fs,f.dirty=false/\f.pins=0/\f.n<n):∀g∈gs,g.dirty=false/\g.pins=0/\g.n<n:=fun g hg=>by
 obtain⟨k,hk⟩:=List.getElem?_of_mem hg
 have hlt:=(List.getElem?_eq_some_iff.1 hk).1
 rw[h.len]at hlt
 obtain⟨h1,h2,h3,h4⟩:=h.at_ k _ g (List.getElem?_eq_getElem hlt) hk
 have:=hf _ (getElem_mem hlt)
 exact⟨by rw[h4];exact this.1,by rw[h3];exact this.2.1,by rw[h1];exact this.2.2⟩
def PZ(fs:List Fr):Prop:=∀(i j:Nat)(f g:Fr),i≠j->fs[i]? =some f->fs[j]? =some g->f.n≠g.n
theorem Bf.nd{fs gs:List Fr}(h:Bf fs gs)(hn:PZ fs):PZ gs:=fun i j f g hij hf hg=>by
 have hi:=(List.getElem?_eq_some_iff.1 hf).1
 have hj:=(List.getElem?_eq_some_iff.1 hg).1
 rw[h.len]at hi hj
 have e1:=(h.at_ i _ f (List.getElem?_eq_getElem hi) hf).1
 have e2:=(h.at_ j _ g (List.getElem?_eq_getElem hj) hg).1
 rw[e1,e2]
 exact hn i j _ _ hij (List.getElem?_eq_getElem hi) (List.getElem?_eq_getElem hj)
theorem idle_get{y1:GW}{s s1:St}{n a:Nat}(h:Idle s n)(hn4:n<4096)(hp:n<s.pages)(hg:bG y1 s s1 n a):
  ∃P,(EG s.d n).1=some P/\s1.d=s.d/\s1.lg=s.lg/\s1.many=s.many/\s1.pages=s.pages/\Idle (Dw s1 n false).1 (n+1)/\(Dw s1 n false).1.d=s.d/\(Dw s1 n false).1.lg=s.lg/\(Dw s1 n false).1.many=s.many/\(Dw s1 n false).1.pages=s.pages/\
   (∀f∈s1.fs,f.pins<=1/\f.n<=n/\f.dirty=false)/\s1.fs.length<=s1.many/\s1.hand<64/\∃(k:Nat)(f:Fr)(b:Nat),s1.fs[k]? =some f/\f.pg=P/\y1.fs[k]? =some (b,a):=by
 have hno:=findN_none fun f hf=>(h.cl (by omega) f hf).2.2
 rcases hg with⟨j,f,w,h1,_⟩|⟨s0,k,P,b,_,hP,hfree,hk,hy,rfl⟩
 ·rw[hno]at h1;cases h1
 ·have key:∀(fs0:List Fr)(h0:Nat),k<fs0.length->fs0.length<=s.many->h0<64->(h0=0\/h0<fs0.length)->(∀(j:Nat)(f:Fr),j≠k->fs0[j]? =some f->f.dirty=false/\f.pins=0/\f.n<n)->(∀(i j:Nat)(f g:Fr),i≠j->i≠k->j≠k->fs0[i]? =some f->fs0[j]? =some g->f.n≠g.n)->s0= {s with fs:=fs0,hand:=h0}->
    ∃P,(EG s.d n).1=some P/\s0.d=s.d/\s0.lg=s.lg/\s0.many=s.many/\max s0.pages (n+1)=s.pages/\Idle (Dw {s0 with fs:=s0.fs.set k ⟨n,P,1,false,true⟩,pages:=max s0.pages (n+1)} n false).1 (n+1)/\
     (Dw {s0 with fs:=s0.fs.set k ⟨n,P,1,false,true⟩,pages:=max s0.pages (n+1)} n false).1.d=s.d/\(Dw {s0 with fs:=s0.fs.set k ⟨n,P,1,false,true⟩,pages:=max s0.pages (n+1)} n false).1.lg=s.lg/\
     (Dw {s0 with fs:=s0.fs.set k ⟨n,P,1,false,true⟩,pages:=max s0.pages (n+1)} n false).1.many=s.many/\(Dw {s0 with fs:=s0.fs.set k ⟨n,P,1,false,true⟩,pages:=max s0.pages (n+1)} n false).1.pages=s.pages/\
     (∀f∈s0.fs.set k ⟨n,P,1,false,true⟩,f.pins<=1/\f.n<=n/\f.dirty=false)/\(s0.fs.set k ⟨n,P,1,false,true⟩).length<=s.many/\s0.hand<64:=by
   intro fs0 h0 hk0 hle hh ht hoth hnd hs0
   subst hs0
   refine⟨P,hP,rfl,rfl,rfl,by show max s.pages (n+1)=s.pages;omega,?_⟩
   have hset:∀f∈fs0.set k ⟨n,P,1,false,true⟩,f=⟨n,P,1,false,true⟩\/(f.dirty=false/\f.pins=0/\f.n<n):=fun f hf=>by
    obtain⟨j,hj⟩:=List.getElem?_of_mem hf
    by_cases hjk:j=k
    ·subst hjk
     rw[List.getElem?_set_self hk0]at hj
     exact .inl (Option.some.inj hj).symm
    ·rw[List.getElem?_set_ne (fun h=>hjk h.symm)]at hj
     exact .inr (hoth j f hjk hj)
   have hfind:EC (fs0.set k ⟨n,P,1,false,true⟩) (n:Int)=some k:=by
    refine UF _ _ k (fun j f hj hf e=>?_) (f:=⟨n,P,1,false,true⟩) (List.getElem?_set_self hk0) rfl
    rw[List.getElem?_set_ne (by omega)]at hf
    have:=(hoth j f (by omega) hf).2.2
    omega
   have hd:∀pg,(Dw {s with fs:=fs0.set k ⟨n,P,1,false,true⟩,hand:=h0,pages:=pg} n false).1= {s with fs:=fs0.set k ⟨n,P,0,false,true⟩,hand:=h0,pages:=pg}:=fun pg=>by
    rw[Dw]
    dsimp only
    rw[hfind]
    dsimp only
    rw[List.getElem?_set_self hk0]
    dsimp only
    rw[if_neg (by decide),set_set];rfl
   refine⟨?_,?_,?_,?_,?_,fun f hf=>?_,by rw[length_set];exact hle,hh⟩
   ·show Idle (Dw {s with fs:=fs0.set k ⟨n,P,1,false,true⟩,hand:=h0,pages:=max s.pages (n+1)} n false).1 (n+1)
    rw[hd]
    refine⟨fun f hf=>?_,by rw[length_set];exact hle,h.many,hh,by rw[length_set];exact ht,fun i j f g hij hf hg=>?_⟩
    rotate_left
    ·have hoff:∀(i:Nat)(f:Fr),i≠k->(fs0.set k ⟨n,P,0,false,true⟩)[i]? =some f->fs0[i]? =some f:=fun i f hi hf=>by rw[List.getElem?_set_ne (fun h=>hi h.symm)]at hf;exact hf
     by_cases hi:i=k
     ·subst hi
      have h2:=hoth j g (fun e=>hij e.symm) (hoff j g (fun e=>hij e.symm) hg)
      rw[List.getElem?_set_self hk0]at hf
      rw[<- Option.some.inj hf]
      show n≠g.n
      omega
     ·by_cases hj:j=k
      ·subst hj
       have h2:=hoth i f hi (hoff i f hi hf)
       rw[List.getElem?_set_self hk0]at hg
       rw[<- Option.some.inj hg]
       show f.n≠n
       omega
      ·exact hnd i j f g hij hi hj (hoff i f hi hf) (hoff j g hj hg)
    obtain⟨j,hj⟩:=List.getElem?_of_mem hf
    by_cases hjk:j=k
    ·subst hjk
     rw[List.getElem?_set_self hk0]at hj
     rw[<- Option.some.inj hj]
     exact⟨rfl,hn4,fun _=>⟨rfl,Nat.lt_succ_self _⟩⟩
    ·rw[List.getElem?_set_ne (fun h=>hjk h.symm)]at hj
     have:=hoth j f hjk hj
     exact⟨this.2.1,by omega,fun _=>⟨this.1,by omega⟩⟩
   ·show(Dw {s with fs:=fs0.set k ⟨n,P,1,false,true⟩,hand:=h0,pages:=max s.pages (n+1)} n false).1.d=s.d
    rw[hd]
   ·show(Dw {s with fs:=fs0.set k ⟨n,P,1,false,true⟩,hand:=h0,pages:=max s.pages (n+1)} n false).1.lg=s.lg
    rw[hd]
   ·show(Dw {s with fs:=fs0.set k ⟨n,P,1,false,true⟩,hand:=h0,pages:=max s.pages (n+1)} n false).1.many=s.many
    rw[hd]
   ·show(Dw {s with fs:=fs0.set k ⟨n,P,1,false,true⟩,hand:=h0,pages:=max s.pages (n+1)} n false).1.pages=s.pages
    rw[hd]
    show max s.pages (n+1)=s.pages
    omega
   ·rcases hset f hf with rfl|h2
    ·exact⟨Nat.le_refl _,Nat.le_refl _,rfl⟩
    ·exact⟨by rw[h2.2.1];omega,by omega,h2.1⟩
  have hfin:(∃P',(EG s.d n).1=some P'/\s0.d=s.d/\s0.lg=s.lg/\s0.many=s.many/\max s0.pages (n+1)=s.pages/\Idle (Dw {s0 with fs:=s0.fs.set k ⟨n,P',1,false,true⟩,pages:=max s0.pages (n+1)} n false).1 (n+1)/\
     (Dw {s0 with fs:=s0.fs.set k ⟨n,P',1,false,true⟩,pages:=max s0.pages (n+1)} n false).1.d=s.d/\(Dw {s0 with fs:=s0.fs.set k ⟨n,P',1,false,true⟩,pages:=max s0.pages (n+1)} n false).1.lg=s.lg/\
     (Dw {s0 with fs:=s0.fs.set k ⟨n,P',1,false,true⟩,pages:=max s0.pages (n+1)} n false).1.many=s.many/\(Dw {s0 with fs:=s0.fs.set k ⟨n,P',1,false,true⟩,pages:=max s0.pages (n+1)} n false).1.pages=s.pages/\
     (∀f∈s0.fs.set k ⟨n,P',1,false,true⟩,f.pins<=1/\f.n<=n/\f.dirty=false)/\(s0.fs.set k ⟨n,P',1,false,true⟩).length<=s.many/\s0.hand<64):=by
   rcases hfree with⟨hlt,hkl,F,hs0⟩|⟨hnl,fs1,h1,f,hsame,hh1,hf,hpin,hcase⟩
   ·refine key (s.fs++[F]) s.hand (by rw[hkl,length_append];simp) (by rw[length_append];simp only[length_singleton];omega) h.hand (by have:=h.turn;rw[length_append];simp only[length_singleton];omega) (fun j f hjk hf=>?_) (fun i j f g hij hi hj hf hg=>?_) hs0
    rotate_left
    ·have hil:=(List.getElem?_eq_some_iff.1 hf).1
     have hjl:=(List.getElem?_eq_some_iff.1 hg).1
     rw[length_append]at hil hjl
     simp only[length_singleton]at hil hjl
     rw[List.getElem?_append_left (by omega)]at hf hg
     exact h.nd i j f g hij hf hg
    ·have hj:=(List.getElem?_eq_some_iff.1 hf).1
     rw[length_append]at hj
     simp only[length_singleton]at hj
     rw[List.getElem?_append_left (by omega)]at hf
     exact h.cl (by omega) f (mem_of_getElem? hf)
   ·have hid:=hsame.idle (h.cl (by omega))
    rcases hcase with⟨_,hs0⟩|⟨hd,_⟩
    ·have hl:=hsame.len
     have hle:=h.len
     refine key fs1 h1 (List.getElem?_eq_some_iff.1 hf).1 (by omega) (by have:=h.many.2;omega) (.inr hh1) (fun j f hjk hf=>hid f (mem_of_getElem? hf)) (fun i j f g hij _ _ hf hg=>hsame.nd h.nd i j f g hij hf hg) hs0
    ·have:=(hid f (mem_of_getElem? hf)).1
     rw[hd]at this;cases this
  obtain⟨P',e0,e1,e2,e3,e4,e5,e6,e7,e8,e9,e10,e11,e12⟩:=hfin
  rw[hP]at e0
  cases e0
  refine⟨P,hP,e1,e2,e3,e4,e5,e6,e7,e8,e9,e10,?_,e12,k,⟨n,P,1,false,true⟩,b,List.getElem?_set_self hk,rfl,hy⟩
  show(s0.fs.set k ⟨n,P,1,false,true⟩).length<=s0.many
  rw[e3];exact e11
structure Ee(y y1:GW)(x x1:DW):Prop where
 jb:y1.jb=y.jb
 pb:y1.pb=y.pb
 lwb:y1.lw.b=y.lw.b
 xb:x1.b=x.b
theorem Ee.refl(y:GW)(x:DW):Ee y y x x:=⟨rfl,rfl,rfl,rfl⟩
theorem Ee.trans{y y1 y2:GW}{x x1 x2:DW}(h:Ee y y1 x x1)(h':Ee y1 y2 x1 x2):Ee y y2 x x2:=⟨h'.jb.trans h.jb,h'.pb.trans h.pb,h'.lwb.trans h.lwb,h'.xb.trans h.xb⟩
theorem yj_eq{y1:GW}{x1:DW}{p:JP}{tt:Nat}{wt:Int}(h:y1.jc=jcW y1 x1 p tt wt):yj y1 x1 p tt wt=y1:=by
 obtain⟨jb,jc,lw,pb,fa,fc,fs⟩:=y1
 simp only[yj]
 rw[<- h]
theorem V3{y y1:GW}{x x1:DW}{p:JP}{tt:Nat}{wt:Int}(h:FT (yj y x p tt wt) y1 x x1):Ee y y1 x x1/\yj y1 x1 p tt wt=y1:=by
 obtain⟨h1,h2,h3,h4,h5⟩:=h
 refine⟨⟨h1,h3,h4,h5⟩,yj_eq ?_⟩
 rw[h2]
 show jcW y x p tt wt=jcW y1 x1 p tt wt
 have h3:y1.pb=y.pb:=h3
 have h4:y1.lw.b=y.lw.b:=h4
 simp only[jcW,h3,h4,h5]
def HSz(d:Dk)(l:Lg):Prop:=0<=d.size Aa/\0<=(Ak d l).1.size Aa
theorem HSz.at{s:St}(h:HSz s.d s.lg)(n:Nat):0<=(Bg s n).1.size Aa:=by
 rw[Bg]
 split
 ·exact h.1
 ·exact h.2
theorem lkT{B:List Nat}{w0 w w':World}{L:List Asn}{tt:Nat}{T:Tou}(H:Hp B w0 w L)(e:Eqw w w')(m:touA tt T∈L)(n:Int):Lk Tryz.prog 86 false w' (.map (some tt)) (.int .i64 n) (.int .i64 (T n:Int)):=by
 obtain⟨l,hl,hm⟩:=Vt ((H.go e).ok _ m)
 have:=(Vu gMII hm n).1
 rw[Md hl]at this
 exact this
theorem Eg(y:GW)(x:DW)(s:St)(p:JP)(tt:Nat)(wt:Int)(Ps:List AP)(T:Tou):Asn.blk y.jb (jcW y x p tt wt) 91∈AZ y x s p tt wt Ps T:=.head _
theorem YN(y:GW)(x:DW)(s:St)(p:JP)(tt:Nat)(wt:Int)(Ps:List AP)(T:Tou):touA tt T∈AZ y x s p tt wt Ps T:=mem_append_right _ (.head _)
structure Rest(y:GW)(x:DW)(s:St)(p:JP)(Ps:List AP)(n:Nat):Prop where
 fs:y.fs.length=s.fs.length
 dk:x.Ok s.d
 idle:Idle s n
 pages:s.pages<=4096
 sz:HSz s.d s.lg
 bs:p.bs.length=Ps.length
 few:Ps.length<=4096
theorem Rest.ok{y:GW}{x:DW}{s:St}{p:JP}{Ps:List AP}{n:Nat}(h:Rest y x s p Ps n)(hn:n<=4096)(tt:Nat)(wt:Int):StOk (yj y x p tt wt) x s:=
 ⟨h.fs,rfl,h.dk,by have:=h.idle.len;have:=h.idle.many.2;omega,fun f hf=>(h.idle.fr f hf).2.1,fun f hf=>by have:=(h.idle.fr f hf).1;omega,.inl fun f hf=>(h.idle.cl hn f hf).1,h.idle.hand,h.pages,h.idle.many.2⟩
theorem get_bad{s s1:St}{n:Nat}{c:Int}(h:Idle s n)(hn:n<=4096)(hb:aK s s1 n c):(EG s.d n).1=none/\c=(EG s.d n).2/\s1=s:=by
 rcases hb.2 with h1|⟨_,hnl,fs1,h1,hsame,_,⟨_,hall,_⟩|⟨k,f,g,hf,_,hd,_⟩⟩
 ·exact h1
 ·have hm:=h.many.1
  have hlt:0<s.fs.length:=by omega
  have h2:=hall _ (getElem_mem hlt)
  have h3:=(h.fr _ (getElem_mem hlt)).1
  omega
 ·have:=(hsame.idle (h.cl hn) f (mem_of_getElem? hf)).1
  rw[hd]at this;cases this
theorem jread_spec(y:GW)(x:DW)(s:St)(p:JP)(tt:Nat)(wt:Int)(Ps:List AP)(T:Tou)(hr:Rest y x s p Ps 0){N:Nat}(fit:s.d.Fit N)(hN:N<=400000)(w:World)(st:Std w (AZ y x s p tt wt Ps T)):
  Calls Tryz.prog 73 #[.pointer (some ⟨y.jb,0,none⟩),.map (some tt)] w fun e w'=>e=.returned (.int .i64 (readAll s.d T (min s.pages 4096) 0 Ps).2)/\
   ∃(y':GW)(x':DW)(s':St)(p':JP)(m:Nat),Ee y y' x x'/\Rest y' x' s' p' (readAll s.d T (min s.pages 4096) 0 Ps).1 m/\m<=4096/\s'.d=s.d/\s'.lg=s.lg/\s'.many=s.many/\s'.pages=s.pages/\
    Hp (feet (AZ y x s p tt wt Ps T)) w w' (AZ y' x' s' p' tt wt (readAll s.d T (min s.pages 4096) 0 Ps).1 T):=by
 apply jread.ok;unfold jread.vc
 have H:=Hp.Ap st
 generalize hB:feet (AZ y x s p tt wt Ps T)=B at H⊢
 refine AA rfl ⟨_,H.ld (o:=2) EQ4 gPP (Eg ..) rfl,?_⟩
 have H0:=H.perm (GZ ..)
 refine AL (fpages_spec (yj y x p tt wt) x s w H0.std1) ?_
 rintro e w1 ⟨rfl,he⟩
 rw[he]
 clear H0 he
 refine⟨_,rfl,?_⟩
 obtain⟨M,hM⟩:∃M,M=min s.pages 4096:=⟨_,rfl⟩
 have hM1:min (s.pages:Int) 4096=(M:Int):=by omega
 rw[<- hM,hM1]
 have hM4:M<=4096:=by omega
 have hMp:M<=s.pages:=by omega
 clear hM hM1
 obtain⟨Z,hZ⟩:∃Z,Z=readAll s.d T M 0 Ps:=⟨_,rfl⟩
 rw[<- hZ]
 refine Ae.mk (fun m (sn:Int) w'=>∃(n:Nat)(y1:GW)(x1:DW)(s1:St)(p1:JP)(Qs:List AP),m=M-n/\n<=M/\sn=(n:Int)/\readAll s.d T (M-n) n Qs=Z/\Ee y y1 x x1/\Rest y1 x1 s1 p1 Qs n/\s1.d=s.d/\s1.lg=s.lg/\s1.many=s.many/\s1.pages=s.pages/\
  Hp B w w' (AZ y1 x1 s1 p1 tt wt Qs T)) M ⟨0,y,x,s,p,Ps,rfl,by omega,rfl,hZ.symm,Ee.refl y x,hr,rfl,rfl,rfl,rfl,H⟩ ?_
 clear H
 rintro m sn w1 next ⟨n,y1,x1,s1,p1,Qs,rfl,hn,rfl,hq,hs,hR,hd,hlg,hmany,hpages,H⟩ hnext
 refine AO (fun h1=>?_) (fun h1=>?_)
 ·have hnM:n<M:=by omega
  rw[show M-n=(M-(n+1))+1 by omega,readAll]at hq
  refine⟨_,lkT H EQ4 (YN ..) (n:Int),AO (fun h2=>?_) (fun h2=>?_)⟩
  ·rw[if_pos (by omega)]at hq
   have hjp:=Gy y1.jb (ptrV x1.b) (ptrV y1.lw.b) (ptrV y1.pb) p1 (some tt) wt Qs hR.bs hR.few n (by omega) w1 H.std1
   rw[hs.jb]at hjp
   refine AL hjp ?_
   rintro e w2 ⟨p2,b,rfl,hb,hl2,H'⟩
   rw[<- hs.jb]at H'
   have H2:=H.useL H'
   refine⟨_,rfl,AY.2 (by omega),hnext (M-(n+1)) _ _ (by omega) ⟨n+1,y1,x1,s1,p2,_,rfl,by omega,by omega,hq,hs,?_,hd,hlg,hmany,hpages,H2⟩⟩
   refine⟨hR.fs,hR.dk,⟨fun f hf=>?_,hR.idle.len,hR.idle.many,hR.idle.hand,hR.idle.turn,hR.idle.nd⟩,hR.pages,hR.sz,hl2,by rw[EY];have:=hR.few;omega⟩
   have:=hR.idle.cl (by omega) f hf
   exact⟨this.2.1,by omega,fun _=>⟨this.1,by omega⟩⟩
  ·rw[if_neg (by omega)]at hq
   have hpb:ptrV y1.pb=ptrV y.pb:=by rw[hs.pb]
   refine AA rfl ⟨_,H.ld (o:=2) (b:=y.jb) (T:=91) (cs:=jcW y1 x1 p1 tt wt) EQ4 gPP (by rw[<- hs.jb];exact Eg ..) rfl,?_⟩
   have H0:=H.perm (GZ ..)
   have fit1:s1.d.Fit N:=by rw[hd];exact fit
   refine AL (getG_spec (yj y1 x1 p1 tt wt) x1 s1 (hR.ok (by omega) tt wt) fit1 hN (fun k=>hR.sz.at k) hR.idle.len hR.idle.hh n (by omega) w1 H0.std1) ?_
   rintro e w2 ⟨y2,x2,s2,hseat,hx2,hy2,H',hcase⟩
   obtain⟨hs2,hyj⟩:=V3 hseat
   have hpm2:=GZ y2 x2 s2 p1 tt wt Qs T
   rw[hyj]at hpm2
   have H2:Hp B w w2 (AZ y2 x2 s2 p1 tt wt Qs T):=(H0.useL H').perm hpm2.symm
   clear H H0 H'
   rcases hcase with⟨a,rfl,hok⟩|⟨c,hc,rfl,hbad⟩
   ·obtain⟨P,hP,hd2,hlg2,hm2,hpg2,hidle,e1,e2,e3,e4,hfr,hlen,hhand,k,f,b0,hf,hfP,hyk⟩:=idle_get hR.idle (by omega) (by omega) hok
    have hrp:EG s.d n=(some P,(EG s.d n).2):=by rw[<- hd];exact Prod.ext hP rfl
    rw[hrp]at hq
    have hy2b:y2.jb=y.jb:=by rw[hs2.jb,hs.jb]
    refine⟨_,_,rfl,Aw (fun h=>absurd rfl h) (fun _=>?_)⟩
    have hjp:=Gy y2.jb (ptrV x2.b) (ptrV y2.lw.b) (ptrV y2.pb) p1 (some tt) wt Qs hR.bs hR.few n (by omega) w2 H2.std1
    rw[hy2b]at hjp
    refine AL hjp ?_
    rintro e w3 ⟨p2,b,rfl,hb,hl2,H'⟩
    rw[<- hy2b]at H'
    have H3:=H2.useL H'
    clear H2 H'
    have hmem:BG a P∈frsL y2.fs s2.fs:=by
     rw[<- hfP]
     exact Zc hyk hf _ (.tail _ (.head _))
    have hmem2:BG a P∈(jpL y2.jb (ptrV x2.b) (ptrV y2.lw.b) (ptrV y2.pb) p2 (some tt) wt (CS Qs (n+1))++(touA tt T::DX y2 x2 s2)):=
     mem_append_right _ (.tail _ (.tail _ (.tail _ (.tail _ (.tail _ (.tail _ (mem_append_left _ hmem)))))))
    obtain⟨g,hRep,hgb⟩:=RU (H3.ok _ hmem2)
    refine⟨_,rfl,?_⟩
    refine AL (Sl.clone_any a g w3 ⟨hRep.ok,hgb⟩) ?_
    rintro e w4 ⟨b4,rfl,H'⟩
    have H4:=(H3.ext1 H').perm (M:=jpL y2.jb (ptrV x2.b) (ptrV y2.lw.b) (ptrV y2.pb) p2 (some tt) wt (CS Qs (n+1))++(touA tt T::(Sl.pgA b4 g::DX y2 x2 s2))) (by(refine AC fun ff gg h0 hc ha hpm=>?_;simp only[ha,hc,h0];omega))
    clear H3 H'
    refine⟨_,rfl,AA rfl ⟨_,_,_,Hp.ldPg H4 EQ4 hRep.ok (mem_append_right _ (.tail _ (.head _))),AA rfl ?_⟩⟩
    refine MF (g:=g) (Q:=P) hRep H4 EQ4 hb hl2 ?_
    clear H4;intro w5 H5
    have H6:Hp B w w5 (AZ y2 x2 s2 p2 tt wt ((CS Qs (n+1)).set n P) T):=by
     have:=H5.perm (M:=Sl.pgA b4 g::AZ y2 x2 s2 p2 tt wt ((CS Qs (n+1)).set n P) T) (by rw[AZ];(refine AC fun ff gg h0 hc ha hpm=>?_;simp only[ha,hc,h0];omega))
     exact this.drop
    clear H5
    refine AA rfl ⟨_,H6.ld (o:=2) (b:=y.jb) (T:=91) (cs:=jcW y2 x2 p2 tt wt) EQ4 gPP (by rw[<- hy2b];exact Eg ..) rfl,?_⟩
    have H7:=H6.perm (GZ ..)
    have ok2:StOk (yj y2 x2 p2 tt wt) x2 s2:=by
     refine⟨hy2,rfl,hx2,?_,fun f hf=>?_,fun f hf=>?_,?_,hhand,?_,?_⟩
     ·have:=hR.idle.many.2;omega
     ·have:=(hfr f hf).2.1;omega
     ·have:=(hfr f hf).1;omega
     ·exact .inl fun f hf=>(hfr f hf).2.2
     ·rw[hpg2];exact hR.pages
     ·rw[hm2];exact hR.idle.many.2
    refine AL (doneG_spec (yj y2 x2 p2 tt wt) x2 s2 ok2 n false w5 H7.std1) ?_
    rintro e w6 ⟨rfl,H'⟩
    have H8:=(H7.useL H').perm (GZ ..).symm
    refine⟨_,rfl,AY.2 (by omega),hnext (M-(n+1)) _ _ (by omega) ⟨n+1,y2,x2,(Dw s2 n false).1,p2,_,rfl,by omega,by omega,hq,hs.trans hs2,?_,by rw[e1,hd],by rw[e2,hlg],by rw[e3,hmany],by rw[e4,hpages],H8⟩⟩
    refine⟨?_,by rw[e1,<- hd2];exact hx2,hidle,by rw[e4];exact hR.pages,by rw[e1,e2];exact hR.sz,by rw[length_set];exact hl2,by rw[length_set,EY];have:=hR.few;omega⟩
    rw[hy2,Dw]
    split
    ·rfl
    ·split
     ·rfl
     ·split
      ·rfl
      ·exact(length_set ..).symm
   ·obtain⟨h3,h4,rfl⟩:=get_bad hR.idle (by omega) hbad
    have hrp:EG s.d n=(none,c):=by rw[h4,<- hd];exact Prod.ext h3 rfl
    rw[hrp]at hq
    dsimp only at hq
    rw[<- hq]
    refine⟨_,_,rfl,Aw (fun _=>⟨rfl,y2,x2,s2,p1,n,hs.trans hs2,⟨hy2,hx2,hR.idle,hR.pages,hR.sz,hR.bs,hR.few⟩,by omega,hd,hlg,hmany,hpages,H2⟩) (fun h=>absurd h hc)⟩
 ·have hnM:n=M:=by omega
  rw[hnM,Nat.sub_self,readAll]at hq
  rw[<- hq]
  exact⟨rfl,y1,x1,s1,p1,n,hs,hR,by omega,hd,hlg,hmany,hpages,H⟩
theorem Rest.pg{y:GW}{x:DW}{s:St}{p p':JP}{Ps Ps':List AP}{n:Nat}(h:Rest y x s p Ps n)(hb:p'.bs.length=Ps'.length)(hf:Ps'.length<=4096):Rest y x s p' Ps' n:=⟨h.fs,h.dk,h.idle,h.pages,h.sz,hb,hf⟩
theorem upP_le{T:Tou}{M:TM}(h:M.Ok)(n:Int):upP T M n<=T n+1:=by
 by_cases hm:n∈M.map (·.1)
 ·obtain⟨e,he,rfl⟩:=mem_map.1 hm
  obtain⟨l1,l2,rfl⟩:=List.append_of_mem he
  have hnd:=h.nodup
  rw[map_append,map_cons,nodup_append]at hnd
  have h1:e.1∉l1.map (·.1):=fun hx=>hnd.2.2 e.1 hx e.1 (.head _) rfl
  have h2:e.1∉l2.map (·.1):=(nodup_cons.1 hnd.2.1).1
  rw[upP,foldl_append]
  show upP ((upP T l1).up e.1) l2 e.1<=_
  rw[Rk h2,Tou.up,if_pos rfl,Rk h1]
  exact Nat.le_refl _
 ·rw[Rk hm];omega
theorem restP_few{Ps:List AP}(h:Ps.length<=4096)(l:List UInt8):(Fb Ps l).1.length<=4096:=by
 unfold Fb
 split
 ·exact h
 ·rename_i hn
  split
  ·exact h
  ·dsimp only
   rw[length_set,EY]
   omega
theorem restP_bad{Ps:List AP}{l:List UInt8}(h:(Fb Ps l).2≠0):(Fb Ps l).1=Ps:=by
 unfold Fb at h⊢
 split
 ·rfl
 ·rename_i hn
  rw[if_neg hn]at h
  split
  ·rfl
  ·rename_i P hP
   rw[hP]at h
   exact absurd rfl h
def sizes(l:List ByteArray):Nat:=(l.map (·.size)).sum
theorem sizes_take{l:List ByteArray}{k:Nat}(h:k<l.length):sizes (l.take (k+1))=sizes (l.take k)+l[k].size:=by
 rw[take_succ_eq_append_getElem h]
 simp only[sizes,map_append,List.sum_append,map_cons,map_nil,sum_cons,List.sum_nil,Nat.add_zero]
theorem sizes_tk(l:List ByteArray)(k:Nat):sizes (l.take k)<=sizes l:=by
 have h:sizes l=sizes (l.take k)+sizes (l.drop k):=by
  conv=>lhs;rw[<- take_append_drop k l]
  simp only[sizes,map_append,List.sum_append]
 omega
theorem jrecover_spec(y:GW)(x:DW)(s:St)(p:JP)(t0:Option Nat)(wt:Int)(hr:Rest y x s p [] 0)(hpg:s.pages=D9 s.d){N:Nat}(fit:s.d.Fit N)(hN:N<=400000)(hal:s.lg.all.length<=100000000)(hsz:sizes s.lg.all<=100000000)(w:World)
  (st:Std w (jpL y.jb (ptrV x.b) (ptrV y.lw.b) (ptrV y.pb) p t0 wt []++DX y x s)):
  Calls Tryz.prog 40 #[.pointer (some ⟨y.jb,0,none⟩)] w fun e w'=>e=.returned (.int .i64 (DF s.d s.lg.all).2)/\
   ∃(y':GW)(x':DW)(s':St)(p':JP)(tt m:Nat),Ee y y' x x'/\Rest y' x' s' p' (DF s.d s.lg.all).1.Ps m/\m<=4096/\s'.d=s.d/\s'.lg=s.lg/\s'.many=s.many/\s'.pages=s.pages/\(∀n,(DF s.d s.lg.all).1.T n<=2*s.lg.all.length)/\
    Hp (feet (jpL y.jb (ptrV x.b) (ptrV y.lw.b) (ptrV y.pb) p t0 wt []++DX y x s)) w w' (AZ y' x' s' p' tt wt (DF s.d s.lg.all).1.Ps (DF s.d s.lg.all).1.T):=by
 apply jrecover.ok;unfold jrecover.vc
 have H:=Hp.Ap st
 generalize hB:feet (jpL y.jb (ptrV x.b) (ptrV y.lw.b) (ptrV y.pb) p t0 wt []++DX y x s)=B at H⊢
 refine AA rfl ⟨_,H.ld (o:=1) (cs:=jcV (ptrV x.b) (ptrV y.lw.b) (ptrV y.pb) p t0 wt) EQ4 gPL (.head _) rfl,?_⟩
 have K1:Hp B w w ([lgA y.lw x.b s.lg,lgT y.lw s.lg]++(jpL y.jb (ptrV x.b) (ptrV y.lw.b) (ptrV y.pb) p t0 wt []++(BN y x s::fsA y s::lgB y.lw s.lg::(frsL y.fs s.fs++dkL x s.d)))):=H.perm (by rw[DX];(refine AC fun ff gg h0 hc ha hpm=>?_;simp only[ha,hc,h0];omega))
 refine AL (lall_spec y.lw x.b s.lg (by omega) w K1.std1) ?_
 rintro e w1 ⟨la,lc,rfl,H'⟩
 replace H:=H.ext1 H'
 clear K1 H'
 obtain⟨all,hall⟩:∃all,all=s.lg.all:=⟨_,rfl⟩
 rw[<- hall]at H hal hsz⊢
 refine⟨_,_,_,rfl,?_⟩
 refine AL (jimages_spec la lc all hal w1 (H.ownA (.head _)).cells) ?_
 rintro e w2 ⟨tt,rfl,hT0,H'⟩
 replace H:=H.ext1 H'
 clear H'
 refine⟨_,rfl,?_⟩
 have H2:Hp B w w2 (.blk y.jb (jcV (ptrV x.b) (ptrV y.lw.b) (ptrV y.pb) p t0 wt) 91::(.own 99 1 p.pa p.bs.length p.pc (EH p.bs)::List.zipWith BG p.bs []++(touA tt (Ag all)::(DX y x s++[.own 9 1 la all.length lc (all.map .string)])))):=H.perm (by rw[jpL];(refine AC fun ff gg h0 hc ha hpm=>?_;simp only[ha,hc,h0];omega))
 clear H
 refine AA rfl (Hp.st (o:=4) H2 EQ4 gMSP rfl rfl (by simp[jcV]) (cs':=jcW y x p tt wt) rfl ?_)
 clear H2;intro w3 H
 have H2:Hp B w w3 (AZ y x s p tt wt [] (Ag all)++[.own 9 1 la all.length lc (all.map .string)]):=H.perm (by rw[AZ,jpL,<- show jcW y x p tt wt=jcV (ptrV x.b) (ptrV y.lw.b) (ptrV y.pb) p (some tt) wt from rfl];(refine AC fun ff gg h0 hc ha hpm=>?_;simp only[ha,hc,h0];omega))
 clear H
 refine AA rfl ⟨_,H2.ld (o:=4) (cs:=jcW y x p tt wt) EQ4 gMSP (mem_append_left _ (Eg ..)) rfl,?_⟩
 refine AL (jread_spec y x s p tt wt [] (Ag all) hr fit hN w3 H2.std1) ?_
 rintro e w4 ⟨rfl,y1,x1,s1,p1,m1,hs1,hR1,hm1,hd1,hlg1,hmany1,hpg1,H'⟩
 have H:=H2.useL H'
 clear H2 H'
 obtain⟨R,hRd⟩:∃R,R=readAll s.d (Ag all) (min s.pages 4096) 0 []:=⟨_,rfl⟩
 rw[<- hRd]at H hR1⊢
 have hrec:DF s.d all=if R.2=0 then recF all 0 ⟨R.1,Ag all⟩ []else(⟨R.1,Ag all⟩,R.2):=by rw[DF,hRd,hpg]
 obtain⟨Z,hZ⟩:∃Z,Z=DF s.d all:=⟨_,rfl⟩
 rw[<- hZ]at hrec⊢
 refine⟨_,rfl,Aw (fun h=>?_) (fun h=>?_)⟩
 ·rw[if_neg h]at hrec
  rw[hrec]
  exact⟨rfl,y1,x1,s1,p1,tt,m1,hs1,hR1,hm1,hd1,hlg1,hmany1,hpg1,fun n=>by have:=hT0 n;show Ag all n<=_;omega,H.BQ⟩
 rw[if_pos h]at hrec
 clear h
 refine Ae.mk (fun m sv w'=>∃(k:Nat)(J:JS)(g:List Chg1)(ga:Option Addr)(gc:Nat)(p2:JP),m=all.length-k/\k<=all.length/\sv=((ga,g.length,gc),(k:Int))/\recF (all.drop k) k J g=Z/\Rest y1 x1 s1 p2 J.Ps m1/\(∀n,J.T n<=all.length+k)/\g.length<=sizes (all.take k)/\
  Hp B w w' (AZ y1 x1 s1 p2 tt wt J.Ps J.T++[.own 9 1 la all.length lc (all.map .string),.own 73 4 ga g.length gc (chC g)])) all.length
  ⟨0,⟨R.1,Ag all⟩,[],none,0,p1,rfl,by omega,rfl,hrec.symm,hR1,fun n=>by have:=hT0 n;show Ag all n<=_;omega,Nat.zero_le _,(H.nilS 73 4).perm (M:=AZ y1 x1 s1 p1 tt wt R.1 (Ag all)++[.own 9 1 la all.length lc (all.map .string),.own 73 4 none 0 0 []]) (by(refine AC fun ff gg h0 hc ha hpm=>?_;simp only[ha,hc,h0];omega))⟩ ?_
 clear H hrec hR1 hT0
 rintro m sv w5 next ⟨k,J,g,ga,gc,p2,rfl,hk,rfl,hrf,hR,hJT,hgl,H⟩ hnext
 dsimp only
 have good:∀{w':World},(J,(180:Int))=Z->Hp B w w' (AZ y1 x1 s1 p2 tt wt J.Ps J.T++[.own 9 1 la all.length lc (all.map .string),.own 73 4 ga g.length gc (chC g)])->
   Ending.returned (.int .i64 180)=Ending.returned (.int .i64 Z.2)/\∃(y':GW)(x':DW)(s':St)(p':JP)(tt m:Nat),Ee y y' x x'/\Rest y' x' s' p' Z.1.Ps m/\m<=4096/\s'.d=s.d/\s'.lg=s.lg/\s'.many=s.many/\s'.pages=s.pages/\(∀n,Z.1.T n<=2*all.length)/\Hp B w w' (AZ y' x' s' p' tt wt Z.1.Ps Z.1.T):=by
  rintro w' rfl H
  exact⟨rfl,y1,x1,s1,p2,tt,m1,hs1,hR,hm1,hd1,hlg1,hmany1,hpg1,fun n=>by have:=hJT n;show J.T n<=_;omega,H.BQ⟩
 refine AO (fun h1=>?_) (fun h1=>?_)
 ·have hkl:k<all.length:=by omega
  rw[drop_eq_getElem_cons hkl,recF]at hrf
  have hszk:=sizes_take hkl
  have hsz1:=sizes_tk all (k+1)
  have hown:=(H.ownA (e:=9) (mem_append_right _ (.head _))).cells
  have hat:(all.map Value.string)[k]? =some (.string all[k]):=by simp[hkl]
  obtain⟨ad,ha,_⟩:=hown k _ hat
  refine AA ha ⟨⟨by omega,by omega⟩,_,by rw[Int.toNat_natCast,Nat.mul_one];exact hown.ld gStr ha hat,?_⟩
  have hss:all[k]=⟨all[k].data.toList.toArray⟩:=(QJ _).symm
  generalize all[k].data.toList=q at hss hrf
  rw[hss]at hrf hszk⊢
  rw[Cj]at hrf hszk⊢
  refine AO (fun h2=>?_) (fun h2=>?_)
  ·have h0:q.length=0:=by have:=P6.1 h2;rw[Cj]at this;exact this
   rw[if_pos h0]at hrf
   exact good hrf H
  have h0:q.length≠0:=fun h=>h2 (P6.2 (by rw[Cj];exact h))
  rw[if_neg h0]at hrf
  have hqn:q≠[]:=fun h=>h0 (by rw[h];rfl)
  have hh1:=Va q hqn 112
  have hh2:=Va q hqn 101
  refine⟨⟨by omega,by omega⟩,AO (fun h3=>?_) (fun h3=>?_)⟩
  ·rw[if_pos (hh1.1 h3)]at hrf
   have H2:Hp B w w5 (jpL y1.jb (ptrV x1.b) (ptrV y1.lw.b) (ptrV y1.pb) p2 (some tt) wt J.Ps++(touA tt J.T::(DX y1 x1 s1++[.own 9 1 la all.length lc (all.map .string),.own 73 4 ga g.length gc (chC g)]))):=H.perm (by rw[AZ];(refine AC fun ff gg h0 hc ha hpm=>?_;simp only[ha,hc,h0];omega))
   have hjr:=jrestore_spec y1.jb (ptrV x1.b) (ptrV y1.lw.b) (ptrV y1.pb) p2 (some tt) wt J.Ps hR.bs hR.few q (by omega) w5 H2.std1
   rw[hs1.jb]at hjr
   refine AL hjr ?_
   rintro e w6 ⟨rfl,p3,hp3,H'⟩
   rw[<- hs1.jb]at H'
   have H3:=H2.useL H'
   clear H H2 H'
   have hR3:Rest y1 x1 s1 p3 (Fb J.Ps q).1 m1:=hR.pg hp3 (restP_few hR.few q)
   have H4:Hp B w w6 (AZ y1 x1 s1 p3 tt wt (Fb J.Ps q).1 J.T++[.own 9 1 la all.length lc (all.map .string),.own 73 4 ga g.length gc (chC g)]):=H3.perm (by rw[AZ];(refine AC fun ff gg h0 hc ha hpm=>?_;simp only[ha,hc,h0];omega))
   clear H3
   refine⟨_,rfl,Aw (fun h4=>?_) (fun h4=>?_)⟩
   ·rw[if_neg h4]at hrf
    rw[restP_bad h4]at H4 hR3
    rw[<- hrf]
    exact⟨rfl,y1,x1,s1,p3,tt,m1,hs1,hR3,hm1,hd1,hlg1,hmany1,hpg1,fun n=>by have:=hJT n;show J.T n<=_;omega,H4.BQ⟩
   ·rw[if_pos h4]at hrf
    exact⟨AY.2 (by omega),hnext (all.length-(k+1)) _ _ (by omega) ⟨k+1,⟨(Fb J.Ps q).1,J.T⟩,g,ga,gc,p3,rfl,by omega,rfl,hrf,hR3,fun n=>by have:=hJT n;show J.T n<=_;omega,by omega,H4⟩⟩
  ·rw[if_neg (fun h=>h3 (hh1.2 h))]at hrf
   refine⟨⟨by omega,by omega⟩,?_⟩
   rw[I4,take_length,show Int.toNat 1=1 from rfl]
   have hdl:(q.drop 1).length+1=q.length:=by rw[length_drop];omega
   refine AL (jtaken_spec (q.drop 1) (by omega) w5) ?_
   rintro e w6 (⟨htk,rfl,H'⟩|⟨L,a,c,htk,hLl,rfl,H'⟩)
   ·rw[hdl]at htk
    rw[htk]at hrf
    exact⟨_,_,_,_,rfl,D8 (good hrf (H.ext0 H'))⟩
   rw[hdl]at htk
   rw[htk]at hrf
   dsimp only at hrf
   refine⟨_,_,_,_,rfl,CX ?_⟩
   have H2:Hp B w w6 (.own 73 4 ga g.length gc (chC g)::.own 73 4 a L.length c (chC L)::(AZ y1 x1 s1 p2 tt wt J.Ps J.T++[.own 9 1 la all.length lc (all.map .string)])):=(H.ext1 H').perm (by(refine AC fun ff gg h0 hc ha hpm=>?_;simp only[ha,hc,h0];omega))
   clear H H'
   have hownL:=(H2.ownA (.tail _ (.head _)))
   refine Hp.app Yd (by omega) H2 EQ4 (Cells.src (n:=L.length) Ve hownL.cells (by rw[V4]) (fun u hu=>chC_one hu) (fun ha=>by
    rcases hownL.2 with h|⟨_,_,_,h,_⟩
    ·exact h.2.1
    ·rw[ha]at h;cases h)) (by simp only[maxLen];omega) (by omega) ?_
   clear H2;intro a7 c7 w7 H
   rw[<- MJ,<- length_append]at H
   rw[<- length_append]
   have hgl7:(g++L).length<=sizes (all.take (k+1)):=by rw[length_append];omega
   refine⟨⟨by omega,by omega⟩,AO (fun h4=>?_) (fun h4=>?_)⟩
   ·rw[if_pos (hh2.1 h4)]at hrf
    have H2:Hp B w w7 (jpL y1.jb (ptrV x1.b) (ptrV y1.lw.b) (ptrV y1.pb) p2 (some tt) wt J.Ps++(touA tt J.T::(DX y1 x1 s1++[.own 9 1 la all.length lc (all.map .string),.own 73 4 a7 (g++L).length c7 (chC (g++L)),.own 73 4 a L.length c (chC L)]))):=H.perm (by rw[AZ];(refine AC fun ff gg h0 hc ha hpm=>?_;simp only[ha,hc,h0];omega))
    clear H
    have hjt:=Pi y1.jb (ptrV x1.b) (ptrV y1.lw.b) (ptrV y1.pb) p2 (some tt) wt J.Ps hR.bs hR.few a7 c7 (g++L) (by omega) w7 H2.std1 (H2.ownA (e:=73) (mem_append_right _ (.tail _ (mem_append_right _ (.tail _ (.head _)))))).cells
    rw[hs1.jb]at hjt
    refine AL hjt ?_
    rintro e w8 (⟨htr,rfl,H'⟩|⟨E,tb,htr,rfl,H'⟩)
    ·rw[htr]at hrf
     have H3:Hp B w w8 (AZ y1 x1 s1 p2 tt wt J.Ps J.T++[.own 9 1 la all.length lc (all.map .string),.own 73 4 a7 (g++L).length c7 (chC (g++L)),.own 73 4 a L.length c (chC L)]):=(H2.ext0 H').perm (by rw[AZ];(refine AC fun ff gg h0 hc ha hpm=>?_;simp only[ha,hc,h0];omega))
     refine⟨_,_,rfl,D8 ?_⟩
     rw[<- hrf]
     exact⟨rfl,y1,x1,s1,p2,tt,m1,hs1,hR,hm1,hd1,hlg1,hmany1,hpg1,fun n=>by have:=hJT n;show J.T n<=_;omega,H3.BQ⟩
    ·rw[htr]at hrf
     dsimp only at hrf
     have hEok:=G5 htr
     refine⟨_,_,rfl,CX ⟨AY.2 (by omega),?_⟩⟩
     have H3:Hp B w w8 ((jpL y1.jb (ptrV x1.b) (ptrV y1.lw.b) (ptrV y1.pb) p2 (some tt) wt J.Ps++(touA tt J.T::.imap tb .i64 (mapV peV E)::pgsE E))++(DX y1 x1 s1++[.own 9 1 la all.length lc (all.map .string),.own 73 4 a7 (g++L).length c7 (chC (g++L)),.own 73 4 a L.length c (chC L)])):=(H2.ext H').perm (by(refine AC fun ff gg h0 hc ha hpm=>?_;simp only[ha,hc,h0];omega))
     clear H2 H'
     have hjc:=Ny y1.jb (ptrV x1.b) (ptrV y1.lw.b) (ptrV y1.pb) p2 tt wt J.Ps hR.bs hR.few J.T (fun n=>by have:=hJT n;omega) tb E hEok (k+1) w8 H3.std1
     rw[hs1.jb,show((k+1:Nat):Int)=(k:Int)+1 by omega]at hjc
     refine AL hjc ?_
     rintro e w9 ⟨rfl,p3,hp3,H'⟩
     rw[<- hs1.jb]at H'
     have H4:=H3.useL H'
     clear H3 H'
     refine⟨rfl,AY.2 (by omega),hnext (all.length-(k+1)) _ _ (by omega) ⟨k+1,⟨layP (k+1) J.Ps (tmE E),upP J.T (tmE E)⟩,[],none,0,p3,rfl,by omega,rfl,hrf,hR.pg hp3 (MO hR.few fun e he=>(hEok.key e he).2),fun n=>?_,Nat.zero_le _,?_⟩⟩
     ·have h5:=upP_le (T:=J.T) hEok n
      have h6:=hJT n
      show upP J.T (tmE E) n<=_
      omega
     ·have H5:=(H4.nilS 73 4).perm (M:=(AZ y1 x1 s1 p3 tt wt (layP (k+1) J.Ps (tmE E)) (upP J.T (tmE E))++[.own 9 1 la all.length lc (all.map .string),.own 73 4 none 0 0 []])++[.own 73 4 a7 (g++L).length c7 (chC (g++L)),.own 73 4 a L.length c (chC L)]) (by rw[AZ];(refine AC fun ff gg h0 hc ha hpm=>?_;simp only[ha,hc,h0];omega))
      exact H5.BQ
   ·rw[if_neg (fun h=>h4 (hh2.2 h))]at hrf
    have H2:Hp B w w7 ((AZ y1 x1 s1 p2 tt wt J.Ps J.T++[.own 9 1 la all.length lc (all.map .string),.own 73 4 a7 (g++L).length c7 (chC (g++L))])++[.own 73 4 a L.length c (chC L)]):=H.perm (by(refine AC fun ff gg h0 hc ha hpm=>?_;simp only[ha,hc,h0];omega))
    exact⟨AY.2 (by omega),hnext (all.length-(k+1)) _ _ (by omega) ⟨k+1,J,g++L,a7,c7,p2,rfl,by omega,rfl,hrf,hR,fun n=>by have:=hJT n;omega,hgl7,H2.BQ⟩⟩
 ·have hke:k=all.length:=by omega
  rw[hke,drop_length,recF]at hrf
  rw[<- hrf]
  exact⟨rfl,y1,x1,s1,p2,tt,m1,hs1,hR,hm1,hd1,hlg1,hmany1,hpg1,fun n=>by have:=hJT n;show J.T n<=_;omega,H.BQ⟩
structure Nms(d d':Dk):Prop where
 firm:d'.firm=d.firm
 chs:d'.chs=d.chs
theorem Nms.refl(d:Dk):Nms d d:=⟨rfl,rfl⟩
theorem Nms.trans{a b c:Dk}(h:Nms a b)(h':Nms b c):Nms a c:=⟨h'.firm.trans h.firm,h'.chs.trans h.chs⟩
theorem Nms.find{d d':Dk}(h:Nms d d')(n:ByteArray):d'.find n=d.find n:=by
 rw[Dk.find,Dk.find,Dk.names,Dk.names,h.firm,h.chs]
theorem Ry(d:Dk):Nms d d.dies:=by
 unfold Dk.dies;split<;>exact⟨rfl,rfl⟩
theorem HY(d:Dk):Nms d d.denies:=⟨rfl,rfl⟩
theorem Yy(d:Dk)(k:Nat)(f:Fl):Nms d (d.put k f):=⟨rfl,rfl⟩
theorem FC(d:Dk)(n:ByteArray)(i:Int)(b:List UInt8):Nms d (d.write n i b).1:=by
 unfold Dk.write
 split
 ·exact .refl d
 split
 ·exact .refl d
 split
 ·exact .refl d
 split
 ·exact .refl d
 split
 ·exact HY d
 ·exact((HY d).trans (Yy _ _ _)).trans (Ry _)
theorem J4(d:Dk)(n:ByteArray):Nms d (d.sync n).1:=by
 unfold Dk.sync
 split
 ·exact .refl d
 split
 ·exact .refl d
 split
 ·exact HY d
 ·dsimp only
  split
  ·exact(HY d).trans (Ry _)
  ·exact((HY d).trans (Ry _)).trans (Yy _ _ _)
theorem QM{d:Dk}{r:Dk×Int}{f:Dk->Dk×Int}(h:Nms d r.1)(hf:∀d,Nms d (f d).1):Nms d (thn r f).1:=by
 rw[thn]
 split
 ·exact h.trans (hf _)
 ·exact h
theorem UM(d:Dk)(n:ByteArray)(m f:Nat):Nms d (bY d n m f).1:=
 QM (QM (J4 d n) fun d=>FC d _ _ _) fun d=>J4 d _
theorem Qv(n:ByteArray)(b:List UInt8):∀(m k:Nat)(d:Dk),Nms d (dput n b m k d).1
 |0,_,d=>.refl d
 |m+1,k,d=>by
  rw[dput]
  split
  ·exact .refl d
  ·exact QM (FC d _ _ _) fun d=>Qv n b m (k+1) d
theorem Fq(d:Dk)(l:Lg):Nms d (Ak d l).1:=by
 have h:Nms d (thn (bU d l.name l.b l.firm) fun d=>bY d l.name (l.mark+1) l.b.length).1:=QM (Qv _ _ _ _ d) fun d=>UM d _ _ _
 unfold Ak
 split
 ·dsimp only
  split
  ·exact h
  ·exact h
 ·exact .refl d
theorem Dx{d:Dk}{n:ByteArray}:0<=d.size n↔∃k,d.find n=some k:=by
 rw[Dk.size]
 constructor
 ·intro h
  cases hf:d.find n with
  |none=>rw[hf]at h;simp at h
  |some k=>exact⟨k,rfl⟩
 ·rintro⟨k,hk⟩
  rw[hk]
  exact Int.natCast_nonneg _
theorem create_has{d:Dk}{n:ByteArray}(h:(d.create n).2=0):∃k,(d.create n).1.find n=some k:=by
 unfold Dk.create at h⊢
 split at h
 ·cases h
 ·rename_i h1
  split at h
  ·cases h
  ·rename_i h2
   rw[if_neg h1,if_neg h2]
   dsimp only
   rw[dies_find,find_change]
   refine⟨d.files.length,?_⟩
   show nget (with_ _ _) n=_
   rw[EI]
   rw[if_pos rfl]
theorem Oi{d:Dk}(h:(Au d).2=0):∃k,(Au d).1.find Aa=some k:=by
 unfold Au at h⊢
 split at h
 ·rename_i h1
  rw[if_pos h1]
  exact create_has h
 ·rename_i h1
  rw[if_neg h1]
  exact Dx.1 (by show 0<=d.size Aa;omega)
theorem fopen_sz{d:Dk}(h:(Au d).2=0)(l:Lg):HSz (Au d).1 l:=by
 obtain⟨k,hk⟩:=Oi h
 exact⟨Dx.2 ⟨k,hk⟩,Dx.2 ⟨k,by rw[(Fq _ l).find];exact hk⟩⟩
theorem P8:∀(m:Nat)(b:List UInt8){l:List ByteArray},DZ m b=some l->sizes l+4*l.length<=b.length
 |0,b,l,h=>by rw[DZ]at h;cases h;simp[sizes]
 |m+1,b,l,h=>by
  rw[DZ]at h
  split at h
  ·cases h;simp[sizes]
  split at h
  ·cases h
  split at h
  ·cases h
  split at h
  ·cases h
  ·rename_i h1 h2 h3 h4
   cases hr:DZ m (b.drop (4+valN (b.take 4)))with
   |none=>rw[hr]at h;cases h
   |some r=>
    rw[hr]at h
    cases h
    have ih:=P8 m _ hr
    rw[length_drop]at ih
    have hs:(⟨((b.drop 4).take (valN (b.take 4))).toArray⟩:ByteArray).size<=valN (b.take 4):=by
     rw[Cj,length_take];omega
    simp only[sizes,map_cons,sum_cons,length_cons]at ih⊢
    omega
theorem records_sz{b:List UInt8}{l:List ByteArray}(h:records b=some l):sizes l+4*l.length<=b.length:=P8 _ b h
theorem findP_sz{d:Dk}{name:ByteArray}{N:Nat}(hN:d.size name<=N)(h:(Ky d name).1=0):sizes (Ky d name).2.all+4*(Ky d name).2.all.length<=N*512:=by
 unfold Ky at h⊢
 split at h
 ·cases h
 ·rename_i h1
  rw[if_neg h1]
  dsimp only at h⊢
  split at h
  ·rename_i h2
   rw[if_pos h2]
   split at h
   ·rename_i l hl
    have h3:=records_sz hl
    rw[length_take]at h3
    show sizes l+4*l.length<=N*512
    omega
   ·cases h
  ·rename_i h2
   exact absurd h h2
theorem RF{d:Dk}{N:Nat}(h:d.Fit N)(name:ByteArray)(all:List ByteArray):(bW d name all).1.Fit (N+(AV all).length/512+12):=by
 rw[bW]
 refine NV (N:=N+(AV all).length/512+11) ?_ (fun d hd=>(Fit.Ad hd).mono (by omega)) (by omega)
 exact NV (N:=N+(AV all).length/512+10) (Ug h (newN name) (AV all)) (fun d hd=>(Fit.rename hd _ _).mono (by omega)) (by omega)
theorem TW{d:Dk}{N:Nat}(h:d.Fit N)(name:ByteArray):(CV d name).1.Fit (N+12):=by
 unfold CV
 split
 ·exact h.mono (by omega)
 ·split
  ·exact h.mono (by omega)
  ·split
   ·exact h.mono (by omega)
   ·exact RF h name []
theorem Rl{d:Dk}{N:Nat}(h:d.Fit N):(Au d).1.Fit (N+1):=by
 unfold Au
 split
 ·exact Fit.create h Aa
 ·exact h.mono (by omega)
theorem openP_sz{d:Dk}{N:Nat}(h:d.Fit N)(name:ByteArray)(h0:(CV d name).2.1=0):sizes (CV d name).2.2.all+4*(CV d name).2.2.all.length<=N*512:=by
 unfold CV at h0⊢
 split at h0
 ·cases h0
 rename_i h1
 rw[if_neg h1]
 split at h0
 ·cases h0
 rename_i h2
 rw[if_neg h2]
 split at h0
 ·rename_i h3
  rw[if_pos h3]
  exact findP_sz (QQ h name).2 h0
 ·rename_i h3
  rw[if_neg h3]
  simp[Lg.anew,sizes]
theorem pages_in{d:Dk}{N:Nat}(h:d.Fit N):8*D9 d<=N+7:=by
 have h1:=QQ h Aa
 rw[D9]
 have h2:Int.tdiv (d.size Aa+8-1) 8<=((N:Int)+7)/8:=by
  have:0<=d.size Aa+8-1:=by omega
  rw[Int.tdiv_eq_ediv_of_nonneg this];omega
 omega
def Uc(x:DW)(d:Dk)(many:Nat)(w:World)(e:Ending)(w':World):Prop:=
 ∃x':DW,x'.b=x.b/\x'.Ok (Ac d).1/\
  (((Ac d).2.1≠0/\e=.returned (.tuple #[.pointer none,.int .i64 (Ac d).2.1])/\Hp (feet (dkL x d)) w w' (dkL x' (Ac d).1))\/
   ((Ac d).2.1=0/\∃(y:GW)(s:St)(p:JP)(tt m:Nat),e=.returned (.tuple #[.pointer (some ⟨y.jb,0,none⟩),.int .i64 0])/\Rest y x' s p (Ac d).2.2.2.Ps m/\m<=4096/\s.d=(Ac d).1/\s.lg=(Ac d).2.2.1/\s.many=many/\s.pages=D9 s.d/\
    (∀n,(Ac d).2.2.2.T n<=2*s.lg.all.length)/\Hp (feet (dkL x d)) w w' (AZ y x' s p tt 0 (Ac d).2.2.2.Ps (Ac d).2.2.2.T)))
theorem G7(x:DW)(d:Dk)(hok:x.Ok d){N:Nat}(fit:d.Fit N)(hN:N<=30000)(many:Nat)(hm:4<=many/\many<=64)(w:World)(st:Std w (dkL x d)):
  Calls Tryz.prog 11 #[.pointer (some ⟨x.b,0,none⟩),.int .i64 (many:Int)] w (Uc x d many w):=by
 apply jopen.ok;unfold jopen.vc
 unfold Uc
 have H:=Hp.Ap st
 generalize hB:feet (dkL x d)=B at H⊢
 refine AO (fun h=>by omega) (fun _=>AO (fun h=>by omega) (fun _=>?_))
 intro b0 w1 hn
 replace H:=H.newI EQ4 .i64 hn
 clear hn
 intro b1 w2 hn
 replace H:=H.new (cs:=[ptrV x.b,.pointer none,.pointer none,.slice none 0 0,.map (some b0),.int .i64 0]) EQ4 hn
 clear hn
 have H1:Hp B w w2 (dkL x d++[.imap b0 .i64 [],.blk b1 [ptrV x.b,.pointer none,.pointer none,.slice none 0 0,.map (some b0),.int .i64 0] 91]):=H.perm (by(refine AC fun ff gg h0 hc ha hpm=>?_;simp only[ha,hc,h0];omega))
 clear H
 refine AL (open_spec x d hok fit (by omega) nLog w2 H1.std1) ?_
 rintro e w3 ⟨x1,hx1b,hx1,hcase⟩
 have fit1:=TW fit nLog
 have hsz:=openP_sz fit nLog
 have hjp:Ac d=if(CV d nLog).2.1≠0 then((CV d nLog).1,(CV d nLog).2.1,(CV d nLog).2.2,⟨[],fun _=>0⟩)else
  if(Au (CV d nLog).1).2≠0 then((Au (CV d nLog).1).1,(Au (CV d nLog).1).2,(CV d nLog).2.2,⟨[],fun _=>0⟩)else
  ((Au (CV d nLog).1).1,(DF (Au (CV d nLog).1).1 (CV d nLog).2.2.all).2,(CV d nLog).2.2,(DF (Au (CV d nLog).1).1 (CV d nLog).2.2.all).1):=rfl
 generalize hJ:Ac d=J at hjp⊢
 generalize CV d nLog=O at hx1 hcase fit1 hsz hjp
 obtain⟨d1,c1,lg⟩:=O
 dsimp only at hx1 hcase fit1 hsz hjp
 rcases hcase with⟨hc,rfl,H'⟩|⟨hc,ly,rfl,H'⟩
 ·rw[if_pos hc]at hjp
  have H2:=H1.useL H'
  refine⟨_,_,rfl,Aw (fun _=>?_) (fun h=>absurd h hc)⟩
  rw[hjp]
  exact⟨x1,hx1b,hx1,.inl ⟨hc,rfl,H2.BQ⟩⟩
 rw[if_neg (fun h=>h hc)]at hjp
 have hsz1:=hsz hc
 have H2:=H1.useL H'
 clear H1 H'
 refine⟨_,_,rfl,Aw (fun h=>absurd rfl h) (fun _=>?_)⟩
 have H3:Hp B w w3 (.blk b1 [ptrV x.b,.pointer none,.pointer none,.slice none 0 0,.map (some b0),.int .i64 0] 91::(.imap b0 .i64 []::lgA ly x.b lg::lgT ly lg::lgB ly lg::dkL x1 d1)):=H2.perm (by(refine AC fun ff gg h0 hc ha hpm=>?_;simp only[ha,hc,h0];omega))
 clear H2
 refine Hp.st (o:=1) H3 EQ4 gPL rfl rfl (by simp) (cs':=[ptrV x.b,ptrV ly.b,.pointer none,.slice none 0 0,.map (some b0),.int .i64 0]) rfl ?_
 clear H3;intro w4 H
 have H4:Hp B w w4 (dkL x1 d1++(.blk b1 [ptrV x.b,ptrV ly.b,.pointer none,.slice none 0 0,.map (some b0),.int .i64 0] 91::.imap b0 .i64 []::lgA ly x.b lg::lgT ly lg::[lgB ly lg])):=H.perm (by(refine AC fun ff gg h0 hc ha hpm=>?_;simp only[ha,hc,h0];omega))
 clear H
 have hfo:=fopenG_spec x1 d1 hx1 fit1 (by omega) many hm b1 w4 H4.std1
 rw[hx1b]at hfo
 refine AL hfo ?_
 rintro e w5 ⟨x2,hx2b,hx2,hcase⟩
 have fit2:=Rl fit1
 have hfs:=fopen_sz (d:=d1)
 have hrw:x2.b=x.b:=by rw[hx2b,hx1b]
 generalize Au d1=F at hx2 hcase fit2 hfs hjp
 obtain⟨d2,c2⟩:=F
 dsimp only at hx2 hcase fit2 hfs hjp
 rcases hcase with⟨hc2,rfl,H'⟩|⟨hc2,pb,rfl,H'⟩
 ·rw[if_pos hc2]at hjp
  have H5:=(H4.useL H').perm (M:=.blk b1 [ptrV x.b,ptrV ly.b,.pointer none,.slice none 0 0,.map (some b0),.int .i64 0] 91::(dkL x2 d2++(.imap b0 .i64 []::lgA ly x.b lg::lgT ly lg::[lgB ly lg]))) (by(refine AC fun ff gg h0 hc ha hpm=>?_;simp only[ha,hc,h0];omega))
  clear H4 H'
  refine⟨_,_,rfl,?_⟩
  refine Hp.st (o:=2) H5 EQ4 gPP rfl rfl (by simp) (cs':=[ptrV x.b,ptrV ly.b,.pointer none,.slice none 0 0,.map (some b0),.int .i64 0]) rfl ?_
  clear H5;intro w6 H
  refine Aw (fun _=>?_) (fun h=>absurd h hc2)
  rw[hjp]
  exact⟨x2,hrw,hx2,.inl ⟨hc2,rfl,H.drop.BQ⟩⟩
 rw[if_neg (fun h=>h hc2)]at hjp
 have H5:=(H4.useL H').perm (M:=.blk b1 [ptrV x.b,ptrV ly.b,.pointer none,.slice none 0 0,.map (some b0),.int .i64 0] 91::(.imap b0 .i64 []::.blk pb (VF x1 b1 many (D9 d2)) 134::lgT ly lg::lgB ly lg::lgA ly x.b lg::dkL x2 d2)) (by(refine AC fun ff gg h0 hc ha hpm=>?_;simp only[ha,hc,h0];omega))
 clear H4 H'
 refine⟨_,_,rfl,?_⟩
 refine Hp.st (o:=2) H5 EQ4 gPP rfl rfl (by simp) (cs':=[ptrV x.b,ptrV ly.b,ptrV pb,.slice none 0 0,.map (some b0),.int .i64 0]) rfl ?_
 clear H5;intro w6 H
 refine Aw (fun h=>absurd rfl h) (fun _=>?_)
 have hpi:=pages_in fit2
 obtain⟨y,hy⟩:∃y:GW,y=⟨b1,[],ly,pb,none,0,[]⟩:=⟨_,rfl⟩
 obtain⟨s,hs⟩:∃s:St,s=⟨d2,many,[],0,D9 d2,lg⟩:=⟨_,rfl⟩
 have hr:Rest y x2 s ⟨none,0,[]⟩ [] 0:=by
  subst hy hs
  exact⟨rfl,hx2,⟨by simp,Nat.zero_le _,hm,by show 0<64;omega,.inl rfl,fun i j f g _ hf _=>by simp at hf⟩,by show D9 d2<=4096;omega,hfs hc2 lg,rfl,Nat.zero_le _⟩
 have H6:Hp B w w6 ((jpL y.jb (ptrV x2.b) (ptrV y.lw.b) (ptrV y.pb) ⟨none,0,[]⟩ (some b0) 0 []++DX y x2 s)++[.imap b0 .i64 []]):=by
  have e1:VF x1 b1 many (D9 d2)=BL y x2 s:=by subst hy hs;rw[VF,BL,hx2b];rfl
  rw[e1]at H
  have H7:=(H.nilS 99 1).nilS 153 1
  subst hy hs
  refine H7.perm ?_
  rw[jpL,DX,hrw]
  have e2:frsL ([]:List (Nat×Nat)) ([]:List Fr)=[]:=rfl
  have e3:fsA ⟨b1,[],ly,pb,none,0,[]⟩ ⟨d2,many,[],0,D9 d2,lg⟩=.own 153 1 none 0 0 []:=rfl
  have e4:EH ([]:List Nat)=[]:=rfl
  have e5:List.zipWith BG ([]:List Nat) ([]:List AP)=[]:=rfl
  have e6:Asn.blk b1 (jcV (ptrV x.b) (ptrV ly.b) (ptrV pb) ⟨none,0,[]⟩ (some b0) 0) 91=.blk b1 [ptrV x.b,ptrV ly.b,ptrV pb,.slice none 0 0,.map (some b0),.int .i64 0] 91:=rfl
  dsimp only
  rw[e2,e3,e4,e5,e6]
  rw[BN,length_nil]
  (refine AC fun ff gg h0 hc ha hpm=>?_;simp only[ha,hc,h0];omega)
 clear H
 have hsd:s.d=d2:=by rw[hs]
 have hsl:s.lg=lg:=by rw[hs]
 have hsp:s.pages=D9 s.d:=by rw[hs]
 have hrec:=jrecover_spec y x2 s ⟨none,0,[]⟩ (some b0) 0 hr hsp (by rw[hsd];exact fit2) (by omega) (by rw[hsl];omega) (by rw[hsl];omega) w6 H6.std1
 have hyb:y.jb=b1:=by rw[hy]
 rw[hyb]at hrec
 refine AL hrec ?_
 rintro e w7 ⟨rfl,y',x',s',p',tt,m,hseat,hR,hm4,hd',hlg',hmany',hpg',hT',H'⟩
 rw[<- hyb]at H'
 have H8:=H6.useL H'
 clear H6 H'
 rw[hsd,hsl]at hR H8 hT'
 rw[hsd,hsl]
 have hd2':s'.d=d2:=hd'.trans hsd
 have hxb':x'.b=x.b:=by rw[hseat.xb,hrw]
 have hx':=hR.dk
 rw[hd2']at hx'
 refine⟨_,rfl,Aw (fun h=>?_) (fun h=>?_)⟩
 ·rw[hjp]
  refine⟨x',hxb',hx',.inl ⟨h,rfl,?_⟩⟩
  have H9:=H8.BQ
  rw[AZ,DX,hd2']at H9
  have H10:=H9.perm (M:=dkL x' d2++(jpL y'.jb (ptrV x'.b) (ptrV y'.lw.b) (ptrV y'.pb) p' (some tt) 0 (DF d2 lg.all).1.Ps++(touA tt (DF d2 lg.all).1.T::BN y' x' s'::fsA y' s'::lgT y'.lw s'.lg::lgB y'.lw s'.lg::lgA y'.lw x'.b s'.lg::frsL y'.fs s'.fs))) (by(refine AC fun ff gg h0 hc ha hpm=>?_;simp only[ha,hc,h0];omega))
  exact H10.BQ
 ·rw[hjp]
  have hjb:y'.jb=b1:=by rw[hseat.jb,hyb]
  refine⟨x',hxb',hx',.inr ⟨h,y',s',p',tt,m,by rw[hjb],hR,hm4,hd2',hlg'.trans hsl,by rw[hmany',hs],by rw[hpg',hsp,hd2',hsd],?_,H8.BQ⟩⟩
  intro n
  rw[hlg',hsl]
  exact hT' n
theorem Jw:∀(l:List Nat)(lo N:Nat),l.Pairwise (· < ·)->(∀n∈l,lo<=n/\n<N)->lo<=N->l.length<=N-lo
 | [],lo,N,_,_,_=>by simp
 |x::r,lo,N,hs,hb,hlo=>by
  have hp:=List.pairwise_cons.1 hs
  have hx:=hb x (.head _)
  have:=Jw r (x+1) N hp.2 (fun n hn=>⟨hp.1 n hn,(hb n (.tail _ hn)).2⟩) (by omega)
  simp only[length_cons];omega
theorem Yx{g:Sl.Pg}{L:Sl.Recs}{st:Nat}(h:Sl.Rep g L st):L.length<=120:=by
 have:=Jw (L.map (·.1)) 0 g.many (pairwise_map.2 h.sorted) (fun n hn=>by
  obtain⟨p,hp,rfl⟩:=mem_map.1 hn
  exact⟨Nat.zero_le _,h.below p hp⟩) (Nat.zero_le _)
 rw[length_map]at this
 have:=h.ok.many
 omega
def rowP(n:Nat)(q:Nat×List UInt8):Chg1:=⟨(n:Int),(q.1:Int),⟨q.2.toArray⟩,false⟩
def DL:Nat->List AP->List Chg1
 |_,[]=>[]
 |n,P::r=>P.1.map (rowP n)++DL (n+1) r
def Az(Ps:List AP):List Chg1:=DL 0 Ps
theorem Qu:∀(Ps:List AP)(n:Nat)(P:AP),DL n (Ps++[P])=DL n Ps++P.1.map (rowP (n+Ps.length))
 | [],n,P=>by simp[DL]
 |Q::r,n,P=>by
  have ih:=Qu r (n+1) P
  simp only[cons_append,DL,ih,append_assoc,length_cons]
  rw[show n+1+r.length=n+(r.length+1) by omega]
theorem Gv(l:List Chg1)(c:Chg1):chC (l++[c])=chC l++[.int .i64 c.page,.int .i64 c.slot,.string c.s,.bool c.gone]:=by rw[MJ];rfl
theorem Hf(jb:Nat)(va vb vc:Value)(p:JP)(t:Option Nat)(wt:Int)(Ps:List AP)(hl:p.bs.length=Ps.length)(hsz:Ps.length<=4096)(w:World)(st:Std w (jpL jb va vb vc p t wt Ps)):
  Calls Tryz.prog 14 #[.pointer (some ⟨jb,0,none⟩)] w fun e w'=>∃a c,e=.returned (.slice a (Az Ps).length c)/\(Az Ps).length<=120*Ps.length/\Hp [] w w' [.own 73 4 a (Az Ps).length c (chC (Az Ps))]:=by
 apply jrows.ok;unfold jrows.vc
 refine AA rfl ⟨_,_,_,(O9 st).ld (o:=3) gSP.agg rfl,?_⟩
 refine Ae.mk (fun m s w'=>∃(k:Nat)(a:Option Addr)(c:Nat),m=Ps.length-k/\k<=Ps.length/\s=((a,(DL 0 (Ps.take k)).length,c),(k:Int))/\(DL 0 (Ps.take k)).length<=120*k/\Hp [] w w' [.own 73 4 a (DL 0 (Ps.take k)).length c (chC (DL 0 (Ps.take k)))]) Ps.length
  ⟨0,none,0,rfl,by omega,rfl,by simp[DL],(Hp.start w).nilS 73 4⟩ ?_
 rintro m s w1 next ⟨k,a,c,rfl,hk,rfl,hcnt,H⟩ hnext
 dsimp only
 refine AO (fun h1=>?_) (fun h1=>?_)
 ·have hkl:k<Ps.length:=by omega
  have hkb:k<p.bs.length:=by omega
  have S:=st.PW H.chg
  obtain⟨ad,had,hldp⟩:=YC S hkb
  refine AA had ⟨⟨by omega,by omega⟩,_,by rw[Int.toNat_natCast,Nat.mul_one];exact hldp,?_⟩
  obtain⟨g,hR,hb⟩:=Kq S (List.getElem?_eq_getElem hkb) (List.getElem?_eq_getElem hkl)
  have hsnoc:DL 0 (Ps.take (k+1))=DL 0 (Ps.take k)++Ps[k].1.map (rowP k):=by
   rw[take_succ_eq_append_getElem hkl,Qu,length_take,Nat.min_eq_left (by omega),Nat.zero_add]
  obtain⟨acc,hacc⟩:∃acc,acc=DL 0 (Ps.take k):=⟨_,rfl⟩
  rw[<- hacc]at hsnoc hcnt H⊢
  generalize hP:Ps[k]=P at hR hsnoc
  have hlen:=Yx hR
  refine AL (Sl.slots_any hR hb) ?_
  rintro e w2 ⟨sa,sc,rfl,H'⟩
  have H2:=H.ext1 H'
  clear H H'
  refine⟨_,_,_,rfl,?_⟩
  refine Ae.mk (fun m s w'=>∃(i:Nat)(a:Option Addr)(c:Nat),m=P.1.length-i/\i<=P.1.length/\s=((a,(acc++(P.1.take i).map (rowP k)).length,c),(i:Int))/\Hp [] w w' [.own 3 1 sa P.1.length sc (Sl.intC (P.1.map (·.1))),.own 73 4 a (acc++(P.1.take i).map (rowP k)).length c (chC (acc++(P.1.take i).map (rowP k)))]) P.1.length
   ⟨0,a,c,rfl,by omega,by simp,by rw[take_zero,map_nil,append_nil];exact H2⟩ ?_
  clear H2 w2
  rintro m s w2 next1 ⟨i,a1,c1,rfl,hi,rfl,H⟩ hnext1
  dsimp only
  refine AO (fun h2=>?_) (fun h2=>?_)
  ·have hil:i<P.1.length:=by omega
   have hat:(Sl.intC (P.1.map (·.1)))[i]? =some (.int .i64 (P.1[i].1:Int)):=by simp[Sl.intC,hil]
   obtain⟨ad2,had2,hld2⟩:=H.ldO (P:=Tryz.prog) (t:=3) EQ4 gInt (.head _) hat
   refine AA had2 ⟨⟨by omega,by omega⟩,_,by rw[Int.toNat_natCast,Nat.mul_one];exact hld2,?_⟩
   have S2:=st.PW H.chg
   obtain⟨g2,hR2,hb2⟩:=Kq S2 (List.getElem?_eq_getElem hkb) (List.getElem?_eq_getElem hkl)
   rw[hP]at hR2
   refine AL (Sl.get_any hR2 hb2 (P.1[i].1:Int)) ?_
   rintro e w3 ⟨rfl,H'⟩
   have H2:=H.ext0 H'
   clear H H'
   have hlk:Sl.lk P.1 (P.1[i].1:Int)=some P.1[i].2:=Sl.lk_some hR2.sorted (getElem_mem hil)
   rw[hlk]
   refine⟨_,_,rfl,?_⟩
   intro b w4 hn
   replace H2:=H2.new (cs:=[.int .i64 (k:Int),.int .i64 (P.1[i].1:Int),.string ⟨P.1[i].2.toArray⟩,.bool false]) EQ4 hn
   clear hn
   have hcl:(acc++(P.1.take i).map (rowP k)).length<=120*k+i:=by rw[length_append,length_map,length_take];omega
   refine Hp.app Yd (by omega) H2.BF EQ4 (Blk.src (n:=1) Ve (H2.blk (.head _)) rfl rfl) (by simp only[maxLen];omega) (by omega) ?_
   clear H2
   intro a5 c5 w5 H
   have esn:acc++(P.1.take (i+1)).map (rowP k)=(acc++(P.1.take i).map (rowP k))++[rowP k P.1[i]]:=by
    rw[take_succ_eq_append_getElem hil,map_append,append_assoc];rfl
   have eln:(acc++(P.1.take (i+1)).map (rowP k)).length=(acc++(P.1.take i).map (rowP k)).length+1:=by rw[esn];simp only[length_append,length_singleton]
   refine⟨AY.2 (by omega),hnext1 (P.1.length-(i+1)) _ _ (by omega) ⟨i+1,a5,c5,rfl,by omega,by rw[eln];rfl,?_⟩⟩
   rw[eln,esn,Gv]
   exact H.del1.Aq
  ·have hie:i=P.1.length:=by omega
   subst hie
   rw[take_length,<- hsnoc]at H⊢
   refine⟨AY.2 (by omega),hnext (Ps.length-(k+1)) _ _ (by omega) ⟨k+1,a1,c1,rfl,by omega,rfl,?_,H.drop⟩⟩
   rw[hsnoc,length_append,length_map]
   omega
 ·have hke:k=Ps.length:=by omega
  subst hke
  rw[take_length]at H hcnt⊢
  exact⟨a,c,rfl,hcnt,H⟩
theorem NF(c:Chg1):(BR c).length=6+(chB c).size:=by
 have:=Vx (chB c)
 simp only[BR,length_append,AU];omega
theorem jlaid_spec(c:Chg1)(hc:¬badC c)(hs:c.s.size<=1000000)(w:World):Calls Tryz.prog 60 #[cgV c] w fun e w'=>e=.returned (.string ⟨(BR c).toArray⟩)/\Hp [] w w' []:=by
 obtain⟨cp,cs,ct,cg⟩:=c
 apply jlaid.ok;unfold jlaid.vc
 unfold badC at hc
 dsimp only at hc hs
 have h1:0<=cp:=Int.not_lt.1 fun h=>hc (.inl h)
 have h2:cp<4096:=Int.not_le.1 fun h=>hc (.inr (.inl h))
 have h3:0<=cs:=Int.not_lt.1 fun h=>hc (.inr (.inr (.inl h)))
 have h4:cs<120:=Int.not_le.1 fun h=>hc (.inr (.inr (.inr (.inl h))))
 obtain⟨pn,rfl⟩:∃n:Nat,cp=n:=⟨cp.toNat,by omega⟩
 obtain⟨sn,rfl⟩:∃n:Nat,cs=n:=⟨cs.toNat,by omega⟩
 intro b w1 hn
 have H:=(Hp.start w).new (cs:=[.int .i64 (pn:Int),.int .i64 (sn:Int),.string ct,.bool cg]) EQ4 hn
 clear hn
 have key:∀(S:ByteArray)(g:Nat)(w2:World),S.size<=1000000->g<=1->Hp [] w w2 [.blk b [.int .i64 (pn:Int),.int .i64 (sn:Int),.string S,.bool cg] 73]->
   ∃i,Ld Tryz.prog 3 w2.drew ⟨b,0,none⟩ (.int .i64 i)/\∃i_1,Ld Tryz.prog 3 w2.drew ⟨b,1,none⟩ (.int .i64 i_1)/\∃s,Ld Tryz.prog 9 w2.drew ⟨b,2,none⟩ (.string s)/\∃s_1,Ld Tryz.prog 9 w2.drew ⟨b,2,none⟩ (.string s_1)/\
    AB Tryz.prog 57 [.int .i64 i,.int .i64 2] w2.drew fun e w'=>∃s_2,e=.returned (.string s_2)/\Ld Tryz.prog 9 w' ⟨b,2,none⟩ (.string s_1)/\Ld Tryz.prog 9 w' ⟨b,2,none⟩ (.string s)/\Ld Tryz.prog 3 w' ⟨b,1,none⟩ (.int .i64 i_1)/\
    AB Tryz.prog 57 [.int .i64 i_1,.int .i64 1] w' fun e w'=>∃s_3,e=.returned (.string s_3)/\Ld Tryz.prog 9 w' ⟨b,2,none⟩ (.string s_1)/\Ld Tryz.prog 9 w' ⟨b,2,none⟩ (.string s)/\((s_2.size+s_3.size:Nat):Int)<=9223372036854775807/\
    AB Tryz.prog 57 [.int .i64 (g:Int),.int .i64 1] w' fun e w'=>∃s_4,e=.returned (.string s_4)/\Ld Tryz.prog 9 w' ⟨b,2,none⟩ (.string s_1)/\Ld Tryz.prog 9 w' ⟨b,2,none⟩ (.string s)/\(((s_2++s_3).size+s_4.size:Nat):Int)<=9223372036854775807/\
    AB Tryz.prog 57 [.int .i64 (s.size:Int),.int .i64 2] w' fun e w'=>∃s_5,e=.returned (.string s_5)/\Ld Tryz.prog 9 w' ⟨b,2,none⟩ (.string s_1)/\(((s_2++s_3++s_4).size+s_5.size:Nat):Int)<=9223372036854775807/\
     (((s_2++s_3++s_4++s_5).size+s_1.size:Nat):Int)<=9223372036854775807/\
     (Ending.returned (.string (s_2++s_3++s_4++s_5++s_1))=.returned (.string ⟨(be (pn:Int) 2++(be (sn:Int) 1++(be (g:Int) 1++(be (S.size:Int) 2++S.data.toList)))).toArray⟩)/\Hp [] w w' []):=by
  intro S g w2 hS hg H
  refine⟨_,H.drew.ld (o:=0) EQ4 gInt (.head _) rfl,_,H.drew.ld (o:=1) EQ4 gInt (.head _) rfl,_,H.drew.ld (o:=2) EQ4 gStr (.head _) rfl,_,H.drew.ld (o:=2) EQ4 gStr (.head _) rfl,?_⟩
  refine AL (IZ pn (by omega) 2 (by omega) _) ?_
  rintro e w3 ⟨rfl,H'⟩
  have H3:=H.drew.ext0 H'
  clear H H'
  refine⟨_,rfl,H3.ld (o:=2) EQ4 gStr (.head _) rfl,H3.ld (o:=2) EQ4 gStr (.head _) rfl,H3.ld (o:=1) EQ4 gInt (.head _) rfl,?_⟩
  refine AL (IZ sn (by omega) 1 (by omega) _) ?_
  rintro e w4 ⟨rfl,H'⟩
  have H4:=H3.ext0 H'
  clear H3 H'
  refine⟨_,rfl,H4.ld (o:=2) EQ4 gStr (.head _) rfl,H4.ld (o:=2) EQ4 gStr (.head _) rfl,by rw[Cj,Cj,AU,AU];omega,?_⟩
  refine AL (IZ g (by omega) 1 (by omega) _) ?_
  rintro e w5 ⟨rfl,H'⟩
  have H5:=H4.ext0 H'
  clear H4 H'
  refine⟨_,rfl,H5.ld (o:=2) EQ4 gStr (.head _) rfl,H5.ld (o:=2) EQ4 gStr (.head _) rfl,by rw[C9,Cj,Cj,length_append,AU,AU,AU];omega,?_⟩
  refine AL (IZ S.size (by omega) 2 (by omega) _) ?_
  rintro e w6 ⟨rfl,H'⟩
  have H6:=H5.ext0 H'
  clear H5 H'
  refine⟨_,rfl,H6.ld (o:=2) EQ4 gStr (.head _) rfl,by rw[C9,C9,Cj,Cj,length_append,length_append,AU,AU,AU,AU];omega,by rw[C9,C9,C9,Cj,length_append,length_append,length_append,AU,AU,AU,AU];omega,?_,H6.drop⟩
  have e9:∀x:List UInt8,(⟨x.toArray⟩:ByteArray)++S=⟨(x++S.data.toList).toArray⟩:=fun x=>by
   have:=C9 x S.data.toList
   rw[QJ]at this
   exact this
  simp only[C9,e9,append_assoc]
 refine⟨_,H.ld (o:=3) EQ4 EN (.head _) rfl,CE (fun h=>?_) (fun h=>?_)⟩
 ·refine Hp.st (o:=2) H EQ4 gStr rfl rfl (by simp) (cs':=[.int .i64 (pn:Int),.int .i64 (sn:Int),.string ⟨#[]⟩,.bool cg]) rfl ?_
  clear H;intro w2 H
  subst h
  exact key ⟨#[]⟩ 1 w2 (by show(0:Nat)<=1000000;omega) (by omega) H
 ·subst h
  exact key ct 0 w1 hs (by omega) H
open Go.Proofs Go.Sort Go.Maps Go.Shelf
theorem keysN_spec(mb:Option Nat)(w:World):Calls Tryz.prog 49 #[.map mb] w fun e w'=>
  ∃q,e=.returned (.func (.func 86) #[] #[.pointer (some ⟨q,0,none⟩)])/\Hp [] w w' [.blk q [.map mb] 86]:=by
 refine Calls.mono (callsIn_wide.1 (AnyZI.keys_in Zz Fence.wide 5 trivial rfl mb w)) ?_
 rintro e w' ⟨rfl,rfl⟩
 exact⟨_,rfl,(Hp.start w).new (w':=w) ⟨rfl,rfl,rfl,rfl⟩ ⟨rfl,rfl⟩⟩
theorem sortedN_spec(q b:Nat)(al:List (Int×Value))(w:World)(hq:Blk w q [.map (some b)] 86)(hm:MapAt (ET .i64) w b al)(l:List Int)(hp:l.Perm (al.map (·.1)))
  (hl:l.Pairwise fun x y=>x<y) (hs:∀x∈l,-9223372036854775808<=x/\x<=9223372036854775807) (hmax:al.length*8<=140737488355328):
  Calls Tryz.prog 48 #[.func (.func 86) #[] #[.pointer (some ⟨q,0,none⟩)]] w fun e w'=>
   ∃a c,e=.returned (.slice a l.length c)/\Hp [] w w' [.own 3 1 a l.length c (l.map (.int .i64))]:=by
 have hnd:(al.map (·.1)).Nodup:=hp.nodup_iff.1 (hl.imp fun h e=>by omega)
 have hll:al.length<=maxLen:=by simp only[maxLen];omega
 obtain⟨D,h1,h2,dl,rfl,h3⟩:=Za (P:=Tryz.prog) (k:=3) hm hnd hll (fun s=>.int .i64 s) (fun x y h=>by injection h) (fun p hpm=>keyOf_int_mk (by kernel_rfl) (by
  have:=hs _ (hp.mem_iff.2 (mem_map.2 ⟨p,hpm,rfl⟩))
  simp only[Lit.wf,Bool.and_eq_true,decide_eq_true_eq]
  exact AY.2 this))
 have hqlt:=hq.lt
 have hseq:SeqGives Fence.wide 2 Tryz.prog 86 #[.pointer (some ⟨q,0,none⟩)] encZ (fun ss=>ss.Perm (intKeys (.map dl))) (Maps.size (.map dl)) w:=
  AnyZI.keys_gives (ρ:=aN) {Zz with} Fence.wide _ trivial rfl (by omega) q b al.length (.map dl) w hqlt (hq.cell rfl) h1
 have cS:=AnyZI.sorted_in YB Fence.wide 5 trivial trivial trivial trivial rfl (by omega) (aI _) (enters_of Tryz.func85 (by kernel_rfl) rfl) 86 #[.pointer (some ⟨q,0,none⟩)] trivial (enters_of Tryz.func86 (by kernel_rfl) rfl) _ _ (by rw[h2];exact hll) (by rw[h2];exact hmax) w hseq
 change CallsIn _ _ Tryz.prog 48 _ _ _ at cS
 refine Calls.mono (callsIn_wide.1 cS) ?_
 rintro e w' ⟨v,ss,rfl,hS,hrow,hnil,hb⟩
 have hperm:ss.Perm l:=by
  refine hS.trans ?_
  have e1:intKeys (.map dl)=dl.map fun p=>Go.intOf p.1:=rfl
  rw[e1]
  refine(h3.map _).trans ?_
  rw[map_map]
  have e2:((fun p:Lit×DataW Unit=>Go.intOf p.1)∘fun p:Int×Value=>(Lit.int IntKind.i64 p.1,DataW.nil))=(·.1):=rfl
  rw[e2]
  exact hp.symm
 have hsort:ss.mergeSort (fun x y=>decide (x<=y))=l:=by
  have tr:∀a b c:Int,decide (a<=b)=true->decide (b<=c)=true->decide (a<=c)=true:=fun a b c h1 h2=>by simp only[decide_eq_true_eq]at*;omega
  have to:∀a b:Int,(decide (a<=b)||decide (b<=a))=true:=fun a b=>by simp only[Bool.or_eq_true,decide_eq_true_eq];omega
  refine List.Perm.eq_of_pairwise (le:=fun a b=>decide (a<=b)=true) (fun a b _ _ h1 h2=>?_) (List.pairwise_mergeSort tr to ss) (hl.imp fun h=>?_) ((List.mergeSort_perm ss _).trans hperm)
  ·simp only[decide_eq_true_eq]at h1 h2;omega
  ·rw[decide_eq_true_eq];omega
 have hlen:ss.length=l.length:=hperm.length_eq
 rw[hsort,hlen]at hrow
 obtain⟨a,c,rfl,H⟩:=aJ hb hrow
 exact⟨a,c,rfl,H⟩
structure NW(T:Tou)(l:List Chg1)(L:List Int):Prop where
 rise:L.Pairwise (· < ·)
 mem:∀n,n∈L↔∃c∈l,c.page=n/\T n=0
def frS(T:Tou)(M:Tou)(c:Chg1):Tou:=if T c.page=0 then M.up c.page else M
theorem Y7(T:Tou):∀(l:List Chg1)(M:Tou)(n:Int),0<l.foldl (frS T) M n↔0<M n\/∃c∈l,c.page=n/\T n=0
 | [],M,n=>by simp
 |c::r,M,n=>by
  rw[foldl_cons,Y7 T r]
  have h1:0<frS T M c n↔0<M n\/(c.page=n/\T n=0):=by
   unfold frS
   split
   ·rename_i h
    unfold Tou.up
    split
    ·rename_i h2
     subst h2
     exact⟨fun _=>.inr ⟨rfl,h⟩,fun _=>Nat.succ_pos _⟩
    ·rename_i h2
     exact⟨.inl,fun h3=>h3.elim id fun h4=>absurd h4.1.symm h2⟩
   ·rename_i h
    exact⟨.inl,fun h3=>h3.elim id fun h4=>absurd (h4.1▸h4.2) h⟩
  rw[h1]
  constructor
  ·rintro((h|h)|⟨d,hd,h⟩)
   ·exact .inl h
   ·exact .inr ⟨c,.head _,h⟩
   ·exact .inr ⟨d,.tail _ hd,h⟩
  ·rintro(h|⟨d,hd,h⟩)
   ·exact .inl (.inl h)
   ·rcases mem_cons.1 hd with rfl|hd
    ·exact .inl (.inr h)
    ·exact .inr ⟨d,hd,h⟩
theorem frS_le(T:Tou)(M:Tou)(c:Chg1){k:Nat}(h:∀n,M n<=k):∀n,frS T M c n<=k+1:=fun n=>by
 have:=h n
 unfold frS
 split
 ·unfold Tou.up
  split<;>omega
 ·omega
theorem LJ{zs:List Int}(h:zs.Nodup):(Eh zs).Pairwise (· < ·):=by
 have tr:∀a b c:Int,decide (a<=b)=true->decide (b<=c)=true->decide (a<=c)=true:=fun a b c h1 h2=>by simp only[decide_eq_true_eq]at*;omega
 have to:∀a b:Int,(decide (a<=b)||decide (b<=a))=true:=fun a b=>by simp only[Bool.or_eq_true,decide_eq_true_eq];omega
 have h1:=List.pairwise_mergeSort tr to zs
 have h2:(Eh zs).Nodup:=(List.mergeSort_perm zs _).nodup_iff.2 h
 rw[List.nodup_iff_pairwise_ne]at h2
 exact(List.Pairwise.and h1 h2).imp fun h=>by
  have:=h.1
  simp only[decide_eq_true_eq]at this
  have:=h.2
  omega
theorem tou_len{T:Tou}{l:List (Int×Nat)}(h:TouL T l)(hk:∀n,0<T n->0<=n/\n<65536):l.length<=65536:=by
 have h1:(Eh (l.map (·.1))).Pairwise (· < ·):=LJ h.nodup
 have h2:=Jw ((Eh (l.map (·.1))).map Int.toNat) 0 65536 (pairwise_map.2 (h1.imp_of_mem fun{a b} ha hb hab=>by
   have e1:=hk a ((h.keys a).1 (EL.1 ha))
   have e2:=hk b ((h.keys b).1 (EL.1 hb))
   omega)) (fun n hn=>by
   obtain⟨z,hz,rfl⟩:=mem_map.1 hn
   have e1:=hk z ((h.keys z).1 (EL.1 hz))
   omega) (Nat.zero_le _)
 rw[length_map,FB,length_map]at h2
 omega
theorem Wj{w:World}{tb:Nat}{T:Tou}(h:(touA tb T).ok w)(hk:∀n,0<T n->0<=n/\n<65536):
  ∃L:List Int,L.Pairwise (· < ·)/\(∀n,n∈L↔0<T n)/\L.length<=65536/\∀(w':World),(touA tb T).ok w'->w'=w->AB Tryz.prog 49 [.map (some tb)] w fun e w1=>∃v,e=.returned v/\
   ∀{R:Ending->World->Prop},(∀(a:Option Addr)(c:Nat)(w2:World),Hp [] w w2 [.own 3 1 a L.length c (L.map (.int .i64))]->R (.returned (.slice a L.length c)) w2)->AB Tryz.prog 48 [v] w1 R:=by
 obtain⟨l,hl,hm⟩:=Vt h
 have hlen:=tou_len hl hk
 refine⟨Eh (l.map (·.1)),LJ hl.nodup,fun n=>by rw[EL,hl.keys],by rw[FB,length_map];exact hlen,fun w' _ _=>?_⟩
 refine AL (keysN_spec (some tb) w) ?_
 rintro e w1 ⟨q,rfl,H⟩
 refine⟨_,rfl,fun{R} hR=>?_⟩
 have hm1:MapAt (ET .i64) w1 tb (mapV cntV l):=hm.chg H.chg (by simp)
 have hk1:(mapV cntV l).map (·.1)=l.map (·.1):=by simp[mapV,map_map,Function.comp_def]
 refine AL (sortedN_spec q tb (mapV cntV l) w1 (H.blk (.head _)) hm1 (Eh (l.map (·.1))) (by rw[hk1];exact List.mergeSort_perm _ _) (LJ hl.nodup) (fun x hx=>?_) ?_) ?_
 ·have:=hk x ((hl.keys x).1 (EL.1 hx));omega
 ·have:(mapV cntV l).length=l.length:=by simp[mapV]
  omega
 ·rintro e w2 ⟨a,c,rfl,H'⟩
  exact hR a c w2 ((H.ext1 H').del1.JW)
theorem jfresh_spec(jb:Nat)(va vb vc:Value)(p:JP)(tt:Nat)(wt:Int)(Ps:List AP)(T:Tou)(ca:Option Addr)(cc:Nat)(l:List Chg1)(hll:l.length<=100000000)(hpg:∀c∈l,0<=c.page/\c.page<4096)(w:World)(st:Std w (jpL jb va vb vc p (some tt) wt Ps))(stt:Std w [touA tt T])(hC:Cells w ca (chC l)):
  Calls Tryz.prog 55 #[.pointer (some ⟨jb,0,none⟩),.slice ca l.length cc] w fun e w'=>∃(L:List Int)(a:Option Addr)(c:Nat),NW T l L/\L.length<=65536/\e=.returned (.slice a L.length c)/\Hp [] w w' [.own 3 1 a L.length c (L.map (.int .i64))]:=by
 apply jfresh.ok;unfold jfresh.vc
 intro b w1 hn
 have H:=(Hp.start w).newI EQ4 .i64 hn
 clear hn
 refine Ae.mk (fun m s w'=>∃(k:Nat)(M:Tou),m=l.length-k/\k<=l.length/\s=(k:Int)/\M=(l.take k).foldl (frS T) (fun _=>0)/\(∀n,M n<=k)/\Hp [] w w' [touA b M]) l.length ⟨0,fun _=>0,rfl,by omega,rfl,rfl,fun _=>Nat.le_refl _,Hp.UR TouL.nil H⟩ ?_
 clear H w1
 rintro m s w1 next ⟨k,M,rfl,hk,rfl,hM,hle,H⟩ hnext
 refine AO (fun h1=>?_) (fun h1=>?_)
 ·have hkl:k<l.length:=by omega
  obtain⟨ad,had,hld⟩:=Vo (hC.chg H.chg (by simp)) hkl
  have hst:(l.take (k+1)).foldl (frS T) (fun _=>0)=frS T M l[k]:=by
   rw[take_succ_eq_append_getElem hkl,foldl_append,<- hM];rfl
  generalize l[k]=c at hld hst
  obtain⟨cp,cs,ct,cg⟩:=c
  refine AA had ⟨⟨by omega,by omega⟩,_,_,_,_,by rw[Int.toNat_natCast];exact hld,?_⟩
  intro b2 w2 hn
  replace H:=H.new (cs:=[.int .i64 0,.int .i64 0,.string ⟨#[]⟩,.bool false]) EQ4 hn
  clear hn
  refine Hp.stA (o:=0) H EQ4 Jz (vs:=[.int .i64 cp,.int .i64 cs,.string ct,.bool cg]) rfl rfl (by simp) (cs':=[.int .i64 cp,.int .i64 cs,.string ct,.bool cg]) rfl ?_
  clear H;intro w3 H
  have S:=st.PW H.drew.chg
  have SH:=Hp.Ap (stt.PW H.drew.chg)
  refine AA rfl ⟨_,(O9 S).ld (o:=4) gMSP.agg rfl,_,H.drew.ld (o:=0) EQ4 gInt (.head _) rfl,_,lkT SH EQ4 (.head _) cp,?_⟩
  refine AO (fun h2=>?_) (fun h2=>?_)
  ·have h0:T cp=0:=by omega
   have e1:frS T M ⟨cp,cs,ct,cg⟩=M.up cp:=if_pos h0
   obtain⟨ml,hml,H2⟩:=Hp.ZJ H.drew.Aq
   have hMc:=hle cp
   refine⟨_,H.drew.ld (o:=0) EQ4 gInt (.head _) rfl,_,H2.lkI gMII EQ4 (.head _) (Md hml cp),AY.2 (by omega),?_⟩
   refine H2.mupI gMII EQ4 ?_
   intro w4 H3
   have e2:Value.int .i64 ((M cp:Int)+1)=cntV (M cp+1):=by rw[cntV];congr 1
   rw[e2,Ia]at H3
   have H4:=(Hp.UR (hml.up cp) H3).JW
   rw[e1]at hst
   exact⟨AY.2 (by omega),hnext (l.length-(k+1)) _ _ (by omega) ⟨k+1,M.up cp,rfl,by omega,by omega,hst.symm,fun n=>by have:=frS_le T M ⟨cp,cs,ct,cg⟩ hle n;rw[e1]at this;exact this,H4⟩⟩
  ·have h0:T cp≠0:=by omega
   have e1:frS T M ⟨cp,cs,ct,cg⟩=M:=if_neg h0
   rw[e1]at hst
   exact⟨AY.2 (by omega),hnext (l.length-(k+1)) _ _ (by omega) ⟨k+1,M,rfl,by omega,by omega,hst.symm,fun n=>by have:=hle n;omega,H.drew.drop⟩⟩
 ·have hke:k=l.length:=by omega
  subst hke
  rw[take_length]at hM
  have hpos:=Y7 T l (fun _=>0)
  rw[<- hM]at hpos
  obtain⟨L,hL1,hL2,hL3,hL4⟩:=Wj (H.ok _ (.head _)) (fun n hn=>by
   rcases(hpos n).1 hn with h|⟨c,hc,rfl,_⟩
   ·exact absurd h (Nat.lt_irrefl _)
   ·have:=hpg c hc;omega)
  have hc:=hL4 w1 (H.ok _ (.head _)) rfl
  refine⟨hc.1.mono ?_⟩
  rintro e w2 ⟨v,rfl,hR⟩
  refine⟨v,rfl,hR fun a c w3 H'=>⟨_,_,_,rfl,L,a,c,⟨hL1,fun n=>?_⟩,hL3,rfl,(H.ext1 H').JW⟩⟩
  rw[hL2,hpos]
  exact⟨fun h=>h.elim (fun h=>absurd h (Nat.lt_irrefl _)) id,.inr⟩
def imgR(n:Int)(g:Sl.Pg):ByteArray:=⟨(112::(be n 2++g.bs)).toArray⟩
def N7(Ps:List AP)(L:List Int)(rs:List ByteArray):Prop:=∃G:Int->Sl.Pg,(∀n∈L,Sl.Rep (G n) (CO Ps n).1 (CO Ps n).2)/\rs=L.map fun n=>imgR n (G n)
theorem N7.snoc{Ps:List AP}{L:List Int}{rs:List ByteArray}(h:N7 Ps L rs){n:Int}(hn:n∉L){g:Sl.Pg}(hg:Sl.Rep g (CO Ps n).1 (CO Ps n).2):N7 Ps (L++[n]) (rs++[imgR n g]):=by
 obtain⟨G,h1,rfl⟩:=h
 refine⟨fun m=>if m=n then g else G m,fun m hm=>?_,?_⟩
 ·by_cases e:m=n
  ·subst e
   simp only[if_true];exact hg
  ·simp only[if_neg e]
   rcases mem_append.1 hm with h2|h2
   ·exact h1 m h2
   ·exact absurd (mem_singleton.1 h2) e
 ·rw[map_append]
  congr 1
  ·refine List.map_congr_left fun m hm=>?_
   have e:m≠n:=fun e=>hn (e▸hm)
   simp only[if_neg e]
  ·simp
def DU:List Chg1->List UInt8->List (List UInt8)
 | [],b=>[101::b]
 |c::r,b=>if 60000<b.length+(BR c).length then(100::b)::DU r (BR c)else DU r (b++BR c)
def CZ(l:List Chg1):List ByteArray:=(DU l []).map fun b=>⟨b.toArray⟩
def BD(lg:Lg)(rs:List ByteArray):Lg:=rs.foldl (fun l s=>(l.append s).1) lg
theorem KF(lg:Lg)(rs:List ByteArray)(s:ByteArray):BD lg (rs++[s])=((BD lg rs).append s).1:=by rw[BD,foldl_append];rfl
structure App(lg lg':Lg)(rs:List ByteArray):Prop where
 b:lg'.b=rs.foldl bT lg.b
 all:lg'.all=lg.all++rs
 name:lg'.name=lg.name
 mark:lg'.mark=lg.mark
 firm:lg'.firm=lg.firm
 many:lg'.many=lg.many
 code:lg'.code=lg.code
theorem Fp(lg:Lg):∀(rs:List ByteArray),(∀s∈rs,s.size<=65536)->App lg (BD lg rs) rs:=by
 intro rs
 induction rs generalizing lg with
 |nil=>intro _;exact⟨rfl,by simp[BD],rfl,rfl,rfl,rfl,rfl⟩
 |cons s r ih=>
  intro h
  have e:(lg.append s).1= {lg with b:=bT lg.b s,all:=lg.all++[s]}:=by
   rw[Lg.append,if_neg (by have:=h s (.head _);omega)]
  have h1:=ih ({lg with b:=bT lg.b s,all:=lg.all++[s]}) (fun t ht=>h t (.tail _ ht))
  have e2:BD lg (s::r)=BD {lg with b:=bT lg.b s,all:=lg.all++[s]} r:=by
   rw[BD,foldl_cons,e];rfl
  rw[e2]
  exact⟨h1.b,by rw[h1.all];simp,h1.name,h1.mark,h1.firm,h1.many,h1.code⟩
theorem GL(b:List UInt8)(s:ByteArray):(bT b s).length=b.length+s.size+4:=by
 have:=Vx s
 rw[bT,length_append,length_append,AU];omega
theorem Io:∀(rs:List ByteArray)(b:List UInt8),(∀s∈rs,s.size<=65536)->(rs.foldl bT b).length<=b.length+rs.length*65540
 | [],b,_=>by simp
 |s::r,b,h=>by
  have h1:=Io r (bT b s) (fun t ht=>h t (.tail _ ht))
  have h2:=h s (.head _)
  rw[GL]at h1
  rw[foldl_cons,length_cons]
  omega
def BJ(Ps:List AP)(L:List Int):List AP:=L.foldl (fun Q n=>CS Q (n.toNat+1)) Ps
theorem RX(Ps:List AP)(m:Nat)(n:Int):CO (CS Ps m) n=CO Ps n:=by
 rw[CO,CO,UQ]
 split
 ·rfl
 ·rename_i h
  rw[List.getElem?_eq_none (l:=Ps) (by omega)]
theorem F6(L:List Int):∀(Ps:List AP)(n:Int),CO (BJ Ps L) n=CO Ps n:=by
 induction L with
 |nil=>intro Ps n;rfl
 |cons m r ih=>
  intro Ps n
  show CO (BJ (CS Ps (m.toNat+1)) r) n=_
  rw[ih,RX]
theorem growAll_len(L:List Int):∀(Ps:List AP),Ps.length<=4096->(∀n∈L,0<=n/\n<4096)->(BJ Ps L).length<=4096:=by
 induction L with
 |nil=>intro Ps h _;exact h
 |cons m r ih=>
  intro Ps h hL
  have:=hL m (.head _)
  exact ih (CS Ps (m.toNat+1)) (by rw[EY];omega) fun n hn=>hL n (.tail _ hn)
theorem Jd(Ps:List AP):∀(l:List Chg1)(o:Ord)(la:Last){r:Ord×Last},BU Ps l o la=some r->∀c∈l,¬badC c
 | [],_,_,_,_=>by simp
 |c::r,o,la,z,h=>by
  rw[BU]at h
  split at h
  ·cases h
  rename_i hb
  intro d hd
  rcases mem_cons.1 hd with rfl|hd
  ·exact hb
  ·split at h
   ·split at h
    ·cases h
    ·exact Jd Ps r _ _ h d hd
   ·split at h
    ·cases h
    ·exact Jd Ps r _ _ h d hd
theorem Hr{Ps:List AP}{l:List Chg1}{M:TM}(h:CU Ps l=some M):∀c∈l,¬badC c:=by
 unfold CU at h
 split at h
 ·cases h
 ·rename_i hf
  exact Jd Ps l _ _ hf
theorem I7{c:Chg1}(h:¬badC c):(BR c).length<=3606:=by
 rw[NF]
 have:(chB c).size<=3600:=by
  unfold chB
  split
  ·exact Nat.zero_le _
  ·rename_i hg
   by_cases h2:c.s.size<=3600
   ·exact h2
   ·exact absurd (.inr (.inr (.inr (.inr ⟨by simpa using hg,by omega⟩)))) h
 omega
theorem Ii:∀(l:List Chg1)(b:List UInt8),b.length<=60000->(∀c∈l,¬badC c)->(DU l b).length<=l.length+1/\∀x∈DU l b,x.length<=60001
 | [],b,hb,_=>⟨by simp[DU],fun x hx=>by
   rw[DU,mem_singleton]at hx
   rw[hx,length_cons];omega⟩
 |c::r,b,hb,h=>by
  have hc:=I7 (h c (.head _))
  have hr:∀d∈r,¬badC d:=fun d hd=>h d (.tail _ hd)
  rw[DU]
  split
  ·obtain⟨h1,h2⟩:=Ii r (BR c) (by omega) hr
   refine⟨by rw[length_cons,length_cons];omega,fun x hx=>?_⟩
   rcases mem_cons.1 hx with rfl|hx
   ·rw[length_cons];omega
   ·exact h2 x hx
  ·rename_i hle
   obtain⟨h1,h2⟩:=Ii r (b++BR c) (by rw[length_append];omega) hr
   exact⟨by rw[length_cons];omega,h2⟩
def GY(lg:Lg)(Ps:List AP)(T:Tou)(wt:Int)(l:List Chg1)(lg':Lg)(Ps':List AP)(T':Tou)(wt':Int)(code:Int):Prop:=
 (lg.code≠0/\code=190/\lg'=lg/\Ps'=Ps/\T'=T/\wt'=wt)\/(lg.code=0/\CU Ps l=none/\code=180/\lg'=lg/\Ps'=Ps/\T'=T/\wt'=wt)\/
 (lg.code=0/\code=0/\∃(M:TM)(L:List Int)(rs:List ByteArray),CU Ps l=some M/\NW T l L/\N7 Ps L rs/\lg'=BD lg (rs++CZ l)/\Ps'=layP lg'.all.length (BJ Ps L) M/\T'=upP T M/\wt'=wt+1)
theorem JA{d:Dk}(h:0<=d.size Aa)(l:Lg):HSz d l:=by
 obtain⟨k,hk⟩:=Dx.1 h
 exact⟨h,Dx.2 ⟨k,by rw[(Fq _ l).find];exact hk⟩⟩
theorem Z7(c:UInt8)(b:List UInt8):(((ByteArray.mk #[c]).size+(ByteArray.mk b.toArray).size:Nat):Int)=((1+b.length:Nat):Int):=by
 have h:=Cj b
 rw[h];rfl
theorem Ol{B:List Nat}{w w1:World}{X:List Asn}{y:GW}{x:DW}{s:St}{p:JP}{tt:Nat}{wt:Int}{Ps:List AP}{T:Tou}(H:Hp B w w1 (AZ y x s p tt wt Ps T++X))(r:ByteArray)(hb:s.lg.b.length+70000<=1000000000)(ha:s.lg.all.length<=1000000)(hr:r.size<=65536){R:Ending->World->Prop}
  (k:∀(lw:LW)(w2:World),lw.b=y.lw.b->Hp B w w2 (AZ {y with lw:=lw} x {s with lg:=(s.lg.append r).1} p tt wt Ps T++X)->R (.returned (.tuple #[.int .i64 ((s.lg.append r).1.all.length:Int),.int .i64 0])) w2):
  AB Tryz.prog 56 [.pointer (some ⟨y.lw.b,0,none⟩),.string r] w1 R:=by
 have hc:(s.lg.append r).2=0:=by rw[Lg.append,if_neg (by omega)]
 have H1:Hp B w w1 ([lgA y.lw x.b s.lg,lgT y.lw s.lg,lgB y.lw s.lg]++(jpL y.jb (ptrV x.b) (ptrV y.lw.b) (ptrV y.pb) p (some tt) wt Ps++(touA tt T::BN y x s::fsA y s::(frsL y.fs s.fs++dkL x s.d))++X)):=H.perm (by rw[AZ,DX];(refine AC fun ff gg h0 hc ha hpm=>?_;simp only[ha,hc,h0];omega))
 refine AL (lappend_spec y.lw x.b s.lg r hb ha w1 H1.std1) ?_
 rintro e w2 ⟨⟨i,rfl,hi⟩,lw,hlw,H'⟩
 rw[hc,hi hc]
 refine k lw w2 hlw ?_
 have H2:=H1.useL H'
 refine H2.perm ?_
 rw[AZ,DX]
 have e1:ptrV ({y with lw:=lw}:GW).lw.b=ptrV y.lw.b:=by show ptrV lw.b=_;rw[hlw]
 have e2:BN {y with lw:=lw} x {s with lg:=(s.lg.append r).1}=BN y x s:=rfl
 have e3:fsA {y with lw:=lw} {s with lg:=(s.lg.append r).1}=fsA y s:=rfl
 rw[e1,e2,e3]
 (refine AC fun ff gg h0 hc ha hpm=>?_;simp only[ha,hc,h0];omega)
theorem Rest.log{y:GW}{x:DW}{s:St}{p:JP}{Ps:List AP}{n:Nat}(h:Rest y x s p Ps n)(lw:LW)(lg:Lg):Rest {y with lw:=lw} x {s with lg:=lg} p Ps n:=
 ⟨h.fs,h.dk,⟨h.idle.fr,h.idle.len,h.idle.many,h.idle.hand,h.idle.turn,h.idle.nd⟩,h.pages,JA h.sz.1 lg,h.bs,h.few⟩
theorem GV(y:GW)(x:DW)(s:St)(p:JP)(tt:Nat)(wt:Int)(Ps:List AP)(T:Tou)(m:Nat)(hr:Rest y x s p Ps m)(hwt:0<=wt/\wt<=1000000)(hT:∀n,T n<=100000000)(hlb:s.lg.b.length<=100000000)(hla:s.lg.all.length<=500000)
  (ca:Option Addr) (cc:Nat) (l:List Chg1) (hll:l.length<=1000) (hls:∀c∈l,c.s.size<=1000000) (w:World) (st:Std w (AZ y x s p tt wt Ps T)) (hC:∀W,Chg (feet (AZ y x s p tt wt Ps T)) w W->Cells W ca (chC l)):
  Calls Tryz.prog 28 #[.pointer (some ⟨y.jb,0,none⟩),.slice ca l.length cc] w fun e w'=>∃(code:Int)(lg':Lg)(Ps':List AP)(T':Tou)(wt':Int),GY s.lg Ps T wt l lg' Ps' T' wt' code/\e=.returned (.int .i64 code)/\
   ∃(lw:LW)(p':JP),lw.b=y.lw.b/\Rest {y with lw:=lw} x {s with lg:=lg'} p' Ps' m/\Hp (feet (AZ y x s p tt wt Ps T)) w w' (AZ {y with lw:=lw} x {s with lg:=lg'} p' tt wt' Ps' T'):=by
 apply jcommit.ok;unfold jcommit.vc
 have H:=Hp.Ap st
 generalize hB:feet (AZ y x s p tt wt Ps T)=B at H hC⊢
 refine AA rfl ⟨_,H.ld (o:=1) EQ4 gPL (Eg ..) rfl,?_⟩
 have K1:Hp B w w ([lgA y.lw x.b s.lg]++(jpL y.jb (ptrV x.b) (ptrV y.lw.b) (ptrV y.pb) p (some tt) wt Ps++(touA tt T::BN y x s::fsA y s::lgT y.lw s.lg::lgB y.lw s.lg::(frsL y.fs s.fs++dkL x s.d)))):=H.perm (by rw[AZ,DX];(refine AC fun ff gg h0 hc ha hpm=>?_;simp only[ha,hc,h0];omega))
 refine AL (J5 y.lw x.b s.lg w K1.std1) ?_
 rintro e w1 ⟨rfl,H'⟩
 replace H:=H.ext0 H'
 clear K1 H'
 have same:∀{w':World}{code:Int},GY s.lg Ps T wt l s.lg Ps T wt code->Hp B w w' (AZ y x s p tt wt Ps T)->∃(code':Int)(lg':Lg)(Ps':List AP)(T':Tou)(wt':Int),GY s.lg Ps T wt l lg' Ps' T' wt' code'/\Ending.returned (.int .i64 code)=.returned (.int .i64 code')/\
   ∃(lw:LW)(p':JP),lw.b=y.lw.b/\Rest {y with lw:=lw} x {s with lg:=lg'} p' Ps' m/\Hp B w w' (AZ {y with lw:=lw} x {s with lg:=lg'} p' tt wt' Ps' T'):=fun hc H=>⟨_,s.lg,Ps,T,wt,hc,rfl,y.lw,p,rfl,hr,H⟩
 refine⟨_,rfl,Aw (fun h=>?_) (fun h=>?_)⟩
 ·exact same (.inl ⟨h,rfl,rfl,rfl,rfl,rfl⟩) H
 have hcode:s.lg.code=0:=h
 have hjt:=Pi y.jb (ptrV x.b) (ptrV y.lw.b) (ptrV y.pb) p (some tt) wt Ps hr.bs hr.few ca cc l (by omega) w1 (Hp.std1 (L1:=jpL y.jb (ptrV x.b) (ptrV y.lw.b) (ptrV y.pb) p (some tt) wt Ps) H) (hC w1 H.chg)
 refine AL hjt ?_
 rintro e w2 (⟨htr,rfl,H'⟩|⟨E,tb,htr,rfl,H'⟩)
 ·exact⟨_,_,rfl,D8 (same (.inr (.inl ⟨hcode,htr,rfl,rfl,rfl,rfl,rfl⟩)) (H.ext0 H'))⟩
 have hgood:=Hr htr
 have hEok:=G5 htr
 have hpage:∀c∈l,0<=c.page/\c.page<4096:=fun c hc=>by
  have:=hgood c hc
  unfold badC at this
  exact⟨Int.not_lt.1 fun h=>this (.inl h),Int.not_le.1 fun h=>this (.inr (.inl h))⟩
 have H2:Hp B w w2 (AZ y x s p tt wt Ps T++(.imap tb .i64 (mapV peV E)::pgsE E)):=(H.ext H').perm List.perm_append_comm
 clear H H'
 refine⟨_,_,rfl,CX ?_⟩
 have hst3:Std w2 [touA tt T]:=by
  have H3:=H2.perm (M:=[touA tt T]++(jpL y.jb (ptrV x.b) (ptrV y.lw.b) (ptrV y.pb) p (some tt) wt Ps++DX y x s++(.imap tb .i64 (mapV peV E)::pgsE E))) (by rw[AZ];(refine AC fun ff gg h0 hc ha hpm=>?_;simp only[ha,hc,h0];omega))
  exact H3.std1
 refine AL (jfresh_spec y.jb (ptrV x.b) (ptrV y.lw.b) (ptrV y.pb) p tt wt Ps T ca cc l (by omega) hpage w2 (Hp.std1 (L1:=jpL y.jb (ptrV x.b) (ptrV y.lw.b) (ptrV y.pb) p (some tt) wt Ps) (Hp.BQ H2)) hst3 (hC w2 H2.chg)) ?_
 rintro e w3 ⟨L,fa,fc,hL,hLl,rfl,H'⟩
 replace H2:=H2.ext1 H'
 clear H' hst3
 have hLp:∀n∈L,0<=n/\n<4096:=fun n hn=>by
  obtain⟨c,hc,rfl,_⟩:=(hL.mem n).1 hn
  exact hpage c hc
 have hLn:L.Nodup:=by
  rw[List.nodup_iff_pairwise_ne]
  exact hL.rise.imp fun h=>by omega
 obtain⟨X,hX⟩:∃X,X=[Asn.own 3 1 fa L.length fc (L.map (.int .i64))]++(.imap tb .i64 (mapV peV E)::pgsE E):=⟨_,rfl⟩
 have H3:Hp B w w3 (AZ y x s p tt wt Ps T++X):=H2.perm (by rw[hX];(refine AC fun ff gg h0 hc ha hpm=>?_;simp only[ha,hc,h0];omega))
 clear H2
 refine⟨_,_,_,rfl,?_⟩
 refine Ae.mk (fun mm sv w'=>∃(k:Nat)(rs:List ByteArray)(lw:LW)(p1:JP),mm=L.length-k/\k<=L.length/\sv=(k:Int)/\N7 Ps (L.take k) rs/\rs.length=k/\(∀r∈rs,r.size=4099)/\lw.b=y.lw.b/\
  Rest {y with lw:=lw} x {s with lg:=BD s.lg rs} p1 (BJ Ps (L.take k)) m/\Hp B w w' (AZ {y with lw:=lw} x {s with lg:=BD s.lg rs} p1 tt wt (BJ Ps (L.take k)) T++X)) L.length
  ⟨0,[],y.lw,p,rfl,by omega,rfl,⟨fun _=>Sl.gZ 4096,by simp,rfl⟩,rfl,by simp,rfl,hr,H3⟩ ?_
 clear H3 same
 rintro mm sv w4 next ⟨k,rs,lw,p1,rfl,hk,rfl,himg,hrl,hrs,hlw,hR,H⟩ hnext
 have hrs6:∀r∈rs,r.size<=65536:=fun r hr=>by have:=hrs r hr;omega
 have happ:=Fp s.lg rs hrs6
 have hpsz:s.lg.b.length+rs.length*4103=(BD s.lg rs).b.length:=by
  rw[happ.b]
  clear happ H hR hnext himg hrl
  have:∀(rs:List ByteArray)(b:List UInt8),(∀r∈rs,r.size=4099)->b.length+rs.length*4103=(rs.foldl bT b).length:=by
   intro rs
   induction rs with
   |nil=>intro b _;simp
   |cons r t ih=>
    intro b h
    rw[foldl_cons,<- ih (bT b r) (fun q hq=>h q (.tail _ hq)),GL,h r (.head _),length_cons];omega
  exact this rs s.lg.b hrs
 have hal:(BD s.lg rs).all.length=s.lg.all.length+rs.length:=by rw[happ.all,length_append]
 refine AO (fun h1=>?_) (fun h1=>?_)
 ·have hkl:k<L.length:=by omega
  have hown:=(H.ownA (e:=3) (xs:=L.map (.int .i64)) (mem_append_right _ (by rw[hX];exact .head _))).cells
  have hat:(L.map (Value.int .i64))[k]? =some (.int .i64 L[k]):=by simp[hkl]
  obtain⟨ad,had,_⟩:=hown k _ hat
  have hn4:=hLp _ (getElem_mem hkl)
  have htk:L.take (k+1)=L.take k++[L[k]]:=take_succ_eq_append_getElem hkl
  have hnot:L[k]∉L.take k:=fun hm=>by
   have h1:(L.take k++L.drop k).Nodup:=by rw[take_append_drop];exact hLn
   rw[drop_eq_getElem_cons hkl,nodup_append]at h1
   exact h1.2.2 _ hm _ (.head _) rfl
  refine AA had ⟨⟨by omega,by omega⟩,_,by rw[Int.toNat_natCast,Nat.mul_one];exact hown.ld gInt had hat,?_⟩
  clear hown hat
  generalize L[k]=n at hn4 htk hnot
  obtain⟨nn,rfl⟩:∃nn:Nat,n=nn:=⟨n.toNat,by omega⟩
  have hjb:∀{w':World}{p2:JP}{Qs:List AP}{Y:List Asn},Hp B w w' (AZ {y with lw:=lw} x {s with lg:=BD s.lg rs} p2 tt wt Qs T++Y)->Ld Tryz.prog 87 w' ⟨y.jb,1,none⟩ (ptrV lw.b):=fun K=>K.ld (o:=1) (b:=y.jb) (T:=91) EQ4 gPL (mem_append_left _ (Eg {y with lw:=lw} ..)) rfl
  refine AA rfl ⟨_,hjb H.drew,?_⟩
  refine AL (IZ nn (by omega) 2 (by omega) _) ?_
  rintro e w5 ⟨rfl,H'⟩
  have H5:=H.drew.ext0 H'
  clear H H'
  refine⟨_,rfl,hjb H5,by rw[Z7,AU];omega,?_⟩
  have hjp:=Gy y.jb (ptrV x.b) (ptrV lw.b) (ptrV y.pb) p1 (some tt) wt (BJ Ps (L.take k)) hR.bs hR.few nn (by omega) w5 (Hp.std1 (L1:=jpL y.jb (ptrV x.b) (ptrV lw.b) (ptrV y.pb) p1 (some tt) wt (BJ Ps (L.take k))) (Hp.BQ H5))
  refine AL hjp ?_
  rintro e w6 ⟨p2,b,rfl,hb,hl2,H'⟩
  have hgr:CS (BJ Ps (L.take k)) (nn+1)=BJ Ps (L.take (k+1)):=by rw[htk,BJ,BJ,foldl_append];rfl
  rw[hgr]at hl2 H'
  have H6:Hp B w w6 (AZ {y with lw:=lw} x {s with lg:=BD s.lg rs} p2 tt wt (BJ Ps (L.take (k+1))) T++X):=by
   have H5b:Hp B w w5 (jpL y.jb (ptrV x.b) (ptrV lw.b) (ptrV y.pb) p1 (some tt) wt (BJ Ps (L.take k))++((touA tt T::DX {y with lw:=lw} x {s with lg:=BD s.lg rs})++X)):=by
    rw[<- append_assoc];exact H5
   have:=H5b.useL H'
   rw[<- append_assoc]at this
   exact this
  clear H5 H'
  refine⟨_,rfl,hjb H6,?_⟩
  have hnb:nn<(BJ Ps (L.take (k+1))).length:=by rw[<- hl2];exact(List.getElem?_eq_some_iff.1 hb).1
  obtain⟨g,hRep,hgb⟩:=Kq (Hp.std1 (L1:=jpL y.jb (ptrV x.b) (ptrV lw.b) (ptrV y.pb) p2 (some tt) wt (BJ Ps (L.take (k+1)))) (Hp.BQ H6)) hb (List.getElem?_eq_getElem hnb)
  have hPg:(BJ Ps (L.take (k+1)))[nn]=CO Ps (nn:Int):=by
   have:=F6 (L.take (k+1)) Ps (nn:Int)
   rw[<- this,CO,Int.toNat_natCast,List.getElem?_eq_getElem hnb];rfl
  rw[hPg]at hRep
  refine AL (Sl.UV b g w6 ⟨hRep.ok,hgb⟩) ?_
  rintro e w7 ⟨b7,rfl,H'⟩
  have hbl:g.bs.length=4096:=hRep.ok.len
  have H7:=H6.ext1 H'
  have hcs:Cells w7 (some ⟨b7,0,none⟩) (bQ g.bs):=(H7.blk (.head _)).cells
  have H8:Hp B w w7 (AZ {y with lw:=lw} x {s with lg:=BD s.lg rs} p2 tt wt (BJ Ps (L.take (k+1))) T++X):=H7.drop
  clear H6 H7 H'
  refine⟨_,_,_,rfl,hjb H8,⟨g.bs.toArray⟩,b2s Yz VU Zb (by rw[Di];exact hcs) (by rw[Cj,hbl]),?_⟩
  have e112:(ByteArray.mk #[112]:ByteArray)++⟨(be (nn:Int) 2).toArray⟩=⟨(112::be (nn:Int) 2).toArray⟩:=C9 [112] _
  have e113:(⟨(112::be (nn:Int) 2).toArray⟩:ByteArray)++⟨g.bs.toArray⟩=imgR (nn:Int) g:=by rw[C9];rfl
  rw[e112,e113]
  have hisz:(imgR (nn:Int) g).size=4099:=by
   rw[imgR,Cj,length_cons,length_append,AU,hbl]
  refine⟨by rw[Cj,Cj,length_cons,AU,hbl];omega,?_⟩
  refine Ol (y:= {y with lw:=lw}) (s:= {s with lg:=BD s.lg rs}) H8 (imgR (nn:Int) g) (by show(BD s.lg rs).b.length+70000<=1000000000;omega) (by show(BD s.lg rs).all.length<=1000000;omega) (by omega) ?_
  intro lw2 w8 hlw2 H9
  have hsn:((BD s.lg rs).append (imgR (nn:Int) g)).1=BD s.lg (rs++[imgR (nn:Int) g]):=(KF _ _ _).symm
  have H10:Hp B w w8 (AZ {y with lw:=lw2} x {s with lg:=BD s.lg (rs++[imgR (nn:Int) g])} p2 tt wt (BJ Ps (L.take (k+1))) T++X):=by rw[<- hsn];exact H9
  refine⟨_,_,rfl,AY.2 (by omega),hnext (L.length-(k+1)) _ _ (by omega) ⟨k+1,rs++[imgR (nn:Int) g],lw2,p2,rfl,by omega,by omega,by rw[htk];exact himg.snoc hnot hRep,by rw[length_append,hrl];rfl,fun r hr=>?_,hlw2.trans hlw,?_,H10⟩⟩
  ·rcases mem_append.1 hr with h|h
   ·exact hrs r h
   ·rw[mem_singleton]at h;rw[h];exact hisz
  ·exact(hR.pg hl2 (growAll_len _ _ hr.few fun n hn=>hLp n (List.mem_of_mem_take hn))).log lw2 _
 have hkL:k=L.length:=by omega
 rw[hkL,take_length]at himg hR H
 rw[hkL]at hrl
 clear hnext h1 hk hkL
 clear k
 obtain⟨lg1,hlg1⟩:∃lg1,lg1=BD s.lg rs:=⟨_,rfl⟩
 rw[<- hlg1]at hR H happ hpsz hal
 obtain⟨Qs,hQs⟩:∃Qs,Qs=BJ Ps L:=⟨_,rfl⟩
 rw[<- hQs]at hR H
 have hpk:=Ii l [] (by simp) hgood
 refine Ae.mk (fun mm (sv:ByteArray×Int) w'=>∃(k:Nat)(bb:List UInt8)(ds:List ByteArray)(lw:LW),mm=l.length-k/\k<=l.length/\sv=(⟨bb.toArray⟩,(k:Int))/\bb.length<=60000/\CZ l=ds++(DU (l.drop k) bb).map (fun b=>⟨b.toArray⟩)/\lw.b=y.lw.b/\
  Rest {y with lw:=lw} x {s with lg:=BD lg1 ds} p1 Qs m/\Hp B w w' (AZ {y with lw:=lw} x {s with lg:=BD lg1 ds} p1 tt wt Qs T++X)) l.length
  ⟨0,[],[],lw,rfl,by omega,rfl,by simp,rfl,hlw,hR,H⟩ ?_
 clear H hR hlw
 clear lw
 rintro mm sv w5 next ⟨k,bb,ds,lw,rfl,hk,rfl,hbb,hpack,hlw,hR,H⟩ hnext
 dsimp only
 have hpl:∀r∈CZ l,r.size<=60001:=fun r hr=>by
  obtain⟨q,hq,rfl⟩:=mem_map.1 hr
  rw[Cj];exact hpk.2 q hq
 have hds:∀r∈ds,r.size<=65536:=fun r hr=>by
  have:=hpl r (by rw[hpack];exact mem_append_left _ hr);omega
 have hdl:ds.length<=1001:=by
  have h1:(CZ l).length<=l.length+1:=by rw[CZ,length_map];exact hpk.1
  rw[hpack,length_append]at h1;omega
 have happ2:=Fp lg1 ds hds
 have hb2:(BD lg1 ds).b.length+70000<=1000000000:=by
  rw[happ2.b]
  have:=Io ds lg1.b hds
  omega
 have ha2:(BD lg1 ds).all.length<=1000000:=by
  rw[happ2.all,length_append];omega
 have hjb:∀{w':World}{p2:JP}{Q2:List AP}{wt2:Int}{T2:Tou}{lw2:LW}{s2:St}{Y:List Asn},lw2.b=y.lw.b->Hp B w w' (AZ {y with lw:=lw2} x s2 p2 tt wt2 Q2 T2++Y)->Ld Tryz.prog 87 w' ⟨y.jb,1,none⟩ (ptrV y.lw.b):=fun hh K=>by
  rw[<- hh]
  exact K.ld (o:=1) (b:=y.jb) (T:=91) EQ4 gPL (mem_append_left _ (Eg {y with lw:=_} ..)) rfl
 refine AO (fun h1=>?_) (fun h1=>?_)
 ·have hkl:k<l.length:=by omega
  obtain⟨ad,had,hld⟩:=Vo (hC w5 H.chg) hkl
  have hgk:=hgood _ (getElem_mem hkl)
  have hsk:=hls _ (getElem_mem hkl)
  rw[drop_eq_getElem_cons hkl,DU]at hpack
  generalize l[k]=c at hld hgk hsk hpack
  refine AA had ⟨⟨by omega,by omega⟩,_,_,_,_,by rw[Int.toNat_natCast];exact hld,?_⟩
  intro b2 w6 hn
  replace H:=H.new (cs:=[.int .i64 0,.int .i64 0,.string ⟨#[]⟩,.bool false]) EQ4 hn
  clear hn
  refine Hp.stA (o:=0) H EQ4 Jz (vs:=[.int .i64 c.page,.int .i64 c.slot,.string c.s,.bool c.gone]) rfl rfl (by simp) (cs':=[.int .i64 c.page,.int .i64 c.slot,.string c.s,.bool c.gone]) rfl ?_
  clear H;intro w7 H
  refine⟨_,_,_,_,H.ldA (o:=0) EQ4 Jz (.head _) (vs:=[.int .i64 c.page,.int .i64 c.slot,.string c.s,.bool c.gone]) rfl rfl,?_⟩
  refine AL (jlaid_spec c hgk hsk w7) ?_
  rintro e w8 ⟨rfl,H'⟩
  have H2:=(H.ext0 H').drop
  clear H H'
  have hlc:=I7 hgk
  refine⟨_,rfl,by rw[Cj,Cj];exact AY.2 (by omega),?_⟩
  rw[Cj,Cj]
  refine AO (fun h2=>?_) (fun h2=>?_)
  ·rw[if_pos (by omega)]at hpack
   refine AA rfl ⟨_,hjb hlw H2,by show((1+bb.length:Nat):Int)<=_;omega,?_⟩
   have e100:(ByteArray.mk #[100]:ByteArray)++⟨bb.toArray⟩=⟨(100::bb).toArray⟩:=C9 [100] _
   rw[e100]
   have hcv:=Ol (y:= {y with lw:=lw}) (s:= {s with lg:=BD lg1 ds}) H2 ⟨(100::bb).toArray⟩ hb2 ha2 (by rw[Cj,length_cons];omega) (R:=fun e w'=>∃i i_3,e=.returned (.tuple #[.int .i64 i,.int .i64 i_3])/\(((ByteArray.mk #[]).size+(BR c).length:Nat):Int)<=9223372036854775807/\inR .i64 ((k:Int)+1)/\next (ByteArray.mk #[]++⟨(BR c).toArray⟩,(k:Int)+1) w') (by
    intro lw2 w9 hlw2 H3
    have hsn:((BD lg1 ds).append ⟨(100::bb).toArray⟩).1=BD lg1 (ds++[⟨(100::bb).toArray⟩]):=(KF _ _ _).symm
    have H4:Hp B w w9 (AZ {y with lw:=lw2} x {s with lg:=BD lg1 (ds++[⟨(100::bb).toArray⟩])} p1 tt wt Qs T++X):=by rw[<- hsn];exact H3
    have e0:(ByteArray.mk #[]:ByteArray)++⟨(BR c).toArray⟩=⟨(BR c).toArray⟩:=C9 [] _
    refine⟨_,_,rfl,by show((0+(BR c).length:Nat):Int)<=_;omega,AY.2 (by omega),?_⟩
    rw[e0]
    exact hnext (l.length-(k+1)) _ _ (by omega) ⟨k+1,BR c,ds++[⟨(100::bb).toArray⟩],lw2,rfl,by omega,rfl,by omega,by rw[hpack,map_cons,append_assoc];rfl,hlw2.trans hlw,hR.log lw2 _,H4⟩)
   rw[show({y with lw:=lw}:GW).lw.b=y.lw.b from hlw]at hcv
   exact hcv
  ·rw[if_neg (by omega)]at hpack
   refine⟨by omega,AY.2 (by omega),?_⟩
   rw[C9]
   exact hnext (l.length-(k+1)) _ _ (by omega) ⟨k+1,bb++BR c,ds,lw,rfl,by omega,rfl,by rw[length_append];omega,hpack,hlw,hR,H2⟩
 have hkl:k=l.length:=by omega
 rw[hkl,drop_length,DU]at hpack
 have hpack2:CZ l=ds++[⟨(101::bb).toArray⟩]:=hpack
 refine AA rfl ⟨_,hjb hlw H,by rw[Z7];omega,?_⟩
 have e101:(ByteArray.mk #[101]:ByteArray)++⟨bb.toArray⟩=⟨(101::bb).toArray⟩:=C9 [101] _
 rw[e101]
 obtain⟨lg2,hlg2⟩:∃lg2,lg2=BD s.lg (rs++CZ l):=⟨_,rfl⟩
 have hsn:((BD lg1 ds).append ⟨(101::bb).toArray⟩).1=lg2:=by
  rw[<- KF,<- hpack2,hlg1,hlg2,BD,BD,BD,foldl_append]
 have hcv:=Ol (y:= {y with lw:=lw}) (s:= {s with lg:=BD lg1 ds}) H ⟨(101::bb).toArray⟩ hb2 ha2 (by rw[Cj,length_cons];omega) (R:=fun e w'=>∃i i_1,e=.returned (.tuple #[.int .i64 i,.int .i64 i_1])/\
   AB Tryz.prog 61 [.pointer (some ⟨y.jb,0,none⟩),.map (some tb),.int .i64 i] w' fun e w'=>e=.returned (.tuple #[])/\onP (some (⟨y.jb,0,none⟩:Addr)) fun a=>∃i,Ld Tryz.prog 3 w' (a.add 5) (.int .i64 i)/\inR .i64 (i+1)/\onP (some (⟨y.jb,0,none⟩:Addr)) fun a=>∃w1,Go.Vc.St Tryz.prog 3 w' (a.add 5) (.int .i64 (i+1)) w1/\
    ∃(code:Int)(lg':Lg)(Ps':List AP)(T':Tou)(wt':Int),GY s.lg Ps T wt l lg' Ps' T' wt' code/\Ending.returned (.int .i64 0)=.returned (.int .i64 code)/\∃(lw:LW)(p':JP),lw.b=y.lw.b/\Rest {y with lw:=lw} x {s with lg:=lg'} p' Ps' m/\Hp B w w1 (AZ {y with lw:=lw} x {s with lg:=lg'} p' tt wt' Ps' T')) (by
  intro lw2 w6 hlw2 H3
  have hlw3:lw2.b=y.lw.b:=hlw2.trans hlw
  have H4:Hp B w w6 (AZ {y with lw:=lw2} x {s with lg:=lg2} p1 tt wt Qs T++X):=by rw[<- hsn];exact H3
  have hal2:((({s with lg:=BD lg1 ds}:St).lg.append ⟨(101::bb).toArray⟩).1.all.length:Int)=(lg2.all.length:Int):=by rw[<- hsn]
  rw[hal2]
  refine⟨_,_,rfl,?_⟩
  have H5:Hp B w w6 ((jpL y.jb (ptrV x.b) (ptrV lw2.b) (ptrV y.pb) p1 (some tt) wt Qs++(touA tt T::.imap tb .i64 (mapV peV E)::pgsE E))++(DX {y with lw:=lw2} x {s with lg:=lg2}++[.own 3 1 fa L.length fc (L.map (.int .i64))])):=H4.perm (by
   rw[hX,AZ]
   have ej:jpL ({y with lw:=lw2}:GW).jb (ptrV x.b) (ptrV ({y with lw:=lw2}:GW).lw.b) (ptrV ({y with lw:=lw2}:GW).pb) p1 (some tt) wt Qs=jpL y.jb (ptrV x.b) (ptrV lw2.b) (ptrV y.pb) p1 (some tt) wt Qs:=rfl
   rw[ej]
   (refine AC fun ff gg h0 hc ha hpm=>?_;simp only[ha,hc,h0];omega))
  refine AL (Ny y.jb (ptrV x.b) (ptrV lw2.b) (ptrV y.pb) p1 tt wt Qs hR.bs hR.few T (fun n=>by have:=hT n;omega) tb E hEok lg2.all.length w6 H5.std1) ?_
  rintro e w7 ⟨rfl,p3,hp3,H'⟩
  have H6:=H5.useL H'
  have H7:Hp B w w7 (.blk y.jb (jcV (ptrV x.b) (ptrV lw2.b) (ptrV y.pb) p3 (some tt) wt) 91::(.own 99 1 p3.pa p3.bs.length p3.pc (EH p3.bs)::List.zipWith BG p3.bs (layP lg2.all.length Qs (tmE E))++(touA tt (upP T (tmE E))::DX {y with lw:=lw2} x {s with lg:=lg2}++[.own 3 1 fa L.length fc (L.map (.int .i64))]))):=H6.perm (by rw[jpL];(refine AC fun ff gg h0 hc ha hpm=>?_;simp only[ha,hc,h0];omega))
  clear H3 H4 H5 H6 H'
  refine⟨rfl,AA rfl ⟨_,H7.ld (o:=5) EQ4 gInt (.head _) rfl,AY.2 (by omega),AA rfl ?_⟩⟩
  refine Hp.st (o:=5) H7 EQ4 gInt rfl rfl (by simp[jcV]) (cs':=jcV (ptrV x.b) (ptrV lw2.b) (ptrV y.pb) p3 (some tt) (wt+1)) rfl ?_
  clear H7;intro w8 H8
  refine⟨0,lg2,layP lg2.all.length Qs (tmE E),upP T (tmE E),wt+1,.inr (.inr ⟨hcode,rfl,tmE E,L,rs,htr,hL,himg,hlg2,by rw[hQs],rfl,rfl⟩),rfl,lw2,p3,hlw3,(hR.pg hp3 (MO hR.few fun e he=>(hEok.key e he).2)).log lw2 lg2,?_⟩
  have H9:Hp B w w8 (AZ {y with lw:=lw2} x {s with lg:=lg2} p3 tt (wt+1) (layP lg2.all.length Qs (tmE E)) (upP T (tmE E))++[.own 3 1 fa L.length fc (L.map (.int .i64))]):=H8.perm (by
   rw[AZ]
   have ej:jpL ({y with lw:=lw2}:GW).jb (ptrV x.b) (ptrV ({y with lw:=lw2}:GW).lw.b) (ptrV ({y with lw:=lw2}:GW).pb) p3 (some tt) (wt+1) (layP lg2.all.length Qs (tmE E))=.blk y.jb (jcV (ptrV x.b) (ptrV lw2.b) (ptrV y.pb) p3 (some tt) (wt+1)) 91::.own 99 1 p3.pa p3.bs.length p3.pc (EH p3.bs)::List.zipWith BG p3.bs (layP lg2.all.length Qs (tmE E)):=rfl
   rw[ej]
   (refine AC fun ff gg h0 hc ha hpm=>?_;simp only[ha,hc,h0];omega))
  exact H9.BQ)
 rw[show({y with lw:=lw}:GW).lw.b=y.lw.b from hlw]at hcv
 exact hcv
theorem IY(l:List UInt8)(x:UInt8):valN (l++[x])=valN l*256+x.toNat:=by
 have h:=Gt (l++[x]) l.length (by simp)
 simp only[List.take_left',List.getElem_concat_length]at h
 have e:(l++[x]).take (l.length+1)=l++[x]:=take_of_length_le (by simp)
 rw[e]at h
 omega
theorem XE:∀(n:Nat)(a b:List UInt8),a.length=n->b.length=n->valN a=valN b->a=b
 |0,a,b,ha,hb,_=>by rw[List.eq_nil_of_length_eq_zero ha,List.eq_nil_of_length_eq_zero hb]
 |n+1,a,b,ha,hb,h=>by
  rcases List.eq_nil_or_concat a with rfl|⟨a',x,rfl⟩
  ·simp at ha
  rcases List.eq_nil_or_concat b with rfl|⟨b',y,rfl⟩
  ·simp at hb
  rw[List.concat_eq_append]at*
  rw[List.concat_eq_append]at*
  rw[IY,IY]at h
  have hx:=x.toNat_lt
  have hy:=y.toNat_lt
  have h1:valN a'=valN b':=by omega
  have h2:x=y:=UInt8.toNat_inj.1 (by omega)
  rw[h2,XE n a' b' (by simpa using ha) (by simpa using hb) h1]
theorem be_of_val{z:List UInt8}(h:z.length=8){m:Nat}(hm:valN z=m):z=be (m:Int) 8:=by
 refine XE 8 _ _ h (AU _ _) ?_
 have h1:=JG z
 rw[h]at h1
 have h2:=Dj (n:=(m:Int)) (k:=8) (by omega) (by omega)
 omega
def Ec(s:List UInt8):Option (Nat×Nat):=if s.take 8=s.drop 504 then some (valN (s.take 8),valN ((s.drop 8).take 8))else none
def big:Nat:=4611686018427387904
theorem YD(m f:Nat):(Ba m f).take 8=be (m:Int) 8:=List.take_left' (AU _ _)
theorem YV(m f:Nat):(Ba m f).drop 8=be (f:Int) 8++(List.replicate 488 0++be (m:Int) 8):=List.drop_left' (AU _ _)
theorem seal_z(m f:Nat):(Ba m f).drop 504=be (m:Int) 8:=by
 rw[show 504=8+(8+488) by rfl,<- drop_drop,<- drop_drop,YV,List.drop_left' (AU _ _)]
 exact List.drop_left' (by simp)
theorem FN(m f:Nat):(Ba m f).length=512:=by
 rw[Ba,length_append,length_append,length_append,List.length_replicate,AU,AU]
theorem QV{m:Nat}(h:m<big):valN (be (m:Int) 8)=m:=by
 unfold big at h
 have:=Dj (n:=(m:Int)) (k:=8) (by omega) (by omega)
 omega
theorem Q8{m f:Nat}(hm:m<big)(hf:f<big):Ec (Ba m f)=some (m,f):=by
 have e4:((Ba m f).drop 8).take 8=be (f:Int) 8:=by rw[YV];exact List.take_left' (AU _ _)
 rw[Ec,YD,seal_z,if_pos rfl,e4,QV hm,QV hf]
theorem Ru{s:List UInt8}{q:Nat×Nat}(h:Ec s=some q):s.take 8=s.drop 504/\q.1=valN (s.take 8):=by
 unfold Ec at h
 split at h
 ·rename_i h1;cases h;exact⟨h1,rfl⟩
 ·cases h
def Po(o:List UInt8)(m:Nat):Prop:=o.drop 504=be ((m-1:Nat):Int) 8\/(o.take 8=be ((m+1:Nat):Int) 8/\o.drop 504≠be ((m+1:Nat):Int) 8)
theorem Po.less{o:List UInt8}{m:Nat}(h:Po o m)(hp:0<m)(hm:m<big){q:Nat×Nat}(hq:Ec o=some q):q.1<m:=by
 obtain⟨h1,h2⟩:=Ru hq
 rcases h with h|⟨h,h'⟩
 ·rw[h2,h1,h,QV (by unfold big at*;omega)];omega
 ·exact absurd (by rw[<- h1,h]) h'
theorem torn_take8{p:Nat}{a b:List UInt8}(hp:8<=p)(ha:a.length=512):(torn p a b).take 8=a.take 8:=by
 rw[torn,List.take_append_of_le_length (by rw[length_take];omega),take_take,Nat.min_eq_left hp]
theorem torn_drop{p i:Nat}{a b:List UInt8}(hp:p<=i)(ha:a.length=512)(hi:i<=512):(torn p a b).drop i=b.drop i:=by
 rw[torn,List.drop_append,List.drop_eq_nil_of_le (by rw[length_take];omega),length_take,Nat.min_eq_left (by omega),nil_append,drop_drop]
 congr 1;omega
theorem Po.torn{o:List UInt8}{m f p:Nat}(h:Po o m)(ho:o.length=512)(hm:m+1<big)(hf:f<big):Ec (Vault.torn p (Ba (m+1) f) o)=some (m+1,f)\/Po (Vault.torn p (Ba (m+1) f) o) m:=by
 have hs:=FN (m+1) f
 by_cases hp:p<=504
 ·have hz:=torn_drop (b:=o) hp hs (by omega)
  right
  rcases h with h|⟨h,h'⟩
  ·exact .inl (by rw[hz];exact h)
  ·refine .inr ⟨?_,by rw[hz];exact h'⟩
   have h1:=Uy (p:=p) (c:=8) (hs.trans ho.symm) (YD (m+1) f) h
   exact h1
 ·have ha:(Vault.torn p (Ba (m+1) f) o).take 8=be ((m+1:Nat):Int) 8:=by rw[torn_take8 (by omega) hs,YD]
  by_cases hz:(Vault.torn p (Ba (m+1) f) o).drop 504=be ((m+1:Nat):Int) 8
  ·left
   have h16:((Vault.torn p (Ba (m+1) f) o).drop 8).take 8=be (f:Int) 8:=by
    have e1:(Vault.torn p (Ba (m+1) f) o).take 16=(Ba (m+1) f).take 16:=by
     rw[Vault.torn,List.take_append_of_le_length (by rw[length_take];omega),take_take,Nat.min_eq_left (by omega)]
    have e2:∀(l:List UInt8),(l.drop 8).take 8=(l.take 16).drop 8:=fun l=>by rw[drop_take]
    rw[e2,e1,<- e2,YV]
    exact List.take_left' (AU _ _)
   rw[Ec,ha,hz,if_pos rfl,h16,QV hm,QV hf]
  ·exact .inr (.inr ⟨ha,hz⟩)
def Data(c:Cont)(B:List UInt8):Prop:=∀k,k*512<B.length->(c.v (2+k)).take (chunk B k).length=chunk B k
structure IV(c:Cont)(m:Nat)(B:List UInt8):Prop where
 len:2+nsec B.length<=c.len
 here:Ec (c.v (m%2))=some (m,B.length)
 weak:Po (c.v ((m+1)%2)) m
 pos:0<m
 data:Data c B
 mbig:m+1<big
 bbig:B.length<big
theorem Marks.best{s0 s1:List UInt8}{mark firm:Nat}(h0:0<mark)(h1:Ec (if mark%2=0 then s0 else s1)=some (mark,firm))(h2:∀p,Ec (if mark%2=0 then s1 else s0)=some p->p.1<mark):better (better (0,0) (Ec s0)) (Ec s1)=(mark,firm):=by
 by_cases hm:mark%2=0
 ·rw[if_pos hm]at h1 h2
  have e1:better (0,0) (Ec s0)=(mark,firm):=by rw[h1,better,if_pos h0]
  rw[e1]
  cases hp:Ec s1 with
  |none=>rfl
  |some p=>rw[better,if_neg (by have:=h2 p hp;show¬mark<p.1;omega)]
 ·rw[if_neg hm]at h1 h2
  rw[h1]
  have:(better (0,0) (Ec s0)).1<mark:=by
   cases hp:Ec s0 with
   |none=>exact h0
   |some p=>
    rw[better]
    split
    ·exact h2 p hp
    ·exact h0
  rw[better,if_pos this]
theorem IV.best{c:Cont}{m:Nat}{B:List UInt8}(h:IV c m B):better (better (0,0) (Ec (c.v 0))) (Ec (c.v 1))=(m,B.length):=by
 have hm:m<big:=by have:=h.mbig;omega
 by_cases hk:m%2=0
 ·have h1:=h.here
  have h2:=h.weak
  rw[hk]at h1
  rw[show(m+1)%2=1 by omega]at h2
  exact Marks.best h.pos (by rw[if_pos hk];exact h1) (by rw[if_pos hk];exact fun p hp=>h2.less h.pos hm hp)
 ·have h1:=h.here
  have h2:=h.weak
  rw[show m%2=1 by omega]at h1
  rw[show(m+1)%2=0 by omega]at h2
  exact Marks.best h.pos (by rw[if_neg hk];exact h1) (by rw[if_neg hk];exact fun p hp=>h2.less h.pos hm hp)
theorem NH:∀(n:Nat)(B:List UInt8)(P:List (List UInt8)),B.length<=n->(∀s∈P,s.length=512)->nsec B.length<=P.length->(∀k,k*512<B.length->(val P k).take (chunk B k).length=chunk B k)->P.flatten.take B.length=B
 |n,[],P,_,_,_,_=>rfl
 |0,x::r,P,h,_,_,_=>by simp at h
 |n+1,x::r,P,h,hP,hl,hk=>by
  generalize hB:x::r=B at h hl hk⊢
  have h0:0<B.length:=by rw[<- hB];simp
  cases P with
  |nil=>rw[length_nil]at hl;unfold nsec at hl;omega
  |cons s P=>
   have hs:=hP s (.head _)
   have hc0:=hk 0 (by omega)
   have ev:val (s::P) 0=s:=rfl
   have ec:chunk B 0=B.take 512:=by simp[chunk]
   rw[ev,ec,length_take]at hc0
   rw[List.flatten_cons,List.take_append,hs]
   by_cases hb:B.length<=512
   ·rw[Nat.min_eq_right hb,take_of_length_le hb]at hc0
    rw[show B.length-512=0 by omega,take_zero,append_nil]
    exact hc0
   ·rw[Nat.min_eq_left (by omega)]at hc0
    have ih:=NH n (B.drop 512) P (by rw[length_drop];omega) (fun t ht=>hP t (.tail _ ht)) (by rw[length_drop];unfold nsec at hl⊢;rw[length_cons]at hl;omega) (fun k hk2=>by
     rw[length_drop]at hk2
     have:=hk (k+1) (by omega)
     have e1:val (s::P) (k+1)=val P k:=rfl
     have e2:chunk B (k+1)=chunk (B.drop 512) k:=by rw[chunk,chunk,drop_drop,show(k+1)*512=512+k*512 by omega]
     rw[e1,e2]at this
     exact this)
    rw[length_drop]at ih
    rw[ih,take_of_length_le (by rw[hs];omega)]
    rw[take_of_length_le (l:=s) (by omega)]at hc0
    rw[hc0,take_append_drop]
theorem Vf{d:Dk}(hd:d.dead=false){n:ByteArray}{k:Nat}(hk:d.find n=some k){i:Nat}(hi:i<d.len k):d.read n (i:Int)=((d.file k).now.getD i [],0):=by
 have h:¬((i:Int)<0\/(d.len k:Int)<=(i:Int)):=by omega
 simp only[Dk.read,hd,hk,Bool.false_eq_true,if_false,if_neg h,Int.toNat_natCast]
theorem gath_val{d:Dk}(hd:d.dead=false){n:ByteArray}{k F:Nat}(hk:d.find n=some k){s0 s1:List UInt8}{P:List (List UInt8)}(hnow:(d.file k).now=s0::s1::P)(hP:∀s∈P,s.length=512)(hF:F<=P.length*512):
  ∀(m j:Nat),F<=(j+m)*512->∃J,gath d n F m (2+j) (P.take j).flatten=((P.take J).flatten,0)/\F<=(P.take J).flatten.length:=by
 have hfl:∀(Q:List (List UInt8)),(∀s∈Q,s.length=512)->Q.flatten.length=Q.length*512:=by
  intro Q
  induction Q with
  |nil=>intro _;rfl
  |cons s r ih=>
   intro h
   rw[List.flatten_cons,length_append,h s (.head _),ih fun t ht=>h t (.tail _ ht),length_cons];omega
 have htl:∀j,(P.take j).flatten.length=min j P.length*512:=fun j=>by
  rw[hfl _ fun s hs=>hP s (List.mem_of_mem_take hs),length_take]
 intro m
 induction m with
 |zero=>
  intro j hj
  refine⟨j,rfl,?_⟩
  rw[htl]
  rw[Nat.add_zero]at hj
  rcases Nat.le_total j P.length with h|h
  ·rw[Nat.min_eq_left h];exact hj
  ·rw[Nat.min_eq_right h];exact hF
 |succ m ih=>
  intro j hj
  rw[gath]
  by_cases h1:F<=(P.take j).flatten.length
  ·rw[if_pos h1];exact⟨j,rfl,h1⟩
  ·rw[if_neg h1]
   have hlt:j<P.length:=by
    by_cases h:j<P.length
    ·exact h
    ·rw[htl,Nat.min_eq_right (by omega)]at h1
     exact absurd hF h1
   have hlen:d.len k=P.length+2:=by rw[Dk.len,hnow];rfl
   have hr:=Vf hd hk (i:=2+j) (by omega)
   have hg:(d.file k).now.getD (2+j) []=P[j]:=by
    rw[hnow,show 2+j=j+1+1 by omega]
    simp[getD_eq_getElem?_getD,List.getElem?_eq_getElem hlt]
   rw[hr,hg,if_pos rfl]
   obtain⟨J,e1,e2⟩:=ih (j+1) (by rw[show j+1+m=j+(m+1) by omega];exact hj)
   refine⟨J,?_,e2⟩
   rw[<- e1,take_succ_eq_append_getElem hlt,List.flatten_append,show 2+(j+1)=2+j+1 by omega]
   simp
theorem Yj{d:Dk}(hd:d.dead=false){n:ByteArray}{k:Nat}(hk:d.find n=some k){i:Nat}(hi:i<d.len k):GU d n i=Ec (val (d.file k).now i):=by
 have e:(d.file k).now.getD i []=val (d.file k).now i:=by
  have hi:i<(d.file k).now.length:=hi
  rw[SY hi];simp[getD_eq_getElem?_getD,hi]
 rw[GU,Vf hd hk hi,Ec,e];simp
theorem IV.find{d:Dk}(hd:d.dead=false){k:Nat}(hk:d.find nLog=some k)(hS:∀s∈(d.file k).now,s.length=512){m:Nat}{B:List UInt8}(h:IV (cont (d.file k).now) m B){l:List ByteArray}(hl:records B=some l):
  Ky d nLog=(0,⟨nLog,m,B,B.length,l.length,l,0⟩):=by
 have hlen:2+nsec B.length<=(d.file k).now.length:=h.len
 obtain⟨s0,s1,P,hnow⟩:∃s0 s1 P,(d.file k).now=s0::s1::P:=by
  cases e:(d.file k).now with
  |nil=>rw[e]at hlen;simp at hlen
  |cons s0 r=>cases r with
   |nil=>rw[e]at hlen;simp at hlen;omega
   |cons s1 P=>exact⟨s0,s1,P,rfl⟩
 have hdl:d.len k=P.length+2:=by rw[Dk.len,hnow];rfl
 rw[hnow,length_cons,length_cons]at hlen
 have hs:d.size nLog=((P.length+2:Nat):Int):=by simp[Dk.size,hk,hdl]
 have hm:Jp d nLog=(m,B.length):=by
  rw[Jp,Yj hd hk (by omega),Yj hd hk (by omega)]
  exact h.best
 have hP:∀s∈P,s.length=512:=fun s hs2=>hS s (by rw[hnow];exact .tail _ (.tail _ hs2))
 have hnB:B.length<=P.length*512:=by unfold nsec at hlen;omega
 obtain⟨J,e1,e2⟩:=gath_val (F:=B.length) hd hk hnow hP hnB (B.length+1) 0 (by omega)
 have e3:((P.take J).flatten).take B.length=B:=by
  have h1:=NH _ B P (Nat.le_refl _) hP (by unfold nsec at hlen⊢;omega) (fun j hj=>by
   have h2:=h.data j hj
   have ev:(cont (d.file k).now).v (2+j)=val P j:=by
    show val (d.file k).now (2+j)=val P j
    rw[hnow,show 2+j=j+1+1 by omega];rfl
   rw[ev]at h2
   exact h2)
  have h2:P.flatten=(P.take J).flatten++(P.drop J).flatten:=by rw[<- List.flatten_append,take_append_drop]
  rw[h2,List.take_append_of_le_length e2]at h1
  exact h1
 have e4:gath d nLog B.length (B.length+1) 2 []=((P.take J).flatten,0):=e1
 unfold Ky
 rw[hs,hm,if_neg (by omega)]
 dsimp only
 rw[e4,if_pos rfl]
 dsimp only
 rw[e3,hl]
theorem chunk_pre(b:List UInt8)(F k:Nat):(pad (chunk b k)).take (chunk (b.take F) k).length=chunk (b.take F) k:=by
 have e:chunk (b.take F) k=(chunk b k).take (F-k*512):=by
  rw[chunk,chunk,drop_take,take_take,take_take,Nat.min_comm]
 have hl:(chunk (b.take F) k).length<=(chunk b k).length:=by rw[e,length_take];omega
 rw[pad,List.take_append_of_le_length hl,e,length_take]
 by_cases h:F-k*512<=(chunk b k).length
 ·rw[Nat.min_eq_left h]
 ·rw[Nat.min_eq_right (by omega),take_of_length_le (Nat.le_refl _),take_of_length_le (by omega)]
theorem OQ(b:List UInt8)(k:Nat):(chunk b k).length<=512:=by rw[chunk,length_take];omega
theorem pad_512{c:List UInt8}(h:c.length<=512):(pad c).length=512:=Redo.Gf h
def IP(f:Fl)(m:Nat)(B:List UInt8):Prop:=∀c,f.Cr c->IV c m B
theorem IP.bU{f:Fl}(ok:f.Ok){m F:Nat}{b:List UInt8}(h:IP f m (b.take F)){k:Nat}(hk:2+k<=f.now.length):IP (f.write (2+k) (chunk b k)) m (b.take F):=by
 intro c' hc'
 obtain⟨c,p,hc,hp,hlen,hv⟩:=Fl.Cr.write ok hk hc'
 have hL:=h c hc
 have h0:∀j,j<2->c'.v j=c.v j:=fun j hj=>by rw[hv,if_neg (by omega)]
 refine⟨Nat.le_trans hL.len hlen,by rw[h0 _ (Nat.mod_lt _ (by omega))];exact hL.here,by rw[h0 _ (Nat.mod_lt _ (by omega))];exact hL.weak,hL.pos,fun j hj=>?_,hL.mbig,hL.bbig⟩
 have hd:=hL.data j hj
 rw[hv]
 by_cases hjk:2+j=2+k
 ·rw[if_pos hjk]
  have hjk:j=k:=by omega
  subst hjk
  exact Uy (by rw[pad_512 (OQ b j),Fl.Cr.vlen ok hc]) (chunk_pre b F j) hd
 ·rw[if_neg hjk];exact hd
theorem IP.sync{f:Fl}(ok:f.Ok)(ht:f.Tidy){m:Nat}{B:List UInt8}(h:IP f m B):IP f.sync m B:=fun c hc=>h c (Fl.Cr.sync ok ht hc)
theorem IP.mark{f:Fl}(ok:f.Ok)(hs:f.since=[])(hf:f.firm=f.now){m:Nat}{B b:List UInt8}(h:IP f m B)(hd:Data (cont f.now) b)(hl:2+nsec b.length<=f.now.length)(hm:m+2<big)(hb:b.length<big):
  (∀c,(f.write ((m+1)%2) (Ba (m+1) b.length)).Cr c->IV c m B\/IV c (m+1) b)/\IV (cont (f.write ((m+1)%2) (Ba (m+1) b.length)).now) (m+1) b:=by
 have hL:=h _ (Fl.Cr.firm ok)
 rw[hf]at hL
 have h2:=hL.len
 have hn2:2<=f.now.length:=Nat.le_trans (by omega) h2
 have hi:(m+1)%2<=f.now.length:=by have:=Nat.mod_lt (m+1) (by omega:0<2);omega
 have hps:pad (Ba (m+1) b.length)=Ba (m+1) b.length:=by rw[pad,FN,Nat.sub_self];simp
 have hne:m%2≠(m+1)%2:=by omega
 have hwk:Po (val f.now (m%2)) (m+1):=by
  obtain⟨h3,h4⟩:=Ru hL.here
  refine .inl ?_
  have h3:(val f.now (m%2)).take 8=(val f.now (m%2)).drop 504:=h3
  have h4:m=valN ((val f.now (m%2)).take 8):=h4
  have hvl:=Gg ok.now (m%2)
  rw[<- h3]
  exact be_of_val (by rw[length_take,hvl];rfl) h4.symm
 have key:∀(c':Cont)(o:List UInt8),o.length=512->f.now.length<=c'.len->(∀n,c'.v n=if n=(m+1)%2 then o else val f.now n)->Ec o=some (m+1,b.length)->IV c' (m+1) b:=by
  intro c' o ho hlen hv hlk
  refine⟨Nat.le_trans hl hlen,by rw[hv,if_pos rfl];exact hlk,?_,by omega,fun j hj=>?_,by omega,hb⟩
  ·rw[hv,show(m+1+1)%2=m%2 by omega,if_neg hne];exact hwk
  ·rw[hv,if_neg (by have:=Nat.mod_lt (m+1) (by omega:0<2);omega)]
   exact hd j hj
 refine⟨fun c' hc'=>?_,key _ (Ba (m+1) b.length) (FN _ _) ?_ (fun n=>?_) (Q8 (by omega) hb)⟩
 ·obtain⟨c,p,hc,hp,hlen,hv⟩:=Fl.Cr.write ok hi hc'
  have hcn:c=cont f.now:=by
   have:f=Fl.mk f.now f.now []:=by
    obtain⟨a,b,c⟩:=f
    dsimp only at hs hf
    rw[hs,hf]
   rw[this]at hc
   exact Fl.Cr.same hc
  subst hcn
  rw[hps]at hv
  have hlen:f.now.length<=c'.len:=hlen
  rcases Po.torn (p:=p) (f:=b.length) hL.weak (Gg ok.now _) (by omega) hb with h5|h5
  ·exact .inr (key c' _ (by rw[Nh (by rw[FN];exact(Gg ok.now _).symm)];exact Gg ok.now _) hlen hv h5)
  ·refine .inl ⟨Nat.le_trans h2 hlen,by rw[hv,if_neg hne];exact hL.here,by rw[hv,if_pos rfl];exact h5,hL.pos,fun j hj=>?_,hL.mbig,hL.bbig⟩
   rw[hv,if_neg (by have:=Nat.mod_lt (m+1) (by omega:0<2);omega)]
   exact hL.data j hj
 ·show f.now.length<=(f.write _ _).now.length
  rw[Fl.write]
  dsimp only
  split
  ·rw[length_append];omega
  ·rw[length_set];exact Nat.le_refl _
 ·show val (f.write _ _).now n=_
  rw[Fv hi,hps]
structure Core(d d':Dk):Prop where
 room:d'.room=d.room
 files:d'.files=d.files
 firm:d'.firm=d.firm
 chs:d'.chs=d.chs
theorem Core.refl(d:Dk):Core d d:=⟨rfl,rfl,rfl,rfl⟩
theorem Core.trans{a b c:Dk}(h:Core a b)(h':Core b c):Core a c:=⟨h'.room.trans h.room,h'.files.trans h.files,h'.firm.trans h.firm,h'.chs.trans h.chs⟩
theorem E8(d:Dk):Core d d.dies:=by unfold Dk.dies;split<;>exact⟨rfl,rfl,rfl,rfl⟩
theorem GH(d:Dk):Core d d.denies:=⟨rfl,rfl,rfl,rfl⟩
theorem Rn(d:Dk)(k:Int):Core d (d.arm k):=⟨rfl,rfl,rfl,rfl⟩
theorem OT(d:Dk)(k:Int):Core d (d.deny k):=⟨rfl,rfl,rfl,rfl⟩
theorem WQ{d e:Dk}(h:Core d e)(k:Nat)(f:Fl):Core (d.put k f) (e.put k f):=⟨h.room,by show e.files.set k f=d.files.set k f;rw[h.files],h.firm,h.chs⟩
theorem Core.file{d e:Dk}(h:Core d e)(k:Nat):e.file k=d.file k:=by rw[Dk.file,Dk.file,h.files]
theorem Core.names{d e:Dk}(h:Core d e):e.names=d.names:=by rw[Dk.names,Dk.names,h.firm,h.chs]
theorem Core.find{d e:Dk}(h:Core d e)(n:ByteArray):e.find n=d.find n:=by rw[Dk.find,Dk.find,h.names]
theorem Ey(d:Dk)(n:ByteArray)(i:Int)(b:List UInt8):(Core d (d.write n i b).1/\(d.write n i b).2≠0)\/
  ∃k,d.find n=some k/\0<=i/\i<=d.len k/\b.length<=512/\Core (d.put k ((d.file k).write i.toNat b)) (d.write n i b).1:=by
 unfold Dk.write
 split
 ·exact .inl ⟨.refl d,by simp⟩
 split
 ·exact .inl ⟨.refl d,by simp⟩
 ·rename_i k hk
  split
  ·exact .inl ⟨.refl d,by simp⟩
  rename_i h1
  split
  ·exact .inl ⟨.refl d,by simp⟩
  split
  ·exact .inl ⟨GH d,by simp⟩
  ·exact .inr ⟨k,hk,by omega,by omega,by omega,(WQ (GH d) _ _).trans (E8 _)⟩
theorem Gi(d:Dk)(n:ByteArray):(Core d (d.sync n).1/\(d.sync n).2≠0)\/∃k,d.find n=some k/\(d.sync n).2=0/\Core (d.put k (d.file k).sync) (d.sync n).1:=by
 unfold Dk.sync
 split
 ·exact .inl ⟨.refl d,by simp⟩
 split
 ·exact .inl ⟨.refl d,by simp⟩
 ·rename_i k hk
  split
  ·exact .inl ⟨GH d,by simp⟩
  ·dsimp only
   split
   ·exact .inl ⟨(GH d).trans (E8 _),by simp⟩
   ·exact .inr ⟨k,hk,rfl,WQ ((GH d).trans (E8 _)) _ _⟩
theorem Jf(d:Dk)(n:ByteArray):(Core d (d.create n).1/\(d.create n).2≠0)\/Core (Dk.change {d with files:=d.files++[Fl.none]} (.create n d.files.length)) (d.create n).1:=by
 unfold Dk.create
 split
 ·exact .inl ⟨.refl d,by simp⟩
 split
 ·exact .inl ⟨.refl d,by simp⟩
 ·exact .inr (E8 _)
theorem P7(d:Dk)(a b:ByteArray)(hab:a≠b):(Core d (d.rename a b).1/\(d.rename a b).2≠0)\/∃k,d.find a=some k/\Core (d.change (.rename a b k)) (d.rename a b).1:=by
 unfold Dk.rename
 split
 ·exact .inl ⟨.refl d,by simp⟩
 split
 ·exact .inl ⟨.refl d,by simp⟩
 ·rename_i k hk
  split
  ·exact .inl ⟨.refl d,by simp⟩
  ·exact .inr ⟨k,hk,E8 _⟩
theorem FU(d:Dk):(Core d d.Ad.1/\d.Ad.2≠0)\/(d.Ad.2=0/\Core {d with firm:=d.names,chs:=[]} d.Ad.1):=by
 unfold Dk.Ad
 split
 ·exact .inl ⟨.refl d,by simp⟩
 ·dsimp only
  split
  ·exact .inl ⟨E8 d,by simp⟩
  ·exact .inr ⟨rfl,⟨(E8 d).room,(E8 d).files,rfl,rfl⟩⟩
def lists(d:Dk)(i:Nat):List Nm:=ons d.firm (d.chs.take i)
def dC:Cont:=⟨fun _=>zsec,0⟩
structure Fok(d:Dk):Prop where
 ok:∀f∈d.files,f.Ok
 tidy:∀f∈d.files,f.Tidy
def DatA(G:Cont->Prop)(d:Dk)(k:Nat)(i:Nat):Prop:=(nget (lists d i) Aa=none/\G dC)\/∃q,nget (lists d i) Aa=some q/\q<d.files.length/\q≠k/\∀c,(d.file q).Cr c->G c
structure AnyD(Q:Nat->List UInt8->Prop)(G:Cont->Prop)(d:Dk):Prop where
 fok:Fok d
 log:∀i,∃k,nget (lists d i) nLog=some k/\k<d.files.length/\(∀c,(d.file k).Cr c->∃m B,Q m B/\IV c m B)/\DatA G d k i
structure Live(k m:Nat)(B:List UInt8)(G:Cont->Prop)(d:Dk):Prop where
 fok:Fok d
 log:∀i,nget (lists d i) nLog=some k
 lt:k<d.files.length
 logc:IP (d.file k) m B
 data:∀i,DatA G d k i
theorem Live.any{k m:Nat}{B:List UInt8}{G:Cont->Prop}{d:Dk}(h:Live k m B G d){Q:Nat->List UInt8->Prop}(hQ:Q m B):AnyD Q G d:=
 ⟨h.fok,fun i=>⟨k,h.log i,h.lt,fun c hc=>⟨m,B,hQ,h.logc c hc⟩,h.data i⟩⟩
theorem AnyD.mono{Q Q':Nat->List UInt8->Prop}{G G':Cont->Prop}{d:Dk}(h:AnyD Q G d)(hQ:∀m B,Q m B->Q' m B)(hG:∀c,G c->G' c):AnyD Q' G' d:=
 ⟨h.fok,fun i=>by
  obtain⟨k,h1,h2,h3,h4⟩:=h.log i
  refine⟨k,h1,h2,fun c hc=>?_,?_⟩
  ·obtain⟨m,B,h5,h6⟩:=h3 c hc
   exact⟨m,B,hQ m B h5,h6⟩
  ·rcases h4 with⟨h5,h6⟩|⟨q,h5,h6,h7,h8⟩
   ·exact .inl ⟨h5,hG _ h6⟩
   ·exact .inr ⟨q,h5,h6,h7,fun c hc=>hG c (h8 c hc)⟩⟩
theorem JD{d e:Dk}(h:Core d e)(i:Nat):lists e i=lists d i:=by rw[lists,lists,h.firm,h.chs]
theorem Fok.core{d e:Dk}(h:Core d e)(f:Fok d):Fok e:=⟨by rw[h.files];exact f.ok,by rw[h.files];exact f.tidy⟩
theorem DatA.core{G:Cont->Prop}{d e:Dk}{k i:Nat}(h:Core d e)(hd:DatA G d k i):DatA G e k i:=by
 unfold DatA
 rw[JD h,h.files]
 rcases hd with h1|⟨q,h1,h2,h3,h4⟩
 ·exact .inl h1
 ·exact .inr ⟨q,h1,h2,h3,by rw[h.file];exact h4⟩
theorem Live.core{k m:Nat}{B:List UInt8}{G:Cont->Prop}{d e:Dk}(c:Core d e)(h:Live k m B G d):Live k m B G e:=
 ⟨h.fok.core c,fun i=>by rw[JD c];exact h.log i,by rw[c.files];exact h.lt,by rw[c.file];exact h.logc,fun i=>(h.data i).core c⟩
theorem AnyD.core{Q:Nat->List UInt8->Prop}{G:Cont->Prop}{d e:Dk}(c:Core d e)(h:AnyD Q G d):AnyD Q G e:=
 ⟨h.fok.core c,fun i=>by
  obtain⟨k,h1,h2,h3,h4⟩:=h.log i
  exact⟨k,by rw[JD c];exact h1,by rw[c.files];exact h2,by rw[c.file];exact h3,h4.core c⟩⟩
theorem EE{q:Dk}{k:Nat}(hk:k<q.files.length)(f:Fl):(q.put k f).file k=f:=by
 simp[Dk.put,Dk.file,getD_eq_getElem?_getD,hk]
theorem Cm{d:Dk}{k K:Nat}(f:Fl)(h:K≠k):(d.put k f).file K=d.file K:=by
 simp only[Dk.put,Dk.file,getD_eq_getElem?_getD]
 rw[List.getElem?_set_ne (fun e=>h e.symm)]
theorem EJ(d:Dk)(k:Nat)(f:Fl):(d.put k f).files.length=d.files.length:=length_set ..
theorem Fok.put{d:Dk}(h:Fok d){f:Fl}(hf:f.Ok)(ht:f.Tidy)(k:Nat):Fok (d.put k f):=
 ⟨fun g hg=>(List.mem_or_eq_of_mem_set hg).elim (h.ok g) (fun e=>e▸hf),fun g hg=>(List.mem_or_eq_of_mem_set hg).elim (h.tidy g) (fun e=>e▸ht)⟩
theorem Fok.at{d:Dk}(h:Fok d){k:Nat}(hk:k<d.files.length):(d.file k).Ok/\(d.file k).Tidy:=by
 have e:d.file k=d.files[k]:=by simp[Dk.file,getD_eq_getElem?_getD,hk]
 rw[e]
 exact⟨h.ok _ (getElem_mem hk),h.tidy _ (getElem_mem hk)⟩
theorem DatA.put{G:Cont->Prop}{d:Dk}{k i K:Nat}(hd:DatA G d k i)(f:Fl)(hK:∀q,nget (lists d i) Aa=some q->q≠K):DatA G (d.put K f) k i:=by
 rcases hd with h1|⟨q,h1,h2,h3,h4⟩
 ·exact .inl h1
 ·exact .inr ⟨q,h1,by rw[EJ];exact h2,h3,by rw[Cm f (hK q h1)];exact h4⟩
theorem Live.put{k m:Nat}{B:List UInt8}{G:Cont->Prop}{d:Dk}(h:Live k m B G d){f:Fl}(hf:f.Ok)(ht:f.Tidy){m':Nat}{B':List UInt8}(hl:IP f m' B'):Live k m' B' G (d.put k f):=
 ⟨h.fok.put hf ht k,h.log,by rw[EJ];exact h.lt,by rw[EE h.lt];exact hl,fun i=>(h.data i).put f fun q hq=>by
  rcases h.data i with⟨h1,_⟩|⟨q',h1,_,h3,_⟩
  ·rw[h1]at hq;cases hq
  ·rw[h1]at hq;cases hq;exact h3⟩
theorem Live.find{k m:Nat}{B:List UInt8}{G:Cont->Prop}{d:Dk}(h:Live k m B G d):d.find nLog=some k:=by
 have:=h.log d.chs.length
 rw[lists,take_length]at this
 exact this
theorem Live.now{k m:Nat}{B:List UInt8}{G:Cont->Prop}{d:Dk}(h:Live k m B G d):IV (cont (d.file k).now) m B:=by
 obtain⟨h1,h2⟩:=h.fok.at h.lt
 exact h.logc _ (Fl.Cr.now h1 h2)
theorem IJ(f:Fl){i:Nat}(b:List UInt8)(hi:i<=f.now.length):(f.write i b).now.length=max f.now.length (i+1):=by
 rw[Fl.write]
 dsimp only
 split
 ·rw[length_append];simp only[length_singleton];omega
 ·rw[length_set];omega
theorem Live.dput{k m F:Nat}{b:List UInt8}{G:Cont->Prop}:∀(n j:Nat){d:Dk},Live k m (b.take F) G d->Live k m (b.take F) G (dput nLog b n j d).1/\
   ((dput nLog b n j d).2=0->nsec b.length<=j+n->2+j<=(d.file k).now.length->(∀i,i<j->i*512<b.length->(val (d.file k).now (2+i)).take (chunk b i).length=chunk b i)->
    (∀i,i*512<b.length->(val ((dput nLog b n j d).1.file k).now (2+i)).take (chunk b i).length=chunk b i)/\2+nsec b.length<=((dput nLog b n j d).1.file k).now.length)
 |0,j,d,h=>⟨h,fun _ hn hl hv=>⟨fun i hi=>hv i (by unfold nsec at hn;omega) hi,by show 2+nsec b.length<=(d.file k).now.length;omega⟩⟩
 |n+1,j,d,h=>by
  rw[Redo.dput]
  by_cases hj:b.length<=j*512
  ·rw[if_pos hj]
   exact⟨h,fun _ hn hl hv=>⟨fun i hi=>hv i (by omega) hi,by show 2+nsec b.length<=(d.file k).now.length;unfold nsec;omega⟩⟩
  rw[if_neg hj]
  have hc:(b.drop (j*512)).take 512=chunk b j:=rfl
  rw[hc]
  obtain⟨r,hr⟩:∃r,r=d.write nLog ((2+j:Nat):Int) (chunk b j):=⟨_,rfl⟩
  rw[<- hr,thn]
  obtain⟨ok,tidy⟩:=h.fok.at h.lt
  rcases Ey d nLog ((2+j:Nat):Int) (chunk b j)with⟨c,hne⟩|⟨k',hk',h0,hle,hb,c⟩
  ·rw[<- hr]at c hne
   rw[if_neg hne]
   exact⟨h.core c,fun h0=>absurd h0 hne⟩
  ·rw[<- hr]at c
   rw[h.find]at hk'
   cases hk'
   rw[Int.toNat_natCast]at c
   have hle:2+j<=(d.file k).now.length:=by unfold Dk.len at hle;omega
   have hL:Live k m (b.take F) G r.1:=(h.put (ok.write hle hb) (Fl.Iu tidy hle _) (h.logc.bU ok hle)).core c
   split
   ·obtain⟨h1,h2⟩:=Live.dput n (j+1) hL
    refine⟨h1,fun e hn hl hv=>h2 e (by omega) ?_ ?_⟩
    ·rw[c.file,EE h.lt,IJ _ _ hle];omega
    ·intro i hi hib
     rw[c.file,EE h.lt,Fv hle]
     by_cases hij:i=j
     ·rw[if_pos (by omega),hij]
      exact pad_take (OQ b j)
     ·rw[if_neg (by omega)]
      exact hv i (by omega) hib
   ·rename_i hne
    exact⟨hL,fun h0=>absurd h0 hne⟩
theorem Live.sync{k m:Nat}{B:List UInt8}{G:Cont->Prop}{d:Dk}(h:Live k m B G d):Live k m B G (d.sync nLog).1/\((d.sync nLog).2=0->((d.sync nLog).1.file k)=(d.file k).sync):=by
 obtain⟨ok,tidy⟩:=h.fok.at h.lt
 rcases Gi d nLog with⟨c,hne⟩|⟨k',hk',h0,c⟩
 ·exact⟨h.core c,fun h0=>absurd h0 hne⟩
 ·rw[h.find]at hk'
  cases hk'
  refine⟨(h.put (Fl.QO ok) (Fl.Kw _) (h.logc.sync ok tidy)).core c,fun _=>?_⟩
  rw[c.file,EE h.lt]
def Two(m:Nat)(B:List UInt8)(m':Nat)(B':List UInt8):Nat->List UInt8->Prop:=fun n C=>(n=m/\C=B)\/(n=m'/\C=B')
theorem Live.flush{k:Nat}{G:Cont->Prop}{d:Dk}{l:Lg}(hn:l.name=nLog)(hc:l.code=0)(hf:l.firm<=l.b.length)(h:Live k l.mark (l.b.take l.firm) G d)(hm:l.mark+2<big)(hb:l.b.length<big):
  ((Ak d l).2.2=0/\Live k (l.mark+1) l.b G (Ak d l).1)\/((Ak d l).2.2≠0/\AnyD (Two l.mark (l.b.take l.firm) (l.mark+1) l.b) G (Ak d l).1):=by
 have two:∀{e:Dk},Live k l.mark (l.b.take l.firm) G e->AnyD (Two l.mark (l.b.take l.firm) (l.mark+1) l.b) G e:=fun h=>h.any (.inl ⟨rfl,rfl⟩)
 have hfl:Ak d l=if(thn (bU d l.name l.b l.firm) fun d=>bY d l.name (l.mark+1) l.b.length).2=0 then((thn (bU d l.name l.b l.firm) fun d=>bY d l.name (l.mark+1) l.b.length).1,{l with mark:=l.mark+1,firm:=l.b.length,many:=l.all.length},0)
   else((thn (bU d l.name l.b l.firm) fun d=>bY d l.name (l.mark+1) l.b.length).1,{l with code:=(thn (bU d l.name l.b l.firm) fun d=>bY d l.name (l.mark+1) l.b.length).2},(thn (bU d l.name l.b l.firm) fun d=>bY d l.name (l.mark+1) l.b.length).2):=by
  unfold Ak;rw[if_pos hc]
 have goal:((thn (bU d l.name l.b l.firm) fun d=>bY d l.name (l.mark+1) l.b.length).2=0/\Live k (l.mark+1) l.b G (thn (bU d l.name l.b l.firm) fun d=>bY d l.name (l.mark+1) l.b.length).1)\/
   ((thn (bU d l.name l.b l.firm) fun d=>bY d l.name (l.mark+1) l.b.length).2≠0/\AnyD (Two l.mark (l.b.take l.firm) (l.mark+1) l.b) G (thn (bU d l.name l.b l.firm) fun d=>bY d l.name (l.mark+1) l.b.length).1):=by
  rw[hn]
  obtain⟨h1,h2⟩:=Live.dput (l.b.length/512+1-l.firm/512) (l.firm/512) h
  have hdw:bU d nLog l.b l.firm=Redo.dput nLog l.b (l.b.length/512+1-l.firm/512) (l.firm/512) d:=rfl
  rw[<- hdw]at h1 h2
  generalize bU d nLog l.b l.firm=r at h1 h2
  rw[thn]
  split
  ·rename_i h0
   have hnow:=h.now
   have hlb:(l.b.take l.firm).length=l.firm:=by rw[length_take];omega
   have hlen:2+nsec l.firm<=(d.file k).now.length:=by have:=hnow.len;rw[hlb]at this;exact this
   have hdiv:l.firm/512<=l.b.length/512:=Nat.div_le_div_right hf
   obtain⟨hdat,hdl⟩:=h2 h0 (by unfold nsec;omega) (by unfold nsec at hlen;omega) (fun i hi hib=>by
    have h3:=hnow.data i (by rw[hlb];omega)
    have e:chunk (l.b.take l.firm) i=chunk l.b i:=by
     rw[chunk,chunk,drop_take,take_take,Nat.min_eq_left (by omega)]
    rw[e]at h3
    exact h3)
   rw[bY,thn]
   obtain⟨h3,h4⟩:=h1.sync
   obtain⟨r2,hr2⟩:∃r2,r2=r.1.sync nLog:=⟨_,rfl⟩
   rw[<- hr2]at h3 h4⊢
   rw[thn]
   by_cases hs0:r2.2=0
   ·rw[if_pos hs0]
    have hfk:=h4 hs0
    obtain⟨ok2,_⟩:=h3.fok.at h3.lt
    have hnow2:(r2.1.file k).now=(r.1.file k).now:=by rw[hfk];rfl
    have hfirm2:(r2.1.file k).firm=(r2.1.file k).now:=by rw[hfk];rfl
    have hmk:=h3.logc.mark ok2 (by rw[hfk];rfl) hfirm2 (b:=l.b) (fun i hi=>by show(val (r2.1.file k).now (2+i)).take _=_;rw[hnow2];exact hdat i hi) (by rw[hnow2];exact hdl) hm hb
    have hi:(l.mark+1)%2<=(r2.1.file k).now.length:=by have:=Nat.mod_lt (l.mark+1) (by omega:0<2);rw[hnow2];omega
    obtain⟨r3,hr3⟩:∃r3,r3=r2.1.write nLog (((l.mark+1)%2:Nat):Int) (Ba (l.mark+1) l.b.length):=⟨_,rfl⟩
    rw[<- hr3]
    rcases Ey r2.1 nLog (((l.mark+1)%2:Nat):Int) (Ba (l.mark+1) l.b.length)with⟨c,hne⟩|⟨k',hk',_,hle,hbl,c⟩
    ·rw[<- hr3]at c hne
     rw[if_neg hne]
     exact .inr ⟨hne,two (h3.core c)⟩
    ·rw[<- hr3]at c
     rw[h3.find]at hk'
     cases hk'
     rw[Int.toNat_natCast]at c
     have okw:((r2.1.file k).write ((l.mark+1)%2) (Ba (l.mark+1) l.b.length)).Ok:=ok2.write hi hbl
     have tw:((r2.1.file k).write ((l.mark+1)%2) (Ba (l.mark+1) l.b.length)).Tidy:=Fl.Iu (h3.fok.at h3.lt).2 hi _
     have hA:AnyD (Two l.mark (l.b.take l.firm) (l.mark+1) l.b) G r3.1:=by
      refine AnyD.core c ⟨h3.fok.put okw tw k,fun i=>⟨k,h3.log i,by rw[EJ];exact h3.lt,fun c2 hc2=>?_,(h3.data i).put _ fun q hq=>?_⟩⟩
      ·rw[EE h3.lt]at hc2
       rcases hmk.1 c2 hc2 with h5|h5
       ·exact⟨_,_,.inl ⟨rfl,rfl⟩,h5⟩
       ·exact⟨_,_,.inr ⟨rfl,rfl⟩,h5⟩
      ·rcases h3.data i with⟨h5,_⟩|⟨q',h5,_,h6,_⟩
       ·rw[h5]at hq;cases hq
       ·rw[h5]at hq;cases hq;exact h6
     by_cases hw0:r3.2=0
     ·rw[if_pos hw0]
      have hf3:r3.1.find nLog=some k:=by rw[c.find];exact h3.find
      rcases Gi r3.1 nLog with⟨c4,hne⟩|⟨k',hk',h40,c4⟩
      ·exact .inr ⟨hne,hA.core c4⟩
      ·rw[hf3]at hk'
       cases hk'
       refine .inl ⟨h40,?_⟩
       have h5:Live k (l.mark+1) l.b G (r2.1.put k (((r2.1.file k).write ((l.mark+1)%2) (Ba (l.mark+1) l.b.length)).sync)):=
        h3.put (Fl.QO okw) (Fl.Kw _) (fun c2 hc2=>by rw[Fl.Cr.same (l:=((r2.1.file k).write ((l.mark+1)%2) (Ba (l.mark+1) l.b.length)).now) hc2];exact hmk.2)
       have e5:Core (r2.1.put k (((r2.1.file k).write ((l.mark+1)%2) (Ba (l.mark+1) l.b.length)).sync)) (r3.1.put k (r3.1.file k).sync):=by
        have e6:r3.1.file k=(r2.1.file k).write ((l.mark+1)%2) (Ba (l.mark+1) l.b.length):=by rw[c.file,EE h3.lt]
        rw[e6]
        refine⟨c.room,?_,c.firm,c.chs⟩
        show r3.1.files.set k _=r2.1.files.set k _
        rw[c.files]
        show(r2.1.files.set k _).set k _=_
        rw[set_set]
       exact h5.core (e5.trans c4)
     ·rw[if_neg hw0]
      exact .inr ⟨hw0,hA⟩
   ·rw[if_neg hs0,if_neg hs0]
    exact .inr ⟨hs0,two h3⟩
  ·rename_i h0
   exact .inr ⟨h0,two h1⟩
 rw[hfl]
 rcases goal with⟨g1,g2⟩|⟨g1,g2⟩
 ·rw[if_pos g1];exact .inl ⟨rfl,g2⟩
 ·rw[if_neg g1];exact .inr ⟨g1,g2⟩
def nNew:ByteArray:=newN nLog
theorem Rx:nNew≠nLog:=by decide+kernel
theorem Ie:nNew≠Aa:=by decide+kernel
theorem OY:nLog≠Aa:=by decide+kernel
theorem FK(d:Dk):lists d d.chs.length=d.names:=by rw[lists,take_length];rfl
theorem N9(d:Dk)(c:Ch)(i:Nat):lists (d.change c) i=lists d i\/lists (d.change c) i=c.on d.names:=by
 rw[lists,lists]
 show ons d.firm ((d.chs++[c]).take i)=_\/ons d.firm ((d.chs++[c]).take i)=_
 by_cases h:i<=d.chs.length
 ·left;rw[List.take_append_of_le_length h]
 ·right
  rw[take_of_length_le (by rw[length_append];simp only[length_singleton];omega)]
  rw[Dk.names,ons,ons,foldl_append];rfl
theorem OC{d:Dk}{k:Nat}(h:k<d.files.length)(c:Ch)(f:Fl):(Dk.change {d with files:=d.files++[f]} c).file k=d.file k:=by
 simp only[Dk.file,Dk.change,getD_eq_getElem?_getD]
 rw[List.getElem?_append_left h]
theorem WC{d:Dk}(c:Ch)(f:Fl):(Dk.change {d with files:=d.files++[f]} c).file d.files.length=f:=by
 simp[Dk.file,Dk.change,getD_eq_getElem?_getD]
theorem QB:Fl.none.Ok:=⟨by simp[Fl.none],by simp[Fl.none],.nil,by simp[Fl.none],Nat.le_refl _⟩
theorem VB:Fl.none.Tidy:=fun n _=>rfl
theorem ZY{c:Cont}(h:Fl.none.Cr c):c=dC:=Fl.Cr.same (l:=[]) h
theorem Fok.grow{d:Dk}(h:Fok d)(c:Ch):Fok (Dk.change {d with files:=d.files++[Fl.none]} c):=
 ⟨fun f hf=>by
  rcases mem_append.1 (show f∈d.files++[Fl.none]from hf)with h1|h1
  ·exact h.ok f h1
  ·rw[mem_singleton.1 h1];exact QB,fun f hf=>by
  rcases mem_append.1 (show f∈d.files++[Fl.none]from hf)with h1|h1
  ·exact h.tidy f h1
  ·rw[mem_singleton.1 h1];exact VB⟩
theorem DatA.grow{G:Cont->Prop}{d:Dk}{k i j:Nat}{c:Ch}(h:DatA G d k j)(hl:nget (lists (Dk.change {d with files:=d.files++[Fl.none]} c) i) Aa=nget (lists d j) Aa):DatA G (Dk.change {d with files:=d.files++[Fl.none]} c) k i:=by
 unfold DatA
 rw[hl]
 rcases h with h1|⟨q,h1,h2,h3,h4⟩
 ·exact .inl h1
 ·refine .inr ⟨q,h1,?_,h3,by rw[OC h2];exact h4⟩
  show q<(d.files++[Fl.none]).length
  rw[length_append];omega
theorem JR(d:Dk)(c:Ch)(i:Nat):lists (Dk.change {d with files:=d.files++[Fl.none]} c) i=lists d i\/lists (Dk.change {d with files:=d.files++[Fl.none]} c) i=c.on d.names:=N9 {d with files:=d.files++[Fl.none]} c i
theorem Live.create{k m:Nat}{B:List UInt8}{G:Cont->Prop}{d:Dk}(h:Live k m B G d){n:ByteArray}(h1:nLog≠n)(h2:Aa≠n):Live k m B G (Dk.change {d with files:=d.files++[Fl.none]} (.create n d.files.length)):=by
 have hn:∀{x:ByteArray},x≠n->∀i,∃j,nget (lists (Dk.change {d with files:=d.files++[Fl.none]} (.create n d.files.length)) i) x=nget (lists d j) x:=fun{x} hx i=>by
  rcases JR d (.create n d.files.length) i with e|e
  ·exact⟨i,by rw[e]⟩
  ·refine⟨d.chs.length,?_⟩
   rw[e,FK]
   show nget (with_ _ _) x=_
   rw[EI,if_neg hx]
 refine⟨h.fok.grow _,fun i=>?_,?_,by rw[OC h.lt];exact h.logc,fun i=>?_⟩
 ·obtain⟨j,hj⟩:=hn h1 i
  rw[hj];exact h.log j
 ·have:=h.lt
  show k<(d.files++[Fl.none]).length
  rw[length_append];omega
 ·obtain⟨j,hj⟩:=hn h2 i
  exact(h.data j).grow hj
theorem Live.createD{k m:Nat}{B:List UInt8}{G:Cont->Prop}{d:Dk}(h:Live k m B G d)(hf:d.find Aa=none):Live k m B G (Dk.change {d with files:=d.files++[Fl.none]} (.create Aa d.files.length)):=by
 have hz:G dC:=by
  have hd:=h.data d.chs.length
  unfold DatA at hd
  rw[FK]at hd
  rcases hd with⟨_,h2⟩|⟨q,h2,_⟩
  ·exact h2
  ·rw[Dk.find,h2]at hf;cases hf
 refine⟨h.fok.grow _,fun i=>?_,?_,by rw[OC h.lt];exact h.logc,fun i=>?_⟩
 ·rcases JR d (.create Aa d.files.length) i with e|e
  ·rw[e];exact h.log i
  ·rw[e]
   show nget (with_ _ _) nLog=_
   rw[EI,if_neg OY]
   have:=h.log d.chs.length
   rw[FK]at this
   exact this
 ·have:=h.lt
  show k<(d.files++[Fl.none]).length
  rw[length_append];omega
 ·rcases JR d (.create Aa d.files.length) i with e|e
  ·exact(h.data i).grow (by rw[e])
  ·unfold DatA
   rw[e]
   refine .inr ⟨d.files.length,?_,?_,?_,fun c hc=>?_⟩
   ·show nget (with_ _ _) Aa=_
    rw[EI,if_pos rfl]
   ·show d.files.length<(d.files++[Fl.none]).length
    rw[length_append];simp
   ·have:=h.lt;omega
   ·rw[WC]at hc
    rw[ZY hc];exact hz
theorem Live.cZ{k m:Nat}{B:List UInt8}{G:Cont->Prop}{d:Dk}(h:Live k m B G d):Live k m B G (Au d).1:=by
 unfold Au
 split
 ·rename_i hs
  rcases Jf d Aa with⟨c,_⟩|c
  ·exact h.core c
  ·refine(h.createD ?_).core c
   cases hf:d.find Aa with
   |none=>rfl
   |some q=>rw[Dk.size,hf]at hs;exact absurd hs (by simp)
 ·exact h
structure NewF(d:Dk)(k K:Nat)(f:Fl):Prop where
 find:d.find nNew=some K
 lt:K<d.files.length
 file:d.file K=f
 ne:K≠k
 dat:∀i q,nget (lists d i) Aa=some q->q≠K
theorem NewF.core{d e:Dk}{k K:Nat}{f:Fl}(h:NewF d k K f)(c:Core d e):NewF e k K f:=
 ⟨by rw[c.find];exact h.find,by rw[c.files];exact h.lt,by rw[c.file];exact h.file,h.ne,fun i q hq=>h.dat i q (by rw[<- JD c];exact hq)⟩
theorem NewF.put{d:Dk}{k K:Nat}{f:Fl}(h:NewF d k K f)(g:Fl):NewF (d.put K g) k K g:=
 ⟨h.find,by rw[EJ];exact h.lt,EE h.lt g,h.ne,h.dat⟩
theorem Live.putN{k m K:Nat}{B:List UInt8}{G:Cont->Prop}{d:Dk}{f:Fl}(h:Live k m B G d)(hN:NewF d k K f){g:Fl}(hg:g.Ok)(ht:g.Tidy):Live k m B G (d.put K g):=
 ⟨h.fok.put hg ht K,h.log,by rw[EJ];exact h.lt,by rw[Cm g hN.ne.symm];exact h.logc,fun i=>(h.data i).put g (hN.dat i)⟩
def QN(k m:Nat)(B:List UInt8)(G:Cont->Prop)(P:Dk->Prop)(r:Dk×Int):Prop:=Live k m B G r.1/\(r.2=0->P r.1)
theorem QN.thn{k m:Nat}{B:List UInt8}{G:Cont->Prop}{P P':Dk->Prop}{r:Dk×Int}{f:Dk->Dk×Int}(h:QN k m B G P r)(hf:∀d,Live k m B G d->P d->QN k m B G P' (f d)):QN k m B G P' (Redo.thn r f):=by
 rw[Redo.thn]
 split
 ·rename_i h0;exact hf _ h.1 (h.2 h0)
 ·rename_i h0;exact⟨h.1,fun e=>absurd e h0⟩
section
variable{k m K:Nat}{B:List UInt8}{G:Cont->Prop}{d:Dk}{f:Fl}
theorem Ot(h:Live k m B G d)(hN:NewF d k K f){i:Nat}(hi:i<=f.now.length){b:List UInt8}(hb:b.length<=512):QN k m B G (fun d=>NewF d k K (f.write i b)) (d.write nNew (i:Int) b):=by
 obtain⟨ok,tidy⟩:=h.fok.at hN.lt
 rw[hN.file]at ok tidy
 rcases Ey d nNew (i:Int) b with⟨c,hne⟩|⟨k',hk',_,_,_,c⟩
 ·exact⟨h.core c,fun e=>absurd e hne⟩
 ·rw[hN.find]at hk'
  cases hk'
  rw[Int.toNat_natCast,hN.file]at c
  exact⟨(h.putN hN (ok.write hi hb) (Fl.Iu tidy hi b)).core c,fun _=>(hN.put _).core c⟩
theorem Xc(h:Live k m B G d)(hN:NewF d k K f):QN k m B G (fun d=>NewF d k K f.sync) (d.sync nNew):=by
 obtain⟨ok,tidy⟩:=h.fok.at hN.lt
 rw[hN.file]at ok tidy
 rcases Gi d nNew with⟨c,hne⟩|⟨k',hk',_,c⟩
 ·exact⟨h.core c,fun e=>absurd e hne⟩
 ·rw[hN.find]at hk'
  cases hk'
  rw[hN.file]at c
  exact⟨(h.putN hN (Fl.QO ok) (Fl.Kw f)).core c,fun _=>(hN.put _).core c⟩
theorem create_new(h:Live k m B G d):QN k m B G (fun e=>NewF e k d.files.length Fl.none) (d.create nNew):=by
 rcases Jf d nNew with⟨c,hne⟩|c
 ·exact⟨h.core c,fun e=>absurd e hne⟩
 ·refine⟨(h.create Rx.symm Ie.symm).core c,fun _=>NewF.core ⟨?_,?_,WC _ _,?_,fun i q hq=>?_⟩ c⟩
  ·show nget (ons d.firm (d.chs++[_])) nNew=_
   rw[ons,foldl_append]
   show nget (with_ _ _) nNew=_
   rw[EI,if_pos rfl]
  ·show d.files.length<(d.files++[Fl.none]).length
   rw[length_append];simp
  ·have:=h.lt;omega
  ·have hj:∃j,nget (lists d j) Aa=some q:=by
    rcases JR d (.create nNew d.files.length) i with e|e
    ·rw[e]at hq;exact⟨i,hq⟩
    ·rw[e]at hq
     have hq:nget (with_ _ _) Aa=some q:=hq
     rw[EI,if_neg Ie.symm]at hq
     exact⟨d.chs.length,by rw[FK];exact hq⟩
   obtain⟨j,hj⟩:=hj
   rcases h.data j with⟨h1,_⟩|⟨q',h1,h2,_⟩
   ·rw[h1]at hj;cases hj
   ·rw[h1]at hj;cases hj;omega
end
def Jb:Fl:=⟨[zsec,Ba 1 0],[zsec,Ba 1 0],[]⟩
theorem goodF_eq:((((((Fl.none.write 0 []).write 1 []).sync).write (1%2) (Ba 1 0)).sync))=Jb:=by
 have e:pad (Ba 1 0)=Ba 1 0:=by rw[pad,FN,Nat.sub_self];simp
 simp only[Fl.write,Fl.sync,Fl.none,Jb]
 rw[e];rfl
theorem Ws:IV (cont Jb.now) 1 []:=
 ⟨by show 2+nsec 0<=2;decide,by show Ec (Ba 1 0)=some (1,0);exact Q8 (by decide) (by decide),.inl (by show zsec.drop 504=be ((0:Nat):Int) 8;decide+kernel),by omega,fun k hk=>by simp at hk,by decide,by decide⟩
theorem fill_new{k m:Nat}{B:List UInt8}{G:Cont->Prop}{d:Dk}(h:Live k m B G d):QN k m B G (fun e=>∃K,NewF e k K Jb) (bn d nNew []):=by
 rw[bn]
 have h1:=(create_new h).thn (f:=fun d=>d.write nNew 0 []) fun e he hN=>Ot he hN (i:=0) (b:=[]) (Nat.zero_le _) (Nat.zero_le _)
 have h2:=h1.thn (f:=fun d=>d.write nNew 1 []) fun e he hN=>Ot he hN (i:=1) (b:=[]) (Nat.le_refl 1) (Nat.zero_le _)
 have h3:=h2.thn (f:=fun d=>bU d nNew [] 0) (P':=fun e=>NewF e k d.files.length ((Fl.none.write 0 []).write 1 [])) fun e he hN=>⟨by exact he,fun _=>by exact hN⟩
 refine h3.thn (f:=fun d=>bY d nNew 1 ([]:List UInt8).length) fun e he hN=>?_
 rw[bY]
 have h4:=(Xc he hN).thn (f:=fun d=>d.write nNew ((1%2:Nat):Int) (Ba 1 ([]:List UInt8).length)) fun e he hN=>Ot he hN (i:=1%2) (b:=Ba 1 [].length) (by show 1<=2;omega) (by rw[FN];omega)
 refine h4.thn fun e he hN=>?_
 have h5:=Xc he hN
 refine⟨h5.1,fun h0=>⟨d.files.length,?_⟩⟩
 have h6:=h5.2 h0
 rw[<- goodF_eq]
 exact h6
theorem Live.renew{k m:Nat}{B:List UInt8}{G:Cont->Prop}{d:Dk}(h:Live k m B G d):((bW d nLog []).2=0/\∃K,Live K 1 [] G (bW d nLog []).1)\/((bW d nLog []).2≠0/\AnyD (Two m B 1 []) G (bW d nLog []).1):=by
 have two:∀{e:Dk},Live k m B G e->AnyD (Two m B 1 []) G e:=fun h=>h.any (.inl ⟨rfl,rfl⟩)
 rw[bW]
 have hf0:AV []=[]:=rfl
 rw[hf0]
 have h1:=fill_new h
 show((Redo.thn (Redo.thn (bn d nNew []) fun d=>d.rename nNew nLog) fun d=>d.Ad).2=0/\_)\/_
 change QN k m B G (fun e=>∃K,NewF e k K Jb) (bn d nNew [])at h1
 rw[show bn d (newN nLog) []=bn d nNew []from rfl,show newN nLog=nNew from rfl]
 generalize bn d nNew []=r at h1
 rw[Redo.thn,Redo.thn]
 by_cases h0:r.2=0
 ·rw[if_pos h0]
  obtain⟨K,hN⟩:=h1.2 h0
  have hL:=h1.1
  obtain⟨r2,hr2⟩:∃r2,r2=r.1.rename nNew nLog:=⟨_,rfl⟩
  rw[<- hr2]
  rcases P7 r.1 nNew nLog Rx with⟨c,hne⟩|⟨K',hK',c⟩
  ·rw[<- hr2]at c hne
   rw[if_neg hne]
   exact .inr ⟨hne,two (hL.core c)⟩
  ·rw[hN.find]at hK'
   cases hK'
   rw[<- hr2]at c
   have hon:nget ((Ch.rename nNew nLog K).on r.1.names) nLog=some K:=by
    show nget (with_ (without r.1.names nNew) ⟨nLog,K⟩) nLog=_
    rw[EI,if_pos rfl]
   have hond:nget ((Ch.rename nNew nLog K).on r.1.names) Aa=nget r.1.names Aa:=by
    show nget (with_ (without r.1.names nNew) ⟨nLog,K⟩) Aa=_
    rw[EI,if_neg OY.symm,GX,if_neg Ie.symm]
   have hgood:∀c2,(r.1.file K).Cr c2->IV c2 1 []:=fun c2 hc2=>by
    rw[hN.file]at hc2
    rw[Fl.Cr.same (l:=Jb.now) hc2];exact Ws
   have hdn:DatA G (r.1.change (.rename nNew nLog K)) K (r.1.chs.length+1):=by
    have hd:=hL.data r.1.chs.length
    unfold DatA at hd⊢
    have el:lists (r.1.change (.rename nNew nLog K)) (r.1.chs.length+1)=(Ch.rename nNew nLog K).on r.1.names:=by
     rw[lists]
     show ons r.1.firm ((r.1.chs++[_]).take (r.1.chs.length+1))=_
     rw[take_of_length_le (by rw[length_append];exact Nat.le_refl _),ons,foldl_append];rfl
    rw[el,hond]
    rw[FK]at hd
    rcases hd with h5|⟨q,h5,h6,h7,h8⟩
    ·exact .inl h5
    ·exact .inr ⟨q,h5,h6,hN.dat r.1.chs.length q (by rw[FK];exact h5),h8⟩
   have hA:AnyD (Two m B 1 []) G r2.1:=by
    refine AnyD.core c ⟨⟨hL.fok.ok,hL.fok.tidy⟩,fun i=>?_⟩
    rcases N9 r.1 (.rename nNew nLog K) i with e|e
    ·refine⟨k,by rw[e];exact hL.log i,hL.lt,fun c2 hc2=>⟨m,B,.inl ⟨rfl,rfl⟩,hL.logc c2 hc2⟩,?_⟩
     have hd:=hL.data i
     unfold DatA at hd⊢
     rw[e];exact hd
    ·refine⟨K,by rw[e];exact hon,hN.lt,fun c2 hc2=>⟨1,[],.inr ⟨rfl,rfl⟩,hgood c2 hc2⟩,?_⟩
     unfold DatA at hdn⊢
     have el:lists (r.1.change (.rename nNew nLog K)) (r.1.chs.length+1)=(Ch.rename nNew nLog K).on r.1.names:=by
      rw[lists]
      show ons r.1.firm ((r.1.chs++[_]).take (r.1.chs.length+1))=_
      rw[take_of_length_le (by rw[length_append];exact Nat.le_refl _),ons,foldl_append];rfl
     rw[el]at hdn
     rw[e];exact hdn
   by_cases h02:r2.2=0
   ·rw[if_pos h02]
    rcases FU r2.1 with⟨c3,hne⟩|⟨h03,c3⟩
    ·exact .inr ⟨hne,hA.core c3⟩
    ·refine .inl ⟨h03,K,Live.core c3 ?_⟩
     have hnames:r2.1.names=(Ch.rename nNew nLog K).on r.1.names:=by
      rw[c.names,Dk.names]
      show ons r.1.firm (r.1.chs++[_])=_
      rw[ons,foldl_append];rfl
     have hlist:∀i,lists {r2.1 with firm:=r2.1.names,chs:=[]} i=(Ch.rename nNew nLog K).on r.1.names:=fun i=>by
      rw[lists]
      show ons r2.1.names (List.take i [])=_
      rw[take_nil,hnames];rfl
     have hfile:∀q,Dk.file {r2.1 with firm:=r2.1.names,chs:=[]} q=r.1.file q:=fun q=>c.file q
     have hfl:r2.1.files=r.1.files:=c.files
     refine⟨⟨by show∀f∈r2.1.files,f.Ok;rw[hfl];exact hL.fok.ok,by show∀f∈r2.1.files,f.Tidy;rw[hfl];exact hL.fok.tidy⟩,fun i=>by rw[hlist];exact hon,by show K<r2.1.files.length;rw[hfl];exact hN.lt,by rw[hfile];exact hgood,fun i=>?_⟩
     unfold DatA at hdn⊢
     rw[hlist]
     have el:lists (r.1.change (.rename nNew nLog K)) (r.1.chs.length+1)=(Ch.rename nNew nLog K).on r.1.names:=by
      rw[lists]
      show ons r.1.firm ((r.1.chs++[_]).take (r.1.chs.length+1))=_
      rw[take_of_length_le (by rw[length_append];exact Nat.le_refl _),ons,foldl_append];rfl
     rw[el]at hdn
     rcases hdn with h5|⟨q,h5,h6,h7,h8⟩
     ·exact .inl h5
     ·exact .inr ⟨q,h5,by show q<r2.1.files.length;rw[hfl];exact h6,h7,by rw[hfile];exact h8⟩
   ·rw[if_neg h02]
    exact .inr ⟨h02,hA⟩
 ·rw[if_neg h0,if_neg h0]
  exact .inr ⟨h0,two h1.1⟩
theorem Tz:∀{fs:List Fl}{ps:List Int}{k:Nat}{f:Fl},fs[k]? =some f->∃qs,(D6 fs ps)[k]? =some (f.found qs)
 | [],_,_,_,h=>by simp at h
 |g::fs,ps,0,f,h=>by
  simp at h;subst h
  exact⟨ps,rfl⟩
 |g::fs,ps,k+1,f,h=>by
  simp at h
  obtain⟨qs,hq⟩:=Tz (ps:=ps.drop g.since.length) h
  exact⟨qs,by simpa [D6]using hq⟩
theorem crash_file{d:Dk}{k:Nat}(hk:k<d.files.length)(n:Int)(ps:List Int):∃qs,(d.bV n ps).file k=(d.file k).found qs:=by
 obtain⟨qs,hq⟩:=Tz (ps:=ps) (List.getElem?_eq_getElem hk)
 refine⟨qs,?_⟩
 have e:d.file k=d.files[k]:=by simp[Dk.file,getD_eq_getElem?_getD,hk]
 rw[e]
 simp only[Dk.bV,Dk.file,getD_eq_getElem?_getD,hq,Option.getD_some]
theorem AnyD.bV{Q:Nat->List UInt8->Prop}{G:Cont->Prop}{d:Dk}(h:AnyD Q G d)(n:Int)(ps:List Int):∃k m B,Q m B/\Live k m B G (d.bV n ps):=by
 obtain⟨i,hi⟩:∃i,i=(min (max n 0) d.chs.length).toNat:=⟨_,rfl⟩
 have hlist:∀j,lists (d.bV n ps) j=lists d i:=fun j=>by
  rw[lists,lists]
  show ons (ons d.firm (d.chs.take _)) (List.take j [])=_
  rw[take_nil,hi];rfl
 have hfl:(d.bV n ps).files.length=d.files.length:=Fg _ _
 obtain⟨k,h1,h2,h3,h4⟩:=h.log i
 have hfound:∀q,q<d.files.length->∃l,(d.bV n ps).file q=⟨l,l,[]⟩/\(d.file q).Cr (cont l):=fun q hq=>by
  obtain⟨qs,hqs⟩:=crash_file hq n ps
  exact⟨_,hqs,Fl.Cr.found (h.fok.at hq).1 qs (KJ (h.fok.at hq).1 qs).2⟩
 obtain⟨l,hl1,hl2⟩:=hfound k h2
 obtain⟨m,B,hQ,hLog⟩:=h3 _ hl2
 refine⟨k,m,B,hQ,⟨⟨fun f hf=>?_,fun f hf=>?_⟩,fun j=>by rw[hlist];exact h1,by rw[hfl];exact h2,fun c hc=>?_,fun j=>?_⟩⟩
 ·obtain⟨g,hg,qs,rfl⟩:=Hq (show f∈D6 d.files ps from hf)
  exact(KJ (h.fok.ok g hg) qs).1
 ·obtain⟨g,hg,qs,rfl⟩:=Hq (show f∈D6 d.files ps from hf)
  exact fun n _=>rfl
 ·rw[hl1]at hc
  rw[Fl.Cr.same hc];exact hLog
 ·unfold DatA at h4⊢
  rw[hlist]
  rcases h4 with h5|⟨q,h5,h6,h7,h8⟩
  ·exact .inl h5
  ·obtain⟨lq,hq1,hq2⟩:=hfound q h6
   refine .inr ⟨q,h5,by rw[hfl];exact h6,h7,fun c hc=>?_⟩
   rw[hq1]at hc
   rw[Fl.Cr.same hc];exact h8 _ hq2
theorem Live.CV{k m:Nat}{B:List UInt8}{G:Cont->Prop}{d:Dk}(h:Live k m B G d)(hd:d.dead=false){all:List ByteArray}(ha:records B=some all):CV d nLog=(d,0,⟨nLog,m,B,B.length,all.length,all,0⟩):=by
 have hk:=h.find
 have hn:=h.now
 have hlen:=hn.len
 have hs:d.size nLog=(((d.file k).now.length:Nat):Int):=by rw[Dk.size,hk];rfl
 unfold Redo.CV
 have hlen:2+nsec B.length<=(d.file k).now.length:=hlen
 rw[if_neg (by rw[hd];simp),if_neg (by decide),if_pos (by rw[hs];omega),hn.find hd hk (h.fok.at h.lt).1.now ha]
end Go.Proofs.YtdeebigmpffnbaaGreat
namespace Go.Proofs.YtdeebigmpffnbaaGreat.Sl
open Go Go.Vc
theorem parse_at{g:Pg}(h:g.Ok)(k:Nat):atOf (parse g.bs) k=atOf g k/\lenOf (parse g.bs) k=lenOf g k:=by
 simp only[atOf,lenOf,parse,getD_eq_getElem?_getD,List.getElem?_map]
 by_cases hk:k<120
 ·have hl:k<g.dir.length:=by rw[h.dir];exact hk
  rw[List.getElem?_range hk,List.getElem?_eq_getElem hl]
  have h1:=h.ent1 hk
  have h2:=h.ent2 hk
  simp only[Option.map_some,Option.getD_some,twoP]
  exact⟨h1,h2⟩
 ·have hl:g.dir.length<=k:=by rw[h.dir];omega
  have hr:(List.range 120)[k]? =none:=List.getElem?_eq_none (by rw[List.length_range];omega)
  rw[hr,List.getElem?_eq_none hl]
  exact⟨rfl,rfl⟩
theorem Og{g:Pg}{L:Recs}{stamp:Nat}(h:Rep g L stamp):∀(m k:Nat),k+m=g.many->Ih (parse g.bs) m k (upto L k)=some L
 |0,k,hk=>by rw[Ih,upto_all fun p hp=>by have:=h.below p hp;omega]
 |m+1,k,hk=>by
  obtain⟨e1,e2⟩:=parse_at h.ok k
  have hb:(parse g.bs).bs=g.bs:=(WY h.ok.len).2
  rw[Ih,e1,e2,hb]
  by_cases h0:atOf g k=0
  ·rw[if_pos h0]
   have hn:∀s,(k,s)∉L:=fun s hs=>by have:=(h.at_ hs).1;omega
   rw[<- upto_skip hn]
   exact Og h m (k+1) (by omega)
  ·obtain⟨s,hs⟩:=h.G9.1 ⟨(by omega:k<g.many),(by omega:0<atOf g k)⟩
   obtain⟨h1,h2,h3,h4⟩:=h.at_ hs
   have hmany:=h.ok.many
   rw[if_neg h0,if_neg (by omega)]
   have h5:(g.bs.drop (atOf g k)).take (lenOf g k)=s:=h4
   rw[h5]
   have hins:=upto_step h.sorted hs
   have htot:tot (wo (upto L k) k)+s.length<=3600:=by
    have h6:tot (upto L (k+1))=tot (wo (upto L k) k)+s.length:=by
     rw[<- hins,Ik (Gl _ _),DV];exact Nat.add_comm _ _
    have h7:=tot_sub L fun p=>decide (p.1<k+1)
    have h8:tot (upto L (k+1))<=tot L:=h7
    have:=h.small
    omega
   have hput:aput (upto L k) (k:Int) s=(upto L (k+1),0):=by
    rw[aput,if_neg (by omega),Int.toNat_natCast,if_neg (by omega),hins]
   dsimp only
   rw[hput,if_pos rfl]
   exact Og h m (k+1) (by omega)
theorem KX{g:Pg}{L:Recs}{stamp:Nat}(h:Rep g L stamp):Jh g.bs=some (L,stamp):=by
 have hst:(parse g.bs).st=g.st:=by
  show g.bs.take 8=g.st
  rw[Pg.bs];exact List.take_left' h.ok.st
 have hhdr:(parse g.bs).hdr=g.many:=by
  show twoP g.bs 8=g.many
  have e:(g.bs.drop 8).take 2=be g.hdr 2:=by
   rw[Pg.bs,List.drop_left' h.ok.st]
   exact List.take_left' (AU _ _)
  rw[twoP,e,<- h.hdr]
  have h1:=h.ok.hdr
  have:=Dj (n:=(g.hdr:Int)) (k:=2) (by omega) (by omega)
  omega
 have hnum:num g.st=(stamp:Int):=by
  rw[h.st]
  have:=h.stamp
  exact num_be (by omega) (by omega) (by omega)
 have hmany:=h.ok.many
 have hs:=h.stamp
 rw[Jh]
 rw[hst,hhdr,hnum,if_neg (by unfold Eo;omega),show([]:Recs)=upto L 0 by simp[upto],Og h g.many 0 (by omega)]
 simp
theorem XN:∃g:Pg,Rep g [] 0/\g.bs=List.replicate 4096 0:=by
 refine⟨gZ 4096,Vz,?_⟩
 show List.replicate 8 (0:UInt8)++(be ((0:Nat):Int) 2++(dirB (List.replicate 120 (0,0))++List.replicate 3606 0))=List.replicate 4096 0
 have e1:be ((0:Nat):Int) 2=List.replicate 2 (0:UInt8):=by decide
 have e2:∀n,dirB (List.replicate n ((0:Nat),(0:Nat)))=List.replicate (4*n) (0:UInt8):=by
  intro n
  induction n with
  |zero=>rfl
  |succ n ih=>
   rw[List.replicate_succ,Ko,ih]
   have e3:be (((0,0):Nat×Nat).1:Int) 2++be (((0,0):Nat×Nat).2:Int) 2=List.replicate 4 (0:UInt8):=by decide
   rw[e3,List.replicate_append_replicate,show 4+4*n=4*(n+1) by omega]
 rw[e1,e2,List.replicate_append_replicate,List.replicate_append_replicate,List.replicate_append_replicate]
end Go.Proofs.YtdeebigmpffnbaaGreat.Sl
namespace Go.Proofs.YtdeebigmpffnbaaGreat
open Go Go.Vc Go.Vault Go.Redo
def recs(Ps:List AP)(n:Nat):Sl.Recs:=((Ps[n]?).getD ([],0)).1
theorem UA(Ps:List AP)(m n:Nat):recs (CS Ps m) n=recs Ps n:=by
 have:=RX Ps m (n:Int)
 rw[CO,CO,Int.toNat_natCast]at this
 rw[recs,recs,this]
theorem recs_set{Ps:List AP}{n:Nat}(h:n<Ps.length)(P:AP)(i:Nat):recs (Ps.set n P) i=if i=n then P.1 else recs Ps i:=by
 rw[recs,recs]
 split
 ·rename_i e;subst e;rw[List.getElem?_set_self h];rfl
 ·rename_i e;rw[List.getElem?_set_ne (fun h=>e h.symm)]
theorem Iz(Ps:List AP)(n:Nat)(P:AP)(i:Nat):recs ((CS Ps (n+1)).set n P) i=if i=n then P.1 else recs Ps i:=by
 rw[recs_set (by rw[EY];omega),UA]
def rdC(c:Cont)(n:Nat):List UInt8:=(List.range 8).flatMap fun k=>c.v (n*8+k)
def pgC(c:Cont)(n:Nat):Option AP:=Sl.Jh (rdC c n)
def Ep(c:Cont)(n:Nat)(L:Sl.Recs):Prop:=∃st,pgC c n=some (L,st)
theorem YI{d:Dk}(hd:d.dead=false){q:Nat}(hq:d.find Aa=some q)(n:Nat):∀(m k:Nat)(b:List UInt8),rdF d n m k b=(b++(List.range m).flatMap (fun i=>val (d.file q).now (n*8+(k+i))),0)
 |0,k,b=>by simp[rdF]
 |m+1,k,b=>by
  have hr:(b++if(d.read Aa ((n*8+k:Nat):Int)).2=0 then(d.read Aa ((n*8+k:Nat):Int)).1 else List.replicate 512 0)=b++val (d.file q).now (n*8+k)/\((d.read Aa ((n*8+k:Nat):Int)).2=0\/(d.read Aa ((n*8+k:Nat):Int)).2=91):=by
   by_cases h:n*8+k<d.len q
   ·have e:=Vf hd hq h
    have hv:val (d.file q).now (n*8+k)=(d.file q).now.getD (n*8+k) []:=by
     have h:n*8+k<(d.file q).now.length:=h
     rw[SY h];simp[getD_eq_getElem?_getD,h]
    rw[e,hv]
    exact⟨by simp,.inl rfl⟩
   ·have e:d.read Aa ((n*8+k:Nat):Int)=([],91):=by
     have h2:(((n*8+k:Nat):Int)<0\/(d.len q:Int)<=((n*8+k:Nat):Int)):=.inr (by omega)
     simp only[Dk.read,hd,hq,Bool.false_eq_true,if_false,if_pos h2]
    have hv:val (d.file q).now (n*8+k)=List.replicate 512 0:=KR (Nat.le_of_not_lt h)
    rw[e,hv]
    exact⟨by simp,.inr rfl⟩
  rw[rdF]
  have hsh:(List.range (m+1)).flatMap (fun i=>val (d.file q).now (n*8+(k+i)))=val (d.file q).now (n*8+k)++(List.range m).flatMap fun i=>val (d.file q).now (n*8+(k+1+i)):=by
   rw[List.range_succ_eq_map,flatMap_cons,List.flatMap_map]
   congr 1
   refine congrArg (fun f=>(List.range m).flatMap f) (funext fun i=>?_)
   show val _ (n*8+(k+(i+1)))=_
   rw[show k+(i+1)=k+1+i by omega]
  rw[hsh,<- append_assoc,<- hr.1]
  rcases hr.2 with h|h
  ·rw[if_pos h,if_pos h,YI hd hq n m (k+1)]
  ·rw[if_neg (by rw[h];decide),if_pos h,if_neg (by rw[h];decide),YI hd hq n m (k+1)]
theorem readP_ok{d:Dk}(hd:d.dead=false){q:Nat}(hq:d.find Aa=some q){n:Nat}{L:Sl.Recs}(h:Ep (cont (d.file q).now) n L):∃st,EG d n=(some (L,st),0):=by
 obtain⟨st,hst⟩:=h
 refine⟨st,?_⟩
 have e:=YI hd hq n 8 0 []
 have e2:([]:List UInt8)++(List.range 8).flatMap (fun i=>val (d.file q).now (n*8+(0+i)))=rdC (cont (d.file q).now) n:=by
  rw[nil_append,rdC]
  refine congrArg (fun f=>(List.range 8).flatMap f) (funext fun i=>?_)
  show val _ (n*8+(0+i))=val _ (n*8+i)
  rw[Nat.zero_add]
 rw[e2]at e
 rw[EG,e]
 dsimp only
 rw[if_pos rfl]
 have hst:Sl.Jh (rdC (cont (d.file q).now) n)=some (L,st):=hst
 rw[hst]
theorem Lj{d:Dk}(hd:d.dead=false){q:Nat}(hq:d.find Aa=some q){T:Tou}{R:Nat->Sl.Recs}:∀(m n:Nat)(Ps:List AP),(∀i,n<=i->i<n+m->T (i:Int)=0->Ep (cont (d.file q).now) i (R i))->
  ∃Qs,readAll d T m n Ps=(Qs,0)/\∀i,recs Qs i=if n<=i/\i<n+m/\T (i:Int)=0 then R i else recs Ps i
 |0,n,Ps,h=>⟨Ps,rfl,fun i=>by rw[if_neg (by omega)]⟩
 |m+1,n,Ps,h=>by
  rw[readAll]
  by_cases hT:0<T (n:Int)
  ·rw[if_pos hT]
   obtain⟨Qs,h1,h2⟩:=Lj hd hq m (n+1) (CS Ps (n+1)) (fun i h1 h2 h3=>h i (by omega) (by omega) h3)
   refine⟨Qs,h1,fun i=>?_⟩
   rw[h2,UA]
   by_cases hi:i=n
   ·subst hi
    rw[if_neg (by omega),if_neg (by omega)]
   ·by_cases h5:n+1<=i/\i<n+1+m/\T (i:Int)=0
    ·rw[if_pos h5,if_pos ⟨by omega,by omega,h5.2.2⟩]
    ·rw[if_neg h5,if_neg (fun h6=>h5 ⟨by omega,by omega,h6.2.2⟩)]
  ·rw[if_neg hT]
   obtain⟨st,hst⟩:=readP_ok hd hq (h n (Nat.le_refl _) (by omega) (by omega))
   rw[hst]
   dsimp only
   obtain⟨Qs,h1,h2⟩:=Lj hd hq m (n+1) ((CS Ps (n+1)).set n (R n,st)) (fun i h1 h2 h3=>h i (by omega) (by omega) h3)
   refine⟨Qs,h1,fun i=>?_⟩
   rw[h2,Iz]
   by_cases hi:i=n
   ·subst hi
    rw[if_neg (by omega),if_pos rfl,if_pos ⟨by omega,by omega,by omega⟩]
   ·rw[if_neg hi]
    by_cases h5:n+1<=i/\i<n+1+m/\T (i:Int)=0
    ·rw[if_pos h5,if_pos ⟨by omega,by omega,h5.2.2⟩]
    ·rw[if_neg h5,if_neg (fun h6=>h5 ⟨by omega,by omega,h6.2.2⟩)]
def norm(c:Chg1):Chg1:=⟨c.page,c.slot,chB c,c.gone⟩
theorem laid_parts{c:Chg1}(h:¬badC c)(r:List UInt8):6<=(BR c++r).length/\valN (((BR c++r).take 6).drop 4)=(chB c).size/\(BR c++r).drop (6+(chB c).size)=r/\one1 (BR c++r)=norm c:=by
 unfold badC at h
 have h1:0<=c.page:=Int.not_lt.1 fun e=>h (.inl e)
 have h2:c.page<4096:=Int.not_le.1 fun e=>h (.inr (.inl e))
 have h3:0<=c.slot:=Int.not_lt.1 fun e=>h (.inr (.inr (.inl e)))
 have h4:c.slot<120:=Int.not_le.1 fun e=>h (.inr (.inr (.inr (.inl e))))
 have h5:(chB c).size<=3600:=by have:=I7 (c:=c) h;rw[NF]at this;omega
 have hS:(chB c).data.toList.length=(chB c).size:=Vx _
 obtain⟨g,hg⟩:∃g:Int,g=if c.gone=true then 1 else 0:=⟨_,rfl⟩
 have e0:BR c++r=be c.page 2++(be c.slot 1++(be g 1++(be ((chB c).size:Int) 2++((chB c).data.toList++r)))):=by
  rw[BR,hg];simp only[append_assoc]
 rw[e0]
 have l2:(be c.page 2).length=2:=AU _ _
 have l1:(be c.slot 1).length=1:=AU _ _
 have lg:(be g 1).length=1:=AU _ _
 have ls:(be ((chB c).size:Int) 2).length=2:=AU _ _
 have v2:(valN (be c.page 2):Int)=c.page:=Dj h1 (by omega)
 have v1:(valN (be c.slot 1):Int)=c.slot:=Dj h3 (by omega)
 have vs:valN (be ((chB c).size:Int) 2)=(chB c).size:=by have:=Dj (n:=((chB c).size:Int)) (k:=2) (by omega) (by omega);omega
 generalize be c.page 2=A at*
 generalize be c.slot 1=B at*
 generalize hC:be g 1=C at*
 generalize be ((chB c).size:Int) 2=D at*
 generalize hSS:(chB c).data.toList=S at*
 have t3:((A++(B++(C++(D++(S++r))))).take 3).drop 2=B:=by
  rw[<- append_assoc,List.take_left' (by rw[length_append];omega),List.drop_left' l2]
 have t6:((A++(B++(C++(D++(S++r))))).take 6).drop 4=D:=by
  have e:A++(B++(C++(D++(S++r))))=(A++(B++(C++D)))++(S++r):=by simp only[append_assoc]
  rw[e,List.take_left' (by simp only[length_append];omega)]
  have e2:A++(B++(C++D))=(A++(B++C))++D:=by simp only[append_assoc]
  rw[e2,List.drop_left' (by simp only[length_append];omega)]
 have d6:(A++(B++(C++(D++(S++r))))).drop (6+(chB c).size)=r:=by
  have e:A++(B++(C++(D++(S++r))))=(A++(B++(C++(D++S))))++r:=by simp only[append_assoc]
  rw[e,List.drop_left' (by simp only[length_append];omega)]
 have s6:((A++(B++(C++(D++(S++r))))).take (6+(chB c).size)).drop 6=S:=by
  have e:A++(B++(C++(D++(S++r))))=(A++(B++(C++(D++S))))++r:=by simp only[append_assoc]
  rw[e,List.take_left' (by simp only[length_append];omega)]
  have e2:A++(B++(C++(D++S)))=(A++(B++(C++D)))++S:=by simp only[append_assoc]
  rw[e2,List.drop_left' (by simp only[length_append];omega)]
 refine⟨by simp only[length_append];omega,by rw[t6];exact vs,d6,?_⟩
 have hgone:decide (sb ⟨(A++(B++(C++(D++(S++r))))).toArray⟩ 3=1)=c.gone:=by
  have e:(A++(B++(C++(D++(S++r)))))[3]? =C[0]? :=by
   have e2:A++(B++(C++(D++(S++r))))=(A++B)++(C++(D++(S++r))):=by simp only[append_assoc]
   rw[e2,List.getElem?_append_right (by simp only[length_append];omega),length_append,l2,l1,List.getElem?_append_left (by omega)]
  have e3:sb ⟨(A++(B++(C++(D++(S++r))))).toArray⟩ 3=(((C[0]?).getD 0).toNat:Int):=by
   rw[sb,<- e];rfl
  rw[e3,<- hC,hg]
  cases c.gone<;>decide
 rw[one1,t6,vs,t3,s6,List.take_left' l2,hgone]
 have hSd:(⟨S.toArray⟩:ByteArray)=chB c:=by rw[<- hSS]
 rw[hSd,norm,v2,v1]
theorem La:∀(l:List Chg1)(m:Nat)(acc:List Chg1),(∀c∈l,¬badC c)->l.length<m->IM m (l.flatMap BR) acc=some (acc++l.map norm)
 | [],m,acc,_,hm=>by
  obtain⟨m,rfl⟩:∃k,m=k+1:=⟨m-1,by simp at hm;omega⟩
  simp[IM]
 |c::r,m,acc,h,hm=>by
  rw[length_cons]at hm
  obtain⟨m,rfl⟩:∃k,m=k+1:=⟨m-1,by omega⟩
  obtain⟨h1,h2,h3,h4⟩:=laid_parts (h c (.head _)) (r.flatMap BR)
  have hl:(BR c++r.flatMap BR).length=6+(chB c).size+(r.flatMap BR).length:=by rw[length_append,NF]
  rw[flatMap_cons,IM,if_neg (by omega),if_neg (by omega),h2,if_neg (by omega),h3,h4,La r m (acc++[norm c]) (fun d hd=>h d (.tail _ hd)) (by omega)]
  simp
theorem IL:∀(l:List Chg1),l.length<=(l.flatMap BR).length
 | []=>by simp
 |c::r=>by
  rw[flatMap_cons,length_append,NF,length_cons]
  have:=IL r
  omega
theorem XC(c:Chg1):badC (norm c)↔badC c:=by
 unfold badC norm chB
 dsimp only
 cases hg:c.gone<;>simp
theorem Lc(Ps:List AP)(c:Chg1):FX Ps c=(Sl.lk (recs Ps c.page.toNat) c.slot).isSome:=by
 rw[FX,recs]
 cases Ps[c.page.toNat]? with
 |none=>rfl
 |some P=>rfl
def mapN(la:Last):Last:=la.map fun p=>(p.1,norm p.2)
theorem XA(la:Last)(k:Int×Int):gget (mapN la) k=(gget la k).map norm:=by
 induction la with
 |nil=>rfl
 |cons p r ih=>
  obtain⟨x,u⟩:=p
  simp only[mapN,map_cons,gget]at ih⊢
  split
  ·rfl
  ·exact ih
theorem XM(la:Last)(k:Int×Int)(c:Chg1):gput (mapN la) k (norm c)=mapN (gput la k c):=by
 induction la with
 |nil=>rfl
 |cons p r ih=>
  obtain⟨x,u⟩:=p
  simp only[mapN,map_cons,gput]at ih⊢
  split
  ·rfl
  ·rw[ih];rfl
theorem LY{Ps Qs:List AP}:∀(l:List Chg1)(o:Ord)(la:Last),(∀c∈l,recs Ps c.page.toNat=recs Qs c.page.toNat)->BU Qs (l.map norm) o (mapN la)=(BU Ps l o la).map fun z=>(z.1,mapN z.2)
 | [],o,la,_=>rfl
 |c::r,o,la,h=>by
  have hr:=fun c hc=>h c (.tail _ hc)
  have hth:FX Qs (norm c)=FX Ps c:=by rw[Lc,Lc,h c (.head _)];rfl
  rw[map_cons,BU,BU]
  by_cases hb:badC c
  ·rw[if_pos hb,if_pos ((XC c).2 hb)];rfl
  ·rw[if_neg hb,if_neg (fun h=>hb ((XC c).1 h))]
   show(match gget (mapN la) (c.page,c.slot)with|some was=>_|none=>_)=_
   rw[XA,hth]
   cases gget la (c.page,c.slot)with
   |some was=>
    simp only[Option.map_some]
    by_cases hg:c.gone=true/\was.gone=true
    ·rw[if_pos hg,if_pos (show(norm c).gone=true/\(norm was).gone=true from hg)];rfl
    ·rw[if_neg hg,if_neg (show¬((norm c).gone=true/\(norm was).gone=true)from hg)]
     show BU Qs (r.map norm) o (gput (mapN la) (c.page,c.slot) (norm c))=_
     rw[XM,LY r _ _ hr]
   |none=>
    simp only[Option.map_none]
    by_cases hg:c.gone=true/\FX Ps c=false
    ·rw[if_pos hg,if_pos (show(norm c).gone=true/\FX Ps c=false from hg)];rfl
    ·rw[if_neg hg,if_neg (show¬((norm c).gone=true/\FX Ps c=false)from hg)]
     show BU Qs (r.map norm) (o++[(c.page,c.slot)]) (gput (mapN la) (c.page,c.slot) (norm c))=_
     rw[XM,LY r _ _ hr]
def rcM(M:TM):List (Int×Sl.Recs):=M.map fun e=>(e.1,e.2.1)
theorem OZ(M:TM)(k:Int):gget (rcM M) k=(gget M k).map (·.1):=by
 induction M with
 |nil=>rfl
 |cons p r ih=>
  obtain⟨x,u⟩:=p
  simp only[rcM,map_cons,gget]at ih⊢
  split
  ·rfl
  ·exact ih
theorem VN(M:TM)(k:Int)(P:AP):rcM (gput M k P)=gput (rcM M) k P.1:=by
 induction M with
 |nil=>rfl
 |cons p r ih=>
  obtain⟨x,u⟩:=p
  simp only[rcM,map_cons,gput]at ih⊢
  split
  ·rfl
  ·rw[<- ih];rfl
theorem WV{Ps Qs:List AP}:∀(o:Ord)(M N:TM),rcM M=rcM N->(∀q∈o,recs Ps q.1.toNat=recs Qs q.1.toNat)->rcM (delF Ps o M)=rcM (delF Qs o N)
 | [],M,N,h,_=>h
 |(p,s)::r,M,N,h,ho=>by
  rw[delF,delF]
  refine WV r _ _ ?_ fun q hq=>ho q (.tail _ hq)
  have hg:((gget M p).getD (CO Ps p)).1=((gget N p).getD (CO Qs p)).1:=by
   have h1:=OZ M p
   have h2:=OZ N p
   rw[h,h2]at h1
   cases hm:gget M p with
   |none=>
    rw[hm]at h1
    cases hn:gget N p with
    |none=>exact ho (p,s) (.head _)
    |some Q=>rw[hn]at h1;cases h1
   |some P=>
    rw[hm]at h1
    cases hn:gget N p with
    |none=>rw[hn]at h1;cases h1
    |some Q=>rw[hn]at h1;exact(Option.some.inj h1).symm
  rw[VN,VN,h]
  dsimp only
  rw[hg]
theorem Sm(la:Last):∀(o:Ord)(M N:TM){M':TM},rcM M=rcM N->putF o la M=some M'->∃N',putF o (mapN la) N=some N'/\rcM M'=rcM N'
 | [],M,N,M',h,e=>by rw[putF]at e;cases e;exact⟨N,rfl,h⟩
 |(p,s)::r,M,N,M',h,e=>by
  rw[putF]at e
  rw[putF,XA]
  have h1:=OZ M p
  have h2:=OZ N p
  rw[h,h2]at h1
  cases hc:gget la (p,s)with
  |none=>rw[hc]at e;cases e
  |some c=>
   rw[hc]at e
   cases hm:gget M p with
   |none=>rw[hm]at e;cases e
   |some P=>
    rw[hm]at e h1
    cases hn:gget N p with
    |none=>rw[hn]at h1;cases h1
    |some Q=>
     rw[hn]at h1
     have hPQ:Q.1=P.1:=Option.some.inj h1
     simp only[Option.map_some]at e⊢
     by_cases hg:c.gone=true
     ·rw[if_pos hg]at e
      rw[if_pos (show(norm c).gone=true from hg)]
      exact Sm la r M N h e
     ·rw[if_neg hg]at e
      rw[if_neg (show¬(norm c).gone=true from hg)]
      have hs:(norm c).s=c.s:=by show chB c=c.s;rw[chB,if_neg hg]
      rw[hs,hPQ]
      by_cases h0:(Sl.aput P.1 s c.s.data.toList).2=0
      ·rw[if_pos h0]at e⊢
       exact Sm la r _ _ (by rw[VN,VN,h]) e
      ·rw[if_neg h0]at e;cases e
theorem GK(Ps:List AP):∀(l:List Chg1)(o:Ord)(la:Last){z:Ord×Last},BU Ps l o la=some z->∀q∈z.1,q∈o\/∃c∈l,c.page=q.1
 | [],o,la,z,h=>by rw[BU]at h;cases h;exact fun q hq=>.inl hq
 |c::r,o,la,z,h=>by
  rw[BU]at h
  split at h
  ·cases h
  ·split at h
   ·split at h
    ·cases h
    ·intro q hq
     rcases GK Ps r _ _ h q hq with h1|⟨d,hd,h1⟩
     ·exact .inl h1
     ·exact .inr ⟨d,.tail _ hd,h1⟩
   ·split at h
    ·cases h
    ·intro q hq
     rcases GK Ps r _ _ h q hq with h1|⟨d,hd,h1⟩
     ·rcases mem_append.1 h1 with h1|h1
      ·exact .inl h1
      ·rw[mem_singleton]at h1
       exact .inr ⟨c,.head _,by rw[h1]⟩
     ·exact .inr ⟨d,.tail _ hd,h1⟩
theorem tried_recs{Ps Qs:List AP}{l:List Chg1}{M:TM}(h:CU Ps l=some M)(hr:∀c∈l,recs Ps c.page.toNat=recs Qs c.page.toNat):∃N,CU Qs (l.map norm)=some N/\rcM M=rcM N:=by
 unfold CU at h⊢
 have hf:=LY l [] [] hr
 have e0:mapN []=[]:=rfl
 rw[e0]at hf
 cases hz:BU Ps l [] []with
 |none=>rw[hz]at h;cases h
 |some z=>
  obtain⟨o,la⟩:=z
  rw[hz]at h hf
  rw[hf]
  simp only[Option.map_some]at h⊢
  refine Sm la o _ _ (WV o [] [] rfl fun q hq=>?_) h
  rcases GK Ps l [] [] hz q hq with h1|⟨c,hc,h1⟩
  ·cases h1
  ·rw[<- h1];exact hr c hc
theorem Sr{Ps:List AP}{l:List Chg1}{M:TM}(h:CU Ps l=some M):∀e∈M,∃c∈l,c.page=e.1:=by
 unfold CU at h
 cases hz:BU Ps l [] []with
 |none=>rw[hz]at h;cases h
 |some z=>
  obtain⟨o,la⟩:=z
  rw[hz]at h
  dsimp only at h
  have hd:∀(o:Ord)(M:TM),(∀q∈o,∃c∈l,c.page=q.1)->(∀e∈M,∃c∈l,c.page=e.1)->∀e∈delF Ps o M,∃c∈l,c.page=e.1:=by
   intro o
   induction o with
   |nil=>intro M _ h;exact h
   |cons q r ih=>
    intro M ho h
    obtain⟨p,s⟩:=q
    rw[delF]
    refine ih _ (fun q hq=>ho q (.tail _ hq)) fun e he=>?_
    rcases KI he with rfl|he
    ·exact ho (p,s) (.head _)
    ·exact h e he
  have hp:∀(o:Ord)(M:TM){M':TM},(∀q∈o,∃c∈l,c.page=q.1)->(∀e∈M,∃c∈l,c.page=e.1)->putF o la M=some M'->∀e∈M',∃c∈l,c.page=e.1:=by
   intro o
   induction o with
   |nil=>intro M M' _ h e;rw[putF]at e;cases e;exact h
   |cons q r ih=>
    intro M M' ho h e
    obtain⟨p,s⟩:=q
    have hr:∀q∈r,∃c∈l,c.page=q.1:=fun q hq=>ho q (.tail _ hq)
    rw[putF]at e
    split at e
    ·split at e
     ·exact ih M hr h e
     ·split at e
      ·refine ih _ hr (fun e he=>?_) e
       rcases KI he with rfl|he
       ·exact ho (p,s) (.head _)
       ·exact h e he
      ·cases e
    ·cases e
  have ho:∀q∈o,∃c∈l,c.page=q.1:=fun q hq=>by
   rcases GK Ps l [] [] hz q hq with h1|h1
   ·cases h1
   ·exact h1
  exact hp o _ ho (hd o [] ho (by simp)) h
theorem Jg{st:Nat}:∀(M:TM)(Ps:List AP),(∀e∈M,0<=e.1)->(M.map (·.1)).Nodup->∀i:Nat,recs (layP st Ps M) i=match gget M (i:Int)with|some P=>P.1|none=>recs Ps i
 | [],Ps,_,_,i=>rfl
 |(n,P)::r,Ps,hk,hn,i=>by
  have h0:=hk (n,P) (.head _)
  rw[map_cons,nodup_cons]at hn
  have ih:=Jg (st:=st) r (lay1 st Ps (n,P)) (fun e he=>hk e (.tail _ he)) hn.2 i
  have e1:layP st Ps ((n,P)::r)=layP st (lay1 st Ps (n,P)) r:=rfl
  rw[e1,ih,gget]
  have hl:recs (lay1 st Ps (n,P)) i=if i=n.toNat then P.1 else recs Ps i:=Iz Ps n.toNat (RQ st P) i
  rw[hl]
  by_cases hi:(i:Int)=n
  ·have hno:gget r (i:Int)=none:=OM.2 fun p hp e=>hn.1 (mem_map.2 ⟨p,hp,by rw[e,hi]⟩)
   rw[if_pos hi,hno,if_pos (by omega)]
  ·rw[if_neg hi,if_neg (by omega)]
theorem Vy(l:List UInt8):(⟨l.toArray⟩:ByteArray).data.toList=l:=rfl
theorem Yv{J:JS}{g:Sl.Pg}{P:AP}(hg:Sl.Rep g P.1 P.2){n:Nat}(hn:n<4096)(rest:List ByteArray)(k:Nat)(gr:List Chg1):
  recF (imgR (n:Int) g::rest) k J gr=recF rest (k+1) ⟨(CS J.Ps (n+1)).set n P,J.T⟩ gr:=by
 have hbl:g.bs.length=4096:=hg.ok.len
 have hsz:(imgR (n:Int) g).size=4099:=by rw[imgR,Cj,length_cons,length_append,AU,hbl]
 have hd:(imgR (n:Int) g).data.toList=112::(be (n:Int) 2++g.bs):=rfl
 have hv:valN (be (n:Int) 2)=n:=by have:=Dj (n:=(n:Int)) (k:=2) (by omega) (by omega);omega
 have h3:((112::(be (n:Int) 2++g.bs)).take 3).drop 1=be (n:Int) 2:=by
  show(be (n:Int) 2++g.bs).take 2=_
  exact List.take_left' (AU _ _)
 have h4:(112::(be (n:Int) 2++g.bs)).drop 3=g.bs:=by
  show(be (n:Int) 2++g.bs).drop 2=_
  exact List.drop_left' (AU _ _)
 have hr:Fb J.Ps (112::(be (n:Int) 2++g.bs))=((CS J.Ps (n+1)).set n P,0):=by
  rw[Fb,h3,h4,hv,if_neg (by rw[length_cons,length_append,AU,hbl];omega),Sl.KX hg]
 rw[recF,if_neg (by omega),hd,List.head?_cons,if_pos rfl,hr,if_pos rfl]
theorem XK{Ps:List AP}:∀(L:List Int){rs:List ByteArray}{J:JS}(rest:List ByteArray)(k:Nat)(gr:List Chg1),N7 Ps L rs->L.Nodup->(∀n∈L,0<=n/\n<4096)->
  ∃Qs,recF (rs++rest) k J gr=recF rest (k+rs.length) ⟨Qs,J.T⟩ gr/\∀i:Nat,recs Qs i=if(i:Int)∈L then recs Ps i else recs J.Ps i
 | [],rs,J,rest,k,gr,h,_,_=>by
  obtain⟨G,_,rfl⟩:=h
  exact⟨J.Ps,rfl,fun i=>by simp⟩
 |n::L,rs,J,rest,k,gr,h,hnd,hL=>by
  obtain⟨G,h1,rfl⟩:=h
  have hn:=hL n (.head _)
  obtain⟨m,rfl⟩:∃m:Nat,n=m:=⟨n.toNat,by omega⟩
  have hnd:=nodup_cons.1 hnd
  have e:=Yv (J:=J) (h1 (m:Int) (.head _)) (n:=m) (by omega) ((L.map fun n=>imgR n (G n))++rest) k gr
  obtain⟨Qs,h2,h3⟩:=XK L (J:=⟨(CS J.Ps (m+1)).set m (CO Ps (m:Int)),J.T⟩) rest (k+1) gr ⟨G,fun n hn=>h1 n (.tail _ hn),rfl⟩ hnd.2 (fun n hn=>hL n (.tail _ hn))
  refine⟨Qs,?_,fun i=>?_⟩
  ·rw[map_cons,cons_append,e,h2,length_cons,show k+1+(L.map fun n=>imgR n (G n)).length=k+((L.map fun n=>imgR n (G n)).length+1) by omega]
  ·rw[h3,Iz]
   by_cases hi:(i:Int)∈L
   ·rw[if_pos hi,if_pos (.tail _ hi)]
   ·rw[if_neg hi]
    by_cases him:i=m
    ·subst him
     rw[if_pos rfl,if_pos (.head _)];rfl
    ·rw[if_neg him,if_neg (fun h=>by
      rcases mem_cons.1 h with h|h
      ·omega
      ·exact hi h)]
theorem Si{J:JS}:∀(l pend g0:List Chg1)(rest:List ByteArray)(k:Nat),(∀c∈l,¬badC c)->(∀c∈pend,¬badC c)->
  recF ((DU l (pend.flatMap BR)).map (fun b=>(⟨b.toArray⟩:ByteArray))++rest) k J g0=match CU J.Ps (g0++pend.map norm++l.map norm)with
   |none=>(J,180)
   |some M=>recF rest (k+(DU l (pend.flatMap BR)).length) ⟨layP (k+(DU l (pend.flatMap BR)).length) J.Ps M,upP J.T M⟩ []
 | [],pend,g0,rest,k,_,hp=>by
  have hsz:(⟨(101::pend.flatMap BR).toArray⟩:ByteArray).size=(pend.flatMap BR).length+1:=by rw[Cj];rfl
  have htk:=La pend ((pend.flatMap BR).length+1) [] hp (by have:=IL pend;omega)
  rw[DU,List.map_singleton,List.singleton_append,recF,hsz,if_neg (by omega),Vy,List.head?_cons,if_neg (show¬(some (101:UInt8)=some 112) by decide),drop_one,List.tail_cons,htk]
  dsimp only
  rw[if_pos (show(some (101:UInt8))=some 101 from rfl),nil_append,map_nil,append_nil]
  rfl
 |c::r,pend,g0,rest,k,h,hp=>by
  have hr:∀d∈r,¬badC d:=fun d hd=>h d (.tail _ hd)
  rw[DU]
  by_cases hlen:60000<(pend.flatMap BR).length+(BR c).length
  ·rw[if_pos hlen]
   have hsz:(⟨(100::pend.flatMap BR).toArray⟩:ByteArray).size=(pend.flatMap BR).length+1:=by rw[Cj];rfl
   have htk:=La pend ((pend.flatMap BR).length+1) [] hp (by have:=IL pend;omega)
   have ih:=Si (J:=J) r [c] (g0++pend.map norm) rest (k+1) hr (fun d hd=>by rw[mem_singleton.1 hd];exact h c (.head _))
   have e1:[c].flatMap BR=BR c:=by simp
   rw[e1]at ih
   rw[map_cons,cons_append,recF,hsz,if_neg (by omega),Vy,List.head?_cons,if_neg (show¬(some (100:UInt8)=some 112) by decide),drop_one,List.tail_cons,htk]
   dsimp only
   rw[if_neg (show¬(some (100:UInt8))=some 101 by decide),nil_append,ih,length_cons]
   have e2:g0++pend.map norm++[c].map norm++r.map norm=g0++pend.map norm++(c::r).map norm:=by simp
   rw[e2,show k+1+(DU r (BR c)).length=k+((DU r (BR c)).length+1) by omega]
  ·rw[if_neg hlen]
   have ih:=Si (J:=J) r (pend++[c]) g0 rest k hr (fun d hd=>by
    rcases mem_append.1 hd with hd|hd
    ·exact hp d hd
    ·rw[mem_singleton.1 hd];exact h c (.head _))
   have e1:(pend++[c]).flatMap BR=pend.flatMap BR++BR c:=by simp
   rw[e1]at ih
   rw[ih]
   have e2:g0++(pend++[c]).map norm++r.map norm=g0++pend.map norm++(c::r).map norm:=by simp
   rw[e2]
def bz(all:List ByteArray)(R:Nat->Sl.Recs):Prop:=∀(k:Nat)(J:JS),∃J':JS,(∀rest,recF (all++rest) k J []=recF rest (k+all.length) J' [])/\(∀i:Nat,recs J'.Ps i=if 0<Ag all (i:Int)then R i else recs J.Ps i)/\(∀n:Int,J.T n<=J'.T n/\(0<J'.T n->0<J.T n\/0<Ag all n))/\J.Ps.length<=J'.Ps.length/\∀n:Int,0<Ag all n->n.toNat<J'.Ps.length
theorem bz.nil(R:Nat->Sl.Recs):bz [] R:=fun k J=>⟨J,fun _=>rfl,fun i=>by rw[if_neg (by show¬0<0;omega)],fun n=>⟨Nat.le_refl _,.inl⟩,Nat.le_refl _,fun n h=>absurd h (Nat.lt_irrefl 0)⟩
theorem LG(a b:List ByteArray):Ag (a++b)=b.foldl imgS (Ag a):=by rw[Ag,foldl_append];rfl
theorem imgS_mono(T:Tou)(s:ByteArray)(n:Int):T n<=imgS T s n:=by
 unfold imgS
 cases imgN s.data.toList with
 |none=>exact Nat.le_refl _
 |some c=>
  show T n<=Tou.up T (c:Int) n
  unfold Tou.up
  split<;>omega
theorem images_mono(b:List ByteArray):∀(T:Tou)(n:Int),T n<=b.foldl imgS T n:=by
 induction b with
 |nil=>intro T n;exact Nat.le_refl _
 |cons s r ih=>intro T n;exact Nat.le_trans (imgS_mono T s n) (ih _ n)
theorem imgs_imgR(T:Tou){n:Int}(h:0<=n/\n<4096)(g:Sl.Pg)(hg:g.bs.length=4096):imgS T (imgR n g)=T.up n:=by
 have hd:(imgR n g).data.toList=112::(be n 2++g.bs):=rfl
 have h3:((112::(be n 2++g.bs)).take 3).drop 1=be n 2:=by
  show(be n 2++g.bs).take 2=_
  exact List.take_left' (AU _ _)
 have hv:(valN (be n 2):Int)=n:=Dj h.1 (by omega)
 rw[imgS,hd,imgN,if_pos ⟨by rw[length_cons,length_append,AU,hg];omega,rfl⟩,h3]
 dsimp only
 rw[hv]
theorem imgs_pack(T:Tou){s:ByteArray}{l:List UInt8}(h:s=⟨l.toArray⟩)(hl:l.head? ≠some 112):imgS T s=T:=by
 rw[imgS,h,Vy,imgN,if_neg (fun e=>hl e.2)]
theorem MC:∀(l:List Chg1)(b:List UInt8),∀x∈DU l b,x.head? =some 100\/x.head? =some 101
 | [],b,x,hx=>by rw[DU,mem_singleton]at hx;rw[hx];exact .inr rfl
 |c::r,b,x,hx=>by
  rw[DU]at hx
  split at hx
  ·rcases mem_cons.1 hx with rfl|hx
   ·exact .inl rfl
   ·exact MC r _ x hx
  ·exact MC r _ x hx
theorem images_pack(T:Tou)(l:List Chg1):(CZ l).foldl imgS T=T:=by
 have:∀(q:List (List UInt8))(T:Tou),(∀x∈q,x.head? =some 100\/x.head? =some 101)->(q.map fun b=>(⟨b.toArray⟩:ByteArray)).foldl imgS T=T:=by
  intro q
  induction q with
  |nil=>intro T _;rfl
  |cons x r ih=>
   intro T h
   rw[map_cons,foldl_cons,imgs_pack T rfl (by rcases h x (.head _)with e|e<;>rw[e]<;>decide),ih T fun y hy=>h y (.tail _ hy)]
 exact this _ T (MC l [])
theorem images_imgs{Ps:List AP}{L:List Int}{rs:List ByteArray}(h:N7 Ps L rs)(hL:∀n∈L,0<=n/\n<4096)(T:Tou)(n:Int):0<rs.foldl imgS T n↔0<T n\/n∈L:=by
 obtain⟨G,h1,rfl⟩:=h
 induction L generalizing T with
 |nil=>simp
 |cons m r ih=>
  rw[map_cons,foldl_cons,imgs_imgR T (hL m (.head _)) (G m) (h1 m (.head _)).ok.len,ih (fun n hn=>hL n (.tail _ hn)) (T.up m) (fun n hn=>h1 n (.tail _ hn)),mem_cons]
  have:0<T.up m n↔0<T n\/n=m:=by
   unfold Tou.up
   split
   ·rename_i e;exact⟨fun _=>.inr e,fun _=>Nat.succ_pos _⟩
   ·rename_i e;exact⟨.inl,fun h=>h.elim id fun h=>absurd h e⟩
  rw[this,or_assoc]
theorem VI:∀(M:TM)(T:Tou)(n:Int),T n<=upP T M n
 | [],T,n=>Nat.le_refl _
 |e::r,T,n=>by
  refine Nat.le_trans ?_ (VI r (T.up e.1) n)
  unfold Tou.up
  split<;>omega
theorem QF:∀(M:TM)(T:Tou)(n:Int),0<upP T M n->0<T n\/∃e∈M,e.1=n
 | [],T,n,h=>.inl h
 |e::r,T,n,h=>by
  rcases QF r (T.up e.1) n h with h1|⟨x,hx,h1⟩
  ·unfold Tou.up at h1
   split at h1
   ·rename_i h2;exact .inr ⟨e,.head _,h2.symm⟩
   ·exact .inl h1
  ·exact .inr ⟨x,.tail _ hx,h1⟩
theorem VT{st:Nat}:∀(M:TM)(Ps:List AP),Ps.length<=(layP st Ps M).length/\∀e∈M,e.1.toNat<(layP st Ps M).length
 | [],Ps=>⟨Nat.le_refl _,by simp⟩
 |e::r,Ps=>by
  obtain⟨h1,h2⟩:=VT (st:=st) r (lay1 st Ps e)
  have h3:=Nj st Ps e
  have e1:layP st Ps (e::r)=layP st (lay1 st Ps e) r:=rfl
  rw[e1]
  refine⟨by omega,fun x hx=>?_⟩
  rcases mem_cons.1 hx with rfl|hx
  ·omega
  ·exact h2 x hx
theorem bz.dB{all:List ByteArray}{Ps:List AP}{T:Tou}{l:List Chg1}{M:TM}{L:List Int}{rs:List ByteArray}(h:bz all (recs Ps))(ht:CU Ps l=some M)(hF:NW T l L)(hI:N7 Ps L rs)(hT:∀n:Int,0<T n->0<Ag all n)(st:Nat):
  bz (all++(rs++CZ l)) (recs (layP st (BJ Ps L) M))/\(∀n:Int,0<Ag (all++(rs++CZ l)) n↔0<Ag all n\/n∈L)/\(∀e∈M,0<Ag (all++(rs++CZ l)) e.1):=by
 have hgood:=Hr ht
 have hMok:=G5 ht
 have hLp:∀n∈L,0<=n/\n<4096:=fun n hn=>by
  obtain⟨c,hc,rfl,_⟩:=(hF.mem n).1 hn
  have:=hgood c hc
  unfold badC at this
  exact⟨Int.not_lt.1 fun h=>this (.inl h),Int.not_le.1 fun h=>this (.inr (.inl h))⟩
 have hLn:L.Nodup:=by
  rw[List.nodup_iff_pairwise_ne]
  exact hF.rise.imp fun h=>by omega
 have himg:∀n:Int,0<Ag (all++(rs++CZ l)) n↔0<Ag all n\/n∈L:=fun n=>by
  rw[LG,foldl_append,images_pack,images_imgs hI hLp]
 have hpg:∀c∈l,0<Ag all c.page\/c.page∈L:=fun c hc=>by
  by_cases h0:0<T c.page
  ·exact .inl (hT _ h0)
  ·exact .inr ((hF.mem _).2 ⟨c,hc,rfl,by omega⟩)
 have hkey:∀e∈M,0<Ag (all++(rs++CZ l)) e.1:=fun e he=>by
  obtain⟨c,hc,h1⟩:=Sr ht e he
  rw[himg,<- h1];exact hpg c hc
 refine⟨fun k J=>?_,himg,hkey⟩
 obtain⟨J1,h1,h2,hT1,hl1,hl2⟩:=h k J
 obtain⟨Qs,h3,h4,hq1,hq2⟩:∃Qs,(∀rest,recF (rs++rest) (k+all.length) J1 []=recF rest (k+all.length+rs.length) ⟨Qs,J1.T⟩ [])/\(∀i:Nat,recs Qs i=if(i:Int)∈L then recs Ps i else recs J1.Ps i)/\J1.Ps.length<=Qs.length/\∀n∈L,n.toNat<Qs.length:=by
  obtain⟨G,g1,g2⟩:=hI
  have key:∀rest,∃Qs,recF (rs++rest) (k+all.length) J1 []=recF rest (k+all.length+rs.length) ⟨Qs,J1.T⟩ []/\∀i:Nat,recs Qs i=if(i:Int)∈L then recs Ps i else recs J1.Ps i:=fun rest=>XK L rest _ [] ⟨G,g1,g2⟩ hLn hLp
  have det:∀(L:List Int)(J:JS),(∀n∈L,0<=n/\n<4096)->(∀n∈L,Sl.Rep (G n) (CO Ps n).1 (CO Ps n).2)->∃Qs,(∀rest k,recF ((L.map fun n=>imgR n (G n))++rest) k J []=recF rest (k+L.length) ⟨Qs,J.T⟩ [])/\J.Ps.length<=Qs.length/\∀n∈L,n.toNat<Qs.length:=by
   intro L
   induction L with
   |nil=>intro J _ _;exact⟨J.Ps,fun rest k=>rfl,Nat.le_refl _,by simp⟩
   |cons n r ih=>
    intro J hL hG
    have hn:=hL n (.head _)
    obtain⟨m,rfl⟩:∃m:Nat,n=m:=⟨n.toNat,by omega⟩
    obtain⟨Qs,hq,e1,e2⟩:=ih ⟨(CS J.Ps (m+1)).set m (CO Ps (m:Int)),J.T⟩ (fun n hn=>hL n (.tail _ hn)) (fun n hn=>hG n (.tail _ hn))
    have e1:((CS J.Ps (m+1)).set m (CO Ps (m:Int))).length<=Qs.length:=e1
    rw[length_set,EY]at e1
    refine⟨Qs,fun rest k=>?_,by omega,fun n hn=>?_⟩
    ·rw[map_cons,cons_append,Yv (hG (m:Int) (.head _)) (by omega),hq rest (k+1),length_cons,show k+1+r.length=k+(r.length+1) by omega]
    ·rcases mem_cons.1 hn with rfl|hn
     ·rw[Int.toNat_natCast];omega
     ·exact e2 n hn
  obtain⟨Qs,hq,hq1,hq2⟩:=det L J1 hLp g1
  refine⟨Qs,fun rest=>?_,?_,hq1,hq2⟩
  ·rw[g2,hq rest _,length_map]
  ·--compare at a rest that shows the pages
   obtain⟨Q2,e1,e2⟩:=key []
   rw[g2,hq [] _,length_map,recF,recF]at e1
   have e3:Qs=Q2:=by
    have:=congrArg (fun z:JS×Int=>z.1.Ps) e1
    exact this
   rw[e3];exact e2
 have hagree:∀c∈l,recs Ps c.page.toNat=recs Qs c.page.toNat:=fun c hc=>by
  have hb:=hgood c hc
  unfold badC at hb
  have h0:0<=c.page:=Int.not_lt.1 fun h=>hb (.inl h)
  have e0:((c.page.toNat:Nat):Int)=c.page:=by omega
  rw[h4,e0]
  by_cases hi:c.page∈L
  ·rw[if_pos hi]
  ·rw[if_neg hi,h2,e0,if_pos ((hpg c hc).resolve_right hi)]
 obtain⟨N,hN,hMN⟩:=tried_recs ht hagree
 have hNok:=G5 hN
 have hpk:=fun rest=>Si (J:=⟨Qs,J1.T⟩) l [] [] rest (k+all.length+rs.length) hgood (by simp)
 simp only[List.flatMap_nil,map_nil,nil_append,hN]at hpk
 refine⟨⟨layP (k+all.length+rs.length+(DU l []).length) Qs N,upP J1.T N⟩,fun rest=>?_,fun i=>?_,fun n=>⟨Nat.le_trans (hT1 n).1 (VI N _ n),fun hp=>?_⟩,?_,fun n hn=>?_⟩
 ·rw[append_assoc,h1,append_assoc,h3]
  have e5:CZ l=(DU l []).map fun b=>(⟨b.toArray⟩:ByteArray):=rfl
  rw[e5,hpk rest]
  rw[length_append,length_append,length_map,show k+(all.length+(rs.length+(DU l []).length))=k+all.length+rs.length+(DU l []).length by omega]
 ·show recs (layP _ Qs N) i=_
  rw[Jg N Qs (fun e he=>(hNok.key e he).1) hNok.nodup,Jg M _ (fun e he=>(hMok.key e he).1) hMok.nodup]
  have hrc:=OZ M (i:Int)
  rw[hMN,OZ]at hrc
  have hgrow:recs (BJ Ps L) i=recs Ps i:=by
   have:=F6 L Ps (i:Int)
   rw[CO,CO,Int.toNat_natCast]at this
   rw[recs,recs,this]
  cases hm:gget M (i:Int)with
  |some P=>
   rw[hm]at hrc
   have hpos:=hkey _ (Gq hm)
   rw[if_pos hpos]
   cases hn:gget N (i:Int)with
   |none=>rw[hn]at hrc;cases hrc
   |some Q=>rw[hn]at hrc;exact Option.some.inj hrc
  |none=>
   rw[hm]at hrc
   cases hn:gget N (i:Int)with
   |some Q=>rw[hn]at hrc;cases hrc
   |none=>
    dsimp only
    rw[h4,hgrow,h2]
    by_cases hi:(i:Int)∈L
    ·rw[if_pos hi,if_pos ((himg _).2 (.inr hi))]
    ·rw[if_neg hi]
     by_cases h0:0<Ag all (i:Int)
     ·rw[if_pos h0,if_pos ((himg _).2 (.inl h0))]
     ·rw[if_neg h0,if_neg (fun h=>((himg _).1 h).elim h0 hi)]
 ·rcases QF N _ n hp with h6|⟨e,he,h6⟩
  ·rcases(hT1 n).2 h6 with h7|h7
   ·exact .inl h7
   ·exact .inr ((himg n).2 (.inl h7))
  ·right
   have hk:e.1∈(rcM M).map (·.1):=by rw[hMN];exact mem_map.2 ⟨_,mem_map.2 ⟨e,he,rfl⟩,rfl⟩
   obtain⟨x,hx,hx2⟩:=mem_map.1 hk
   obtain⟨e',he',rfl⟩:=mem_map.1 hx
   have:=hkey e' he'
   have hx3:e'.1=e.1:=hx2
   rw[hx3,h6]at this
   exact this
 ·have:=(VT (st:=k+all.length+rs.length+(DU l []).length) N Qs).1
  show J.Ps.length<=(layP _ Qs N).length
  omega
 ·have:=(VT (st:=k+all.length+rs.length+(DU l []).length) N Qs).1
  show n.toNat<(layP _ Qs N).length
  rcases(himg n).1 hn with h7|h7
  ·have:=hl2 n h7;omega
  ·have:=hq2 n h7;omega
theorem write_calmG{q:Dk}(h:Calm q){n:ByteArray}{k:Nat}{b:List UInt8}(hb:b.length<=512)(hk:q.find n=some k){i:Nat}(hi:i<=q.len k):
  (q.write n (i:Int) b=(q,94)/\i=q.len k/\q.room<=q.used)\/(q.write n (i:Int) b=(q.put k ((q.file k).write i b),0)/\¬(i=q.len k/\q.room<=q.used)):=by
 have hp:¬((i:Int)<0\/(q.len k:Int)<(i:Int)\/512<b.length):=by omega
 by_cases hu:i=q.len k/\q.room<=q.used
 ·left
  refine⟨?_,hu⟩
  unfold Dk.write
  rw[h.dead,hk]
  simp only[Bool.false_eq_true,if_false,if_neg hp]
  rw[if_pos ⟨by rw[hu.1],hu.2⟩]
 ·right
  refine⟨?_,hu⟩
  unfold Dk.write
  rw[h.dead,hk]
  simp only[Bool.false_eq_true,if_false,if_neg hp]
  rw[if_neg (fun h2=>hu ⟨by have:=h2.1;omega,h2.2⟩),h.refused]
  simp only[Bool.false_eq_true,if_false,h.denies,Int.toNat_natCast,(h.put _ _).dies,(h.put _ _).code]
theorem sync_calm{q:Dk}(h:Calm q){n:ByteArray}{k:Nat}(hk:q.find n=some k):q.sync n=(q.put k (q.file k).sync,0):=by
 unfold Dk.sync
 rw[h.dead,hk]
 simp only[Bool.false_eq_true,if_false,h.refused,h.denies,h.dies,h.dead]
theorem write_len(f:Fl){i:Nat}(b:List UInt8)(hi:i<=f.now.length):(f.write i b).now.length=max f.now.length (i+1):=by
 rw[Fl.write]
 dsimp only
 split
 ·rw[length_append,length_singleton];omega
 ·rw[length_set];omega
def padded(b:List UInt8):List (List UInt8):=(List.range (nsec b.length)).map fun k=>pad (chunk b k)
theorem JK(b:List UInt8):(padded b).length=nsec b.length:=by simp[padded]
theorem padded_get{b:List UInt8}{k:Nat}(h:k<nsec b.length):(padded b)[k]? =some (pad (chunk b k)):=by
 rw[padded,List.getElem?_map,List.getElem?_range h];rfl
theorem padded_drop{b:List UInt8}{k:Nat}(h:k<nsec b.length):(padded b).drop k=pad (chunk b k)::(padded b).drop (k+1):=by
 have hl:k<(padded b).length:=by rw[JK];exact h
 rw[drop_eq_getElem_cons hl]
 have:=padded_get h
 rw[List.getElem?_eq_getElem hl]at this
 rw[Option.some.inj this]
theorem MW(d:Dk)(k:Nat)(f g:Fl):(d.put k f).put k g=d.put k g:=by simp[Dk.put,set_set]
theorem TC{d:Dk}{k:Nat}(h:k<d.files.length):d.put k (d.file k)=d:=by
 obtain⟨room,files,firm,chs,a,b,c⟩:=d
 have hk:k<files.length:=h
 simp only[Dk.put,Dk.file,Dk.mk.injEq,_root_.and_true,true_and,getD_eq_getElem?_getD,List.getElem?_eq_getElem hk,Option.getD_some]
 exact List.set_getElem_self hk
structure One(d:Dk)(n:ByteArray)(k o:Nat):Prop where
 calm:Calm d
 find:d.find n=some k
 lt:k<d.files.length
 used:∀f,(d.put k f).used=f.now.length+o
theorem One.put{d:Dk}{n:ByteArray}{k o:Nat}(h:One d n k o)(f:Fl):One (d.put k f) n k o:=
 ⟨h.calm.put _ _,h.find,by simpa [Dk.put]using h.lt,fun g=>by rw[MW];exact h.used g⟩
theorem One.used'{d:Dk}{n:ByteArray}{k o:Nat}(h:One d n k o):d.used=(d.file k).now.length+o:=by
 have:=h.used (d.file k)
 rwa [TC h.lt]at this
theorem One.fil{d:Dk}{n:ByteArray}{k o:Nat}(h:One d n k o)(f:Fl):(d.put k f).file k=f:=EE h.lt f
theorem One.write{d:Dk}{n:ByteArray}{k o i:Nat}(h:One d n k o){b:List UInt8}(hb:b.length<=512)(hi:i<=(d.file k).now.length)(hr:i=(d.file k).now.length->i+o<d.room):
  d.write n (i:Int) b=(d.put k ((d.file k).write i b),0):=by
 rcases write_calmG h.calm hb h.find (show i<=d.len k from hi)with⟨_,h1,h2⟩|⟨e,_⟩
 ·have h3:=hr h1
  rw[h.used']at h2
  have h1:i=(d.file k).now.length:=h1
  omega
 ·exact e
theorem One.sync{d:Dk}{n:ByteArray}{k o:Nat}(h:One d n k o):d.sync n=(d.put k (d.file k).sync,0):=sync_calm h.calm h.find
theorem thn0{r:Dk×Int}{d:Dk}{f:Dk->Dk×Int}(h:r=(d,0)):thn r f=f d:=by rw[h];rfl
theorem write_now{f:Fl}{i:Nat}{b:List UInt8}(hi:i<=f.now.length):(f.write i b).now.take (i+1)=f.now.take i++[pad b]:=by
 rw[Fl.write]
 dsimp only
 split
 ·rename_i h
  rw[h,take_length]
  exact take_of_length_le (by rw[length_append];exact Nat.le_refl _)
 ·rename_i h
  have hlt:i<f.now.length:=by omega
  rw[take_succ_eq_append_getElem (by rw[length_set];exact hlt),List.getElem_set_self,List.take_set_of_le (Nat.le_refl _)]
theorem Wp{n:ByteArray}(b:List UInt8){k o:Nat}:∀(m j:Nat){d:Dk},One d n k o->2+j<=(d.file k).now.length->((d.file k).now.length<=2+nsec b.length\/(d.file k).now.length=2+j)->nsec b.length<=j+m->o+2+nsec b.length<=d.room->
  ∃f,dput n b m j d=(d.put k f,0)/\f.now=(d.file k).now.take (2+j)++(padded b).drop j
 |0,j,d,h,h1,h2,h3,h4=>by
  refine⟨d.file k,by rw[dput,TC h.lt],?_⟩
  rw[List.drop_eq_nil_of_le (by rw[JK];omega),append_nil,take_of_length_le (by omega)]
 |m+1,j,d,h,h1,h2,h3,h4=>by
  rw[dput]
  by_cases hj:b.length<=j*512
  ·refine⟨d.file k,by rw[if_pos hj,TC h.lt],?_⟩
   have:nsec b.length<=j:=by unfold nsec;omega
   rw[List.drop_eq_nil_of_le (by rw[JK];exact this),append_nil,take_of_length_le (by omega)]
  ·rw[if_neg hj]
   have hjn:j<nsec b.length:=by unfold nsec;omega
   have hw:=h.write (i:=2+j) (b:=chunk b j) (OQ b j) h1 (fun _=>by omega)
   have hc:(b.drop (j*512)).take 512=chunk b j:=rfl
   rw[hc,thn0 hw]
   have hl:=write_len (d.file k) (chunk b j) h1
   obtain⟨f,e1,e2⟩:=Wp b m (j+1) (h.put ((d.file k).write (2+j) (chunk b j))) (by rw[h.fil,hl];omega) (by rw[h.fil,hl];omega) (by omega) h4
   refine⟨f,by rw[e1,MW],?_⟩
   rw[e2,h.fil,show 2+(j+1)=2+j+1 by omega,write_now h1,padded_drop hjn]
   simp
theorem dwrite_one{d:Dk}{n:ByteArray}(b:List UInt8){k o from_:Nat}(h:One d n k o)(h1:2+from_/512<=(d.file k).now.length)(h2:(d.file k).now.length<=2+nsec b.length)(h4:o+2+nsec b.length<=d.room):
  ∃f,bU d n b from_=(d.put k f,0)/\f.now=(d.file k).now.take (2+from_/512)++(padded b).drop (from_/512):=
 Wp b _ _ h h1 (.inl h2) (by unfold nsec;omega) h4
theorem sealB_pad(m f:Nat):pad (Ba m f)=Ba m f:=by rw[pad,FN,Nat.sub_self];simp
theorem dseal_one{d:Dk}{n:ByteArray}{k o:Nat}(h:One d n k o)(h1:2<=(d.file k).now.length)(m f:Nat):∃g,bY d n m f=(d.put k g,0)/\g.now=(d.file k).now.set (m%2) (Ba m f):=by
 have hs:(Ba m f).length<=512:=by rw[FN];omega
 have h2:m%2<2:=Nat.mod_lt _ (by omega)
 have e1:=h.sync
 have p1:=h.put (d.file k).sync
 have hw:=p1.write (i:=m%2) hs (by rw[h.fil];show _<=(d.file k).now.length;omega) (by rw[h.fil];intro h3;have h3:m%2=(d.file k).now.length:=h3;omega)
 rw[MW,h.fil]at hw
 have p2:=h.put ((d.file k).sync.write (m%2) (Ba m f))
 have e3:=p2.sync
 rw[MW,h.fil]at e3
 refine⟨_,by rw[bY,thn0 e1,thn0 hw,e3],?_⟩
 show(Fl.write _ _ _).now=_
 have hne:¬m%2=(d.file k).sync.now.length:=by show¬m%2=(d.file k).now.length;omega
 rw[Fl.write]
 dsimp only
 rw[if_neg hne,sealB_pad];rfl
theorem flush_calm{d:Dk}{k o:Nat}{l:Lg}(h:One d nLog k o)(hn:l.name=nLog)(hc:l.code=0)(h1:2+l.firm/512<=(d.file k).now.length)(h2:(d.file k).now.length<=2+nsec l.b.length)(hf:l.firm<=l.b.length)(h4:o+2+nsec l.b.length<=d.room):
  ∃g,Ak d l=(d.put k g,{l with mark:=l.mark+1,firm:=l.b.length,many:=l.all.length},0)/\g.now.length=2+nsec l.b.length:=by
 obtain⟨f,e1,e2⟩:=dwrite_one l.b h h1 h2 h4
 have hfl:f.now.length=2+nsec l.b.length:=by
  have:l.firm/512<=nsec l.b.length:=by unfold nsec;have:=Nat.div_le_div_right (c:=512) hf;omega
  rw[e2,length_append,length_take,length_drop,JK]
  omega
 have h5:=h.put f
 obtain⟨g,e3,e4⟩:=dseal_one h5 (by rw[h.fil];omega) (l.mark+1) l.b.length
 refine⟨g,?_,by rw[e4,length_set,h.fil];exact hfl⟩
 have e5:(thn (bU d l.name l.b l.firm) fun d=>bY d l.name (l.mark+1) l.b.length)=(d.put k g,0):=by
  rw[hn,thn0 e1,e3,MW]
 unfold Ak
 rw[if_pos hc,e5]
 rfl
def Gof(all:List ByteArray)(R:Nat->Sl.Recs)(c:Cont):Prop:=∀n:Nat,n<4096->Ag all (n:Int)=0->Ep c n (R n)
theorem zpage{c:Cont}{n:Nat}(h:∀k,k<8->c.v (n*8+k)=zsec){L:Sl.Recs}(hp:Ep c n L):L=[]:=by
 obtain⟨st,hst⟩:=hp
 obtain⟨g,hg,hb⟩:=Sl.XN
 have e:rdC c n=g.bs:=by
  have e1:rdC c n=(List.range 8).flatMap fun _=>zsec:=by
   rw[rdC]
   rw[flatMap_def,flatMap_def]
   congr 1
   refine List.map_congr_left fun k hk=>h k (List.mem_range.1 hk)
  rw[e1,hb]
  rfl
 rw[pgC,e,Sl.KX hg]at hst
 cases hst;rfl
theorem zpageIs{c:Cont}{n:Nat}(h:∀k,k<8->c.v (n*8+k)=zsec):Ep c n []:=by
 obtain⟨g,hg,hb⟩:=Sl.XN
 have e:rdC c n=g.bs:=by
  have e1:rdC c n=(List.range 8).flatMap fun _=>zsec:=by
   rw[rdC]
   rw[flatMap_def,flatMap_def]
   congr 1
   refine List.map_congr_left fun k hk=>h k (List.mem_range.1 hk)
  rw[e1,hb]
  rfl
 exact⟨0,by rw[pgC,e,Sl.KX hg]⟩
theorem create_alive{d:Dk}{n:ByteArray}(h:(d.create n).2=0):(d.create n).1.dead=false:=by
 unfold Dk.create at h⊢
 split at h
 ·cases h
 ·rename_i h1
  split at h
  ·cases h
  ·rename_i h2
   rw[if_neg h1,if_neg h2]
   dsimp only at h⊢
   rw[Dk.code]at h
   split at h
   ·cases h
   ·rename_i h3;simpa using h3
theorem fopen_alive{d:Dk}(hd:d.dead=false)(h:(Au d).2=0):(Au d).1.dead=false:=by
 unfold Au at h⊢
 split at h
 ·rename_i h1
  rw[if_pos h1]
  exact create_alive h
 ·rename_i h1
  rw[if_neg h1];exact hd
theorem U7{k m:Nat}{B:List UInt8}{all:List ByteArray}{R:Nat->Sl.Recs}{d:Dk}(h:Live k m B (Gof all R) d)(hd:d.dead=false)(hB:records B=some all)(hR:bz all R)(hR4:∀n,4096<=n->R n=[])(hf:(Au d).2=0):
  (Ac d).1=(Au d).1/\(Ac d).2.1=0/\(Ac d).2.2.1=⟨nLog,m,B,B.length,all.length,all,0⟩/\(∀i,recs (Ac d).2.2.2.Ps i=R i)/\(∀n,0<Ag all n↔0<(Ac d).2.2.2.T n)/\(∀n:Int,0<Ag all n->n.toNat<(Ac d).2.2.2.Ps.length):=by
 have ho:=h.CV hd hB
 have hL2:=h.cZ
 have hd2:=fopen_alive hd hf
 obtain⟨q,hq⟩:=Oi hf
 have hG:Gof all R (cont ((Au d).1.file q).now):=by
  have hda:=hL2.data (Au d).1.chs.length
  unfold DatA at hda
  rw[FK]at hda
  rcases hda with⟨h1,_⟩|⟨q',h1,h2,_,h4⟩
  ·rw[Dk.find,h1]at hq;cases hq
  ·rw[Dk.find,h1]at hq
   cases hq
   obtain⟨o1,o2⟩:=hL2.fok.at h2
   exact h4 _ (Fl.Cr.now o1 o2)
 obtain⟨M,hM⟩:∃M,M=min (D9 (Au d).1) 4096:=⟨_,rfl⟩
 obtain⟨Qs,hQ1,hQ2⟩:=Lj hd2 hq (T:=Ag all) (R:=R) M 0 [] (fun i _ hi hT=>hG i (by omega) hT)
 obtain⟨J,hJ1,hJ2,hJ3,_,hJ5⟩:=hR 0 ⟨Qs,Ag all⟩
 have hrec:recF all 0 ⟨Qs,Ag all⟩ []=(J,0):=by
  have:=hJ1 []
  rw[append_nil,recF]at this
  exact this
 have hrp:DF (Au d).1 all=(J,0):=by
  rw[DF,<- hM,hQ1]
  dsimp only
  rw[if_pos rfl,hrec]
 have hjo:Ac d=((Au d).1,0,⟨nLog,m,B,B.length,all.length,all,0⟩,J):=by
  unfold Ac
  rw[ho]
  dsimp only
  rw[if_neg (by decide),if_neg (by rw[hf];decide),hrp]
 rw[hjo]
 refine⟨rfl,rfl,rfl,fun i=>?_,fun n=>⟨fun hn=>Nat.lt_of_lt_of_le hn (hJ3 n).1,fun hn=>?_⟩,hJ5⟩
 ·show recs J.Ps i=R i
  rw[hJ2]
  split
  ·rfl
  ·rename_i h0
   show recs Qs i=R i
   rw[hQ2]
   by_cases hi:i<M
   ·rw[if_pos ⟨Nat.zero_le _,by omega,by omega⟩]
   ·rw[if_neg (fun h=>hi (by omega))]
    show []=R i
    by_cases hi4:i<4096
    ·have hp:=hG i hi4 (by omega)
     refine(zpage (fun j hj=>?_) hp).symm
     have hsz:(Au d).1.size Aa=(((Au d).1.file q).now.length:Int):=by rw[Dk.size,hq];rfl
     have hpg:D9 (Au d).1=(((Au d).1.file q).now.length+7)/8:=by
      rw[D9,hsz,Int.tdiv_eq_ediv_of_nonneg (by omega)]
      omega
     exact KR (by omega)
    ·exact(hR4 i (by omega)).symm
 ·exact((hJ3 n).2 hn).elim id id
theorem Gn:∀(Ps Qs:List AP)(n:Nat),(∀i,recs Ps i=recs Qs i)->DL n Ps=DL n Qs
 | [],[],n,_=>rfl
 | [],Q::r,n,h=>by
  have h0:=h 0
  have hr:=Gn [] r (n+1) fun i=>h (i+1)
  have e:Q.1=[]:=h0.symm
  rw[DL,DL,e,<- hr];rfl
 |P::r,[],n,h=>by
  have h0:=h 0
  have hr:=Gn r [] (n+1) fun i=>h (i+1)
  have e:P.1=[]:=h0
  rw[DL,DL,e,hr];rfl
 |P::r,Q::t,n,h=>by
  have h0:=h 0
  have hr:=Gn r t (n+1) fun i=>h (i+1)
  have e:P.1=Q.1:=h0
  rw[DL,DL,e,hr]
def Ce(room:Nat):Dk:=⟨room,[Jb,Fl.none],[⟨nLog,0⟩],[.create Aa 1],0,0,false⟩
def lg0:Lg:=⟨nLog,1,[],0,0,[],0⟩
def T0:Tou:=fun _=>0
structure dH(room:Int):Prop where
 d:(Ac (Dk.new room)).1=Ce room.toNat
 code:(Ac (Dk.new room)).2.1=0
 lg:(Ac (Dk.new room)).2.2.1=lg0
 Ps:(Ac (Dk.new room)).2.2.2.Ps=[]
 T:(Ac (Dk.new room)).2.2.2.T=T0
theorem begun500:dH 500:=⟨by kernel_rfl,by kernel_rfl,by kernel_rfl,by kernel_rfl,by kernel_rfl⟩
theorem begun8000:dH 8000:=⟨by kernel_rfl,by kernel_rfl,by kernel_rfl,by kernel_rfl,by kernel_rfl⟩
theorem PG:with_ [⟨nLog,0⟩] ⟨Aa,1⟩=[⟨Aa,1⟩,⟨nLog,0⟩]:=by kernel_rfl
theorem KD(room i:Nat):lists (Ce room) i=[⟨nLog,0⟩]\/lists (Ce room) i=[⟨Aa,1⟩,⟨nLog,0⟩]:=by
 rw[<- PG]
 cases i with
 |zero=>exact .inl rfl
 |succ i=>exact .inr (by simp[lists,Ce,ons,Ch.on])
theorem Oy(room:Nat):(Ce room).names=[⟨Aa,1⟩,⟨nLog,0⟩]:=by rw[<- PG];rfl
theorem O8:nget [⟨nLog,0⟩] nLog=some 0/\nget [⟨nLog,0⟩] Aa=none/\nget [⟨Aa,1⟩,⟨nLog,0⟩] nLog=some 0/\nget [⟨Aa,1⟩,⟨nLog,0⟩] Aa=some 1:=by
 refine⟨by kernel_rfl,by kernel_rfl,by kernel_rfl,by kernel_rfl⟩
theorem good_ok:Jb.Ok:=by
 have h:∀s∈[zsec,Ba 1 0],s.length=512:=fun s hs=>by
  rcases mem_cons.1 hs with rfl|hs
  ·exact List.length_replicate
  ·rw[mem_singleton.1 hs];exact FN 1 0
 exact⟨h,h,.nil,fun n hn=>(by cases hn),Nat.le_refl _⟩
theorem SN(room:Nat){G:Cont->Prop}(hG:G dC):Live 0 1 [] G (Ce room):=by
 refine⟨⟨fun f hf=>?_,fun f hf=>?_⟩,fun i=>?_,by show 0<2;omega,fun c hc=>?_,fun i=>?_⟩
 ·rcases mem_cons.1 (show f∈[Jb,Fl.none]from hf)with rfl|hf
  ·exact good_ok
  ·rw[mem_singleton.1 hf];exact QB
 ·rcases mem_cons.1 (show f∈[Jb,Fl.none]from hf)with rfl|hf
  ·exact fun n _=>rfl
  ·rw[mem_singleton.1 hf];exact VB
 ·rcases KD room i with e|e<;>rw[e]
  ·exact O8.1
  ·exact O8.2.2.1
 ·rw[Fl.Cr.same (l:=Jb.now) hc];exact Ws
 ·unfold DatA
  rcases KD room i with e|e<;>rw[e]
  ·exact .inl ⟨O8.2.1,hG⟩
  ·exact .inr ⟨1,O8.2.2.2,by show 1<2;omega,by omega,fun c hc=>by rw[ZY hc];exact hG⟩
theorem fresh_one(room:Nat):One (Ce room) nLog 0 0:=by
 refine⟨⟨rfl,rfl,rfl⟩,?_,by show 0<2;omega,fun f=>?_⟩
 ·rw[Dk.find,Oy];exact O8.2.2.1
 ·have e:((Ce room).put 0 f).names=[⟨Aa,1⟩,⟨nLog,0⟩]:=Oy room
  rw[Dk.used,e]
  show [((Ce room).put 0 f).len 1,((Ce room).put 0 f).len 0].sum=_
  have e0:((Ce room).put 0 f).len 0=f.now.length:=rfl
  have e1:((Ce room).put 0 f).len 1=0:=rfl
  rw[e0,e1];simp
theorem Ur(room:Nat):(Ce room).Fit 4:=by
 refine⟨by show 2<=4;omega,fun f hf=>?_,fun M=>?_,by show 1<=4;omega⟩
 ·rcases mem_cons.1 (show f∈[Jb,Fl.none]from hf)with rfl|hf
  ·show 2<=4;omega
  ·rw[mem_singleton.1 hf];show 0<=4;omega
 ·have h:=KD room M
  rw[lists]at h
  rcases h with e|e<;>rw[e]
  ·show 1<=4;omega
  ·show 2<=4;omega
theorem bJ{c:Cont}(h:Gof [] (fun _=>[]) c){all:List ByteArray}{R:Nat->Sl.Recs}(hR:∀n:Nat,n<4096->Ag all (n:Int)=0->R n=[]):Gof all R c:=fun n hn hi=>by
 rw[hR n hn hi];exact h n hn rfl
theorem UC:Gof [] (fun _=>[]) dC:=fun n _ _=>zpageIs fun k _=>rfl
def chA:Chg1:=⟨0,0,⟨#[97]⟩,false⟩
def chB2:Chg1:=⟨0,1,⟨#[98]⟩,false⟩
def psA:List AP:=[([(0,[97])],2)]
def psB:List AP:=[([(0,[97]),(1,[98])],3)]
def tA:Tou:=T0.up 0
structure SL(g:Sl.Pg)(lg:Lg):Prop where
 rep:Sl.Rep g [] 0
 all:lg.all=[imgR 0 g]++CZ [chA]
 app:App lg0 lg ([imgR 0 g]++CZ [chA])
 repl:bz lg.all (recs psA)
 img:∀n:Int,0<Ag lg.all n↔n=0
theorem WB{T:Tou}{c:Chg1}{L:List Int}(h:NW T [c] L):L=if T c.page=0 then [c.page]else []:=by
 have hm:∀n,n∈L↔c.page=n/\T n=0:=fun n=>by
  rw[h.mem]
  exact⟨fun⟨d,hd,h1⟩=>by rw[mem_singleton.1 hd]at h1;exact h1,fun h1=>⟨c,.head _,h1⟩⟩
 by_cases h0:T c.page=0
 ·rw[if_pos h0]
  have hin:=(hm c.page).2 ⟨rfl,h0⟩
  match L,h.rise,hm,hin with
  | [],_,_,hin=>cases hin
  | [x],_,hm,_=>rw[((hm x).1 (.head _)).1]
  |x::y::r,hr,hm,_=>
   have h1:=((hm x).1 (.head _)).1
   have h2:=((hm y).1 (.tail _ (.head _))).1
   have h3:=(List.pairwise_cons.1 hr).1 y (.head _)
   omega
 ·rw[if_neg h0]
  match L,hm with
  | [],_=>rfl
  |x::r,hm=>
   have h1:=(hm x).1 (.head _)
   rw[<- h1.1]at h1
   exact absurd h1.2 h0
theorem Ti:CZ [chA]=[⟨(101::BR chA).toArray⟩]:=rfl
theorem alive_a{lg':Lg}{Ps':List AP}{T':Tou}{wt' code:Int}(h:GY lg0 [] T0 0 [chA] lg' Ps' T' wt' code):code=0/\Ps'=psA/\T'=tA/\wt'=1/\∃g,SL g lg':=by
 have ht:CU [] [chA]=some [((0:Int),(([(0,[97])],0):AP))]:=by kernel_rfl
 rcases h with⟨h1,_⟩|⟨_,h1,_⟩|⟨_,hc,M,L,rs,hM,hL,hI,hlg,hPs,hT,hwt⟩
 ·exact absurd rfl h1
 ·rw[ht]at h1;cases h1
 ·rw[ht]at hM
  cases hM
  have hLe:=WB hL
  have e0:L=[0]:=hLe
  subst e0
  obtain⟨G,g1,rfl⟩:=hI
  have hg:Sl.Rep (G 0) [] 0:=g1 0 (.head _)
  have hsz:∀s∈[imgR 0 (G 0)]++CZ [chA],s.size<=65536:=fun s hs=>by
   rw[Ti]at hs
   rcases mem_append.1 hs with hs|hs
   ·rw[mem_singleton.1 hs,imgR,Cj,length_cons,length_append,AU,hg.ok.len];omega
   ·rw[mem_singleton.1 hs,Cj];decide
  have happ:=Fp lg0 _ hsz
  have hlg2:lg'=BD lg0 ([imgR 0 (G 0)]++CZ [chA]):=hlg
  rw[<- hlg2]at happ
  have hall:lg'.all=[imgR 0 (G 0)]++CZ [chA]:=by rw[happ.all];rfl
  have hlen:lg'.all.length=2:=by rw[hall,Ti];rfl
  have hPs2:Ps'=psA:=by rw[hPs,hlen];kernel_rfl
  have hrc:=(bz.nil (recs [])).dB (T:=T0) (l:=[chA]) (M:=[((0:Int),(([(0,[97])],0):AP))]) (L:=[0]) (rs:=[imgR 0 (G 0)]) ht hL ⟨G,g1,rfl⟩ (fun n hn=>absurd hn (Nat.lt_irrefl _)) 2
  rw[nil_append,<- hall]at hrc
  have e3:layP 2 (BJ [] [0]) [((0:Int),(([(0,[97])],0):AP))]=psA:=by kernel_rfl
  rw[e3]at hrc
  refine⟨hc,hPs2,hT,by rw[hwt];rfl,G 0,hg,hall,happ,hrc.1,fun n=>?_⟩
  rw[hrc.2.1]
  exact⟨fun h=>h.elim (fun h=>absurd h (Nat.lt_irrefl _)) mem_singleton.1,fun h=>.inr (mem_singleton.2 h)⟩
theorem alive_b{lg lg':Lg}(hc0:lg.code=0)(hl:lg.all.length=2){Ps':List AP}{T':Tou}{wt' code:Int}(h:GY lg psA tA 0 [chB2] lg' Ps' T' wt' code):code=0/\Ps'=psB/\wt'=1:=by
 have ht:CU psA [chB2]=some [((0:Int),(([(0,[97]),(1,[98])],2):AP))]:=by kernel_rfl
 rcases h with⟨h1,_⟩|⟨_,h1,_⟩|⟨_,hc,M,L,rs,hM,hL,hI,hlg,hPs,hT,hwt⟩
 ·exact absurd hc0 h1
 ·rw[ht]at h1;cases h1
 ·rw[ht]at hM
  cases hM
  have hLe:=WB hL
  have e0:L=[]:=hLe
  subst e0
  obtain⟨G,g1,rfl⟩:=hI
  have hsz:∀s∈CZ [chB2],s.size<=65536:=fun s hs=>by
   have e:CZ [chB2]=[⟨(101::BR chB2).toArray⟩]:=rfl
   rw[e]at hs
   rw[mem_singleton.1 hs,Cj];decide
  have happ:=Fp lg (CZ [chB2]) hsz
  have hlg2:lg'=BD lg (CZ [chB2]):=hlg
  rw[<- hlg2]at happ
  have hlen:lg'.all.length=3:=by rw[happ.all,length_append,hl];rfl
  exact⟨hc,by rw[hPs,hlen];kernel_rfl,by rw[hwt];rfl⟩
theorem SL.len{g:Sl.Pg}{lg:Lg}(h:SL g lg):lg.b.length=4115/\lg.all.length=2/\lg.b=AV lg.all/\∀s∈lg.all,s.size<=65536:=by
 have hi:(imgR 0 g).size=4099:=by rw[imgR,Cj,length_cons,length_append,AU,h.rep.ok.len]
 have hp:(⟨(101::BR chA).toArray⟩:ByteArray).size=8:=by rw[Cj];decide
 have hb:lg.b=bT (bT [] (imgR 0 g)) ⟨(101::BR chA).toArray⟩:=by rw[h.app.b,Ti];rfl
 refine⟨?_,by rw[h.all,Ti];rfl,by rw[hb,h.all,Ti];rfl,fun s hs=>?_⟩
 ·rw[hb,GL,GL,hi,hp];rfl
 ·rw[h.all,Ti]at hs
  rcases mem_append.1 hs with hs|hs
  ·rw[mem_singleton.1 hs,hi];omega
  ·rw[mem_singleton.1 hs,hp];omega
theorem alive_sync{g:Sl.Pg}{lg:Lg}(h:SL g lg)(room:Nat)(hr:20<=room):∃d2,Ak (Ce room) lg=(d2,{lg with mark:=2,firm:=lg.b.length,many:=2},0)/\Calm d2/\Live 0 2 lg.b (Gof lg.all (recs psA)) d2:=by
 obtain⟨h1,h2,h3,h4⟩:=h.len
 have hn:lg.name=nLog:=by rw[h.app.name];rfl
 have hc:lg.code=0:=by rw[h.app.code];rfl
 have hf:lg.firm=0:=by rw[h.app.firm];rfl
 have hm:lg.mark=1:=by rw[h.app.mark];rfl
 have hns:nsec lg.b.length=9:=by rw[h1];rfl
 have hfl:((Ce room).file 0).now.length=2:=rfl
 obtain⟨q,e1,e2⟩:=flush_calm (fresh_one room) hn hc (by rw[hf,hfl];decide) (by rw[hfl];omega) (by omega) (by rw[hns];show 0+2+9<=room;omega)
 have hL:Live 0 lg.mark (lg.b.take lg.firm) (Gof [] fun _=>[]) (Ce room):=by
  rw[hf,take_zero,hm]
  exact SN room UC
 have hG:∀c,Gof [] (fun _=>[]) c->Gof lg.all (recs psA) c:=fun c hc=>bJ hc fun n hn hi=>by
  have:n≠0:=fun e=>by
   have:=(h.img (n:Int)).2 (by omega)
   omega
  cases n with
  |zero=>exact absurd rfl this
  |succ n=>rfl
 rcases Live.flush hn hc (by omega) hL (by rw[hm];decide) (by rw[h1];decide)with⟨_,h6⟩|⟨h6,_⟩
 ·rw[e1]at h6
  rw[hm]at e1
  refine⟨_,by rw[e1,h2],⟨rfl,rfl,rfl⟩,?_⟩
  rw[hm]at h6
  exact⟨h6.fok,h6.log,h6.lt,h6.logc,fun i=>by
   rcases h6.data i with⟨h7,h8⟩|⟨q',h7,h8,h9,h10⟩
   ·exact .inl ⟨h7,hG _ h8⟩
   ·exact .inr ⟨q',h7,h8,h9,fun c hc=>hG c (h10 c hc)⟩⟩
 ·rw[e1]at h6;exact absurd rfl h6
theorem Ir(q:Dk)(names:Int)(ps:List Int):Calm (q.bV names ps):=⟨rfl,rfl,rfl⟩
theorem Rf{d:Dk}(h:Calm d):(Au d).2=0/\Calm (Au d).1:=by
 unfold Au
 split
 ·rw[create_calm h (by decide)]
  exact⟨rfl,h.armed,h.denied,h.dead⟩
 ·exact⟨rfl,h⟩
theorem alive_crash{g:Sl.Pg}{lg:Lg}(h:SL g lg){d2:Dk}(hL:Live 0 2 lg.b (Gof lg.all (recs psA)) d2)(n:Int)(ps:List Int):(Ac (d2.bV n ps)).2.1=0/\(Az (Ac (d2.bV n ps)).2.2.2.Ps).length=1:=by
 obtain⟨h1,h2,h3,h4⟩:=h.len
 obtain⟨k,m,B,⟨rfl,rfl⟩,hC⟩:=(hL.any (Q:=fun m B=>m=2/\B=lg.b) ⟨rfl,rfl⟩).bV n ps
 have hf:=Rf (Ir d2 n ps)
 have ho:=U7 hC rfl (by rw[h3];exact Gw h4) h.repl (fun i hi=>by
  cases i with
  |zero=>omega
  |succ i=>rfl) hf.1
 refine⟨ho.2.1,?_⟩
 have hr:Az (Ac (d2.bV n ps)).2.2.2.Ps=Az psA:=Gn _ _ 0 ho.2.2.2.1
 rw[hr];rfl
theorem Su{B:List Nat}{w0 w:World}{L1:List Asn}{a:Asn}{L2:List Asn}(H:Hp B w0 w (L1++a::L2)):∀W,Chg (feet L1) w W->a.ok W:=fun W hW=>by
 have hok:=H.ok a (mem_append_right _ (.head _))
 have hsep:=List.pairwise_append.1 H.sep
 refine Asn.aC hok fun k hk=>hW.2.2.2.2 k (Asn.Y8 hok k hk) fun hf=>?_
 obtain⟨x,hx,hxk⟩:=Dy.1 hf
 exact hsep.2.2 x hx a (.head _) k hxk hk
def jnoD(y:GW)(x:DW)(s:St)(p:JP)(tt:Nat)(wt:Int)(Ps:List AP)(T:Tou):List Asn:=
 jpL y.jb (ptrV x.b) (ptrV y.lw.b) (ptrV y.pb) p (some tt) wt Ps++(touA tt T::BN y x s::fsA y s::lgT y.lw s.lg::lgB y.lw s.lg::lgA y.lw x.b s.lg::frsL y.fs s.fs)
theorem EK(y:GW)(x:DW)(s:St)(p:JP)(tt:Nat)(wt:Int)(Ps:List AP)(T:Tou):(AZ y x s p tt wt Ps T).Perm (dkL x s.d++jnoD y x s p tt wt Ps T):=by
 rw[AZ,DX,jnoD];(refine AC fun ff gg h0 hc ha hpm=>?_;simp only[ha,hc,h0];omega)
theorem KG(y:GW)(x:DW)(s:St)(p:JP)(tt:Nat)(wt:Int)(Ps:List AP)(T:Tou)(m:Nat)(hr:Rest y x s p Ps m)(hl:LgB s.lg){N:Nat}(fit:s.d.Fit N)(hN:N<=400000)(w:World)(st:Std w (AZ y x s p tt wt Ps T)):
  Calls Tryz.prog 22 #[.pointer (some ⟨y.jb,0,none⟩)] w fun e w'=>e=.returned (.int .i64 (BK s.d s.lg wt).2.2.2)/\∃(x':DW)(lw:LW),x'.b=x.b/\lw.b=y.lw.b/\Rest {y with lw:=lw} x' {s with d:=(BK s.d s.lg wt).1,lg:=(BK s.d s.lg wt).2.1} p Ps m/\
   Hp (feet (AZ y x s p tt wt Ps T)) w w' (AZ {y with lw:=lw} x' {s with d:=(BK s.d s.lg wt).1,lg:=(BK s.d s.lg wt).2.1} p tt (BK s.d s.lg wt).2.2.1 Ps T):=by
 have H:=Hp.Ap st
 generalize hB:feet (AZ y x s p tt wt Ps T)=B at H⊢
 have H1:Hp B w w (jsL y.jb (ptrV x.b) (ptrV y.pb) p (some tt) wt y.lw x s.d s.lg++(.own 99 1 p.pa p.bs.length p.pc (EH p.bs)::(List.zipWith BG p.bs Ps++(touA tt T::BN y x s::fsA y s::frsL y.fs s.fs)))):=H.perm (by
  rw[AZ,DX,jpL,jsL,lgL]
  have ej:Asn.blk y.jb (jcV (ptrV x.b) (.pointer (some ⟨y.lw.b,0,none⟩)) (ptrV y.pb) p (some tt) wt) 91=.blk y.jb (jcV (ptrV x.b) (ptrV y.lw.b) (ptrV y.pb) p (some tt) wt) 91:=rfl
  rw[ej]
  (refine AC fun ff gg h0 hc ha hpm=>?_;simp only[ha,hc,h0];omega))
 refine Calls.mono (jsync_spec y.jb (ptrV x.b) (ptrV y.pb) p (some tt) wt y.lw x s.d s.lg hr.dk fit hN hl.1 hl.2.1 hl.2.2 w H1.std1) ?_
 rintro e w1 ⟨rfl,x',lw,hxb,hlw,hx',H'⟩
 have H2:=H1.useL H'
 clear H H1 H'
 refine⟨rfl,x',lw,hxb,hlw,⟨hr.fs,hx',⟨hr.idle.fr,hr.idle.len,hr.idle.many,hr.idle.hand,hr.idle.turn,hr.idle.nd⟩,hr.pages,JA ?_ _,hr.bs,hr.few⟩,?_⟩
 ·show 0<=(BK s.d s.lg wt).1.size Aa
  have h0:=hr.sz.1
  have h1:=hr.sz.2
  unfold BK
  split
  ·exact h0
  ·exact h1
 ·generalize BK s.d s.lg wt=r at H2⊢
  refine H2.perm ?_
  rw[AZ,DX,jpL,jsL,lgL]
  have ej:Asn.blk y.jb (jcV (ptrV x.b) (.pointer (some ⟨lw.b,0,none⟩)) (ptrV y.pb) p (some tt) r.2.2.1) 91=.blk ({y with lw:=lw}:GW).jb (jcV (ptrV x'.b) (ptrV ({y with lw:=lw}:GW).lw.b) (ptrV ({y with lw:=lw}:GW).pb) p (some tt) r.2.2.1) 91:=by rw[hxb];rfl
  have ep:BN {y with lw:=lw} x' {s with d:=r.1,lg:=r.2.1}=BN y x s:=by simp only[BN,BL,hxb]
  have ef:fsA {y with lw:=lw} {s with d:=r.1,lg:=r.2.1}=fsA y s:=rfl
  rw[ej,ep,ef]
  (refine AC fun ff gg h0 hc ha hpm=>?_;simp only[ha,hc,h0];omega)
theorem TI:Tryz.prog.underlying 34=some (.pointer (Tryz.prog.pointee 34)):=by kernel_rfl
theorem alive_spec(w:World):Calls Tryz.prog 8 #[] w fun e w'=>e=.returned (.bool true)/\Hp [] w w' []:=by
 apply alive.ok;unfold alive.vc
 refine AL (Qc 500 w) ?_
 rintro e w1 ⟨x,rfl,hx,H⟩
 refine⟨_,rfl,_,Cb Qw,CX ?_⟩
 have hb:=begun500
 have fitN:(Dk.new 500).Fit 1:=⟨by decide,(fun f hf=>by cases hf),(fun M=>by have e:(Dk.new 500).chs.take M=[]:=take_nil;rw[e];decide),by decide⟩
 refine AL (G7 x (Dk.new 500) hx fitN (by omega) 4 (by omega) w1 H.std) ?_
 rintro e w2 ⟨x1,hx1b,hx1,hcase⟩
 rcases hcase with⟨hc,_⟩|⟨_,y,s,p,tt,m,rfl,hR,hm,hsd,hslg,hsm,hsp,hsT,H'⟩
 ·exact absurd hb.code hc
 replace H:=H.Dq H'
 clear H'
 rw[hb.Ps]at hR H
 rw[hb.T]at H
 have hbd:(Ac (Dk.new 500)).1=Ce 500:=hb.d
 rw[hbd]at hsd hx1
 rw[hb.lg]at hslg
 refine⟨_,_,rfl,Aw (fun h=>absurd rfl h) (fun _=>⟨_,Cb TI,CX ?_⟩)⟩
 intro b w3 hn
 replace H:=(H.new (cs:=[.int .i64 0,.int .i64 0,.string ⟨#[97]⟩,.bool false]) EQ4 hn).perm (M:=AZ y x1 s p tt 0 [] T0++[.blk b [.int .i64 0,.int .i64 0,.string ⟨#[97]⟩,.bool false] 73]) (by(refine AC fun ff gg h0 hc ha hpm=>?_;simp only[ha,hc,h0];omega))
 clear hn
 have hC:∀W,Chg (feet (AZ y x1 s p tt 0 [] T0)) w3 W->Cells W (some ⟨b,0,none⟩) (chC [chA]):=fun W hW=>Blk.cells (cs:=[.int .i64 0,.int .i64 0,.string ⟨#[97]⟩,.bool false]) (T:=73) (Su H W hW)
 refine AL (GV y x1 s p tt 0 [] T0 m hR (by omega) (fun n=>Nat.zero_le _) (by rw[hslg];decide) (by rw[hslg];decide) (some ⟨b,0,none⟩) 1 [chA] (by simp) (by decide) w3 H.std1 hC) ?_
 rintro e w4 ⟨c4,lg4,Ps4,T4,wt4,hcr,rfl,lw4,p4,hlw4,hR4,H'⟩
 replace H:=H.useL H'
 clear H' hC
 rw[hslg]at hcr
 obtain⟨rfl,rfl,rfl,rfl,g,hA⟩:=alive_a hcr
 obtain⟨hA1,hA2,hA3,hA4⟩:=hA.len
 refine⟨_,rfl,?_⟩
 have hfr:(Ce 500).Fit 4:=Ur 500
 have hnm:lg4.mark=1:=by rw[hA.app.mark];rfl
 have hnf:lg4.firm=0:=by rw[hA.app.firm];rfl
 have hnc:lg4.code=0:=by rw[hA.app.code];rfl
 have hsd4:({s with lg:=lg4}:St).d=Ce 500:=hsd
 refine AL (KG {y with lw:=lw4} x1 {s with lg:=lg4} p4 tt 1 psA tA m hR4 (by show lg4.b.length<=_/\lg4.firm<=_/\lg4.mark<=_;omega) (by rw[hsd4];exact hfr) (by omega) w4 H.std1) ?_
 rintro e w5 ⟨rfl,x5,lw5,hx5b,hlw5,hR5,H'⟩
 replace H:=H.useL H'
 clear H'
 obtain⟨d2,hfl,hcalm,hlive⟩:=alive_sync hA 500 (by omega)
 obtain⟨lg5,hlg5⟩:∃lg5,lg5= {lg4 with mark:=2,firm:=lg4.b.length,many:=2}:=⟨_,rfl⟩
 have hsy:BK ({s with lg:=lg4}:St).d ({s with lg:=lg4}:St).lg 1=(d2,lg5,0,0):=by
  rw[hsd4,BK,if_neg (fun h=>h hnc)]
  show((Ak (Ce 500) lg4).1,(Ak (Ce 500) lg4).2.1,(if(Ak (Ce 500) lg4).2.2=0 then(0:Int)else 1),(Ak (Ce 500) lg4).2.2)=_
  rw[hfl,hlg5]
  rfl
 have hfit2:d2.Fit 40:=by
  have:=RI (Ce 500) lg4 hfr
  rw[hfl,hA1]at this
  exact this.mono (by decide)
 rw[hsy]at hR5 H⊢
 refine⟨_,rfl,?_⟩
 have ey5:({({y with lw:=lw4}:GW)with lw:=lw5}:GW)= {y with lw:=lw5}:=rfl
 have es5:({({s with lg:=lg4}:St)with d:=d2,lg:=lg5}:St)= {s with d:=d2,lg:=lg5}:=rfl
 intro b2 w6 hn
 replace H:=(H.new (cs:=[.int .i64 0,.int .i64 1,.string ⟨#[98]⟩,.bool false]) EQ4 hn).perm (M:=AZ {y with lw:=lw5} x5 {s with d:=d2,lg:=lg5} p4 tt 0 psA tA++[.blk b2 [.int .i64 0,.int .i64 1,.string ⟨#[98]⟩,.bool false] 73,.blk b [.int .i64 0,.int .i64 0,.string ⟨#[97]⟩,.bool false] 73]) (by(refine AC fun ff gg h0 hc ha hpm=>?_;simp only[ha,hc,h0];omega))
 clear hn
 have hC:∀W,Chg (feet (AZ {y with lw:=lw5} x5 {s with d:=d2,lg:=lg5} p4 tt 0 psA tA)) w6 W->Cells W (some ⟨b2,0,none⟩) (chC [chB2]):=fun W hW=>Blk.cells (cs:=[.int .i64 0,.int .i64 1,.string ⟨#[98]⟩,.bool false]) (T:=73) (Su H W hW)
 have hlb5:lg5.b=lg4.b:=by rw[hlg5]
 have hla5:lg5.all=lg4.all:=by rw[hlg5]
 have hlc5:lg5.code=0:=by rw[hlg5];exact hnc
 refine AL (GV {y with lw:=lw5} x5 {s with d:=d2,lg:=lg5} p4 tt 0 psA tA m hR5 (by omega) (fun n=>by unfold tA Tou.up;show(if n=0 then 0+1 else 0)<=100000000;split<;>omega) (by show lg5.b.length<=_;rw[hlb5];omega) (by show lg5.all.length<=_;rw[hla5];omega) (some ⟨b2,0,none⟩) 1 [chB2] (by simp) (by decide) w6 H.std1 hC) ?_
 rintro e w7 ⟨c7,lg7,Ps7,T7,wt7,hcr7,rfl,lw7,p7,hlw7,hR7,H'⟩
 replace H:=H.useL H'
 clear H' hC
 obtain⟨rfl,rfl,rfl⟩:=alive_b hlc5 (by show lg5.all.length=2;rw[hla5];exact hA2) hcr7
 refine⟨_,rfl,?_⟩
 obtain⟨X,hX⟩:∃X,X=jnoD {y with lw:=lw7} x5 {s with d:=d2,lg:=lg7} p7 tt 1 psB T7:=⟨_,rfl⟩
 have H2:Hp [] w w7 (dkL x5 d2++X):=by
  have:=H.BQ.perm (EK {y with lw:=lw7} x5 {s with d:=d2,lg:=lg7} p7 tt 1 psB T7)
  rw[hX];exact this
 clear H
 have hx5:x5.Ok d2:=hR5.dk
 have hxb5:x5.b=x.b:=by rw[hx5b,hx1b]
 have hcs:=MB x5 d2 hx5 hfit2.few (by omega) 0 none 0 [] w7 H2.std1 (fun W hW=>by intro j v hj;simp[ints]at hj) (Nat.le_refl _)
 rw[hxb5]at hcs
 refine AL hcs ?_
 clear hcs
 rintro e w8 ⟨z,rfl,hz,H'⟩
 have H3:=H2.useL H'
 clear H2 H'
 refine⟨_,rfl,_,Cb Qw,CX ?_⟩
 obtain⟨hcc,hcrow⟩:=alive_crash hA hlive 0 []
 have fit3:(d2.bV 0 []).Fit 40:=Fit.bV hfit2 hx5.dk 0 []
 have H4:Hp [] w w8 (dkL z (d2.bV 0 [])++(dkL x5 d2++X)):=by rw[<- append_assoc];exact H3
 clear H3
 refine AL (G7 z (d2.bV 0 []) hz fit3 (by omega) 4 (by omega) w8 H4.std1) ?_
 rintro e w9 ⟨z1,hz1b,hz1,hcase⟩
 rcases hcase with⟨hc,_⟩|⟨_,y9,s9,p9,tt9,m9,rfl,hR9,hm9,hsd9,hslg9,hsm9,hsp9,hsT9,H'⟩
 ·exact absurd hcc hc
 have H5:=H4.useL H'
 clear H4 H'
 refine⟨_,_,rfl,D8 (D8 (D8 ⟨true,Xl TI,D8 ?_⟩))⟩
 refine AL (Hf y9.jb (ptrV z1.b) (ptrV y9.lw.b) (ptrV y9.pb) p9 (some tt9) 0 _ hR9.bs hR9.few w9 (Hp.std1 (L1:=jpL y9.jb (ptrV z1.b) (ptrV y9.lw.b) (ptrV y9.pb) p9 (some tt9) 0 (Ac (d2.bV 0 [])).2.2.2.Ps) H5.BQ)) ?_
 rintro e w10 ⟨a10,c10,rfl,_,H'⟩
 have H6:=H5.ext0 H'.done
 clear H5 H'
 rw[hcrow]
 refine⟨_,_,_,rfl,D8 ?_⟩
 have H7:Hp [] w w10 (jpL y.jb (ptrV x5.b) (ptrV lw7.b) (ptrV y.pb) p7 (some tt) 1 psB++((touA tt T7::BN {y with lw:=lw7} x5 {s with d:=d2,lg:=lg7}::fsA {y with lw:=lw7} {s with d:=d2,lg:=lg7}::lgT lw7 lg7::lgB lw7 lg7::lgA lw7 x5.b lg7::frsL y.fs s.fs)++(dkL x5 d2++AZ y9 z1 s9 p9 tt9 0 (Ac (d2.bV 0 [])).2.2.2.Ps (Ac (d2.bV 0 [])).2.2.2.T))):=H6.perm (by
  rw[hX,jnoD]
  have ej:jpL ({y with lw:=lw7}:GW).jb (ptrV x5.b) (ptrV ({y with lw:=lw7}:GW).lw.b) (ptrV ({y with lw:=lw7}:GW).pb) p7 (some tt) 1 psB=jpL y.jb (ptrV x5.b) (ptrV lw7.b) (ptrV y.pb) p7 (some tt) 1 psB:=rfl
  have ef:frsL ({y with lw:=lw7}:GW).fs ({s with d:=d2,lg:=lg7}:St).fs=frsL y.fs s.fs:=rfl
  have e1:lgT ({y with lw:=lw7}:GW).lw ({s with d:=d2,lg:=lg7}:St).lg=lgT lw7 lg7:=rfl
  have e2:lgB ({y with lw:=lw7}:GW).lw ({s with d:=d2,lg:=lg7}:St).lg=lgB lw7 lg7:=rfl
  have e3:lgA ({y with lw:=lw7}:GW).lw x5.b ({s with d:=d2,lg:=lg7}:St).lg=lgA lw7 x5.b lg7:=rfl
  rw[ej,ef,e1,e2,e3]
  (refine AC fun ff gg h0 hc ha hpm=>?_;simp only[ha,hc,h0];omega))
 clear H6
 refine AL (Hf y.jb (ptrV x5.b) (ptrV lw7.b) (ptrV y.pb) p7 (some tt) 1 psB hR7.bs hR7.few w10 H7.std1) ?_
 rintro e w11 ⟨a11,c11,rfl,_,H'⟩
 have H8:=H7.ext0 H'.done
 clear H7 H'
 refine⟨_,_,_,rfl,?_⟩
 have hl2:(Az psB).length=2:=rfl
 rw[hl2]
 refine D8 ?_
 refine AL (LC y.jb (ptrV x5.b) (ptrV lw7.b) (ptrV y.pb) p7 (some tt) 1 w11 (H8.blk (.head _))) ?_
 rintro e w12 ⟨rfl,H'⟩
 have H9:=H8.ext0 H'
 exact⟨_,rfl,rfl,H9.done⟩
theorem PH:Agg Tryz.prog 98 4:=IK (by kernel_rfl)
theorem Ux:Elt Tryz.prog 38 98 4 40:=FP (by kernel_rfl)
theorem OJ:Tryz.prog.underlying 38=some (.slice 98):=by kernel_rfl
theorem aO{w:World}{a:Option Addr}{l:List Chg1}(h:Cells w a (chC l)){k:Nat}(hk:k<l.length):∃ad,a=some ad/\Ld Tryz.prog 98 w (ad.add (k*4)) (cgV l[k]):=by
 have hne:0<(chC l).length:=by rw[V4];omega
 obtain⟨ad,had,_⟩:=h 0 _ (List.getElem?_eq_getElem hne)
 exact⟨ad,had,h.ldA PH had (QP hk) rfl⟩
theorem LP(la:Option Addr)(lc:Nat)(l:List Chg1)(hl:l.length<=100000000)(w:World)(hL:Cells w la (chC l)):
  Calls Tryz.prog 13 #[.slice la l.length lc] w fun e w'=>∃a c,e=.returned (.slice a l.length c)/\Hp [] w w' [.own 98 4 a l.length c (chC l)]:=by
 apply plain.ok;unfold plain.vc
 refine Ae.mk (fun m s w'=>∃(k:Nat)(a:Option Addr)(c:Nat),m=l.length-k/\k<=l.length/\s=((a,k,c),(k:Int))/\Hp [] w w' [.own 98 4 a k c (chC (l.take k))]) l.length ⟨0,none,0,rfl,by omega,rfl,(Hp.start w).nilS 98 4⟩ ?_
 rintro m s w1 next ⟨k,a,c,rfl,hk,rfl,H⟩ hnext
 dsimp only
 refine AO (fun h1=>?_) (fun h1=>?_)
 ·have hkl:k<l.length:=by omega
  obtain⟨ad,had,hld⟩:=Vo (hL.chg H.chg (by simp)) hkl
  have hsn:chC (l.take (k+1))=chC (l.take k)++[.int .i64 l[k].page,.int .i64 l[k].slot,.string l[k].s,.bool l[k].gone]:=by rw[take_succ_eq_append_getElem hkl,Gv]
  generalize l[k]=q at hld hsn
  refine AA had ⟨⟨by omega,by omega⟩,_,_,_,_,by rw[Int.toNat_natCast];exact hld,?_⟩
  intro b1 w2 hn
  replace H:=H.new (cs:=[.int .i64 0,.int .i64 0,.string ⟨#[]⟩,.bool false]) EQ4 hn
  clear hn
  refine Hp.stA (o:=0) H EQ4 Jz (vs:=[.int .i64 q.page,.int .i64 q.slot,.string q.s,.bool q.gone]) rfl rfl (by simp) (cs':=[.int .i64 q.page,.int .i64 q.slot,.string q.s,.bool q.gone]) rfl ?_
  clear H;intro w3 H
  refine⟨_,_,_,_,H.ldA (o:=0) EQ4 Jz (.head _) (vs:=[.int .i64 q.page,.int .i64 q.slot,.string q.s,.bool q.gone]) rfl rfl,?_⟩
  intro b2 w4 hn
  replace H:=H.new (cs:=[.int .i64 q.page,.int .i64 q.slot,.string q.s,.bool q.gone]) EQ4 hn
  clear hn
  refine Hp.app Ux (by omega) H.BF EQ4 (Blk.src (n:=1) OJ (H.blk (.head _)) rfl rfl) (by simp only[maxLen];omega) (by omega) ?_
  clear H;intro a5 c5 w5 H
  refine⟨AY.2 (by omega),hnext (l.length-(k+1)) _ _ (by omega) ⟨k+1,a5,c5,rfl,by omega,rfl,?_⟩⟩
  rw[hsn]
  exact H.del1.del1
 ·have hke:k=l.length:=by omega
  subst hke
  rw[take_length]at H
  exact⟨a,c,rfl,H⟩
def BO(a b:Chg1):Prop:=if a.page≠b.page then a.page<b.page else a.slot<b.slot
theorem Uf:∀(Ps:List AP)(n:Nat),(∀P∈Ps,P.1.Pairwise fun a b=>a.1<b.1)->(DL n Ps).Pairwise BO/\∀c∈DL n Ps,(n:Int)<=c.page
 | [],n,_=>⟨.nil,by simp[DL]⟩
 |P::r,n,h=>by
  obtain⟨h1,h2⟩:=Uf r (n+1) fun Q hQ=>h Q (.tail _ hQ)
  rw[DL]
  refine⟨List.pairwise_append.2 ⟨pairwise_map.2 ((h P (.head _)).imp fun{a b} hab=>?_),h1,fun x hx y hy=>?_⟩,fun c hc=>?_⟩
  ·show BO _ _
   unfold BO rowP
   dsimp only
   rw[if_neg (fun h=>h rfl)]
   omega
  ·obtain⟨q,_,rfl⟩:=mem_map.1 hx
   have:=h2 y hy
   unfold BO
   have hp:(rowP n q).page=(n:Int):=rfl
   rw[hp,if_pos (by omega)]
   omega
  ·rcases mem_append.1 hc with hc|hc
   ·obtain⟨q,_,rfl⟩:=mem_map.1 hc
    exact Int.le_refl _
   ·have:=h2 c hc;omega
theorem RP{w1:World}{R:Ending->World->Prop}(hR:∀w2,Hp [] w1 w2 []->R (.returned (.bool true)) w2):AB Tryz.prog 8 [] w1 R:=by
 refine AL (alive_spec w1) ?_
 rintro e w2 ⟨rfl,H'⟩
 exact hR w2 H'
theorem new_fit0(room:Int):(Dk.new room).Fit 1:=⟨by show 0<=1;omega,(fun f hf=>by cases hf),(fun M=>by have e:(Dk.new room).chs.take M=[]:=take_nil;rw[e];show 0<=1;omega),by show 0<=1;omega⟩
end Go.Proofs.YtdeebigmpffnbaaGreat
