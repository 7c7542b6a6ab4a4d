/- Part 6 of 6 of the proof of journalCrash_holds: for every input, from every world that may be reached. -/
import Derived.WalkKit
import Derived.RangeFuncSeq
import Derived.KernelRfl
import Derived.RangeFuncLeaves
import Derived.Test.YtdeebigmpffnbaaGreatChecked
import Derived.Deep.AppendSrc
import Derived.Laws.MakeOwn
import Derived.Laws.BytesArg
import Derived.Laws.BytesString
import Derived.Laws.IdiomStrings
import Derived.Maps.RangeRun
import Derived.Shelf.SlIter.Nil
import Derived.Shelf.SlIterI.Nil
import Derived.Shelf.SortM.Plain
import Derived.Shelf.SortM.SortNone
import Derived.Shelf.SlMaps.Clone
import Derived.StringKeys
import Derived.Laws.Pointers
import Derived.Sort.Walk0
import Derived.Lib.SliceRun
import Derived.Test.YtdeebigmpffnbaaGreatRows
import Derived.ProofKit
import Derived.Laws.StructEq
import Derived.ChangeKeysEq
import Derived.WideKeyRuns
import Derived.Test.YtdeebigmpffnbaaGreatPcr1
import Derived.Test.YtdeebigmpffnbaaGreatPcr2
import Derived.Test.YtdeebigmpffnbaaGreatPcr3
import Derived.Test.YtdeebigmpffnbaaGreatPcr4
import Derived.Test.YtdeebigmpffnbaaGreatPcr5
set_option linter.unusedVariables false
set_option linter.unusedSimpArgs false
set_option maxRecDepth 100000
set_option maxHeartbeats 4000000
open List(all_eq_true append_assoc drop_length flatMap_def foldl_append getElem_mem length_append length_cons length_map length_singleton length_take map_append map_cons map_map mem_append mem_append_left mem_append_right mem_cons mem_filter mem_map mem_of_getElem? mem_or_eq_of_mem_set mem_singleton nodup_cons pairwise_cons pairwise_map sum_append sum_cons take_length take_nil)
namespace Go.Proofs.YtdeebigmpffnbaaGreat
open Go Go.Vc Go.Vault Go.Redo
def ES(c d:Chg1):Bool:=decide (d.page=c.page)&&decide (d.slot=c.slot)
def Hg(l:List Chg1)(c:Chg1):Bool:=l.any (ES c)
def woF(l:List Chg1)(c:Chg1):List Chg1:=l.filter fun d=> !ES c d
instance (a b:Chg1):Decidable (BO a b):=by unfold BO;infer_instance
def wiG(c:Chg1):Bool->List Chg1->List Chg1
 |done,[]=>if done then []else [c]
 |done,d::r=>if !done&&decide (BO c d)then c::d::wiG c true r else d::wiG c done r
def chgF(l:List Chg1)(c:Chg1):List Chg1:=if c.gone then woF l c else wiG c false (woF l c)
def badR(now:List Chg1)(c:Chg1):Prop:=c.page<0\/4096<=c.page\/c.slot<0\/120<=c.slot\/(c.gone=true/\Hg now c=false)\/(c.gone=false/\3600<c.s.size)
instance (now:List Chg1) (c:Chg1):Decidable (badR now c):=by unfold badR;infer_instance
def rcF:List Chg1->List Chg1->Option (List Chg1)
 |now,[]=>some now
 |now,c::r=>if badR now c then none else rcF (chgF now c) r
def JZ(l:List Chg1)(page:Int):Int:=l.foldl (fun n d=>if d.page=page then n-(d.s.size:Int)else n) 3600
def BV(l more:List Chg1):List Chg1×Bool:=match rcF l more with
 |none=>(l,false)
 |some now=>if more.all (fun c=>decide (0<=JZ now c.page))then(now,true)else(l,false)
theorem Ez{l:List Chg1}{k:Nat}(h:k<l.length):l.take (k+1)=l.take k++[l[k]]:=List.take_succ_eq_append_getElem h
theorem VH{l:List Chg1}{k:Nat}(h:k<l.length){o:Nat}(ho:o<4){v:Value}(hv:([.int .i64 l[k].page,.int .i64 l[k].slot,.string l[k].s,.bool l[k].gone]:List Value)[o]? =some v):(chC l)[k*4+o]? =some v:=by
 have e:=QP h
 rw[<- e,List.getElem?_take_of_lt ho,List.getElem?_drop]at hv
 exact hv
theorem GR{w:World}{l:List Chg1}{a:Option Addr}(h:Cells w a (chC l)){k:Nat}(hk:k<l.length):∃ad,a=some ad/\Ld Tryz.prog 98 w (ad.add (k*4)) (cgV l[k])/\Ld Tryz.prog 3 w (ad.add (k*4)) (.int .i64 l[k].page)/\Ld Tryz.prog 3 w ((ad.add (k*4)).add 1) (.int .i64 l[k].slot)/\
  Ld Tryz.prog 9 w ((ad.add (k*4)).add 2) (.string l[k].s)/\Ld Tryz.prog 4 w ((ad.add (k*4)).add 3) (.bool l[k].gone):=by
 obtain⟨ad,had,hld⟩:=aO h hk
 refine⟨ad,had,hld,h.ld gInt had (VH hk (o:=0) (by omega) rfl),?_,?_,?_⟩
 ·rw[add_add];exact h.ld gInt had (VH hk (o:=1) (by omega) rfl)
 ·rw[add_add];exact h.ld gStr had (VH hk (o:=2) (by omega) rfl)
 ·rw[add_add];exact h.ld EN had (VH hk (o:=3) (by omega) rfl)
theorem rahead2_spec(a b:Chg1)(w:World):Calls Tryz.prog 41 #[cgV a,cgV b] w fun e w'=>e=.returned (.bool (decide (BO a b)))/\Hp [] w w' []:=by
 obtain⟨ap,as_,at_,ag⟩:=a
 obtain⟨bp,bs,bt,bg⟩:=b
 apply rahead.ok;unfold rahead.vc
 intro b1 w1 hn
 have H:=(Hp.start w).new (cs:=[.int .i64 ap,.int .i64 as_,.string at_,.bool ag]) EQ4 hn
 clear hn
 intro b2 w2 hn
 replace H:=H.new (cs:=[.int .i64 bp,.int .i64 bs,.string bt,.bool bg]) EQ4 hn
 clear hn
 refine⟨_,H.ld (o:=0) (cs:=[.int .i64 ap,.int .i64 as_,.string at_,.bool ag]) EQ4 gInt (.tail _ (.head _)) rfl,_,H.ld (o:=0) (cs:=[.int .i64 bp,.int .i64 bs,.string bt,.bool bg]) EQ4 gInt (.head _) rfl,Aw (fun h1=>?_) (fun h1=>?_)⟩
 ·have e:BO ⟨ap,as_,at_,ag⟩ ⟨bp,bs,bt,bg⟩↔ap<bp:=by unfold BO;dsimp only;rw[if_pos h1]
  exact⟨_,H.ld (o:=0) (cs:=[.int .i64 ap,.int .i64 as_,.string at_,.bool ag]) EQ4 gInt (.tail _ (.head _)) rfl,_,H.ld (o:=0) (cs:=[.int .i64 bp,.int .i64 bs,.string bt,.bool bg]) EQ4 gInt (.head _) rfl,by rw[decide_eq_decide.2 e],H.done⟩
 ·have e:BO ⟨ap,as_,at_,ag⟩ ⟨bp,bs,bt,bg⟩↔as_<bs:=by unfold BO;dsimp only;rw[if_neg (fun h=>h h1)]
  exact⟨_,H.ld (o:=1) (cs:=[.int .i64 ap,.int .i64 as_,.string at_,.bool ag]) EQ4 gInt (.tail _ (.head _)) rfl,_,H.ld (o:=1) (cs:=[.int .i64 bp,.int .i64 bs,.string bt,.bool bg]) EQ4 gInt (.head _) rfl,by rw[decide_eq_decide.2 e],H.done⟩
theorem rthere_spec(la:Option Addr)(lc:Nat)(l:List Chg1)(hl:l.length<=100000000)(c:Chg1)(w:World)(hL:Cells w la (chC l)):
  Calls Tryz.prog 78 #[.slice la l.length lc,cgV c] w fun e w'=>e=.returned (.bool (Hg l c))/\Hp [] w w' []:=by
 obtain⟨cp,cs,ct,cg⟩:=c
 apply rthere.ok;unfold rthere.vc
 intro b w1 hn
 have H:=(Hp.start w).new (cs:=[.int .i64 cp,.int .i64 cs,.string ct,.bool cg]) EQ4 hn
 clear hn
 refine Ae.mk (fun m s w'=>∃k:Nat,m=l.length-k/\k<=l.length/\s=(k:Int)/\Hg (l.take k) ⟨cp,cs,ct,cg⟩=false/\Hp [] w w' [.blk b [.int .i64 cp,.int .i64 cs,.string ct,.bool cg] 98]) l.length ⟨0,rfl,by omega,rfl,rfl,H⟩ ?_
 clear H w1
 rintro m s w1 next ⟨k,rfl,hk,rfl,hno,H⟩ hnext
 refine AO (fun h1=>?_) (fun h1=>?_)
 ·have hkl:k<l.length:=by omega
  obtain⟨ad,had,_,l0,l1,_,_⟩:=GR (hL.chg H.drew.chg (by simp)) hkl
  have hst:∀x,ES ⟨cp,cs,ct,cg⟩ l[k]=x->Hg (l.take (k+1)) ⟨cp,cs,ct,cg⟩=x:=fun x hx=>by
   rw[Ez hkl,Hg,List.any_append,<- Hg,hno,Bool.false_or,List.any_cons,List.any_nil,Bool.or_false,hx]
  have hin:l[k]∈l:=getElem_mem hkl
  generalize l[k]=d at l0 l1 hst hin
  have no:ES ⟨cp,cs,ct,cg⟩ d=false->∀{w':World},Hp [] w w' [.blk b [.int .i64 cp,.int .i64 cs,.string ct,.bool cg] 98]->inR .i64 ((k:Int)+1)/\next ((k:Int)+1) w':=fun hf w' H=>⟨AY.2 (by omega),hnext (l.length-(k+1)) _ _ (by omega) ⟨k+1,rfl,by omega,by omega,hst _ hf,H⟩⟩
  refine AA had ⟨⟨by omega,by omega⟩,_,by rw[Int.toNat_natCast];exact l0,_,H.drew.ld (o:=0) EQ4 gInt (.head _) rfl,AO (fun h2=>?_) (fun h2=>?_)⟩
  ·refine AA had ⟨⟨by omega,by omega⟩,_,by rw[Int.toNat_natCast];exact l1,_,H.drew.ld (o:=1) EQ4 gInt (.head _) rfl,AO (fun h3=>?_) (fun h3=>?_)⟩
   ·have ht:Hg l ⟨cp,cs,ct,cg⟩=true:=List.any_eq_true.2 ⟨d,hin,by simp[ES,h2,h3]⟩
    rw[ht]
    exact⟨rfl,H.drew.done⟩
   ·exact no (by simp[ES,h3]) H.drew
  ·exact no (by simp[ES,h2]) H.drew
 ·have hke:k=l.length:=by omega
  subst hke
  rw[take_length]at hno
  rw[hno]
  exact⟨rfl,H.done⟩
theorem wo_snoc(l:List Chg1)(c d:Chg1):woF (l++[d]) c=woF l c++if ES c d then []else [d]:=by
 rw[woF,List.filter_append,<- woF]
 congr 1
 by_cases h:ES c d=true
 ·rw[if_pos h];simp[h]
 ·rw[if_neg h];simp at h;simp[h]
theorem YP(l:List Chg1)(c:Chg1):(woF l c).length<=l.length:=List.length_filter_le _ _
theorem rwo_spec(la:Option Addr)(lc:Nat)(l:List Chg1)(hl:l.length<=100000000)(c:Chg1)(w:World)(hL:Cells w la (chC l)):
  Calls Tryz.prog 118 #[.slice la l.length lc,cgV c] w fun e w'=>∃a cc,e=.returned (.slice a (woF l c).length cc)/\Hp [] w w' [.own 98 4 a (woF l c).length cc (chC (woF l c))]:=by
 obtain⟨cp,cs,ct,cg⟩:=c
 apply rwo.ok;unfold rwo.vc
 intro b w1 hn
 have H:=((Hp.start w).new (cs:=[.int .i64 cp,.int .i64 cs,.string ct,.bool cg]) EQ4 hn).nilS 98 4
 clear hn
 obtain⟨c,hc⟩:∃c:Chg1,c=⟨cp,cs,ct,cg⟩:=⟨_,rfl⟩
 have h1:c.page=cp:=by rw[hc]
 have h2:c.slot=cs:=by rw[hc]
 rw[<- hc]
 refine Ae.mk (fun m s w'=>∃(k:Nat)(a:Option Addr)(cc:Nat),m=l.length-k/\k<=l.length/\s=((a,(woF (l.take k) c).length,cc),(k:Int))/\Hp [] w w' [.own 98 4 a (woF (l.take k) c).length cc (chC (woF (l.take k) c)),.blk b [.int .i64 cp,.int .i64 cs,.string ct,.bool cg] 98]) l.length ⟨0,none,0,rfl,by omega,rfl,H⟩ ?_
 clear H w1 hc
 rintro m s w1 next ⟨k,a,cc,rfl,hk,rfl,H⟩ hnext
 dsimp only
 refine AO (fun h3=>?_) (fun h3=>?_)
 ·have hkl:k<l.length:=by omega
  obtain⟨ad,had,lA,l0,l1,_,_⟩:=GR (hL.chg H.drew.chg (by simp)) hkl
  have hsn:woF (l.take (k+1)) c=woF (l.take k) c++if ES c l[k]then []else [l[k]]:=by rw[Ez hkl,wo_snoc]
  have hlen:=YP (l.take k) c
  rw[length_take]at hlen
  generalize l[k]=d at lA l0 l1 hsn
  have keep:ES c d=false->∀b_1 w1_1,New w1.drew (.cells #[.int .i64 d.page,.int .i64 d.slot,.string d.s,.bool d.gone] 98) b_1 w1_1->∃a_1 n m_1 w1_2,Go.Vc.App Tryz.prog #[38,38] 38 w1_1 (.slice a (woF (l.take k) c).length cc) (.slice (some ⟨b_1,0,none⟩) 1 1) (.slice a_1 n m_1) w1_2/\
    inR .i64 ((k:Int)+1)/\next ((a_1,n,m_1),(k:Int)+1) w1_2:=by
   intro hf b2 w2 hn
   replace H:=H.drew.new (cs:=[.int .i64 d.page,.int .i64 d.slot,.string d.s,.bool d.gone]) EQ4 hn
   clear hn
   refine Hp.app Ux (by omega) H.Aq EQ4 (Blk.src (n:=1) OJ (H.blk (.head _)) rfl rfl) (by simp only[maxLen];omega) (by omega) ?_
   clear H;intro a5 c5 w5 H
   refine⟨AY.2 (by omega),hnext (l.length-(k+1)) _ _ (by omega) ⟨k+1,a5,c5,rfl,by omega,?_,?_⟩⟩
   ·rw[hsn,hf];simp
   ·rw[hsn,hf]
    simp only[Bool.false_eq_true,if_false,length_append,length_singleton,Gv]
    exact H.del1
  refine AA had ⟨⟨by omega,by omega⟩,_,by rw[Int.toNat_natCast];exact l0,_,H.drew.ld (o:=0) EQ4 gInt (.tail _ (.head _)) rfl,Aw (fun h4=>?_) (fun h4=>?_)⟩
  ·exact AA had ⟨⟨by omega,by omega⟩,_,_,_,_,by rw[Int.toNat_natCast];exact lA,keep (by simp[ES,h1,h4])⟩
  ·refine AA had ⟨⟨by omega,by omega⟩,_,by rw[Int.toNat_natCast];exact l1,_,H.drew.ld (o:=1) EQ4 gInt (.tail _ (.head _)) rfl,Aw (fun h5=>?_) (fun h5=>?_)⟩
   ·exact AA had ⟨⟨by omega,by omega⟩,_,_,_,_,by rw[Int.toNat_natCast];exact lA,keep (by simp[ES,h2,h5])⟩
   ·have ht:ES c d=true:=by simp[ES,h1,h2,h4,h5]
    rw[ht]at hsn
    simp only[if_true,List.append_nil]at hsn
    exact⟨AY.2 (by omega),hnext (l.length-(k+1)) _ _ (by omega) ⟨k+1,a,cc,rfl,by omega,by rw[hsn];rfl,by rw[hsn];exact H.drew⟩⟩
 ·have hke:k=l.length:=by omega
  subst hke
  rw[take_length]at H
  exact⟨a,cc,by rw[take_length],H.JW⟩
theorem YE(c:Chg1):∀(l:List Chg1)(dn:Bool),(wiG c dn l).length=l.length+if dn then 0 else 1
 | [],dn=>by cases dn<;>rfl
 |d::r,dn=>by
  rw[wiG]
  split
  ·rename_i h
   rw[length_cons,length_cons,YE c r true]
   cases dn<;>simp_all
  ·rw[length_cons,YE c r dn,length_cons]
   omega
theorem rwi_spec(la:Option Addr)(lc:Nat)(l:List Chg1)(hl:l.length<=100000000)(c:Chg1)(w:World)(hL:Cells w la (chC l)):
  Calls Tryz.prog 119 #[.slice la l.length lc,cgV c] w fun e w'=>∃a cc,e=.returned (.slice a (wiG c false l).length cc)/\Hp [] w w' [.own 98 4 a (wiG c false l).length cc (chC (wiG c false l))]:=by
 obtain⟨cp,cs,ct,cg⟩:=c
 apply rwi.ok;unfold rwi.vc
 intro b w1 hn
 have H:=((Hp.start w).new (cs:=[.int .i64 cp,.int .i64 cs,.string ct,.bool cg]) EQ4 hn).nilS 98 4
 clear hn
 obtain⟨c,hc⟩:∃c:Chg1,c=⟨cp,cs,ct,cg⟩:=⟨_,rfl⟩
 have hcl:∀{w':World}{L:List Asn},Hp [] w w' L->Asn.blk b [.int .i64 cp,.int .i64 cs,.string ct,.bool cg] 98∈L->Ld Tryz.prog 98 w' ⟨b,0,none⟩ (.agg #[.int .i64 cp,.int .i64 cs,.string ct,.bool cg]):=fun H hm=>H.ldA (o:=0) EQ4 PH hm (vs:=[.int .i64 cp,.int .i64 cs,.string ct,.bool cg]) rfl rfl
 have hsc:∀(X:List Chg1),chC (X++[c])=chC X++[.int .i64 cp,.int .i64 cs,.string ct,.bool cg]:=fun X=>by rw[Gv,hc]
 have hah:∀(d:Chg1)(w':World),Calls Tryz.prog 41 #[.agg #[.int .i64 cp,.int .i64 cs,.string ct,.bool cg],cgV d] w' fun e w2=>e=.returned (.bool (decide (BO c d)))/\Hp [] w' w2 []:=fun d w'=>by rw[hc];exact rahead2_spec ⟨cp,cs,ct,cg⟩ d w'
 rw[<- hc]
 clear hc
 refine Ae.mk (fun m s w'=>∃(k:Nat)(a:Option Addr)(cc:Nat)(X:List Chg1)(dn:Bool),m=l.length-k/\k<=l.length/\s=((a,X.length,cc),dn,(k:Int))/\X++wiG c dn (l.drop k)=wiG c false l/\X.length<=2*k/\Hp [] w w' [.own 98 4 a X.length cc (chC X),.blk b [.int .i64 cp,.int .i64 cs,.string ct,.bool cg] 98]) l.length ⟨0,none,0,[],false,rfl,by omega,rfl,rfl,by simp,H⟩ ?_
 clear H w1
 rintro m s w1 next ⟨k,a,cc,X,dn,rfl,hk,rfl,hX,hXl,H⟩ hnext
 dsimp only
 refine AO (fun h3=>?_) (fun h3=>?_)
 ·have hkl:k<l.length:=by omega
  have hdk:l.drop k=l[k]::l.drop (k+1):=List.drop_eq_getElem_cons hkl
  rw[hdk,wiG]at hX
  refine F8.mk (fun s_1 w'=>s_1=(!dn&&decide (BO c l[k]))/\Hp [] w w' [.own 98 4 a X.length cc (chC X),.blk b [.int .i64 cp,.int .i64 cs,.string ct,.bool cg] 98]) ?_ (fun R' hR'=>?_)
  ·clear H w1
   rintro s_1 w1 ⟨rfl,H⟩
   have hld:∀{w':World},Chg [] w w'->∃ad,la=some ad/\Ld Tryz.prog 98 w' (ad.add (k*4)) (cgV l[k]):=fun hc=>by
    obtain⟨ad,had,lA,_⟩:=GR (hL.chg hc (by simp)) hkl
    exact⟨ad,had,lA⟩
   generalize l[k]=d at hX hld
   refine CE (fun h4=>?_) (fun h4=>?_)
   ·rw[if_pos h4]at hX
    refine⟨_,_,_,_,hcl H (.tail _ (.head _)),?_⟩
    intro b2 w2 hn
    replace H:=H.new (cs:=[.int .i64 cp,.int .i64 cs,.string ct,.bool cg]) EQ4 hn
    clear hn
    refine Hp.app Ux (by omega) H.Aq EQ4 (Blk.src (n:=1) OJ (H.blk (.head _)) rfl rfl) (by simp only[maxLen];omega) (by omega) ?_
    clear H;intro a5 c5 w5 H
    replace H:=H.del1
    obtain⟨ad,had,lA⟩:=hld H.chg
    refine AA had ⟨⟨by omega,by omega⟩,_,_,_,_,by rw[Int.toNat_natCast];exact lA,?_⟩
    intro b3 w6 hn
    replace H:=H.new (cs:=[.int .i64 d.page,.int .i64 d.slot,.string d.s,.bool d.gone]) EQ4 hn
    clear hn
    refine Hp.app Ux (by omega) H.Aq EQ4 (Blk.src (n:=1) OJ (H.blk (.head _)) rfl rfl) (by simp only[maxLen];omega) (by omega) ?_
    clear H;intro a6 c6 w7 H
    refine⟨AY.2 (by omega),hnext (l.length-(k+1)) _ _ (by omega) ⟨k+1,a6,c6,(X++[c])++[d],true,rfl,by omega,?_,?_,?_,?_⟩⟩
    ·simp only[length_append,length_singleton];rfl
    ·rw[<- hX];simp
    ·simp only[length_append,length_singleton];omega
    ·rw[Gv,hsc]
     simp only[length_append,length_singleton]
     exact H.del1
   ·rw[if_neg (by rw[h4];simp)]at hX
    obtain⟨ad,had,lA⟩:=hld H.chg
    refine AA had ⟨⟨by omega,by omega⟩,_,_,_,_,by rw[Int.toNat_natCast];exact lA,?_⟩
    intro b3 w6 hn
    replace H:=H.new (cs:=[.int .i64 d.page,.int .i64 d.slot,.string d.s,.bool d.gone]) EQ4 hn
    clear hn
    refine Hp.app Ux (by omega) H.Aq EQ4 (Blk.src (n:=1) OJ (H.blk (.head _)) rfl rfl) (by simp only[maxLen];omega) (by omega) ?_
    clear H;intro a6 c6 w7 H
    refine⟨AY.2 (by omega),hnext (l.length-(k+1)) _ _ (by omega) ⟨k+1,a6,c6,X++[d],dn,rfl,by omega,?_,?_,?_,?_⟩⟩
    ·simp only[length_append,length_singleton];rfl
    ·rw[<- hX];simp
    ·simp only[length_append,length_singleton];omega
    ·rw[Gv]
     simp only[length_append,length_singleton]
     exact H.del1
  ·refine BI (fun h4=>?_) (fun h4=>?_)
   ·refine⟨_,_,_,_,hcl H.drew (.tail _ (.head _)),?_⟩
    obtain⟨ad,had,lA,_⟩:=GR (hL.chg H.drew.chg (by simp)) hkl
    refine AA had ⟨⟨by omega,by omega⟩,_,_,_,_,by rw[Int.toNat_natCast];exact lA,?_⟩
    refine AL (hah l[k] w1.drew) ?_
    rintro e w2 ⟨rfl,H'⟩
    exact⟨_,rfl,hR' _ _ ⟨by rw[h4];rfl,H.drew.ext0 H'⟩⟩
   ·exact hR' _ _ ⟨by rw[h4];rfl,H.drew⟩
 ·have hke:k=l.length:=by omega
  subst hke
  rw[drop_length,wiG]at hX
  refine BI (fun h4=>?_) (fun h4=>?_)
  ·rw[h4]at hX
   simp only[Bool.false_eq_true,if_false]at hX
   refine⟨_,_,_,_,hcl H (.tail _ (.head _)),?_⟩
   intro b2 w2 hn
   replace H:=H.new (cs:=[.int .i64 cp,.int .i64 cs,.string ct,.bool cg]) EQ4 hn
   clear hn
   refine Hp.app Ux (by omega) H.Aq EQ4 (Blk.src (n:=1) OJ (H.blk (.head _)) rfl rfl) (by simp only[maxLen];omega) (by omega) ?_
   clear H;intro a5 c5 w5 H
   rw[<- hX]
   refine⟨a5,c5,?_,?_⟩
   ·rw[length_append,length_singleton]
   ·rw[hsc,length_append,length_singleton]
    exact H.JW
  ·rw[h4]at hX
   simp only[if_true,List.append_nil]at hX
   rw[<- hX]
   exact⟨a,cc,rfl,H.JW⟩
theorem chg_len(l:List Chg1)(c:Chg1):(chgF l c).length<=l.length+1:=by
 have:=YP l c
 unfold chgF
 split
 ·omega
 ·rw[YE];simp;omega
theorem rchanged_spec(la:Option Addr)(lc:Nat)(l:List Chg1)(hl:l.length<=99999999)(ma:Option Addr)(mc:Nat)(c:Chg1)(w:World)(hL:Cells w la (chC l))(hM:Cells w ma (chC [c])):
  Calls Tryz.prog 79 #[.slice la l.length lc,.slice ma 1 mc] w fun e w'=>∃a cc,e=.returned (.slice a (chgF l c).length cc)/\Hp [] w w' [.own 98 4 a (chgF l c).length cc (chC (chgF l c))]:=by
 apply rchanged.ok;unfold rchanged.vc
 refine Ae.mk (fun m s w'=>(m=1/\s=((la,l.length,lc),0)/\w'=w)\/(m=0/\∃a cc,s=((a,(chgF l c).length,cc),1)/\Hp [] w w' [.own 98 4 a (chgF l c).length cc (chC (chgF l c))])) 1 (.inl ⟨rfl,rfl,rfl⟩) ?_
 rintro m s w1 next (⟨rfl,rfl,rfl⟩|⟨rfl,a,cc,rfl,H⟩) hnext
 ·dsimp only
  have h0:0<([c]:List Chg1).length:=by simp
  obtain⟨ad,had,lA,_,_,_,l3⟩:=GR hM h0
  have e0:([c]:List Chg1)[0]=c:=rfl
  rw[e0]at lA
  refine AO (fun _=>?_) (fun h=>absurd (by decide) h)
  refine AA had ⟨⟨by omega,by decide⟩,_,_,_,_,lA,?_⟩
  refine AL (rwo_spec la lc l (by omega) c w1 hL) ?_
  rintro e w2 ⟨a2,c2,rfl,H⟩
  obtain⟨ad',had',lA',_,_,_,l3'⟩:=GR (hM.chg H.chg (by simp)) h0
  rw[had]at had';cases had'
  refine⟨_,_,_,rfl,AA had ⟨⟨by omega,by decide⟩,_,l3',BI (fun hg=>?_) (fun hg=>?_)⟩⟩
  ·have hgc:c.gone=false:=hg
   refine AA had ⟨⟨by omega,by decide⟩,_,_,_,_,lA',?_⟩
   have hwl:=YP l c
   refine AL (rwi_spec a2 c2 (woF l c) (by omega) c w2 (H.ownA (.head _)).cells) ?_
   rintro e w3 ⟨a3,c3,rfl,H'⟩
   have hch:chgF l c=wiG c false (woF l c):=by rw[chgF,if_neg (by rw[hgc];simp)]
   rw[<- hch]at H'⊢
   exact⟨_,_,_,rfl,AY.2 (by omega),hnext 0 _ _ (by omega) (.inr ⟨rfl,a3,c3,rfl,(H.ext1 H').JW⟩)⟩
  ·have hgc:c.gone=true:=hg
   have hch:chgF l c=woF l c:=by rw[chgF,if_pos hgc]
   rw[<- hch]at H⊢
   exact⟨AY.2 (by omega),hnext 0 _ _ (by omega) (.inr ⟨rfl,a2,c2,rfl,H⟩)⟩
 ·dsimp only
  exact AO (fun h=>absurd h (by decide)) (fun _=>⟨a,cc,rfl,H⟩)
theorem OL(l:List Chg1)(d:Chg1)(p:Int):JZ (l++[d]) p=if d.page=p then JZ l p-(d.s.size:Int)else JZ l p:=by rw[JZ,foldl_append];rfl
theorem Xp(p:Int):∀(n:Nat)(l:List Chg1),l.length=n->(∀c∈l,c.s.size<=1000000)->3600-1000000*(n:Int)<=JZ l p/\JZ l p<=3600
 |0,l,hl,_=>by rw[List.eq_nil_of_length_eq_zero hl];exact⟨by show _<=(3600:Int);omega,Int.le_refl _⟩
 |n+1,l,hl,h=>by
  rcases List.eq_nil_or_concat l with rfl|⟨r,d,rfl⟩
  ·cases hl
  rw[List.concat_eq_append]at*
  have hd:=h d (mem_append_right _ (.head _))
  have ih:=Xp p n r (by simpa using hl) fun c hc=>h c (mem_append_left _ hc)
  rw[OL]
  split<;>omega
theorem rroom_spec(la:Option Addr)(lc:Nat)(l:List Chg1)(hl:l.length<=1000000)(hs:∀c∈l,c.s.size<=1000000)(page:Int)(w:World)(hL:Cells w la (chC l)):
  Calls Tryz.prog 80 #[.slice la l.length lc,.int .i64 page] w fun e w'=>e=.returned (.int .i64 (JZ l page))/\Hp [] w w' []:=by
 apply rroomJ.ok;unfold rroomJ.vc
 refine Ae.mk (fun m s w'=>∃k:Nat,m=l.length-k/\k<=l.length/\s=(JZ (l.take k) page,(k:Int))/\w'=w) l.length ⟨0,rfl,by omega,rfl,rfl⟩ ?_
 rintro m s w1 next ⟨k,rfl,hk,rfl,rfl⟩ hnext
 dsimp only
 refine AO (fun h1=>?_) (fun h1=>?_)
 ·have hkl:k<l.length:=by omega
  obtain⟨ad,had,_,l0,_,l2,_⟩:=GR hL hkl
  have hsn:=OL (l.take k) l[k] page
  rw[<- Ez hkl]at hsn
  have hb:=Xp page k (l.take k) (by rw[length_take];omega) fun c hc=>hs c (List.mem_of_mem_take hc)
  have hb2:=hs _ (getElem_mem hkl)
  refine AA had ⟨⟨by omega,by omega⟩,_,by rw[Int.toNat_natCast];exact l0,AO (fun h2=>?_) (fun h2=>?_)⟩
  ·rw[if_pos h2]at hsn
   refine AA had ⟨⟨by omega,by omega⟩,_,by rw[Int.toNat_natCast];exact l2,AY.2 (by omega),AY.2 (by omega),hnext (l.length-(k+1)) _ _ (by omega) ⟨k+1,rfl,by omega,by rw[hsn];rfl,rfl⟩⟩
  ·rw[if_neg h2]at hsn
   exact⟨AY.2 (by omega),hnext (l.length-(k+1)) _ _ (by omega) ⟨k+1,rfl,by omega,by rw[hsn];rfl,rfl⟩⟩
 ·have hke:k=l.length:=by omega
  subst hke
  rw[take_length]
  exact⟨rfl,Hp.start w1⟩
theorem QL{now:List Chg1}{c:Chg1}{r:List Chg1}(h:badR now c):rcF now (c::r)=none:=by rw[rcF,if_pos h]
theorem YK{now:List Chg1}{c:Chg1}{r:List Chg1}(h:¬badR now c):rcF now (c::r)=rcF (chgF now c) r:=by rw[rcF,if_neg h]
theorem chg_mem(l:List Chg1)(c:Chg1):∀d∈chgF l c,d=c\/d∈l:=by
 have hw:∀(l:List Chg1)(dn:Bool),∀d∈wiG c dn l,d=c\/d∈l:=by
  intro l
  induction l with
  |nil=>intro dn d hd;cases dn<;>simp[wiG]at hd;exact .inl hd
  |cons x r ih=>
   intro dn d hd
   rw[wiG]at hd
   split at hd
   ·rcases mem_cons.1 hd with rfl|hd
    ·exact .inl rfl
    ·rcases mem_cons.1 hd with rfl|hd
     ·exact .inr (.head _)
     ·exact(ih true d hd).imp id (.tail _)
   ·rcases mem_cons.1 hd with rfl|hd
    ·exact .inr (.head _)
    ·exact(ih dn d hd).imp id (.tail _)
 have ho:∀d∈woF l c,d∈l:=fun d hd=>(mem_filter.1 hd).1
 intro d hd
 unfold chgF at hd
 split at hd
 ·exact .inr (ho d hd)
 ·exact(hw _ _ d hd).imp id (ho d)
def Dn(la:Option Addr)(l:List Chg1)(w w':World)(a:Option Addr)(now:List Chg1):Prop:=∃M,Hp [] w w' M/\∀W,(∀x∈M,Asn.ok x W)->Cells W la (chC l)->Cells W a (chC now)
theorem Dn.cells{la:Option Addr}{l:List Chg1}{w w':World}{a:Option Addr}{now:List Chg1}(h:Dn la l w w' a now)(hL:Cells w la (chC l)):Cells w' a (chC now):=by
 obtain⟨M,H,h⟩:=h
 exact h w' H.ok (hL.chg H.chg (by simp))
theorem Dn.later{la:Option Addr}{l:List Chg1}{w w' w2:World}{a:Option Addr}{now:List Chg1}(h:Dn la l w w' a now)(H':Hp [] w' w2 []):Dn la l w w2 a now:=by
 obtain⟨M,H,h⟩:=h
 exact⟨M,H.ext0 H',h⟩
theorem Dn.new{la:Option Addr}{l:List Chg1}{w w' w2:World}{a a2:Option Addr}{n2 c2:Nat}{now l2:List Chg1}(h:Dn la l w w' a now)(H':Hp [] w' w2 [.own 98 4 a2 n2 c2 (chC l2)]):Dn la l w w2 a2 l2:=by
 obtain⟨M,H,h⟩:=h
 exact⟨[.own 98 4 a2 n2 c2 (chC l2)],(H.done).ext1 H',fun W hW _=>Own.cells (hW _ (.head _))⟩
theorem Dn.refl(la:Option Addr)(l:List Chg1)(w:World):Dn la l w w la l:=⟨[],Hp.start w,fun W _ h=>h⟩
theorem rcommit_spec(la:Option Addr)(lc:Nat)(l:List Chg1)(hl:l.length<=900000)(hs:∀c∈l,c.s.size<=1000000)(ma:Option Addr)(mc:Nat)(more:List Chg1)(hm:more.length<=1000)(hms:∀c∈more,c.s.size<=1000000)(w:World)(hL:Cells w la (chC l))(hM:Cells w ma (chC more)):
  Calls Tryz.prog 44 #[.slice la l.length lc,.slice ma more.length mc] w fun e w'=>∃a cc,e=.returned (.tuple #[.slice a (BV l more).1.length cc,.bool (BV l more).2])/\Dn la l w w' a (BV l more).1:=by
 apply rcommit.ok;unfold rcommit.vc
 refine Ae.mk (fun m s w'=>∃(k:Nat)(a:Option Addr)(cc:Nat)(now:List Chg1),m=more.length-k/\k<=more.length/\s=((a,now.length,cc),(k:Int))/\rcF l more=rcF now (more.drop k)/\now.length<=l.length+k/\(∀c∈now,c.s.size<=1000000)/\Dn la l w w' a now) more.length ⟨0,la,lc,l,rfl,by omega,rfl,rfl,by omega,hs,Dn.refl la l w⟩ ?_
 rintro m s w1 next ⟨k,a,cc,now,rfl,hk,rfl,hrc,hnl,hns,HR⟩ hnext
 dsimp only
 refine AO (fun h1=>?_) (fun h1=>?_)
 ·have hkl:k<more.length:=by omega
  have hdk:more.drop k=more[k]::more.drop (k+1):=List.drop_eq_getElem_cons hkl
  have hchg:Chg [] w w1:=HR.choose_spec.1.chg
  obtain⟨ad,had,lA,_⟩:=GR (hM.chg hchg (by simp)) hkl
  have hcs:=hms _ (getElem_mem hkl)
  rw[hdk]at hrc
  generalize more[k]=q at hrc lA hcs
  obtain⟨cp,cs,ct,cg⟩:=q
  have fail:badR now ⟨cp,cs,ct,cg⟩->∀{w':World},Hp [] w1 w' []->∃a cc,Ending.returned (.tuple #[.slice la l.length lc,.bool false])=.returned (.tuple #[.slice a (BV l more).1.length cc,.bool (BV l more).2])/\Dn la l w w' a (BV l more).1:=fun hb w' H'=>by
   have e:BV l more=(l,false):=by rw[BV,hrc,QL hb]
   rw[e]
   obtain⟨M,H,_⟩:=HR
   exact⟨la,lc,rfl,[],H.done.ext0 H',fun W _ h=>h⟩
  refine AA had ⟨⟨by omega,by omega⟩,_,_,_,_,by rw[Int.toNat_natCast];exact lA,?_⟩
  intro b w2 hn
  have H:=(Hp.start w1).new (cs:=[.int .i64 0,.int .i64 0,.string ⟨#[]⟩,.bool false]) EQ4 hn
  clear hn
  refine Hp.stA (o:=0) H EQ4 PH (vs:=[.int .i64 cp,.int .i64 cs,.string ct,.bool cg]) rfl rfl (by simp) (cs':=[.int .i64 cp,.int .i64 cs,.string ct,.bool cg]) rfl ?_
  clear H;intro w3 H
  have go:¬badR now ⟨cp,cs,ct,cg⟩->∀{w3:World},Hp [] w1 w3 [.blk b [.int .i64 cp,.int .i64 cs,.string ct,.bool cg] 98]->∃i i_2 s_2 b_1,Ld Tryz.prog 98 w3 ⟨b,0,none⟩ (.agg #[.int .i64 i,.int .i64 i_2,.string s_2,.bool b_1])/\
    ∀b_2 w1,New w3 (.cells #[.int .i64 i,.int .i64 i_2,.string s_2,.bool b_1] 98) b_2 w1->AB Tryz.prog 79 [.slice a now.length cc,.slice (some ⟨b_2,0,none⟩) 1 1] w1 fun e w'=>∃a l c,e=.returned (.slice a l c)/\inR .i64 ((k:Int)+1)/\next ((a,l,c),(k:Int)+1) w':=by
   intro hb w3 H
   refine⟨_,_,_,_,H.ldA (o:=0) EQ4 PH (.head _) (vs:=[.int .i64 cp,.int .i64 cs,.string ct,.bool cg]) rfl rfl,?_⟩
   intro b2 w4 hn
   have H2:=H.new (cs:=[.int .i64 cp,.int .i64 cs,.string ct,.bool cg]) EQ4 hn
   clear hn
   have hnow:Cells w4 a (chC now):=(HR.cells hL).chg H2.chg (by simp)
   refine AL (rchanged_spec a cc now (by omega) (some ⟨b2,0,none⟩) 1 ⟨cp,cs,ct,cg⟩ w4 hnow (Blk.cells (cs:=[.int .i64 cp,.int .i64 cs,.string ct,.bool cg]) (T:=98) (H2.blk (.head _)))) ?_
   rintro e w5 ⟨a5,c5,rfl,H'⟩
   have hcl:=chg_len now ⟨cp,cs,ct,cg⟩
   rw[YK hb]at hrc
   refine⟨_,_,_,rfl,AY.2 (by omega),hnext (more.length-(k+1)) _ _ (by omega) ⟨k+1,a5,c5,chgF now ⟨cp,cs,ct,cg⟩,rfl,by omega,by simp,hrc,by omega,fun c hc=>?_,(HR.later H2.done).new H'⟩⟩
   rcases chg_mem _ _ c hc with rfl|hc
   ·exact hcs
   ·exact hns c hc
  have hnow:∀{w':World},Chg [] w1 w'->Cells w' a (chC now):=fun hc=>(HR.cells hL).chg hc (by simp)
  refine⟨_,H.ld (o:=0) EQ4 gInt (.head _) rfl,AO (fun h2=>fail (.inl h2) H.done) (fun h2=>?_)⟩
  refine⟨_,H.ld (o:=0) EQ4 gInt (.head _) rfl,AO (fun h3=>fail (.inr (.inl h3)) H.done) (fun h3=>?_)⟩
  refine⟨_,H.ld (o:=1) EQ4 gInt (.head _) rfl,AO (fun h4=>fail (.inr (.inr (.inl h4))) H.done) (fun h4=>?_)⟩
  refine⟨_,H.ld (o:=1) EQ4 gInt (.head _) rfl,AO (fun h5=>fail (.inr (.inr (.inr (.inl h5)))) H.done) (fun h5=>?_)⟩
  refine⟨_,H.ld (o:=3) EQ4 EN (.head _) rfl,?_⟩
  cases cg with
  |true=>
   refine D8 ⟨_,_,_,_,H.ldA (o:=0) EQ4 PH (.head _) (vs:=[.int .i64 cp,.int .i64 cs,.string ct,.bool true]) rfl rfl,?_⟩
   refine AL (rthere_spec a cc now (by omega) ⟨cp,cs,ct,true⟩ w3 (hnow H.chg)) ?_
   rintro e w4 ⟨rfl,H'⟩
   have H2:=H.ext0 H'
   clear H H'
   refine⟨_,rfl,BI (fun h6=>fail (.inr (.inr (.inr (.inr (.inl ⟨rfl,h6⟩))))) H2.done) (fun h6=>?_)⟩
   refine⟨_,H2.ld (o:=3) EQ4 EN (.head _) rfl,BI (fun h=>by cases h) (fun _=>?_)⟩
   exact go (by unfold badR;dsimp only;rintro(h|h|h|h|⟨_,h⟩|⟨h,_⟩)<;>first|omega|(rw[h6]at h;cases h)|cases h) H2
  |false=>
   refine CX ⟨_,H.ld (o:=3) EQ4 EN (.head _) rfl,BI (fun _=>?_) (fun h=>by cases h)⟩
   refine⟨_,H.ld (o:=2) EQ4 gStr (.head _) rfl,AO (fun h6=>fail (.inr (.inr (.inr (.inr (.inr ⟨rfl,by show 3600<ct.size;omega⟩))))) H.done) (fun h6=>?_)⟩
   exact go (by unfold badR;dsimp only;rintro(h|h|h|h|⟨h,_⟩|⟨_,h⟩)<;>first|omega|cases h|exact h6 (by have h:3600<ct.size:=h;omega)) H
 ·have hke:k=more.length:=by omega
  subst hke
  rw[drop_length,rcF]at hrc
  clear hnext
  have hnow:Cells w1 a (chC now):=HR.cells hL
  have hMw:Cells w1 ma (chC more):=hM.chg HR.choose_spec.1.chg (by simp)
  refine Ae.mk (fun m s w'=>∃k:Nat,m=more.length-k/\k<=more.length/\s=(k:Int)/\(more.take k).all (fun c=>decide (0<=JZ now c.page))=true/\Hp [] w1 w' []) more.length ⟨0,rfl,by omega,rfl,by simp,Hp.start w1⟩ ?_
  rintro m s w2 next ⟨j,rfl,hj,rfl,hall,H⟩ hnext
  refine AO (fun h2=>?_) (fun h2=>?_)
  ·have hjl:j<more.length:=by omega
   obtain⟨ad,had,_,l0,_⟩:=GR (hMw.chg H.chg (by simp)) hjl
   refine AA had ⟨⟨by omega,by omega⟩,_,by rw[Int.toNat_natCast];exact l0,?_⟩
   refine AL (rroom_spec a cc now (by omega) hns _ w2 (hnow.chg H.chg (by simp))) ?_
   rintro e w3 ⟨rfl,H'⟩
   have H2:=H.ext0 H'
   refine⟨_,rfl,AO (fun h3=>?_) (fun h3=>?_)⟩
   ·have e:BV l more=(l,false):=by
     rw[BV,hrc]
     dsimp only
     rw[if_neg]
     intro h
     have:=all_eq_true.1 h _ (getElem_mem hjl)
     simp only[decide_eq_true_eq]at this
     omega
    rw[e]
    obtain⟨M,H0,_⟩:=HR
    exact⟨la,lc,rfl,[],H0.done.ext0 H2,fun W _ h=>h⟩
   ·refine⟨AY.2 (by omega),hnext (more.length-(j+1)) _ _ (by omega) ⟨j+1,rfl,by omega,by omega,?_,H2⟩⟩
    rw[Ez hjl,List.all_append,hall]
    simp only[List.all_cons,List.all_nil,Bool.and_true,Bool.true_and,decide_eq_true_eq]
    omega
  ·have hje:j=more.length:=by omega
   subst hje
   rw[take_length]at hall
   have e:BV l more=(now,true):=by
    rw[BV,hrc]
    dsimp only
    rw[if_pos hall]
   rw[e]
   exact⟨a,cc,rfl,HR.later H⟩
instance:DecidableEq Chg1:=fun a b=>decidable_of_iff (a.page=b.page/\a.slot=b.slot/\a.s=b.s/\a.gone=b.gone) ⟨fun h=>by
 obtain⟨a1,a2,a3,a4⟩:=a
 obtain⟨b1,b2,b3,b4⟩:=b
 dsimp only at h
 rw[h.1,h.2.1,h.2.2.1,h.2.2.2],fun h=>by subst h;exact⟨rfl,rfl,rfl,rfl⟩⟩
theorem flatCh:Xi Tryz.prog 98 [(0,.inl .i64),(1,.inl .i64),(2,.inr 1),(3,.inr 0)]:=Go.Vc.NH (by kernel_rfl)
theorem eq_ch(a b:Chg1):eqL [(0,.inl .i64),(1,.inl .i64),(2,.inr 1),(3,.inr 0)] [.int .i64 a.page,.int .i64 a.slot,.string a.s,.bool a.gone] [.int .i64 b.page,.int .i64 b.slot,.string b.s,.bool b.gone]=decide (a=b):=by
 obtain⟨a1,a2,a3,a4⟩:=a
 obtain⟨b1,b2,b3,b4⟩:=b
 rw[Bool.eq_iff_iff]
 simp[eqL,sEq,beqB]
theorem QX(xa:Option Addr)(xc:Nat)(xs:List Chg1)(ya:Option Addr)(yc:Nat)(ys:List Chg1)(hx:xs.length<=100000000)(w:World)(hX:Cells w xa (chC xs))(hY:Cells w ya (chC ys)):
  Calls Tryz.prog 24 #[.slice xa xs.length xc,.slice ya ys.length yc] w fun e w'=>e=.returned (.bool (decide (xs=ys)))/\Hp [] w w' []:=by
 apply rsame.ok;unfold rsame.vc
 refine Aw (fun h=>?_) (fun h=>?_)
 ·have:¬xs=ys:=fun e=>h (by rw[e])
  rw[decide_eq_false this]
  exact⟨rfl,Hp.start w⟩
 have hlen:xs.length=ys.length:=by omega
 refine Ae.mk (fun m s w'=>∃k:Nat,m=xs.length-k/\k<=xs.length/\s=(k:Int)/\xs.take k=ys.take k/\Hp [] w w' []) xs.length ⟨0,rfl,by omega,rfl,by simp,Hp.start w⟩ ?_
 rintro m s w1 next ⟨k,rfl,hk,rfl,heq,H⟩ hnext
 refine AO (fun h1=>?_) (fun h1=>?_)
 ·have hkx:k<xs.length:=by omega
  have hky:k<ys.length:=by omega
  obtain⟨ad,had,lA,_⟩:=GR (hX.chg H.drew.chg (by simp)) hkx
  obtain⟨ad2,had2,lB,_⟩:=GR (hY.chg H.drew.chg (by simp)) hky
  refine AA had ⟨⟨by omega,by omega⟩,_,_,_,_,by rw[Int.toNat_natCast];exact lA,AA had2 ⟨⟨by omega,by omega⟩,_,_,_,_,by rw[Int.toNat_natCast];exact lB,?_⟩⟩
  have hq:=eq_ch xs[k] ys[k]
  refine⟨!decide (xs[k]=ys[k]),eqv_neq (xs:=[_,_,_,_]) (ys:=[_,_,_,_]) flatCh rfl rfl (by rw[hq]),Aw (fun h2=>?_) (fun h2=>?_)⟩
  ·have:¬xs=ys:=fun e=>h2 (by simp only[e])
   rw[decide_eq_false this]
   exact⟨rfl,H.drew⟩
  ·refine⟨AY.2 (by omega),hnext (xs.length-(k+1)) _ _ (by omega) ⟨k+1,rfl,by omega,by omega,?_,H.drew⟩⟩
   rw[Ez hkx,Ez hky,heq,h2]
 ·have hke:k=xs.length:=by omega
  subst hke
  rw[take_length,hlen,take_length]at heq
  rw[decide_eq_true heq]
  exact⟨rfl,H⟩
theorem gSR:Scl Tryz.prog 38:=BP (by kernel_rfl)
theorem gSSR:Scl Tryz.prog 48:=BP (by kernel_rfl)
theorem Dp:Agg Tryz.prog 50 2:=IK (by kernel_rfl)
theorem Rq:Agg Tryz.prog 53 2:=IK (by kernel_rfl)
theorem aQ:Elt Tryz.prog 48 38 1 24:=FP (by kernel_rfl)
theorem Yn:Tryz.prog.underlying 48=some (.slice 38):=by kernel_rfl
structure SRow where
 a:Option Addr
 c:Nat
 l:List Chg1
def SRow.v(r:SRow):Value:=.slice r.a r.l.length r.c
structure SW where
 now:SRow
 pa:Option Addr
 pc:Nat
 past:List SRow
def SW.v(S:SW):Value:=.agg #[S.now.v,.slice S.pa S.past.length S.pc]
structure SAt(w:World)(S:SW):Prop where
 now:Cells w S.now.a (chC S.now.l)
 pst:Cells w S.pa (S.past.map SRow.v)
 rows:∀r∈S.past,Cells w r.a (chC r.l)
 nil:S.pa=none->S.past=[]
theorem SAt.chg{w w':World}{S:SW}(h:SAt w S)(hc:Chg [] w w'):SAt w' S:=⟨h.now.chg hc (by simp),h.pst.chg hc (by simp),fun r hr=>(h.rows r hr).chg hc (by simp),h.nil⟩
def SW.rows(S:SW):List (List Chg1):=S.past.map (·.l)
theorem SW.past_at{w:World}{S:SW}(h:SAt w S){k:Nat}(hk:k<S.past.length):∃ad,S.pa=some ad/\Ld Tryz.prog 38 w (ad.add (k*1)) (S.past[k]).v/\Cells w (S.past[k]).a (chC (S.past[k]).l):=by
 have hat:(S.past.map SRow.v)[k]? =some (S.past[k]).v:=by simp[hk]
 obtain⟨ad,had,_⟩:=h.pst _ _ hat
 exact⟨ad,had,by rw[Nat.mul_one];exact h.pst.ld gSR had hat,h.rows _ (getElem_mem hk)⟩
theorem KT(S:SW)(hp:S.past.length<=100000000)(hr:∀r∈S.past,r.l.length<=100000000)(la:Option Addr)(lc:Nat)(l:List Chg1)(w:World)(hS:SAt w S)(hL:Cells w la (chC l)):
  Calls Tryz.prog 21 #[S.v,.slice la l.length lc] w fun e w'=>e=.returned (.bool (decide (l∈S.rows)))/\Hp [] w w' []:=by
 apply rmay.ok;unfold rmay.vc
 intro b w1 hn
 have H:=(Hp.start w).new (cs:=[S.now.v,.slice S.pa S.past.length S.pc]) EQ4 hn
 clear hn
 refine Ae.mk (fun m s w'=>∃k:Nat,m=S.past.length-k/\k<=S.past.length/\s=(k:Int)/\l∉(S.past.take k).map (·.l)/\Hp [] w w' [.blk b [S.now.v,.slice S.pa S.past.length S.pc] 50]) S.past.length ⟨0,rfl,by omega,rfl,by simp,H⟩ ?_
 clear H w1
 rintro m s w1 next ⟨k,rfl,hk,rfl,hno,H⟩ hnext
 refine⟨_,_,_,H.ld (o:=1) (cs:=[S.now.v,.slice S.pa S.past.length S.pc]) EQ4 gSSR (.head _) rfl,AO (fun h1=>?_) (fun h1=>?_)⟩
 ·have hkl:k<S.past.length:=by omega
  have hS1:=hS.chg H.chg
  obtain⟨ad,had,hld,hcl⟩:=SW.past_at hS1 hkl
  have hmem:=getElem_mem hkl
  have hsn:(S.past.take (k+1)).map (·.l)=(S.past.take k).map (·.l)++[S.past[k].l]:=by rw[List.take_succ_eq_append_getElem hkl,map_append];rfl
  refine⟨_,_,_,H.ld (o:=1) (cs:=[S.now.v,.slice S.pa S.past.length S.pc]) EQ4 gSSR (.head _) rfl,AA had ⟨⟨by omega,by omega⟩,_,_,_,by rw[Int.toNat_natCast];exact hld,?_⟩⟩
  refine AL (QX _ _ S.past[k].l la lc l (hr _ hmem) w1 hcl (hL.chg H.chg (by simp))) ?_
  rintro e w2 ⟨rfl,H'⟩
  refine⟨_,rfl,AO (fun h2=>?_) (fun h2=>?_)⟩
  ·have:l∈S.rows:=mem_map.2 ⟨_,hmem,h2⟩
   rw[decide_eq_true this]
   exact⟨rfl,(H.ext0 H').done⟩
  ·refine⟨AY.2 (by omega),hnext (S.past.length-(k+1)) _ _ (by omega) ⟨k+1,rfl,by omega,by omega,?_,H.ext0 H'⟩⟩
   rw[hsn]
   intro hm
   rcases mem_append.1 hm with h3|h3
   ·exact hno h3
   ·exact h2 (mem_singleton.1 h3).symm
 ·have hke:k=S.past.length:=by omega
  subst hke
  rw[take_length]at hno
  rw[decide_eq_false (show¬l∈S.rows from hno)]
  exact⟨rfl,H.done⟩
theorem Gu(la:Option Addr)(lc:Nat)(l:List Chg1)(w:World):
  Calls Tryz.prog 17 #[.slice la l.length lc] w fun e w'=>∃b,e=.returned (SW.v ⟨⟨la,lc,l⟩,some ⟨b,0,none⟩,1,[⟨la,lc,l⟩]⟩)/\Hp [] w w' [.blk b [.slice la l.length lc] 38]:=by
 apply rsnew.ok;unfold rsnew.vc
 intro b w1 hn
 have H:=(Hp.start w).new (cs:=[.slice none 0 0,.slice none 0 0]) EQ4 hn
 clear hn
 intro b2 w2 hn
 replace H:=(H.new (cs:=[.slice la l.length lc]) EQ4 hn).Aq
 clear hn
 refine Hp.stA (o:=0) H EQ4 Dp (vs:=[.slice la l.length lc,.slice (some ⟨b2,0,none⟩) 1 1]) rfl rfl (by simp) (cs':=[.slice la l.length lc,.slice (some ⟨b2,0,none⟩) 1 1]) rfl ?_
 clear H;intro w3 H
 exact⟨_,_,_,_,_,_,H.ldA (o:=0) EQ4 Dp (.head _) (vs:=[.slice la l.length lc,.slice (some ⟨b2,0,none⟩) 1 1]) rfl rfl,b2,rfl,H.drop⟩
theorem MM{W:World}{la:Option Addr}{lc:Nat}{l:List Chg1}{b:Nat}(hb:Blk W b [.slice la l.length lc] 38)(hL:Cells W la (chC l)):SAt W ⟨⟨la,lc,l⟩,some ⟨b,0,none⟩,1,[⟨la,lc,l⟩]⟩:=
 ⟨hL,Blk.cells (cs:=[.slice la l.length lc]) (T:=38) hb,fun r hr=>by rw[mem_singleton.1 hr];exact hL,fun h=>by cases h⟩
def SDo(S:SW)(kind:Int)(more:List Chg1)(e:Int)(S':SW):Prop:=
 if e≠0 then S'=S else if kind=0 then S'.now.l=(BV S.now.l more).1/\S'.rows=S.rows++[(BV S.now.l more).1]else if kind=1\/kind=2 then S'.now.l=S.now.l/\S'.rows=[S.now.l]else S'=S
theorem srow_one(l:List SRow):(l.map SRow.v).all (·.oneCell')=true:=all_eq_true.2 fun v hv=>by
 obtain⟨r,_,rfl⟩:=mem_map.1 hv
 rfl
theorem rsdo_spec(S:SW)(hp:S.past.length<=1000000)(hnl:S.now.l.length<=900000)(hns:∀c∈S.now.l,c.s.size<=1000000)(kind:Int)(ma:Option Addr)(mc:Nat)(more:List Chg1)(hm:more.length<=1000)(hms:∀c∈more,c.s.size<=1000000)(er:Int)(w:World)(hS:SAt w S)(hM:Cells w ma (chC more)):
  Calls Tryz.prog 18 #[S.v,.agg #[.int .i64 kind,.slice ma more.length mc],.int .i64 er] w fun e w'=>∃S',e=.returned S'.v/\SDo S kind more er S'/\∃M,Hp [] w w' M/\∀W,(∀x∈M,Asn.ok x W)->SAt W S->SAt W S':=by
 apply rsdo.ok;unfold rsdo.vc
 intro b w1 hn
 have H:=(Hp.start w).new (cs:=[S.now.v,.slice S.pa S.past.length S.pc]) EQ4 hn
 clear hn
 intro b1 w2 hn
 replace H:=H.new (cs:=[.int .i64 kind,.slice ma more.length mc]) EQ4 hn
 clear hn
 intro b2 w3 hn
 replace H:=H.new (cs:=[.slice none 0 0,.slice none 0 0]) EQ4 hn
 clear hn
 have mS:∀{X Y:List Asn},Asn.blk b [S.now.v,.slice S.pa S.past.length S.pc] 50∈X++(.blk b1 [.int .i64 kind,.slice ma more.length mc] 53::.blk b [S.now.v,.slice S.pa S.past.length S.pc] 50::Y):=mem_append_right _ (.tail _ (.head _))
 have same:∀{w':World},Hp [] w w' [.blk b2 [.slice none 0 0,.slice none 0 0] 50,.blk b1 [.int .i64 kind,.slice ma more.length mc] 53,.blk b [S.now.v,.slice S.pa S.past.length S.pc] 50]->(SDo S kind more er S)->
   ∃a l c a_1 l_1 c_1,Ld Tryz.prog 50 w' ⟨b,0,none⟩ (.agg #[.slice a l c,.slice a_1 l_1 c_1])/\∃w1_2,Go.Vc.St Tryz.prog 50 w' ⟨b2,0,none⟩ (.agg #[.slice a l c,.slice a_1 l_1 c_1]) w1_2/\∃a l c a_2 l_2 c_2,Ld Tryz.prog 50 w1_2 ⟨b2,0,none⟩ (.agg #[.slice a l c,.slice a_2 l_2 c_2])/\
    (∃S',Ending.returned (.agg #[.slice a l c,.slice a_2 l_2 c_2])=.returned S'.v/\SDo S kind more er S'/\∃M,Hp [] w w1_2 M/\∀W,(∀x∈M,Asn.ok x W)->SAt W S->SAt W S'):=by
  intro w' H hdo
  refine⟨_,_,_,_,_,_,H.ldA (o:=0) EQ4 Dp (.tail _ (.tail _ (.head _))) (vs:=[S.now.v,.slice S.pa S.past.length S.pc]) rfl rfl,?_⟩
  refine Hp.stA (o:=0) H EQ4 Dp (vs:=[S.now.v,.slice S.pa S.past.length S.pc]) rfl rfl (by simp) (cs':=[S.now.v,.slice S.pa S.past.length S.pc]) rfl ?_
  clear H;intro w4 H
  exact⟨_,_,_,_,_,_,H.ldA (o:=0) EQ4 Dp (.head _) (vs:=[S.now.v,.slice S.pa S.past.length S.pc]) rfl rfl,S,rfl,hdo,[],H.done,fun W _ h=>h⟩
 have anew:¬kind=0->(kind=1\/kind=2)->er=0->∀{w':World},Hp [] w w' [.blk b2 [.slice none 0 0,.slice none 0 0] 50,.blk b1 [.int .i64 kind,.slice ma more.length mc] 53,.blk b [S.now.v,.slice S.pa S.past.length S.pc] 50]->
   ∃a l c,Ld Tryz.prog 38 w' ⟨b,0,none⟩ (.slice a l c)/\AB Tryz.prog 17 [.slice a l c] w' fun e w'=>∃a l c a_1 l_1 c_1,e=.returned (.agg #[.slice a l c,.slice a_1 l_1 c_1])/\∃w1,Go.Vc.St Tryz.prog 50 w' ⟨b2,0,none⟩ (.agg #[.slice a l c,.slice a_1 l_1 c_1]) w1/\
    ∃a l c a_2 l_2 c_2,Ld Tryz.prog 50 w1 ⟨b2,0,none⟩ (.agg #[.slice a l c,.slice a_2 l_2 c_2])/\(∃S',Ending.returned (.agg #[.slice a l c,.slice a_2 l_2 c_2])=.returned S'.v/\SDo S kind more er S'/\∃M,Hp [] w w1 M/\∀W,(∀x∈M,Asn.ok x W)->SAt W S->SAt W S'):=by
  intro hk0 hk er0 w' H
  refine⟨_,_,_,H.ld (o:=0) (cs:=[S.now.v,.slice S.pa S.past.length S.pc]) EQ4 gSR (.tail _ (.tail _ (.head _))) rfl,?_⟩
  refine AL (Gu S.now.a S.now.c S.now.l w') ?_
  rintro e w4 ⟨b5,rfl,H'⟩
  have H2:=(H.ext1 H').Aq
  clear H H'
  refine⟨_,_,_,_,_,_,rfl,?_⟩
  refine Hp.stA (o:=0) H2 EQ4 Dp (vs:=[S.now.v,.slice (some ⟨b5,0,none⟩) 1 1]) rfl rfl (by simp) (cs':=[S.now.v,.slice (some ⟨b5,0,none⟩) 1 1]) rfl ?_
  clear H2;intro w5 H
  refine⟨_,_,_,_,_,_,H.ldA (o:=0) EQ4 Dp (.head _) (vs:=[S.now.v,.slice (some ⟨b5,0,none⟩) 1 1]) rfl rfl,⟨⟨S.now.a,S.now.c,S.now.l⟩,some ⟨b5,0,none⟩,1,[⟨S.now.a,S.now.c,S.now.l⟩]⟩,rfl,?_,[.blk b5 [.slice S.now.a S.now.l.length S.now.c] 38],(H.drop).JW,fun W hW hS=>MM (hW _ (.head _)) hS.now⟩
  rw[SDo,if_neg (fun h=>h er0),if_neg hk0,if_pos hk]
  exact⟨rfl,rfl⟩
 refine Aw (fun he=>same H (by rw[SDo,if_pos he])) (fun he=>?_)
 refine⟨_,H.ld (o:=0) (cs:=[.int .i64 kind,.slice ma more.length mc]) EQ4 gInt (.tail _ (.head _)) rfl,AO (fun hk=>?_) (fun hk=>?_)⟩
 ·subst hk
  refine⟨_,_,_,H.ld (o:=0) (cs:=[S.now.v,.slice S.pa S.past.length S.pc]) EQ4 gSR (.tail _ (.tail _ (.head _))) rfl,_,_,_,H.ld (o:=1) (cs:=[.int .i64 0,.slice ma more.length mc]) EQ4 gSR (.tail _ (.head _)) rfl,?_⟩
  have hS3:=hS.chg H.chg
  refine AL (rcommit_spec S.now.a S.now.c S.now.l hnl hns ma mc more hm hms w3 hS3.now (hM.chg H.chg (by simp))) ?_
  rintro e w4 ⟨ra,rc,rfl,M,H',hMr⟩
  obtain⟨now,hnow⟩:∃now,now=(BV S.now.l more).1:=⟨_,rfl⟩
  have hdo:∀S':SW,S'.now.l=now->S'.rows=S.rows++[now]->SDo S 0 more er S':=fun S' h1 h2=>by
   rw[SDo,if_neg (fun h=>h he),if_pos rfl,<- hnow];exact⟨h1,h2⟩
  rw[<- hnow]at hMr⊢
  have H2:=(H.ext H').perm (M:=[.blk b2 [.slice none 0 0,.slice none 0 0] 50,.blk b1 [.int .i64 0,.slice ma more.length mc] 53,.blk b [S.now.v,.slice S.pa S.past.length S.pc] 50]++M) (by(refine AC fun ff gg h0 hc ha hpm=>?_;simp only[ha,hc,h0];omega))
  clear H H'
  refine⟨_,_,_,_,rfl,?_⟩
  intro b4 w5 hn
  replace H2:=Hp.dE (H2.new (cs:=[]) EQ4 hn) 1 0 rfl (Nat.zero_le _)
  clear hn
  refine⟨_,_,_,H2.ld (o:=1) (cs:=[S.now.v,.slice S.pa S.past.length S.pc]) EQ4 gSSR (.tail _ (.tail _ (.tail _ (.head _)))) rfl,?_⟩
  have hS5:=hS.chg H2.chg
  refine Hp.app aQ (by omega) H2 EQ4 (Cells.src Yn hS5.pst (by rw[length_map,Nat.mul_one]) (fun u hu=>all_eq_true.1 (srow_one _) u hu) (fun h=>by rw[hS.nil h];rfl)) (by simp only[maxLen];omega) (by omega) ?_
  clear H2;intro a6 c6 w6 H
  intro b7 w7 hn
  replace H:=(H.new (cs:=[.slice ra now.length rc]) EQ4 hn).Aq
  clear hn
  refine Hp.app aQ (by omega) H EQ4 (Blk.src (n:=1) Yn (H.blk (.tail _ (.head _))) rfl rfl) (by simp only[maxLen];omega) (by omega) ?_
  clear H;intro a8 c8 w8 H
  replace H:=(H.del1).Aq
  refine Hp.stA (o:=0) H EQ4 Dp (vs:=[.slice ra now.length rc,.slice a8 (0+S.past.length+1) c8]) rfl rfl (by simp) (cs':=[.slice ra now.length rc,.slice a8 (0+S.past.length+1) c8]) rfl ?_
  clear H;intro w9 H
  have hlen:(S.past++[(⟨ra,rc,now⟩:SRow)]).length=0+S.past.length+1:=by rw[length_append,length_singleton,Nat.zero_add]
  refine⟨_,_,_,_,_,_,H.ldA (o:=0) EQ4 Dp (.head _) (vs:=[.slice ra now.length rc,.slice a8 (0+S.past.length+1) c8]) rfl rfl,⟨⟨ra,rc,now⟩,a8,c8,S.past++[(⟨ra,rc,now⟩:SRow)]⟩,?_,hdo _ rfl (by rw[SW.rows,SW.rows,map_append];rfl),.own 38 1 a8 (0+S.past.length+1) c8 ([]++S.past.map SRow.v++[.slice ra now.length rc])::M,?_,fun W hW hS=>?_⟩
  ·show _=Ending.returned (.agg #[_,.slice a8 (S.past++[(⟨ra,rc,now⟩:SRow)]).length c8])
   rw[hlen];rfl
  ·have H10:Hp [] w w9 (.own 38 1 a8 (0+S.past.length+1) c8 ([]++S.past.map SRow.v++[.slice ra now.length rc])::([.blk b1 [.int .i64 0,.slice ma more.length mc] 53,.blk b [S.now.v,.slice S.pa S.past.length S.pc] 50]++M)):=H.drop
   exact(H10.perm (M:=(.own 38 1 a8 (0+S.past.length+1) c8 ([]++S.past.map SRow.v++[.slice ra now.length rc])::M)++[.blk b1 [.int .i64 0,.slice ma more.length mc] 53,.blk b [S.now.v,.slice S.pa S.past.length S.pc] 50]) (by(refine AC fun ff gg h0 hc ha hpm=>?_;simp only[ha,hc,h0];omega))).BQ
  ·have hc:=hMr W (fun x hx=>hW x (.tail _ hx)) hS.now
   have ho:Own W 0 38 1 a8 (0+S.past.length+1) c8 ([]++S.past.map SRow.v++[.slice ra now.length rc]):=hW _ (.head _)
   refine⟨hc,?_,fun r hr=>?_,fun h=>?_⟩
   ·show Cells W a8 ((S.past++[(⟨ra,rc,now⟩:SRow)]).map SRow.v)
    rw[map_append]
    have:=ho.cells
    rw[List.nil_append]at this
    exact this
   ·rcases mem_append.1 hr with hr|hr
    ·exact hS.rows r hr
    ·rw[mem_singleton.1 hr];exact hc
   ·have h:a8=none:=h
    rw[h]at ho
    have:=X4 ho rfl
    omega
 ·refine⟨_,H.ld (o:=0) (cs:=[.int .i64 kind,.slice ma more.length mc]) EQ4 gInt (.tail _ (.head _)) rfl,AO (fun hk1=>anew hk (.inl hk1) he H) (fun hk1=>?_)⟩
  refine⟨_,H.ld (o:=0) (cs:=[.int .i64 kind,.slice ma more.length mc]) EQ4 gInt (.tail _ (.head _)) rfl,AO (fun hk2=>anew hk (.inr hk2) he H) (fun hk2=>same H ?_)⟩
  rw[SDo,if_neg (fun h=>h he),if_neg hk,if_neg (fun h=>h.elim hk1 hk2)]
theorem FitC.core{d e:Dk}(c:Core d e){N:Nat}(h:d.Fit N):e.Fit N:=⟨by rw[c.files];exact h.files,by rw[c.files];exact h.now,by rw[c.firm,c.chs];exact h.names,by rw[c.chs];exact h.chs⟩
theorem FitC.put{d:Dk}{N:Nat}(h:d.Fit N)(k:Nat){f:Fl}(hf:f.now.length<=N):(d.put k f).Fit N:=
 ⟨by rw[EJ];exact h.files,fun g hg=>(mem_or_eq_of_mem_set hg).elim (h.now g) (fun e=>e▸hf),h.names,h.chs⟩
theorem FitC.write{d:Dk}{N:Nat}(h:d.Fit N)(n:ByteArray){i:Nat}(hi:i<N)(b:List UInt8):(d.write n (i:Int) b).1.Fit N:=by
 rcases Ey d n (i:Int) b with⟨c,_⟩|⟨k,_,_,hle,_,c⟩
 ·exact FitC.core c h
 ·refine FitC.core c (FitC.put h k ?_)
  rw[Int.toNat_natCast]
  have hl:i<=(d.file k).now.length:=by unfold Dk.len at hle;omega
  rw[IJ _ _ hl]
  have:=Fit.file h k
  omega
theorem FitC.sync{d:Dk}{N:Nat}(h:d.Fit N)(n:ByteArray):(d.sync n).1.Fit N:=by
 rcases Gi d n with⟨c,_⟩|⟨k,_,_,c⟩
 ·exact FitC.core c h
 ·exact FitC.core c (FitC.put h k (Fit.file h k))
theorem FitC.thn{r:Dk×Int}{f:Dk->Dk×Int}{N:Nat}(h:r.1.Fit N)(hf:∀d:Dk,d.Fit N->(f d).1.Fit N):(Redo.thn r f).1.Fit N:=by
 rw[Redo.thn]
 split
 ·exact hf _ h
 ·exact h
theorem FitC.dput(name:ByteArray)(b:List UInt8){N:Nat}(hN:b.length/512+3<=N):∀(m k:Nat){d:Dk},d.Fit N->(Redo.dput name b m k d).1.Fit N
 |0,k,d,h=>h
 |m+1,k,d,h=>by
  rw[Redo.dput]
  split
  ·exact h
  ·exact FitC.thn (FitC.write h name (by omega) _) fun d hd=>FitC.dput name b hN m (k+1) hd
theorem FitC.sealD{d:Dk}{N:Nat}(h:d.Fit N)(hN:2<=N)(name:ByteArray)(m f:Nat):(bY d name m f).1.Fit N:=
 FitC.thn (FitC.thn (FitC.sync h name) fun d hd=>FitC.write hd name (by have:=Nat.mod_lt m (by omega:0<2);omega) _) fun d hd=>FitC.sync hd name
theorem FitC.flush{d:Dk}{l:Lg}{N:Nat}(h:d.Fit N)(hN:l.b.length/512+3<=N):(Ak d l).1.Fit N:=by
 have h1:(Redo.thn (bU d l.name l.b l.firm) fun d=>bY d l.name (l.mark+1) l.b.length).1.Fit N:=FitC.thn (FitC.dput l.name l.b hN _ _ h) fun d hd=>FitC.sealD hd (by omega) _ _ _
 unfold Ak
 split
 ·dsimp only
  split
  ·exact h1
  ·exact h1
 ·exact h
theorem FitC.lay{r:Dk×Int}{N:Nat}(h:r.1.Fit N){i:Nat}(hi:i<N)(b:List UInt8):(layD r i b).1.Fit N:=by
 unfold layD
 split
 ·exact FitC.write h _ hi _
 ·exact h
theorem FitC.gap{N:Nat}:∀(m i:Nat){r:Dk×Int},r.1.Fit N->(m=0\/i+m<=N)->(gapD m i r).1.Fit N
 |0,i,r,h,_=>h
 |m+1,i,r,h,hm=>FitC.gap m (i+1) (FitC.lay h (by omega) []) (by omega)
theorem FitC.row(bs:List UInt8)(base:Nat){N:Nat}:∀(m k:Nat){r:Dk×Int},r.1.Fit N->base+k+m<=N->(rowD bs base m k r).1.Fit N
 |0,k,r,h,_=>h
 |m+1,k,r,h,hm=>FitC.row bs base m (k+1) (FitC.lay h (by omega) (Be bs k)) (by omega)
theorem FitC.page{d:Dk}{N:Nat}(h:d.Fit N)(e0:Int){n:Nat}(hn:n*8+8<=N)(bs:List UInt8):(Et d e0 n bs).1.Fit N:=
 FitC.row bs (n*8) 8 0 (FitC.gap _ _ (r:=(d,e0)) h (by omega)) (by omega)
theorem YA{d:Dk}{r:Dk×Int}(h:Nms d r.1)(i:Nat)(b:List UInt8):Nms d (layD r i b).1:=by
 unfold layD
 split
 ·exact h.trans (FC _ _ _ _)
 ·exact h
theorem WX{d:Dk}:∀(m i:Nat){r:Dk×Int},Nms d r.1->Nms d (gapD m i r).1
 |0,i,r,h=>h
 |m+1,i,r,h=>WX m (i+1) (YA h i [])
theorem XI{d:Dk}(bs:List UInt8)(base:Nat):∀(m k:Nat){r:Dk×Int},Nms d r.1->Nms d (rowD bs base m k r).1
 |0,k,r,h=>h
 |m+1,k,r,h=>XI bs base m (k+1) (YA h (base+k) (Be bs k))
theorem writeD_nms(d:Dk)(e0:Int)(n:Nat)(bs:List UInt8):Nms d (Et d e0 n bs).1:=XI bs (n*8) 8 0 (WX _ _ (r:=(d,e0)) (.refl d))
theorem TJ(s:St)(n:Nat):Nms s.d (Bg s n).1:=by
 rw[Bg]
 split
 ·exact .refl _
 ·exact Fq _ _
theorem Nms.sized{d e:Dk}(h:Nms d e){n:ByteArray}(hs:0<=d.size n):0<=e.size n:=by
 obtain⟨k,hk⟩:=Dx.1 hs
 exact Dx.2 ⟨k,by rw[h.find];exact hk⟩
structure WJ(N X:Nat)(s:St):Prop where
 fit:s.d.Fit N
 b:s.lg.b.length<=4000000
 firm:s.lg.firm<=4000000
 mark:s.lg.mark<=X
 sz:0<=s.d.size Aa
theorem WJ.mono{N X N' X':Nat}{s:St}(h:WJ N X s)(hN:N<=N')(hX:X<=X'):WJ N' X' s:=⟨h.fit.mono hN,h.b,h.firm,Nat.le_trans h.mark hX,h.sz⟩
theorem WJ.lgB{N X:Nat}{s:St}(h:WJ N X s)(hX:X<=100000000):LgB s.lg:=⟨by have:=h.b;omega,by have:=h.firm;omega,by have:=h.mark;omega⟩
theorem KZ(d:Dk)(l:Lg):(Ak d l).2.1.b=l.b/\(Ak d l).2.1.all=l.all/\(Ak d l).2.1.name=l.name/\((Ak d l).2.1.firm=l.firm\/(Ak d l).2.1.firm=l.b.length)/\(Ak d l).2.1.mark<=l.mark+1:=by
 unfold Ak
 split
 ·dsimp only
  split
  ·exact⟨rfl,rfl,rfl,.inr rfl,Nat.le_refl _⟩
  ·exact⟨rfl,rfl,rfl,.inl rfl,Nat.le_succ _⟩
 ·exact⟨rfl,rfl,rfl,.inl rfl,Nat.le_succ _⟩
theorem WJ.flush{N X:Nat}{s:St}(h:WJ N X s)(hN:10000<=N):WJ N (X+1) {s with d:=(Ak s.d s.lg).1,lg:=(Ak s.d s.lg).2.1}:=by
 obtain⟨h1,h2,h3,h4,h5⟩:=KZ s.d s.lg
 have hb:=h.b
 have hf:=h.firm
 have hm:=h.mark
 refine⟨FitC.flush h.fit (by omega),?_,?_,?_,(Fq _ _).sized h.sz⟩
 ·show(Ak s.d s.lg).2.1.b.length<=_
  rw[h1];exact hb
 ·show(Ak s.d s.lg).2.1.firm<=_
  rcases h4 with e|e<;>rw[e]<;>omega
 ·show(Ak s.d s.lg).2.1.mark<=_
  omega
theorem WJ.ahead{N X:Nat}{s:St}(h:WJ N X s)(hN:10000<=N)(n:Nat):WJ N (X+1) (DD s n):=by
 unfold DD Bg
 split
 ·exact h.mono (Nat.le_refl _) (Nat.le_succ _)
 ·exact h.flush hN
theorem WJ.wrote{N X:Nat}{s:St}(h:WJ N X s)(hN:10000<=N){f:Fr}(hn:f.n<=30)(bs:List UInt8):WJ N (X+1) (s.wrote f bs):=by
 have ha:=h.ahead hN f.pg.2
 exact⟨FitC.page ha.fit _ (by omega) bs,ha.b,ha.firm,ha.mark,(writeD_nms _ _ _ _).sized ha.sz⟩
theorem WJ.frames{N X:Nat}{s:St}(h:WJ N X s)(fs:List Fr)(hd pg:Nat):WJ N X {s with fs:=fs,hand:=hd,pages:=pg}:=⟨h.fit,h.b,h.firm,h.mark,h.sz⟩
def Low(s:St):Prop:=∀f∈s.fs,f.dirty=true->f.n<=30
theorem Bf.at'{fs gs:List Fr}(h:Bf fs gs){g:Fr}(hg:g∈gs):∃f∈fs,Zl f g:=by
 have hl:=h.len
 obtain⟨k,hk,rfl⟩:=List.getElem_of_mem hg
 exact⟨_,getElem_mem (by omega),h.at_ k _ _ (List.getElem?_eq_getElem (by omega)) (List.getElem?_eq_getElem hk)⟩
theorem Bf.low{s:St}{gs:List Fr}(h:Bf s.fs gs)(hl:Low s):∀g∈gs,g.dirty=true->g.n<=30:=fun g hg hd=>by
 obtain⟨f,hf,h1,_,_,h4⟩:=h.at' hg
 rw[h1];exact hl f hf (by rw[<- h4];exact hd)
theorem Bf.YY{s:St}{gs:List Fr}(h:Bf s.fs gs)(hi:Idle s 5000){hd:Nat}(hh:hd<gs.length):Idle {s with fs:=gs,hand:=hd} 5000:=by
 refine⟨fun g hg=>?_,by show gs.length<=s.many;rw[h.len];exact hi.len,hi.many,?_,.inr hh,h.nd hi.nd⟩
 ·obtain⟨f,hf,h1,h2,h3,h4⟩:=h.at' hg
  have:=hi.fr f hf
  exact⟨by rw[h3];exact this.1,by rw[h1];exact this.2.1,fun h=>by omega⟩
 ·have:=hi.len
  have:=hi.many.2
  have:=h.len
  show hd<64
  omega
theorem Idle.set{s:St}(h:Idle s 5000){k:Nat}(hk:k<s.fs.length){F:Fr}(hF:F.pins=0/\F.n<4096)(hn:∀(j:Nat)(f:Fr),j≠k->s.fs[j]? =some f->f.n≠F.n)(pg:Nat):Idle {s with fs:=s.fs.set k F,pages:=pg} 5000:=by
 refine⟨fun f hf=>?_,by show(s.fs.set k F).length<=s.many;rw[List.length_set];exact h.len,h.many,h.hand,by show s.hand=0\/s.hand<(s.fs.set k F).length;rw[List.length_set];exact h.turn,fun i j f g hij hf hg=>?_⟩
 ·rcases mem_or_eq_of_mem_set hf with h1|rfl
  ·have:=h.fr f h1
   exact⟨this.1,this.2.1,fun h=>by omega⟩
  ·exact⟨hF.1,hF.2,fun h=>by omega⟩
 ·have hoff:∀(i:Nat)(f:Fr),i≠k->(s.fs.set k F)[i]? =some f->s.fs[i]? =some f:=fun i f hi hf=>by rw[List.getElem?_set_ne (fun h=>hi h.symm)]at hf;exact hf
  have hf:(s.fs.set k F)[i]? =some f:=hf
  have hg:(s.fs.set k F)[j]? =some g:=hg
  by_cases hi:i=k
  ·subst hi
   have h2:=hn j g (fun e=>hij e.symm) (hoff j g (fun e=>hij e.symm) hg)
   rw[List.getElem?_set_self hk]at hf
   rw[<- Option.some.inj hf]
   exact fun e=>h2 e.symm
  ·by_cases hj:j=k
   ·subst hj
    rw[List.getElem?_set_self hk]at hg
    rw[<- Option.some.inj hg]
    exact hn i f hi (hoff i f hi hf)
   ·exact h.nd i j f g hij (hoff i f hi hf) (hoff j g hj hg)
theorem JB{s:St}{n:Nat}(h:Idle s n)(f:Fr)(bs:List UInt8):Idle (s.wrote f bs) n:=⟨h.fr,h.len,h.many,h.hand,h.turn,h.nd⟩
structure Kept(N X:Nat)(s s1:St):Prop where
 wj:WJ N (X+1) s1
 idle:Idle s1 5000
 low:Low s1
 pages:s1.pages<=4096
theorem Xr{s:St}{n:Nat}(h:EC s.fs (n:Int)=none):∀f∈s.fs,f.n≠n:=fun f hf e=>Ze h f hf (by omega)
theorem JX.kept{N X:Nat}{s s1:St}{n:Nat}{P:AP}(h:JX s s1 n P)(hw:WJ N X s)(hN:10000<=N)(hi:Idle s 5000)(hl:Low s)(hp:s.pages<=4096)(hn:n<=30):Kept N X s s1:=by
 rcases h with⟨j,f,h1,h2,h3,h4,rfl⟩|⟨s0,k,h1,hfree,hk,rfl⟩
 ·have hj:=(List.getElem?_eq_some_iff.1 h2).1
  refine⟨(hw.mono (Nat.le_refl _) (Nat.le_succ _)).frames _ s.hand s.pages,hi.set hj (F:= {f with pg:=P,dirty:=true,used:=true}) ⟨h4,by show f.n<4096;omega⟩ (fun i g hij hg=>hi.nd i j g f hij hg h2) s.pages,fun g hg hd=>?_,hp⟩
  rcases mem_or_eq_of_mem_set hg with h5|rfl
  ·exact hl g h5 hd
  ·show f.n<=30;omega
 ·have hno:=Xr h1
  have key:∀(s0:St),WJ N (X+1) s0->Idle s0 5000->Low s0->s0.pages<=4096->k<s0.fs.length->(∀(j:Nat)(f:Fr),j≠k->s0.fs[j]? =some f->f.n≠n)->Kept N X s {s0 with fs:=s0.fs.set k ⟨n,P,0,true,true⟩,pages:=max s0.pages (n+1)}:=fun s0 g1 g2 g3 g4 g5 g6=>
   ⟨g1.frames _ s0.hand _,g2.set g5 (F:=⟨n,P,0,true,true⟩) ⟨rfl,by show n<4096;omega⟩ g6 _,fun g hg hd=>by
    rcases mem_or_eq_of_mem_set hg with h5|rfl
    ·exact g3 g h5 hd
    ·exact hn,by show max s0.pages (n+1)<=4096;omega⟩
  have sameNo:∀{gs:List Fr},Bf s.fs gs->∀(j:Nat)(f:Fr),j≠k->gs[j]? =some f->f.n≠n:=fun hs j f _ hf=>by
   obtain⟨g,hg,e,_⟩:=hs.at' (mem_of_getElem? hf)
   rw[e];exact hno g hg
  rcases hfree with⟨hlt,hkl,F,rfl⟩|⟨hnl,fs1,h1,f,hsame,hh1,hf,hpin,⟨hd,rfl⟩|⟨hd,g,hR,hw0,rfl⟩⟩
  ·--a frame more:it is filled at once
   have e:({({s with fs:=s.fs++[F]}:St)with fs:=(s.fs++[F]).set k ⟨n,P,0,true,true⟩,pages:=max s.pages (n+1)}:St)= {({s with fs:=s.fs++[(⟨n,P,0,true,true⟩:Fr)]}:St)with fs:=(s.fs++[(⟨n,P,0,true,true⟩:Fr)]).set k ⟨n,P,0,true,true⟩,pages:=max s.pages (n+1)}:=by
    subst hkl
    simp
   show Kept N X s ({({s with fs:=s.fs++[F]}:St)with fs:=(s.fs++[F]).set k ⟨n,P,0,true,true⟩,pages:=max s.pages (n+1)}:St)
   rw[e]
   refine key {s with fs:=s.fs++[(⟨n,P,0,true,true⟩:Fr)]} ((hw.mono (Nat.le_refl _) (Nat.le_succ _)).frames _ s.hand s.pages) ⟨fun g hg=>?_,?_,hi.many,hi.hand,?_,fun i j g1 g2 hij e1 e2=>?_⟩ (fun g hg hd=>?_) hp (by show k<(s.fs++_).length;rw[length_append,hkl];simp) (fun j g hj hg=>?_)
   ·rcases mem_append.1 hg with h5|h5
    ·exact⟨(hi.fr g h5).1,(hi.fr g h5).2.1,fun h=>by omega⟩
    ·rw[mem_singleton.1 h5];exact⟨rfl,by show n<4096;omega,fun h=>by omega⟩
   ·show(s.fs++_).length<=s.many
    rw[length_append];simp only[length_singleton];omega
   ·show s.hand=0\/s.hand<(s.fs++_).length
    have:=hi.turn
    rw[length_append];simp only[length_singleton];omega
   ·have e1:(s.fs++[(⟨n,P,0,true,true⟩:Fr)])[i]? =some g1:=e1
    have e2:(s.fs++[(⟨n,P,0,true,true⟩:Fr)])[j]? =some g2:=e2
    have l1:=(List.getElem?_eq_some_iff.1 e1).1
    have l2:=(List.getElem?_eq_some_iff.1 e2).1
    rw[length_append]at l1 l2
    simp only[length_singleton]at l1 l2
    by_cases hi2:i<s.fs.length
    ·rw[List.getElem?_append_left hi2]at e1
     by_cases hj2:j<s.fs.length
     ·rw[List.getElem?_append_left hj2]at e2
      exact hi.nd i j g1 g2 hij e1 e2
     ·have hj3:j=s.fs.length:=by omega
      rw[List.getElem?_append_right (by omega),hj3,Nat.sub_self]at e2
      have e3:g2=⟨n,P,0,true,true⟩:=(Option.some.inj e2).symm
      rw[e3]
      exact hno g1 (mem_of_getElem? e1)
    ·have hi3:i=s.fs.length:=by omega
     rw[List.getElem?_append_right (by omega),hi3,Nat.sub_self]at e1
     have e3:g1=⟨n,P,0,true,true⟩:=(Option.some.inj e1).symm
     rw[List.getElem?_append_left (by omega)]at e2
     rw[e3]
     exact fun e=>hno g2 (mem_of_getElem? e2) e.symm
   ·rcases mem_append.1 hg with h5|h5
    ·exact hl g h5 hd
    ·rw[mem_singleton.1 h5];exact hn
   ·have hg:(s.fs++[(⟨n,P,0,true,true⟩:Fr)])[j]? =some g:=hg
    have l1:=(List.getElem?_eq_some_iff.1 hg).1
    rw[length_append]at l1
    simp only[length_singleton]at l1
    rw[List.getElem?_append_left (by omega)]at hg
    exact hno g (mem_of_getElem? hg)
  ·exact key {s with fs:=fs1,hand:=h1} ((hw.mono (Nat.le_refl _) (Nat.le_succ _)).frames _ _ s.pages) (hsame.YY hi hh1) (hsame.low hl) hp hk (sameNo hsame)
  ·have hlow:=hsame.low hl f (mem_of_getElem? hf) hd
   have hw1:WJ N (X+1) (St.wrote {s with fs:=fs1,hand:=h1} f g.bs):=(hw.frames fs1 h1 s.pages).wrote hN hlow g.bs
   exact key (St.wrote {s with fs:=fs1,hand:=h1} f g.bs) hw1 (JB (hsame.YY hi hh1) f g.bs) (hsame.low hl) hp hk (sameNo hsame)
theorem IE.kept{N X:Nat}{s s1:St}{n:Nat}{c:Int}(h:IE s s1 n c)(hw:WJ N X s)(hN:10000<=N)(hi:Idle s 5000)(hl:Low s)(hp:s.pages<=4096):Kept N X s s1:=by
 have hwS:=hw.mono (Nat.le_refl N) (Nat.le_succ X)
 rcases h with⟨_,rfl,_⟩|⟨_,_,hnl,fs1,h1,hsame,hh1,⟨_,_,rfl⟩|⟨k,f,g,hf,_,hd,hR,_,rfl⟩⟩
 ·exact⟨hwS,hi,hl,hp⟩
 ·exact⟨hwS.frames _ _ s.pages,hsame.YY hi hh1,hsame.low hl,hp⟩
 ·have hlow:=hsame.low hl f (mem_of_getElem? hf) hd
  exact⟨(hw.frames fs1 h1 s.pages).wrote hN hlow g.bs,JB (hsame.YY hi hh1) f g.bs,hsame.low hl,hp⟩
theorem nums_low{s:St}(hl:Low s):∀z∈Eh (nums Em s.fs),z<=30:=fun z hz=>by
 obtain⟨f,hf,e⟩:=mem_map.1 (EL.1 hz)
 obtain⟨h1,h2⟩:=mem_filter.1 hf
 have:=hl f h1 h2
 omega
theorem E5.kept{N:Nat}{L:List Int}{s s1:St}{c:Int}(h:E5 L s s1 c)(hN:10000<=N):∀{X:Nat},WJ N X s->Idle s 5000->Low s->s.pages<=4096->(∀z∈L,z<=30)->WJ N (X+L.length) s1/\Idle s1 5000/\Low s1/\s1.pages<=4096:=by
 induction h with
 |nil s=>exact fun h1 h2 h3 h4 _=>⟨h1,h2,h3,h4⟩
 |ok z l s s' c j f g hfd hf hfn hR hE hfl ih=>
  intro X h1 h2 h3 h4 h5
  have hz:=h5 z (.head _)
  have hj:=(List.getElem?_eq_some_iff.1 hf).1
  have hfr:=h2.fr f (mem_of_getElem? hf)
  have hi:=(JB h2 f g.bs).set (k:=j) hj (F:= {f with dirty:=false}) ⟨hfr.1,hfr.2.1⟩ (fun i g hij hg=>h2.nd i j g f hij hg hf) s.pages
  have hlo:Low {s.wrote f g.bs with fs:=s.fs.set j {f with dirty:=false}}:=fun q hq hd=>by
   rcases mem_or_eq_of_mem_set hq with h6|rfl
   ·exact h3 q h6 hd
   ·cases hd
  have:=ih ((h1.wrote hN (f:=f) (by omega) g.bs).frames _ _ _) hi hlo h4 (fun y hy=>h5 y (.tail _ hy))
  refine⟨this.1.mono (Nat.le_refl _) (by rw[length_cons];omega),this.2⟩
 |bad z l s j f g hfd hf hfn hR hE=>
  intro X h1 h2 h3 h4 h5
  have hz:=h5 z (.head _)
  exact⟨(h1.wrote hN (f:=f) (by omega) g.bs).mono (Nat.le_refl _) (by rw[length_cons];omega),JB h2 f g.bs,h3,h4⟩
theorem Hm.kept{N X:Nat}{s s1:St}{c:Int}(h:Hm s s1 c)(hN:10000<=N)(h1:WJ N X s)(h2:Idle s 5000)(h3:Low s)(h4:s.pages<=4096):WJ N (X+64) s1/\Idle s1 5000/\Low s1/\s1.pages<=4096:=by
 rcases h with⟨_,_,rfl⟩|⟨_,s2,c2,hW,hc⟩
 ·exact⟨h1.mono (Nat.le_refl _) (by omega),h2,h3,h4⟩
 ·have hL:(Eh (nums Em s.fs)).length<=64:=by
   rw[FB,nums,length_map]
   have:=List.length_filter_le Em s.fs
   have:=h2.len
   have:=h2.many.2
   omega
  obtain⟨k1,k2,k3,k4⟩:=hW.kept hN h1 h2 h3 h4 (nums_low h3)
  have k1:=k1.mono (Nat.le_refl N) (Nat.add_le_add_left hL X)
  rcases hc with⟨_,_,rfl⟩|⟨_,_,rfl⟩
  ·exact⟨k1,k2,k3,k4⟩
  ·exact⟨⟨FitC.sync k1.fit _,k1.b,k1.firm,k1.mark,(J4 _ _).sized k1.sz⟩,⟨k2.fr,k2.len,k2.many,k2.hand,k2.turn,k2.nd⟩,k3,k4⟩
theorem Rest.okB{y:GW}{x:DW}{s:St}{p:JP}{Ps:List AP}{n:Nat}(h:Rest y x s p Ps n)(hl:LgB s.lg)(tt:Nat)(wt:Int):StOk (yj y x p tt wt) x s:=
 ⟨h.fs,rfl,h.dk,by have:=h.idle.len;have:=h.idle.many.2;omega,fun f hf=>(h.idle.fr f hf).2.1,fun f hf=>by have:=(h.idle.fr f hf).1;omega,.inr hl,h.idle.hand,h.pages,h.idle.many.2⟩
theorem Kept.rest{N X:Nat}{y:GW}{x:DW}{s s1:St}{p:JP}{Ps:List AP}(h:Kept N X s s1)(hf:y.fs.length=s1.fs.length)(hx:x.Ok s1.d)(hb:p.bs.length=Ps.length)(hl:Ps.length<=4096):Rest y x s1 p Ps 5000:=⟨hf,hx,h.idle,h.pages,JA h.wj.sz _,hb,hl⟩
def pgsR(p:JP)(tt:Nat)(Ps:List AP)(T:Tou)(k:Nat):List Asn:=.own 99 1 p.pa p.bs.length p.pc (EH p.bs)::(List.zipWith BG (p.bs.eraseIdx k) (Ps.eraseIdx k)++[touA tt T])
theorem XB{p:JP}{tt:Nat}{Ps:List AP}{T:Tou}{k b:Nat}{P:AP}(hb:p.bs[k]? =some b)(hP:Ps[k]? =some P):(pgsL p tt Ps T).Perm (BG b P::pgsR p tt Ps T k):=by
 have h:=SQ hb hP
 rw[pgsL,pgsR]
 refine AC fun ff gg h0 hc ha hpm=>?_
 have h9:=hpm _ _ h
 simp only[ha,hc,h0]at h9⊢
 omega
theorem jset_spec(y:GW)(x:DW)(s:St)(p:JP)(tt:Nat)(wt:Int)(Ps:List AP)(T:Tou)(hr:Rest y x s p Ps 5000)(hlo:Low s){N X:Nat}(hw:WJ N X s)(hN:10000<=N/\N<=400000)(hX:X<=100000000)(n:Nat)(hn:n<=30){b:Nat}(hb:p.bs[n]? =some b)(w:World)(st:Std w (AZ y x s p tt wt Ps T)):
  Calls Tryz.prog 50 #[.pointer (some ⟨y.pb,0,none⟩),.int .i64 (n:Int),.pointer (some ⟨b,0,none⟩)] w fun e w'=>∃(c:Int)(y':GW)(x':DW)(s':St),e=.returned (.int .i64 c)/\((c=0/\JX s s' n (CO Ps n))\/(c≠0/\IE s s' n c))/\
   Ee y y' x x'/\Rest y' x' s' p Ps 5000/\Kept N X s s'/\Hp (feet (AZ y x s p tt wt Ps T)) w w' (AZ y' x' s' p tt wt Ps T):=by
 have H:=Hp.Ap st
 generalize hB:feet (AZ y x s p tt wt Ps T)=B at H⊢
 have hlt:n<Ps.length:=by rw[<- hr.bs];exact(List.getElem?_eq_some_iff.1 hb).1
 obtain⟨P,hP⟩:∃P,Ps[n]? =some P:=⟨_,List.getElem?_eq_getElem hlt⟩
 have hPP:CO Ps (n:Int)=P:=by rw[CO,Int.toNat_natCast,hP];rfl
 rw[hPP]
 have H1:Hp B w w (BG b P::(stL (yj y x p tt wt) x s++pgsR p tt Ps T n)):=(H.perm (GZ ..)).perm (by
  have h:=XB (tt:=tt) (T:=T) hb hP
  refine AC fun ff gg h0 hc ha hpm=>?_
  have h9:=hpm _ _ h
  simp only[ha,hc,h0]at h9⊢
  omega)
 obtain⟨g,hR,H2⟩:=Hp.CV H1
 have H3:Hp B w w ((stL (yj y x p tt wt) x s++[Sl.pgA b g])++pgsR p tt Ps T n):=H2.perm (by(refine AC fun ff gg h0 hc ha hpm=>?_;simp only[ha,hc,h0];omega))
 clear H H1 H2
 refine Calls.mono (setG_spec (yj y x p tt wt) x s (hr.okB (hw.lgB hX) tt wt) (hw.fit.mono hN.2) (Nat.le_refl _) (fun k=>(TJ s k).sized hw.sz) hr.idle.len hr.idle.hh n (by omega) b g P hR w H3.std1) ?_
 rintro e w1 ⟨y1,x1,s1,c,hseat,hx1,hl1,H',rfl,hcase⟩
 obtain⟨hs2,hyj⟩:=V3 hseat
 have H4:=H3.useL H'
 clear H3 H'
 have H5:Hp B w w1 (Sl.pgA b g::(stL y1 x1 s1++pgsR p tt Ps T n)):=H4.perm (by(refine AC fun ff gg h0 hc ha hpm=>?_;simp only[ha,hc,h0];omega))
 have H6:=Hp.NE (P:=P) hR H5
 have hpm:=GZ y1 x1 s1 p tt wt Ps T
 rw[hyj]at hpm
 have H7:Hp B w w1 (AZ y1 x1 s1 p tt wt Ps T):=H6.perm ((by
  have h:=XB (tt:=tt) (T:=T) hb hP
  refine AC fun ff gg h0 hc ha hpm=>?_
  have h9:=hpm _ _ h
  simp only[ha,hc,h0]at h9⊢
  omega:(BG b P::(stL y1 x1 s1++pgsR p tt Ps T n)).Perm (stL y1 x1 s1++pgsL p tt Ps T)).trans hpm.symm)
 have hK:Kept N X s s1:=by
  rcases hcase with⟨_,hok⟩|hbad
  ·exact hok.kept hw hN.1 hr.idle hlo hr.pages hn
  ·exact hbad.kept hw hN.1 hr.idle hlo hr.pages
 refine⟨c,y1,x1,s1,rfl,?_,hs2,hK.rest hl1 hx1 hr.bs hr.few,hK,H7⟩
 rcases hcase with h|h
 ·exact .inl h
 ·refine .inr ⟨?_,h⟩
  rcases h with⟨rfl,_⟩|⟨h,_⟩
  ·decide
  ·exact h
theorem safeJ{N X:Nat}(hN:10000<=N/\N<=400000)(hX:X+64<=100000000):Safe (fun c s=>c<=64/\WJ N (X+c) s) (fun n=>n<=30):=
 ⟨fun c s h=>h.2.fit.mono hN.2,fun c s h=>h.2.lgB (by have:=h.1;omega),fun c s h n=>(TJ s n).sized h.2.sz,fun c s f g h hc hD _ _=>⟨by omega,h.2.wrote hN.1 hD g.bs⟩,fun c s fs hd pg h=>⟨h.1,h.2.frames fs hd pg⟩⟩
theorem jflush_spec(y:GW)(x:DW)(s:St)(p:JP)(tt:Nat)(wt:Int)(Ps:List AP)(T:Tou)(hr:Rest y x s p Ps 5000)(hlo:Low s){N X:Nat}(hw:WJ N X s)(hN:10000<=N/\N<=400000)(hX:X+64<=100000000)(w:World)(st:Std w (AZ y x s p tt wt Ps T)):
  Calls Tryz.prog 51 #[.pointer (some ⟨y.pb,0,none⟩)] w fun e w'=>∃(c:Int)(y':GW)(x':DW)(s':St),e=.returned (.int .i64 c)/\Hm s s' c/\
   Ee y y' x x'/\Rest y' x' s' p Ps 5000/\WJ N (X+64) s'/\Low s'/\Hp (feet (AZ y x s p tt wt Ps T)) w w' (AZ y' x' s' p tt wt Ps T):=by
 have H:=Hp.Ap st
 generalize hB:feet (AZ y x s p tt wt Ps T)=B at H⊢
 have H1:=H.perm (GZ ..)
 refine Calls.mono (flushG_spec (safeJ hN hX) (yj y x p tt wt) x s (hr.okB (hw.lgB (by omega)) tt wt) ⟨Nat.zero_le _,hw⟩ hlo w H1.std1) ?_
 rintro e w1 ⟨y1,x1,s1,c,hseat,hx1,hl1,H',rfl,hR⟩
 obtain⟨hs2,hyj⟩:=V3 hseat
 have hpm:=GZ y1 x1 s1 p tt wt Ps T
 rw[hyj]at hpm
 have H2:Hp B w w1 (AZ y1 x1 s1 p tt wt Ps T):=(H1.useL H').perm hpm.symm
 obtain⟨k1,k2,k3,k4⟩:=hR.kept hN.1 hw hr.idle hlo hr.pages
 exact⟨c,y1,x1,s1,rfl,hR,hs2,⟨hl1,hx1,k2,k4,JA k1.sz _,hr.bs,hr.few⟩,k1,k3,H2⟩
def jnoL(y:GW)(x:DW)(s:St)(p:JP)(tt:Nat)(wt:Int)(Ps:List AP)(T:Tou):List Asn:=
 jpL y.jb (ptrV x.b) (ptrV y.lw.b) (ptrV y.pb) p (some tt) wt Ps++(touA tt T::BN y x s::fsA y s::frsL y.fs s.fs)
theorem WN(y:GW)(x:DW)(s:St)(p:JP)(tt:Nat)(wt:Int)(Ps:List AP)(T:Tou):(AZ y x s p tt wt Ps T).Perm (lgL y.lw x s.d s.lg++jnoL y x s p tt wt Ps T):=by
 rw[AZ,DX,jnoL,lgL];(refine AC fun ff gg h0 hc ha hpm=>?_;simp only[ha,hc,h0];omega)
theorem jnoL_eq{y:GW}{x x':DW}{lw:LW}(hx:x'.b=x.b)(hl:lw.b=y.lw.b)(s:St)(d:Dk)(lg:Lg)(p:JP)(tt:Nat)(wt:Int)(Ps:List AP)(T:Tou):jnoL {y with lw:=lw} x' {s with d:=d,lg:=lg} p tt wt Ps T=jnoL y x s p tt wt Ps T:=by
 have e1:BN {y with lw:=lw} x' {s with d:=d,lg:=lg}=BN y x s:=by simp only[BN,BL,hx]
 have e2:fsA {y with lw:=lw} {s with d:=d,lg:=lg}=fsA y s:=rfl
 have e3:jpL ({y with lw:=lw}:GW).jb (ptrV x'.b) (ptrV ({y with lw:=lw}:GW).lw.b) (ptrV ({y with lw:=lw}:GW).pb) p (some tt) wt Ps=jpL y.jb (ptrV x.b) (ptrV y.lw.b) (ptrV y.pb) p (some tt) wt Ps:=by
  show jpL y.jb (ptrV x'.b) (ptrV lw.b) (ptrV y.pb) p (some tt) wt Ps=_
  rw[hx,hl]
 rw[jnoL,jnoL,e1,e2,e3]
def FndD(d e:Dk):Prop:=e.find Aa=d.find Aa
theorem FndD.thn{d:Dk}{r:Dk×Int}{f:Dk->Dk×Int}(h:FndD d r.1)(hf:∀e,FndD e (f e).1):FndD d (Redo.thn r f).1:=by
 rw[Redo.thn]
 split
 ·exact(hf _).trans h
 ·exact h
theorem QH{d e:Dk}(h:Nms d e):FndD d e:=h.find _
theorem create_fnd(d:Dk):FndD d (d.create nNew).1:=by
 rcases Jf d nNew with⟨c,_⟩|c
 ·exact c.find _
 ·refine(c.find _).trans ?_
  show nget (ons d.firm (d.chs++[_])) Aa=_
  rw[ons,foldl_append]
  show nget (with_ _ _) Aa=_
  rw[EI,if_neg Ie.symm];rfl
theorem rename_fnd(d:Dk):FndD d (d.rename nNew nLog).1:=by
 rcases P7 d nNew nLog Rx with⟨c,_⟩|⟨K,_,c⟩
 ·exact c.find _
 ·refine(c.find _).trans ?_
  show nget (ons d.firm (d.chs++[_])) Aa=_
  rw[ons,foldl_append]
  show nget (with_ (without _ _) _) Aa=_
  rw[EI,if_neg OY.symm,GX,if_neg Ie.symm];rfl
theorem Fz(d:Dk):FndD d d.Ad.1:=by
 rcases FU d with⟨c,_⟩|⟨_,c⟩
 ·exact c.find _
 ·refine(c.find _).trans ?_
  show nget (ons d.names []) Aa=_
  rfl
theorem Q3(d:Dk):FndD d (bW d nLog []).1:=by
 have h1:FndD d (bn d nNew []).1:=FndD.thn (FndD.thn (FndD.thn (FndD.thn (create_fnd d) fun e=>QH (FC _ _ _ _)) fun e=>QH (FC _ _ _ _)) fun e=>QH (Qv _ _ _ _ _)) fun e=>QH (UM _ _ _ _)
 exact FndD.thn (FndD.thn (r:=bn d nNew []) h1 fun e=>rename_fnd e) fun e=>Fz e
theorem FndD.sized{d e:Dk}(h:FndD d e)(hs:0<=d.size Aa):0<=e.size Aa:=by
 obtain⟨k,hk⟩:=Dx.1 hs
 exact Dx.2 ⟨k,by rw[h];exact hk⟩
theorem QZ{d:Dk}{l:Lg}:Dt d l []=if l.code=0 then(if(bW d l.name []).2=0 then((bW d l.name []).1,l.anew [],0)else((bW d l.name []).1,{l with code:=(bW d l.name []).2},(bW d l.name []).2))else(d,l,l.code):=by
 rw[Dt,if_neg (by decide)]
theorem WJ.reset{N X:Nat}{s:St}(h:WJ N X s)(hX:1<=X)(hn:s.lg.name=nLog):WJ (N+12) X {s with d:=(Dt s.d s.lg []).1,lg:=(Dt s.d s.lg []).2.1}:=by
 have hf:((bW s.d s.lg.name []).1).Fit (N+12):=(RF h.fit s.lg.name []).mono (by show N+0/512+12<=_;omega)
 have hsz:0<=((bW s.d s.lg.name []).1).size Aa:=by rw[hn];exact(Q3 s.d).sized h.sz
 rw[QZ]
 split
 ·split
  ·exact⟨hf,Nat.zero_le _,Nat.zero_le _,hX,hsz⟩
  ·exact⟨hf,h.b,h.firm,h.mark,hsz⟩
 ·exact h.mono (by omega) (Nat.le_refl _)
inductive Ja(Ps:List AP):List Int->St->St->Int->Prop where
 |nil (s:St):Ja Ps [] s s 0
 |ok (n:Int) (L:List Int) (s s1 s':St) (c:Int):JX s s1 n.toNat (CO Ps n)->Ja Ps L s1 s' c->Ja Ps (n::L) s s' c
 |bad (n:Int) (L:List Int) (s s1:St) (c:Int):c≠0->IE s s1 n.toNat c->Ja Ps (n::L) s s1 c
def Zt(s:St)(T:Tou)(s':St)(T':Tou)(code:Int):Prop:=
 (s.d.Ad.2≠0/\code=s.d.Ad.2/\s'= {s with d:=s.d.Ad.1}/\T'=T)\/
 (s.d.Ad.2=0/\code=(Dt s.d.Ad.1 s.lg []).2.2/\s'= {s with d:=(Dt s.d.Ad.1 s.lg []).1,lg:=(Dt s.d.Ad.1 s.lg []).2.1}/\T'=if(Dt s.d.Ad.1 s.lg []).2.2=0 then T0 else T)
def MI(s:St)(Ps:List AP)(T:Tou)(wt:Int)(s':St)(T':Tou)(wt' code:Int):Prop:=
 wt'=(BK s.d s.lg wt).2.2.1/\
 (((BK s.d s.lg wt).2.2.2≠0/\code=(BK s.d s.lg wt).2.2.2/\s'= {s with d:=(BK s.d s.lg wt).1,lg:=(BK s.d s.lg wt).2.1}/\T'=T)\/
  ((BK s.d s.lg wt).2.2.2=0/\∃(L:List Int)(s2:St)(c2:Int),L.Pairwise (· < ·)/\(∀n,n∈L↔0<T n)/\Ja Ps L {s with d:=(BK s.d s.lg wt).1,lg:=(BK s.d s.lg wt).2.1} s2 c2/\
   ((c2≠0/\code=c2/\s'=s2/\T'=T)\/
   (c2=0/\∃(s3:St)(c3:Int),Hm s2 s3 c3/\((c3≠0/\code=c3/\s'=s3/\T'=T)\/(c3=0/\Zt s3 T s' T' code))))))
theorem syncP_lg(d:Dk)(l:Lg)(wt:Int):(BK d l wt).2.1.name=l.name:=by
 unfold BK
 split
 ·rfl
 ·exact(KZ d l).2.2.1
theorem WJ.sync{N X:Nat}{s:St}(h:WJ N X s)(hN:10000<=N)(wt:Int):WJ N (X+1) {s with d:=(BK s.d s.lg wt).1,lg:=(BK s.d s.lg wt).2.1}:=by
 unfold BK
 split
 ·exact h.mono (Nat.le_refl _) (Nat.le_succ _)
 ·exact h.flush hN
theorem Lt(s:St)(f:Fr)(bs:List UInt8):(s.wrote f bs).lg.name=s.lg.name:=by
 show(Bg s f.pg.2).2.1.name=_
 unfold Bg
 split
 ·rfl
 ·exact(KZ s.d s.lg).2.2.1
theorem JX.name{s s1:St}{n:Nat}{P:AP}(h:JX s s1 n P):s1.lg.name=s.lg.name:=by
 rcases h with⟨j,f,_,_,_,_,rfl⟩|⟨s0,k,_,⟨_,_,F,rfl⟩|⟨_,fs1,h1,f,_,_,_,_,⟨_,rfl⟩|⟨_,g,_,_,rfl⟩⟩,_,rfl⟩
 ·rfl
 ·rfl
 ·rfl
 ·exact Lt {s with fs:=fs1,hand:=h1} f g.bs
theorem E5.name{L:List Int}{s s1:St}{c:Int}(h:E5 L s s1 c):s1.lg.name=s.lg.name:=by
 induction h with
 |nil s=>rfl
 |ok z l s s' c j f g _ _ _ _ _ _ ih=>exact ih.trans (Lt s f g.bs)
 |bad z l s j f g _ _ _ _ _=>exact Lt s f g.bs
theorem Hm.name{s s1:St}{c:Int}(h:Hm s s1 c):s1.lg.name=s.lg.name:=by
 rcases h with⟨_,_,rfl⟩|⟨_,s2,c2,hW,⟨_,_,rfl⟩|⟨_,_,rfl⟩⟩
 ·rfl
 ·exact hW.name
 ·exact hW.name
theorem ints_get{w:World}{a:Option Addr}{L:List Int}(h:Cells w a (L.map (.int .i64))){k:Nat}(hk:k<L.length):∃ad,a=some ad/\Ld Tryz.prog 3 w (ad.add (k*1)) (.int .i64 L[k]):=by
 have hat:(L.map (Value.int .i64))[k]? =some (.int .i64 L[k]):=by simp[hk]
 obtain⟨ad,had,_⟩:=h _ _ hat
 exact⟨ad,had,by rw[Nat.mul_one];exact h.ld gInt had hat⟩
theorem ptrsJ_get{w:World}{a:Option Addr}{bs:List Nat}(h:Cells w a (EH bs)){k b:Nat}(hk:bs[k]? =some b):∃ad,a=some ad/\Ld Tryz.prog 99 w (ad.add (k*1)) (.pointer (some ⟨b,0,none⟩)):=by
 have hat:(EH bs)[k]? =some (.pointer (some ⟨b,0,none⟩)):=by simp[EH,hk]
 obtain⟨ad,had,_⟩:=h _ _ hat
 exact⟨ad,had,by rw[Nat.mul_one];exact h.ld gPG had hat⟩
theorem mem_own(y:GW)(x:DW)(s:St)(p:JP)(tt:Nat)(wt:Int)(Ps:List AP)(T:Tou):Asn.own 99 1 p.pa p.bs.length p.pc (EH p.bs)∈AZ y x s p tt wt Ps T:=by
 rw[AZ,jpL]
 exact mem_append_left _ (.tail _ (.head _))
theorem resetA_spec(y:GW)(x:DW)(s:St)(p:JP)(tt:Nat)(wt:Int)(Ps:List AP)(T:Tou)(hx:x.Ok s.d){N X:Nat}(hw:WJ N X s)(hN:N<=400000)(hn:s.lg.name=nLog)(w:World)(st:Std w (AZ y x s p tt wt Ps T)):
  Calls Tryz.prog 53 #[.pointer (some ⟨y.lw.b,0,none⟩),.slice none 0 0] w fun e w'=>e=.returned (.int .i64 (Dt s.d s.lg []).2.2)/\∃(x':DW)(lw:LW),x'.b=x.b/\lw.b=y.lw.b/\x'.Ok (Dt s.d s.lg []).1/\
   Hp (feet (AZ y x s p tt wt Ps T)) w w' (AZ {y with lw:=lw} x' {s with d:=(Dt s.d s.lg []).1,lg:=(Dt s.d s.lg []).2.1} p tt wt Ps T):=by
 have H:=Hp.Ap st
 generalize hB:feet (AZ y x s p tt wt Ps T)=B at H⊢
 have H1:=H.perm (WN ..)
 refine Calls.mono (lreset_spec y.lw x s.d s.lg hx hw.fit hN (by rw[hn];decide) none 0 [] (by decide) (by decide) w H1.std1 (fun W _=>by intro j v hj;simp at hj) (fun _=>rfl)) ?_
 rintro e w1 ⟨rfl,x',lw,hxb,hlw,hx',H'⟩
 have H2:=H1.useL H'
 refine⟨rfl,x',lw,hxb,hlw,hx',?_⟩
 refine H2.perm ((?_:List.Perm _ _).trans (WN {y with lw:=lw} x' {s with d:=(Dt s.d s.lg []).1,lg:=(Dt s.d s.lg []).2.1} p tt wt Ps T).symm)
 rw[jnoL_eq hxb hlw]
theorem jcheck_spec(y:GW)(x:DW)(s:St)(p:JP)(tt:Nat)(wt:Int)(Ps:List AP)(T:Tou)(hr:Rest y x s p Ps 5000)(hlo:Low s){N X:Nat}(hw:WJ N X s)(hN:10000<=N/\N<=300000)(hX:1<=X/\X<=10000000)(hnm:s.lg.name=nLog)(hT:∀n,0<T n->0<=n/\n<=30/\n.toNat<Ps.length)(w:World)(st:Std w (AZ y x s p tt wt Ps T)):
  Calls Tryz.prog 23 #[.pointer (some ⟨y.jb,0,none⟩)] w fun e w'=>∃(code:Int)(s':St)(T':Tou)(wt':Int),MI s Ps T wt s' T' wt' code/\e=.returned (.int .i64 code)/\
   ∃(y':GW)(x':DW),Ee y y' x x'/\Rest y' x' s' p Ps 5000/\Low s'/\WJ (N+20) (X+200) s'/\Hp (feet (AZ y x s p tt wt Ps T)) w w' (AZ y' x' s' p tt wt' Ps T'):=by
 apply jcheck.ok;unfold jcheck.vc
 have H:=Hp.Ap st
 refine AL (KG y x s p tt wt Ps T 5000 hr (hw.lgB (by omega)) hw.fit (by omega) w st) ?_
 rintro e w1 ⟨rfl,x1,lw1,hx1b,hlw1,hR1,H'⟩
 replace H:=H.Dq H'
 clear H'
 generalize hB:feet (AZ y x s p tt wt Ps T)=B at H⊢
 have hw1:=hw.sync hN.1 wt
 have hn1:=(syncP_lg s.d s.lg wt).trans hnm
 unfold MI
 generalize BK s.d s.lg wt=r at hR1 H hw1 hn1⊢
 obtain⟨d1,lg1,wt1,c1⟩:=r
 dsimp only at hR1 H hw1 hn1⊢
 obtain⟨s1,hs1⟩:∃s1:St,s1= {s with d:=d1,lg:=lg1}:=⟨_,rfl⟩
 obtain⟨y1,hy1⟩:∃y1:GW,y1= {y with lw:=lw1}:=⟨_,rfl⟩
 have hlo1:Low s1:=by rw[hs1];exact hlo
 have hj1:y1.jb=y.jb:=by rw[hy1]
 have hS1:Ee y y1 x x1:=by rw[hy1];exact⟨rfl,rfl,hlw1,hx1b⟩
 have hnm1:s1.lg.name=nLog:=by rw[hs1];exact hn1
 rw[<- hs1,<- hy1]at hR1 H
 rw[<- hs1]at hw1⊢
 refine⟨_,rfl,Aw (fun hc=>?_) (fun hc=>?_)⟩
 ·exact⟨_,s1,T,wt1,⟨rfl,.inl ⟨hc,rfl,rfl,rfl⟩⟩,rfl,y1,x1,hS1,hR1,hlo1,hw1.mono (by omega) (by omega),H⟩
 rw[<- hj1]
 refine AA rfl ⟨_,H.ld (o:=4) (cs:=jcW y1 x1 p tt wt1) EQ4 gMSP (Eg ..) rfl,?_⟩
 obtain⟨L,hL1,hL2,hL3,hL4⟩:=Wj (H.ok _ (YN ..)) (fun n hn=>by have:=hT n hn;omega)
 have hcv:=hL4 w1 (H.ok _ (YN ..)) rfl
 refine⟨hcv.1.mono ?_⟩
 rintro e w2 ⟨v,rfl,hRR⟩
 refine⟨v,rfl,hRR fun a c w3 H'=>⟨_,_,_,rfl,?_⟩⟩
 have hLn:∀z∈L,0<=z/\z<=30/\z.toNat<Ps.length:=fun z hz=>hT z ((hL2 z).1 hz)
 have hL31:L.length<=31:=by
  have:=Jw (L.map Int.toNat) 0 31 (pairwise_map.2 (hL1.imp_of_mem fun{a b} ha hb hab=>by
   have e1:=hLn a ha
   have e2:=hLn b hb
   omega)) (fun n hn=>by
   obtain⟨z,hz,rfl⟩:=mem_map.1 hn
   have:=hLn z hz
   omega) (Nat.zero_le _)
  rw[length_map]at this
  exact this
 have H3:Hp B w w3 (AZ y1 x1 s1 p tt wt1 Ps T++[.own 3 1 a L.length c (L.map (.int .i64))]):=(H.ext H').perm List.perm_append_comm
 clear H H' hcv hRR hL4
 refine Ae.mk (fun m (sv:Int) w'=>∃(k:Nat)(y2:GW)(x2:DW)(s2:St),m=L.length-k/\k<=L.length/\sv=(k:Int)/\Ee y1 y2 x1 x2/\Rest y2 x2 s2 p Ps 5000/\Low s2/\WJ N (X+1+k) s2/\s2.lg.name=nLog/\(∀s' c',Ja Ps (L.drop k) s2 s' c'->Ja Ps L s1 s' c')/\
   Hp B w w' (AZ y2 x2 s2 p tt wt1 Ps T++[.own 3 1 a L.length c (L.map (.int .i64))])) L.length ⟨0,y1,x1,s1,rfl,by omega,rfl,Ee.refl y1 x1,hR1,hlo1,hw1,hnm1,fun _ _ h=>h,H3⟩ ?_
 clear H3 hR1 hlo1 hw1 hnm1 w3 w2
 rintro m sv w4 next ⟨k,y2,x2,s2,rfl,hk,rfl,hS2,hR2,hlo2,hw2,hnm2,hlink,H⟩ hnext
 have hj2:y1.jb=y2.jb:=hS2.jb.symm
 rw[hj2]
 refine AO (fun h1=>?_) (fun h1=>?_)
 ·have hkl:k<L.length:=by omega
  obtain⟨ad,had,hld⟩:=ints_get (H.ownA (mem_append_right _ (.head _))).cells hkl
  have hz:=hLn _ (getElem_mem hkl)
  obtain⟨n,hn⟩:∃n:Nat,L[k]=(n:Int):=⟨L[k].toNat,by omega⟩
  have hdk:L.drop k=(n:Int)::L.drop (k+1):=by rw[List.drop_eq_getElem_cons hkl,hn]
  rw[hn]at hld hz
  have hnb:n<p.bs.length:=by have:=hR2.bs;omega
  obtain⟨b,hb⟩:∃b,p.bs[n]? =some b:=⟨_,List.getElem?_eq_getElem hnb⟩
  obtain⟨ad2,had2,hld2⟩:=ptrsJ_get (H.drew.ownA (mem_append_left _ (mem_own ..))).cells hb
  refine AA had ⟨⟨by omega,by omega⟩,_,by rw[Int.toNat_natCast];exact hld,?_⟩
  refine AA rfl ⟨_,H.drew.ld (o:=2) (cs:=jcW y2 x2 p tt wt1) EQ4 gPP (mem_append_left _ (Eg ..)) rfl,AA rfl ⟨_,_,_,H.drew.ld (o:=3) (cs:=jcW y2 x2 p tt wt1) EQ4 gSP (mem_append_left _ (Eg ..)) rfl,?_⟩⟩
  refine AA had2 ⟨⟨by omega,by omega⟩,_,by rw[Int.toNat_natCast];exact hld2,?_⟩
  refine AL (jset_spec y2 x2 s2 p tt wt1 Ps T hR2 hlo2 hw2 ⟨hN.1,by omega⟩ (by omega) n (by omega) hb w4.drew H.drew.std1) ?_
  rintro e w5 ⟨c2,y3,x3,s3,rfl,hcase,hS3,hR3,hK,H'⟩
  have H4:=H.drew.useL H'
  clear H H'
  refine⟨_,rfl,Aw (fun hc2=>?_) (fun hc2=>?_)⟩
  ·have hbad:IE s2 s3 n c2:=by
    rcases hcase with⟨h,_⟩|⟨_,h⟩
    ·exact absurd h hc2
    ·exact h
   refine⟨_,s3,T,wt1,⟨rfl,.inr ⟨hc,L,s3,c2,hL1,hL2,hlink _ _ ?_,.inl ⟨hc2,rfl,rfl,rfl⟩⟩⟩,rfl,y3,x3,hS1.trans (hS2.trans hS3),hR3,hK.low,hK.wj.mono (by omega) (by omega),H4.BQ⟩
   rw[hdk]
   exact .bad _ _ _ _ _ hc2 (by rw[Int.toNat_natCast];exact hbad)
  ·have hok:JX s2 s3 n (CO Ps n):=by
    rcases hcase with⟨_,h⟩|⟨h,_⟩
    ·exact h
    ·exact absurd hc2 h
   refine⟨AY.2 (by omega),hnext (L.length-(k+1)) _ _ (by omega) ⟨k+1,y3,x3,s3,rfl,by omega,by omega,hS2.trans hS3,hR3,hK.low,hK.wj.mono (Nat.le_refl _) (by omega),hok.name.trans hnm2,fun s' c' h=>hlink _ _ ?_,H4⟩⟩
   rw[hdk]
   exact .ok _ _ _ _ _ _ (by rw[Int.toNat_natCast];exact hok) h
 ·have hke:k=L.length:=by omega
  subst hke
  clear hnext
  have hsets:Ja Ps L s1 s2 0:=hlink _ _ (by rw[drop_length];exact .nil _)
  clear hlink
  have H4:=H.BQ
  clear H
  refine AA rfl ⟨_,H4.ld (o:=2) (cs:=jcW y2 x2 p tt wt1) EQ4 gPP (Eg ..) rfl,?_⟩
  refine AL (jflush_spec y2 x2 s2 p tt wt1 Ps T hR2 hlo2 hw2 ⟨hN.1,by omega⟩ (by omega) w4 H4.std) ?_
  rintro e w5 ⟨c3,y3,x3,s3,rfl,hFl,hS3,hR3,hw3,hlo3,H'⟩
  have H5:=H4.Dq H'
  clear H4 H'
  have hj3:y2.jb=y3.jb:=hS3.jb.symm
  have hnm3:=hFl.name.trans hnm2
  refine⟨_,rfl,AO (fun hc3=>?_) (fun hc3=>?_)⟩
  ·rw[hj3]
   refine AA rfl ⟨_,H5.ld (o:=0) (cs:=jcW y3 x3 p tt wt1) EQ4 gPD (Eg ..) rfl,?_⟩
   have H6:=H5.perm (EK ..)
   clear H5
   refine AL (Je x3 s3.d hR3.dk w5 H6.std1) ?_
   rintro e w6 ⟨rfl,x4,hx4b,hx4,H'⟩
   have H7:=H6.useL H'
   clear H6 H'
   have hw4:WJ (N+1) (X+1+L.length+64) {s3 with d:=s3.d.Ad.1}:=⟨Fit.Ad hw3.fit,hw3.b,hw3.firm,hw3.mark,(Fz s3.d).sized hw3.sz⟩
   have H8:Hp B w w6 (AZ y3 x4 {s3 with d:=s3.d.Ad.1} p tt wt1 Ps T):=by
    refine H7.perm ((?_:List.Perm _ _).trans (EK y3 x4 {s3 with d:=s3.d.Ad.1} p tt wt1 Ps T).symm)
    have e1:BN y3 x4 {s3 with d:=s3.d.Ad.1}=BN y3 x3 s3:=by simp only[BN,BL,hx4b]
    have e2:fsA y3 {s3 with d:=s3.d.Ad.1}=fsA y3 s3:=rfl
    rw[jnoD,jnoD,e1,e2,hx4b]
   clear H7
   have hR4:Rest y3 x4 {s3 with d:=s3.d.Ad.1} p Ps 5000:=⟨hR3.fs,hx4,⟨hR3.idle.fr,hR3.idle.len,hR3.idle.many,hR3.idle.hand,hR3.idle.turn,hR3.idle.nd⟩,hR3.pages,JA hw4.sz _,hR3.bs,hR3.few⟩
   have hSx:Ee y y3 x x4:=by
    have:=hS1.trans (hS2.trans hS3)
    exact⟨this.jb,this.pb,this.lwb,hx4b.trans this.xb⟩
   refine⟨_,rfl,AO (fun hc4=>?_) (fun hc4=>?_)⟩
   ·refine AA rfl ⟨_,H8.ld (o:=1) (cs:=jcW y3 x4 p tt wt1) EQ4 gPL (Eg ..) rfl,?_⟩
    refine AL (resetA_spec y3 x4 {s3 with d:=s3.d.Ad.1} p tt wt1 Ps T hx4 hw4 (by omega) hnm3 w6 H8.std) ?_
    rintro e w7 ⟨rfl,x5,lw5,hx5b,hlw5,hx5,H'⟩
    have H9:=H8.Dq H'
    clear H8 H'
    have hw5:=hw4.reset (by omega) hnm3
    obtain⟨s5,hs5⟩:∃s5:St,s5= {s3 with d:=(Dt s3.d.Ad.1 s3.lg []).1,lg:=(Dt s3.d.Ad.1 s3.lg []).2.1}:=⟨_,rfl⟩
    have hw5:WJ (N+1+12) (X+1+L.length+64) s5:=by rw[hs5];exact hw5
    have hx5:x5.Ok s5.d:=by rw[hs5];exact hx5
    have hlo5:Low s5:=by rw[hs5];exact hlo3
    have H9:Hp B w w7 (AZ {y3 with lw:=lw5} x5 s5 p tt wt1 Ps T):=by rw[hs5];exact H9
    have hR5:Rest {y3 with lw:=lw5} x5 s5 p Ps 5000:=by
     refine⟨?_,hx5,?_,?_,JA hw5.sz _,hR3.bs,hR3.few⟩
     ·rw[hs5];exact hR3.fs
     ·rw[hs5];exact⟨hR3.idle.fr,hR3.idle.len,hR3.idle.many,hR3.idle.hand,hR3.idle.turn,hR3.idle.nd⟩
     ·rw[hs5];exact hR3.pages
    have hS5:Ee y {y3 with lw:=lw5} x x5:=⟨hSx.jb,hSx.pb,hlw5.trans hSx.lwb,hx5b.trans hSx.xb⟩
    have hlw:(X+1+L.length+64)<=X+200:=by omega
    refine⟨_,rfl,AO (fun hc5=>?_) (fun hc5=>?_)⟩
    ·refine AA rfl ⟨_,H9.ld (o:=4) (cs:=jcW {y3 with lw:=lw5} x5 p tt wt1) (b:=y3.jb) EQ4 gMSP (Eg ..) rfl,?_⟩
     obtain⟨l,hl,H10⟩:=Hp.ZJ (b:=tt) (T:=T) (L:=jpL y3.jb (ptrV x5.b) (ptrV lw5.b) (ptrV y3.pb) p (some tt) wt1 Ps++DX {y3 with lw:=lw5} x5 s5) (H9.perm (by rw[AZ];(refine AC fun ff gg h0 hc ha hpm=>?_;simp only[ha,hc,h0];omega)))
     refine Hp.clrI gMII rfl H10 EQ4 ?_
     intro w8 H11
     have H12:=Hp.UR (T:=T0) (l:=[]) TouL.nil H11
     refine⟨_,s5,T0,wt1,⟨rfl,.inr ⟨hc,L,s2,0,hL1,hL2,hsets,.inr ⟨rfl,s3,c3,hFl,.inr ⟨hc3,.inr ⟨hc4,rfl,hs5,by rw[if_pos hc5]⟩⟩⟩⟩⟩,rfl,{y3 with lw:=lw5},x5,hS5,hR5,hlo5,hw5.mono (by omega) hlw,H12.perm (by rw[AZ];(refine AC fun ff gg h0 hc ha hpm=>?_;simp only[ha,hc,h0];omega))⟩
    ·exact⟨_,s5,T,wt1,⟨rfl,.inr ⟨hc,L,s2,0,hL1,hL2,hsets,.inr ⟨rfl,s3,c3,hFl,.inr ⟨hc3,.inr ⟨hc4,rfl,hs5,by rw[if_neg hc5]⟩⟩⟩⟩⟩,rfl,{y3 with lw:=lw5},x5,hS5,hR5,hlo5,hw5.mono (by omega) hlw,H9⟩
   ·refine AO (fun h=>absurd h hc4) (fun _=>?_)
    exact⟨_,_,T,wt1,⟨rfl,.inr ⟨hc,L,s2,0,hL1,hL2,hsets,.inr ⟨rfl,s3,c3,hFl,.inr ⟨hc3,.inl ⟨hc4,rfl,rfl,rfl⟩⟩⟩⟩⟩,rfl,y3,x4,hSx,hR4,hlo3,hw4.mono (by omega) (by omega),H8⟩
  ·refine AO (fun h=>absurd h hc3) (fun _=>AO (fun h=>absurd h hc3) (fun _=>?_))
   exact⟨_,s3,T,wt1,⟨rfl,.inr ⟨hc,L,s2,0,hL1,hL2,hsets,.inr ⟨rfl,s3,c3,hFl,.inl ⟨hc3,rfl,rfl,rfl⟩⟩⟩⟩,rfl,y3,x3,hS1.trans (hS2.trans hS3),hR3,hlo3,hw3.mono (by omega) (by omega),H5⟩
structure JOp where
 kind:Int
 a:Option Addr
 c:Nat
 l:List Chg1
def JOp.cs(o:JOp):List Value:=[.int .i64 o.kind,.slice o.a o.l.length o.c]
def jopC(os:List JOp):List Value:=os.flatMap JOp.cs
theorem Xz:∀{os:List JOp}{k:Nat}(h:k<os.length),((jopC os).drop (k*2)).take 2=os[k].cs
 |o::r,0,_=>rfl
 |o::r,k+1,h=>by
  have ih:=Xz (os:=r) (k:=k) (by simpa using h)
  rw[show(k+1)*2=k*2+1+1 by omega]
  exact ih
theorem jopC_len(os:List JOp):(jopC os).length=os.length*2:=by
 induction os with
 |nil=>rfl
 |cons o r ih=>rw[jopC,List.flatMap_cons,length_append,<- jopC,ih,length_cons];show 2+_=_;omega
structure JScr(w:World)(sa:Option Addr)(os:List JOp):Prop where
 cells:Cells w sa (jopC os)
 rows:∀o∈os,Cells w o.a (chC o.l)
 len:os.length<=140737488355328
 lens:∀o∈os,o.l.length<=140737488355328
theorem JScr.chg{w w':World}{sa:Option Addr}{os:List JOp}(h:JScr w sa os)(hc:Chg [] w w'):JScr w' sa os:=⟨h.cells.chg hc (by simp),fun o ho=>(h.rows o ho).chg hc (by simp),h.len,h.lens⟩
theorem JScr.ld{w:World}{sa:Option Addr}{os:List JOp}(h:JScr w sa os){k:Nat}(hk:k<os.length):∃ad,sa=some ad/\Ld Tryz.prog 53 w (ad.add (k*2)) (.agg #[.int .i64 os[k].kind,.slice os[k].a os[k].l.length os[k].c]):=by
 have hne:0<(jopC os).length:=by rw[jopC_len];omega
 obtain⟨ad,had,_⟩:=h.cells 0 _ (List.getElem?_eq_getElem hne)
 exact⟨ad,had,h.cells.ldA Rq had (Xz hk) rfl⟩
def U3(c:Chg1):Prop:=¬(30<c.page/\c.page<4096)/\c.s.size<=5000
def sumL(os:List JOp):Nat:=(os.map fun o=>o.l.length).sum
structure FewJ(os:List JOp):Prop where
 len:os.length<=60
 sum:sumL os<=300
 good:∀o∈os,∀c∈o.l,U3 c
theorem UW(os:List JOp)(o:JOp):sumL (os++[o])=sumL os+o.l.length:=by simp[sumL]
theorem Y1:∀(os:List JOp),(∀o∈os,o.l.length<=140737488355328)->sumL os<=os.length*140737488355328
 | [],_=>by simp[sumL]
 |o::r,h=>by
  have ih:=Y1 r fun q hq=>h q (.tail _ hq)
  have:=h o (.head _)
  simp only[sumL,map_cons,sum_cons,length_cons]at ih⊢
  omega
theorem few_spec(sa:Option Addr)(sc:Nat)(os:List JOp)(w:World)(hs:JScr w sa os):
  Calls Tryz.prog 16 #[.slice sa os.length sc] w fun e w'=>∃b:Bool,e=.returned (.bool b)/\(b=true->FewJ os)/\Hp [] w w' []:=by
 apply few.ok;unfold few.vc
 have hsl:=hs.len
 refine Ae.mk (fun m (s:Int×Int) w'=>∃(k:Nat)(n:Int),m=os.length-k/\k<=os.length/\s=(n,(k:Int))/\(k<=60->n=(sumL (os.take k):Int))/\(∀o∈os.take k,∀c∈o.l,U3 c)/\Hp [] w w' []) os.length ⟨0,0,rfl,by omega,rfl,fun _=>rfl,by simp,Hp.start w⟩ ?_
 rintro m s w1 next ⟨k,n,rfl,hk,rfl,hn60,hgood,H⟩ hnext
 dsimp only
 refine AO (fun h1=>?_) (fun h1=>?_)
 ·have hkl:k<os.length:=by omega
  obtain⟨ad,had,hld⟩:=(hs.chg H.chg).ld hkl
  have hsn:os.take (k+1)=os.take k++[os[k]]:=List.take_succ_eq_append_getElem hkl
  have hrows:=hs.rows _ (getElem_mem hkl)
  have hlens:=hs.lens _ (getElem_mem hkl)
  generalize os[k]=o at hld hsn hrows hlens
  refine AA had ⟨⟨by omega,by omega⟩,_,_,_,_,by rw[Int.toNat_natCast];exact hld,?_⟩
  intro b w2 hn
  replace H:=H.new (cs:=[.int .i64 0,.slice none 0 0]) EQ4 hn
  clear hn
  refine Hp.stA (o:=0) H EQ4 Rq (vs:=[.int .i64 o.kind,.slice o.a o.l.length o.c]) rfl rfl (by simp) (cs':=[.int .i64 o.kind,.slice o.a o.l.length o.c]) rfl ?_
  clear H;intro w3 H
  refine⟨_,_,_,H.ld (o:=1) (cs:=[.int .i64 o.kind,.slice o.a o.l.length o.c]) EQ4 gSR (.head _) rfl,_,_,_,H.ld (o:=1) (cs:=[.int .i64 o.kind,.slice o.a o.l.length o.c]) EQ4 gSR (.head _) rfl,?_⟩
  have H0:=H.done
  clear H
  refine Ae.mk (fun m (s:Int) w'=>∃j:Nat,m=o.l.length-j/\j<=o.l.length/\s=(j:Int)/\(∀c∈o.l.take j,U3 c)/\Hp [] w w' []) o.l.length ⟨0,rfl,by omega,rfl,by simp,H0⟩ ?_
  clear H0 w2 w3
  rintro m s w2 next1 ⟨j,rfl,hj,rfl,hg,H⟩ hnext1
  refine AO (fun h2=>?_) (fun h2=>?_)
  ·have hjl:j<o.l.length:=by omega
   obtain⟨ad2,had2,lA,_⟩:=GR (hrows.chg H.chg (by simp)) hjl
   have hsn2:o.l.take (j+1)=o.l.take j++[o.l[j]]:=Ez hjl
   generalize o.l[j]=c at lA hsn2
   obtain⟨cp,cs,ct,cg⟩:=c
   refine AA had2 ⟨⟨by omega,by omega⟩,_,_,_,_,by rw[Int.toNat_natCast];exact lA,?_⟩
   intro b2 w3 hn
   replace H:=H.new (cs:=[.int .i64 0,.int .i64 0,.string ⟨#[]⟩,.bool false]) EQ4 hn
   clear hn
   refine Hp.stA (o:=0) H EQ4 PH (vs:=[.int .i64 cp,.int .i64 cs,.string ct,.bool cg]) rfl rfl (by simp) (cs':=[.int .i64 cp,.int .i64 cs,.string ct,.bool cg]) rfl ?_
   clear H;intro w4 H
   have stop:∃b:Bool,Ending.returned (.bool false)=.returned (.bool b)/\(b=true->FewJ os)/\Hp [] w w4 []:=⟨false,rfl,fun h=>(by cases h),H.done⟩
   have hwr:IntKind.i64.wrap ((j:Int)+1)=((j+1:Nat):Int):=by rw[DN (by omega)];rfl
   have go:¬(30<cp/\cp<4096)->∃s,Ld Tryz.prog 9 w4 ⟨b2,2,none⟩ (.string s)/\br (decide (5000<(s.size:Int))) (∃b:Bool,Ending.returned (.bool false)=.returned (.bool b)/\(b=true->FewJ os)/\Hp [] w w4 []) (next1 (IntKind.i64.wrap ((j:Int)+1)) w4):=fun hp=>by
    refine⟨_,H.ld (o:=2) EQ4 gStr (.head _) rfl,AO (fun _=>stop) (fun h3=>?_)⟩
    refine hnext1 (o.l.length-(j+1)) _ _ (by omega) ⟨j+1,rfl,by omega,hwr,fun c hc=>?_,H.done⟩
    rw[hsn2]at hc
    rcases mem_append.1 hc with hc|hc
    ·exact hg c hc
    ·rw[mem_singleton.1 hc]
     exact⟨hp,by show ct.size<=5000;omega⟩
   refine⟨_,H.ld (o:=0) EQ4 gInt (.head _) rfl,AO (fun h3=>?_) (fun h3=>go (fun h=>h3 h.1))⟩
   exact⟨_,H.ld (o:=0) EQ4 gInt (.head _) rfl,AO (fun _=>stop) (fun h4=>go (fun h=>h4 h.2))⟩
  ·have hje:j=o.l.length:=by omega
   subst hje
   rw[take_length]at hg
   have hwr:IntKind.i64.wrap ((k:Int)+1)=((k+1:Nat):Int):=by rw[DN (by omega)];rfl
   refine hnext (os.length-(k+1)) _ _ (by omega) ⟨k+1,_,rfl,by omega,by rw[hwr],fun h60=>?_,fun q hq=>?_,H⟩
   ·have hsum:=Y1 (os.take k) fun q hq=>hs.lens q (List.mem_of_mem_take hq)
    rw[length_take]at hsum
    have hn:=hn60 (by omega)
    have:min k os.length*140737488355328<=60*140737488355328:=Nat.mul_le_mul_right _ (by omega)
    rw[hn,hsn,UW,DN (by omega)]
    omega
   ·rw[hsn]at hq
    rcases mem_append.1 hq with hq|hq
    ·exact hgood q hq
    ·rw[mem_singleton.1 hq];exact hg
 ·have hke:k=os.length:=by omega
  subst hke
  rw[take_length]at hn60 hgood
  refine AO (fun h2=>?_) (fun h2=>⟨false,rfl,fun h=>(by cases h),H⟩)
  have hn:=hn60 (by omega)
  refine⟨decide (n<=300),rfl,fun h=>⟨by omega,?_,hgood⟩,H⟩
  have:=of_decide_eq_true h
  omega
theorem rowsJ_spec(la:Option Addr)(lc:Nat)(l:List Chg1)(hl:l.length<=100000000)(w:World)(hL:Cells w la (chC l)):
  Calls Tryz.prog 45 #[.slice la l.length lc] w fun e w'=>∃a c,e=.returned (.slice a l.length c)/\Hp [] w w' [.own 73 4 a l.length c (chC l)]:=by
 apply Az.ok;unfold Az.vc
 refine Ae.mk (fun m s w'=>∃(k:Nat)(a:Option Addr)(c:Nat),m=l.length-k/\k<=l.length/\s=((a,k,c),(k:Int))/\Hp [] w w' [.own 73 4 a k c (chC (l.take k))]) l.length ⟨0,none,0,rfl,by omega,rfl,(Hp.start w).nilS 73 4⟩ ?_
 rintro m s w1 next ⟨k,a,c,rfl,hk,rfl,H⟩ hnext
 dsimp only
 refine AO (fun h1=>?_) (fun h1=>?_)
 ·have hkl:k<l.length:=by omega
  obtain⟨ad,had,hld⟩:=aO (hL.chg H.chg (by simp)) hkl
  have hsn:chC (l.take (k+1))=chC (l.take k)++[.int .i64 l[k].page,.int .i64 l[k].slot,.string l[k].s,.bool l[k].gone]:=by rw[List.take_succ_eq_append_getElem hkl,Gv]
  generalize l[k]=q at hld hsn
  refine AA had ⟨⟨by omega,by omega⟩,_,_,_,_,by rw[Int.toNat_natCast];exact hld,?_⟩
  intro b1 w2 hn
  replace H:=H.new (cs:=[.int .i64 0,.int .i64 0,.string ⟨#[]⟩,.bool false]) EQ4 hn
  clear hn
  refine Hp.stA (o:=0) H EQ4 PH (vs:=[.int .i64 q.page,.int .i64 q.slot,.string q.s,.bool q.gone]) rfl rfl (by simp) (cs':=[.int .i64 q.page,.int .i64 q.slot,.string q.s,.bool q.gone]) rfl ?_
  clear H;intro w3 H
  refine⟨_,_,_,_,H.ldA (o:=0) EQ4 PH (.head _) (vs:=[.int .i64 q.page,.int .i64 q.slot,.string q.s,.bool q.gone]) rfl rfl,?_⟩
  intro b2 w4 hn
  replace H:=H.new (cs:=[.int .i64 q.page,.int .i64 q.slot,.string q.s,.bool q.gone]) EQ4 hn
  clear hn
  refine Hp.app Yd (by omega) H.BF EQ4 (Blk.src (n:=1) Ve (H.blk (.head _)) rfl rfl) (by simp only[maxLen];omega) (by omega) ?_
  clear H;intro a5 c5 w5 H
  refine⟨AY.2 (by omega),hnext (l.length-(k+1)) _ _ (by omega) ⟨k+1,a5,c5,rfl,by omega,rfl,?_⟩⟩
  rw[hsn]
  exact H.del1.del1
 ·have hke:k=l.length:=by omega
  subst hke
  rw[take_length]at H
  exact⟨a,c,rfl,H⟩
structure Flt where
 dies:Int
 denies:Int
 names:Int
 pa:Option Addr
 pc:Nat
 picks:List Int
 again:Bool
def Flt.cs(f:Flt):List Value:=[.int .i64 f.dies,.int .i64 f.denies,.int .i64 f.names,.slice f.pa f.picks.length f.pc,.bool f.again]
structure Flt.Ok(f:Flt):Prop where
 dies:f.dies<=9223372036854775807
 denies:f.denies<=9223372036854775807
 cap:f.picks.length<=f.pc
theorem Vg{x:DW}{d:Dk}(hx:x.Ok d){k:Int}(hk:k<=9223372036854775807):x.Ok (d.arm k):=
 ⟨⟨hx.dk.room,hx.dk.files,hx.dk.firm,hx.dk.chs,hx.dk.rise,by simp only[Dk.arm];omega,hx.dk.denied⟩,hx.fl,hx.cl,hx.keys,hx.na,hx.fi⟩
theorem TD{x:DW}{d:Dk}(hx:x.Ok d){k:Int}(hk:k<=9223372036854775807):x.Ok (d.deny k):=
 ⟨⟨hx.dk.room,hx.dk.files,hx.dk.firm,hx.dk.chs,hx.dk.rise,hx.dk.armed,by simp only[Dk.deny];omega⟩,hx.fl,hx.cl,hx.keys,hx.na,hx.fi⟩
theorem Wn{d:Dk}{N:Nat}(h:d.Fit N)(k:Int):(d.arm k).Fit N:=⟨h.files,h.now,h.names,h.chs⟩
theorem Tc{d:Dk}{N:Nat}(h:d.Fit N)(k:Int):(d.deny k).Fit N:=⟨h.files,h.now,h.names,h.chs⟩
theorem Ll{d:Dk}{N:Nat}(h:d.Fit N):(Ac d).1.Fit (N+13):=by
 have h1:=TW h nLog
 unfold Ac
 dsimp only
 split
 ·exact h1.mono (by omega)
 ·have h2:=Rl h1
  split
  ·exact h2
  ·exact h2
def Bd(d:Dk)(f:Flt):Dk:=if f.again then(Ac (((d.bV f.names f.picks).arm f.dies).deny f.denies)).1.bV f.names f.picks else d.bV f.names f.picks
def Qg(x:DW)(d:Dk)(f:Flt)(w:World)(e:Ending)(w':World):Prop:=
 ∃z:DW,z.Ok (Ac (Bd d f)).1/\
  (((Ac (Bd d f)).2.1≠0/\e=.returned (.tuple #[.pointer (some ⟨z.b,0,none⟩),.pointer none])/\Hp (feet (dkL x d)) w w' (dkL z (Ac (Bd d f)).1++dkL x d))\/
   ((Ac (Bd d f)).2.1=0/\∃(y:GW)(s:St)(p:JP)(tt m:Nat),e=.returned (.tuple #[.pointer (some ⟨z.b,0,none⟩),.pointer (some ⟨y.jb,0,none⟩)])/\Rest y z s p (Ac (Bd d f)).2.2.2.Ps m/\m<=4096/\s.d=(Ac (Bd d f)).1/\s.lg=(Ac (Bd d f)).2.2.1/\s.many=4/\
    (∀n,(Ac (Bd d f)).2.2.2.T n<=2*s.lg.all.length)/\Hp (feet (dkL x d)) w w' (AZ y z s p tt 0 (Ac (Bd d f)).2.2.2.Ps (Ac (Bd d f)).2.2.2.T++dkL x d)))
theorem P9(x:DW)(d:Dk)(hok:x.Ok d){N:Nat}(fit:d.Fit N)(hN:N<=29000)(f:Flt)(hf:f.Ok)(w:World)(st:Std w (dkL x d))(hP:∀W,Chg (feet (dkL x d)) w W->Cells W f.pa (ints f.picks)):
  Calls Tryz.prog 20 #[.pointer (some ⟨x.b,0,none⟩),.agg f.cs.toArray] w (Qg x d f w):=by
 unfold Qg
 obtain⟨cd,hcd⟩:∃cd,cd=Bd d f:=⟨_,rfl⟩
 rw[<- hcd]
 apply opened.ok;unfold opened.vc
 have H:=Hp.Ap st
 generalize hB:feet (dkL x d)=B at H hP⊢
 intro b w1 hn
 replace H:=(H.new (cs:=f.cs) EQ4 hn).perm (M:=dkL x d++[.blk b f.cs 46]) (by(refine AC fun ff gg h0 hc ha hpm=>?_;simp only[ha,hc,h0];omega))
 clear hn
 have stay:∀{w':World}{L1 L2:List Asn},Hp B w w' (L1++L2)->∀W,Chg (feet L1) w' W->Cells W f.pa (ints f.picks):=fun{w'}{L1 L2} H W hW=>hP W (H.BQ.later hW)
 refine⟨_,H.ld (o:=2) (cs:=f.cs) EQ4 gInt (mem_append_right _ (.head _)) rfl,_,_,_,H.ld (o:=3) (cs:=f.cs) EQ4 gSI (mem_append_right _ (.head _)) rfl,?_⟩
 refine AL (MB x d hok fit.few (by omega) f.names f.pa f.pc f.picks w1 H.std1 (stay H) hf.cap) ?_
 rintro e w2 ⟨y,rfl,hy,H'⟩
 have fit1:=Fit.bV fit hok.dk f.names f.picks
 have H1:Hp B w w2 (dkL y (d.bV f.names f.picks)++(dkL x d++[.blk b f.cs 46])):=by rw[<- append_assoc];exact H.useL H'
 clear H H'
 refine⟨_,rfl,_,Cb Qw,CX ?_⟩
 refine⟨_,H1.ld (o:=4) (cs:=f.cs) EQ4 EN (mem_append_right _ (mem_append_right _ (.head _))) rfl,?_⟩
 have last:∀(z:DW)(q:Dk)(w':World),q=cd->z.Ok q->q.Fit (N+13)->Hp B w w' (dkL z q++dkL x d)->AB Tryz.prog 11 [.pointer (some ⟨z.b,0,none⟩),.int .i64 4] w' fun e w'=>∃p_2 i,e=.returned (.tuple #[.pointer p_2,.int .i64 i])/\
   br (!decide (i=0)) (∃z_1:DW,z_1.Ok (Ac cd).1/\
    (((Ac cd).2.1≠0/\Ending.returned (.tuple #[.pointer (some ⟨z.b,0,none⟩),.pointer none])=.returned (.tuple #[.pointer (some ⟨z_1.b,0,none⟩),.pointer none])/\Hp B w w' (dkL z_1 (Ac cd).1++dkL x d))\/
     ((Ac cd).2.1=0/\∃(y:GW)(s:St)(p:JP)(tt m:Nat),Ending.returned (.tuple #[.pointer (some ⟨z.b,0,none⟩),.pointer none])=.returned (.tuple #[.pointer (some ⟨z_1.b,0,none⟩),.pointer (some ⟨y.jb,0,none⟩)])/\Rest y z_1 s p (Ac cd).2.2.2.Ps m/\m<=4096/\s.d=(Ac cd).1/\s.lg=(Ac cd).2.2.1/\s.many=4/\
      (∀n,(Ac cd).2.2.2.T n<=2*s.lg.all.length)/\Hp B w w' (AZ y z_1 s p tt 0 (Ac cd).2.2.2.Ps (Ac cd).2.2.2.T++dkL x d))))
   (∃z_1:DW,z_1.Ok (Ac cd).1/\
    (((Ac cd).2.1≠0/\Ending.returned (.tuple #[.pointer (some ⟨z.b,0,none⟩),.pointer p_2])=.returned (.tuple #[.pointer (some ⟨z_1.b,0,none⟩),.pointer none])/\Hp B w w' (dkL z_1 (Ac cd).1++dkL x d))\/
     ((Ac cd).2.1=0/\∃(y:GW)(s:St)(p:JP)(tt m:Nat),Ending.returned (.tuple #[.pointer (some ⟨z.b,0,none⟩),.pointer p_2])=.returned (.tuple #[.pointer (some ⟨z_1.b,0,none⟩),.pointer (some ⟨y.jb,0,none⟩)])/\Rest y z_1 s p (Ac cd).2.2.2.Ps m/\m<=4096/\s.d=(Ac cd).1/\s.lg=(Ac cd).2.2.1/\s.many=4/\
      (∀n,(Ac cd).2.2.2.T n<=2*s.lg.all.length)/\Hp B w w' (AZ y z_1 s p tt 0 (Ac cd).2.2.2.Ps (Ac cd).2.2.2.T++dkL x d)))):=by
  intro z q w' hq hz fq H
  subst hq
  refine AL (G7 z q hz fq (by omega) 4 (by omega) w' H.std1) ?_
  rintro e w3 ⟨z1,hz1b,hz1,hcase⟩
  rcases hcase with⟨hc,rfl,H'⟩|⟨hc,y,s,p,tt,m,rfl,hR,hm,hsd,hslg,hsm,hsp,hsT,H'⟩
  ·refine⟨_,_,rfl,Aw (fun _=>?_) (fun h=>absurd h hc)⟩
   exact⟨z1,hz1,.inl ⟨hc,by rw[hz1b],H.useL H'⟩⟩
  ·refine⟨_,_,rfl,Aw (fun h=>absurd rfl h) (fun _=>?_)⟩
   exact⟨z1,hz1,.inr ⟨hc,y,s,p,tt,m,by rw[hz1b],hR,hm,hsd,hslg,hsm,hsT,H.useL H'⟩⟩
 refine CE (fun ha=>?_) (fun ha=>?_)
 ·have hcd':cd=(Ac (((d.bV f.names f.picks).arm f.dies).deny f.denies)).1.bV f.names f.picks:=by rw[hcd,Bd,if_pos ha]
  refine⟨_,H1.ld (o:=0) (cs:=f.cs) EQ4 gInt (mem_append_right _ (mem_append_right _ (.head _))) rfl,?_⟩
  refine AL (Rh y _ hy f.dies w2 H1.std1) ?_
  rintro e w3 ⟨rfl,H'⟩
  have H2:=H1.useL H'
  clear H1 H'
  have hy1:=Vg hy hf.dies
  refine⟨rfl,_,H2.ld (o:=1) (cs:=f.cs) EQ4 gInt (mem_append_right _ (mem_append_right _ (.head _))) rfl,?_⟩
  refine AL (OA y _ hy1 f.denies w3 H2.std1) ?_
  rintro e w4 ⟨rfl,H'⟩
  have H3:=H2.useL H'
  clear H2 H'
  have hy2:=TD hy1 hf.denies
  have fit2:=Tc (Wn fit1 f.dies) f.denies
  generalize((d.bV f.names f.picks).arm f.dies).deny f.denies=q at hy2 fit2 H3 hcd'
  have fit3:=Ll fit2
  refine⟨rfl,?_⟩
  refine AL (G7 y q hy2 fit2 (by omega) 4 (by omega) w4 H3.std1) ?_
  rintro e w5 ⟨z1,hz1b,hz1,hcase⟩
  have key:∃p_1 i,e=.returned (.tuple #[.pointer p_1,.int .i64 i])/\∃X,Hp B w w5 (dkL z1 (Ac q).1++(X++(dkL x d++[.blk b f.cs 46]))):=by
   rcases hcase with⟨hc,rfl,H'⟩|⟨hc,y5,s,p,tt,m,rfl,hR,hm,hsd,hslg,hsm,hsp,hsT,H'⟩
   ·exact⟨_,_,rfl,[],H3.useL H'⟩
   ·refine⟨_,_,rfl,jnoD y5 z1 s p tt 0 (Ac q).2.2.2.Ps (Ac q).2.2.2.T,?_⟩
    rw[<- hsd,<- append_assoc]
    exact(H3.useL H').perm ((EK y5 z1 s p tt 0 _ _).append_right _)
  obtain⟨p1,i1,rfl,X,H4⟩:=key
  clear H3 hcase
  have mF:Asn.blk b f.cs 46∈dkL z1 (Ac q).1++(X++(dkL x d++[.blk b f.cs 46])):=mem_append_right _ (mem_append_right _ (mem_append_right _ (.head _)))
  refine⟨_,_,rfl,_,H4.ld (o:=2) (cs:=f.cs) EQ4 gInt mF rfl,_,_,_,H4.ld (o:=3) (cs:=f.cs) EQ4 gSI mF rfl,?_⟩
  have hcr:=MB z1 (Ac q).1 hz1 fit3.few (by omega) f.names f.pa f.pc f.picks w5 H4.std1 (stay H4) hf.cap
  rw[hz1b]at hcr
  refine AL hcr ?_
  rintro e w6 ⟨z2,rfl,hz2,H'⟩
  have H5:Hp B w w6 (dkL z2 ((Ac q).1.bV f.names f.picks)++(dkL z1 (Ac q).1++(X++(dkL x d++[.blk b f.cs 46])))):=by rw[<- append_assoc];exact H4.useL H'
  clear H4 H'
  refine⟨_,rfl,_,Cb Qw,CX ?_⟩
  refine last z2 _ w6 hcd'.symm hz2 (Fit.bV fit3 hz1.dk f.names f.picks) ?_
  exact(H5.perm (M:=(dkL z2 ((Ac q).1.bV f.names f.picks)++dkL x d)++(dkL z1 (Ac q).1++(X++[.blk b f.cs 46]))) (by(refine AC fun ff gg h0 hc ha hpm=>?_;simp only[ha,hc,h0];omega))).BQ
 ·have hcd':cd=d.bV f.names f.picks:=by rw[hcd,Bd,if_neg (by rw[ha];simp)]
  refine last y _ w2 hcd'.symm hy (fit1.mono (by omega)) ?_
  exact(H1.perm (M:=(dkL y (d.bV f.names f.picks)++dkL x d)++[.blk b f.cs 46]) (by(refine AC fun ff gg h0 hc ha hpm=>?_;simp only[ha,hc,h0];omega))).BQ
open Go.ChangeAt
theorem rd_chg(W:World)(K:List Value->Prop):RdK Tryz.prog W 2 98 K=(∃p,inR .i64 p/\∃s,inR .i64 s/\∃t:ByteArray,t.size<=reachBytes/\∃g,K (.int .i64 p::.int .i64 s::.string t::.bool g::[])):=by kernel_rfl
theorem rd_jop(W:World)(K:List Value->Prop):RdK Tryz.prog W 4 53 K=(∃i,inR .i64 i/\ArgG W 2 98 fun x=>K (.int .i64 i::(x++[]))):=by kernel_rfl
theorem chC_flat(l:List Chg1):(l.map fun c=>[Value.int .i64 c.page,.int .i64 c.slot,.string c.s,.bool c.gone]).flatten=chC l:=by rw[<- flatMap_def];rfl
theorem argG_chs{W:World}{K:List Value->Prop}(h:ArgG W 2 98 K):∃(a:Option Addr)(c:Nat)(l:List Chg1),Cells W a (chC l)/\l.length<=140737488355328/\K [.slice a l.length c]:=by
 obtain⟨a,cap,els,h1,_,hr,h2,hels,hc,he⟩:=h
 have e1:Tryz.prog.bytesOf 98=40:=by kernel_rfl
 rw[e1]at hr
 obtain⟨l,rfl,_⟩:=Nz (f:=fun c:Chg1=>[Value.int .i64 c.page,.int .i64 c.slot,.string c.s,.bool c.gone]) (Q:=fun _=>True) els fun x hx=>by
  have:=hels x hx
  rw[rd_chg]at this
  obtain⟨p,_,s,_,t,_,g,rfl⟩:=this
  exact⟨⟨p,s,t,g⟩,trivial,rfl⟩
 rw[length_map]at he hr
 rw[chC_flat]at hc
 have e2:reachBytes=140737488351232:=rfl
 exact⟨a,cap,l,hc,by omega,he⟩
theorem jopC_flat(l:List JOp):(l.map JOp.cs).flatten=jopC l:=by rw[<- flatMap_def];rfl
theorem argG_jscr{W:World}{K:List Value->Prop}(h:ArgG W 4 53 K):∃(a:Option Addr)(c:Nat)(os:List JOp),JScr W a os/\K [.slice a os.length c]:=by
 obtain⟨a,cap,els,h1,_,hr,h2,hels,hc,he⟩:=h
 have e1:Tryz.prog.bytesOf 53=32:=by kernel_rfl
 rw[e1]at hr
 obtain⟨l,rfl,hl⟩:=Nz (f:=JOp.cs) (Q:=fun o=>Cells W o.a (chC o.l)/\o.l.length<=140737488355328) els fun x hx=>by
  have:=hels x hx
  rw[rd_jop]at this
  obtain⟨i,_,h⟩:=this
  obtain⟨ca,cc,l,hl,hn,rfl⟩:=argG_chs h
  exact⟨⟨i,ca,cc,l⟩,⟨hl,hn⟩,rfl⟩
 rw[length_map]at he hr
 rw[jopC_flat]at hc
 have e2:reachBytes=140737488351232:=rfl
 exact⟨a,cap,l,⟨hc,fun o ho=>(hl o ho).1,by omega,fun o ho=>(hl o ho).2⟩,he⟩
theorem rd_flt(W:World)(K:List Value->Prop):RdK Tryz.prog W 4 46 K=∃a,inR .i64 a/\∃b,inR .i64 b/\∃c,inR .i64 c/\ArgG W 2 3 fun p=>∃g,K (.int .i64 a::.int .i64 b::.int .i64 c::(p++(.bool g::[]))):=by kernel_rfl
theorem fltC_flat(l:List Flt):(l.map Flt.cs).flatten=l.flatMap Flt.cs:=by rw[flatMap_def]
theorem argG_flts{W:World}{K:List Value->Prop}(h:ArgG W 4 46 K):∃(a:Option Addr)(c:Nat)(fs:List Flt),Cells W a (fs.flatMap Flt.cs)/\(∀f∈fs,f.Ok/\Cells W f.pa (ints f.picks))/\K [.slice a fs.length c]:=by
 obtain⟨a,cap,els,h1,_,hr,h2,hels,hc,he⟩:=h
 obtain⟨l,rfl,hl⟩:=Nz (f:=Flt.cs) (Q:=fun f=>f.Ok/\Cells W f.pa (ints f.picks)) els fun x hx=>by
  have:=hels x hx
  rw[rd_flt]at this
  obtain⟨i,hi,j,hj,k,_,h⟩:=this
  obtain⟨pa,pc,l,hl,g,rfl⟩:=argG_ints h
  exact⟨⟨i,j,k,pa,pc,l,g⟩,⟨⟨(AY.1 hi).2,(AY.1 hj).2,hl.le⟩,hl.cells⟩,rfl⟩
 rw[length_map]at he
 rw[fltC_flat]at hc
 exact⟨a,cap,l,hc,hl,he⟩
theorem rd_crash(W:World)(K:List Value->Prop):RdA Tryz.prog W 5 [44,63] K=ArgG W 4 53 (fun cs=>ArgG W 4 46 fun x=>K (ofC (some false) cs::ofC (some false) x::[])):=by kernel_rfl
theorem open_crash{W:World}{args:Array Value}(h:RdA Tryz.prog W 5 [44,63] (fun l=>args.toList=l)):∃(a:Option Addr)(c:Nat)(os:List JOp)(fa:Option Addr)(fc:Nat)(fs:List Flt),args= #[.slice a os.length c,.slice fa fs.length fc]/\JScr W a os/\Cells W fa (fs.flatMap Flt.cs)/\∀f∈fs,f.Ok/\Cells W f.pa (ints f.picks):=by
 rw[rd_crash]at h
 obtain⟨a,c,os,h1,h⟩:=argG_jscr h
 obtain⟨fa,fc,fs,h2,h3,h⟩:=argG_flts h
 exact⟨a,c,os,fa,fc,fs,by cases args;simp_all [ofC],h1,h2,h3⟩
theorem Live.mono{k m:Nat}{B:List UInt8}{G G':Cont->Prop}{d:Dk}(h:Live k m B G d)(hG:∀c,G c->G' c):Live k m B G' d:=
 ⟨h.fok,h.log,h.lt,h.logc,fun i=>by
  rcases h.data i with⟨h7,h8⟩|⟨q',h7,h8,h9,h10⟩
  ·exact .inl ⟨h7,hG _ h8⟩
  ·exact .inr ⟨q',h7,h8,h9,fun c hc=>hG c (h10 c hc)⟩⟩
theorem Live.dat{k m:Nat}{B:List UInt8}{G:Cont->Prop}{d:Dk}(h:Live k m B G d){q:Nat}(hq:d.find Aa=some q):q<d.files.length/\q≠k/\∀c,(d.file q).Cr c->G c:=by
 have hd:=h.data d.chs.length
 unfold DatA at hd
 rw[FK]at hd
 rcases hd with⟨h1,_⟩|⟨q',h1,h2,h3,h4⟩
 ·rw[Dk.find,h1]at hq;cases hq
 ·rw[Dk.find,h1]at hq;cases hq;exact⟨h2,h3,h4⟩
theorem Live.YX{k m:Nat}{B:List UInt8}{G:Cont->Prop}{d:Dk}(h:Live k m B G d){q:Nat}(hq:d.find Aa=some q){i:Nat}{b:List UInt8}
  (hG:∀(c c':Cont)(p:Nat),(d.file q).Cr c->G c->(∀n,c'.v n=if n=i then torn p (pad b) (c.v i)else c.v n)->G c'):Live k m B G (d.write Aa (i:Int) b).1:=by
 obtain⟨hql,hqk,hqG⟩:=h.dat hq
 obtain⟨ok,tidy⟩:=h.fok.at hql
 rcases Ey d Aa (i:Int) b with⟨c,_⟩|⟨q',hq',h0,hle,hb,c⟩
 ·exact h.core c
 ·rw[hq]at hq'
  cases hq'
  rw[Int.toNat_natCast]at c
  have hle:i<=(d.file q).now.length:=by unfold Dk.len at hle;omega
  refine Live.core c ⟨h.fok.put (ok.write hle hb) (Fl.Iu tidy hle b) q,h.log,by rw[EJ];exact h.lt,by rw[Cm _ (Ne.symm hqk)];exact h.logc,fun j=>?_⟩
  rcases h.data j with h1|⟨q2,h1,h2,h3,h4⟩
  ·exact .inl h1
  ·refine .inr ⟨q2,h1,by rw[EJ];exact h2,h3,fun c' hc'=>?_⟩
   by_cases e:q2=q
   ·subst e
    rw[EE hql]at hc'
    obtain⟨c0,p,hc0,_,_,hv⟩:=Fl.Cr.write ok hle hc'
    exact hG c0 c' p hc0 (h4 c0 hc0) hv
   ·rw[Cm _ e]at hc'
    exact h4 c' hc'
theorem rdC_eq{c c':Cont}{n:Nat}(h:∀k,k<8->c'.v (n*8+k)=c.v (n*8+k)):rdC c' n=rdC c n:=by
 rw[rdC,rdC,flatMap_def,flatMap_def]
 congr 1
 exact List.map_congr_left fun k hk=>h k (List.mem_range.1 hk)
theorem Ep.same{c c':Cont}{n:Nat}(h:∀k,k<8->c'.v (n*8+k)=c.v (n*8+k)){L:Sl.Recs}(hp:Ep c n L):Ep c' n L:=by
 obtain⟨st,hst⟩:=hp
 exact⟨st,by rw[pgC,rdC_eq h];exact hst⟩
theorem Y0:pad []=zsec:=rfl
theorem torn_z(p:Nat):torn p zsec zsec=zsec:=O1 p zsec
theorem Gof.row{all:List ByteArray}{R:Nat->Sl.Recs}{c c':Cont}{n i p:Nat}{x:List UInt8}(hn:0<Ag all (n:Int))(hi:n*8<=i/\i<n*8+8)(h:Gof all R c)(hv:∀j,c'.v j=if j=i then torn p x (c.v i)else c.v j):Gof all R c':=fun m hm h0=>
 (h m hm h0).same fun k hk=>by
  have:m≠n:=fun e=>by subst e;omega
  rw[hv,if_neg (by omega)]
theorem Gof.gap{all:List ByteArray}{R:Nat->Sl.Recs}{c c':Cont}{i p:Nat}(h:Gof all R c)(hz:c.v i=zsec)(hv:∀j,c'.v j=if j=i then torn p (pad []) (c.v i)else c.v j):Gof all R c':=fun m hm h0=>
 (h m hm h0).same fun k hk=>by
  rw[hv]
  split
  ·rename_i e
   rw[hz,Y0,torn_z,e,hz]
  ·rfl
section
variable{k m:Nat}{B:List UInt8}{all:List ByteArray}{R:Nat->Sl.Recs}{q:Nat}
structure Wr(k m:Nat)(B:List UInt8)(all:List ByteArray)(R:Nat->Sl.Recs)(q:Nat)(v:Nat->List UInt8)(r:Dk×Int):Prop where
 live:Live k m B (Gof all R) r.1
 find:r.1.find Aa=some q
 val:r.2=0->∀x,Vault.val (r.1.file q).now x=v x
theorem Q5{d:Dk}(hl:Live k m B (Gof all R) d)(hf:d.find Aa=some q){i:Nat}{b:List UInt8}(h0:(d.write Aa (i:Int) b).2=0):i<=(d.file q).now.length/\(d.write Aa (i:Int) b).1.file q=(d.file q).write i b:=by
 obtain⟨hql,_⟩:=hl.dat hf
 rcases Ey d Aa (i:Int) b with⟨c,hne⟩|⟨q',hq',_,hle,_,c⟩
 ·exact absurd h0 hne
 ·rw[hf]at hq'
  cases hq'
  rw[Int.toNat_natCast]at c
  exact⟨by unfold Dk.len at hle;omega,by rw[c.file,EE hql]⟩
theorem Zn{v:Nat->List UInt8}:∀(mm i:Nat){r:Dk×Int},Wr k m B all R q v r->(r.2=0->(r.1.file q).now.length=i)->
  Wr k m B all R q v (gapD mm i r)/\((gapD mm i r).2=0->((gapD mm i r).1.file q).now.length=i+mm)/\((gapD mm i r).2=0->r.2=0)
 |0,i,r,h,hl=>⟨h,hl,id⟩
 |mm+1,i,r,h,hl=>by
  rw[gapD]
  have key:Wr k m B all R q v (layD r i [])/\((layD r i []).2=0->((layD r i []).1.file q).now.length=i+1)/\((layD r i []).2=0->r.2=0):=by
   unfold layD
   by_cases h0:r.2=0
   ·rw[if_pos h0]
    have hlen:=hl h0
    obtain⟨hql,_⟩:=h.live.dat h.find
    obtain⟨ok,_⟩:=h.live.fok.at hql
    refine⟨⟨h.live.YX h.find fun c c' p hc hG hv=>hG.gap (Fl.Cr.out ok hc (by omega)) hv,by rw[(FC _ _ _ _).find];exact h.find,fun e x=>?_⟩,fun e=>?_,fun _=>h0⟩
    ·obtain⟨h1,h2⟩:=Q5 h.live h.find e
     rw[h2,Fv h1,<- h.val h0 x]
     split
     ·rename_i e2
      rw[Y0,KR (by omega)]
     ·rfl
    ·obtain⟨h1,h2⟩:=Q5 h.live h.find e
     rw[h2,IJ _ _ h1];omega
   ·rw[if_neg h0]
    exact⟨h,fun e=>absurd e h0,fun e=>absurd e h0⟩
  obtain⟨k1,k2,k3⟩:=key
  obtain⟨i1,i2,i3⟩:=Zn mm (i+1) k1 k2
  exact⟨i1,fun e=>by rw[i2 e];omega,fun e=>k3 (i3 e)⟩
theorem aV{n:Nat}(hn:0<Ag all (n:Int)){bs:List UInt8}(hbs:bs.length=4096):∀(mm j:Nat){v:Nat->List UInt8}{r:Dk×Int},j+mm=8->Wr k m B all R q v r->
  Wr k m B all R q (fun x=>if n*8+j<=x/\x<n*8+8 then Be bs (x-n*8)else v x) (rowD bs (n*8) mm j r)/\((rowD bs (n*8) mm j r).2=0->r.2=0)
 |0,j,v,r,hj,h=>⟨⟨h.live,h.find,fun e x=>by rw[if_neg (by omega)];exact h.val e x⟩,id⟩
 |mm+1,j,v,r,hj,h=>by
  rw[rowD]
  have key:Wr k m B all R q (fun x=>if x=n*8+j then Be bs j else v x) (layD r (n*8+j) (Be bs j))/\((layD r (n*8+j) (Be bs j)).2=0->r.2=0):=by
   unfold layD
   by_cases h0:r.2=0
   ·rw[if_pos h0]
    have hc8:(Be bs j).length=512:=Rj hbs (by omega)
    refine⟨⟨h.live.YX h.find fun c c' p hc hG hv=>hG.row hn (by omega) hv,by rw[(FC _ _ _ _).find];exact h.find,fun e x=>?_⟩,fun _=>h0⟩
    obtain⟨h1,h2⟩:=Q5 h.live h.find e
    rw[h2,Fv h1,<- h.val h0 x]
    have hp:pad (Be bs j)=Be bs j:=by rw[pad,hc8,Nat.sub_self];simp
    rw[hp]
   ·rw[if_neg h0]
    exact⟨⟨h.live,h.find,fun e=>absurd e h0⟩,fun e=>absurd e h0⟩
  obtain⟨k1,k2⟩:=key
  obtain⟨i1,i2⟩:=aV hn hbs mm (j+1) (by omega) k1
  refine⟨⟨i1.live,i1.find,fun e x=>?_⟩,fun e=>k2 (i2 e)⟩
  rw[i1.val e x]
  by_cases h1:x=n*8+j
  ·rw[if_neg (by omega),if_pos h1,if_pos (by omega),show x-n*8=j by omega]
  ·by_cases h2:n*8+j<=x/\x<n*8+8
   ·rw[if_pos (by omega),if_pos h2]
   ·rw[if_neg (by omega),if_neg h1,if_neg h2]
theorem writeD_live{d:Dk}(h:Live k m B (Gof all R) d)(hf:d.find Aa=some q){e0:Int}{n:Nat}(hn:0<Ag all (n:Int)){bs:List UInt8}(hbs:bs.length=4096):
  Wr k m B all R q (fun x=>if n*8<=x/\x<n*8+8 then Be bs (x-n*8)else val (d.file q).now x) (Et d e0 n bs)/\((Et d e0 n bs).2=0->e0=0):=by
 have hsz:(d.size Aa).toNat=(d.file q).now.length:=by
  rw[Dk.size,hf]
  show((d.len q:Nat):Int).toNat=_
  rw[Int.toNat_natCast];rfl
 rw[Et,hsz]
 obtain⟨g1,g2,g3⟩:=Zn (k:=k) (m:=m) (B:=B) (all:=all) (R:=R) (q:=q) (v:=val (d.file q).now) (n*8-(d.file q).now.length) (d.file q).now.length (r:=(d,e0)) ⟨h,hf,fun _ _=>rfl⟩ (fun _=>rfl)
 obtain⟨r1,r2⟩:=aV hn hbs 8 0 (by omega) g1
 exact⟨⟨r1.live,r1.find,fun e x=>by rw[r1.val e x,Nat.add_zero]⟩,fun e=>g3 (r2 e)⟩
end
theorem chunks_flat{bs:List UInt8}(h:bs.length=4096):(List.range 8).flatMap (fun k=>Be bs k)=bs:=by
 have e:(List.range 8).flatMap (fun k=>Be bs k)=Be bs 0++(Be bs 1++(Be bs 2++(Be bs 3++(Be bs 4++(Be bs 5++(Be bs 6++Be bs 7)))))):=by
  simp[List.range_succ_eq_map]
 have st:∀k,(bs.drop (k*512)).take 512++bs.drop ((k+1)*512)=bs.drop (k*512):=fun k=>by
  have:=List.take_append_drop 512 (bs.drop (k*512))
  rw[List.drop_drop,show k*512+512=(k+1)*512 by omega]at this
  exact this
 rw[e]
 have h7:Be bs 7=bs.drop (7*512):=by
  rw[Be,List.take_of_length_le (by rw[List.length_drop];omega)]
 rw[h7]
 simp only[Be]
 rw[st 6,st 5,st 4,st 3,st 2,st 1,st 0]
 simp
theorem wrote_page{c:Cont}{n:Nat}{bs:List UInt8}(hbs:bs.length=4096)(hv:∀x,n*8<=x->x<n*8+8->c.v x=Be bs (x-n*8)){g:Sl.Pg}(hg:g.bs=bs){L:Sl.Recs}{st:Nat}(hR:Sl.Rep g L st):Ep c n L:=by
 have e:rdC c n=bs:=by
  rw[<- chunks_flat hbs,rdC,flatMap_def,flatMap_def]
  congr 1
  refine List.map_congr_left fun k hk=>?_
  have hk:=List.mem_range.1 hk
  rw[hv _ (by omega) (by omega),show n*8+k-n*8=k by omega]
 exact⟨st,by rw[pgC,e,<- hg];exact Sl.KX hR⟩
def DC(e:Int):Prop:=e=0\/(90<=e/\e<=130)
theorem Vj(d:Dk):DC d.code:=by
 unfold Dk.code
 split
 ·exact .inr (by omega)
 ·exact .inl rfl
theorem dcl{e:Int}(d:Dk)(h:90<=e/\e<=130):DC (d,e).2:=.inr h
theorem Ju(d:Dk)(n:ByteArray)(i:Int)(b:List UInt8):DC (d.write n i b).2:=by
 unfold Dk.write
 split
 ·exact dcl _ (by decide)
 split
 ·exact dcl _ (by decide)
 split
 ·exact dcl _ (by decide)
 split
 ·exact dcl _ (by decide)
 split
 ·exact dcl _ (by decide)
 ·exact Vj _
theorem Vk(d:Dk)(n:ByteArray):DC (d.sync n).2:=by
 unfold Dk.sync
 split
 ·exact dcl _ (by decide)
 split
 ·exact dcl _ (by decide)
 split
 ·exact dcl _ (by decide)
 dsimp only
 split
 ·exact dcl _ (by decide)
 ·exact .inl rfl
theorem NJ(d:Dk):DC d.Ad.2:=by
 unfold Dk.Ad
 split
 ·exact dcl _ (by decide)
 dsimp only
 split
 ·exact dcl _ (by decide)
 ·exact .inl rfl
theorem create_dc(d:Dk)(n:ByteArray):DC (d.create n).2:=by
 unfold Dk.create
 split
 ·exact dcl _ (by decide)
 split
 ·exact dcl _ (by decide)
 ·exact Vj _
theorem rename_dc(d:Dk)(a b:ByteArray):DC (d.rename a b).2:=by
 unfold Dk.rename
 split
 ·exact dcl _ (by decide)
 split
 ·exact dcl _ (by decide)
 split
 ·exact dcl _ (by decide)
 split
 ·exact .inl rfl
 ·exact Vj _
theorem II{r:Dk×Int}{f:Dk->Dk×Int}(h:DC r.2)(hf:∀d,DC (f d).2):DC (Redo.thn r f).2:=by
 rw[Redo.thn]
 split
 ·exact hf _
 ·exact h
theorem VO(n:ByteArray)(b:List UInt8):∀(m k:Nat)(d:Dk),DC (Redo.dput n b m k d).2
 |0,k,d=>.inl rfl
 |m+1,k,d=>by
  rw[Redo.dput]
  split
  ·exact .inl rfl
  ·exact II (Ju _ _ _ _) fun d=>VO n b m (k+1) d
theorem Xb(d:Dk)(n:ByteArray)(m f:Nat):DC (bY d n m f).2:=II (II (Vk _ _) fun d=>Ju _ _ _ _) fun d=>Vk _ _
theorem drenew_dc(d:Dk)(n:ByteArray)(all:List ByteArray):DC (bW d n all).2:=by
 rw[bW,bn]
 exact II (II (II (II (II (II (create_dc _ _) fun d=>Ju _ _ _ _) fun d=>Ju _ _ _ _) fun d=>VO _ _ _ _ _) fun d=>Xb _ _ _ _) fun d=>rename_dc _ _ _) fun d=>NJ _
theorem Ui{d:Dk}{l:Lg}(h:l.code=0):DC (Ak d l).2.2:=by
 have h1:DC (Redo.thn (bU d l.name l.b l.firm) fun d=>bY d l.name (l.mark+1) l.b.length).2:=II (VO _ _ _ _ _) fun d=>Xb _ _ _ _
 unfold Ak
 rw[if_pos h]
 dsimp only
 split
 ·exact .inl rfl
 ·exact h1
theorem aF{r:Dk×Int}(h:DC r.2)(i:Nat)(b:List UInt8):DC (layD r i b).2:=by
 unfold layD
 split
 ·exact Ju _ _ _ _
 ·exact h
theorem Z5:∀(m i:Nat){r:Dk×Int},DC r.2->DC (gapD m i r).2
 |0,i,r,h=>h
 |m+1,i,r,h=>Z5 m (i+1) (aF h i [])
theorem aH(bs:List UInt8)(base:Nat):∀(m k:Nat){r:Dk×Int},DC r.2->DC (rowD bs base m k r).2
 |0,k,r,h=>h
 |m+1,k,r,h=>aH bs base m (k+1) (aF h (base+k) (Be bs k))
theorem writeD_dc(d:Dk){e0:Int}(h:DC e0)(n:Nat)(bs:List UInt8):DC (Et d e0 n bs).2:=aH bs (n*8) 8 0 (Z5 _ _ (r:=(d,e0)) h)
structure Oth(d e:Dk):Prop where
 nms:Nms d e
 file:∀q,d.find nLog≠some q->e.file q=d.file q
theorem Oth.refl(d:Dk):Oth d d:=⟨.refl d,fun _ _=>rfl⟩
theorem Oth.trans{a b c:Dk}(h:Oth a b)(h':Oth b c):Oth a c:=⟨h.nms.trans h'.nms,fun q hq=>(h'.file q (by rw[h.nms.find];exact hq)).trans (h.file q hq)⟩
theorem UL(d:Dk)(i:Int)(b:List UInt8):Oth d (d.write nLog i b).1:=⟨FC _ _ _ _,fun q hq=>by
 rcases Ey d nLog i b with⟨c,_⟩|⟨k,hk,_,_,_,c⟩
 ·exact c.file q
 ·rw[c.file,Cm _ (fun e=>hq (by rw[e];exact hk))]⟩
theorem WF(d:Dk):Oth d (d.sync nLog).1:=⟨J4 _ _,fun q hq=>by
 rcases Gi d nLog with⟨c,_⟩|⟨k,hk,_,c⟩
 ·exact c.file q
 ·rw[c.file,Cm _ (fun e=>hq (by rw[e];exact hk))]⟩
theorem QS{d:Dk}{r:Dk×Int}{f:Dk->Dk×Int}(h:Oth d r.1)(hf:∀e,Oth e (f e).1):Oth d (Redo.thn r f).1:=by
 rw[Redo.thn]
 split
 ·exact h.trans (hf _)
 ·exact h
theorem XP(b:List UInt8):∀(m k:Nat)(d:Dk),Oth d (Redo.dput nLog b m k d).1
 |0,k,d=>.refl d
 |m+1,k,d=>by
  rw[Redo.dput]
  split
  ·exact .refl d
  ·exact QS (UL _ _ _) fun d=>XP b m (k+1) d
theorem flushP_oth{d:Dk}{l:Lg}(hn:l.name=nLog):Oth d (Ak d l).1:=by
 have h1:Oth d (Redo.thn (bU d l.name l.b l.firm) fun d=>bY d l.name (l.mark+1) l.b.length).1:=by
  rw[hn]
  exact QS (XP _ _ _ d) fun e=>QS (QS (WF e) fun e=>UL _ _ _) fun e=>WF e
 unfold Ak
 split
 ·dsimp only
  split
  ·exact h1
  ·exact h1
 ·exact .refl d
theorem Wv{d:Dk}{l:Lg}(hc:l.code=0)(h:(Ak d l).2.2=0):(Ak d l).2.1= {l with mark:=l.mark+1,firm:=l.b.length,many:=l.all.length}:=by
 unfold Ak at h⊢
 rw[if_pos hc]at h⊢
 dsimp only at h⊢
 split at h
 ·rename_i h1;rw[if_pos h1]
 ·rename_i h1;exact absurd h h1
theorem UZ{d:Dk}{l:Lg}(hc:l.code=0)(h:(Ak d l).2.2≠0):(Ak d l).2.1= {l with code:=(Ak d l).2.2}:=by
 unfold Ak at h⊢
 rw[if_pos hc]at h⊢
 dsimp only at h⊢
 split at h
 ·exact absurd rfl h
 ·rename_i h1;rw[if_neg h1]
theorem Wi{r:Dk×Int}(h:r.2≠0)(i:Nat)(b:List UInt8):layD r i b=r:=by unfold layD;rw[if_neg h]
theorem XY:∀(m i:Nat){r:Dk×Int},r.2≠0->gapD m i r=r
 |0,i,r,h=>rfl
 |m+1,i,r,h=>by rw[gapD,Wi h];exact XY m (i+1) h
theorem XF(bs:List UInt8)(base:Nat):∀(m k:Nat){r:Dk×Int},r.2≠0->rowD bs base m k r=r
 |0,k,r,h=>rfl
 |m+1,k,r,h=>by rw[rowD,Wi h];exact XF bs base m (k+1) h
theorem writeD_stop(d:Dk){e0:Int}(h:e0≠0)(n:Nat)(bs:List UInt8):Et d e0 n bs=(d,e0):=by
 rw[Et,XY _ _ (r:=(d,e0)) h]
 exact XF _ _ _ _ h
structure Hl(k X:Nat)(b:List UInt8)(all:List ByteArray)(R:Nat->Sl.Recs)(q:Nat)(d:Dk)(l:Lg):Prop where
 code:l.code=0
 name:l.name=nLog
 lb:l.b=b
 la:l.all=all
 firm:l.firm=b.length
 mark:l.mark<=X
 live:Live k l.mark b (Gof all R) d
 find:d.find Aa=some q
structure Sk(X:Nat)(b:List UInt8)(all:List ByteArray)(R:Nat->Sl.Recs)(d:Dk)(l:Lg):Prop where
 code:l.code≠0
 any:AnyD (fun m B=>m<=X/\B=b) (Gof all R) d
section
variable{k X:Nat}{b:List UInt8}{all:List ByteArray}{R:Nat->Sl.Recs}{q:Nat}
theorem Hl.mono{d:Dk}{l:Lg}(h:Hl k X b all R q d l){X':Nat}(hX:X<=X'):Hl k X' b all R q d l:=⟨h.code,h.name,h.lb,h.la,h.firm,Nat.le_trans h.mark hX,h.live,h.find⟩
theorem Sk.mono{d:Dk}{l:Lg}(h:Sk X b all R d l){X':Nat}(hX:X<=X'):Sk X' b all R d l:=⟨h.code,h.any.mono (fun m B hm=>⟨Nat.le_trans hm.1 hX,hm.2⟩) fun _ h=>h⟩
theorem Hl.flush{d:Dk}{l:Lg}(h:Hl k X b all R q d l)(hX:X+2<big)(hb:b.length<big):
  DC (Ak d l).2.2/\(((Ak d l).2.2=0/\Hl k (X+1) b all R q (Ak d l).1 (Ak d l).2.1)\/((Ak d l).2.2≠0/\Sk (X+1) b all R (Ak d l).1 (Ak d l).2.1)):=by
 have hm:=h.mark
 have hbt:l.b.take l.firm=b:=by rw[h.lb,h.firm,take_length]
 refine⟨Ui h.code,?_⟩
 rcases Live.flush h.name h.code (by rw[h.lb,h.firm];exact Nat.le_refl _) (by rw[hbt];exact h.live) (by omega) (by rw[h.lb];exact hb)with⟨h0,h1⟩|⟨h0,h1⟩
 ·refine .inl ⟨h0,?_⟩
  have e:=Wv h.code h0
  rw[h.lb]at h1
  exact⟨by rw[e];exact h.code,by rw[e];exact h.name,by rw[e];exact h.lb,by rw[e];exact h.la,by rw[e];show l.b.length=_;rw[h.lb],by rw[e];show l.mark+1<=_;omega,by rw[e];exact h1,by rw[(Fq d l).find];exact h.find⟩
 ·refine .inr ⟨h0,?_⟩
  have e:=UZ h.code h0
  refine⟨by rw[e];exact h0,h1.mono (fun m B hm=>?_) fun _ h=>h⟩
  rcases hm with⟨rfl,rfl⟩|⟨rfl,rfl⟩
  ·exact⟨by omega,hbt⟩
  ·exact⟨by omega,h.lb⟩
theorem Hl.other{d:Dk}{l:Lg}(h:Hl k X b all R q d l):d.find nLog≠some q:=by
 rw[h.live.find]
 obtain⟨_,h2,_⟩:=h.live.dat h.find
 exact fun e=>h2 (Option.some.inj e).symm
theorem Hl.ahead{s:St}(h:Hl k X b all R q s.d s.lg)(hX:X+2<big)(hb:b.length<big)(n:Nat):
  DC (EM s n)/\(((EM s n)=0/\Hl k (X+1) b all R q (Bg s n).1 (Bg s n).2.1)\/(EM s n≠0/\Sk (X+1) b all R (Bg s n).1 (Bg s n).2.1))/\(Bg s n).1.file q=s.d.file q:=by
 unfold EM Bg
 split
 ·exact⟨.inl rfl,.inl ⟨rfl,h.mono (Nat.le_succ _)⟩,rfl⟩
 ·obtain⟨h1,h2⟩:=h.flush hX hb
  exact⟨h1,h2,(flushP_oth h.name).file q h.other⟩
theorem Hl.wrote{s:St}(h:Hl k X b all R q s.d s.lg)(hX:X+2<big)(hb:b.length<big){f:Fr}(hf:0<Ag all (f.n:Int)){g:Sl.Pg}(hg:Sl.Rep g f.pg.1 f.pg.2):
  DC (DK s f g.bs)/\((DK s f g.bs=0/\Hl k (X+1) b all R q (s.wrote f g.bs).d (s.wrote f g.bs).lg/\Ep (cont ((s.wrote f g.bs).d.file q).now) f.n f.pg.1/\
    ∀n,n≠f.n->∀L,Ep (cont (s.d.file q).now) n L->Ep (cont ((s.wrote f g.bs).d.file q).now) n L)\/
   (DK s f g.bs≠0/\(Hl k (X+1) b all R q (s.wrote f g.bs).d (s.wrote f g.bs).lg\/Sk (X+1) b all R (s.wrote f g.bs).d (s.wrote f g.bs).lg))):=by
 obtain⟨hdc,hcase,hfile⟩:=h.ahead hX hb f.pg.2
 unfold DK
 refine⟨writeD_dc _ hdc _ _,?_⟩
 rcases hcase with⟨h0,hH⟩|⟨h0,hS⟩
 ·obtain⟨hW,_⟩:=writeD_live hH.live hH.find (e0:=EM s f.pg.2) hf (bs:=g.bs) hg.ok.len
  have hH':Hl k (X+1) b all R q (s.wrote f g.bs).d (s.wrote f g.bs).lg:=⟨hH.code,hH.name,hH.lb,hH.la,hH.firm,hH.mark,hW.live,hW.find⟩
  by_cases e0:(Et (Bg s f.pg.2).1 (EM s f.pg.2) f.n g.bs).2=0
  ·refine .inl ⟨e0,hH',?_,fun n hn L hp=>?_⟩
   ·refine wrote_page (bs:=g.bs) hg.ok.len (fun x h1 h2=>?_) rfl hg
    have:=hW.val e0 x
    rw[if_pos ⟨h1,h2⟩]at this
    exact this
   ·refine hp.same fun j hj=>?_
    have:=hW.val e0 (n*8+j)
    rw[if_neg (by omega),hfile]at this
    exact this
  ·exact .inr ⟨e0,.inl hH'⟩
 ·have e:=writeD_stop (Bg s f.pg.2).1 h0 f.n g.bs
  refine .inr ⟨by rw[e];exact h0,.inr ⟨hS.code,?_⟩⟩
  show AnyD _ _ (Et (Bg s f.pg.2).1 (EM s f.pg.2) f.n g.bs).1
  rw[e];exact hS.any
structure Cp(k X:Nat)(b:List UInt8)(all:List ByteArray)(R:Nat->Sl.Recs)(q:Nat)(dn:Nat->Prop)(s:St):Prop where
 hl:Hl k X b all R q s.d s.lg
 dirty:∀f∈s.fs,f.dirty=true->0<Ag all (f.n:Int)
 pg:∀f∈s.fs,dn f.n->f.pg.1=R f.n
 there:∀n,dn n->(∃f∈s.fs,f.n=n/\f.dirty=true)\/Ep (cont (s.d.file q).now) n (R n)
theorem Cp.mono{dn:Nat->Prop}{s:St}(h:Cp k X b all R q dn s){X':Nat}(hX:X<=X'):Cp k X' b all R q dn s:=⟨h.hl.mono hX,h.dirty,h.pg,h.there⟩
theorem Bf.to{fs gs:List Fr}(h:Bf fs gs){i:Nat}{f:Fr}(hf:fs[i]? =some f):∃g,gs[i]? =some g/\Zl f g:=by
 have hi:=(List.getElem?_eq_some_iff.1 hf).1
 have hl:=h.len
 exact⟨_,List.getElem?_eq_getElem (by omega),h.at_ i _ _ hf (List.getElem?_eq_getElem (by omega))⟩
theorem Qa{fs:List Fr}{f:Fr}(h:f∈fs):∃i:Nat,fs[i]? =some f:=List.getElem?_of_mem h
theorem Cp.turn{dn:Nat->Prop}{s s0:St}{n j:Nat}{P:AP}(h:Cp k X b all R q dn s0)(hno:∀(i:Nat)(f:Fr),i≠j->s0.fs[i]? =some f->f.n≠n)(hj:j<s0.fs.length)
  (hfree:∀f,s0.fs[j]? =some f->f.dirty=true->f.n=n\/(dn f.n->Ep (cont (s0.d.file q).now) f.n (R f.n))) (hn:0<Ag all (n:Int)) (hP:P.1=R n) {F:Fr} (hF:F.n=n/\F.pg=P/\F.dirty=true) (pg hd:Nat):
  Cp k X b all R q (fun m=>dn m\/m=n) {s0 with fs:=s0.fs.set j F,pages:=pg,hand:=hd}:=by
 obtain⟨F1,F2,F3⟩:=hF
 refine⟨h.hl,fun f hf hd=>?_,fun f hf hd=>?_,fun m hm=>?_⟩
 ·rcases mem_or_eq_of_mem_set hf with h1|rfl
  ·exact h.dirty f h1 hd
  ·rw[F1];exact hn
 ·have hf:f∈s0.fs.set j F:=hf
  obtain⟨i,hi⟩:=Qa hf
  by_cases hij:j=i
  ·subst hij
   rw[List.getElem?_set_self hj]at hi
   rw[<- Option.some.inj hi,F1,F2,hP]
  ·rw[List.getElem?_set_ne hij]at hi
   rcases hd with hd|hd
   ·exact h.pg f (mem_of_getElem? hi) hd
   ·exact absurd hd (hno i f (fun e=>hij e.symm) hi)
 ·by_cases hmn:m=n
  ·exact .inl ⟨F,List.mem_iff_getElem?.2 ⟨j,List.getElem?_set_self hj⟩,by rw[F1,hmn],F3⟩
  ·rcases hm with hm|hm
   ·rcases h.there m hm with⟨f,hf,h1,h2⟩|h1
    ·obtain⟨i,hi⟩:=Qa hf
     by_cases hij:j=i
     ·subst hij
      rcases hfree f hi h2 with h3|h3
      ·exact absurd (h1.symm.trans h3) hmn
      ·rw[h1]at h3
       exact .inr (h3 hm)
     ·exact .inl ⟨f,List.mem_iff_getElem?.2 ⟨i,by rw[List.getElem?_set_ne hij];exact hi⟩,h1,h2⟩
    ·exact .inr h1
   ·exact absurd hm hmn
theorem Cp.same{dn:Nat->Prop}{s:St}(h:Cp k X b all R q dn s){gs:List Fr}(hs:Bf s.fs gs)(hd:Nat):Cp k X b all R q dn {s with fs:=gs,hand:=hd}:=by
 refine⟨h.hl,fun f hf hd=>?_,fun f hf hd=>?_,fun m hm=>?_⟩
 ·obtain⟨g,hg,h1,h2,h3,h4⟩:=hs.at' hf
  rw[h1];exact h.dirty g hg (by rw[<- h4];exact hd)
 ·obtain⟨g,hg,h1,h2,h3,h4⟩:=hs.at' hf
  rw[h1,h2];exact h.pg g hg (by rw[<- h1];exact hd)
 ·rcases h.there m hm with⟨f,hf,h1,h2⟩|h1
  ·obtain⟨i,hi⟩:=Qa hf
   obtain⟨g,hg,g1,g2,g3,g4⟩:=hs.to hi
   exact .inl ⟨g,mem_of_getElem? hg,by rw[g1,h1],by rw[g4,h2]⟩
  ·exact .inr h1
theorem Cp.wrote{dn:Nat->Prop}{s:St}(h:Cp k X b all R q dn s)(hX:X+2<big)(hb:b.length<big){f:Fr}(hm:f∈s.fs)(hi:0<Ag all (f.n:Int)){g:Sl.Pg}(hg:Sl.Rep g f.pg.1 f.pg.2):
  DC (DK s f g.bs)/\((DK s f g.bs=0/\Cp k (X+1) b all R q dn (s.wrote f g.bs)/\(dn f.n->Ep (cont ((s.wrote f g.bs).d.file q).now) f.n (R f.n)))\/
   (DK s f g.bs≠0/\(Hl k (X+1) b all R q (s.wrote f g.bs).d (s.wrote f g.bs).lg\/Sk (X+1) b all R (s.wrote f g.bs).d (s.wrote f g.bs).lg))):=by
 obtain⟨hdc,hc⟩:=h.hl.wrote hX hb hi hg
 refine⟨hdc,?_⟩
 rcases hc with⟨h0,hH,hP,hO⟩|hbad
 ·refine .inl ⟨h0,⟨hH,h.dirty,h.pg,fun n hn=>?_⟩,fun hdn=>by rw[<- h.pg f hm hdn];exact hP⟩
  rcases h.there n hn with h1|h1
  ·exact .inl h1
  ·by_cases e:n=f.n
   ·subst e
    rw[h.pg f hm hn]at hP
    exact .inr hP
   ·exact .inr (hO n e _ h1)
 ·exact .inr hbad
def VZ(all:List ByteArray)(s:St):Prop:=∀f∈s.fs,f.dirty=true->0<Ag all (f.n:Int)
def Bad(k X:Nat)(b:List UInt8)(all:List ByteArray)(R:Nat->Sl.Recs)(q:Nat)(s:St):Prop:=(Hl k X b all R q s.d s.lg\/Sk X b all R s.d s.lg)/\VZ all s
theorem Cp.bad{dn:Nat->Prop}{s:St}(h:Cp k X b all R q dn s):Bad k X b all R q s:=⟨.inl h.hl,h.dirty⟩
theorem Bad.mono{s:St}(h:Bad k X b all R q s){X':Nat}(hX:X<=X'):Bad k X' b all R q s:=⟨h.1.imp (·.mono hX) (·.mono hX),h.2⟩
theorem JX.cp{dn:Nat->Prop}{s s1:St}{n:Nat}{P:AP}(h:JX s s1 n P)(hc:Cp k X b all R q dn s)(hnd:PZ s.fs)(hX:X+2<big)(hb:b.length<big)(hn:0<Ag all (n:Int))(hP:P.1=R n):Cp k (X+1) b all R q (fun m=>dn m\/m=n) s1:=by
 rcases h with⟨j,f,h1,h2,h3,h4,rfl⟩|⟨s0,j,h1,hfree,hk,rfl⟩
 ·have hj:=(List.getElem?_eq_some_iff.1 h2).1
  exact(hc.mono (Nat.le_succ _)).turn (s:=s) (j:=j) (P:=P) (fun i g hij hg=>by rw[<- h3];exact hnd i j g f hij hg h2) hj (fun g hg _=>.inl (by rw[h2]at hg;cases hg;exact h3)) hn hP (F:= {f with pg:=P,dirty:=true,used:=true}) ⟨h3,rfl,rfl⟩ s.pages s.hand
 ·have hno:=Xr h1
  have hsame:∀{gs:List Fr},Bf s.fs gs->∀(i:Nat)(f:Fr),i≠j->gs[i]? =some f->f.n≠n:=fun hs i f _ hf=>by
   obtain⟨g,hg,e,_⟩:=hs.at' (mem_of_getElem? hf)
   rw[e];exact hno g hg
  rcases hfree with⟨hlt,rfl,F,rfl⟩|⟨hnl,fs1,h1,f,hsm,hh1,hf,hpin,⟨hd,rfl⟩|⟨hd,g,hR,hw0,rfl⟩⟩
  ·have e:(s.fs++[F]).set s.fs.length ⟨n,P,0,true,true⟩=(s.fs++[(⟨n,P,0,true,true⟩:Fr)]).set s.fs.length ⟨n,P,0,true,true⟩:=by simp
   have hc2:Cp k (X+1) b all R q (fun m=>dn m\/m=n) {s with fs:=s.fs++[(⟨n,P,0,true,true⟩:Fr)],pages:=max s.pages (n+1)}:=by
    refine⟨hc.hl.mono (Nat.le_succ _),fun f hf hd=>?_,fun f hf hd=>?_,fun m hm=>?_⟩
    ·rcases mem_append.1 hf with h5|h5
     ·exact hc.dirty f h5 hd
     ·rw[mem_singleton.1 h5];exact hn
    ·rcases mem_append.1 hf with h5|h5
     ·rcases hd with hd|hd
      ·exact hc.pg f h5 hd
      ·exact absurd hd (hno f h5)
     ·rw[mem_singleton.1 h5];exact hP
    ·rcases hm with hm|hm
     ·rcases hc.there m hm with⟨f,hf,h2⟩|h2
      ·exact .inl ⟨f,mem_append_left _ hf,h2⟩
      ·exact .inr h2
     ·exact .inl ⟨⟨n,P,0,true,true⟩,mem_append_right _ (.head _),hm.symm,rfl⟩
   show Cp k (X+1) b all R q (fun m=>dn m\/m=n) {s with fs:=(s.fs++[F]).set s.fs.length ⟨n,P,0,true,true⟩,pages:=max s.pages (n+1)}
   have e2:(s.fs++[F]).set s.fs.length ⟨n,P,0,true,true⟩=s.fs++[(⟨n,P,0,true,true⟩:Fr)]:=by simp
   rw[e2]
   exact hc2
  ·exact((hc.mono (Nat.le_succ _)).same hsm h1).turn (s:=s) (j:=j) (P:=P) (hsame hsm) hk (fun g hg hgd=>by rw[show fs1[j]? =some g from hg]at hf;cases hf;rw[hd]at hgd;cases hgd) hn hP (F:=⟨n,P,0,true,true⟩) ⟨rfl,rfl,rfl⟩ _ h1
  ·obtain⟨_,⟨_,hW,hpg⟩|⟨h0,_⟩⟩:=(hc.same hsm h1).wrote hX hb (mem_of_getElem? hf) ((hc.same hsm h1).dirty f (mem_of_getElem? hf) hd) hR
   ·exact hW.turn (s:=s) (j:=j) (P:=P) (hsame hsm) hk (fun g2 hg2 _=>by rw[show fs1[j]? =some g2 from hg2]at hf;cases hf;exact .inr hpg) hn hP (F:=⟨n,P,0,true,true⟩) ⟨rfl,rfl,rfl⟩ _ _
   ·exact absurd hw0 h0
theorem IE.cp{dn:Nat->Prop}{s s1:St}{n:Nat}{c:Int}(h:IE s s1 n c)(hc:Cp k X b all R q dn s)(hX:X+2<big)(hb:b.length<big):DC c/\Bad k (X+1) b all R q s1:=by
 rcases h with⟨rfl,rfl,_⟩|⟨_,_,hnl,fs1,h1,hsm,hh1,⟨rfl,_,rfl⟩|⟨j,f,g,hf,hpin,hd,hR,rfl,rfl⟩⟩
 ·exact⟨.inr (by decide),hc.bad.mono (Nat.le_succ _)⟩
 ·exact⟨.inr (by decide),(hc.same hsm h1).bad.mono (Nat.le_succ _)⟩
 ·have hs:=hc.same hsm h1
  obtain⟨hdc,hcase⟩:=hs.wrote hX hb (mem_of_getElem? hf) (hs.dirty f (mem_of_getElem? hf) hd) hR
  refine⟨hdc,?_,hs.dirty⟩
  rcases hcase with⟨_,hW,_⟩|⟨_,hb⟩
  ·exact .inl hW.hl
  ·exact hb
end
section
variable{k X:Nat}{b:List UInt8}{all:List ByteArray}{R:Nat->Sl.Recs}{q:Nat}
theorem Cp.to{dn dn':Nat->Prop}{s:St}(h:Cp k X b all R q dn s)(he:∀n,dn' n->dn n):Cp k X b all R q dn' s:=⟨h.hl,h.dirty,fun f hf hd=>h.pg f hf (he _ hd),fun n hn=>h.there n (he _ hn)⟩
theorem Ja.cp{Ps:List AP}(hR:∀n:Nat,R n=recs Ps n){N:Nat}(hN:10000<=N)(hb:b.length<big){L:List Int}{s s1:St}{c:Int}(h:Ja Ps L s s1 c):∀{X Y:Nat}{dn:Nat->Prop},Cp k X b all R q dn s->WJ N Y s->Idle s 5000->Low s->s.pages<=4096->(∀z∈L,0<=z/\z<=30/\0<Ag all z)->X+L.length+2<big->
  DC c/\((c=0/\Cp k (X+L.length) b all R q (fun m=>dn m\/(m:Int)∈L) s1/\WJ N (Y+L.length) s1/\Idle s1 5000/\Low s1/\s1.pages<=4096)\/(c≠0/\Bad k (X+L.length) b all R q s1)):=by
 induction h with
 |nil s=>exact fun h1 h2 h3 h4 h5 _ _=>⟨.inl rfl,.inl ⟨rfl,h1.to (fun n hn=>hn.elim id (fun h=>(by cases h))),h2,h3,h4,h5⟩⟩
 |ok n L s s2 s' c h1 _ ih=>
  intro X Y dn hc hw hi hl hp hz hX
  obtain⟨hz0,hz30,hzi⟩:=hz n (.head _)
  rw[length_cons]at hX
  have hnn:((n.toNat:Nat):Int)=n:=by omega
  have hk:=h1.kept hw hN hi hl hp (by omega)
  have hc2:=h1.cp hc hi.nd (by omega) hb (by rw[hnn];exact hzi) (by rw[hR];rfl)
  obtain⟨i1,i2⟩:=ih hc2 hk.wj hk.idle hk.low hk.pages (fun z hz2=>hz z (.tail _ hz2)) (by omega)
  refine⟨i1,?_⟩
  rw[length_cons,show X+(L.length+1)=X+1+L.length by omega,show Y+(L.length+1)=Y+1+L.length by omega]
  rcases i2 with⟨c0,i3,i4⟩|i3
  ·refine .inl ⟨c0,i3.to fun m hm=>?_,i4⟩
   rcases hm with hm|hm
   ·exact .inl (.inl hm)
   ·rcases mem_cons.1 hm with e|hm
    ·exact .inl (.inr (by omega))
    ·exact .inr hm
  ·exact .inr i3
 |bad n L s s2 c hc0 h1=>
  intro X Y dn hc hw hi hl hp hz hX
  rw[length_cons]at hX
  obtain⟨i1,i2⟩:=h1.cp hc (by omega) hb
  exact⟨i1,.inr ⟨hc0,i2.mono (by rw[length_cons];omega)⟩⟩
theorem PZ.set{fs:List Fr}(h:PZ fs){j:Nat}{f F:Fr}(hf:fs[j]? =some f)(hF:F.n=f.n):PZ (fs.set j F):=by
 have hj:=(List.getElem?_eq_some_iff.1 hf).1
 have key:∀(i:Nat)(g:Fr),(fs.set j F)[i]? =some g->∃g0,fs[i]? =some g0/\g.n=g0.n:=fun i g hg=>by
  by_cases e:j=i
  ·subst e
   rw[List.getElem?_set_self hj]at hg
   exact⟨f,hf,by rw[<- Option.some.inj hg];exact hF⟩
  ·rw[List.getElem?_set_ne e]at hg
   exact⟨g,hg,rfl⟩
 intro i i2 g g2 hne h1 h2
 obtain⟨a,ha,e1⟩:=key i g h1
 obtain⟨a2,ha2,e2⟩:=key i2 g2 h2
 rw[e1,e2]
 exact h i i2 a a2 hne ha ha2
def img(all:List ByteArray)(n:Nat):Prop:=0<Ag all (n:Int)
theorem E5.cp(hb:b.length<big){L:List Int}{s s':St}{c:Int}(h:E5 L s s' c):∀{X:Nat},Cp k X b all R q (img all) s->PZ s.fs->X+L.length+2<big->(∀z∈L,0<Ag all z)->(∀f∈s.fs,f.dirty=true->(f.n:Int)∈L)->
  DC c/\((c=0/\Cp k (X+L.length) b all R q (img all) s'/\∀f∈s'.fs,f.dirty=false)\/(c≠0/\Bad k (X+L.length) b all R q s')):=by
 induction h with
 |nil s=>exact fun h1 _ _ _ h5=>⟨.inl rfl,.inl ⟨rfl,h1,fun f hf=>by
   cases e:f.dirty with
   |false=>rfl
   |true=>exact absurd (h5 f hf e) (by simp)⟩⟩
 |ok z l s s' c j f g hfd hf hfn hg hE hfl ih=>
  intro X hc hnd hX hz hd
  rw[length_cons]at hX
  have hj:=(List.getElem?_eq_some_iff.1 hf).1
  have hfi:0<Ag all (f.n:Int):=by rw[hfn];exact hz z (.head _)
  obtain⟨_,⟨_,hW,hP⟩|⟨h0,_⟩⟩:=hc.wrote (by omega) hb (mem_of_getElem? hf) hfi hg
  ·have hc2:Cp k (X+1) b all R q (img all) {s.wrote f g.bs with fs:=s.fs.set j {f with dirty:=false}}:=by
    refine⟨hW.hl,fun F hF hd2=>?_,fun F hF hd2=>?_,fun m hm=>?_⟩
    ·rcases mem_or_eq_of_mem_set hF with h5|rfl
     ·exact hW.dirty F h5 hd2
     ·cases hd2
    ·rcases mem_or_eq_of_mem_set hF with h5|rfl
     ·exact hW.pg F h5 hd2
     ·exact hW.pg f (mem_of_getElem? hf) hd2
    ·rcases hW.there m hm with⟨F,hF,h1,h2⟩|h1
     ·obtain⟨i,hi⟩:=Qa hF
      by_cases e:j=i
      ·subst e
       have hi:s.fs[j]? =some F:=hi
       rw[hf]at hi
       cases hi
       rw[h1]at hP
       exact .inr (hP hm)
      ·exact .inl ⟨F,List.mem_iff_getElem?.2 ⟨i,by rw[List.getElem?_set_ne e];exact hi⟩,h1,h2⟩
     ·exact .inr h1
   obtain⟨i1,i2⟩:=ih hc2 (hnd.set hf rfl) (by omega) (fun y hy=>hz y (.tail _ hy)) (fun F hF hFd=>by
    have hF:F∈s.fs.set j {f with dirty:=false}:=hF
    obtain⟨i,hi⟩:=Qa hF
    by_cases e:j=i
    ·subst e
     rw[List.getElem?_set_self hj]at hi
     rw[<- Option.some.inj hi]at hFd
     cases hFd
    ·rw[List.getElem?_set_ne e]at hi
     rcases mem_cons.1 (hd F (mem_of_getElem? hi) hFd)with h5|h5
     ·exact absurd (by omega:f.n=F.n) (hnd j i f F e hf hi)
     ·exact h5)
   rw[length_cons,show X+(l.length+1)=X+1+l.length by omega]
   exact⟨i1,i2⟩
  ·exact absurd hE h0
 |bad z l s j f g hfd hf hfn hg hE=>
  intro X hc hnd hX hz hd
  rw[length_cons]at hX
  have hfi:0<Ag all (f.n:Int):=by rw[hfn];exact hz z (.head _)
  obtain⟨hdc,hcase⟩:=hc.wrote (by omega) hb (mem_of_getElem? hf) hfi hg
  refine⟨hdc,.inr ⟨hE,?_,hc.dirty⟩⟩
  rw[length_cons]
  rcases hcase with⟨h0,_⟩|⟨_,hbad⟩
  ·exact absurd h0 hE
  ·exact hbad.imp (·.mono (by omega)) (·.mono (by omega))
theorem Live.syncD{m:Nat}{B:List UInt8}{G:Cont->Prop}{d:Dk}(h:Live k m B G d)(hq:d.find Aa=some q):Live k m B G (d.sync Aa).1/\((d.sync Aa).2=0->(d.sync Aa).1.file q=(d.file q).sync):=by
 obtain⟨hql,hqk,hqG⟩:=h.dat hq
 obtain⟨ok,tidy⟩:=h.fok.at hql
 rcases Gi d Aa with⟨c,hne⟩|⟨q',hq',h0,c⟩
 ·exact⟨h.core c,fun e=>absurd e hne⟩
 ·rw[hq]at hq'
  cases hq'
  refine⟨Live.core c ⟨h.fok.put (Fl.QO ok) (Fl.Kw _) q,h.log,by rw[EJ];exact h.lt,by rw[Cm _ (Ne.symm hqk)];exact h.logc,fun j=>?_⟩,fun _=>by rw[c.file,EE hql]⟩
  rcases h.data j with h1|⟨q2,h1,h2,h3,h4⟩
  ·exact .inl h1
  ·refine .inr ⟨q2,h1,by rw[EJ];exact h2,h3,fun c' hc'=>?_⟩
   by_cases e:q2=q
   ·subst e
    rw[EE hql]at hc'
    exact h4 c' (Fl.Cr.sync ok tidy hc')
   ·rw[Cm _ e]at hc'
    exact h4 c' hc'
structure Wd(k X:Nat)(b:List UInt8)(all:List ByteArray)(R:Nat->Sl.Recs)(q:Nat)(s:St):Prop where
 hl:Hl k X b all R q s.d s.lg
 firm:∀c,(s.d.file q).Cr c->Gof [] R c
 clean:∀f∈s.fs,f.dirty=false
theorem Wd.bad{s:St}(h:Wd k X b all R q s):Bad k X b all R q s:=⟨.inl h.hl,fun f hf hd=>by rw[h.clean f hf]at hd;cases hd⟩
theorem nums_len(s:St):(Eh (nums Em s.fs)).length<=s.fs.length:=by
 rw[FB,nums,length_map]
 exact List.length_filter_le _ _
theorem Hm.cp(hb:b.length<big){s s1:St}{c:Int}(h:Hm s s1 c)(hc:Cp k X b all R q (img all) s)(hnd:PZ s.fs)(hl:s.fs.length<=64)(hX:X+64+2<big):
  DC c/\((c=0/\Wd k (X+64) b all R q s1)\/(c≠0/\Bad k (X+64) b all R q s1)):=by
 rcases h with⟨_,rfl,rfl⟩|⟨_,s2,c2,hW,hcase⟩
 ·exact⟨.inr (by decide),.inr ⟨by decide,hc.bad.mono (by omega)⟩⟩
 ·have hL:=nums_len s
  obtain⟨i1,i2⟩:=hW.cp hb hc hnd (by omega) (fun z hz=>by
   obtain⟨f,hf,rfl⟩:=mem_map.1 (EL.1 hz)
   obtain⟨h1,h2⟩:=mem_filter.1 hf
   exact hc.dirty f h1 h2) (fun f hf hd=>EL.2 (mem_map.2 ⟨f,mem_filter.2 ⟨hf,hd⟩,rfl⟩))
  rcases i2 with⟨rfl,hc2,hcl⟩|⟨h0,hbad⟩
  ·rcases hcase with⟨h0,_⟩|⟨_,rfl,rfl⟩
   ·exact absurd rfl h0
   ·refine⟨Vk _ _,?_⟩
    obtain⟨g1,g2⟩:=hc2.hl.live.syncD hc2.hl.find
    have hH:Hl k (X+64) b all R q (s2.d.sync Aa).1 s2.lg:=⟨hc2.hl.code,hc2.hl.name,hc2.hl.lb,hc2.hl.la,hc2.hl.firm,Nat.le_trans hc2.hl.mark (by omega),g1,by rw[(J4 _ _).find];exact hc2.hl.find⟩
    by_cases h0:(s2.d.sync Aa).2=0
    ·refine .inl ⟨h0,hH,fun c hcr=>?_,hcl⟩
     have hcr:((s2.d.sync Aa).1.file q).Cr c:=hcr
     rw[g2 h0]at hcr
     rw[Fl.Cr.same (l:=(s2.d.file q).now) hcr]
     obtain⟨hql,_,hqG⟩:=hc2.hl.live.dat hc2.hl.find
     obtain⟨ok,tidy⟩:=hc2.hl.live.fok.at hql
     intro n hn _
     by_cases hi:Ag all (n:Int)=0
     ·exact hqG _ (Fl.Cr.now ok tidy) n hn hi
     ·rcases hc2.there n (Nat.pos_of_ne_zero hi)with⟨f,hf,_,h2⟩|h2
      ·rw[hcl f hf]at h2;cases h2
      ·exact h2
    ·exact .inr ⟨h0,.inl hH,hc2.dirty⟩
  ·rcases hcase with⟨_,rfl,rfl⟩|⟨h1,_⟩
   ·exact⟨i1,.inr ⟨h0,hbad.mono (by omega)⟩⟩
   ·exact absurd h1 h0
def Anew(R:Nat->Sl.Recs)(q:Nat)(s:St):Prop:=∃K,Hl K 1 [] [] R q s.d s.lg/\∀f∈s.fs,f.dirty=false
def Half(X:Nat)(b:List UInt8)(R:Nat->Sl.Recs)(s:St):Prop:=s.lg.code≠0/\AnyD (fun m B=>m<=X/\(B=b\/B=[])) (Gof [] R) s.d
theorem Live.names{m:Nat}{B:List UInt8}{G G':Cont->Prop}{d e:Dk}(h:Live k m B G d)(hq:d.find Aa=some q)(hG:∀c,(d.file q).Cr c->G' c)(c:Core {d with firm:=d.names,chs:=[]} e):Live k m B G' e:=by
 obtain⟨hql,hqk,_⟩:=h.dat hq
 have hlist:∀i,lists {d with firm:=d.names,chs:=[]} i=d.names:=fun i=>by
  rw[lists]
  show ons d.names (List.take i [])=_
  rw[take_nil];rfl
 refine Live.core c ⟨⟨h.fok.ok,h.fok.tidy⟩,fun i=>by rw[hlist];exact h.find,h.lt,h.logc,fun i=>.inr ⟨q,by rw[hlist];exact hq,hql,hqk,hG⟩⟩
theorem Zt.out{s s':St}{T T':Tou}{code:Int}(h:Zt s T s' T' code)(hw:Wd k X b all R q s):
  DC code/\((code=0/\T'=T0/\Anew R q s')\/(code≠0/\T'=T/\(Bad k (X+1) b all R q s'\/Half (X+1) b R s'))):=by
 have hH:=hw.hl
 rcases h with⟨h0,rfl,rfl,rfl⟩|⟨h0,rfl,rfl,rfl⟩
 ·refine⟨NJ _,.inr ⟨h0,rfl,.inl ⟨.inl ⟨hH.code,hH.name,hH.lb,hH.la,hH.firm,Nat.le_trans hH.mark (by omega),?_,?_⟩,hw.bad.2⟩⟩⟩
  ·rcases FU s.d with⟨c,_⟩|⟨h1,_⟩
   ·exact hH.live.core c
   ·exact absurd h1 h0
  ·rw[Fz];exact hH.find
 ·have hL:Live k s.lg.mark b (Gof [] R) s.d.Ad.1:=by
   rcases FU s.d with⟨_,h1⟩|⟨_,c⟩
   ·exact absurd h0 h1
   ·exact hH.live.names hH.find hw.firm c
  have hfd:s.d.Ad.1.find Aa=some q:=by rw[Fz];exact hH.find
  rw[QZ,if_pos hH.code,hH.name]
  have hm:=hH.mark
  rcases hL.renew with⟨r0,K,hK⟩|⟨r0,hA⟩
  ·rw[if_pos r0]
   refine⟨.inl rfl,.inl ⟨rfl,by rw[if_pos rfl],K,⟨hH.code,hH.name,rfl,rfl,rfl,Nat.le_refl _,hK,?_⟩,hw.clean⟩⟩
   rw[Q3];exact hfd
  ·rw[if_neg r0]
   refine⟨drenew_dc _ _ _,.inr ⟨r0,by rw[if_neg r0],.inr ⟨r0,hA.mono (fun m B hmB=>?_) fun _ h=>h⟩⟩⟩
   rcases hmB with⟨rfl,rfl⟩|⟨rfl,rfl⟩
   ·exact⟨by omega,.inl rfl⟩
   ·exact⟨by omega,.inr rfl⟩
end
theorem ahead_irr(a:Chg1):¬BO a a:=by
 unfold BO
 rw[if_neg (fun h=>h rfl)]
 omega
theorem ahead_asym{a b:Chg1}(h:BO a b):¬BO b a:=by
 unfold BO at h⊢
 by_cases e:a.page=b.page
 ·rw[if_neg (fun h=>h e)]at h
  rw[if_neg (fun h=>h e.symm)]
  omega
 ·rw[if_pos e]at h
  rw[if_pos (fun h=>e h.symm)]
  omega
theorem ahead_trans{a b c:Chg1}(h:BO a b)(h':BO b c):BO a c:=by
 unfold BO at h h'⊢
 split at h<;>split at h'<;>split<;>omega
theorem ahead_total{a b:Chg1}(h:ES a b=false)(hn:¬BO a b):BO b a:=by
 unfold BO at hn⊢
 unfold ES at h
 by_cases e:a.page=b.page
 ·rw[if_neg (fun h=>h e)]at hn
  rw[if_neg (fun h=>h e.symm)]
  rw[decide_eq_true e.symm,Bool.true_and,decide_eq_false_iff_not]at h
  omega
 ·rw[if_pos e]at hn
  rw[if_pos (fun h=>e h.symm)]
  omega
theorem sort_ext{l m:List Chg1}(hl:l.Pairwise BO)(hm:m.Pairwise BO)(h:∀x,x∈l↔x∈m):l=m:=by
 have nd:∀{l:List Chg1},l.Pairwise BO->l.Nodup:=fun h=>by
  rw[List.nodup_iff_pairwise_ne]
  exact h.imp fun h e=>by subst e;exact ahead_irr _ h
 exact List.Perm.eq_of_pairwise (le:=BO) (fun a b _ _ h1 h2=>absurd h2 (ahead_asym h1)) hl hm ((List.perm_ext_iff_of_nodup (nd hl) (nd hm)).2 h)
theorem recs_ext{l m:Sl.Recs}(hl:l.Pairwise fun a b=>a.1<b.1)(hm:m.Pairwise fun a b=>a.1<b.1)(h:∀x,x∈l↔x∈m):l=m:=by
 have nd:∀{l:Sl.Recs},(l.Pairwise fun a b=>a.1<b.1)->l.Nodup:=fun h=>by
  rw[List.nodup_iff_pairwise_ne]
  exact h.imp fun h e=>by subst e;omega
 exact List.Perm.eq_of_pairwise (le:=fun a b=>a.1<b.1) (fun a b _ _ h1 h2=>by omega) hl hm ((List.perm_ext_iff_of_nodup (nd hl) (nd hm)).2 h)
theorem QG{c x:Chg1}:ES c x=true↔(x.page,x.slot)=(c.page,c.slot):=by simp[ES]
theorem key_false{c x:Chg1}:ES c x=false↔¬(x.page,x.slot)=(c.page,c.slot):=by
 rw[<- QG];simp
theorem Vm(c:Chg1):∀l,wiG c true l=l
 | []=>rfl
 |d::r=>by
  rw[wiG,if_neg (by simp),Vm c r]
theorem YL(c x:Chg1):∀l,x∈wiG c false l↔x=c\/x∈l
 | []=>by simp[wiG]
 |d::r=>by
  rw[wiG]
  split
  ·rw[Vm];simp
  ·rw[mem_cons,YL c x r,mem_cons]
   constructor
   ·rintro(h|h|h)
    ·exact .inr (.inl h)
    ·exact .inl h
    ·exact .inr (.inr h)
   ·rintro(h|h|h)
    ·exact .inr (.inl h)
    ·exact .inl h
    ·exact .inr (.inr h)
theorem chg_mem_iff(l:List Chg1)(c x:Chg1):x∈chgF l c↔(c.gone=false/\x=c)\/(x∈l/\ES c x=false):=by
 have hw:x∈woF l c↔x∈l/\ES c x=false:=by rw[woF,mem_filter];simp
 unfold chgF
 split
 ·rename_i h
  rw[hw]
  exact⟨.inr,fun h2=>h2.elim (fun h3=>by rw[h]at h3;cases h3.1) id⟩
 ·rename_i h
  rw[YL,hw]
  have h:c.gone=false:=by simpa using h
  exact⟨fun h2=>h2.imp (fun h3=>⟨h,h3⟩) id,fun h2=>h2.imp (fun h3=>h3.2) id⟩
theorem Z8(c:Chg1):∀(l:List Chg1),l.Pairwise BO->(∀d∈l,ES c d=false)->(wiG c false l).Pairwise BO
 | [],_,_=>by simp[wiG]
 |d::r,hp,hk=>by
  have hp2:=pairwise_cons.1 hp
  rw[wiG]
  split
  ·rename_i h
   have h:BO c d:=by simpa using h
   rw[Vm]
   refine pairwise_cons.2 ⟨fun x hx=>?_,hp⟩
   rcases mem_cons.1 hx with rfl|hx
   ·exact h
   ·exact ahead_trans h (hp2.1 x hx)
  ·rename_i h
   have h:¬BO c d:=by simpa using h
   refine pairwise_cons.2 ⟨fun x hx=>?_,Z8 c r hp2.2 fun x hx=>hk x (.tail _ hx)⟩
   rcases(YL c x r).1 hx with rfl|hx
   ·exact ahead_total (hk d (.head _)) h
   ·exact hp2.1 x hx
theorem chg_srt{l:List Chg1}(h:l.Pairwise BO)(c:Chg1):(chgF l c).Pairwise BO:=by
 have hw:(woF l c).Pairwise BO:=h.filter _
 unfold chgF
 split
 ·exact hw
 ·exact Z8 c _ hw fun d hd=>by
   have:=(mem_filter.1 hd).2
   simpa using this
theorem U9:∀(Ps:List AP)(n:Nat)(x:Chg1),x∈DL n Ps↔∃i q,q∈recs Ps i/\x=rowP (n+i) q
 | [],n,x=>by
  simp only[DL,List.not_mem_nil,false_iff]
  rintro⟨i,q,h,_⟩
  simp[recs]at h
 |P::r,n,x=>by
  rw[DL,mem_append,U9 r (n+1) x]
  constructor
  ·rintro(h|⟨i,q,h,e⟩)
   ·obtain⟨q,hq,rfl⟩:=mem_map.1 h
    exact⟨0,q,hq,rfl⟩
   ·exact⟨i+1,q,h,by rw[e,show n+1+i=n+(i+1) by omega]⟩
  ·rintro⟨i,q,h,e⟩
   cases i with
   |zero=>exact .inl (mem_map.2 ⟨q,h,e.symm⟩)
   |succ i=>exact .inr ⟨i,q,h,by rw[e,show n+1+i=n+(i+1) by omega]⟩
theorem KH(Ps:List AP)(x:Chg1):x∈Az Ps↔∃i q,q∈recs Ps i/\x=rowP i q:=by
 rw[Az,U9];simp only[Nat.zero_add]
theorem rowP_inj{i j:Nat}{p q:Nat×List UInt8}(h:rowP i p=rowP j q):i=j/\p=q:=by
 obtain⟨a,b⟩:=p
 obtain⟨c,d⟩:=q
 simp only[rowP,Chg1.mk.injEq]at h
 obtain⟨h1,h2,h3,_⟩:=h
 have h4:b=d:=by
  have:=congrArg (fun s:ByteArray=>s.data.toList) h3
  exact this
 exact⟨by omega,by rw[h4,show a=c by omega]⟩
theorem Qq(Ps:List AP)(n:Nat)(q:Nat×List UInt8):rowP n q∈Az Ps↔q∈recs Ps n:=by
 rw[KH]
 constructor
 ·rintro⟨i,p,hp,e⟩
  obtain⟨rfl,rfl⟩:=rowP_inj e
  exact hp
 ·exact fun h=>⟨n,q,h,rfl⟩
structure Rel(Ps:List AP)(now:List Chg1)(o:Ord)(la:Last):Prop where
 mem:∀x,x∈now↔(∃c,gget la (x.page,x.slot)=some c/\c.gone=false/\x=c)\/(gget la (x.page,x.slot)=none/\x∈Az Ps)
 srt:now.Pairwise BO
 keys:o=la.map (·.1)
 nd:o.Nodup
 good:∀p∈la,¬badC p.2/\(p.2.page,p.2.slot)=p.1
theorem GM(c:Chg1):¬badC c->0<=c.page/\c.page<4096/\0<=c.slot/\c.slot<120/\(c.gone=false->c.s.size<=3600):=fun h=>by
 unfold badC at h
 exact⟨Int.not_lt.1 fun e=>h (.inl e),Int.not_le.1 fun e=>h (.inr (.inl e)),Int.not_lt.1 fun e=>h (.inr (.inr (.inl e))),Int.not_le.1 fun e=>h (.inr (.inr (.inr (.inl e)))),fun hg=>Nat.not_lt.1 fun e=>h (.inr (.inr (.inr (.inr ⟨hg,e⟩))))⟩
theorem there_iff{l:List Chg1}{c:Chg1}:Hg l c=true↔∃x∈l,(x.page,x.slot)=(c.page,c.slot):=by
 rw[Hg,List.any_eq_true]
 exact⟨fun⟨x,h1,h2⟩=>⟨x,h1,QG.1 h2⟩,fun⟨x,h1,h2⟩=>⟨x,h1,QG.2 h2⟩⟩
theorem Rel.there{Ps:List AP}{now:List Chg1}{o:Ord}{la:Last}(h:Rel Ps now o la){c:Chg1}(hc:¬badC c):Hg now c=match gget la (c.page,c.slot)with
  |some was=> !was.gone
  |none=>FX Ps c:=by
 obtain⟨b1,b2,b3,b4,_⟩:=GM c hc
 rw[Bool.eq_iff_iff,there_iff]
 cases hg:gget la (c.page,c.slot)with
 |some was=>
  have hw:=h.good _ (Gq hg)
  dsimp only at hw⊢
  constructor
  ·rintro⟨x,hx,hk⟩
   rcases(h.mem x).1 hx with⟨c',h1,h2,_⟩|⟨h1,_⟩
   ·rw[hk,hg]at h1
    cases h1
    simp[h2]
   ·rw[hk,hg]at h1;cases h1
  ·intro hf
   have hf:was.gone=false:=by simpa using hf
   exact⟨was,(h.mem was).2 (.inl ⟨was,by rw[hw.2];exact hg,hf,rfl⟩),hw.2⟩
 |none=>
  dsimp only
  rw[Lc]
  constructor
  ·rintro⟨x,hx,hk⟩
   rcases(h.mem x).1 hx with⟨c',h1,_⟩|⟨_,h2⟩
   ·rw[hk,hg]at h1;cases h1
   ·obtain⟨i,q,hq,rfl⟩:=(KH Ps x).1 h2
    have e1:(i:Int)=c.page:=congrArg Prod.fst hk
    have e2:(q.1:Int)=c.slot:=congrArg Prod.snd hk
    rw[<- e1,Int.toNat_natCast,<- e2]
    rcases Sl.J9 (L:=recs Ps i) (q.1:Int)with⟨_,h4⟩|⟨K,s,_,_,h5⟩
    ·exact absurd rfl (h4 q hq)
    ·rw[h5];rfl
  ·intro hs
   rcases Sl.J9 (L:=recs Ps c.page.toNat) c.slot with⟨h3,_⟩|⟨K,s,h3,h4,_⟩
   ·rw[h3]at hs;cases hs
   ·have hk:((rowP c.page.toNat (K,s)).page,(rowP c.page.toNat (K,s)).slot)=(c.page,c.slot):=by
     show(((c.page.toNat:Nat):Int),(K:Int))=_
     rw[h3,show((c.page.toNat:Nat):Int)=c.page by omega]
    exact⟨rowP c.page.toNat (K,s),(h.mem _).2 (.inr ⟨by rw[hk];exact hg,(Qq Ps _ _).2 h4⟩),hk⟩
theorem Rel.step{Ps:List AP}{now:List Chg1}{o:Ord}{la:Last}(h:Rel Ps now o la){c:Chg1}(hc:¬badC c):
  Rel Ps (chgF now c) (match gget la (c.page,c.slot)with|some _=>o|none=>o++[(c.page,c.slot)]) (gput la (c.page,c.slot) c):=by
 refine⟨fun x=>?_,chg_srt h.srt c,?_,?_,fun p hp=>?_⟩
 ·rw[chg_mem_iff,D5]
  by_cases hk:(x.page,x.slot)=(c.page,c.slot)
  ·rw[if_pos hk,QG.2 hk]
   constructor
   ·rintro(⟨h1,h2⟩|⟨_,h2⟩)
    ·exact .inl ⟨c,rfl,h1,h2⟩
    ·cases h2
   ·rintro(⟨c',h1,h2,h3⟩|⟨h1,_⟩)
    ·cases h1;exact .inl ⟨h2,h3⟩
    ·cases h1
  ·rw[if_neg hk,key_false.2 hk,h.mem x]
   constructor
   ·rintro(⟨_,h2⟩|⟨h1,_⟩)
    ·exact absurd (by rw[h2]) hk
    ·exact h1
   ·exact fun h1=>.inr ⟨h1,rfl⟩
 ·cases hg:gget la (c.page,c.slot)with
  |some was=>rw[UJ (by rw[hg];simp)];exact h.keys
  |none=>rw[QW hg,map_append,<- h.keys];rfl
 ·have:=Lh (k:=(c.page,c.slot)) (v:=c) (l:=la) (by rw[<- h.keys];exact h.nd)
  cases hg:gget la (c.page,c.slot)with
  |some was=>
   exact h.nd
  |none=>
   rw[QW hg,map_append,<- h.keys]at this
   exact this
 ·rcases KI hp with rfl|hp
  ·exact⟨hc,rfl⟩
  ·exact h.good p hp
theorem Oc{Ps:List AP}:∀(l now:List Chg1)(o:Ord)(la:Last),Rel Ps now o la->(BU Ps l o la=none->rcF now l=none)/\∀z,BU Ps l o la=some z->∃now',rcF now l=some now'/\Rel Ps now' z.1 z.2
 | [],now,o,la,h=>⟨fun e=>(by rw[BU]at e;cases e),fun z e=>(by rw[BU]at e;cases e;exact⟨now,rfl,h⟩)⟩
 |c::r,now,o,la,h=>by
  rw[BU]
  by_cases hb:badC c
  ·have hbr:badR now c:=by
    unfold badC at hb
    unfold badR
    rcases hb with h|h|h|h|h
    ·exact .inl h
    ·exact .inr (.inl h)
    ·exact .inr (.inr (.inl h))
    ·exact .inr (.inr (.inr (.inl h)))
    ·exact .inr (.inr (.inr (.inr (.inr h))))
   rw[if_pos hb]
   exact⟨fun _=>QL hbr,fun z e=>by cases e⟩
  ·obtain⟨b1,b2,b3,b4,b5⟩:=GM c hb
   have hth:=h.there hb
   have hst:=h.step hb
   have hbr:badR now c↔(c.gone=true/\Hg now c=false):=by
    unfold badR
    constructor
    ·rintro(h|h|h|h|h|⟨h1,h2⟩)
     ·omega
     ·omega
     ·omega
     ·omega
     ·exact h
     ·have:=b5 h1;omega
    ·exact fun h=>.inr (.inr (.inr (.inr (.inl h))))
   rw[if_neg hb]
   cases hg:gget la (c.page,c.slot)with
   |some was=>
    rw[hg]at hth hst
    dsimp only at hth hst⊢
    by_cases hgg:c.gone=true/\was.gone=true
    ·rw[if_pos hgg]
     exact⟨fun _=>QL (hbr.2 ⟨hgg.1,by rw[hth,hgg.2];rfl⟩),fun z e=>by cases e⟩
    ·rw[if_neg hgg,YK (fun e=>by
      obtain⟨e1,e2⟩:=hbr.1 e
      rw[hth]at e2
      exact hgg ⟨e1,by simpa using e2⟩)]
     exact Oc r _ _ _ hst
   |none=>
    rw[hg]at hth hst
    dsimp only at hth hst⊢
    by_cases hgg:c.gone=true/\FX Ps c=false
    ·rw[if_pos hgg]
     exact⟨fun _=>QL (hbr.2 ⟨hgg.1,by rw[hth,hgg.2]⟩),fun z e=>by cases e⟩
    ·rw[if_neg hgg,YK (fun e=>by
      obtain⟨e1,e2⟩:=hbr.1 e
      rw[hth]at e2
      exact hgg ⟨e1,e2⟩)]
     exact Oc r _ _ _ hst
def recM(Ps:List AP)(M:TM)(n:Int):Sl.Recs:=match gget M n with
 |some P=>P.1
 |none=>recs Ps n.toNat
theorem XO(Ps:List AP)(M:TM)(p:Int)(P:AP)(n:Int):recM Ps (gput M p P) n=if n=p then P.1 else recM Ps M n:=by
 rw[recM,D5]
 by_cases h:n=p
 ·rw[if_pos h,if_pos h]
 ·rw[if_neg h,if_neg h];rfl
def Jk:Ord->(Int->Sl.Recs)->Int->Sl.Recs
 | [],F=>F
 |(p,s)::r,F=>Jk r fun n=>if n=p then Sl.wo (F n) s.toNat else F n
theorem adel_wo(L:Sl.Recs){s:Int}(hs:0<=s):(Sl.adel L s).1=Sl.wo L s.toNat:=by
 unfold Sl.adel
 rcases Sl.J9 (L:=L) s with⟨h1,h2⟩|⟨K,t,_,_,h3⟩
 ·rw[h1,if_neg (by simp)]
  exact(Sl.KP fun t ht=>h2 _ ht (by simp only;omega)).symm
 ·rw[h3];rfl
theorem Ym{Ps:List AP}:∀(o:Ord)(M:TM),(∀q∈o,0<=q.2)->recM Ps (delF Ps o M)=Jk o (recM Ps M)
 | [],M,_=>rfl
 |(p,s)::r,M,h=>by
  rw[delF,Jk,Ym r _ fun q hq=>h q (.tail _ hq)]
  congr 1
  funext n
  rw[XO]
  have hP:((gget M p).getD (CO Ps p)).1=recM Ps M p:=by
   rw[recM]
   cases gget M p with
   |none=>rfl
   |some P=>rfl
  split
  ·rename_i e
   subst e
   rw[<- hP]
   exact adel_wo _ (h (n,s) (.head _))
  ·rfl
theorem Vh{Ps:List AP}:∀(o:Ord)(M:TM)(n:Int),((∃q∈o,q.1=n)\/gget M n≠none)->gget (delF Ps o M) n≠none
 | [],M,n,h=>h.elim (fun⟨q,hq,_⟩=>by cases hq) id
 |(p,s)::r,M,n,h=>by
  rw[delF]
  refine Vh r _ n ?_
  rcases h with⟨q,hq,rfl⟩|h
  ·rcases mem_cons.1 hq with rfl|hq
   ·right;rw[D5,if_pos rfl];simp
   ·exact .inl ⟨q,hq,rfl⟩
  ·right
   rw[D5]
   split
   ·simp
   ·exact h
theorem LK:∀(o:Ord)(F:Int->Sl.Recs)(n:Int)(q:Nat×List UInt8),(∀z∈o,0<=z.2)->(q∈Jk o F n↔q∈F n/\(n,(q.1:Int))∉o)
 | [],F,n,q,_=>by simp[Jk]
 |(p,s)::r,F,n,q,h=>by
  have h0:0<=s:=h (p,s) (.head _)
  rw[Jk,LK r _ n q fun z hz=>h z (.tail _ hz)]
  by_cases hn:n=p
  ·subst hn
   rw[if_pos rfl,Sl.Zr,mem_cons,Prod.mk.injEq]
   constructor
   ·rintro⟨⟨h1,h2⟩,h3⟩
    exact⟨h1,fun h4=>h4.elim (fun h5=>h2 (by omega)) h3⟩
   ·rintro⟨h1,h2⟩
    exact⟨⟨h1,fun h3=>h2 (.inl ⟨rfl,by omega⟩)⟩,fun h3=>h2 (.inr h3)⟩
  ·rw[if_neg hn,mem_cons,Prod.mk.injEq]
   constructor
   ·rintro⟨h1,h2⟩
    exact⟨h1,fun h3=>h3.elim (fun h4=>hn h4.1) h2⟩
   ·rintro⟨h1,h2⟩
    exact⟨h1,fun h3=>h2 (.inr h3)⟩
theorem RS:∀(o:Ord)(F:Int->Sl.Recs),(∀n,(F n).Pairwise fun a b=>a.1<b.1)->∀n,(Jk o F n).Pairwise fun a b=>a.1<b.1
 | [],F,h=>h
 |(p,s)::r,F,h=>RS r _ fun n=>by
  split
  ·exact(h n).filter _
  ·exact h n
def GN(la:Last):Ord->(Int->Sl.Recs)->Int->Sl.Recs
 | [],F=>F
 |(p,s)::r,F=>GN la r (match gget la (p,s)with
  |some c=>if c.gone=true then F else fun n=>if n=p then Sl.insR (s.toNat,c.s.data.toList) (F n)else F n
  |none=>F)
theorem Xf(la:Last):∀(o:Ord)(F:Int->Sl.Recs)(n:Int),Sl.tot (F n)<=Sl.tot (GN la o F n)
 | [],F,n=>Nat.le_refl _
 |(p,s)::r,F,n=>by
  rw[GN]
  refine Nat.le_trans ?_ (Xf la r _ n)
  cases gget la (p,s)with
  |none=>exact Nat.le_refl _
  |some c=>
   dsimp only
   split
   ·exact Nat.le_refl _
   ·dsimp only
    split
    ·rw[Sl.Ik (Sl.Gl _ _),Sl.DV];omega
    ·exact Nat.le_refl _
structure Free(la:Last)(o:Ord)(F:Int->Sl.Recs):Prop where
 nd:o.Nodup
 good:∀q∈o,∃c,gget la q=some c/\¬badC c/\(c.page,c.slot)=q
 free:∀q∈o,∀b,(q.2.toNat,b)∉F q.1
theorem Free.next{la:Last}{p s:Int}{r:Ord}{F:Int->Sl.Recs}(h:Free la ((p,s)::r) F){c:Chg1}(hc:gget la (p,s)=some c):Free la r (if c.gone=true then F else fun n=>if n=p then Sl.insR (s.toNat,c.s.data.toList) (F n)else F n):=by
 have hn:=nodup_cons.1 h.nd
 have key:∀q∈(p,s)::r,0<=q.2:=fun q hq=>by
  obtain⟨c,_,hb,he⟩:=h.good q hq
  have:=(GM c hb).2.2.1
  rw[<- he];exact this
 refine⟨hn.2,fun q hq=>h.good q (.tail _ hq),fun q hq b=>?_⟩
 split
 ·exact h.free q (.tail _ hq) b
 ·dsimp only
  split
  ·rename_i e
   rw[Sl.FZ]
   rintro(h1|h1)
   ·have h2:q.2.toNat=s.toNat:=congrArg Prod.fst h1
    have k1:=key q (.tail _ hq)
    have k2:0<=s:=key (p,s) (.head _)
    have:q=(p,s):=Prod.ext e (by show q.2=s;omega)
    rw[this]at hq
    exact hn.1 hq
   ·exact h.free q (.tail _ hq) b h1
  ·exact h.free q (.tail _ hq) b
theorem Zd(la:Last):∀(o:Ord)(F:Int->Sl.Recs),Free la o F->(∀n,(F n).Pairwise fun a b=>a.1<b.1)->∀n,(GN la o F n).Pairwise fun a b=>a.1<b.1
 | [],F,_,h=>h
 |(p,s)::r,F,hf,h=>by
  obtain⟨c,hc,_⟩:=hf.good (p,s) (.head _)
  have hn:=hf.next hc
  rw[GN,hc]
  refine Zd la r _ hn fun n=>?_
  dsimp only
  split
  ·exact h n
  ·dsimp only
   split
   ·rename_i e
    refine Sl.IC _ _ (h n) fun q hq e2=>?_
    obtain⟨q1,q2⟩:=q
    have e2:q1=s.toNat:=e2
    subst e2
    rw[e]at hq
    exact hf.free (p,s) (.head _) q2 hq
   ·exact h n
theorem ZO(la:Last):∀(o:Ord)(F:Int->Sl.Recs)(n:Int)(q:Nat×List UInt8),q∈GN la o F n↔q∈F n\/∃s c,(n,s)∈o/\gget la (n,s)=some c/\c.gone=false/\q=(s.toNat,c.s.data.toList)
 | [],F,n,q=>by simp[GN]
 |(p,s)::r,F,n,q=>by
  rw[GN,ZO la r _ n q]
  have hh:q∈(match gget la (p,s)with
    |some c=>if c.gone=true then F else fun n=>if n=p then Sl.insR (s.toNat,c.s.data.toList) (F n)else F n
    |none=>F) n↔q∈F n\/(n=p/\∃c,gget la (p,s)=some c/\c.gone=false/\q=(s.toNat,c.s.data.toList)):=by
   cases hg:gget la (p,s)with
   |none=>exact⟨.inl,fun h=>h.elim id fun⟨_,c,h1,_⟩=>by cases h1⟩
   |some c=>
    dsimp only
    split
    ·rename_i e
     exact⟨.inl,fun h=>h.elim id fun⟨_,c',h1,h2,_⟩=>by cases h1;rw[e]at h2;cases h2⟩
    ·rename_i e
     have e:c.gone=false:=by simpa using e
     dsimp only
     by_cases hn:n=p
     ·rw[if_pos hn,Sl.FZ]
      exact⟨fun h=>h.elim (fun h1=>.inr ⟨hn,c,rfl,e,h1⟩) .inl,fun h=>h.elim .inr fun⟨_,c',h1,_,h3⟩=>by cases h1;exact .inl h3⟩
     ·rw[if_neg hn]
      exact⟨.inl,fun h=>h.elim id fun h1=>absurd h1.1 hn⟩
  rw[hh]
  constructor
  ·rintro((h|⟨rfl,c,h1,h2,h3⟩)|⟨t,c,h1,h2⟩)
   ·exact .inl h
   ·exact .inr ⟨s,c,.head _,h1,h2,h3⟩
   ·exact .inr ⟨t,c,.tail _ h1,h2⟩
  ·rintro(h|⟨t,c,h1,h2,h3,h4⟩)
   ·exact .inl (.inl h)
   ·rcases mem_cons.1 h1 with h5|h5
    ·have e1:n=p:=congrArg Prod.fst h5
     have e2:t=s:=congrArg Prod.snd h5
     subst e1 e2
     exact .inl (.inr ⟨rfl,c,h2,h3,h4⟩)
    ·exact .inr ⟨t,c,h5,h2,h3,h4⟩
theorem VS{Ps:List AP}(la:Last):∀(o:Ord)(M:TM)(F:Int->Sl.Recs),recM Ps M=F->(∀q∈o,gget M q.1≠none)->Free la o F->
  (∀M',putF o la M=some M'->recM Ps M'=GN la o F)/\(putF o la M=none->∃q∈o,3600<Sl.tot (GN la o F q.1))
 | [],M,F,hF,_,_=>⟨fun M' e=>by rw[putF]at e;cases e;exact hF,fun e=>by rw[putF]at e;cases e⟩
 |(p,s)::r,M,F,hF,hM,hf=>by
  obtain⟨c,hc,hb,hk⟩:=hf.good (p,s) (.head _)
  obtain⟨b1,b2,b3,b4,b5⟩:=GM c hb
  have hs:c.slot=s:=congrArg Prod.snd hk
  rw[hs]at b3 b4
  have hn:=hf.next hc
  have hMp:=hM (p,s) (.head _)
  cases hP:gget M p with
  |none=>exact absurd hP hMp
  |some P=>
   have hFp:F p=P.1:=by rw[<- hF,recM,hP]
   rw[putF,hc,hP,GN,hc]
   dsimp only
   by_cases hg:c.gone=true
   ·rw[if_pos hg]at hn⊢
    rw[if_pos hg]
    obtain⟨i1,i2⟩:=VS la r M F hF (fun q hq=>hM q (.tail _ hq)) hn
    exact⟨i1,fun e=>by obtain⟨q,hq,h⟩:=i2 e;exact⟨q,.tail _ hq,h⟩⟩
   ·rw[if_neg hg]at hn⊢
    rw[if_neg hg]
    have hwo:Sl.wo P.1 s.toNat=P.1:=Sl.KP fun t ht=>hf.free (p,s) (.head _) t (by rw[hFp];exact ht)
    have hap:Sl.aput P.1 s c.s.data.toList=if 3600<Sl.tot P.1+c.s.data.toList.length then(P.1,111)else(Sl.insR (s.toNat,c.s.data.toList) P.1,0):=by
     rw[Sl.aput,if_neg (by omega),hwo]
    by_cases ht:3600<Sl.tot P.1+c.s.data.toList.length
    ·rw[if_pos ht]at hap
     rw[hap,if_neg (show¬((111:Int)=0) by decide)]
     refine⟨fun M' e=>(by cases e),fun _=>⟨(p,s),.head _,Nat.lt_of_lt_of_le ?_ (Xf la r _ p)⟩⟩
     rw[if_pos rfl,Sl.Ik (Sl.Gl _ _),Sl.DV,hFp]
     dsimp only
     omega
    ·rw[if_neg ht]at hap
     rw[hap,if_pos rfl]
     obtain⟨i1,i2⟩:=VS la r (gput M p (Sl.insR (s.toNat,c.s.data.toList) P.1,P.2)) _ (by
      funext n
      rw[XO,<- hF]
      by_cases e:n=p
      ·rw[if_pos e,if_pos e,e]
       rw[<- hF]at hFp
       rw[hFp]
      ·rw[if_neg e,if_neg e]) (fun q hq=>by
       rw[D5]
       split
       ·simp
       ·exact hM q (.tail _ hq)) hn
     exact⟨i1,fun e=>by obtain⟨q,hq,h⟩:=i2 e;exact⟨q,.tail _ hq,h⟩⟩
theorem XR(p:Int):∀(n:Nat)(l:List Chg1),l.length=n->JZ l p=3600-(((l.filter fun d=>decide (d.page=p)).map fun d=>d.s.size).sum:Nat)
 |0,l,hl=>by rw[List.eq_nil_of_length_eq_zero hl];rfl
 |n+1,l,hl=>by
  rcases List.eq_nil_or_concat l with rfl|⟨r,d,rfl⟩
  ·cases hl
  rw[List.concat_eq_append]at*
  have ih:=XR p n r (by simpa using hl)
  rw[OL,ih,List.filter_append,map_append,sum_append]
  by_cases h:d.page=p
  ·rw[if_pos h,List.filter_cons_of_pos (by simpa using h)]
   simp only[List.filter_nil,map_cons,List.map_nil,sum_cons,List.sum_nil]
   omega
  ·rw[if_neg h,List.filter_cons_of_neg (by simpa using h)]
   simp
def aZ(x:Chg1):Nat×List UInt8:=(x.slot.toNat,x.s.data.toList)
theorem Ha(n:Nat)(q:Nat×List UInt8):aZ (rowP n q)=q:=by
 obtain⟨a,b⟩:=q
 show(((a:Nat):Int).toNat,b)=_
 rw[Int.toNat_natCast]
theorem tot_map(l:List Chg1):Sl.tot (l.map aZ)=(l.map fun d=>d.s.size).sum:=by
 rw[Sl.tot,map_map]
 congr 1
structure Nice(Ps:List AP):Prop where
 rep:∀P∈Ps,∃g,Sl.Rep g P.1 P.2
theorem Nice.at{Ps:List AP}(h:Nice Ps)(n:Nat):((recs Ps n).Pairwise fun a b=>a.1<b.1)/\Sl.tot (recs Ps n)<=3600:=by
 rw[recs]
 cases e:Ps[n]? with
 |none=>exact⟨.nil,by show 0<=3600;omega⟩
 |some P=>
  obtain⟨g,hg⟩:=h.rep P (mem_of_getElem? e)
  exact⟨hg.sorted,hg.small⟩
theorem Nice.srt{Ps:List AP}(h:Nice Ps):(Az Ps).Pairwise BO:=(Uf Ps 0 fun P hP=>by
 obtain⟨g,hg⟩:=h.rep P hP
 exact hg.sorted).1
theorem TL{Ps:List AP}(hN:Nice Ps)(l:List Chg1):
  (CU Ps l=none->BV (Az Ps) l=(Az Ps,false))/\
  ∀M st L,CU Ps l=some M->Nice (layP st (BJ Ps L) M)->BV (Az Ps) l=(Az (layP st (BJ Ps L) M),true):=by
 have hR0:Rel Ps (Az Ps) [] []:=⟨fun x=>⟨fun h=>.inr ⟨rfl,h⟩,fun h=>h.elim (fun⟨c,h1,_⟩=>by cases h1) fun h=>h.2⟩,hN.srt,rfl,.nil,by simp⟩
 obtain⟨hf1,hf2⟩:=Oc l (Az Ps) [] [] hR0
 unfold CU
 cases hz:BU Ps l [] []with
 |none=>
  refine⟨fun _=>?_,fun M st L e=>by cases e⟩
  rw[BV,hf1 hz]
 |some z=>
  obtain⟨o,la⟩:=z
  obtain⟨now,hnow,hR⟩:=hf2 _ hz
  have hpg:=GK Ps l [] [] hz
  dsimp only at hR hpg⊢
  have hgood:∀q∈o,∃c,gget la q=some c/\¬badC c/\(c.page,c.slot)=q:=fun q hq=>by
   rw[hR.keys]at hq
   obtain⟨p,hp,rfl⟩:=mem_map.1 hq
   have:=hR.good p hp
   exact⟨p.2,QK (by rw[<- hR.keys];exact hR.nd) hp,this.1,this.2⟩
  have hpos:∀q∈o,0<=q.2:=fun q hq=>by
   obtain⟨c,_,hb,he⟩:=hgood q hq
   rw[<- he];exact(GM c hb).2.2.1
  obtain⟨F0,hF0⟩:∃F0,F0=Jk o fun n=>recs Ps n.toNat:=⟨_,rfl⟩
  have hdel:recM Ps (delF Ps o [])=F0:=by rw[hF0,Ym o [] hpos];rfl
  have hfree:Free la o F0:=⟨hR.nd,hgood,fun q hq b hb=>by
   rw[hF0,LK o _ _ _ hpos]at hb
   refine hb.2 ?_
   have:=hpos q hq
   have e:(q.1,((q.2.toNat:Nat):Int))=q:=Prod.ext rfl (by show((q.2.toNat:Nat):Int)=q.2;omega)
   rw[e];exact hq⟩
  obtain⟨hp1,hp2⟩:=VS (Ps:=Ps) la o (delF Ps o []) F0 hdel (fun q hq=>Vh o [] q.1 (.inl ⟨q,hq,rfl⟩)) hfree
  obtain⟨F,hF⟩:∃F,F=GN la o F0:=⟨_,rfl⟩
  rw[<- hF]at hp1 hp2
  have hFs:∀n,(F n).Pairwise fun a b=>a.1<b.1:=by
   rw[hF]
   exact Zd la o F0 hfree (by rw[hF0];exact RS o _ fun n=>(hN.at _).1)
  have hkey:∀k,gget la k=none↔k∉o:=fun k=>by
   rw[OM,hR.keys]
   constructor
   ·intro h hm
    obtain⟨p,hp,e⟩:=mem_map.1 hm
    exact h p hp e
   ·intro h p hp e
    exact h (mem_map.2 ⟨p,hp,e⟩)
  have hmem:∀(n:Nat)(q:Nat×List UInt8),q∈F (n:Int)↔rowP n q∈now:=fun n q=>by
   rw[hF,ZO,hF0,LK o _ _ _ hpos,hR.mem,Int.toNat_natCast,Qq]
   have hk:((rowP n q).page,(rowP n q).slot)=((n:Int),(q.1:Int)):=rfl
   rw[hk,hkey]
   constructor
   ·rintro(⟨h1,h2⟩|⟨s,c,h1,h2,h3,rfl⟩)
    ·exact .inr ⟨h2,h1⟩
    ·obtain⟨c',h4,hb,he⟩:=hgood _ h1
     rw[h2]at h4
     cases h4
     have e1:c.page=(n:Int):=congrArg Prod.fst he
     have e2:c.slot=s:=congrArg Prod.snd he
     have hs:=hpos _ h1
     dsimp only at hs
     have e3:(((s.toNat:Nat)):Int)=s:=by omega
     refine .inl ⟨c,by dsimp only;rw[e3];exact h2,h3,?_⟩
     obtain⟨cp,cs,ct,cg⟩:=c
     dsimp only at e1 e2 h3
     subst e1 e2 h3
     show Chg1.mk (n:Int) ((cs.toNat:Nat):Int) ct false=_
     rw[e3]
   ·rintro(⟨c,h1,h2,h3⟩|⟨h1,h2⟩)
    ·right
     have h4:((n:Int),(q.1:Int))∈o:=Classical.byContradiction fun h=>by rw[(hkey _).2 h]at h1;cases h1
     refine⟨(q.1:Int),c,h4,h1,h2,?_⟩
     rw[<- h3]
     exact(Ha n q).symm
    ·exact .inl ⟨h2,h1⟩
  have hall:∀x∈now,∃(n:Nat)(q:Nat×List UInt8),x=rowP n q:=fun x hx=>by
   rcases(hR.mem x).1 hx with⟨c,h1,h2,rfl⟩|⟨_,h2⟩
   ·have hg:=hR.good _ (Gq h1)
    obtain⟨b1,_,b3,_,_⟩:=GM x hg.1
    obtain⟨xp,xs,xt,xg⟩:=x
    dsimp only at b1 b3 h2
    subst h2
    refine⟨xp.toNat,(xs.toNat,xt.data.toList),?_⟩
    show _=Chg1.mk ((xp.toNat:Nat):Int) ((xs.toNat:Nat):Int) xt false
    rw[show((xp.toNat:Nat):Int)=xp by omega,show((xs.toNat:Nat):Int)=xs by omega]
   ·obtain⟨i,q,_,rfl⟩:=(KH Ps x).1 h2
    exact⟨i,q,rfl⟩
  have hroom:∀n:Nat,JZ now (n:Int)=3600-(Sl.tot (F (n:Int)):Int):=fun n=>by
   rw[XR (n:Int) _ now rfl,<- tot_map]
   congr 2
   congr 1
   refine recs_ext (pairwise_map.2 ?_) (hFs _) fun q=>?_
   ·refine(List.Pairwise.and_mem.1 (hR.srt.filter _)).imp fun{a b} h=>?_
    obtain⟨ha,hb,hab⟩:=h
    obtain⟨ha1,ha2⟩:=mem_filter.1 ha
    obtain⟨hb1,hb2⟩:=mem_filter.1 hb
    obtain⟨i,p,rfl⟩:=hall a ha1
    obtain⟨j,q,rfl⟩:=hall b hb1
    have ha2:(i:Int)=n:=of_decide_eq_true ha2
    have hb2:(j:Int)=n:=of_decide_eq_true hb2
    rw[Ha,Ha]
    unfold BO at hab
    have hp:(rowP i p).page=(rowP j q).page:=by show(i:Int)=j;omega
    rw[if_neg (fun h=>h hp)]at hab
    have hab:(p.1:Int)<q.1:=hab
    omega
   ·rw[hmem,mem_map]
    constructor
    ·rintro⟨x,hx,rfl⟩
     obtain⟨h1,h2⟩:=mem_filter.1 hx
     obtain⟨i,p,rfl⟩:=hall x h1
     have h2:(i:Int)=n:=of_decide_eq_true h2
     have:i=n:=by omega
     subst this
     rw[Ha];exact h1
    ·exact fun h=>⟨rowP n q,mem_filter.2 ⟨h,by simp[rowP]⟩,Ha n q⟩
  constructor
  ·intro hnone
   obtain⟨q,hq,htot⟩:=hp2 hnone
   obtain⟨c0,_,hb0,he0⟩:=hgood q hq
   obtain⟨b1,_⟩:=GM c0 hb0
   have e0:c0.page=q.1:=congrArg Prod.fst he0
   rcases hpg q hq with h|⟨c,hc,hcq⟩
   ·cases h
   rw[BV,hnow]
   dsimp only
   rw[if_neg]
   intro h
   have:=all_eq_true.1 h c hc
   simp only[decide_eq_true_eq]at this
   have hr:=hroom q.1.toNat
   rw[show((q.1.toNat:Nat):Int)=q.1 by omega]at hr
   rw[hcq,hr]at this
   omega
  ·intro M st L hM hN'
   have hrec:=hp1 M hM
   have hMok:M.Ok:=G5 (Ps:=Ps) (l:=l) (by unfold CU;rw[hz];exact hM)
   have hrecs:∀n:Nat,recs (layP st (BJ Ps L) M) n=F (n:Int):=fun n=>by
    rw[Jg M _ (fun e he=>(hMok.key e he).1) hMok.nodup,<- hrec,recM]
    cases gget M (n:Int)with
    |some P=>rfl
    |none=>
     have:=F6 L Ps (n:Int)
     rw[CO,CO,Int.toNat_natCast]at this
     show recs (BJ Ps L) n=recs Ps _
     rw[recs,this,Int.toNat_natCast];rfl
   have hrows:now=Az (layP st (BJ Ps L) M):=sort_ext hR.srt hN'.srt fun x=>by
    constructor
    ·intro hx
     obtain⟨n,q,rfl⟩:=hall x hx
     rw[Qq,hrecs,hmem];exact hx
    ·intro hx
     obtain⟨n,q,hq,rfl⟩:=(KH _ x).1 hx
     rw[hrecs,hmem]at hq
     exact hq
   rw[BV,hnow]
   dsimp only
   rw[if_pos,hrows]
   refine all_eq_true.2 fun c hc=>?_
   simp only[decide_eq_true_eq]
   have hb:=Hr (Ps:=Ps) (l:=l) (M:=M) (by unfold CU;rw[hz];exact hM) c hc
   have h0:=(GM c hb).1
   have hr:=hroom c.page.toNat
   rw[show((c.page.toNat:Nat):Int)=c.page by omega]at hr
   have ht:=(hN'.at c.page.toNat).2
   rw[hrecs,show((c.page.toNat:Nat):Int)=c.page by omega]at ht
   omega
structure LgK(l l':Lg):Prop where
 b:l'.b=l.b
 all:l'.all=l.all
 name:l'.name=l.name
theorem LgK.refl(l:Lg):LgK l l:=⟨rfl,rfl,rfl⟩
theorem LgK.trans{a b c:Lg}(h:LgK a b)(h':LgK b c):LgK a c:=⟨h'.b.trans h.b,h'.all.trans h.all,h'.name.trans h.name⟩
theorem UI(d:Dk)(l:Lg):LgK l (Ak d l).2.1:=by
 obtain⟨h1,h2,h3,_⟩:=KZ d l
 exact⟨h1,h2,h3⟩
theorem KO(s:St)(f:Fr)(bs:List UInt8):LgK s.lg (s.wrote f bs).lg:=by
 show LgK s.lg (Bg s f.pg.2).2.1
 unfold Bg
 split
 ·exact .refl _
 ·exact UI s.d s.lg
theorem JX.lgk{s s1:St}{n:Nat}{P:AP}(h:JX s s1 n P):LgK s.lg s1.lg:=by
 rcases h with⟨j,f,_,_,_,_,rfl⟩|⟨s0,k,_,⟨_,_,F,rfl⟩|⟨_,fs1,h1,f,_,_,_,_,⟨_,rfl⟩|⟨_,g,_,_,rfl⟩⟩,_,rfl⟩
 ·exact .refl _
 ·exact .refl _
 ·exact .refl _
 ·exact KO {s with fs:=fs1,hand:=h1} f g.bs
theorem IE.lgk{s s1:St}{n:Nat}{c:Int}(h:IE s s1 n c):LgK s.lg s1.lg:=by
 rcases h with⟨_,rfl,_⟩|⟨_,_,_,fs1,h1,_,_,⟨_,_,rfl⟩|⟨k,f,g,_,_,_,_,_,rfl⟩⟩
 ·exact .refl _
 ·exact .refl _
 ·exact KO {s with fs:=fs1,hand:=h1} f g.bs
theorem Ja.lgk{Ps:List AP}{L:List Int}{s s1:St}{c:Int}(h:Ja Ps L s s1 c):LgK s.lg s1.lg:=by
 induction h with
 |nil s=>exact .refl _
 |ok n L s s1 s' c h1 _ ih=>exact h1.lgk.trans ih
 |bad n L s s1 c _ h1=>exact h1.lgk
theorem E5.lgk{L:List Int}{s s1:St}{c:Int}(h:E5 L s s1 c):LgK s.lg s1.lg:=by
 induction h with
 |nil s=>exact .refl _
 |ok z l s s' c j f g _ _ _ _ _ _ ih=>exact(KO s f g.bs).trans ih
 |bad z l s j f g _ _ _ _ _=>exact KO s f g.bs
theorem Hm.lgk{s s1:St}{c:Int}(h:Hm s s1 c):LgK s.lg s1.lg:=by
 rcases h with⟨_,_,rfl⟩|⟨_,s2,c2,hW,⟨_,_,rfl⟩|⟨_,_,rfl⟩⟩
 ·exact .refl _
 ·exact hW.lgk
 ·exact hW.lgk
theorem UY(d:Dk)(l:Lg)(wt:Int):LgK l (BK d l wt).2.1:=by
 unfold BK
 split
 ·exact .refl _
 ·exact UI d l
theorem MI.lgk{s s':St}{Ps:List AP}{T T':Tou}{wt wt' code:Int}(h:MI s Ps T wt s' T' wt' code):(LgK s.lg s'.lg/\T'=T)\/(s'.lg.name=s.lg.name/\s'.lg.b=[]/\s'.lg.all=[]/\T'=T0)\/(LgK s.lg s'.lg/\T'=T0):=by
 have hs:=UY s.d s.lg wt
 obtain⟨_,⟨_,_,rfl,rfl⟩|⟨_,L,s2,c2,_,_,hS,⟨_,_,rfl,rfl⟩|⟨_,s3,c3,hF,⟨_,_,rfl,rfl⟩|⟨_,⟨_,_,rfl,rfl⟩|⟨_,_,rfl,rfl⟩⟩⟩⟩⟩:=h
 ·exact .inl ⟨hs,rfl⟩
 ·exact .inl ⟨hs.trans hS.lgk,rfl⟩
 ·exact .inl ⟨(hs.trans hS.lgk).trans hF.lgk,rfl⟩
 ·exact .inl ⟨(hs.trans hS.lgk).trans hF.lgk,rfl⟩
 ·have hk:=(hs.trans hS.lgk).trans hF.lgk
  rw[QZ]
  split
  ·split
   ·exact .inr (.inl ⟨hk.name,rfl,rfl,rfl⟩)
   ·exact .inl ⟨⟨hk.b,hk.all,hk.name⟩,rfl⟩
  ·exact .inl ⟨hk,rfl⟩
structure JBnd(k t:Nat)(s:St)(Ps:List AP)(T:Tou)(wt:Int):Prop where
 wj:WJ (20000+60*k) (2+200*k) s
 low:Low s
 b:s.lg.b.length<=7720*t+5*k
 all:s.lg.all.length<=2*t+k
 tn:∀n,T n<=4*t+3*k
 tp:∀n,0<T n->0<=n/\n<=30/\n.toNat<Ps.length
 wt:0<=wt/\wt<=k
 name:s.lg.name=nLog
theorem Xo:∀(rs:List ByteArray)(b:List UInt8),(rs.foldl bT b).length=b.length+(rs.map fun r=>r.size+4).sum
 | [],b=>by simp
 |r::t,b=>by
  rw[List.foldl_cons,Xo t,GL,map_cons,sum_cons]
  omega
theorem WR{Ps:List AP}{L:List Int}{rs:List ByteArray}(h:N7 Ps L rs):rs.length=L.length/\(rs.map fun r=>r.size+4).sum=4103*L.length/\∀r∈rs,r.size=4099:=by
 obtain⟨G,h1,rfl⟩:=h
 have hsz:∀n∈L,(imgR n (G n)).size=4099:=fun n hn=>by
  rw[imgR,Cj,length_cons,length_append,AU,(h1 n hn).ok.len]
 refine⟨length_map _,?_,fun r hr=>?_⟩
 ·clear h1
  induction L with
  |nil=>rfl
  |cons n r ih=>
   have:=hsz n (.head _)
   simp only[map_cons,sum_cons,length_cons]at ih⊢
   rw[ih fun m hm=>hsz m (.tail _ hm),this]
   omega
 ·obtain⟨n,hn,rfl⟩:=mem_map.1 hr
  exact hsz n hn
theorem Ob:∀(l:List Chg1)(b:List UInt8),(∀c∈l,¬badC c)->((DU l b).map fun x=>x.length+4).sum<=b.length+3606*l.length+5*(l.length+1)
 | [],b,_=>by simp[DU]
 |c::r,b,h=>by
  have hc:=I7 (h c (.head _))
  have hr:∀d∈r,¬badC d:=fun d hd=>h d (.tail _ hd)
  rw[DU,length_cons]
  split
  ·have ih:=Ob r (BR c) hr
   rw[map_cons,sum_cons,length_cons]
   omega
  ·have ih:=Ob r (b++BR c) hr
   rw[length_append]at ih
   omega
theorem packR_sum(l:List Chg1)(h:∀c∈l,¬badC c):((CZ l).map fun r=>r.size+4).sum<=3606*l.length+5*(l.length+1):=by
 have e:(CZ l).map (fun r=>r.size+4)=(DU l []).map fun x=>x.length+4:=by
  rw[CZ,map_map]
  refine List.map_congr_left fun x _=>?_
  show(ByteArray.mk x.toArray).size+4=_
  rw[Cj]
 rw[e]
 have:=Ob l [] h
 simp only[List.length_nil]at this
 omega
theorem Zp{α:Type}[DecidableEq α]:∀(L M:List α),L.Nodup->(∀x∈L,x∈M)->L.length<=M.length
 | [],M,_,_=>Nat.zero_le _
 |x::r,M,hn,h=>by
  have hn:=nodup_cons.1 hn
  have ih:=Zp r (M.erase x) hn.2 fun y hy=>(List.mem_erase_of_ne (by intro e;subst e;exact hn.1 hy)).2 (h y (.tail _ hy))
  have hx:=h x (.head _)
  rw[List.length_erase_of_mem hx]at ih
  have:0<M.length:=List.length_pos_of_mem hx
  rw[length_cons];omega
theorem fresh_len{T:Tou}{l:List Chg1}{L:List Int}(h:NW T l L):L.length<=l.length:=by
 have hn:L.Nodup:=by
  rw[List.nodup_iff_pairwise_ne]
  exact h.rise.imp fun h=>by omega
 have:=Zp L (l.map (·.page)) hn fun n hn=>by
  obtain⟨c,hc,h1,_⟩:=(h.mem n).1 hn
  exact mem_map.2 ⟨c,hc,h1⟩
 rwa [length_map]at this
theorem bI:∀(M:TM)(T:Tou)(n:Int),(M.map (·.1)).Nodup->upP T M n<=T n+1/\(n∉M.map (·.1)->upP T M n=T n)
 | [],T,n,_=>⟨Nat.le_succ _,fun _=>rfl⟩
 |e::r,T,n,h=>by
  have h:=nodup_cons.1 h
  obtain⟨h1,h2⟩:=bI r (T.up e.1) n h.2
  have e1:upP T (e::r) n=upP (T.up e.1) r n:=rfl
  rw[e1]
  by_cases hn:n=e.1
  ·have h3:=h2 (by rw[hn];exact h.1)
   have h4:T.up e.1 n=T n+1:=by unfold Tou.up;rw[if_pos hn]
   exact⟨by omega,fun h5=>absurd (by rw[hn];exact .head _) h5⟩
  ·have h4:T.up e.1 n=T n:=by unfold Tou.up;rw[if_neg hn]
   rw[h4]at h1
   exact⟨h1,fun h5=>by rw[h2 fun h6=>h5 (.tail _ h6),h4]⟩
theorem growAll_ge(L:List Int):∀(Ps:List AP),Ps.length<=(BJ Ps L).length:=by
 induction L with
 |nil=>intro Ps;exact Nat.le_refl _
 |cons n r ih=>
  intro Ps
  have h1:=ih (CS Ps (n.toNat+1))
  rw[EY]at h1
  show Ps.length<=(BJ (CS Ps (n.toNat+1)) r).length
  omega
theorem good_page{c:Chg1}(h:¬badC c)(hg:U3 c):0<=c.page/\c.page<=30:=by
 unfold badC at h
 have h1:0<=c.page:=Int.not_lt.1 fun e=>h (.inl e)
 have h2:c.page<4096:=Int.not_le.1 fun e=>h (.inr (.inl e))
 exact⟨h1,Int.not_lt.1 fun e=>hg.1 ⟨e,h2⟩⟩
theorem commit_bnd{k t:Nat}{s:St}{Ps Ps':List AP}{T T':Tou}{wt wt' code:Int}{l:List Chg1}{lg':Lg}(h:GY s.lg Ps T wt l lg' Ps' T' wt' code)(hb:JBnd k t s Ps T wt)(hg:∀c∈l,U3 c)(hk:k<=200)(ht:t+l.length<=300):
  JBnd (k+1) (t+l.length) {s with lg:=lg'} Ps' T' wt':=by
 have hb1:=hb.b
 have hb2:=hb.all
 have hb3:=hb.wt
 rcases h with⟨_,_,rfl,rfl,rfl,rfl⟩|⟨_,_,_,rfl,rfl,rfl,rfl⟩|⟨_,_,M,L,rs,htr,hL,hI,rfl,rfl,rfl,rfl⟩
 ·exact⟨hb.wj.mono (by omega) (by omega),hb.low,by show s.lg.b.length<=_;omega,by show s.lg.all.length<=_;omega,fun n=>by have:=hb.tn n;omega,hb.tp,by omega,hb.name⟩
 ·exact⟨hb.wj.mono (by omega) (by omega),hb.low,by show s.lg.b.length<=_;omega,by show s.lg.all.length<=_;omega,fun n=>by have:=hb.tn n;omega,hb.tp,by omega,hb.name⟩
 ·have hgood:=Hr htr
  have hMok:=G5 htr
  obtain⟨i1,i2,i3⟩:=WR hI
  have hpl:=Ii l [] (by simp) hgood
  have hps:=packR_sum l hgood
  have hLl:=fresh_len hL
  have happ:=Fp s.lg (rs++CZ l) (fun r hr=>by
   rcases mem_append.1 hr with hr|hr
   ·have:=i3 r hr;omega
   ·obtain⟨x,hx,rfl⟩:=mem_map.1 hr
    rw[Cj]
    have:=hpl.2 x hx
    omega)
  have hbl:(BD s.lg (rs++CZ l)).b.length<=7720*(t+l.length)+5*(k+1):=by
   rw[happ.b,Xo,map_append,sum_append]
   omega
  have hmem:∀e∈M,0<=e.1/\e.1<=30:=fun e he=>by
   obtain⟨c,hc,h1⟩:=Sr htr e he
   rw[<- h1];exact good_page (hgood c hc) (hg c hc)
  have hw:=hb.wj
  refine⟨⟨hw.fit.mono (by omega),by show(BD _ _).b.length<=_;omega,by show(BD _ _).firm<=_;rw[happ.firm];exact hw.firm,by show(BD _ _).mark<=_;rw[happ.mark];have:=hw.mark;omega,hw.sz⟩,hb.low,hbl,?_,fun n=>?_,fun n hn=>?_,by omega,by show(BD _ _).name=_;rw[happ.name];exact hb.name⟩
  ·show(BD _ _).all.length<=_
   rw[happ.all,length_append,length_append,CZ,length_map]
   omega
  ·have:=(bI M T n hMok.nodup).1
   have:=hb.tn n
   omega
  ·obtain⟨g1,g2⟩:=VT (st:=(BD s.lg (rs++CZ l)).all.length) M (BJ Ps L)
   have g3:=growAll_ge L Ps
   rcases QF M T n hn with h1|⟨e,he,rfl⟩
   ·have:=hb.tp n h1
    omega
   ·have:=hmem e he
    have:=g2 e he
    omega
def Pz(s:St)(Ps:List AP)(T:Tou)(wt:Int)(kind:Int)(l:List Chg1)(s':St)(Ps':List AP)(T':Tou)(wt' code:Int):Prop:=
 if kind=0 then∃lg',GY s.lg Ps T wt l lg' Ps' T' wt' code/\s'= {s with lg:=lg'}
 else if kind=1 then s'= {s with d:=(BK s.d s.lg wt).1,lg:=(BK s.d s.lg wt).2.1}/\wt'=(BK s.d s.lg wt).2.2.1/\code=(BK s.d s.lg wt).2.2.2/\Ps'=Ps/\T'=T
 else if kind=2 then MI s Ps T wt s' T' wt' code/\Ps'=Ps
 else s'=s/\Ps'=Ps/\T'=T/\wt'=wt/\code=0
theorem ZL{d:Dk}{l:Lg}{wt:Int}{k:Nat}(h:0<=wt/\wt<=k):0<=(BK d l wt).2.2.1/\(BK d l wt).2.2.1<=k:=by
 unfold BK
 split
 ·exact h
 ·dsimp only
  split<;>omega
theorem does_spec(y:GW)(x:DW)(s:St)(p:JP)(tt:Nat)(wt:Int)(Ps:List AP)(T:Tou)(hr:Rest y x s p Ps 5000){k t:Nat}(hb:JBnd k t s Ps T wt)(hk:k<=200)(o:JOp)(ht:t+o.l.length<=300)(hg:∀c∈o.l,U3 c)(w:World)(st:Std w (AZ y x s p tt wt Ps T))(hC:∀W,Chg (feet (AZ y x s p tt wt Ps T)) w W->Cells W o.a (chC o.l)):
  Calls Tryz.prog 19 #[.pointer (some ⟨y.jb,0,none⟩),.agg o.cs.toArray] w fun e w'=>∃(code:Int)(s':St)(Ps':List AP)(T':Tou)(wt':Int),Pz s Ps T wt o.kind o.l s' Ps' T' wt' code/\e=.returned (.int .i64 code)/\
   ∃(y':GW)(x':DW)(p':JP),Ee y y' x x'/\Rest y' x' s' p' Ps' 5000/\JBnd (k+1) (t+o.l.length) s' Ps' T' wt'/\Hp (feet (AZ y x s p tt wt Ps T)) w w' (AZ y' x' s' p' tt wt' Ps' T'):=by
 apply does.ok;unfold does.vc
 have H:=Hp.Ap st
 generalize hB:feet (AZ y x s p tt wt Ps T)=B at H hC⊢
 have hw:=hb.wj
 have hb1:=hb.b
 have hb2:=hb.all
 have hb3:=hb.wt
 intro b w1 hn
 replace H:=(H.new (cs:=o.cs) EQ4 hn).perm (M:=AZ y x s p tt wt Ps T++[.blk b o.cs 53]) (by(refine AC fun ff gg h0 hc ha hpm=>?_;simp only[ha,hc,h0];omega))
 clear hn
 have mO:Asn.blk b o.cs 53∈AZ y x s p tt wt Ps T++[.blk b o.cs 53]:=mem_append_right _ (.head _)
 refine⟨_,H.ld (o:=0) (cs:=o.cs) EQ4 gInt mO rfl,AO (fun h0=>?_) (fun h0=>?_)⟩
 ·refine⟨_,_,_,H.ld (o:=1) (cs:=o.cs) EQ4 gSR mO rfl,?_⟩
  refine AL (rowsJ_spec o.a o.c o.l (by omega) w1 (hC w1 H.chg)) ?_
  rintro e w2 ⟨ra,rc,rfl,H'⟩
  have H2:Hp B w w2 (AZ y x s p tt wt Ps T++[.own 73 4 ra o.l.length rc (chC o.l),.blk b o.cs 53]):=(H.ext1 H').perm (by(refine AC fun ff gg h0 hc ha hpm=>?_;simp only[ha,hc,h0];omega))
  clear H H'
  refine⟨_,_,_,rfl,?_⟩
  have hlen2:∀n,T n<=100000000:=fun n=>by have:=hb.tn n;omega
  refine AL (GV y x s p tt wt Ps T 5000 hr (by omega) hlen2 (by omega) (by omega) ra rc o.l (by omega) (fun c hc=>by have:=(hg c hc).2;omega) w2 H2.std1 (fun W hW=>Own.cells (Su H2 W hW))) ?_
  rintro e w3 ⟨code,lg',Ps',T',wt',hcr,rfl,lw,p',hlw,hR',H'⟩
  have H3:=H2.useL H'
  exact⟨_,rfl,code,{s with lg:=lg'},Ps',T',wt',by rw[Pz,if_pos h0];exact⟨lg',hcr,rfl⟩,rfl,{y with lw:=lw},x,p',⟨rfl,rfl,hlw,rfl⟩,hR',commit_bnd hcr hb hg hk ht,H3.BQ⟩
 refine AO (fun h1=>?_) (fun h1=>?_)
 ·refine AL (KG y x s p tt wt Ps T 5000 hr (hw.lgB (by omega)) hw.fit (by omega) w1 H.std1) ?_
  rintro e w2 ⟨rfl,x',lw,hxb,hlw,hR',H'⟩
  have H2:=H.useL H'
  have hk1:=UY s.d s.lg wt
  have hwk:=hw.sync (by omega) wt
  refine⟨_,rfl,_,_,Ps,T,_,by rw[Pz,if_neg h0,if_pos h1];exact⟨rfl,rfl,rfl,rfl,rfl⟩,rfl,{y with lw:=lw},x',p,⟨rfl,rfl,hlw,hxb⟩,hR',⟨hwk.mono (by omega) (by omega),hb.low,by show(BK s.d s.lg wt).2.1.b.length<=_;rw[hk1.b];omega,by show(BK s.d s.lg wt).2.1.all.length<=_;rw[hk1.all];omega,fun n=>by have:=hb.tn n;omega,hb.tp,by have:=ZL (d:=s.d) (l:=s.lg) hb3;omega,by show(BK s.d s.lg wt).2.1.name=_;rw[hk1.name];exact hb.name⟩,H2.BQ⟩
 refine AO (fun h2=>?_) (fun h2=>?_)
 ·refine AL (jcheck_spec y x s p tt wt Ps T hr hb.low hw (by omega) (by omega) hb.name hb.tp w1 H.std1) ?_
  rintro e w2 ⟨code,s',T',wt',hcr,rfl,y',x',hS,hR',hlo',hw',H'⟩
  have H2:=H.useL H'
  have hwt:wt'=(BK s.d s.lg wt).2.2.1:=hcr.1
  have hsw:=ZL (d:=s.d) (l:=s.lg) hb3
  rw[<- hwt]at hsw
  have hT0:∀n,¬0<T0 n:=fun n=>Nat.lt_irrefl 0
  refine⟨_,rfl,code,s',Ps,T',wt',by rw[Pz,if_neg h0,if_neg h1,if_pos h2];exact⟨hcr,rfl⟩,rfl,y',x',p,hS,hR',?_,H2.BQ⟩
  rcases hcr.lgk with⟨hK,rfl⟩|⟨hn,hb',ha',rfl⟩|⟨hK,rfl⟩
  ·exact⟨hw'.mono (by omega) (by omega),hlo',by rw[hK.b];omega,by rw[hK.all];omega,fun n=>by have:=hb.tn n;omega,hb.tp,by omega,by rw[hK.name];exact hb.name⟩
  ·exact⟨hw'.mono (by omega) (by omega),hlo',by rw[hb'];exact Nat.zero_le _,by rw[ha'];exact Nat.zero_le _,fun n=>Nat.zero_le _,fun n h=>absurd h (hT0 n),by omega,by rw[hn];exact hb.name⟩
  ·exact⟨hw'.mono (by omega) (by omega),hlo',by rw[hK.b];omega,by rw[hK.all];omega,fun n=>Nat.zero_le _,fun n h=>absurd h (hT0 n),by omega,by rw[hK.name];exact hb.name⟩
 ·exact⟨0,s,Ps,T,wt,by rw[Pz,if_neg h0,if_neg h1,if_neg h2];exact⟨rfl,rfl,rfl,rfl,rfl⟩,rfl,y,x,p,Ee.refl y x,hr,⟨hw.mono (by omega) (by omega),hb.low,by omega,by omega,fun n=>by have:=hb.tn n;omega,hb.tp,by omega,hb.name⟩,H.BQ⟩
theorem Oo(Ps:List AP):∀(l:List Chg1)(o:Ord)(la:Last){z:Ord×Last},BU Ps l o la=some z->(∀k,gget la k≠none->k∈o)->(∀q∈o,q∈z.1)/\∀c∈l,(c.page,c.slot)∈z.1
 | [],o,la,z,h,_=>by
  rw[BU]at h
  cases h
  exact⟨fun q hq=>hq,by simp⟩
 |c::r,o,la,z,h,hk=>by
  rw[BU]at h
  split at h
  ·cases h
  ·split at h
   ·rename_i was hw
    split at h
    ·cases h
    ·have hm:(c.page,c.slot)∈o:=hk _ (by rw[hw];simp)
     obtain⟨i1,i2⟩:=Oo Ps r o _ h fun k hk2=>by
      rw[D5]at hk2
      split at hk2
      ·rename_i e;rw[e];exact hm
      ·exact hk k hk2
     refine⟨i1,fun d hd=>?_⟩
     rcases mem_cons.1 hd with rfl|hd
     ·exact i1 _ hm
     ·exact i2 d hd
   ·split at h
    ·cases h
    ·obtain⟨i1,i2⟩:=Oo Ps r _ _ h fun k hk2=>by
      rw[D5]at hk2
      split at hk2
      ·rename_i e;rw[e];exact mem_append_right _ (.head _)
      ·exact mem_append_left _ (hk k hk2)
     refine⟨fun q hq=>i1 q (mem_append_left _ hq),fun d hd=>?_⟩
     rcases mem_cons.1 hd with rfl|hd
     ·exact i1 _ (mem_append_right _ (.head _))
     ·exact i2 d hd
theorem V6(la:Last):∀(o:Ord)(M:TM){M':TM}(n:Int),putF o la M=some M'->gget M n≠none->gget M' n≠none
 | [],M,M',n,h,hn=>by rw[putF]at h;cases h;exact hn
 |(p,s)::r,M,M',n,h,hn=>by
  rw[putF]at h
  split at h
  ·split at h
   ·exact V6 la r M n h hn
   ·split at h
    ·refine V6 la r _ n h ?_
     rw[D5]
     split
     ·simp
     ·exact hn
    ·cases h
  ·cases h
theorem tried_has{Ps:List AP}{l:List Chg1}{M:TM}(h:CU Ps l=some M):∀c∈l,gget M c.page≠none:=fun c hc=>by
 unfold CU at h
 cases hz:BU Ps l [] []with
 |none=>rw[hz]at h;cases h
 |some z=>
  obtain⟨o,la⟩:=z
  rw[hz]at h
  have hm:=(Oo Ps l [] [] hz (fun k hk=>absurd rfl hk)).2 c hc
  exact V6 la o _ c.page h (Vh o [] c.page (.inl ⟨_,hm,rfl⟩))
theorem Yb:∀(M:TM)(T:Tou),∀e∈M,0<upP T M e.1
 | [],T,e,h=>by cases h
 |x::r,T,e,h=>by
  rcases mem_cons.1 h with rfl|h
  ·have h1:=VI r (T.up e.1) e.1
   have h2:T.up e.1 e.1=T e.1+1:=by unfold Tou.up;rw[if_pos rfl]
   show 0<upP (T.up e.1) r e.1
   omega
  ·exact Yb r (T.up x.1) e h
theorem TB(a b:List ByteArray):AV (a++b)=AV a++AV b:=by
 rw[Eb,Eb,Eb,frames_append]
structure Bs(all:List ByteArray)(Ps:List AP)(T:Tou):Prop where
 rep:bz all (recs Ps)
 sz:∀r∈all,r.size<=65536
 tou:∀n,0<T n↔0<Ag all n
 hi:∀n,4096<=n->recs Ps n=[]
structure RunH(k q:Nat)(F:List ByteArray)(Pf:List AP)(s:St)(Ps:List AP)(T:Tou)(wt:Int):Prop where
 code:s.lg.code=0
 b:s.lg.b=AV s.lg.all
 firm:s.lg.firm<=s.lg.b.length/\s.lg.b.take s.lg.firm=AV F
 pre:F<+:s.lg.all
 live:Live k s.lg.mark (AV F) (Gof F (recs Pf)) s.d
 find:s.d.find Aa=some q
 bs:Bs s.lg.all Ps T
 repF:bz F (recs Pf)
 un:∀n:Nat,Ag s.lg.all (n:Int)=0->recs Ps n=recs Pf n
 hif:∀n,4096<=n->recs Pf n=[]
 dirty:VZ s.lg.all s
 wt:wt=0->F=s.lg.all/\∀n,recs Pf n=recs Ps n
theorem Q7{F all:List ByteArray}(h:F<+:all)(n:Int):Ag F n<=Ag all n:=by
 obtain⟨r,rfl⟩:=h
 rw[LG]
 exact images_mono r _ n
theorem RunH.gof{k q:Nat}{F:List ByteArray}{Pf:List AP}{s:St}{Ps:List AP}{T:Tou}{wt:Int}(h:RunH k q F Pf s Ps T wt){c:Cont}(hc:Gof F (recs Pf) c):Gof s.lg.all (recs Ps) c:=fun n hn hi=>by
 have:=Q7 h.pre (n:Int)
 rw[h.un n hi]
 exact hc n hn (by omega)
theorem Bs.run{all:List ByteArray}{Ps:List AP}{T:Tou}(h:Bs all Ps T){k X q:Nat}{s:St}(hl:Hl k X (AV all) all (recs Ps) q s.d s.lg)(hd:VZ all s)(wt:Int):RunH k q all Ps s Ps T wt:=by
 have ha:=hl.la
 refine⟨hl.code,by rw[hl.lb,ha],⟨by rw[hl.lb,hl.firm];exact Nat.le_refl _,by rw[hl.lb,hl.firm,take_length]⟩,by rw[ha];exact List.prefix_rfl,hl.live,hl.find,by rw[ha];exact h,h.rep,fun _ _=>rfl,h.hi,by rw[ha];exact hd,fun _=>⟨ha.symm,fun _=>rfl⟩⟩
theorem Bs.anew{all:List ByteArray}{Ps:List AP}{T:Tou}(h:Bs all Ps T):Bs [] Ps T0:=⟨.nil _,by simp,fun n=>Iff.rfl,h.hi⟩
section
variable{k q:Nat}{F:List ByteArray}{Pf:List AP}{s:St}{Ps:List AP}{T:Tou}{wt:Int}
theorem RunH.dB(h:RunH k q F Pf s Ps T wt)(hw:0<=wt){l:List Chg1}{lg':Lg}{Ps':List AP}{T':Tou}{wt' code:Int}(hc:GY s.lg Ps T wt l lg' Ps' T' wt' code)(hN:Nice Ps)(hN':Nice Ps'):
  (code=0/\BV (Az Ps) l=(Az Ps',true)/\RunH k q F Pf {s with lg:=lg'} Ps' T' wt'/\wt'=wt+1)\/
  (code=180/\BV (Az Ps) l=(Az Ps,false)/\lg'=s.lg/\Ps'=Ps/\T'=T/\wt'=wt):=by
 rcases hc with⟨h0,_⟩|⟨_,hn,rfl,rfl,rfl,rfl,rfl⟩|⟨_,rfl,M,L,rs,ht,hL,hI,rfl,rfl,rfl,rfl⟩
 ·exact absurd h.code h0
 ·exact .inr ⟨rfl,(TL hN l).1 hn,rfl,rfl,rfl,rfl⟩
 ·refine .inl ⟨rfl,(TL hN l).2 M _ L ht hN',?_,rfl⟩
  have hgood:=Hr ht
  have hMok:=G5 ht
  obtain⟨i1,i2,i3⟩:=WR hI
  have hpl:=Ii l [] (by simp) hgood
  have hszs:∀r∈rs++CZ l,r.size<=65536:=fun r hr=>by
   rcases mem_append.1 hr with hr|hr
   ·have:=i3 r hr;omega
   ·obtain⟨x,hx,rfl⟩:=mem_map.1 hr
    rw[Cj]
    have:=hpl.2 x hx
    omega
  have happ:=Fp s.lg (rs++CZ l) hszs
  obtain⟨g1,g2,g3⟩:=h.bs.rep.dB ht hL hI (fun n hn=>(h.bs.tou n).1 hn) (BD s.lg (rs++CZ l)).all.length
  generalize hlg:BD s.lg (rs++CZ l)=lg' at happ g1⊢
  have hrec:∀(st:Nat)(n:Nat),recs (layP st (BJ Ps L) M) n=((gget M (n:Int)).map (·.1)).getD (recs Ps n):=fun st n=>by
   rw[Jg M _ (fun e he=>(hMok.key e he).1) hMok.nodup]
   have:=F6 L Ps (n:Int)
   rw[CO,CO,Int.toNat_natCast]at this
   have e:recs (BJ Ps L) n=recs Ps n:=by rw[recs,this];rfl
   cases gget M (n:Int)with
   |none=>exact e
   |some P=>rfl
  have hb':lg'.b=s.lg.b++AV (rs++CZ l):=by
   rw[happ.b,h.b,<- TB]
   exact(foldl_append (f:=bT) (b:=[]) (l:=s.lg.all) (l':=rs++CZ l)).symm
  refine⟨by show lg'.code=0;rw[happ.code];exact h.code,?_,⟨?_,?_⟩,?_,?_,h.find,⟨?_,?_,?_,?_⟩,h.repF,?_,h.hif,?_,fun e=>?_⟩
  ·show lg'.b=AV lg'.all
   rw[hb',happ.all,h.b,TB s.lg.all]
  ·show lg'.firm<=lg'.b.length
   rw[happ.firm,hb',length_append]
   have:=h.firm.1
   omega
  ·show lg'.b.take lg'.firm=_
   rw[happ.firm,hb',List.take_append_of_le_length h.firm.1]
   exact h.firm.2
  ·show F<+:lg'.all
   rw[happ.all]
   exact h.pre.trans (List.prefix_append _ _)
  ·show Live k lg'.mark _ _ _
   rw[happ.mark];exact h.live
  ·show bz lg'.all (recs (layP lg'.all.length (BJ Ps L) M))
   generalize layP lg'.all.length (BJ Ps L) M=Q at g1⊢
   rw[happ.all];exact g1
  ·show∀r∈lg'.all,_
   rw[happ.all]
   exact fun r hr=>(mem_append.1 hr).elim (h.bs.sz r) (hszs r)
  ·intro n
   show _↔0<Ag lg'.all n
   rw[happ.all]
   constructor
   ·intro hn
    rcases QF M T n hn with h1|⟨e,he,rfl⟩
    ·exact(g2 n).2 (.inl ((h.bs.tou n).1 h1))
    ·exact g3 e he
   ·intro hn
    rcases(g2 n).1 hn with h1|h1
    ·have h2:=(h.bs.tou n).2 h1
     have:=VI M T n
     omega
    ·obtain⟨c,hc,rfl,_⟩:=(hL.mem n).1 h1
     have h2:=tried_has ht c hc
     cases hg:gget M c.page with
     |none=>exact absurd hg h2
     |some P=>exact Yb M T (c.page,P) (Gq hg)
  ·intro n hn
   rw[hrec]
   cases hg:gget M (n:Int)with
   |none=>exact h.bs.hi n hn
   |some P=>
    have:=hMok.key _ (Gq hg)
    dsimp only at this
    omega
  ·intro n hn
   have hn:Ag lg'.all (n:Int)=0:=hn
   rw[happ.all]at hn
   have h1:¬0<Ag s.lg.all (n:Int):=fun h1=>by
    have:=(g2 (n:Int)).2 (.inl h1)
    omega
   rw[hrec]
   cases hg:gget M (n:Int)with
   |none=>exact h.un n (by omega)
   |some P=>
    have:=g3 _ (Gq hg)
    dsimp only at this
    omega
  ·intro f hf hd
   show 0<Ag lg'.all _
   rw[happ.all]
   exact(g2 _).2 (.inl (h.dirty f hf hd))
  ·omega
theorem RunH.sync(h:RunH k q F Pf s Ps T wt)(hn:s.lg.name=nLog)(hm:s.lg.mark+2<big)(hb:s.lg.b.length<big):
  DC (BK s.d s.lg wt).2.2.2/\(((BK s.d s.lg wt).2.2.2=0/\(BK s.d s.lg wt).2.2.1=0/\Hl k (s.lg.mark+1) (AV s.lg.all) s.lg.all (recs Ps) q (BK s.d s.lg wt).1 (BK s.d s.lg wt).2.1)\/
   ((BK s.d s.lg wt).2.2.2≠0/\(BK s.d s.lg wt).2.2.1=wt/\(BK s.d s.lg wt).2.1.code≠0/\AnyD (Two s.lg.mark (AV F) (s.lg.mark+1) (AV s.lg.all)) (Gof F (recs Pf)) (BK s.d s.lg wt).1)):=by
 have e:BK s.d s.lg wt=((Ak s.d s.lg).1,(Ak s.d s.lg).2.1,if(Ak s.d s.lg).2.2=0 then 0 else wt,(Ak s.d s.lg).2.2):=by
  unfold BK;rw[if_neg (fun h0=>h0 h.code)]
 rw[e]
 dsimp only
 refine⟨Ui h.code,?_⟩
 rcases Live.flush hn h.code h.firm.1 (by rw[h.firm.2];exact h.live) hm hb with⟨h0,h1⟩|⟨h0,h1⟩
 ·refine .inl ⟨h0,by rw[if_pos h0],?_⟩
  have e2:=Wv h.code h0
  rw[e2]
  exact⟨h.code,hn,h.b,rfl,by show s.lg.b.length=_;rw[h.b],Nat.le_refl _,by rw[h.b]at h1;exact h1.mono fun c hc=>h.gof hc,by rw[(Fq _ _).find];exact h.find⟩
 ·refine .inr ⟨h0,by rw[if_neg h0],by rw[UZ h.code h0];exact h0,?_⟩
  rw[h.firm.2,h.b]at h1
  exact h1
theorem RunH.check(h:RunH k q F Pf s Ps T wt){kk t:Nat}(hb:JBnd kk t s Ps T wt)(hkk:kk<=200/\t<=300)(hi:Idle s 5000)(hpg:s.pages<=4096){s':St}{T':Tou}{wt' code:Int}(hc:MI s Ps T wt s' T' wt' code):
  DC code/\((code=0/\T'=T0/\wt'=0/\∃K,RunH K q [] Ps s' Ps T0 0)\/
   (code≠0/\T'=T/\((wt'=0/\RunH k q s.lg.all Ps s' Ps T 0)\/
    (wt'=0/\s'.lg.code≠0/\AnyD (fun m B=>m<=s.lg.mark+150/\B=AV s.lg.all) (Gof s.lg.all (recs Ps)) s'.d)\/
    (wt'=0/\s'.lg.code≠0/\AnyD (fun m B=>m<=s.lg.mark+150/\(B=AV s.lg.all\/B=[])) (Gof [] (recs Ps)) s'.d)\/
    (wt'=wt/\s'.lg.code≠0/\AnyD (Two s.lg.mark (AV F) (s.lg.mark+1) (AV s.lg.all)) (Gof F (recs Pf)) s'.d)))):=by
 have hw:=hb.wj
 have hm:=hw.mark
 have hbl:=hw.b
 have hbig:(10:Nat)^8<=big:=by decide
 have hbb:(AV s.lg.all).length<big:=by rw[<- h.b];omega
 obtain⟨hdc,hsy⟩:=h.sync hb.name (by omega) (by omega)
 have hws:=hw.sync (by omega) wt
 have hbs:=h.bs
 have hdi:=h.dirty
 unfold MI at hc
 generalize BK s.d s.lg wt=r at hdc hsy hws hc
 obtain⟨d1,lg1,wt1,c1⟩:=r
 dsimp only at hdc hsy hws hc
 obtain⟨rfl,hc⟩:=hc
 rcases hsy with⟨rfl,rfl,hH⟩|⟨h0,rfl,hl0,hA⟩
 ·rcases hc with⟨h0,_⟩|⟨_,L,s2,c2,hL1,hL2,hS,hc⟩
  ·exact absurd rfl h0
  have hLl:L.length<=31:=by
   have:=Jw (L.map Int.toNat) 0 31 (pairwise_map.2 (hL1.imp_of_mem fun{a b} ha hb2 hab=>by
    have e1:=hb.tp a ((hL2 a).1 ha)
    have e2:=hb.tp b ((hL2 b).1 hb2)
    omega)) (fun n hn=>by
    obtain⟨z,hz,rfl⟩:=mem_map.1 hn
    have:=hb.tp z ((hL2 z).1 hz)
    omega) (Nat.zero_le _)
   rwa [length_map]at this
  have hzL:∀z∈L,0<=z/\z<=30/\0<Ag s.lg.all z:=fun z hz=>by
   have h1:=(hL2 z).1 hz
   have:=hb.tp z h1
   exact⟨this.1,this.2.1,(hbs.tou z).1 h1⟩
  have hcp0:Cp k (s.lg.mark+1) (AV s.lg.all) s.lg.all (recs Ps) q (fun _=>False) {s with d:=d1,lg:=lg1}:=⟨hH,hdi,fun f _ h=>h.elim,fun n h=>h.elim⟩
  have hid:Idle {s with d:=d1,lg:=lg1} 5000:=⟨hi.fr,hi.len,hi.many,hi.hand,hi.turn,hi.nd⟩
  obtain⟨dc2,hcase⟩:=hS.cp (fun n=>rfl) (N:=20000+60*kk) (by omega) hbb hcp0 hws hid hb.low hpg hzL (by omega)
  have bad:∀{Y:Nat}{s3:St}{c:Int},Y<=s.lg.mark+150->c≠0->Bad k Y (AV s.lg.all) s.lg.all (recs Ps) q s3->
    ((c=0/\T'=T0/\(0:Int)=0/\∃K,RunH K q [] Ps s3 Ps T0 0)\/
   (c≠0/\T=T/\(((0:Int)=0/\RunH k q s.lg.all Ps s3 Ps T 0)\/
    ((0:Int)=0/\s3.lg.code≠0/\AnyD (fun m B=>m<=s.lg.mark+150/\B=AV s.lg.all) (Gof s.lg.all (recs Ps)) s3.d)\/
    ((0:Int)=0/\s3.lg.code≠0/\AnyD (fun m B=>m<=s.lg.mark+150/\(B=AV s.lg.all\/B=[])) (Gof [] (recs Ps)) s3.d)\/
    ((0:Int)=wt/\s3.lg.code≠0/\AnyD (Two s.lg.mark (AV F) (s.lg.mark+1) (AV s.lg.all)) (Gof F (recs Pf)) s3.d)))):=by
   intro Y s3 c hY hc0 hB
   refine .inr ⟨hc0,rfl,?_⟩
   rcases hB with⟨hB|hB,hD⟩
   ·exact .inl ⟨rfl,hbs.run hB hD 0⟩
   ·exact .inr (.inl ⟨rfl,hB.code,hB.any.mono (fun m B hmB=>⟨by have:=hmB.1;omega,hmB.2⟩) fun _ h=>h⟩)
  rcases hc with⟨hc0,rfl,rfl,rfl⟩|⟨rfl,s3,c3,hF,hc⟩
  ·rcases hcase with⟨h0,_⟩|⟨_,hB⟩
   ·exact absurd h0 hc0
   ·exact⟨dc2,bad (by omega) hc0 hB⟩
  ·rcases hcase with⟨_,hcp,hw2,hi2,hl2,hp2⟩|⟨h0,_⟩
   ·have hcp2:Cp k (s.lg.mark+1+L.length) (AV s.lg.all) s.lg.all (recs Ps) q (img s.lg.all) s2:=hcp.to fun n hn=>.inr ((hL2 _).2 ((hbs.tou _).2 hn))
    obtain⟨dc3,hcase3⟩:=hF.cp hbb hcp2 hi2.nd (Nat.le_trans hi2.len hi2.many.2) (by omega)
    rcases hc with⟨hc0,rfl,rfl,rfl⟩|⟨rfl,hT⟩
    ·rcases hcase3 with⟨h0,_⟩|⟨_,hB⟩
     ·exact absurd h0 hc0
     ·exact⟨dc3,bad (by omega) hc0 hB⟩
    ·rcases hcase3 with⟨_,hWd⟩|⟨h0,_⟩
     ·obtain⟨dc4,hcase4⟩:=hT.out hWd
      refine⟨dc4,?_⟩
      rcases hcase4 with⟨rfl,rfl,K,hK,hcl⟩|⟨hc0,rfl,hB|hB⟩
      ·exact .inl ⟨rfl,rfl,rfl,K,hbs.anew.run hK (fun f hf hd=>by rw[hcl f hf]at hd;cases hd) 0⟩
      ·exact bad (by omega) hc0 hB
      ·refine .inr ⟨hc0,rfl,.inr (.inr (.inl ⟨rfl,hB.1,hB.2.mono (fun m B hmB=>⟨by have:=hmB.1;omega,hmB.2⟩) fun _ h=>h⟩))⟩
     ·exact absurd rfl h0
   ·exact absurd rfl h0
 ·rcases hc with⟨_,rfl,rfl,rfl⟩|⟨h1,_⟩
  ·exact⟨hdc,.inr ⟨h0,rfl,.inr (.inr (.inr ⟨rfl,hl0,hA⟩))⟩⟩
  ·exact absurd h1 h0
end
structure Opt(past:List (List Chg1))(LB LA:Nat)(A:List ByteArray)(Q:List AP):Prop where
 rep:bz A (recs Q)
 hi:∀n,4096<=n->recs Q n=[]
 past:Az Q∈past
 sz:∀r∈A,r.size<=65536
 b:(AV A).length<=LB
 a:A.length<=LA
 low:∀n:Int,0<Ag A n->0<=n/\n<=30
def OptQ(past:List (List Chg1))(LB LA X:Nat)(G:Cont->Prop)(m:Nat)(B:List UInt8):Prop:=m<=X/\∃A Q,B=AV A/\Opt past LB LA A Q/\∀c,G c->Gof A (recs Q) c
def Saf(past:List (List Chg1))(LB LA X:Nat)(d:Dk):Prop:=∃G,AnyD (OptQ past LB LA X G) G d
section
variable{k q:Nat}{F:List ByteArray}{Pf:List AP}{s:St}{Ps:List AP}{T:Tou}{wt:Int}{past:List (List Chg1)}{kk t:Nat}
theorem RunH.YU(h:RunH k q F Pf s Ps T wt)(hb:JBnd kk t s Ps T wt)(hp:Az Ps∈past):Opt past (7720*t+5*kk) (2*t+kk) s.lg.all Ps:=
 ⟨h.bs.rep,h.bs.hi,hp,h.bs.sz,by rw[<- h.b];exact hb.b,hb.all,fun n hn=>by have:=hb.tp n ((h.bs.tou n).2 hn);exact⟨this.1,this.2.1⟩⟩
theorem RunH.optF(h:RunH k q F Pf s Ps T wt)(hb:JBnd kk t s Ps T wt)(hp:Az Pf∈past):Opt past (7720*t+5*kk) (2*t+kk) F Pf:=by
 refine⟨h.repF,h.hif,hp,fun r hr=>h.bs.sz r (h.pre.subset hr),?_,?_,fun n hn=>?_⟩
 ·rw[<- h.firm.2,length_take]
  have:=hb.b
  omega
 ·have:=h.pre.length_le
  have:=hb.all
  omega
 ·have h1:=Q7 h.pre n
  have:=hb.tp n ((h.bs.tou n).2 (by omega))
  exact⟨this.1,this.2.1⟩
theorem RunH.optNil(h:RunH k q F Pf s Ps T wt)(hp:Az Ps∈past)(LB LA:Nat):Opt past LB LA [] Ps:=
 ⟨.nil _,h.bs.hi,hp,by simp,Nat.zero_le _,Nat.zero_le _,fun n hn=>absurd hn (Nat.lt_irrefl 0)⟩
theorem RunH.saf(h:RunH k q F Pf s Ps T wt)(hb:JBnd kk t s Ps T wt)(hp:Az Pf∈past):Saf past (7720*t+5*kk) (2*t+kk) (2+200*kk) s.d:=
 ⟨_,h.live.any ⟨hb.wj.mark,F,Pf,rfl,h.optF hb hp,fun _ h=>h⟩⟩
theorem RunH.row(h:RunH k q F Pf s Ps T 0):Az Pf=Az Ps:=Gn _ _ _ (h.wt rfl).2
def After(past:List (List Chg1))(kk t:Nat)(s:St)(Ps:List AP)(T:Tou)(wt:Int):Prop:=
 (∃k q F Pf,RunH k q F Pf s Ps T wt/\Az Pf∈past)\/(s.lg.code≠0/\Saf past (7720*t+5*kk) (2*t+kk) (2+200*kk) s.d)
theorem Opt.mono{past:List (List Chg1)}{LB LA LB' LA':Nat}{A:List ByteArray}{Q:List AP}(h:Opt past LB LA A Q)(h1:LB<=LB')(h2:LA<=LA'):Opt past LB' LA' A Q:=⟨h.rep,h.hi,h.past,h.sz,Nat.le_trans h.b h1,Nat.le_trans h.a h2,h.low⟩
theorem RunH.two(h:RunH k q F Pf s Ps T wt)(hb:JBnd kk t s Ps T wt)(hpf:Az Pf∈past)(hps:Az Ps∈past){d:Dk}(hA:AnyD (Two s.lg.mark (AV F) (s.lg.mark+1) (AV s.lg.all)) (Gof F (recs Pf)) d):Saf past (7720*t+5*(kk+1)) (2*t+(kk+1)) (2+200*(kk+1)) d:=by
 have hm:=hb.wj.mark
 refine⟨_,hA.mono (fun m B hmB=>?_) fun _ h=>h⟩
 rcases hmB with⟨rfl,rfl⟩|⟨rfl,rfl⟩
 ·exact⟨by omega,F,Pf,rfl,(h.optF hb hpf).mono (by omega) (by omega),fun _ h=>h⟩
 ·exact⟨by omega,s.lg.all,Ps,rfl,(h.YU hb hps).mono (by omega) (by omega),fun c hc=>h.gof hc⟩
theorem RunH.step(h:RunH k q F Pf s Ps T wt)(hb:JBnd kk t s Ps T wt)(hkk:kk<=200)(hi:Idle s 5000)(hpg:s.pages<=4096){kind:Int}{l:List Chg1}(ht:t+l.length<=300){s':St}{Ps':List AP}{T':Tou}{wt' code:Int}(hst:Pz s Ps T wt kind l s' Ps' T' wt' code)(hN:Nice Ps)(hN':Nice Ps'):
  (kind=0/\code=0/\BV (Az Ps) l=(Az Ps',true)/\RunH k q F Pf s' Ps' T' wt')\/
  (kind=0/\code=180/\BV (Az Ps) l=(Az Ps,false)/\Ps'=Ps/\RunH k q F Pf s' Ps' T' wt')\/
  ((kind=1\/kind=2)/\code=0/\Ps'=Ps/\wt'=0/\∃k F,RunH k q F Ps s' Ps T' 0)\/
  (¬(kind=0\/kind=1\/kind=2)/\code=0/\Ps'=Ps/\RunH k q F Pf s' Ps' T' wt')\/
  ((kind=1\/kind=2)/\code≠0/\DC code/\Ps'=Ps/\∀past:List (List Chg1),Az Ps∈past->(wt'≠0->Az Pf∈past)->After past (kk+1) t s' Ps T' wt'):=by
 have hw:=hb.wj
 have hm:=hw.mark
 have hbl:=hw.b
 have hbig:(10:Nat)^8<=big:=by decide
 have hpfs:∀{past:List (List Chg1)},Az Ps∈past->(wt≠0->Az Pf∈past)->Az Pf∈past:=fun h1 h2=>by
  by_cases e:wt=0
  ·subst e;rw[h.row];exact h1
  ·exact h2 e
 unfold Pz at hst
 split at hst
 ·rename_i k0
  obtain⟨lg',hc,rfl⟩:=hst
  rcases h.dB hb.wt.1 hc hN hN' with⟨h1,h2,h3,_⟩|⟨h1,h2,rfl,rfl,rfl,rfl⟩
  ·exact .inl ⟨k0,h1,h2,h3⟩
  ·exact .inr (.inl ⟨k0,h1,h2,rfl,h⟩)
 split at hst
 ·rename_i k1
  obtain⟨rfl,rfl,rfl,rfl,rfl⟩:=hst
  obtain⟨hdc,hcase⟩:=h.sync hb.name (by omega) (by omega)
  rcases hcase with⟨h0,hwt,hH⟩|⟨h0,hwt,hl0,hA⟩
  ·exact .inr (.inr (.inl ⟨.inl k1,h0,rfl,hwt,k,s.lg.all,h.bs.run (s:= {s with d:=(BK s.d s.lg wt).1,lg:=(BK s.d s.lg wt).2.1}) hH h.dirty 0⟩))
  ·refine .inr (.inr (.inr (.inr ⟨.inl k1,h0,hdc,rfl,fun past h1 h2=>.inr ⟨hl0,?_⟩⟩)))
   rw[hwt]at h2
   exact h.two hb (hpfs h1 h2) h1 hA
 split at hst
 ·rename_i k2
  obtain⟨hc,rfl⟩:=hst
  obtain⟨hdc,hcase⟩:=h.check hb ⟨hkk,by omega⟩ hi hpg hc
  rcases hcase with⟨h0,rfl,rfl,K,hK⟩|⟨h0,rfl,hcase⟩
  ·exact .inr (.inr (.inl ⟨.inr k2,h0,rfl,rfl,K,[],hK⟩))
  ·refine .inr (.inr (.inr (.inr ⟨.inr k2,h0,hdc,rfl,fun past h1 h2=>?_⟩)))
   rcases hcase with⟨rfl,hR⟩|⟨rfl,hl0,hA⟩|⟨rfl,hl0,hA⟩|⟨rfl,hl0,hA⟩
   ·exact .inl ⟨k,q,_,Ps',hR,h1⟩
   ·refine .inr ⟨hl0,_,hA.mono (fun m B hmB=>?_) fun _ h=>h⟩
    obtain⟨g1,rfl⟩:=hmB
    exact⟨by omega,s.lg.all,Ps',rfl,(h.YU hb h1).mono (by omega) (by omega),fun _ h=>h⟩
   ·refine .inr ⟨hl0,_,hA.mono (fun m B hmB=>?_) fun _ h=>h⟩
    obtain⟨g1,rfl|rfl⟩:=hmB
    ·exact⟨by omega,s.lg.all,Ps',rfl,(h.YU hb h1).mono (by omega) (by omega),fun c hc n hn _=>hc n hn rfl⟩
    ·exact⟨by omega,[],Ps',rfl,h.optNil h1 _ _,fun c hc=>hc⟩
   ·exact .inr ⟨hl0,h.two hb (hpfs h1 h2) h1 hA⟩
 ·rename_i k0 k1 k2
  obtain⟨rfl,rfl,rfl,rfl,rfl⟩:=hst
  exact .inr (.inr (.inr (.inl ⟨fun h=>h.elim k0 fun h=>h.elim k1 k2,rfl,rfl,h⟩)))
end
theorem Fit.aS{d:Dk}{N:Nat}(h:d.Fit N)(hok:Fok d)(n:Int)(ps:List Int):(d.bV n ps).Fit N:=by
 refine⟨by simp only[Dk.bV,Fg];exact h.files,fun f hf=>?_,fun M=>?_,by simp[Dk.bV]⟩
 ·obtain⟨g,hg,qs,rfl⟩:=Hq hf
  have:=(KJ (hok.ok g hg) qs).2
  have:=h.now g hg
  omega
 ·show(ons (ons d.firm (d.chs.take _)) (([]:List Ch).take M)).length<=N
  rw[take_nil]
  exact h.names _
section
variable{past:List (List Chg1)}{LB LA X:Nat}
structure Fnd(past:List (List Chg1))(LB LA X:Nat)(k m:Nat)(A:List ByteArray)(Q:List AP)(d:Dk):Prop where
 live:Live k m (AV A) (Gof A (recs Q)) d
 opt:Opt past LB LA A Q
 mark:m<=X
theorem Fnd.saf{k m:Nat}{A:List ByteArray}{Q:List AP}{d:Dk}(h:Fnd past LB LA X k m A Q d):Saf past LB LA X d:=⟨_,h.live.any ⟨h.mark,A,Q,rfl,h.opt,fun _ h=>h⟩⟩
theorem Saf.bV{d:Dk}(h:Saf past LB LA X d)(n:Int)(ps:List Int):∃k m A Q,Fnd past LB LA X k m A Q (d.bV n ps):=by
 obtain⟨G,hA⟩:=h
 obtain⟨k,m,B,⟨hm,A,Q,rfl,hO,hG⟩,hL⟩:=hA.bV n ps
 exact⟨k,m,A,Q,hL.mono hG,hO,hm⟩
theorem Fnd.core{k m:Nat}{A:List ByteArray}{Q:List AP}{d e:Dk}(h:Fnd past LB LA X k m A Q d)(c:Core d e):Fnd past LB LA X k m A Q e:=⟨h.live.core c,h.opt,h.mark⟩
theorem Fnd.opened{k m:Nat}{A:List ByteArray}{Q:List AP}{d:Dk}(h:Fnd past LB LA X k m A Q d)(hd:d.dead=false):(Ac d).1=(Au d).1/\Fnd past LB LA X k m A Q (Ac d).1:=by
 have ho:=h.live.CV hd (Gw h.opt.sz)
 have e:(Ac d).1=(Au d).1:=by
  unfold Ac
  rw[ho]
  dsimp only
  rw[if_neg (by decide)]
  split<;>rfl
 exact⟨e,by rw[e];exact⟨h.live.cZ,h.opt,h.mark⟩⟩
theorem crash_alive(d:Dk)(n:Int)(ps:List Int):(d.bV n ps).dead=false:=(Ir d n ps).dead
theorem Saf.dD{d:Dk}(h:Saf past LB LA X d){N:Nat}(hf:d.Fit N)(f:Flt):(∃k m A Q,Fnd past LB LA X k m A Q (Bd d f))/\Calm (Bd d f)/\(Bd d f).Fit (N+13):=by
 have hok:Fok d:=h.elim fun G hA=>hA.fok
 obtain⟨k,m,A,Q,hF⟩:=h.bV f.names f.picks
 have fit1:=Fit.aS hf hok f.names f.picks
 unfold Bd
 split
 ·have hF2:=(hF.core (Rn _ f.dies)).core (OT _ f.denies)
  have hd2:(((d.bV f.names f.picks).arm f.dies).deny f.denies).dead=false:=crash_alive d f.names f.picks
  obtain⟨_,hF3⟩:=hF2.opened hd2
  exact⟨hF3.saf.bV f.names f.picks,Ir _ _ _,Fit.aS (Ll (Tc (Wn fit1 f.dies) f.denies)) hF3.live.fok f.names f.picks⟩
 ·exact⟨⟨k,m,A,Q,hF⟩,Ir _ _ _,fit1.mono (by omega)⟩
theorem Fnd.run{kk t k m:Nat}{A:List ByteArray}{Q:List AP}{d:Dk}(h:Fnd past (7720*t+5*kk) (2*t+kk) (2+200*kk) k m A Q d)(hc:Calm d)(hf:d.Fit (20000+60*kk+13))(hb:t<=300/\kk<=200):
  (Ac d).2.1=0/\Az (Ac d).2.2.2.Ps∈past/\(Ac d).2.2.1.all=A/\∀(s:St),s.d=(Ac d).1->s.lg=(Ac d).2.2.1->(∀f∈s.fs,f.dirty=false)->(∀n,(Ac d).2.2.2.T n<=2*s.lg.all.length)->
   (∃q,RunH k q A (Ac d).2.2.2.Ps s (Ac d).2.2.2.Ps (Ac d).2.2.2.T 0)/\JBnd (kk+1) t s (Ac d).2.2.2.Ps (Ac d).2.2.2.T 0:=by
 obtain⟨hf0,hcf⟩:=Rf hc
 obtain⟨e1,e2,e3,e4,e5,e6⟩:=U7 h.live hc.dead (Gw h.opt.sz) h.opt.rep h.opt.hi hf0
 have hfit:=Ll hf
 have hL:=h.live.cZ
 rw[<- e1]at hL
 obtain⟨q,hq⟩:=Oi hf0
 rw[<- e1]at hq
 generalize Ac d=r at e1 e2 e3 e4 e5 e6 hfit hL hq⊢
 obtain⟨d1,c1,lg1,J⟩:=r
 dsimp only at e1 e2 e3 e4 e5 e6 hfit hL hq⊢
 have hfun:recs J.Ps=recs Q:=funext e4
 refine⟨e2,by rw[show Az J.Ps=Az Q from Gn _ _ 0 e4];exact h.opt.past,by rw[e3],fun s hsd hsl hcl hT=>?_⟩
 have hO:=h.opt
 have hOb:=hO.b
 have hOa:=hO.a
 have hm:=h.mark
 have hH:Hl k m (AV A) A (recs J.Ps) q s.d s.lg:=by
  rw[hsd,hsl,e3,hfun]
  exact⟨rfl,rfl,rfl,rfl,rfl,Nat.le_refl _,hL,hq⟩
 have hbs:Bs A J.Ps J.T:=⟨by rw[hfun];exact hO.rep,hO.sz,fun n=>(e5 n).symm,fun n hn=>by rw[e4];exact hO.hi n hn⟩
 refine⟨⟨q,hbs.run hH (fun f hf hd=>by rw[hcl f hf]at hd;cases hd) 0⟩,⟨⟨by rw[hsd];exact hfit.mono (by omega),?_,?_,?_,?_⟩,fun f hf hd=>(by rw[hcl f hf]at hd;cases hd),?_,?_,fun n=>?_,fun n hn=>?_,by omega,?_⟩⟩
 ·rw[hsl,e3];show(AV A).length<=_;omega
 ·rw[hsl,e3];show(AV A).length<=_;omega
 ·rw[hsl,e3];show m<=_;omega
 ·rw[hsd];exact Dx.2 ⟨q,hq⟩
 ·rw[hsl,e3];show(AV A).length<=_;omega
 ·rw[hsl,e3];show A.length<=_;omega
 ·have:=hT n
  rw[hsl,e3]at this
  have this:J.T n<=2*A.length:=this
  omega
 ·have h1:=(e5 n).2 hn
  have:=hO.low n h1
  exact⟨this.1,this.2,e6 n h1⟩
 ·rw[hsl,e3]
end
theorem first_run{s:St}(hd:s.d=Ce 8000)(hl:s.lg=lg0)(hcl:∀f∈s.fs,f.dirty=false):RunH 0 1 [] [] s [] T0 0/\JBnd 0 0 s [] T0 0:=by
 have hL:Live 0 1 [] (Gof [] (recs [])) (Ce 8000):=SN 8000 (bJ UC fun n _ _=>rfl)
 have hq:(Ce 8000).find Aa=some 1:=by
  rw[Dk.find,Oy];exact O8.2.2.2
 have hH:Hl 0 1 (AV []) [] (recs []) 1 s.d s.lg:=by
  rw[hd,hl]
  exact⟨rfl,rfl,rfl,rfl,rfl,Nat.le_refl _,hL,hq⟩
 have hbs:Bs [] [] T0:=⟨.nil _,by simp,fun n=>Iff.rfl,fun n _=>rfl⟩
 refine⟨hbs.run hH (fun f hf hd=>by rw[hcl f hf]at hd;cases hd) 0,⟨⟨by rw[hd];exact(Ur 8000).mono (by omega),?_,?_,?_,?_⟩,fun f hf hd=>(by rw[hcl f hf]at hd;cases hd),?_,?_,fun n=>Nat.zero_le _,fun n hn=>absurd hn (Nat.lt_irrefl 0),by omega,?_⟩⟩
 ·rw[hl];exact Nat.zero_le _
 ·rw[hl];exact Nat.zero_le _
 ·rw[hl];show 1<=_;omega
 ·rw[hd];exact Dx.2 ⟨1,hq⟩
 ·rw[hl];exact Nat.zero_le _
 ·rw[hl];exact Nat.zero_le _
 ·rw[hl];rfl
theorem aP:∀{L:Sl.Recs}{q:Nat×List UInt8},q∈L->q.2.length<=Sl.tot L
 |x::r,q,h=>by
  rw[Sl.DV]
  rcases mem_cons.1 h with rfl|h
  ·omega
  ·have:=aP h;omega
theorem Un:∀(Ps:List AP)(n:Nat),(∀P∈Ps,P.1.length<=120)->(DL n Ps).length<=120*Ps.length
 | [],n,_=>Nat.zero_le _
 |P::r,n,h=>by
  have ih:=Un r (n+1) fun Q hQ=>h Q (.tail _ hQ)
  have:=h P (.head _)
  rw[DL,length_append,length_map,length_cons]
  omega
theorem Gp{Ps:List AP}(h:Nice Ps)(hl:Ps.length<=4096):(Az Ps).length<=500000/\∀c∈Az Ps,c.s.size<=3600:=by
 refine⟨?_,fun c hc=>?_⟩
 ·have:=Un Ps 0 fun P hP=>by
   obtain⟨g,hg⟩:=h.rep P hP
   exact Yx hg
  show(DL 0 Ps).length<=_
  omega
 ·obtain⟨i,q,hq,rfl⟩:=(KH Ps c).1 hc
  have h1:=aP hq
  have h2:=(h.at i).2
  show(ByteArray.mk q.2.toArray).size<=_
  rw[Cj]
  omega
section
variable{past:List (List Chg1)}
theorem Saf.mono{LB LA X LB' LA' X':Nat}{d:Dk}(h:Saf past LB LA X d)(h1:LB<=LB')(h2:LA<=LA')(h3:X<=X'):Saf past LB' LA' X' d:=by
 obtain⟨G,hA⟩:=h
 refine⟨G,hA.mono (fun m B hm=>?_) fun _ h=>h⟩
 obtain⟨g1,A,Q,g2,g3,g4⟩:=hm
 exact⟨Nat.le_trans g1 h3,A,Q,g2,g3.mono h1 h2,g4⟩
theorem After.mono{kk t kk' t':Nat}{s:St}{Ps:List AP}{T:Tou}{wt:Int}(h:After past kk t s Ps T wt)(h1:kk<=kk')(h2:t<=t'):After past kk' t' s Ps T wt:=
 h.imp id fun h=>⟨h.1,h.2.mono (by omega) (by omega) (by omega)⟩
theorem After.saf{kk t:Nat}{s:St}{Ps:List AP}{T:Tou}{wt:Int}(h:After past kk t s Ps T wt)(hb:JBnd kk t s Ps T wt):Saf past (7720*t+5*kk) (2*t+kk) (2+200*kk) s.d:=by
 rcases h with⟨k,q,F,Pf,h,hp⟩|⟨_,h⟩
 ·exact h.saf hb hp
 ·exact h
end
structure Doc(S:SW)(n:Nat)(now:List Chg1):Prop where
 at_:S.now.l=now
 mem:now∈S.rows
 len:S.past.length<=n+1
 few:∀l∈S.rows,l.length<=500000
theorem SW.Qb(S:SW):S.rows.length=S.past.length:=length_map _
theorem Doc.past{S:SW}{n:Nat}{now:List Chg1}(h:Doc S n now):∀r∈S.past,r.l.length<=500000:=fun r hr=>h.few _ (mem_map.2 ⟨r,hr,rfl⟩)
theorem Doc.mono{S:SW}{n:Nat}{now:List Chg1}(h:Doc S n now){m:Nat}(hm:n<=m):Doc S m now:=⟨h.at_,h.mem,Nat.le_trans h.len (by omega),h.few⟩
theorem SDo.same{S S':SW}{kind e:Int}{l:List Chg1}(h:SDo S kind l e S')(hx:e≠0\/¬(kind=0\/kind=1\/kind=2)):S'=S:=by
 unfold SDo at h
 split at h
 ·exact h
 ·rename_i he
  have hk:=hx.resolve_left he
  rw[if_neg (fun h=>hk (.inl h)),if_neg (fun h=>hk (.inr h))]at h
  exact h
theorem SDo.put{S S':SW}{e:Int}{l:List Chg1}{now:List Chg1}(h:SDo S 0 l e S')(he:e=0)(hn:(BV S.now.l l).1=now):S'.now.l=now/\S'.rows=S.rows++[now]:=by
 unfold SDo at h
 rw[if_neg (fun h=>h he),if_pos rfl,hn]at h
 exact h
theorem SDo.firm{S S':SW}{kind e:Int}{l:List Chg1}(h:SDo S kind l e S')(he:e=0)(hk:kind=1\/kind=2):S'.now.l=S.now.l/\S'.rows=[S.now.l]:=by
 unfold SDo at h
 rw[if_neg (fun h=>h he),if_neg (by omega),if_pos hk]at h
 exact h
theorem Doc.put{S S':SW}{n:Nat}{now now':List Chg1}(h:Doc S n now)(h':S'.now.l=now'/\S'.rows=S.rows++[now'])(hl:now'.length<=500000):Doc S' (n+1) now':=by
 refine⟨h'.1,by rw[h'.2];exact mem_append_right _ (.head _),?_,fun l hm=>?_⟩
 ·have:=congrArg List.length h'.2
  rw[SW.Qb,length_append,SW.Qb]at this
  have:=h.len
  simp only[length_singleton]at*
  omega
 ·rw[h'.2]at hm
  rcases mem_append.1 hm with hm|hm
  ·exact h.few l hm
  ·rw[mem_singleton.1 hm];exact hl
theorem Doc.one{S':SW}{now:List Chg1}(h':S'.now.l=now/\S'.rows=[now])(hl:now.length<=500000)(n:Nat):Doc S' n now:=by
 refine⟨h'.1,by rw[h'.2];exact .head _,?_,fun l hm=>?_⟩
 ·have:=congrArg List.length h'.2
  rw[SW.Qb]at this
  rw[this];simp
 ·rw[h'.2]at hm
  rw[mem_singleton.1 hm];exact hl
theorem Hp.glue{B:List Nat}{w0 w:World}{M L:List Asn}(H:Hp B w0 w (M++L)){F:World->Prop}(hF:∀W,(∀x∈M,x.ok W)->F W):Hp B w0 w (.any (feet M) F::L):=by
 have hs:=List.pairwise_append.1 H.sep
 refine⟨H.chg,fun a ha=>?_,fun a ha k hk=>?_,pairwise_cons.2 ⟨fun b hb k hk=>?_,hs.2.1⟩⟩
 ·rcases mem_cons.1 ha with rfl|ha
  ·refine⟨fun k hk=>?_,fun W hW=>hF W fun x hx=>Asn.aC (H.ok x (mem_append_left _ hx)) fun k hk=>hW k (Dy.2 ⟨x,hx,hk⟩)⟩
   obtain⟨x,hx,hk⟩:=Dy.1 hk
   exact Asn.Y8 (H.ok x (mem_append_left _ hx)) k hk
  ·exact H.ok a (mem_append_right _ ha)
 ·rcases mem_cons.1 ha with rfl|ha
  ·obtain⟨x,hx,hk⟩:=Dy.1 (show k∈feet M from hk)
   exact H.own x (mem_append_left _ hx) k hk
  ·exact H.own a (mem_append_right _ ha) k hk
 ·obtain⟨x,hx,hk⟩:=Dy.1 (show k∈feet M from hk)
  exact hs.2.2 x hx b hb k hk
theorem Ht{f:List Nat}{p:World->Prop}{w:World}(h:(Asn.any f p).ok w):p w:=h.2 w fun _ _=>rfl
theorem Nb{y:GW}{x:DW}{s:St}{p:JP}{tt:Nat}{wt:Int}{Ps:List AP}{T:Tou}{w:World}(st:Std w (AZ y x s p tt wt Ps T))(hl:p.bs.length=Ps.length):Nice Ps:=⟨fun P hP=>by
 have st2:Std w (jpL y.jb (ptrV x.b) (ptrV y.lw.b) (ptrV y.pb) p (some tt) wt Ps):=Hp.std1 (Hp.Ap st)
 obtain⟨k,hk⟩:=List.getElem?_of_mem hP
 have hlt:=(List.getElem?_eq_some_iff.1 hk).1
 obtain⟨g,hR,_⟩:=Kq st2 (List.getElem?_eq_getElem (by omega:k<p.bs.length)) hk
 exact⟨g,hR⟩⟩
section
variable{k t:Nat}{s:St}{Ps:List AP}{T:Tou}{wt:Int}
theorem JBnd.mono(h:JBnd k t s Ps T wt){k' t':Nat}(h1:k<=k')(h2:t<=t'):JBnd k' t' s Ps T wt:=
 ⟨h.wj.mono (by omega) (by omega),h.low,by have:=h.b;omega,by have:=h.all;omega,fun n=>by have:=h.tn n;omega,h.tp,by have:=h.wt;omega,h.name⟩
theorem JBnd.disk(h:JBnd k t s Ps T wt){e:Dk}(c:Core s.d e):JBnd k t {s with d:=e} Ps T wt:=by
 obtain⟨q,hq⟩:=Dx.1 h.wj.sz
 exact⟨⟨FitC.core c h.wj.fit,h.wj.b,h.wj.firm,h.wj.mark,Dx.2 ⟨q,by rw[c.find];exact hq⟩⟩,h.low,h.b,h.all,h.tn,h.tp,h.wt,h.name⟩
theorem RunH.disk{k q:Nat}{F:List ByteArray}{Pf:List AP}(h:RunH k q F Pf s Ps T wt){e:Dk}(c:Core s.d e):RunH k q F Pf {s with d:=e} Ps T wt:=
 ⟨h.code,h.b,h.firm,h.pre,h.live.core c,by rw[c.find];exact h.find,h.bs,h.repF,h.un,h.hif,h.dirty,h.wt⟩
theorem After.disk{past:List (List Chg1)}(h:After past k t s Ps T wt){e:Dk}(c:Core s.d e):After past k t {s with d:=e} Ps T wt:=by
 rcases h with⟨k,q,F,Pf,h,hp⟩|⟨h1,G,h2⟩
 ·exact .inl ⟨k,q,F,Pf,h.disk c,hp⟩
 ·exact .inr ⟨h1,G,h2.core c⟩
theorem Rest.disk{y:GW}{x:DW}{p:JP}(h:Rest y x s p Ps 5000){e:Dk}(hx:x.Ok e)(hs:0<=e.size Aa):Rest y x {s with d:=e} p Ps 5000:=
 ⟨h.fs,hx,⟨h.idle.fr,h.idle.len,h.idle.many,h.idle.hand,h.idle.turn,h.idle.nd⟩,h.pages,JA hs _,h.bs,h.few⟩
end
def Goes(past:List (List Chg1))(s:St)(Ps:List AP)(T:Tou)(wt:Int):Prop:=∃k q F Pf,RunH k q F Pf s Ps T wt/\Az Pf∈past
theorem Goes.disk{past:List (List Chg1)}{s:St}{Ps:List AP}{T:Tou}{wt:Int}(h:Goes past s Ps T wt){e:Dk}(c:Core s.d e):Goes past {s with d:=e} Ps T wt:=by
 obtain⟨k,q,F,Pf,h,hp⟩:=h
 exact⟨k,q,F,Pf,h.disk c,hp⟩
def Left(past:List (List Chg1))(code:Int)(kk t:Nat)(s:St)(Ps:List AP)(T:Tou)(wt:Int):Prop:=
 ((code=0\/code=180)/\Goes past s Ps T wt)\/(code≠0/\code≠180/\code≠190/\After past kk t s Ps T wt)
theorem crash_step{S S':SW}{n kk t:Nat}{s:St}{Ps:List AP}{T:Tou}{wt:Int}(hA:Goes S.rows s Ps T wt)(hD:Doc S n (Az Ps))(hb:JBnd kk t s Ps T wt)(hkk:kk<=200)(hi:Idle s 5000)(hpg:s.pages<=4096){kind:Int}{l:List Chg1}(ht:t+l.length<=300){s':St}{Ps':List AP}{T':Tou}{wt' code:Int}(hst:Pz s Ps T wt kind l s' Ps' T' wt' code)(hN:Nice Ps)(hN':Nice Ps')(hl':Ps'.length<=4096)(hdo:SDo S kind l code S'):
  Left S'.rows code (kk+1) (t+l.length) s' Ps' T' wt'/\Doc S' (n+1) (Az Ps')/\(kind=2->code≠0->wt'=0->Left [Az Ps'] code (kk+1) (t+l.length) s' Ps' T' wt'):=by
 have hrl:=(Gp hN' hl').1
 have hme:=hD.mem
 have hno:=hD.at_
 obtain⟨k,q,F,Pf,h,hp⟩:=hA
 rcases h.step hb hkk hi hpg ht hst hN hN' with⟨rfl,rfl,h1,h2⟩|⟨rfl,rfl,h1,rfl,h2⟩|⟨hk,rfl,rfl,rfl,k',F',h2⟩|⟨hk,rfl,rfl,h2⟩|⟨hk,h0,hdc,rfl,h2⟩
 ·have hput:=hdo.put rfl (now:=Az Ps') (by rw[hno,h1])
  exact⟨.inl ⟨.inl rfl,k,q,F,Pf,h2,by rw[hput.2];exact mem_append_left _ hp⟩,hD.put hput hrl,fun h=>by cases h⟩
 ·obtain rfl:=hdo.same (.inl (by decide))
  exact⟨.inl ⟨.inr rfl,k,q,F,Pf,h2,hp⟩,hD.mono (Nat.le_succ _),fun h=>by cases h⟩
 ·have hf:=hdo.firm rfl hk
  rw[hno]at hf
  exact⟨.inl ⟨.inl rfl,k',q,F',_,h2,by rw[hf.2];exact .head _⟩,Doc.one hf hrl _,fun _ h=>absurd rfl h⟩
 ·obtain rfl:=hdo.same (.inr hk)
  exact⟨.inl ⟨.inl rfl,k,q,F,Pf,h2,hp⟩,hD.mono (Nat.le_succ _),fun _ h=>absurd rfl h⟩
 ·obtain rfl:=hdo.same (.inl h0)
  have hdc:=hdc.resolve_left h0
  refine⟨.inr ⟨h0,by omega,by omega,(h2 _ hme fun _=>hp).mono (Nat.le_refl _) (Nat.le_add_right _ _)⟩,hD.mono (Nat.le_succ _),fun _ _ hw=>.inr ⟨h0,by omega,by omega,(h2 _ (.head _) fun h=>absurd hw h).mono (Nat.le_refl _) (Nat.le_add_right _ _)⟩⟩
theorem Left.saf{past:List (List Chg1)}{code:Int}{kk t:Nat}{s:St}{Ps:List AP}{T:Tou}{wt:Int}(h:Left past code kk t s Ps T wt)(h0:code≠0)(h1:code≠180):After past kk t s Ps T wt:=by
 rcases h with⟨h|h,_⟩|⟨_,_,_,h⟩
 ·exact absurd h h0
 ·exact absurd h h1
 ·exact h
theorem Left.goes{past:List (List Chg1)}{code:Int}{kk t:Nat}{s:St}{Ps:List AP}{T:Tou}{wt:Int}(h:Left past code kk t s Ps T wt)(h0:code=0\/code=180):Goes past s Ps T wt:=by
 rcases h with⟨_,h⟩|⟨h1,h2,_⟩
 ·exact h
 ·rcases h0 with h0|h0
  ·exact absurd h0 h1
  ·exact absurd h0 h2
theorem Left.ro{past:List (List Chg1)}{code:Int}{kk t:Nat}{s:St}{Ps:List AP}{T:Tou}{wt:Int}(h:Left past code kk t s Ps T wt):code≠190:=by
 rcases h with⟨h,_⟩|⟨_,_,h,_⟩
 ·omega
 ·exact h
theorem Left.disk{past:List (List Chg1)}{code:Int}{kk t:Nat}{s:St}{Ps:List AP}{T:Tou}{wt:Int}(h:Left past code kk t s Ps T wt){e:Dk}(c:Core s.d e):Left past code kk t {s with d:=e} Ps T wt:=by
 rcases h with⟨h,h2⟩|⟨h1,h2,h3,h4⟩
 ·exact .inl ⟨h,h2.disk c⟩
 ·exact .inr ⟨h1,h2,h3,h4.disk c⟩
theorem RG:Agg Tryz.prog 46 5:=IK (by kernel_rfl)
theorem Ua(os:List JOp)(k:Nat):sumL (os.take k)<=sumL os:=by
 have h:=congrArg sumL (List.take_append_drop k os)
 have e:sumL (os.take k++os.drop k)=sumL (os.take k)+sumL (os.drop k):=by rw[sumL,map_append,sum_append];rfl
 omega
theorem FewJ.step{os:List JOp}(h:FewJ os){k:Nat}(hk:k<os.length):sumL (os.take (k+1))=sumL (os.take k)+os[k].l.length/\sumL (os.take k)+os[k].l.length<=300:=by
 have e:os.take (k+1)=os.take k++[os[k]]:=List.take_succ_eq_append_getElem hk
 have h1:=Ua os (k+1)
 have h2:=h.sum
 rw[e,UW]at*
 exact⟨rfl,by omega⟩
section
variable(P:Program)(I:Int->Value)(Q:Option Addr->Value)(S:Option Addr->Nat->Nat->Value)(E:Value->Ending)(w:World)(R:Ending->World->Prop){u:World}{U:Ending->World->Prop}
def journalCrash.an:An:=⟨[],[(11,[(5,.inr 2),(6,.inr 2),(43,.inl .i64)])],[(37,[(5,.inr 2),(6,.inr 2)]),(16,[]),(23,[]),(22,[(84,.inr 0)])],[]⟩
def journalCrash.vc(a7:Option Addr)(ak:Nat)(bc:Nat)(ba:Option Addr)(ah:Nat)(bd:Nat):Prop:=AB P 16 [S a7 ak bc] w fun b a=>∃h,b=E (.bool h)/\br (!h) (AB P 8 [] a fun b a=>∃h,b=E
 (.bool h)/\R (E (.bool h)) a) (br (decide (100<(↑ah:Int))) (AB P 8 [] a fun b a=>∃h,b=E (.bool h)/\R
 (E (.bool h)) a) (AB P 7 [I 8000] a fun b a=>∃m,b=E (Q m)/\∃h,Eqv P .eql 23
 (.tmp 27) (.const (Q none)) a (Q m) (Q none) h/\br h (R (E (.bool false)) a) (AB P 11 [Q m,
 I 4] a fun b a=>∃ai f,b=E (.tuple #[Q ai,I f])/\br (!decide (f=0)) (R (E (.bool false))
 a) (∃h,Eqv P .eql 34 (.tmp 37) (.const (Q none)) a (Q ai) (Q none) h/\br h (R (E (.bool false)) a)
 (AB P 17 [S none 0 0] a fun b a=>∃e d c al a1 au,b=E (.agg #[S e d c,S al a1 au])/\∀h g,New a (.cells
 #[S none 0 0,S none 0 0] 50) h g->∃a8,Vc.St P 50 g (.mk h 0 none) (.agg #[S e d c,S al a1 au]) a8/\Ae (fun(i:Option
 Addr×Option Addr×Int) (a:World) (bb:Option Addr×Option Addr×Int->World->Prop)=>br (decide (i.2.2<(↑ak:Int))) (F8 (fun(aj:Option Addr×Option Addr)
 (a:World)=>inR .i64 (i.2.2+1)/\bb (aj.1,aj.2,i.2.2+1) a) fun(J:Option Addr×Option Addr->World->Prop)=>onP
 a7 fun e=>(0<=i.2.2/\i.2.2<(↑ak:Int))/\∃f an d c,Ld P 53 a (e.add (i.2.2.toNat*2))
 (.agg #[I f,S an d c])/\∀K g,New a (.cells #[I 0,S none 0 0] 53) K g->∃a9,Vc.St P 53 g (.mk K
 0 none) (.agg #[I f,S an d c]) a9/\∀B g,New a9 (.cells #[I 0,I 0,I 0,S none 0
 0,.bool false] 46) B g->∃af,Vc.St P 46 g (.mk B 0 none) (.agg #[I 0,I 0,I 0,S none 0 0,
 .bool false]) af/\F8 (fun(aj:PUnit)(a:World)=>∃f,Ld P 3 a (.mk B 0 none) (I f)/\AB P 25 [Q (Prod.fst
 i),I f] a fun b a=>b=E (.tuple #[])/\∃f,Ld P 3 a (.mk B 1 none) (I f)/\AB P 26
 [Q i.1,I f] a fun b a=>b=E (.tuple #[])/\∃f e d c,Ld P 53 a (.mk K 0 none) (.agg #[I f,S e d c])/\AB P 19 [Q i.2.1,.agg #[I f,S e d c]] a fun b a=>∃f,b=E
 (I f)/\∃e d c G a2 av,Ld P 50 a (.mk h 0 none) (.agg #[S e d c,S G a2 av])/\∀ae g,New a (.cells #[S
 none 0 0,S none 0 0] 50) ae g->∃ag,Vc.St P 50 g (.mk ae 0 none) (.agg #[S e d c,S G a2 av]) ag/\∃e d c ao a3 ax,Ld
 P 50 ag (.mk h 0 none) (.agg #[S e d c,S ao a3 ax])/\∃Y ap a4 ay,Ld P 53 ag (.mk K 0 none) (.agg #[I Y,S ap a4 ay])/\AB P 18 [.agg #[S e d c,S ao a3 ax],.agg #[I Y,S ap a4 ay],
 I f] ag fun(b:Ending)(a:World)=>∃(e:Option Addr),∃d c,∃(aq:Option Addr),∃(a5:Nat),∃(az:Nat),b=E (.agg #[S e d c,
 S aq a5 az])/\∃(g:World),Vc.St P 50 a (.mk h 0 none) (.agg #[S e d c,S aq a5 az]) g/\F8 (fun(be:PUnit)(a:World)=>∃
 (e:Option Addr),∃(d:Nat),∃(c:Nat),Ld P 38 a.drew (.mk h 0 none) (S e d c)/\AB P 14 [Q i.2.1]
 a.drew fun(b:Ending)(a:World)=>∃(H:Option Addr),∃(ab:Nat),∃(V:Nat),b=E (S H ab V)/\Ld P 38 a (.mk h 0 none)
 (S e d c)/\AB P 13 [S H ab V] a fun(b:Ending)(a:World)=>∃(am:Option Addr),∃(a6:Nat),∃(a0:Nat),b=E (S
 am a6 a0)/\Ld P 38 a (.mk h 0 none) (S e d c)/\AB P 24 [S am a6 a0,S e d c] a fun(b:Ending)(a:World)=>∃(ar
 :Bool),b=E (.bool ar)/\br (!ar) (R (E (.bool false)) a) (AB P 25 [Q i.1,I 0] a fun(b:
 Ending) (a:World)=>b=E (.tuple #[])/\AB P 26 [Q i.1,I 0] a fun(b:Ending)(a:World)=>b=E
 (.tuple #[])/\br (decide (f=0)) (J (i.1,i.2.1) a) (br (decide (f=180)) (J (i.1,i.2.1) a) (br (decide (f=190)) (R
 (E (.bool false)) a) (AB P 27 [Q i.2.1] a fun(b:Ending)(a:World)=>∃(f:Int),b=E (I
 f)/\br (!decide (f=0)) (AB P 28 [Q i.2.1,S none 0 0] a fun(b:Ending)(a:World)=>∃(f:Int),b=E
 (I f)/\br (!decide (f=190)) (R (E (.bool false)) a) (∃(f:Int),∃(x:Int),∃(Z:Int),∃(e:Option Addr),∃(d:Nat),∃(c:Nat),∃(L
 :Bool),Ld P 46 a (.mk B 0 none) (.agg #[I f,I x,I Z,S e d c,.bool L])/\AB
 P 20 [Q i.1,.agg #[I f,I x,I Z,S e d c,.bool L]] a fun(b:Ending)
 (a:World)=>∃(m:Option Addr),∃(n:Option Addr),b=E (.tuple #[Q m,Q n])/\∃(M:Bool),Eqv P .eql 34 (.tmp
 123) (.const (Q none)) a (Q n) (Q none) M/\br M (R (E (.bool false)) a) (AB P 14 [Q n] a fun
 (b:Ending) (a:World)=>∃(e:Option Addr),∃(d:Nat),∃(c:Nat),b=E (S e d c)/\AB P 13 [S e d c] a fun(b:Ending)(a:World)=>
 ∃(e:Option Addr),∃(d:Nat),∃(c:Nat),b=E (S e d c)/\∃(C:Option Addr),∃(ac:Nat),∃(W:Nat),∃(D:Option Addr),∃(ad:Nat),∃(X:Nat),Ld
 P 50 a (.mk h 0 none) (.agg #[S C ac W,S D ad X])/\AB P 21 [.agg #[S C ac W,S D ad
 X],S e d c] a fun(b:Ending)(a:World)=>∃(N:Bool),b=E (.bool N)/\br (!N) (∃(o:Option Addr),∃(y:Nat),∃(s:Nat),∃(p:Option
 Addr),∃(z:Nat),∃(t:Nat),Ld P 50 a (.mk ae 0 none) (.agg #[S o y s,S p z t])/\AB P 21 [.agg
 #[S o y s,S p z t],S e d c] a fun(b:Ending)(a:World)=>∃(r:Bool),b=E (.bool r)/\br (!r) (R (E
 (.bool false)) a) (∃(j:Option Addr),∃(l:Nat),∃(k:Nat),∃(F:Option Addr),∃(aa:Nat),∃(T:Nat),Ld P 50 a (.mk h 0 none) (.agg
 #[S j l k,S F aa T])/\AB P 21 [.agg #[S j l k,S F aa T],S e d c] a fun(b:Ending)
 (a:World)=>∃(O:Bool),b=E (.bool O)/\br (!O) (AB P 15 [Q i.2.1] a fun(b:Ending)(a:World)=>∃(f:Int),b=
 E (I f)/\br (decide (f=0)) (R (E (.bool false)) a) (AB P 17 [S e d c] a fun(b:Ending)(a:World)=>
 ∃(e:Option Addr),∃(d:Nat),∃(c:Nat),∃(q:Option Addr),∃(A:Nat),∃(v:Nat),b=E (.agg #[S e d c,S q A v])/\∃(g:
 World),Vc.St P 50 a (.mk h 0 none) (.agg #[S e d c,S q A v]) g/\J (m,n) g)) (AB P 17 [S e d c] a fun(b:
 Ending) (a:World)=>∃(e:Option Addr),∃(d:Nat),∃(c:Nat),∃(q:Option Addr),∃(A:Nat),∃(v:Nat),b=E (.agg #[S e d c,S q A
 v])/\∃(g:World),Vc.St P 50 a (.mk h 0 none) (.agg #[S e d c,S q A v]) g/\J (m,n) g))) (∃(o:Option Addr),∃(y:Nat),∃
 (s:Nat),∃(p:Option Addr),∃(z:Nat),∃(t:Nat),Ld P 50 a (.mk h 0 none) (.agg #[S o y s,S p z t])/\AB
 P 21 [.agg #[S o y s,S p z t],S e d c] a fun(b:Ending)(a:World)=>∃(r:Bool),b=E (.bool r)/\
 br (!r) (AB P 15 [Q i.2.1] a fun(b:Ending)(a:World)=>∃(f:Int),b=E (I f)/\br (decide (f=(0:
 Int))) (R (E (.bool false)) a) (AB P 17 [S e d c] a fun(b:Ending)(a:World)=>∃(e:Option Addr),∃(d:Nat),∃(c:Nat),∃(j:Option
 Addr),∃(l:Nat),∃(k:Nat),b=E (.agg #[S e d c,S j l k])/\∃(g:World),Vc.St P 50 a (.mk h 0 none) (.agg
 #[S e d c,S j l k]) g/\J (m,n) g)) (AB P 17 [S e d c] a fun(b:Ending)(a:World)=>∃(e:Option Addr),∃(d:Nat),∃(c:
 Nat),∃(j:Option Addr),∃(l:Nat),∃(k:Nat),b=E (.agg #[S e d c,S j l k])/\∃(g:World),Vc.St P 50 a (.mk h
 0 none) (.agg #[S e d c,S j l k]) g/\J (m,n) g))))) (∃(f:Int),∃(x:Int),∃(Z:Int),∃(e:Option Addr),∃(d:Nat),∃(c:Nat),∃(L:Bool),
 Ld P 46 a (.mk B 0 none) (.agg #[I f,I x,I Z,S e d c,.bool L])/\AB
 P 20 [Q i.1,.agg #[I f,I x,I Z,S e d c,.bool L]] a fun(b:Ending)
 (a:World)=>∃(m:Option Addr),∃(n:Option Addr),b=E (.tuple #[Q m,Q n])/\∃(M:Bool),Eqv P .eql 34 (.tmp
 123) (.const (Q none)) a (Q n) (Q none) M/\br M (R (E (.bool false)) a) (AB P 14 [Q n] a fun
 (b:Ending) (a:World)=>∃(e:Option Addr),∃(d:Nat),∃(c:Nat),b=E (S e d c)/\AB P 13 [S e d c] a fun(b:Ending)(a:World)=>
 ∃(e:Option Addr),∃(d:Nat),∃(c:Nat),b=E (S e d c)/\∃(C:Option Addr),∃(ac:Nat),∃(W:Nat),∃(D:Option Addr),∃(ad:Nat),∃(X:Nat),Ld
 P 50 a (.mk h 0 none) (.agg #[S C ac W,S D ad X])/\AB P 21 [.agg #[S C ac W,S D ad
 X],S e d c] a fun(b:Ending)(a:World)=>∃(N:Bool),b=E (.bool N)/\br (!N) (∃(o:Option Addr),∃(y:Nat),∃(s:Nat),∃(p:Option
 Addr),∃(z:Nat),∃(t:Nat),Ld P 50 a (.mk ae 0 none) (.agg #[S o y s,S p z t])/\AB P 21 [.agg
 #[S o y s,S p z t],S e d c] a fun(b:Ending)(a:World)=>∃(r:Bool),b=E (.bool r)/\br (!r) (R (E
 (.bool false)) a) (∃(j:Option Addr),∃(l:Nat),∃(k:Nat),∃(F:Option Addr),∃(aa:Nat),∃(T:Nat),Ld P 50 a (.mk h 0 none) (.agg
 #[S j l k,S F aa T])/\AB P 21 [.agg #[S j l k,S F aa T],S e d c] a fun(b:Ending)
 (a:World)=>∃(O:Bool),b=E (.bool O)/\br (!O) (AB P 15 [Q i.2.1] a fun(b:Ending)(a:World)=>∃(f:Int),b=
 E (I f)/\br (decide (f=0)) (R (E (.bool false)) a) (AB P 17 [S e d c] a fun(b:Ending)(a:World)=>
 ∃(e:Option Addr),∃(d:Nat),∃(c:Nat),∃(q:Option Addr),∃(A:Nat),∃(v:Nat),b=E (.agg #[S e d c,S q A v])/\∃(g:
 World),Vc.St P 50 a (.mk h 0 none) (.agg #[S e d c,S q A v]) g/\J (m,n) g)) (AB P 17 [S e d c] a fun(b:
 Ending) (a:World)=>∃(e:Option Addr),∃(d:Nat),∃(c:Nat),∃(q:Option Addr),∃(A:Nat),∃(v:Nat),b=E (.agg #[S e d c,S q A
 v])/\∃(g:World),Vc.St P 50 a (.mk h 0 none) (.agg #[S e d c,S q A v]) g/\J (m,n) g))) (∃(o:Option Addr),∃(y:Nat),∃
 (s:Nat),∃(p:Option Addr),∃(z:Nat),∃(t:Nat),Ld P 50 a (.mk h 0 none) (.agg #[S o y s,S p z t])/\AB
 P 21 [.agg #[S o y s,S p z t],S e d c] a fun(b:Ending)(a:World)=>∃(r:Bool),b=E (.bool r)/\
 br (!r) (AB P 15 [Q i.2.1] a fun(b:Ending)(a:World)=>∃(f:Int),b=E (I f)/\br (decide (f=(0:
 Int))) (R (E (.bool false)) a) (AB P 17 [S e d c] a fun(b:Ending)(a:World)=>∃(e:Option Addr),∃(d:Nat),∃(c:Nat),∃(j:Option
 Addr),∃(l:Nat),∃(k:Nat),b=E (.agg #[S e d c,S j l k])/\∃(g:World),Vc.St P 50 a (.mk h 0 none) (.agg
 #[S e d c,S j l k]) g/\J (m,n) g)) (AB P 17 [S e d c] a fun(b:Ending)(a:World)=>∃(e:Option Addr),∃(d:Nat),∃(c:
 Nat),∃(j:Option Addr),∃(l:Nat),∃(k:Nat),b=E (.agg #[S e d c,S j l k])/\∃(g:World),Vc.St P 50 a (.mk h
 0 none) (.agg #[S e d c,S j l k]) g/\J (m,n) g))))))))) fun(J:PUnit->World->Prop)=>F8 (fun(i:Bool)(a:World)=>br i (∃(e:Option Addr),∃
 (d:Nat),∃(c:Nat),Ld P 38 a (.mk h 0 none) (S e d c)/\AB P 17 [S e d c] a fun(b:Ending)(a:World)=>∃(e:Option Addr),∃
 (d:Nat),∃(c:Nat),∃(H:Option Addr),∃(ab:Nat),∃(V:Nat),b=E (.agg #[S e d c,S H ab V])/\∃(g:World),Vc.St P 50 a
 (.mk h 0 none) (.agg #[S e d c,S H ab V]) g/\J () g) (J () a)) fun(J:Bool->World->Prop)=>∃(x:Int),Ld P 3 g (.mk K 0 none)
 (I x)/\br (decide (x=2)) (br (!decide (f=0)) (AB P 15 [Q i.2.1] g fun(b:Ending)(a:World)=>∃(f:
 Int),b=E (I f)/\J (decide (f=0)) a) (J false g)) (J false g)) fun(J:PUnit->World->Prop)=>br (decide (i.2.2<(↑ah:Int)))
 (onP ba fun e=>(0<=i.2.2/\i.2.2<(↑ah:Int))/\∃f Y x G d c h,Ld P 46 af (e.add (Int.toNat (Prod.snd (Prod.snd
 i))*5)) (.agg #[I f,I Y,I x,S G d c,.bool h])/\∃g,Vc.St P 46 af (.mk B 0 none)
 (.agg #[I f,I Y,I x,S G d c,.bool h]) g/\J () g) (J () af)) (AB P 8 [] a fun b a=>
 ∃h,b=E (.bool h)/\R (E (.bool h)) a)) (m,ai,0) a8)))))
theorem journalCrash.ok(a7:Option Addr)(ak:Nat)(bc:Nat)(ba:Option Addr)(ah:Nat)(bd:Nat)(Z0:journalCrash.vc Tryz.prog (.int .i64) .pointer .slice .returned u U a7 ak bc ba ah bd):Calls Tryz.prog 6 #[.slice a7 ak bc,.slice ba ah bd] u U:=cok journalCrash.an Tryz.func6 (by kernel_rfl) (by kernel_rfl) Z0
end
structure FltA(W:World)(fa:Option Addr)(fs:List Flt):Prop where
 cells:Cells W fa (fs.flatMap Flt.cs)
 ok:∀f∈fs,f.Ok/\Cells W f.pa (ints f.picks)
theorem X5:∀{fs:List Flt}{k:Nat}(h:k<fs.length),((fs.flatMap Flt.cs).drop (k*5)).take 5=fs[k].cs
 |f::r,0,_=>rfl
 |f::r,k+1,h=>by
  have ih:=X5 (fs:=r) (k:=k) (by simpa using h)
  rw[show(k+1)*5=k*5+1+1+1+1+1 by omega]
  exact ih
theorem FltA.ld{W w:World}{fa:Option Addr}{fs:List Flt}(h:FltA W fa fs)(hc:Chg [] W w){k:Nat}(hk:k<fs.length):∃ad,fa=some ad/\Ld Tryz.prog 46 w (ad.add (k*5)) (.agg fs[k].cs.toArray):=by
 have hcl:=h.cells.chg hc (by simp)
 have hne:0<(fs.flatMap Flt.cs).length:=by
  cases fs with
  |nil=>cases hk
  |cons f r=>rw[List.flatMap_cons,length_append];show 0<5+_;omega
 obtain⟨ad,had,_⟩:=hcl 0 _ (List.getElem?_eq_getElem hne)
 exact⟨ad,had,hcl.ldA RG had (X5 hk) rfl⟩
theorem journalCrash_law(sa:Option Addr)(sc:Nat)(os:List JOp)(fa:Option Addr)(fc:Nat)(fs:List Flt)(W:World)(hs:JScr W sa os)(hfs:FltA W fa fs):
  Calls Tryz.prog 6 #[.slice sa os.length sc,.slice fa fs.length fc] W fun e W'=>e=.returned (.bool true)/\Hp [] W W' []:=by
 apply journalCrash.ok;unfold journalCrash.vc
 refine AL (few_spec sa sc os W hs) ?_
 rintro e w2 ⟨bb,rfl,hbb,H⟩
 refine⟨_,rfl,BI (fun hb0=>RP fun w3 H'=>⟨_,rfl,rfl,(H.ext0 H').done⟩) (fun hb1=>?_)⟩
 refine AO (fun _=>RP fun w3 H'=>⟨_,rfl,rfl,(H.ext0 H').done⟩) (fun hnf=>?_)
 have hfw:=hbb hb1
 have hol:=hfw.len
 refine AL (Qc 8000 w2) ?_
 rintro e w3 ⟨x0,rfl,hx0,H'⟩
 replace H:=H.ext H'
 clear H'
 refine⟨_,rfl,_,Cb Qw,CX ?_⟩
 have hbg:=begun8000
 refine AL (G7 x0 (Dk.new 8000) hx0 (new_fit0 8000) (by omega) 4 (by omega) w3 H.std1) ?_
 rintro e w4 ⟨x1,hx1b,hx1,hcase⟩
 rcases hcase with⟨hc,_⟩|⟨_,y1,s1,p1,tt1,m1,rfl,hR1,hm1,hsd,hslg,hsm,hsp,hsT,H'⟩
 ·exact absurd hbg.code hc
 replace H:=(H.useL H').BQ
 clear H'
 rw[hbg.Ps]at hR1 H
 rw[hbg.T]at H
 rw[hbg.d]at hsd
 rw[hbg.lg]at hslg
 obtain⟨hrun,hbnd⟩:=first_run hsd hslg (fun f hf=>(hR1.idle.cl hm1 f hf).1)
 refine⟨_,_,rfl,Aw (fun h=>absurd rfl h) (fun _=>⟨_,Cb TI,CX ?_⟩)⟩
 refine AL (Gu none 0 [] w4) ?_
 rintro e w5 ⟨b5,rfl,H'⟩
 have H':Hp [] w4 w5 [.blk b5 [.slice none 0 0] 38]:=H'
 have H2:=H.ext1 H'
 clear H H'
 refine⟨_,_,_,_,_,_,rfl,?_⟩
 intro b w6 hn
 have H3:=H2.new (cs:=[.slice none 0 0,.slice none 0 0]) EQ4 hn
 clear H2 hn
 refine Hp.stA (o:=0) H3 EQ4 Dp (vs:=[.slice none 0 0,.slice (some ⟨b5,0,none⟩) 1 1]) rfl rfl (by simp) (cs':=[.slice none 0 0,.slice (some ⟨b5,0,none⟩) 1 1]) rfl ?_
 clear H3 w6;intro w6 H3
 have H4:=Hp.glue (M:=[.blk b5 [.slice none 0 0] 38]) (F:=fun W=>SAt W ⟨⟨none,0,[]⟩,some ⟨b5,0,none⟩,1,[⟨none,0,[]⟩]⟩) (H3.perm (M:=[.blk b5 [.slice none 0 0] 38]++(AZ y1 x1 s1 p1 tt1 0 [] T0++[.blk b [.slice none 0 0,.slice (some ⟨b5,0,none⟩) 1 1] 50])) (by(refine AC fun ff gg h0 hc ha hpm=>?_;simp only[ha,hc,h0];omega))) (fun W' hW=>MM (l:=[]) (hW _ (.head _)) (by intro j v hj;simp[chC]at hj))
 clear H3
 have hD0:Doc ⟨⟨none,0,[]⟩,some ⟨b5,0,none⟩,1,[⟨none,0,[]⟩]⟩ 0 (Az []):=⟨rfl,.head _,Nat.le_refl _,fun l hl=>by rw[mem_singleton.1 hl];exact Nat.zero_le _⟩
 have H5:=H4.perm (M:=AZ y1 x1 s1 p1 tt1 0 [] T0++(.blk b [.slice none 0 0,.slice (some ⟨b5,0,none⟩) 1 1] 50::.any (feet [.blk b5 [.slice none 0 0] 38]) (fun W=>SAt W ⟨⟨none,0,[]⟩,some ⟨b5,0,none⟩,1,[⟨none,0,[]⟩]⟩)::[])) (by(refine AC fun ff gg h0 hc ha hpm=>?_;simp only[ha,hc,h0];omega))
 have hx1b:x1.b=x0.b:=hx1b
 refine Ae.mk (fun(m:Nat)(sv:Option Addr×Option Addr×Int)(w':World)=>∃(k:Nat)(y:GW)(x:DW)(s:St)(p:JP)(tt:Nat)(wt:Int)(Ps:List AP)(T:Tou)(S:SW)(bs:List Nat),m=os.length-k/\k<=os.length/\sv=(some ⟨x.b,0,none⟩,some ⟨y.jb,0,none⟩,(k:Int))/\Rest y x s p Ps 5000/\JBnd (2*k) (sumL (os.take k)) s Ps T wt/\Goes S.rows s Ps T wt/\Doc S k (Az Ps)/\
   Hp [] W w' (AZ y x s p tt wt Ps T++(.blk b [S.now.v,.slice S.pa S.past.length S.pc] 50::.any bs (fun W=>SAt W S)::[]))) os.length
  ⟨0,y1,x1,s1,p1,tt1,0,[],T0,⟨⟨none,0,[]⟩,some ⟨b5,0,none⟩,1,[⟨none,0,[]⟩]⟩,_,rfl,by omega,by rw[hx1b];rfl,⟨hR1.fs,hR1.dk,hR1.idle.any,hR1.pages,hR1.sz,hR1.bs,hR1.few⟩,hbnd,⟨_,_,_,_,hrun,.head _⟩,hD0,H5⟩ ?_
 clear H4 H5 hD0 hrun hbnd hR1 hx1b hx1 hsd hslg hsm hsp hsT hm1
 rintro m sv w7 next ⟨k,y,x,s,p,tt,wt,Ps,T,S,bs,rfl,hk,rfl,hR,hb,hA,hD,H⟩ hnext
 dsimp only
 have hsum:=Ua os k
 have hfsum:=hfw.sum
 refine AO (fun h1=>?_) (fun h1=>RP fun w3 H'=>⟨_,rfl,rfl,(H.ext0 H').done⟩)
 have hkl:k<os.length:=by omega
 obtain⟨hst1,hst2⟩:=hfw.step hkl
 refine F8.mk (fun(sj:Option Addr×Option Addr)(w':World)=>∃(y:GW)(x:DW)(s:St)(p:JP)(tt:Nat)(wt:Int)(Ps:List AP)(T:Tou)(S:SW)(bs:List Nat),sj=(some ⟨x.b,0,none⟩,some ⟨y.jb,0,none⟩)/\Rest y x s p Ps 5000/\JBnd (2*(k+1)) (sumL (os.take (k+1))) s Ps T wt/\Goes S.rows s Ps T wt/\Doc S (k+1) (Az Ps)/\
   Hp [] W w' (AZ y x s p tt wt Ps T++(.blk b [S.now.v,.slice S.pa S.past.length S.pc] 50::.any bs (fun W=>SAt W S)::[]))) ?_ ?_
 ·rintro sj w' ⟨y,x,s,p,tt,wt,Ps,T,S,bs,rfl,hR,hb,hA,hD,H⟩
  exact⟨AY.2 (by omega),hnext (os.length-(k+1)) _ _ (by omega) ⟨k+1,y,x,s,p,tt,wt,Ps,T,S,bs,rfl,by omega,rfl,hR,hb,hA,hD,H⟩⟩
 clear hnext
 intro R' hR'
 obtain⟨ad,had,hld⟩:=(hs.chg H.chg).ld hkl
 have hgd:=hfw.good _ (getElem_mem hkl)
 have hro:=hs.rows _ (getElem_mem hkl)
 generalize os[k]=o at hld hst1 hst2 hgd hro
 refine AA had ⟨⟨by omega,by omega⟩,_,_,_,_,by rw[Int.toNat_natCast];exact hld,?_⟩
 intro b1 w8 hn
 replace H:=H.new (cs:=[.int .i64 0,.slice none 0 0]) EQ4 hn
 clear hn
 refine Hp.stA (o:=0) H EQ4 Rq (vs:=o.cs) rfl rfl (by simp) (cs':=o.cs) rfl ?_
 clear H w8;intro w8 H
 intro b2 w9 hn
 replace H:=H.new (cs:=[.int .i64 0,.int .i64 0,.int .i64 0,.slice none 0 0,.bool false]) EQ4 hn
 clear hn
 refine Hp.stA (o:=0) H EQ4 RG (vs:=[.int .i64 0,.int .i64 0,.int .i64 0,.slice none 0 0,.bool false]) rfl rfl (by simp) (cs':=[.int .i64 0,.int .i64 0,.int .i64 0,.slice none 0 0,.bool false]) rfl ?_
 clear H w9;intro w9 H
 refine F8.mk (fun(_:PUnit)(w':World)=>∃f:Flt,f.Ok/\Cells W f.pa (ints f.picks)/\Hp [] W w' (AZ y x s p tt wt Ps T++(.blk b [S.now.v,.slice S.pa S.past.length S.pc] 50::.any bs (fun W=>SAt W S)::.blk b1 o.cs 53::[.blk b2 f.cs 46]))) ?main ?fault
 case fault=>
  intro R2 hR2
  refine AO (fun hkf=>?_) (fun _=>?_)
  ·have hkf:k<fs.length:=by omega
   obtain⟨ad2,had2,hld2⟩:=hfs.ld H.chg hkf
   obtain⟨ok1,ok2⟩:=hfs.ok _ (getElem_mem hkf)
   generalize fs[k]=f at hld2 ok1 ok2
   refine AA had2 ⟨⟨by omega,by omega⟩,_,_,_,_,_,_,_,by rw[Int.toNat_natCast];exact hld2,?_⟩
   refine Hp.stA (o:=0) H EQ4 RG (vs:=f.cs) rfl rfl (by simp) (cs':=f.cs) rfl ?_
   clear H;intro w10 H
   exact hR2 _ _ ⟨f,ok1,ok2,H.perm (by(refine AC fun ff gg h0 hc ha hpm=>?_;simp only[ha,hc,h0];omega))⟩
  ·exact hR2 _ _ ⟨⟨0,0,0,none,0,[],false⟩,⟨by decide,by decide,Nat.le_refl _⟩,by intro j v hj;simp[ints]at hj,H.perm (M:=AZ y x s p tt wt Ps T++(.blk b [S.now.v,.slice S.pa S.past.length S.pc] 50::.any bs (fun W=>SAt W S)::.blk b1 o.cs 53::[.blk b2 [.int .i64 0,.int .i64 0,.int .i64 0,.slice none 0 0,.bool false] 46])) (by(refine AC fun ff gg h0 hc ha hpm=>?_;simp only[ha,hc,h0];omega))⟩
 case main=>
 clear H
 rintro _ w10 ⟨f,hf,hP,H⟩
 have mF:∀{Z:List Asn},Asn.blk b2 f.cs 46∈Z++(.blk b [S.now.v,.slice S.pa S.past.length S.pc] 50::.any bs (fun W=>SAt W S)::.blk b1 o.cs 53::[.blk b2 f.cs 46]):=mem_append_right _ (.tail _ (.tail _ (.tail _ (.head _))))
 have mO:∀{Z:List Asn},Asn.blk b1 o.cs 53∈Z++(.blk b [S.now.v,.slice S.pa S.past.length S.pc] 50::.any bs (fun W=>SAt W S)::.blk b1 o.cs 53::[.blk b2 f.cs 46]):=mem_append_right _ (.tail _ (.tail _ (.head _)))
 have mS:∀{Z:List Asn},Asn.blk b [S.now.v,.slice S.pa S.past.length S.pc] 50∈Z++(.blk b [S.now.v,.slice S.pa S.past.length S.pc] 50::.any bs (fun W=>SAt W S)::.blk b1 o.cs 53::[.blk b2 f.cs 46]):=mem_append_right _ (.head _)
 have mA:∀{Z:List Asn},Asn.any bs (fun W=>SAt W S)∈Z++(.blk b [S.now.v,.slice S.pa S.past.length S.pc] 50::.any bs (fun W=>SAt W S)::.blk b1 o.cs 53::[.blk b2 f.cs 46]):=mem_append_right _ (.tail _ (.head _))
 refine⟨_,H.ld (o:=0) (cs:=f.cs) EQ4 gInt mF rfl,?_⟩
 have H1:=H.perm ((EK y x s p tt wt Ps T).append_right _)
 rw[append_assoc]at H1
 refine AL (Rh x s.d hR.dk f.dies w10 H1.std1) ?_
 rintro e w11 ⟨rfl,H'⟩
 have H2:=H1.useL H'
 clear H H1 H'
 have hx2:=Vg hR.dk hf.dies
 refine⟨rfl,_,H2.ld (o:=1) (cs:=f.cs) EQ4 gInt (mem_append_right _ mF) rfl,?_⟩
 refine AL (OA x _ hx2 f.denies w11 H2.std1) ?_
 rintro e w12 ⟨rfl,H'⟩
 have H3:=H2.useL H'
 clear H2 H'
 have hx3:=TD hx2 hf.denies
 have hcore:Core s.d ((s.d.arm f.dies).deny f.denies):=(Rn _ _).trans (OT _ _)
 obtain⟨s1,hs1⟩:∃s1:St,s1= {s with d:=(s.d.arm f.dies).deny f.denies}:=⟨_,rfl⟩
 have hb1:JBnd (2*k) (sumL (os.take k)) s1 Ps T wt:=by rw[hs1];exact hb.disk hcore
 have hA1:Goes S.rows s1 Ps T wt:=by rw[hs1];exact hA.disk hcore
 have hR1:Rest y x s1 p Ps 5000:=by
  have:=hb1.wj.sz
  rw[hs1]at this⊢
  exact hR.disk hx3 this
 have H4:Hp [] W w12 (AZ y x s1 p tt wt Ps T++(.blk b [S.now.v,.slice S.pa S.past.length S.pc] 50::.any bs (fun W=>SAt W S)::.blk b1 o.cs 53::[.blk b2 f.cs 46])):=by
  have e1:jnoD y x s p tt wt Ps T=jnoD y x s1 p tt wt Ps T:=by rw[hs1];rfl
  rw[e1]at H3
  have H5:Hp [] W w12 ((dkL x s1.d++jnoD y x s1 p tt wt Ps T)++(.blk b [S.now.v,.slice S.pa S.past.length S.pc] 50::.any bs (fun W=>SAt W S)::.blk b1 o.cs 53::[.blk b2 f.cs 46])):=by rw[append_assoc,show s1.d=(s.d.arm f.dies).deny f.denies by rw[hs1]];exact H3
  exact H5.perm ((EK y x s1 p tt wt Ps T).symm.append_right _)
 clear H3 hb hA hR hx2 hx3 hcore hs1 s
 refine⟨rfl,_,_,_,_,H4.ldA (o:=0) EQ4 Rq mO (vs:=o.cs) rfl rfl,?_⟩
 refine AL (does_spec y x s1 p tt wt Ps T hR1 hb1 (by omega) o (by omega) hgd w12 H4.std1 (fun W' hW=>hro.chg (H4.BQ.later hW) (by simp))) ?_
 rintro e w13 ⟨code,s',Ps',T',wt',hstep,rfl,y',x',p',hS2,hR'',hb',H'⟩
 have hN:=Nb H4.std1 hR1.bs
 have H5:=H4.useL H'
 clear H4 H'
 have hN':=Nb H5.std1 hR''.bs
 refine⟨_,rfl,_,_,_,_,_,_,H5.ldA (o:=0) EQ4 Dp mS (vs:=[S.now.v,.slice S.pa S.past.length S.pc]) rfl rfl,?_⟩
 intro b3 w14 hn
 have H6:=H5.new (cs:=[.slice none 0 0,.slice none 0 0]) EQ4 hn
 clear H5 hn
 refine Hp.stA (o:=0) H6 EQ4 Dp (vs:=[S.now.v,.slice S.pa S.past.length S.pc]) rfl rfl (by simp) (cs':=[S.now.v,.slice S.pa S.past.length S.pc]) rfl ?_
 clear H6 w14;intro w14 H6
 have H5:=H6.drop
 clear H6
 have hnr:=Gp hN hR1.few
 have hDl:=hD.len
 refine⟨_,_,_,_,_,_,H5.ldA (o:=0) EQ4 Dp mS (vs:=[S.now.v,.slice S.pa S.past.length S.pc]) rfl rfl,_,_,_,_,H5.ldA (o:=0) EQ4 Rq mO (vs:=o.cs) rfl rfl,?_⟩
 refine AL (rsdo_spec S (by omega) (by rw[hD.at_];omega) (by rw[hD.at_];intro c hc;have:=hnr.2 c hc;omega) o.kind o.a o.c o.l (by omega) (fun c hc=>by have:=(hgd c hc).2;omega) code w14 (Ht (H5.ok _ mA)) (hro.chg H5.chg (by simp))) ?_
 rintro e w15 ⟨S',rfl,hdo,M,H',hMs⟩
 obtain⟨hL,hD',hLw⟩:=crash_step hA1 hD hb1 (by omega) hR1.idle hR1.pages hst2 hstep hN hN' hR''.few hdo
 rw[<- hst1]at hb' hL hLw
 have H6:=(H5.ext H').perm (M:=.blk b [S.now.v,.slice S.pa S.past.length S.pc] 50::((M++[.any bs (fun W=>SAt W S)])++(AZ y' x' s' p' tt wt' Ps' T'++(.blk b1 o.cs 53::[.blk b2 f.cs 46])))) (by(refine AC fun ff gg h0 hc ha hpm=>?_;simp only[ha,hc,h0];omega))
 clear H5 H' hN hA1 hb1 hR1
 refine⟨_,_,_,_,_,_,rfl,?_⟩
 refine Hp.stA (o:=0) H6 EQ4 Dp (vs:=[S'.now.v,.slice S'.pa S'.past.length S'.pc]) rfl rfl (by simp) (cs':=[S'.now.v,.slice S'.pa S'.past.length S'.pc]) rfl ?_
 clear H6;intro w16 H6
 have H7:=Hp.glue (M:=M++[.any bs (fun W=>SAt W S)]) (F:=fun W=>SAt W S') (H6.perm (M:=(M++[.any bs (fun W=>SAt W S)])++(AZ y' x' s' p' tt wt' Ps' T'++(.blk b [S'.now.v,.slice S'.pa S'.past.length S'.pc] 50::.blk b1 o.cs 53::[.blk b2 f.cs 46]))) (by(refine AC fun ff gg h0 hc ha hpm=>?_;simp only[ha,hc,h0];omega))) (fun W' hW=>hMs W' (fun a ha=>hW a (mem_append_left _ ha)) (Ht (hW _ (mem_append_right _ (.head _)))))
 clear H6
 generalize feet (M++[.any bs (fun W=>SAt W S)])=bs' at H7
 replace H7:=H7.perm (M:=AZ y' x' s' p' tt wt' Ps' T'++(.blk b [S'.now.v,.slice S'.pa S'.past.length S'.pc] 50::.any bs' (fun W=>SAt W S')::.blk b1 o.cs 53::[.blk b2 f.cs 46])) (by(refine AC fun ff gg h0 hc ha hpm=>?_;simp only[ha,hc,h0];omega))
 have hjb:=hS2.jb
 have hxb:=hS2.xb
 clear mF mO mS mA hMs hdo hS2
 refine F8.mk (fun(_:PUnit)(w':World)=>∃(S2:SW)(bs2:List Nat),Left S2.rows code (2*k+1) (sumL (os.take (k+1))) s' Ps' T' wt'/\Doc S2 (k+1) (Az Ps')/\Hp [] W w' (AZ y' x' s' p' tt wt' Ps' T'++(.blk b [S2.now.v,.slice S2.pa S2.past.length S2.pc] 50::.any bs2 (fun W=>SAt W S2)::.blk b1 o.cs 53::[.blk b2 f.cs 46]))) ?tail ?cond
 case cond=>
  intro R3 hR3
  refine F8.mk (fun(sb:Bool)(w':World)=>(sb=true->o.kind=2/\code≠0/\wt'=0)/\Hp [] W w' (AZ y' x' s' p' tt wt' Ps' T'++(.blk b [S'.now.v,.slice S'.pa S'.past.length S'.pc] 50::.any bs' (fun W=>SAt W S')::.blk b1 o.cs 53::[.blk b2 f.cs 46]))) ?new ?ask
  case ask=>
   intro R4 hR4
   refine⟨_,H7.ld (o:=0) (cs:=o.cs) EQ4 gInt (mem_append_right _ (.tail _ (.tail _ (.head _)))) rfl,?_⟩
   refine AO (fun hk2=>Aw (fun hc0=>?_) (fun _=>hR4 _ _ ⟨fun h=>(by cases h),H7⟩)) (fun _=>hR4 _ _ ⟨fun h=>(by cases h),H7⟩)
   have hw:=LC y'.jb (ptrV x'.b) (ptrV y'.lw.b) (ptrV y'.pb) p' (some tt) wt' w16 (H7.blk (mem_append_left _ (Eg ..)))
   rw[hjb]at hw
   refine AL hw ?_
   rintro e w17 ⟨rfl,H'⟩
   exact⟨_,rfl,hR4 _ _ ⟨fun h=>⟨hk2,hc0,of_decide_eq_true h⟩,H7.ext0 H'⟩⟩
  case new=>
   clear H7
   rintro sb w17 ⟨hsb,H⟩
   refine CE (fun hsb1=>?_) (fun _=>hR3 _ _ ⟨S',bs',hL,hD',H⟩)
   obtain⟨hk2,hc0,hw0⟩:=hsb hsb1
   refine⟨_,_,_,H.ld (o:=0) (cs:=[S'.now.v,.slice S'.pa S'.past.length S'.pc]) EQ4 gSR (mem_append_right _ (.head _)) rfl,?_⟩
   refine AL (Gu S'.now.a S'.now.c S'.now.l w17) ?_
   rintro e w18 ⟨b9,rfl,H'⟩
   have H1:=(H.ext1 H').perm (M:=.blk b [S'.now.v,.slice S'.pa S'.past.length S'.pc] 50::([.blk b9 [.slice S'.now.a S'.now.l.length S'.now.c] 38,.any bs' (fun W=>SAt W S')]++(AZ y' x' s' p' tt wt' Ps' T'++(.blk b1 o.cs 53::[.blk b2 f.cs 46])))) (by(refine AC fun ff gg h0 hc ha hpm=>?_;simp only[ha,hc,h0];omega))
   clear H H'
   refine⟨_,_,_,_,_,_,rfl,?_⟩
   refine Hp.stA (o:=0) H1 EQ4 Dp (vs:=[S'.now.v,.slice (some ⟨b9,0,none⟩) 1 1]) rfl rfl (by simp) (cs':=[S'.now.v,.slice (some ⟨b9,0,none⟩) 1 1]) rfl ?_
   clear H1;intro w19 H1
   have H2:=Hp.glue (M:=[.blk b9 [.slice S'.now.a S'.now.l.length S'.now.c] 38,.any bs' (fun W=>SAt W S')]) (F:=fun W=>SAt W ⟨S'.now,some ⟨b9,0,none⟩,1,[S'.now]⟩) (H1.perm (M:=[.blk b9 [.slice S'.now.a S'.now.l.length S'.now.c] 38,.any bs' (fun W=>SAt W S')]++(AZ y' x' s' p' tt wt' Ps' T'++(.blk b [S'.now.v,.slice (some ⟨b9,0,none⟩) 1 1] 50::.blk b1 o.cs 53::[.blk b2 f.cs 46]))) (by(refine AC fun ff gg h0 hc ha hpm=>?_;simp only[ha,hc,h0];omega))) (fun W' hW=>MM (la:=S'.now.a) (lc:=S'.now.c) (l:=S'.now.l) (hW _ (.head _)) (Ht (hW _ (.tail _ (.head _)))).now)
   clear H1
   have hnow:=hD'.at_
   have hL2:=hLw hk2 hc0 hw0
   rw[<- hnow]at hL2
   exact hR3 _ _ ⟨⟨S'.now,some ⟨b9,0,none⟩,1,[S'.now]⟩,_,hL2,Doc.one (S':=⟨S'.now,some ⟨b9,0,none⟩,1,[S'.now]⟩) ⟨hnow,by rw[<- hnow];rfl⟩ (Gp hN' hR''.few).1 _,H2.perm (M:=AZ y' x' s' p' tt wt' Ps' T'++(.blk b [S'.now.v,.slice (some ⟨b9,0,none⟩) 1 1] 50::.any (feet [.blk b9 [.slice S'.now.a S'.now.l.length S'.now.c] 38,.any bs' (fun W=>SAt W S')]) (fun W=>SAt W ⟨S'.now,some ⟨b9,0,none⟩,1,[S'.now]⟩)::.blk b1 o.cs 53::[.blk b2 f.cs 46])) (by(refine AC fun ff gg h0 hc ha hpm=>?_;simp only[ha,hc,h0];omega))⟩
 case tail=>
 clear H7 hL hD' hLw S'
 rintro _ w17 ⟨S2,bs2,hL2,hD2,H⟩
 have hnr2:=Gp hN' hR''.few
 have mS2:∀{Z:List Asn},Asn.blk b [S2.now.v,.slice S2.pa S2.past.length S2.pc] 50∈Z++(.blk b [S2.now.v,.slice S2.pa S2.past.length S2.pc] 50::.any bs2 (fun W=>SAt W S2)::.blk b1 o.cs 53::[.blk b2 f.cs 46]):=mem_append_right _ (.head _)
 have mA2:∀{Z:List Asn},Asn.any bs2 (fun W=>SAt W S2)∈Z++(.blk b [S2.now.v,.slice S2.pa S2.past.length S2.pc] 50::.any bs2 (fun W=>SAt W S2)::.blk b1 o.cs 53::[.blk b2 f.cs 46]):=mem_append_right _ (.tail _ (.head _))
 refine⟨_,_,_,H.drew.ld (o:=0) (cs:=[S2.now.v,.slice S2.pa S2.past.length S2.pc]) EQ4 gSR mS2 rfl,?_⟩
 have hjr:=Hf y'.jb (ptrV x'.b) (ptrV y'.lw.b) (ptrV y'.pb) p' (some tt) wt' Ps' hR''.bs hR''.few w17.drew (Hp.std1 (L1:=jpL y'.jb (ptrV x'.b) (ptrV y'.lw.b) (ptrV y'.pb) p' (some tt) wt' Ps') (H.drew.BQ))
 rw[hjb]at hjr
 refine AL hjr ?_
 rintro e w18 ⟨a5,c5,rfl,hlen,H'⟩
 have H1:=H.drew.ext1 H'
 clear H H' hjr
 refine⟨_,_,_,rfl,H1.ld (o:=0) (cs:=[S2.now.v,.slice S2.pa S2.past.length S2.pc]) EQ4 gSR (.tail _ mS2) rfl,?_⟩
 refine AL (LP a5 c5 _ (by omega) w18 (H1.ownA (.head _)).cells) ?_
 rintro e w19 ⟨a6,c6,rfl,H'⟩
 have H2:=H1.ext1 H'
 clear H1 H'
 refine⟨_,_,_,rfl,H2.ld (o:=0) (cs:=[S2.now.v,.slice S2.pa S2.past.length S2.pc]) EQ4 gSR (.tail _ (.tail _ mS2)) rfl,?_⟩
 have hnow:=hD2.at_
 refine AL (QX a6 c6 (Az Ps') S2.now.a S2.now.c S2.now.l (by omega) w19 (H2.ownA (.head _)).cells (Ht (H2.ok _ (.tail _ (.tail _ mA2)))).now) ?_
 rintro e w20 ⟨rfl,H'⟩
 have H3:=(H2.ext0 H').drop.drop
 clear H2 H'
 refine⟨_,rfl,BI (fun h=>by rw[hnow,decide_eq_true rfl]at h;cases h) (fun _=>?_)⟩
 have H4:=H3.perm ((EK y' x' s' p' tt wt' Ps' T').append_right _)
 rw[append_assoc]at H4
 clear H3
 have har:=Rh x' s'.d hR''.dk 0 w20 H4.std1
 rw[hxb]at har
 refine AL har ?_
 rintro e w21 ⟨rfl,H'⟩
 have H5:=H4.useL H'
 clear H4 H' har
 have hx2:=Vg hR''.dk (k:=0) (by decide)
 have hdn:=OA x' _ hx2 0 w21 H5.std1
 rw[hxb]at hdn
 refine⟨rfl,AL hdn ?_⟩
 rintro e w22 ⟨rfl,H'⟩
 have H6:=H5.useL H'
 clear H5 H' hdn
 have hx3:=TD hx2 (k:=0) (by decide)
 have hcore:Core s'.d ((s'.d.arm 0).deny 0):=(Rn _ _).trans (OT _ _)
 obtain⟨s2,hs2⟩:∃s2:St,s2= {s' with d:=(s'.d.arm 0).deny 0}:=⟨_,rfl⟩
 have hb2:JBnd (2*k+1) (sumL (os.take (k+1))) s2 Ps' T' wt':=by rw[hs2];exact hb'.disk hcore
 have hL3:Left S2.rows code (2*k+1) (sumL (os.take (k+1))) s2 Ps' T' wt':=by rw[hs2];exact hL2.disk hcore
 have hR2:Rest y' x' s2 p' Ps' 5000:=by
  have:=hb2.wj.sz
  rw[hs2]at this⊢
  exact hR''.disk hx3 this
 have H:Hp [] W w22 (AZ y' x' s2 p' tt wt' Ps' T'++(.blk b [S2.now.v,.slice S2.pa S2.past.length S2.pc] 50::.any bs2 (fun W=>SAt W S2)::.blk b1 o.cs 53::[.blk b2 f.cs 46])):=by
  have e1:jnoD y' x' s' p' tt wt' Ps' T'=jnoD y' x' s2 p' tt wt' Ps' T':=by rw[hs2];rfl
  rw[e1]at H6
  have H7:Hp [] W w22 ((dkL x' s2.d++jnoD y' x' s2 p' tt wt' Ps' T')++(.blk b [S2.now.v,.slice S2.pa S2.past.length S2.pc] 50::.any bs2 (fun W=>SAt W S2)::.blk b1 o.cs 53::[.blk b2 f.cs 46])):=by rw[append_assoc,show s2.d=(s'.d.arm 0).deny 0 by rw[hs2]];exact H6
  exact H7.perm ((EK y' x' s2 p' tt wt' Ps' T').symm.append_right _)
 clear H6 hb' hL2 hR'' hx2 hx3 hcore hs2 hstep s'
 have hbd:2*k+1<=2*(k+1):=by omega
 have hgo:(code=0\/code=180)->R' (some ⟨x.b,0,none⟩,some ⟨y.jb,0,none⟩) w22:=fun hc=>by
  refine hR' _ _ ⟨y',x',s2,p',tt,wt',Ps',T',S2,bs2,by rw[hjb,hxb],hR2,hb2.mono hbd (Nat.le_refl _),hL3.goes hc,hD2,?_⟩
  exact(H.perm (M:=(AZ y' x' s2 p' tt wt' Ps' T'++(.blk b [S2.now.v,.slice S2.pa S2.past.length S2.pc] 50::.any bs2 (fun W=>SAt W S2)::[]))++(.blk b1 o.cs 53::[.blk b2 f.cs 46])) (by(refine AC fun ff gg h0 hc ha hpm=>?_;simp only[ha,hc,h0];omega))).BQ
 refine⟨rfl,AO (fun h=>hgo (.inl h)) (fun hc0=>AO (fun h=>hgo (.inr h)) (fun hc1=>AO (fun h=>absurd h hL3.ro) (fun _=>?_)))⟩
 clear hgo
 have hAf:=hL3.saf hc0 hc1
 have hjs:=jstuck_spec y'.jb (ptrV x'.b) (ptrV y'.pb) y'.lw x'.b s2.lg p' (some tt) wt' w22 (H.blk (mem_append_left _ (Eg ..))) (Hp.std1 (L1:=[lgA y'.lw x'.b s2.lg]) (H.perm (M:=[lgA y'.lw x'.b s2.lg]++(jpL y'.jb (ptrV x'.b) (ptrV y'.lw.b) (ptrV y'.pb) p' (some tt) wt' Ps'++(touA tt T'::BN y' x' s2::fsA y' s2::lgT y'.lw s2.lg::lgB y'.lw s2.lg::(frsL y'.fs s2.fs++dkL x' s2.d))++(.blk b [S2.now.v,.slice S2.pa S2.past.length S2.pc] 50::.any bs2 (fun W=>SAt W S2)::.blk b1 o.cs 53::[.blk b2 f.cs 46]))) (by rw[AZ,DX];(refine AC fun ff gg h0 hc ha hpm=>?_;simp only[ha,hc,h0];omega))))
 rw[hjb]at hjs
 refine AL hjs ?_
 rintro e w23 ⟨rfl,H'⟩
 replace H:=H.ext0 H'
 clear H' hjs
 refine⟨_,rfl,Aw (fun hstk=>?_) (fun _=>?_)⟩
 ·have hjc:=GV y' x' s2 p' tt wt' Ps' T' 5000 hR2 (by have:=hb2.wt;omega) (fun n=>by have:=hb2.tn n;omega) (by have:=hb2.b;omega) (by have:=hb2.all;omega) none 0 [] (by decide) (by simp) w23 H.std1 (fun W' _=>by intro j v hj;simp[chC]at hj)
  rw[<- hjb]
  refine AL hjc ?_
  rintro e w24 ⟨code2,lg2,Ps2,T2,wt2,hcr,rfl,lw2,p2',hlw2,hR3,H'⟩
  have K:=H.useL H'
  clear H'
  rcases hcr with⟨_,rfl,rfl,rfl,rfl,rfl⟩|⟨h0,_⟩|⟨h0,_⟩
  ·refine⟨_,rfl,Aw (fun h=>absurd rfl h) (fun _=>?_)⟩
   clear H hjc
   have H:Hp [] W w24 (AZ {y' with lw:=lw2} x' s2 p2' tt wt2 Ps2 T2++(.blk b [S2.now.v,.slice S2.pa S2.past.length S2.pc] 50::.any bs2 (fun W=>SAt W S2)::.blk b1 o.cs 53::[.blk b2 f.cs 46])):=K
   clear K
   have hxx:x'.b=x.b:=hxb
   have hRR:Rest {y' with lw:=lw2} x' s2 p2' Ps2 5000:=hR3
   have hbb:JBnd (2*k+1) (sumL (os.take (k+1))) s2 Ps2 T2 wt2:=hb2
   have mF:Asn.blk b2 f.cs 46∈AZ {y' with lw:=lw2} x' s2 p2' tt wt2 Ps2 T2++(.blk b [S2.now.v,.slice S2.pa S2.past.length S2.pc] 50::.any bs2 (fun W=>SAt W S2)::.blk b1 o.cs 53::[.blk b2 f.cs 46]):=mem_append_right _ (.tail _ (.tail _ (.tail _ (.head _))))
   refine⟨_,_,_,_,_,_,_,H.ldA (o:=0) EQ4 RG mF (vs:=f.cs) rfl rfl,?_⟩
   have H1:=H.perm ((EK {y' with lw:=lw2} x' s2 p2' tt wt2 Ps2 T2).append_right _)
   rw[append_assoc]at H1
   obtain⟨⟨k0,m0,A0,Q0,hF⟩,hcalm,hfit⟩:=(hAf.saf hbb).dD hbb.wj.fit f
   obtain⟨c0,hrows,hall,hrun⟩:=hF.run hcalm hfit ⟨by omega,by omega⟩
   have hop:=P9 x' s2.d hRR.dk hbb.wj.fit (by omega) f hf _ H1.std1 (fun W' hW=>hP.chg (H1.BQ.later hW) (by simp))
   rw[hxx]at hop
   refine AL hop ?_
   rintro e wd ⟨z,hz,hcase⟩
   rcases hcase with⟨hc,_⟩|⟨_,yn,sn,pn,ttn,mn,rfl,hRn,hmn,hsdn,hsln,hsmn,hTn,H'⟩
   ·exact absurd c0 hc
   obtain⟨⟨qn,hrunn⟩,hbndn⟩:=hrun sn hsdn hsln (fun g hg=>(hRn.idle.cl hmn g hg).1) hTn
   have H2:=H1.useL H'
   clear H1 H' hop H mF
   refine⟨_,_,rfl,_,Cb TI,CX ?_⟩
   have hst:Std wd (jpL yn.jb (ptrV z.b) (ptrV yn.lw.b) (ptrV yn.pb) pn (some ttn) 0 (Ac (Bd s2.d f)).2.2.2.Ps):=Hp.std1 (L1:=jpL yn.jb (ptrV z.b) (ptrV yn.lw.b) (ptrV yn.pb) pn (some ttn) 0 (Ac (Bd s2.d f)).2.2.2.Ps) H2.BQ.BQ
   generalize Ac (Bd s2.d f)=r at hrows hRn hst H2 hrunn hbndn
   have H3:=(H2.perm (M:=(AZ yn z sn pn ttn 0 r.2.2.2.Ps r.2.2.2.T++(.blk b [S2.now.v,.slice S2.pa S2.past.length S2.pc] 50::[.any bs2 (fun W=>SAt W S2)]))++(dkL x' s2.d++(jnoD {y' with lw:=lw2} x' s2 p2' tt wt2 Ps2 T2++(.blk b1 o.cs 53::[.blk b2 f.cs 46])))) (by(refine AC fun ff gg h0 hc ha hpm=>?_;simp only[ha,hc,h0];omega))).BQ
   clear H2
   have hNn:=Gp (Nb H3.std1 hRn.bs) hRn.few
   refine AL (Hf yn.jb (ptrV z.b) (ptrV yn.lw.b) (ptrV yn.pb) pn (some ttn) 0 _ hRn.bs hRn.few wd hst) ?_
   rintro e we ⟨a5,c5,rfl,hlen,H'⟩
   have H4:=H3.ext1 H'
   clear H3 H' hst
   refine⟨_,_,_,rfl,?_⟩
   refine AL (LP a5 c5 _ (by omega) we (H4.ownA (.head _)).cells) ?_
   rintro e wf ⟨a6,c6,rfl,H'⟩
   have H5:=H4.ext1 H'
   clear H4 H'
   have mS:∀{Z:List Asn},Asn.blk b [S2.now.v,.slice S2.pa S2.past.length S2.pc] 50∈Z++(.blk b [S2.now.v,.slice S2.pa S2.past.length S2.pc] 50::[.any bs2 (fun W=>SAt W S2)]):=mem_append_right _ (.head _)
   have mA:∀{Z:List Asn},Asn.any bs2 (fun W=>SAt W S2)∈Z++(.blk b [S2.now.v,.slice S2.pa S2.past.length S2.pc] 50::[.any bs2 (fun W=>SAt W S2)]):=mem_append_right _ (.tail _ (.head _))
   refine⟨_,_,_,rfl,_,_,_,_,_,_,H5.ldA (o:=0) EQ4 Dp (.tail _ (.tail _ mS)) (vs:=[S2.now.v,.slice S2.pa S2.past.length S2.pc]) rfl rfl,?_⟩
   refine AL (KT S2 (by have:=hD2.len;omega) (fun r hr=>by have:=hD2.past r hr;omega) a6 c6 (Az r.2.2.2.Ps) wf (Ht (H5.ok _ (.tail _ (.tail _ mA)))) (H5.ownA (.head _)).cells) ?_
   rintro e wg ⟨rfl,H'⟩
   replace H5:=H5.ext0 H'
   clear H'
   refine⟨_,rfl,BI (fun h=>by rw[decide_eq_true hrows]at h;cases h) (fun _=>?_)⟩
   refine⟨_,_,_,_,_,_,H5.ldA (o:=0) EQ4 Dp (.tail _ (.tail _ mS)) (vs:=[S2.now.v,.slice S2.pa S2.past.length S2.pc]) rfl rfl,?_⟩
   refine AL (KT S2 (by have:=hD2.len;omega) (fun r hr=>by have:=hD2.past r hr;omega) a6 c6 (Az r.2.2.2.Ps) wg (Ht (H5.ok _ (.tail _ (.tail _ mA)))) (H5.ownA (.head _)).cells) ?_
   rintro e wh ⟨rfl,H'⟩
   replace H5:=H5.ext0 H'
   clear H'
   refine⟨_,rfl,BI (fun h=>by rw[decide_eq_true hrows]at h;cases h) (fun _=>?_)⟩
   refine AL (Gu a6 c6 (Az r.2.2.2.Ps) wh) ?_
   rintro e wi ⟨b9,rfl,H'⟩
   have H':Hp [] wh wi [.blk b9 [.slice a6 (Az r.2.2.2.Ps).length c6] 38]:=H'
   have H6:=H5.ext1 H'
   clear H5 H' mS mA
   refine⟨_,_,_,_,_,_,rfl,?_⟩
   obtain⟨now,hnow⟩:∃now,now=Az r.2.2.2.Ps:=⟨_,rfl⟩
   rw[<- hnow]at H6 hrows hNn hlen⊢
   refine Hp.stA (o:=0) (H6.perm (M:=.blk b [S2.now.v,.slice S2.pa S2.past.length S2.pc] 50::([.blk b9 [.slice a6 now.length c6] 38,.own 98 4 a6 now.length c6 (chC now)]++(AZ yn z sn pn ttn 0 r.2.2.2.Ps r.2.2.2.T++[.own 73 4 a5 now.length c5 (chC now),.any bs2 (fun W=>SAt W S2)]))) (by(refine AC fun ff gg h0 hc ha hpm=>?_;simp only[ha,hc,h0];omega))) EQ4 Dp (vs:=[.slice a6 now.length c6,.slice (some ⟨b9,0,none⟩) 1 1]) rfl rfl (by simp) (cs':=[.slice a6 now.length c6,.slice (some ⟨b9,0,none⟩) 1 1]) rfl ?_
   clear H6;intro wj H6
   have H7:=Hp.glue (M:=[.blk b9 [.slice a6 now.length c6] 38,.own 98 4 a6 now.length c6 (chC now)]) (F:=fun W=>SAt W ⟨⟨a6,c6,now⟩,some ⟨b9,0,none⟩,1,[⟨a6,c6,now⟩]⟩) (H6.perm (M:=[.blk b9 [.slice a6 now.length c6] 38,.own 98 4 a6 now.length c6 (chC now)]++(AZ yn z sn pn ttn 0 r.2.2.2.Ps r.2.2.2.T++[.own 73 4 a5 now.length c5 (chC now),.any bs2 (fun W=>SAt W S2),.blk b [.slice a6 now.length c6,.slice (some ⟨b9,0,none⟩) 1 1] 50])) (by(refine AC fun ff gg h0 hc ha hpm=>?_;simp only[ha,hc,h0];omega))) (fun W' hW=>MM (hW _ (.head _)) (Own.cells (hW _ (.tail _ (.head _)))))
   clear H6
   have H8:=(H7.perm (M:=(AZ yn z sn pn ttn 0 r.2.2.2.Ps r.2.2.2.T++(.blk b [.slice a6 now.length c6,.slice (some ⟨b9,0,none⟩) 1 1] 50::.any (feet [.blk b9 [.slice a6 now.length c6] 38,.own 98 4 a6 now.length c6 (chC now)]) (fun W=>SAt W ⟨⟨a6,c6,now⟩,some ⟨b9,0,none⟩,1,[⟨a6,c6,now⟩]⟩)::[]))++[.own 73 4 a5 now.length c5 (chC now),.any bs2 (fun W=>SAt W S2)]) (by(refine AC fun ff gg h0 hc ha hpm=>?_;simp only[ha,hc,h0];omega))).BQ
   clear H7
   exact hR' _ _ ⟨yn,z,sn,pn,ttn,0,r.2.2.2.Ps,r.2.2.2.T,⟨⟨a6,c6,now⟩,some ⟨b9,0,none⟩,1,[⟨a6,c6,now⟩]⟩,_,rfl,⟨hRn.fs,hRn.dk,hRn.idle.any,hRn.pages,hRn.sz,hRn.bs,hRn.few⟩,hbndn.mono (by omega) (by omega),⟨_,_,_,_,hrunn,by rw[<- hnow];exact .head _⟩,by rw[<- hnow];exact Doc.one ⟨rfl,rfl⟩ hNn.1 _,H8⟩
  ·exact absurd h0 hstk
  ·exact absurd h0 hstk
 ·have hxx:x'.b=x.b:=hxb
  have hRR:=hR2
  have hbb:=hb2
  have mF:Asn.blk b2 f.cs 46∈AZ y' x' s2 p' tt wt' Ps' T'++(.blk b [S2.now.v,.slice S2.pa S2.past.length S2.pc] 50::.any bs2 (fun W=>SAt W S2)::.blk b1 o.cs 53::[.blk b2 f.cs 46]):=mem_append_right _ (.tail _ (.tail _ (.tail _ (.head _))))
  refine⟨_,_,_,_,_,_,_,H.ldA (o:=0) EQ4 RG mF (vs:=f.cs) rfl rfl,?_⟩
  have H1:=H.perm ((EK y' x' s2 p' tt wt' Ps' T').append_right _)
  rw[append_assoc]at H1
  obtain⟨⟨k0,m0,A0,Q0,hF⟩,hcalm,hfit⟩:=(hAf.saf hbb).dD hbb.wj.fit f
  obtain⟨c0,hrows,hall,hrun⟩:=hF.run hcalm hfit ⟨by omega,by omega⟩
  have hop:=P9 x' s2.d hRR.dk hbb.wj.fit (by omega) f hf _ H1.std1 (fun W' hW=>hP.chg (H1.BQ.later hW) (by simp))
  rw[hxx]at hop
  refine AL hop ?_
  rintro e wd ⟨z,hz,hcase⟩
  rcases hcase with⟨hc,_⟩|⟨_,yn,sn,pn,ttn,mn,rfl,hRn,hmn,hsdn,hsln,hsmn,hTn,H'⟩
  ·exact absurd c0 hc
  obtain⟨⟨qn,hrunn⟩,hbndn⟩:=hrun sn hsdn hsln (fun g hg=>(hRn.idle.cl hmn g hg).1) hTn
  have H2:=H1.useL H'
  clear H1 H' hop H mF
  refine⟨_,_,rfl,_,Cb TI,CX ?_⟩
  have hst:Std wd (jpL yn.jb (ptrV z.b) (ptrV yn.lw.b) (ptrV yn.pb) pn (some ttn) 0 (Ac (Bd s2.d f)).2.2.2.Ps):=Hp.std1 (L1:=jpL yn.jb (ptrV z.b) (ptrV yn.lw.b) (ptrV yn.pb) pn (some ttn) 0 (Ac (Bd s2.d f)).2.2.2.Ps) H2.BQ.BQ
  generalize Ac (Bd s2.d f)=r at hrows hRn hst H2 hrunn hbndn
  have H3:=(H2.perm (M:=(AZ yn z sn pn ttn 0 r.2.2.2.Ps r.2.2.2.T++(.blk b [S2.now.v,.slice S2.pa S2.past.length S2.pc] 50::[.any bs2 (fun W=>SAt W S2)]))++(dkL x' s2.d++(jnoD y' x' s2 p' tt wt' Ps' T'++(.blk b1 o.cs 53::[.blk b2 f.cs 46])))) (by(refine AC fun ff gg h0 hc ha hpm=>?_;simp only[ha,hc,h0];omega))).BQ
  clear H2
  have hNn:=Gp (Nb H3.std1 hRn.bs) hRn.few
  refine AL (Hf yn.jb (ptrV z.b) (ptrV yn.lw.b) (ptrV yn.pb) pn (some ttn) 0 _ hRn.bs hRn.few wd hst) ?_
  rintro e we ⟨a5,c5,rfl,hlen,H'⟩
  have H4:=H3.ext1 H'
  clear H3 H' hst
  refine⟨_,_,_,rfl,?_⟩
  refine AL (LP a5 c5 _ (by omega) we (H4.ownA (.head _)).cells) ?_
  rintro e wf ⟨a6,c6,rfl,H'⟩
  have H5:=H4.ext1 H'
  clear H4 H'
  have mS:∀{Z:List Asn},Asn.blk b [S2.now.v,.slice S2.pa S2.past.length S2.pc] 50∈Z++(.blk b [S2.now.v,.slice S2.pa S2.past.length S2.pc] 50::[.any bs2 (fun W=>SAt W S2)]):=mem_append_right _ (.head _)
  have mA:∀{Z:List Asn},Asn.any bs2 (fun W=>SAt W S2)∈Z++(.blk b [S2.now.v,.slice S2.pa S2.past.length S2.pc] 50::[.any bs2 (fun W=>SAt W S2)]):=mem_append_right _ (.tail _ (.head _))
  refine⟨_,_,_,rfl,_,_,_,_,_,_,H5.ldA (o:=0) EQ4 Dp (.tail _ (.tail _ mS)) (vs:=[S2.now.v,.slice S2.pa S2.past.length S2.pc]) rfl rfl,?_⟩
  refine AL (KT S2 (by have:=hD2.len;omega) (fun r hr=>by have:=hD2.past r hr;omega) a6 c6 (Az r.2.2.2.Ps) wf (Ht (H5.ok _ (.tail _ (.tail _ mA)))) (H5.ownA (.head _)).cells) ?_
  rintro e wg ⟨rfl,H'⟩
  replace H5:=H5.ext0 H'
  clear H'
  refine⟨_,rfl,BI (fun h=>by rw[decide_eq_true hrows]at h;cases h) (fun _=>?_)⟩
  refine⟨_,_,_,_,_,_,H5.ldA (o:=0) EQ4 Dp (.tail _ (.tail _ mS)) (vs:=[S2.now.v,.slice S2.pa S2.past.length S2.pc]) rfl rfl,?_⟩
  refine AL (KT S2 (by have:=hD2.len;omega) (fun r hr=>by have:=hD2.past r hr;omega) a6 c6 (Az r.2.2.2.Ps) wg (Ht (H5.ok _ (.tail _ (.tail _ mA)))) (H5.ownA (.head _)).cells) ?_
  rintro e wh ⟨rfl,H'⟩
  replace H5:=H5.ext0 H'
  clear H'
  refine⟨_,rfl,BI (fun h=>by rw[decide_eq_true hrows]at h;cases h) (fun _=>?_)⟩
  refine AL (Gu a6 c6 (Az r.2.2.2.Ps) wh) ?_
  rintro e wi ⟨b9,rfl,H'⟩
  have H':Hp [] wh wi [.blk b9 [.slice a6 (Az r.2.2.2.Ps).length c6] 38]:=H'
  have H6:=H5.ext1 H'
  clear H5 H' mS mA
  refine⟨_,_,_,_,_,_,rfl,?_⟩
  obtain⟨now,hnow⟩:∃now,now=Az r.2.2.2.Ps:=⟨_,rfl⟩
  rw[<- hnow]at H6 hrows hNn hlen⊢
  refine Hp.stA (o:=0) (H6.perm (M:=.blk b [S2.now.v,.slice S2.pa S2.past.length S2.pc] 50::([.blk b9 [.slice a6 now.length c6] 38,.own 98 4 a6 now.length c6 (chC now)]++(AZ yn z sn pn ttn 0 r.2.2.2.Ps r.2.2.2.T++[.own 73 4 a5 now.length c5 (chC now),.any bs2 (fun W=>SAt W S2)]))) (by(refine AC fun ff gg h0 hc ha hpm=>?_;simp only[ha,hc,h0];omega))) EQ4 Dp (vs:=[.slice a6 now.length c6,.slice (some ⟨b9,0,none⟩) 1 1]) rfl rfl (by simp) (cs':=[.slice a6 now.length c6,.slice (some ⟨b9,0,none⟩) 1 1]) rfl ?_
  clear H6;intro wj H6
  have H7:=Hp.glue (M:=[.blk b9 [.slice a6 now.length c6] 38,.own 98 4 a6 now.length c6 (chC now)]) (F:=fun W=>SAt W ⟨⟨a6,c6,now⟩,some ⟨b9,0,none⟩,1,[⟨a6,c6,now⟩]⟩) (H6.perm (M:=[.blk b9 [.slice a6 now.length c6] 38,.own 98 4 a6 now.length c6 (chC now)]++(AZ yn z sn pn ttn 0 r.2.2.2.Ps r.2.2.2.T++[.own 73 4 a5 now.length c5 (chC now),.any bs2 (fun W=>SAt W S2),.blk b [.slice a6 now.length c6,.slice (some ⟨b9,0,none⟩) 1 1] 50])) (by(refine AC fun ff gg h0 hc ha hpm=>?_;simp only[ha,hc,h0];omega))) (fun W' hW=>MM (hW _ (.head _)) (Own.cells (hW _ (.tail _ (.head _)))))
  clear H6
  have H8:=(H7.perm (M:=(AZ yn z sn pn ttn 0 r.2.2.2.Ps r.2.2.2.T++(.blk b [.slice a6 now.length c6,.slice (some ⟨b9,0,none⟩) 1 1] 50::.any (feet [.blk b9 [.slice a6 now.length c6] 38,.own 98 4 a6 now.length c6 (chC now)]) (fun W=>SAt W ⟨⟨a6,c6,now⟩,some ⟨b9,0,none⟩,1,[⟨a6,c6,now⟩]⟩)::[]))++[.own 73 4 a5 now.length c5 (chC now),.any bs2 (fun W=>SAt W S2)]) (by(refine AC fun ff gg h0 hc ha hpm=>?_;simp only[ha,hc,h0];omega))).BQ
  clear H7
  exact hR' _ _ ⟨yn,z,sn,pn,ttn,0,r.2.2.2.Ps,r.2.2.2.T,⟨⟨a6,c6,now⟩,some ⟨b9,0,none⟩,1,[⟨a6,c6,now⟩]⟩,_,rfl,⟨hRn.fs,hRn.dk,hRn.idle.any,hRn.pages,hRn.sz,hRn.bs,hRn.few⟩,hbndn.mono (by omega) (by omega),⟨_,_,_,_,hrunn,by rw[<- hnow];exact .head _⟩,by rw[<- hnow];exact Doc.one ⟨rfl,rfl⟩ hNn.1 _,H8⟩
theorem journalCrash_holds:Rows.JournalCrashSaid:=
 OpenClaim.holds_of_wide 6 Tryz.f6 rfl rfl rfl rfl rfl rfl rfl ⟨rfl,rfl,rfl,rfl,rfl⟩ rfl rfl rfl rfl rfl (by kernel_rfl) Tryz.func6 (by kernel_rfl)
  (of_decide_eq_true (by kernel_rfl)) (by unfold Func.isWrapper;first|(rw[if_pos (by decide+kernel)];kernel_rfl)|(rw[if_neg (by decide+kernel)];exact⟨rfl,rfl⟩))
  (fun os started H enc _=>law_lift (C:=Tryz.checked) (s:=Rows.journalCrashSpec) 6 Tryz.f6 5 own_ started (by kernel_rfl) Tryz.func6 laid_ (by kernel_rfl) rfl (by kernel_rfl) und4
   (fun ds h=>by
    match ds,h with
    | [d0,d1],_=>rfl)
   (ChangeSpec.witness6 (enc:=enc) (C:=Tryz.checked) false ⟨#[],#[.slice none 0 0,.slice none 0 0],[]⟩ 8 (by kernel_rfl) (by kernel_rfl) (by kernel_rfl) (by kernel_rfl))
   (fun W args hrd=>by
    obtain⟨sa,sc,os,fa,fc,fs,rfl,h1,h2,h3⟩:=open_crash hrd
    exact(journalCrash_law sa sc os fa fc fs W h1 ⟨h2,h3⟩).mono fun e W' ⟨he,hh⟩=>⟨he,hh.chg⟩))
end Go.Proofs.YtdeebigmpffnbaaGreat
