/- Part 4 of 6 of the proof of journalCrash_holds: for every input, from every world that may be reached. -/
import Derived.WalkKit
import Derived.RangeFuncSeq
import Derived.KernelRfl
import Derived.RangeFuncLeaves
import Derived.Test.YtdeebigmpffnbaaGreatChecked
import Derived.Deep.AppendSrc
import Derived.Laws.MakeOwn
import Derived.Laws.BytesArg
import Derived.Laws.BytesString
import Derived.Laws.IdiomStrings
import Derived.Maps.RangeRun
import Derived.Shelf.SlIter.Nil
import Derived.Shelf.SlIterI.Nil
import Derived.Shelf.SortM.Plain
import Derived.Shelf.SortM.SortNone
import Derived.Shelf.SlMaps.Clone
import Derived.StringKeys
import Derived.Laws.Pointers
import Derived.Sort.Walk0
import Derived.Lib.SliceRun
import Derived.Test.YtdeebigmpffnbaaGreatRows
import Derived.ProofKit
import Derived.Laws.StructEq
import Derived.ChangeKeysEq
import Derived.WideKeyRuns
import Derived.Test.YtdeebigmpffnbaaGreatPcr1
import Derived.Test.YtdeebigmpffnbaaGreatPcr2
import Derived.Test.YtdeebigmpffnbaaGreatPcr3
set_option linter.unusedVariables false
set_option linter.unusedSimpArgs false
set_option maxRecDepth 100000
set_option maxHeartbeats 4000000
open List(all_cons all_eq_true append_assoc append_nil cons_append drop_drop drop_zero ext_getElem? filter_cons getD_eq_getElem?_getD getElem_mem length_append length_drop length_map length_replicate length_set length_singleton length_take map_append map_cons map_drop map_set map_take mem_append_left mem_append_right mem_cons mem_filter mem_map mem_of_getElem? mem_singleton nil_append pairwise_cons perm_append_comm set_append set_cons_succ set_cons_zero size_toArray take_add take_append_drop take_length take_of_length_le)
namespace Go.Proofs.YtdeebigmpffnbaaGreat.Sl
open Go Go.Vc
theorem Pg.Ri{g:Pg}(h:g.Ok)(m:Nat):g.cells.set 4096 (.int .i64 (m:Int))=({g with many:=m}:Pg).cells:=by
 rw[Pg.cells,set_append,if_neg (by rw[AQ,h.len];omega),AQ,h.len];rfl
theorem Pg.Yl{g:Pg}(h:g.Ok)(m:Nat):g.cells.set 4097 (.int .i64 (m:Int))=({g with low:=m}:Pg).cells:=by
 rw[Pg.cells,set_append,if_neg (by rw[AQ,h.len];omega),AQ,h.len];rfl
def sl(i:Nat):Nat:=if 4096=i then 0 else i
theorem QT(b i:Nat):slA (some ⟨b,0,none⟩) 4096 i 1=some ⟨b,sl i,none⟩:=by
 unfold slA sl
 split
 ·rfl
 ·rw[Option.map_some,Nat.mul_one,addB]
theorem VQ(x:List Value)(i:Nat)(cs:List Value)(h:i+x.length<=4096):over x (sl i) cs=over x i cs:=by
 unfold sl
 split
 ·have:x=[]:=List.eq_nil_of_length_eq_zero (by omega)
  subst this;rw[Dc,Dc]
 ·rfl
theorem Zy(i:Nat):sl i<=i:=by unfold sl;split<;>omega
def F5(g:Pg)(i:Nat)(x:List UInt8):Pg:= {g with data:=g.data.take (i-490)++(x++g.data.drop (i-490+x.length))}
theorem LX{g:Pg}(h:g.Ok){i:Nat}{x:List UInt8}(h1:490<=i)(h2:i+x.length<=4096):(F5 g i x).Ok:=
 ⟨h.st,h.hdr,h.dir,by simp only[F5,length_append,length_take,length_drop,h.data];omega,h.many,h.ent,h.low⟩
theorem O4{g:Pg}(h:g.Ok){i:Nat}{x:List UInt8}(h1:490<=i)(h2:i+x.length<=4096):over (bQ x) i g.cells=(F5 g i x).cells:=by
 have hd:=h.data
 have e:g.data=g.data.take (i-490)++((g.data.drop (i-490)).take x.length++g.data.drop (i-490+x.length)):=by
  rw[<- drop_drop,take_append_drop,take_append_drop]
 obtain⟨p,hp⟩:∃p,p=g.st++(be g.hdr 2++dirB g.dir):=⟨_,rfl⟩
 have hpl:p.length=490:=by rw[hp];simp only[length_append,AU,IX,h.st,h.dir]
 have hb:∀d:List UInt8,({g with data:=d}:Pg).bs=p++d:=fun d=>by rw[hp];simp[Pg.bs]
 have hself:g.bs=p++g.data:=hb g.data
 have e1:g.cells=bQ (p++g.data.take (i-490))++(bQ ((g.data.drop (i-490)).take x.length)++(bQ (g.data.drop (i-490+x.length))++[.int .i64 (g.many:Int),.int .i64 (g.low:Int)])):=by
  conv=>lhs;rw[Pg.cells,hself,e]
  simp only[BZ,append_assoc]
 have e2:(F5 g i x).cells=bQ (p++g.data.take (i-490))++(bQ x++(bQ (g.data.drop (i-490+x.length))++[.int .i64 (g.many:Int),.int .i64 (g.low:Int)])):=by
  show bQ ({g with data:=g.data.take (i-490)++(x++g.data.drop (i-490+x.length))}:Pg).bs++_=_
  rw[hb]
  simp only[BZ,append_assoc];rfl
 have hi:(bQ (p++g.data.take (i-490))).length=i:=by rw[AQ,length_append,hpl,length_take,hd];omega
 rw[e1,e2]
 have key:=J3 (bQ x) (bQ (p++g.data.take (i-490))) (bQ ((g.data.drop (i-490)).take x.length)) (bQ (g.data.drop (i-490+x.length))++[.int .i64 (g.many:Int),.int .i64 (g.low:Int)]) (by rw[AQ,AQ,length_take,length_drop,hd];omega)
 rw[hi]at key
 exact key
theorem bcells_zero(n:Nat):List.replicate n (Value.int .u8 0)=bQ (List.replicate n 0):=by simp[bQ]
theorem zero5:zeroOf Tryz.prog 5=some (.int .u8 0):=by kernel_rfl
theorem pgOf{B:List Nat}{w0 w w':World}{L:List Asn}{b:Nat}{g:Pg}(hok:g.Ok)(H:Hp B w0 w L)(e:Eqw w w')(m:pgA b g∈L):PgAt w' b g:=⟨hok,(H.go e).ok _ m⟩
theorem nodrop_spec(b:Nat)(g:Pg)(k:Int)(hk:¬(0<=k/\k<g.many/\0<atOf g k.toNat))(w:World)(h:PgAt w b g):
  Calls Tryz.prog 129 #[.pointer (some ⟨b,0,none⟩),.int .i64 k] w fun e w'=>e=.returned (.tuple #[])/\Hp [] w w' []:=by
 apply drop.ok
 unfold drop.vc
 have H:=Hp.start w
 (intro _ _ hn;replace H:=H.new EQ4 hn;clear hn)
 ((repeat apply Exists.intro);first|refine⟨H.ld EQ4 (by first|exact scl3|exact A7) (by repeat first|exact .head _|refine .tail _ ?_) rfl,?_⟩)
 refine AL (Ig b g k _ (h.chg H.chg (by simp))) ?_
 rintro e w1 ⟨rfl,H'⟩;replace H:=H.ext0 H';clear H'
 have h0:(if 0<=k/\k<(g.many:Int)then((g.dir.getD k.toNat (0,0)).1:Int)else 0)=0:=by
  split
  ·rename_i hh
   have:¬0<atOf g k.toNat:=fun h0=>hk ⟨hh.1,hh.2,h0⟩
   have h2:(g.dir.getD k.toNat (0,0)).1=atOf g k.toNat:=rfl
   omega
  ·rfl
 rw[h0]
 refine⟨_,_,rfl,?_⟩
 (intro _ _ hn;replace H:=H.new EQ4 hn;clear hn)
 (intro _ _ hn;replace H:=H.new EQ4 hn;clear hn)
 ((first|(apply Hp.st;(case H=>first|exact H|exact H.Aq|exact H.BF|exact H.BM|exact H.Bc|exact H.Bh|exact H.Bj|exact H.pull7);(case e=>exact⟨rfl,rfl,rfl,rfl⟩);(case S=>exact(by first|exact scl3|exact A7));(case hv=>exact rfl);(case h1=>exact rfl);(case ho=>exact Nat.le_of_ble_eq_true rfl);(case hc=>exact rfl)));clear H;intro _ H;(try simp only[over,set_cons_zero,set_cons_succ]at H))
 ((first|(apply Hp.st;(case H=>first|exact H|exact H.Aq|exact H.BF|exact H.BM|exact H.Bc|exact H.Bh|exact H.Bj|exact H.pull7);(case e=>exact⟨rfl,rfl,rfl,rfl⟩);(case S=>exact(by first|exact scl3|exact A7));(case hv=>exact rfl);(case h1=>exact rfl);(case ho=>exact Nat.le_of_ble_eq_true rfl);(case hc=>exact rfl)));clear H;intro _ H;(try simp only[over,set_cons_zero,set_cons_succ]at H))
 ((repeat apply Exists.intro);first|refine⟨H.ld EQ4 (by first|exact scl3|exact A7) (by repeat first|exact .head _|refine .tail _ ?_) rfl,?_⟩)
 exact AO (fun _=>⟨rfl,H.done⟩) (fun h=>absurd rfl h)
theorem drop_spec(b:Nat)(g:Pg)(L:Recs)(stamp:Nat)(hR:Rep g L stamp)(K:Nat)(s:List UInt8)(hK:(K,s)∈L)(w:World)(h:Blk w b g.cells 144):
  Calls Tryz.prog 129 #[.pointer (some ⟨b,0,none⟩),.int .i64 (K:Int)] w fun e w'=>e=.returned (.tuple #[])/\Hp [b] w w' [pgA b (D7 g K)]:=by
 apply drop.ok
 unfold drop.vc
 have H:Hp [b] w w [pgA b g]:=Hp.JF (a:=pgA b g) h
 have hok:=hR.ok
 have hml:=hok.many
 have hdl:=hok.data
 obtain⟨pre,post,p1,p2,p3,p4,p5,p6⟩:=hR.entry hK
 obtain⟨q1,q2,q3,q4⟩:=hR.at_ hK
 have hkm:=hR.below _ hK
 have ea:atOf g K=g.low+tot pre:=by rw[atOf,Nq p4]
 (intro _ _ hn;replace H:=H.new EQ4 hn;clear hn)
 ((repeat apply Exists.intro);first|refine⟨H.ld EQ4 (by first|exact scl3|exact A7) (by repeat first|exact .head _|refine .tail _ ?_) rfl,?_⟩)
 refine AL (ML b g K hkm _ ⟨hok,H.ok _ (.tail _ (.head _))⟩) ?_
 rintro e w1 ⟨rfl,H'⟩;replace H:=H.ext0 H';clear H'
 refine⟨_,_,rfl,?_⟩
 (intro _ _ hn;replace H:=H.new EQ4 hn;clear hn)
 (intro _ _ hn;replace H:=H.new EQ4 hn;clear hn)
 ((first|(apply Hp.st;(case H=>first|exact H|exact H.Aq|exact H.BF|exact H.BM|exact H.Bc|exact H.Bh|exact H.Bj|exact H.pull7);(case e=>exact⟨rfl,rfl,rfl,rfl⟩);(case S=>exact(by first|exact scl3|exact A7));(case hv=>exact rfl);(case h1=>exact rfl);(case ho=>exact Nat.le_of_ble_eq_true rfl);(case hc=>exact rfl)));clear H;intro _ H;(try simp only[over,set_cons_zero,set_cons_succ]at H))
 ((first|(apply Hp.st;(case H=>first|exact H|exact H.Aq|exact H.BF|exact H.BM|exact H.Bc|exact H.Bh|exact H.Bj|exact H.pull7);(case e=>exact⟨rfl,rfl,rfl,rfl⟩);(case S=>exact(by first|exact scl3|exact A7));(case hv=>exact rfl);(case h1=>exact rfl);(case ho=>exact Nat.le_of_ble_eq_true rfl);(case hc=>exact rfl)));clear H;intro _ H;(try simp only[over,set_cons_zero,set_cons_succ]at H))
 ((repeat apply Exists.intro);first|refine⟨H.ld EQ4 (by first|exact scl3|exact A7) (by repeat first|exact .head _|refine .tail _ ?_) rfl,?_⟩)
 rename_i b0 _ b1 _ b2 _ _ _
 generalize hat:atOf g K=at_ at*
 generalize hln:lenOf g K=n at*
 refine AO (fun h0=>absurd h0 (by omega)) (fun _=>?_)
 replace H:=H.drew
 have hpl:∀w',Hp [b] w w' [.blk b2 [.int .i64 (n:Int)] 3,.blk b1 [.int .i64 (at_:Int)] 3,.blk b0 [.pointer (some ⟨b,0,none⟩)] 99,pgA b g]->PgAt w' b g:=fun w' H=>⟨hok,H.ok _ (.tail _ (.tail _ (.tail _ (.head _))))⟩
 ((repeat apply Exists.intro);first|refine⟨H.ld EQ4 (by first|exact scl3|exact A7) (by repeat first|exact .head _|refine .tail _ ?_) rfl,?_⟩)
 refine AA rfl ?_
 ((repeat apply Exists.intro);first|refine⟨H.ld EQ4 (by first|exact scl3|exact A7) (by repeat first|exact .head _|refine .tail _ ?_) rfl,?_⟩)
 refine AA rfl ⟨_,by rw[addB];exact(hpl _ H).Pn,?_⟩
 ((repeat apply Exists.intro);first|refine⟨H.ld EQ4 (by first|exact scl3|exact A7) (by repeat first|exact .head _|refine .tail _ ?_) rfl,?_⟩)
 refine⟨AY.2 (by omega),?_⟩
 ((repeat apply Exists.intro);first|refine⟨H.ld EQ4 (by first|exact scl3|exact A7) (by repeat first|exact .head _|refine .tail _ ?_) rfl,?_⟩)
 ((repeat apply Exists.intro);first|refine⟨H.ld EQ4 (by first|exact scl3|exact A7) (by repeat first|exact .head _|refine .tail _ ?_) rfl,?_⟩)
 have e1:Int.toNat ((g.low:Int)+(n:Int))=g.low+n:=by omega
 have e2:Int.toNat ((at_:Int)+(n:Int))=at_+n:=by omega
 have e3:Int.toNat (g.low:Int)=g.low:=by omega
 have e4:Int.toNat (at_:Int)=at_:=by omega
 rw[e1,e2]
 refine⟨AY.2 (by omega),⟨by omega,by omega,by omega⟩,?_⟩
 ((repeat apply Exists.intro);first|refine⟨H.ld EQ4 (by first|exact scl3|exact A7) (by repeat first|exact .head _|refine .tail _ ?_) rfl,?_⟩)
 refine AA rfl ?_
 ((repeat apply Exists.intro);first|refine⟨H.ld EQ4 (by first|exact scl3|exact A7) (by repeat first|exact .head _|refine .tail _ ?_) rfl,?_⟩)
 refine AA rfl ⟨_,by rw[addB];exact(hpl _ H).Pn,?_⟩
 ((repeat apply Exists.intro);first|refine⟨H.ld EQ4 (by first|exact scl3|exact A7) (by repeat first|exact .head _|refine .tail _ ?_) rfl,?_⟩)
 rw[e3,e4]
 refine⟨⟨by omega,by omega,by omega⟩,?_⟩
 have hcell:=(hpl _ H).cellsB g.low (at_-g.low) (by omega)
 rw[QT]at hcell
 rw[QT,QT]
 have hbl:((g.bs.drop g.low).take (at_-g.low)).length=at_-g.low:=by rw[length_take,length_drop,hok.len];omega
 have hsl:=Zy (g.low+n)
 refine Hp.cpy H.BM EQ4 PO scl5.size (Cells.src PO hcell (by rw[AQ,hbl,Nat.mul_one]) (Eu _) (fun h=>by cases h)) (by omega) (by rw[hok.clen];omega) ?_
 clear H hcell
 intro w3 H
 have hd490:g.bs.drop 490=g.data:=by
  have:g.bs=(g.st++(be g.hdr 2++dirB g.dir))++g.data:=by simp[Pg.bs]
  rw[this]
  exact drop_left _ _ _ (by simp only[length_append,AU,IX,hok.st,hok.dir])
 have hmv:(g.bs.drop g.low).take (at_-g.low)=(g.data.drop (g.low-490)).take (at_-g.low):=by
  rw[<- hd490,drop_drop,show 490+(g.low-490)=g.low by omega]
 rw[VQ _ _ _ (by rw[AQ,hbl];omega),O4 hok (by omega) (by rw[hbl];omega)]at H
 have ok1:=LX hok (i:=g.low+n) (x:=(g.bs.drop g.low).take (at_-g.low)) (by omega) (by rw[hbl];omega)
 obtain⟨g1,hg1⟩:∃g1,g1=F5 g (g.low+n) ((g.bs.drop g.low).take (at_-g.low)):=⟨_,rfl⟩
 rw[<- hg1]at H ok1
 have hdir1:g1.dir=g.dir:=by rw[hg1];rfl
 have hmany1:g1.many=g.many:=by rw[hg1];rfl
 have hlow1:g1.low=g.low:=by rw[hg1];rfl
 have okS:∀k,({g1 with dir:=CP g.dir at_ n k}:Pg).Ok:=fun k=>⟨ok1.st,ok1.hdr,by rw[JL];exact hok.dir,ok1.data,ok1.many,fun p hp=>by
  obtain⟨j,hj⟩:=List.getElem?_of_mem hp
  rw[Cc]at hj
  cases hd:g.dir[j]? with
  |none=>rw[hd]at hj;cases hj
  |some q=>
   rw[hd]at hj
   simp only[Option.map_some,Option.some.injEq]at hj
   have:=hok.ent q (mem_of_getElem? hd)
   rw[<- hj]
   split
   ·simp only;omega
   ·exact this,ok1.low⟩
 have hatS:∀k,atOf {g1 with dir:=CP g.dir at_ n k} k=atOf g k/\lenOf {g1 with dir:=CP g.dir at_ n k} k=lenOf g k:=fun k=>by
  refine⟨?_,?_⟩
  ·show((CP g.dir at_ n k).getD k (0,0)).1=_
   rw[U1];rfl
  ·show((CP g.dir at_ n k).getD k (0,0)).2=_
   rw[U1];rfl
 have H:Hp [b] w w3 [pgA b {g1 with dir:=CP g.dir at_ n 0},.blk b2 [.int .i64 (n:Int)] 3,.blk b1 [.int .i64 (at_:Int)] 3,.blk b0 [.pointer (some ⟨b,0,none⟩)] 99]:=by
  rw[shiftD_zero,<- hdir1];exact H
 replace H:=H.BM
 ((repeat apply Exists.intro);first|refine⟨H.ld EQ4 (by first|exact scl3|exact A7) (by repeat first|exact .head _|refine .tail _ ?_) rfl,?_⟩)
 refine⟨_,_,_,rfl,⟨_,_,Tryz.func76,rfl⟩,?_⟩
 refine I9 b g.many (fun k (_:Unit)=> {g1 with dir:=CP g.dir at_ n k}) (fun k (_:Unit)=>[pgA b {g1 with dir:=CP g.dir at_ n k},.blk b2 [.int .i64 (n:Int)] 3,.blk b1 [.int .i64 (at_:Int)] 3,.blk b0 [.pointer (some ⟨b,0,none⟩)] 99]) (fun _ _=>True) (fun _:Unit=>[]) (fun _=>False) () trivial (by((try dsimp only[cons_append,nil_append]);(try dsimp only[cons_append,nil_append]at H);refine Hp.perm H ?_;(repeat(apply BH;(focus first|exact Bq|exact Bo|exact Bv|exact Bi|exact Bz|exact CG|exact CB|exact perm_p7|exact perm_p8|exact perm_p9)));exact List.Perm.refl _))
  (fun k x w' T _ H=>⟨⟨okS k,H.ok _ (.head _)⟩,hmany1⟩) (fun k x hk _ h0=>⟨x,trivial,by
   rw[(hatS k).1]at h0
   have h0':(g.dir.getD k (0,0)).1=0:=h0
   rw[PU,if_neg (by omega)]⟩) ?_ ?_ (fun y D w' hs _=>hs.elim)
 ·clear H
  intro k x hk _ h0 w' T0 T1 begin kn kr kx _ hbeg hkn _
  refine hbeg _ fun w2 H=>?_
  simp only[cons_append,nil_append]at H
  replace H:=H.BM
  ((repeat apply Exists.intro);first|refine⟨H.ld EQ4 (by first|exact scl3|exact A7) (by repeat first|exact .head _|refine .tail _ ?_) rfl,?_⟩)
  replace H:=H.Aq
  have hA:=pgOf (okS k) H EQ4 (by repeat first|exact .head _|refine .tail _ ?_)
  refine AL (ML b _ k (by show k<g1.many;rw[hmany1];exact hk) _ hA) ?_
  rintro e w4 ⟨rfl,H'⟩;replace H:=H.ext0 H';clear H'
  rw[(hatS k).1,(hatS k).2]
  rw[(hatS k).1]at h0
  have hb:=hok.atB k
  refine⟨_,_,rfl,?_⟩
  replace H:=H.BM
  ((repeat apply Exists.intro);first|refine⟨H.ld EQ4 (by first|exact scl3|exact A7) (by repeat first|exact .head _|refine .tail _ ?_) rfl,?_⟩)
  have key:=PU g.dir at_ n k
  refine AO (fun hle=>?_) (fun hle=>?_)
  ·((repeat apply Exists.intro);first|refine⟨H.ld EQ4 (by first|exact scl3|exact A7) (by repeat first|exact .head _|refine .tail _ ?_) rfl,?_⟩)
   ((repeat apply Exists.intro);first|refine⟨H.ld EQ4 (by first|exact scl3|exact A7) (by repeat first|exact .head _|refine .tail _ ?_) rfl,?_⟩)
   refine⟨AY.2 (by omega),?_⟩
   have e5:(atOf g k:Int)+(n:Int)=((atOf g k+n:Nat):Int):=by omega
   rw[e5]
   replace H:Hp [b] w w4 (pgA b {g1 with dir:=CP g.dir at_ n k}::.blk b2 [.int .i64 (n:Int)] 3::.blk b1 [.int .i64 (at_:Int)] 3::.blk b0 [.pointer (some ⟨b,0,none⟩)] 99::T1):=by((try dsimp only[cons_append,nil_append]);(try dsimp only[cons_append,nil_append]at H);refine Hp.perm H ?_;(repeat(apply BH;(focus first|exact Bq|exact Bo|exact Bv|exact Bi|exact Bz|exact CG|exact CB|exact perm_p7|exact perm_p8|exact perm_p9)));exact List.Perm.refl _)
   refine AL (NG b _ k (atOf g k+n) (lenOf g k) (by omega) (by omega) (by omega) _ (pgOf (okS k) H EQ4 (by repeat first|exact .head _|refine .tail _ ?_))) ?_
   rintro e w5 ⟨rfl,_,H'⟩;replace H:=Hp.FO (a:=pgA b _) H H';clear H'
   have hs:setD {g1 with dir:=CP g.dir at_ n k} k (atOf g k+n) (lenOf g k)= {g1 with dir:=CP g.dir at_ n (k+1)}:=by
    rw[key,if_pos ⟨h0,by show atOf g k<=at_;omega⟩];rfl
   rw[hs]at H
   exact⟨rfl,hkn _ () trivial (by((try dsimp only[cons_append,nil_append]);(try dsimp only[cons_append,nil_append]at H);refine Hp.perm H ?_;(repeat(apply BH;(focus first|exact Bq|exact Bo|exact Bv|exact Bi|exact Bz|exact CG|exact CB|exact perm_p7|exact perm_p8|exact perm_p9)));exact List.Perm.refl _))⟩
  ·refine hkn _ () trivial ?_
   have hs:CP g.dir at_ n (k+1)=CP g.dir at_ n k:=by rw[key,if_neg (fun hh=>hle (by have h9:atOf g k<=at_:=hh.2;omega))]
   rw[hs]
   ((try dsimp only[cons_append,nil_append]);(try dsimp only[cons_append,nil_append]at H);refine Hp.perm H ?_;(repeat(apply BH;(focus first|exact Bq|exact Bo|exact Bv|exact Bi|exact Bz|exact CG|exact CB|exact perm_p7|exact perm_p8|exact perm_p9)));exact List.Perm.refl _)
 ·clear H
  intro x D w' _ H
  simp only[cons_append,nil_append]at H
  obtain⟨gS,hgS⟩:∃gS:Pg,gS= {g1 with dir:=CP g.dir at_ n g.many}:=⟨_,rfl⟩
  have okg:gS.Ok:=by rw[hgS];exact okS _
  rw[<- hgS]at H
  have hlowS:gS.low=g.low:=by rw[hgS];exact hlow1
  have hmanyS:gS.many=g.many:=by rw[hgS];exact hmany1
  ((repeat apply Exists.intro);first|refine⟨H.ld EQ4 (by first|exact scl3|exact A7) (by repeat first|exact .head _|refine .tail _ ?_) rfl,?_⟩)
  refine AA rfl ?_
  ((repeat apply Exists.intro);first|refine⟨H.ld EQ4 (by first|exact scl3|exact A7) (by repeat first|exact .head _|refine .tail _ ?_) rfl,?_⟩)
  refine AA rfl ⟨_,by rw[addB];exact(pgOf okg H EQ4 (by repeat first|exact .head _|refine .tail _ ?_)).Pn,?_⟩
  ((repeat apply Exists.intro);first|refine⟨H.ld EQ4 (by first|exact scl3|exact A7) (by repeat first|exact .head _|refine .tail _ ?_) rfl,?_⟩)
  refine AA rfl ⟨_,by rw[addB];exact(pgOf okg H EQ4 (by repeat first|exact .head _|refine .tail _ ?_)).Pn,?_⟩
  ((repeat apply Exists.intro);first|refine⟨H.ld EQ4 (by first|exact scl3|exact A7) (by repeat first|exact .head _|refine .tail _ ?_) rfl,?_⟩)
  rw[hlowS,e1,e3]
  refine⟨AY.2 (by omega),⟨by omega,by omega,by omega⟩,?_⟩
  rw[QT,show g.low+n-g.low=n by omega]
  refine Hp.clr (e:=5) H EQ4 PO zero5 rfl rfl (by rw[okg.clen];have:=Zy g.low;omega) ?_
  clear H
  intro w4 H
  rw[VQ _ _ _ (by rw[length_replicate];omega),bcells_zero,O4 okg (by omega) (by rw[length_replicate];omega)]at H
  have okc:=LX okg (i:=g.low) (x:=List.replicate n 0) (by omega) (by rw[length_replicate];omega)
  obtain⟨gC,hgC⟩:∃gC:Pg,gC=F5 gS g.low (List.replicate n 0):=⟨_,rfl⟩
  rw[<- hgC]at H okc
  have hlowC:gC.low=g.low:=by rw[hgC];exact hlowS
  have hmanyC:gC.many=g.many:=by rw[hgC];exact hmanyS
  replace H:Hp [b] w w4 [.blk b gC.cells 144,.blk b2 [.int .i64 (n:Int)] 3,.blk b1 [.int .i64 (at_:Int)] 3,.blk b0 [.pointer (some ⟨b,0,none⟩)] 99,objA D (.deferred (some []))]:=by((try dsimp only[cons_append,nil_append]);(try dsimp only[cons_append,nil_append]at H);refine Hp.perm H ?_;(repeat(apply BH;(focus first|exact Bq|exact Bo|exact Bv|exact Bi|exact Bz|exact CG|exact CB|exact perm_p7|exact perm_p8|exact perm_p9)));exact List.Perm.refl _)
  ((repeat apply Exists.intro);first|refine⟨H.ld EQ4 (by first|exact scl3|exact A7) (by repeat first|exact .head _|refine .tail _ ?_) rfl,?_⟩)
  refine AA rfl ⟨_,by rw[addB];exact(pgOf okc H EQ4 (.head _)).Pn,?_⟩
  ((repeat apply Exists.intro);first|refine⟨H.ld EQ4 (by first|exact scl3|exact A7) (by repeat first|exact .head _|refine .tail _ ?_) rfl,?_⟩)
  rw[hlowC]
  refine⟨AY.2 (by omega),AA rfl ?_⟩
  have e6:(g.low:Int)+(n:Int)=((g.low+n:Nat):Int):=by omega
  rw[addB,e6]
  refine Hp.st H EQ4 scl3 rfl rfl (by rw[okc.clen];omega) (Pg.Yl okc _) ?_
  clear H
  intro w5 H
  have okl:({gC with low:=g.low+n}:Pg).Ok:=⟨okc.st,okc.hdr,okc.dir,okc.data,okc.many,okc.ent,by show g.low+n<=4096;omega⟩
  ((repeat apply Exists.intro);first|refine⟨H.ld EQ4 (by first|exact scl3|exact A7) (by repeat first|exact .head _|refine .tail _ ?_) rfl,?_⟩)
  refine AL (NG b _ K 0 0 (by omega) (by omega) (by omega) _ (pgOf okl H EQ4 (.head _))) ?_
  rintro e w6 ⟨rfl,okk,H'⟩;replace H:=Hp.FO (a:=pgA b _) H H';clear H'
  refine⟨rfl,?_⟩
  obtain⟨gK,hgK⟩:∃gK:Pg,gK=setD {gC with low:=g.low+n} K 0 0:=⟨_,rfl⟩
  rw[<- hgK]at H okk
  have hmanyK:gK.many=g.many:=by rw[hgK];exact hmanyC
  have okM:∀m,m<=g.many->({gK with many:=m}:Pg).Ok:=fun m hm=>⟨okk.st,okk.hdr,okk.dir,okk.data,by show m<=120;omega,okk.ent,okk.low⟩
  have hfin: {gK with many:=trim gK.dir g.many,hdr:=trim gK.dir g.many}=D7 g K:=by
   have hD:gK.dir=(CP g.dir at_ n g.many).set K (0,0):=by rw[hgK,hgC,hgS];rfl
   have hdat:gK.data=g.data.take (g.low-490)++(List.replicate n 0++((g.data.drop (g.low-490)).take (at_-g.low)++g.data.drop (at_+n-490))):=by
    have a1:gK.data=gS.data.take (g.low-490)++(List.replicate n 0++gS.data.drop (g.low-490+n)):=by rw[hgK,hgC];simp[setD,F5]
    have a2:gS.data=g.data.take (g.low+n-490)++((g.data.drop (g.low-490)).take (at_-g.low)++g.data.drop (at_+n-490)):=by
     rw[hgS,hg1,hmv]
     show g.data.take (g.low+n-490)++((g.data.drop (g.low-490)).take (at_-g.low)++g.data.drop (g.low+n-490+((g.data.drop (g.low-490)).take (at_-g.low)).length))=_
     congr 3
     rw[<- hmv,hbl];omega
    rw[a1,a2]
    congr 1
    ·rw[List.take_append_of_le_length (by rw[length_take,hdl];omega),List.take_take];congr 1;omega
    ·congr 1
     exact drop_left _ _ _ (by rw[length_take,hdl];omega)
   have hst:gK.st=g.st:=by rw[hgK,hgC,hgS,hg1];rfl
   have hlw:gK.low=g.low+n:=by rw[hgK];rfl
   unfold D7
   simp only[hat,hln]
   rw[hD,hdat,hst,hlw]
  refine Ae.mk (fun mm s w'=>mm<=g.many/\trim gK.dir mm=trim gK.dir g.many/\Hp [b] w w' [.blk b ({gK with many:=mm}:Pg).cells 144,.blk b2 [.int .i64 (n:Int)] 3,.blk b1 [.int .i64 (at_:Int)] 3,.blk b0 [.pointer (some ⟨b,0,none⟩)] 99,objA D (.deferred (some []))]) g.many ⟨Nat.le_refl _,rfl,by rw[<- hmanyK];exact H⟩ ?_
  clear H
  rintro m s w7 next ⟨hm,htr,H⟩ hnext
  have fin:∀w7,m<=g.many->trim gK.dir m=m->trim gK.dir m=trim gK.dir g.many->Hp [b] w w7 [.blk b ({gK with many:=m}:Pg).cells 144,.blk b2 [.int .i64 (n:Int)] 3,.blk b1 [.int .i64 (at_:Int)] 3,.blk b0 [.pointer (some ⟨b,0,none⟩)] 99,objA D (.deferred (some []))]->
    AB Tryz.prog 132 [.pointer (some ⟨b,0,none⟩),.int .i64 8,.int .i64 (m:Int)] w7 fun e w'=>e=.returned (.tuple #[])/\∃w1,N8 w' D w1/\(fun e w'=>e=Ending.returned (.tuple #[])/\Hp [b] w w' [pgA b (D7 g K)]) (.returned (.tuple #[])) w1:=by
   clear hnext H
   intro w7 hm h1 h2 H
   have hb:∀k,({gK with many:=m,hdr:=k}:Pg).bs=gK.st++(be (k:Int) 2++(dirB gK.dir++gK.data)):=fun k=>rfl
   refine AL (Me b {gK with many:=m} {gK with many:=m,hdr:=m} gK.st (be gK.hdr 2) (dirB gK.dir++gK.data) 8 m (AU _ 2) okk.st (by omega) rfl (hb m) rfl rfl _ (pgOf (okM m hm) H EQ4 (.head _))) ?_
   rintro e w8 ⟨rfl,H'⟩;replace H:=Hp.FO (a:=pgA b _) H H';clear H'
   refine⟨rfl,Hp.shut H.Bc fun w9 H=>⟨rfl,?_⟩⟩
   rw[<- hfin,<- h2,h1]
   exact H.JW
  ((repeat apply Exists.intro);first|refine⟨H.ld EQ4 (by first|exact scl3|exact A7) (by repeat first|exact .head _|refine .tail _ ?_) rfl,?_⟩)
  refine AA rfl ⟨_,by rw[addB];exact(pgOf (okM m hm) H EQ4 (.head _)).Gz,?_⟩
  refine AO (fun h0=>?_) (fun h0=>?_)
  ·obtain⟨m,rfl⟩:∃m',m=m'+1:=⟨m-1,by have:(0:Int)<((m:Nat):Int):=h0;omega⟩
   ((repeat apply Exists.intro);first|refine⟨H.ld EQ4 (by first|exact scl3|exact A7) (by repeat first|exact .head _|refine .tail _ ?_) rfl,?_⟩)
   ((repeat apply Exists.intro);first|refine⟨H.ld EQ4 (by first|exact scl3|exact A7) (by repeat first|exact .head _|refine .tail _ ?_) rfl,?_⟩)
   refine AA rfl ⟨_,by rw[addB];exact(pgOf (okM _ hm) H EQ4 (.head _)).Gz,?_⟩
   have e7:(((m+1:Nat):Int))-1=(m:Int):=by omega
   have e8:(10:Int)+4*(m:Int)=((10+4*m:Nat):Int):=by omega
   show inR .i64 (((m+1:Nat):Int)-1)/\inR .i64 (4*(((m+1:Nat):Int)-1))/\inR .i64 (10+4*(((m+1:Nat):Int)-1))/\AB Tryz.prog 117 [_,.int .i64 (10+4*(((m+1:Nat):Int)-1))] _ _
   rw[e7,e8]
   refine⟨AY.2 (by omega),AY.2 (by omega),AY.2 (by omega),?_⟩
   refine AL (NQ b _ _ (by omega) _ (pgOf (okM _ hm) H EQ4 (.head _))) ?_
   rintro e w8 ⟨rfl,H'⟩;replace H:=H.drew.ext0 H';clear H'
   refine⟨_,rfl,?_⟩
   have hmd:m<gK.dir.length:=by rw[okk.dir];omega
   rw[Pg.Ok.ent1 (okM _ hm) (by omega)]
   have hgd:gK.dir.getD m (0,0)=gK.dir[m]:=by rw[getD_eq_getElem?_getD,List.getElem?_eq_getElem hmd];rfl
   refine AO (fun hz=>?_) (fun hz=>?_)
   ·have hz':(gK.dir[m]).1=0:=by have:((gK.dir[m]).1:Int)=0:=hz;omega
    ((repeat apply Exists.intro);first|refine⟨H.ld EQ4 (by first|exact scl3|exact A7) (by repeat first|exact .head _|refine .tail _ ?_) rfl,?_⟩)
    refine AA rfl ⟨_,by rw[addB];exact(pgOf (okM _ hm) H EQ4 (.head _)).Gz,?_⟩
    show inR .i64 (((m+1:Nat):Int)-1)/\onP _ fun a=>∃w1,St Tryz.prog 3 _ (Addr.add a 4096) (.int .i64 (((m+1:Nat):Int)-1)) w1/\_
    rw[e7]
    refine⟨AY.2 (by omega),AA rfl ?_⟩
    rw[addB]
    refine Hp.st H EQ4 scl3 rfl rfl (by rw[(okM _ hm).clen];omega) (Pg.Ri (okM _ hm) _) ?_
    clear H
    intro w9 H
    refine hnext m _ _ (by omega) ⟨by omega,?_,H⟩
    rw[<- htr,trim,hgd,if_pos hz']
   ·have hz':¬(gK.dir[m]).1=0:=fun h=>hz (by rw[h];rfl)
    ((repeat apply Exists.intro);first|refine⟨H.ld EQ4 (by first|exact scl3|exact A7) (by repeat first|exact .head _|refine .tail _ ?_) rfl,?_⟩)
    ((repeat apply Exists.intro);first|refine⟨H.ld EQ4 (by first|exact scl3|exact A7) (by repeat first|exact .head _|refine .tail _ ?_) rfl,?_⟩)
    refine AA rfl ⟨_,by rw[addB];exact(pgOf (okM _ hm) H EQ4 (.head _)).Gz,?_⟩
    exact fin _ hm (by rw[trim,hgd,if_neg hz']) htr H.drew
  ·have hm0:m=0:=by have:¬(0:Int)<(m:Int):=h0;omega
   ((repeat apply Exists.intro);first|refine⟨H.ld EQ4 (by first|exact scl3|exact A7) (by repeat first|exact .head _|refine .tail _ ?_) rfl,?_⟩)
   ((repeat apply Exists.intro);first|refine⟨H.ld EQ4 (by first|exact scl3|exact A7) (by repeat first|exact .head _|refine .tail _ ?_) rfl,?_⟩)
   refine AA rfl ⟨_,by rw[addB];exact(pgOf (okM m hm) H EQ4 (.head _)).Gz,?_⟩
   exact fin _ hm (by rw[hm0];rfl) htr H.drew.drew
def insR (x : Nat × List UInt8) : Recs → Recs
  | [] => [x]
  | p :: r => if x.1 < p.1 then x :: p :: r else p :: insR x r
theorem Gl (x : Nat × List UInt8) : ∀ L : Recs,(insR x L).Perm (x :: L)
  | [] => .refl _
  | p :: r => by
    rw [insR]
    split
    · exact .refl _
    · exact ((Gl x r).cons p).trans (.swap x p r)
theorem FZ (x y : Nat × List UInt8) (L : Recs) : y ∈ insR x L ↔ y = x ∨ y ∈ L := by rw [(Gl x L).mem_iff,mem_cons]
theorem IC (x : Nat × List UInt8) : ∀ L : Recs,L.Pairwise (fun a b => a.1 < b.1) → (∀ p ∈ L,p.1 ≠ x.1) → (insR x L).Pairwise fun a b => a.1 < b.1
  | [],_,_ => by simp [insR]
  | p :: r,h,hn => by
    obtain ⟨h1,h2⟩ := pairwise_cons.1 h
    rw [insR]
    split
    · rename_i hlt
      refine pairwise_cons.2 ⟨fun q hq => ?_,h⟩
      rcases mem_cons.1 hq with rfl | hq
      · exact hlt
      · have := h1 q hq; omega
    · rename_i hlt
      refine pairwise_cons.2 ⟨fun q hq => ?_,IC x r h2 fun q hq => hn q (.tail _ hq)⟩
      rcases (FZ _ _ _).1 hq with rfl | hq
      · have := hn p (.head _); omega
      · exact h1 q hq
def wo (L : Recs) (k : Nat) : Recs := L.filter fun p => p.1 != k
theorem KP {L : Recs} {k : Nat} (h : ∀ s,(k,s) ∉ L) : wo L k = L := by
  refine List.filter_eq_self.2 fun p hp => ?_
  have : p.1 ≠ k := fun e => h p.2 (by rw [← e]; exact hp)
  simpa using this
theorem Zr {L : Recs} {k : Nat} {p : Nat × List UInt8} : p ∈ wo L k ↔ p ∈ L ∧ p.1 ≠ k := by simp [wo]
theorem wo_tot {L : Recs} (hs : L.Pairwise fun a b => a.1 < b.1) {k : Nat} {s : List UInt8} (h : (k,s) ∈ L) : tot (wo L k) + s.length = tot L := by
  induction L with
  | nil => cases h
  | cons p r ih =>
    obtain ⟨h1,h2⟩ := pairwise_cons.1 hs
    by_cases hk : p.1 = k
    · have hp : p = (k,s) := by
        rcases mem_cons.1 h with e | m
        · exact e.symm
        · have := h1 _ m; simp only at this; omega
      have hr : wo r k = r := KP fun t ht => by have := h1 _ ht; simp only at this; omega
      have e : wo (p :: r) k = r := by
        show List.filter _ (p :: r) = r
        rw [filter_cons,if_neg (by simp [hk])]; exact hr
      rw [e,DV,hp]; simp only; omega
    · have hm : (k,s) ∈ r := by
        rcases mem_cons.1 h with e | m
        · exact absurd (by rw [← e]) hk
        · exact m
      have e : wo (p :: r) k = p :: wo r k := by
        show List.filter _ (p :: r) = _
        rw [filter_cons,if_pos (by simp [hk])]; rfl
      rw [e,DV,DV]
      have := ih h2 hm
      omega
theorem XZ (b : Nat) (g : Pg) (L : Recs) (stamp : Nat) (hR : Rep g L stamp) (K : Nat) (w : World) (h : Blk w b g.cells 144) :
    Calls Tryz.prog 129 #[.pointer (some ⟨b,0,none⟩),.int .i64 (K : Int)] w fun e w' => e = .returned (.tuple #[]) ∧ ∃ g',Rep g' (wo L K) stamp ∧ Hp [b] w w' [pgA b g'] := by
  by_cases hk : ∃ s,(K,s) ∈ L
  · obtain ⟨s,hs⟩ := hk
    exact Calls.mono (drop_spec b g L stamp hR K s hs w h) fun e w' hh => ⟨hh.1,_,hR.drop hs,hh.2⟩
  · refine Calls.mono (nodrop_spec b g (K : Int) (fun hh => hk (hR.G9.1 ⟨by omega,by have := hh.2.2; rwa [Int.toNat_natCast] at this⟩)) w ⟨hR.ok,h⟩) fun e w' hh => ⟨hh.1,g,?_,?_⟩
    · rw [KP fun s hs => hk ⟨s,hs⟩]; exact hR
    · have H : Hp [b] w w [pgA b g] := Hp.JF (a := pgA b g) h
      exact H.ext0 hh.2
def extD (d : List (Nat × Nat)) (a n : Nat) : List (Nat × Nat) := d.mapIdx fun j p => if a ≤ j ∧ j < n then (0,0) else p
theorem G6 (d : List (Nat × Nat)) (a n j : Nat) : (extD d a n)[j]? = d[j]?.map fun p => if a ≤ j ∧ j < n then (0,0) else p := by
  simp [extD]
theorem Jo (d : List (Nat × Nat)) (a n : Nat) : (extD d a n).length = d.length := by simp [extD]
theorem extD_self (d : List (Nat × Nat)) (a : Nat) : extD d a a = d := by
  apply ext_getElem?
  intro j
  rw [G6]
  cases d[j]? with
  | none => rfl
  | some p => rw [Option.map_some,if_neg (by omega)]
theorem extD_succ (d : List (Nat × Nat)) (a m : Nat) (h : a ≤ m) : (extD d a m).set m (0,0) = extD d a (m + 1) := by
  apply ext_getElem?
  intro j
  by_cases hj : m = j
  · subst hj
    rw [G6]
    cases hd : d[m]? with
    | none => rw [List.getElem?_eq_none]; · rfl
              rw [length_set,Jo]; exact List.getElem?_eq_none_iff.1 hd
    | some p =>
      rw [List.getElem?_set_self (by rw [Jo]; exact (List.getElem?_eq_some_iff.1 hd).1),Option.map_some,if_pos ⟨h,by omega⟩]
  · rw [List.getElem?_set_ne hj,G6,G6]
    cases d[j]? with
    | none => rfl
    | some p =>
      rw [Option.map_some,Option.map_some]
      congr 1
      by_cases hc : a ≤ j ∧ j < m
      · rw [if_pos hc,if_pos ⟨hc.1,by omega⟩]
      · rw [if_neg hc,if_neg (by omega)]
def extG (g : Pg) (m : Nat) : Pg := { g with dir := extD g.dir g.many m,many := m }
theorem Zj {g : Pg} (h : g.Ok) {m : Nat} (hm : m ≤ 120) : (extG g m).Ok := ⟨h.st,h.hdr,by show (extD _ _ _).length = 120; rw [Jo,h.dir],h.data,hm,fun p hp => by
    obtain ⟨j,hj⟩ := List.getElem?_of_mem hp
    have hj : (extD g.dir g.many m)[j]? = some p := hj
    rw [G6] at hj
    cases hd : g.dir[j]? with
    | none => rw [hd] at hj; cases hj
    | some q =>
      rw [hd] at hj
      simp only [Option.map_some,Option.some.injEq] at hj
      have := h.ent q (mem_of_getElem? hd)
      rw [← hj]
      split
      · simp
      · exact this,h.low⟩
def putG (g : Pg) (k : Nat) (s : List UInt8) : Pg :=
  let m := max g.many (k + 1)
  { g with dir := (extD g.dir g.many m).set k (g.low - s.length,s.length),many := m,hdr := m,low := g.low - s.length
           data := g.data.take (g.low - s.length - 490) ++ (s ++ g.data.drop (g.low - s.length - 490 + s.length)) }
theorem Rep.put {g : Pg} {L : Recs} {stamp : Nat} (h : Rep g L stamp) {k : Nat} {s : List UInt8} (hk : k < 120) (hn : ∀ t,(k,t) ∉ L) (hs : tot L + s.length ≤ 3600) : Rep (putG g k s) (insR (k,s) L) stamp := by
  obtain ⟨ord,o1,o2,o3⟩ := h.ord
  have hok := h.ok
  have hlow := h.low
  have hdl := hok.data
  have hml := hok.many
  have hp := Gl (k,s) L
  have htot : tot (insR (k,s) L) = s.length + tot L := by rw [Ik hp,DV]
  have hmax : g.many ≤ max g.many (k + 1) ∧ k + 1 ≤ max g.many (k + 1) ∧ (max g.many (k + 1) = g.many ∨ max g.many (k + 1) = k + 1) := by omega
  obtain ⟨m,hm⟩ : ∃ m,m = max g.many (k + 1) := ⟨_,rfl⟩
  rw [← hm] at hmax
  have em : (putG g k s).many = m := hm.symm
  have ed : (putG g k s).dir = (extD g.dir g.many m).set k (g.low - s.length,s.length) := by rw [hm]; rfl
  have hdk : (putG g k s).dir[k]? = some (g.low - s.length,s.length) := by
    rw [ed,List.getElem?_set_self (by rw [Jo,hok.dir]; exact hk)]
  have hdj : ∀ j,j ≠ k → j < g.many → (putG g k s).dir[j]? = g.dir[j]? := by
    intro j hj hjm
    rw [ed,List.getElem?_set_ne (Ne.symm hj),G6]
    cases g.dir[j]? with
    | none => rfl
    | some p => rw [Option.map_some,if_neg (by omega)]
  have okp : (putG g k s).Ok := by
    have e1 := Zj hok (m := m) (by omega)
    have e2 := e1.ent
    refine ⟨hok.st,by show max g.many (k + 1) < 65536; omega,?_,?_,by rw [em]; omega,?_,by show g.low - s.length ≤ 4096; omega⟩
    · rw [ed,length_set,Jo,hok.dir]
    · show (g.data.take (g.low - s.length - 490) ++ (s ++ g.data.drop (g.low - s.length - 490 + s.length))).length = 3606
      simp only [length_append,length_take,length_drop,hdl]; omega
    · intro p hp
      rw [ed] at hp
      rcases List.mem_or_eq_of_mem_set hp with hp | rfl
      · exact e2 p hp
      · exact ⟨by simp only; omega,by simp only; omega⟩
  refine ⟨okp,h.st,h.stamp,rfl,IC _ _ h.sorted fun p hp e => hn p.2 (by have e' : p.1 = k := e; rw [← e']; exact hp),?_,?_,?_,⟨(k,s) :: ord,(o1.cons _).trans hp.symm,?_,?_⟩,by omega,?_⟩
  · intro p hp
    rw [em]
    rcases (FZ _ _ _).1 hp with rfl | hp
    · simp only; omega
    · have := h.below _ hp; omega
  · rw [em]
    rcases hmax.2.2 with e | e
    · right
      rcases h.last with h0 | ⟨t,ht⟩
      · omega
      · exact ⟨t,by rw [e]; exact (FZ _ _ _).2 (.inr ht)⟩
    · exact .inr ⟨s,by rw [e]; exact (FZ _ _ _).2 (.inl rfl)⟩
  · intro j hj hn'
    rw [em] at hj
    have hjk : j ≠ k := fun e => hn' s (by rw [e]; exact (FZ _ _ _).2 (.inl rfl))
    by_cases hjm : j < g.many
    · rw [getD_eq_getElem?_getD,hdj j hjk hjm,← getD_eq_getElem?_getD]
      exact h.free j hjm fun t ht => hn' t ((FZ _ _ _).2 (.inr ht))
    · rw [getD_eq_getElem?_getD,ed,List.getElem?_set_ne (Ne.symm hjk),G6]
      cases g.dir[j]? with
      | none => rfl
      | some p => rw [Option.map_some,if_pos ⟨by omega,hj⟩]; rfl
  · refine ⟨hdk,?_⟩
    show Laid (putG g k s).dir (g.low - s.length + s.length) ord
    rw [show g.low - s.length + s.length = g.low by omega]
    have : ∀ (x : Recs) (a : Nat),Laid g.dir a x → (∀ p ∈ x,p ∈ L) → Laid (putG g k s).dir a x := by
      intro x
      induction x with
      | nil => intro a h _; exact h
      | cons p x ih =>
        intro a hl hx
        obtain ⟨j,t⟩ := p
        have hjL := hx (j,t) (.head _)
        refine ⟨?_,ih _ hl.2 fun q hq => hx q (.tail _ hq)⟩
        rw [hdj j (fun e => hn t (by rw [← e]; exact hjL)) (h.below _ hjL)]
        exact hl.1
    exact this ord g.low o2 fun p hp => o1.mem_iff.1 hp
  · show (g.data.take (g.low - s.length - 490) ++ (s ++ g.data.drop (g.low - s.length - 490 + s.length))).drop (g.low - s.length - 490) = _
    rw [drop_left _ _ _ (by rw [length_take,hdl]; omega),List.flatMap_cons]
    congr 1
    rw [← o3]
    congr 1
    omega
  · show g.low - s.length + tot (insR (k,s) L) = 4096
    omega
def aput (L : Recs) (k : Int) (s : List UInt8) : Recs × Int :=
  if k < 0 ∨ 120 ≤ k then (L,110) else if 3600 < tot (wo L k.toNat) + s.length then (L,111) else (insR (k.toNat,s) (wo L k.toNat),0)
theorem X0 (b : Nat) (g : Pg) (L : Recs) (stamp : Nat) (hR : Rep g L stamp) (k : Int) (s : List UInt8) (w : World) (h : Blk w b g.cells 144) :
    Calls Tryz.prog 100 #[.pointer (some ⟨b,0,none⟩),.int .i64 k,sv s] w fun e w' => e = .returned (.int .i64 (aput L k s).2) ∧ ∃ g',Rep g' (aput L k s).1 stamp ∧ Hp [b] w w' [pgA b g'] := by
  apply put.ok
  unfold put.vc
  have H : Hp [b] w w [pgA b g] := Hp.JF (a := pgA b g) h
  have hmax : maxLen = 9223372036854775807 := by simp [maxLen]
  refine AO (fun h1 => ?_) (fun h1 => AO (fun h2 => ?_) (fun h2 => ?_))
  · rw [aput,if_pos (.inl h1)]; exact ⟨rfl,g,hR,H⟩
  · rw [aput,if_pos (.inr h2)]; exact ⟨rfl,g,hR,H⟩
  obtain ⟨K,rfl⟩ : ∃ K : Nat,k = K := ⟨k.toNat,by omega⟩
  have hK : K < 120 := by omega
  have hsm := hR.small
  rw [aput,if_neg (by omega),Int.toNat_natCast]
  refine AL (room_spec b g _ (pgOf hR.ok H EQ4 (by repeat first | exact .head _ | refine .tail _ ?_))) ?_
  rintro e w1 ⟨rfl,H'⟩; replace H := H.ext0 H'; clear H'
  refine ⟨_,rfl,?_⟩
  rw [hR.total_eq]
  refine AL (Ig b g K _ (pgOf hR.ok H EQ4 (by repeat first | exact .head _ | refine .tail _ ?_))) ?_
  rintro e w2 ⟨rfl,H'⟩; replace H := H.ext0 H'; clear H'
  refine ⟨_,_,rfl,?_⟩
  rw [QC]
  have hmem : (if 0 ≤ (K : Int) ∧ (K : Int) < (g.many : Int) then ((g.dir.getD (K : Int).toNat (0,0)).1 : Int) else 0) = if K < g.many then (atOf g K : Int) else 0 := by
    rw [Int.toNat_natCast]
    by_cases hc : K < g.many
    · rw [if_pos (by omega),if_pos hc]; rfl
    · rw [if_neg (by omega),if_neg hc]
  have hmem2 : (if 0 ≤ (K : Int) ∧ (K : Int) < (g.many : Int) then ((g.dir.getD (K : Int).toNat (0,0)).2 : Int) else 0) = if K < g.many then (lenOf g K : Int) else 0 := by
    rw [Int.toNat_natCast]
    by_cases hc : K < g.many
    · rw [if_pos (by omega),if_pos hc]; rfl
    · rw [if_neg (by omega),if_neg hc]
  rw [hmem,hmem2]
  have hlive := hR.G9 (k := K)
  refine F8.mk (fun f w' => f = 3600 - (tot (wo L K) : Int) ∧ Hp [b] w w' [pgA b g]) ?_ ?_
  · clear H hmem hmem2
    rintro f w2 ⟨rfl,H⟩
    refine AO (fun hf => ?_) (fun hf => ?_)
    · rw [if_pos (by omega)]; exact ⟨rfl,g,hR,H⟩
    rw [if_neg (by omega)]
    refine AL (XZ b g L stamp hR K _ (H.ok _ (.head _))) ?_
    rintro e w3 ⟨rfl,g',hR',H'⟩; replace H := Hp.FO (a := pgA b _) H H'; clear H'
    refine ⟨rfl,?_⟩
    have hno : ∀ t,(K,t) ∉ wo L K := fun t ht => (Zr.1 ht).2 rfl
    have hfin := hR'.put hK hno (s := s) (by omega)
    have hgm := hR'.ok.many
    have hgl := hR'.low
    have hgd := hR'.ok.data
    refine Ae.mk (fun mm _ w' => ∃ m,mm = 121 - m ∧ g'.many ≤ m ∧ m ≤ max g'.many (K + 1) ∧ Hp [b] w w' [pgA b (extG g' m)]) (121 - g'.many) ⟨g'.many,rfl,Nat.le_refl _,by omega,by unfold extG; rw [extD_self]; exact H⟩ ?_
    clear H
    rintro mm u w4 next ⟨m,rfl,hm1,hm2,H⟩ hnext
    have okm := Zj hR'.ok (m := m) (by omega)
    refine AA rfl ⟨_,by rw [addB]; exact (pgOf okm H EQ4 (.head _)).Gz,?_⟩
    refine AO (fun hle => ?_) (fun hle => ?_)
    · have hle' : m ≤ K := by have h9 : ((m : Nat) : Int) ≤ (K : Int) := hle; omega
      refine AA rfl ⟨_,by rw [addB]; exact (pgOf okm H EQ4 (.head _)).Gz,?_⟩
      refine AL (NG b _ m 0 0 (by omega) (by omega) (by omega) _ (pgOf okm H EQ4 (.head _))) ?_
      rintro e w5 ⟨rfl,ok2,H'⟩; replace H := Hp.FO (a := pgA b _) H H'; clear H'
      refine ⟨rfl,AA rfl ⟨_,by rw [addB]; exact (pgOf ok2 H EQ4 (.head _)).Gz,?_⟩⟩
      show inR .i64 ((m : Int) + 1) ∧ onP _ fun a => ∃ w1,St Tryz.prog 3 _ (Addr.add a 4096) (.int .i64 ((m : Int) + 1)) w1 ∧ _
      refine ⟨AY.2 (by omega),AA rfl ?_⟩
      rw [addB,show (m : Int) + 1 = ((m + 1 : Nat) : Int) by omega]
      refine Hp.st H EQ4 scl3 rfl rfl (by rw [ok2.clen]; omega) (Pg.Ri ok2 _) ?_
      clear H
      intro w6 H
      refine hnext (121 - (m + 1)) _ _ (by omega) ⟨m + 1,rfl,by omega,by omega,?_⟩
      have e : ({ setD (extG g' m) m 0 0 with many := m + 1 } : Pg) = extG g' (m + 1) := by
        show ({ g' with dir := (extD g'.dir g'.many m).set m (0,0),many := m + 1 } : Pg) = _
        rw [extD_succ _ _ _ hm1]; rfl
      rw [e] at H
      exact H
    · have hle' : ¬ m ≤ K := fun h9 => hle (by show ((m : Nat) : Int) ≤ (K : Int); omega)
      have hmm : m = max g'.many (K + 1) := by omega
      have hb : ∀ k,({ extG g' m with hdr := k } : Pg).bs = g'.st ++ (be (k : Int) 2 ++ (dirB (extG g' m).dir ++ g'.data)) := fun k => rfl
      refine AA rfl ⟨_,by rw [addB]; exact (pgOf okm H EQ4 (.head _)).Gz,?_⟩
      refine AL (Me b (extG g' m) { extG g' m with hdr := m } g'.st (be g'.hdr 2) (dirB (extG g' m).dir ++ g'.data) 8 m (AU _ 2) hR'.ok.st (by omega) rfl (hb m) rfl rfl _ (pgOf okm H EQ4 (.head _))) ?_
      rintro e w5 ⟨rfl,H'⟩; replace H := Hp.FO (a := pgA b _) H H'; clear H'
      have ok3 : ({ extG g' m with hdr := m } : Pg).Ok := ⟨okm.st,by show m < 65536; omega,okm.dir,okm.data,okm.many,okm.ent,okm.low⟩
      refine ⟨rfl,AA rfl ⟨_,by rw [addB]; exact (pgOf ok3 H EQ4 (.head _)).Pn,?_⟩⟩
      show inR .i64 ((g'.low : Int) - (s.length : Int)) ∧ onP _ fun a => ∃ w1,St Tryz.prog 3 _ (Addr.add a 4097) (.int .i64 ((g'.low : Int) - (s.length : Int))) w1 ∧ _
      have e1 : (g'.low : Int) - (s.length : Int) = ((g'.low - s.length : Nat) : Int) := by omega
      rw [e1]
      refine ⟨AY.2 (by omega),AA rfl ?_⟩
      rw [addB]
      refine Hp.st H EQ4 scl3 rfl rfl (by rw [ok3.clen]; omega) (Pg.Yl ok3 _) ?_
      clear H
      intro w6 H
      obtain ⟨g4,hg4⟩ : ∃ g4 : Pg,g4 = { ({ extG g' m with hdr := m } : Pg) with low := g'.low - s.length } := ⟨_,rfl⟩
      have ok4 : g4.Ok := by rw [hg4]; exact ⟨ok3.st,ok3.hdr,ok3.dir,ok3.data,ok3.many,ok3.ent,by show g'.low - s.length ≤ 4096; omega⟩
      rw [← hg4] at H
      have hlow4 : g4.low = g'.low - s.length := by rw [hg4]
      refine AA rfl (AA rfl ⟨_,by rw [addB]; exact (pgOf ok4 H EQ4 (.head _)).Pn,?_⟩)
      rw [hlow4,Int.toNat_natCast,QT]
      refine ⟨⟨by omega,by omega⟩,?_⟩
      have hsl2 := Zy (g'.low - s.length)
      refine Hp.cpy H EQ4 PO scl5.size (Src.ofString _ und9 ⟨s.toArray⟩) (by rw [QC]; omega) (by rw [QC,ok4.clen]; omega) ?_
      clear H
      intro w7 H
      rw [Di,VQ _ _ _ (by rw [AQ]; omega),O4 ok4 (by omega) (by omega)] at H
      have ok5 := LX ok4 (i := g'.low - s.length) (x := s) (by omega) (by omega)
      refine AA rfl ⟨_,by rw [addB]; exact (pgOf ok5 H EQ4 (.head _)).Pn,?_⟩
      have hlow5 : (F5 g4 (g'.low - s.length) s).low = g'.low - s.length := hlow4
      rw [hlow5]
      refine AL (NG b _ K (g'.low - s.length) s.length hK (by omega) (by omega) _ (pgOf ok5 H EQ4 (.head _))) ?_
      rintro e w8 ⟨rfl,_,H'⟩; replace H := Hp.FO (a := pgA b _) H H'; clear H'
      refine ⟨rfl,rfl,_,hfin,?_⟩
      have e : setD (F5 g4 (g'.low - s.length) s) K (g'.low - s.length) s.length = putG g' K s := by
        rw [hg4]
        unfold putG setD F5 extG
        simp only [← hmm]
      rw [e] at H
      exact H
  · intro J hJ
    refine AO (fun h0 => ?_) (fun h0 => ?_)
    · have hkm : K < g.many := by
        refine Classical.byContradiction fun hn => ?_
        rw [if_neg hn] at h0; omega
      rw [if_pos hkm] at h0 ⊢
      obtain ⟨t,ht⟩ := hR.G9.1 ⟨hkm,by omega⟩
      have hat := hR.at_ ht
      have hwt := wo_tot hR.sorted ht
      exact ⟨AY.2 (by omega),hJ _ _ ⟨by omega,H⟩⟩
    · refine hJ _ _ ⟨?_,H⟩
      rw [KP]
      intro t ht
      have hat := hR.at_ ht
      have := hR.below _ ht
      rw [if_pos this] at h0
      omega
def lk(L:Recs)(k:Int):Option (List UInt8):=(L.find? fun p=>decide ((p.1:Int)=k)).map (·.2)
theorem lk_some{L:Recs}(hs:L.Pairwise fun a b=>a.1<b.1){k:Nat}{s:List UInt8}(h:(k,s)∈L):lk L (k:Int)=some s:=by
 unfold lk
 cases hf:L.find? fun p=>decide ((p.1:Int)=(k:Int))with
 |none=>have:=List.find?_eq_none.1 hf _ h;simp at this
 |some p=>
  have h1:=List.mem_of_find?_eq_some hf
  have h2:p.1=k:=by have:=List.find?_some hf;simp only[decide_eq_true_eq]at this;omega
  have:(k,p.2)∈L:=by rw[<- h2];exact h1
  rw[Option.map_some,Yp hs this h]
theorem J9{L:Recs}(k:Int):(lk L k=none/\∀p∈L,(p.1:Int)≠k)\/∃(K:Nat)(s:List UInt8),k=K/\(K,s)∈L/\lk L k=some s:=by
 unfold lk
 cases hf:L.find? fun p=>decide ((p.1:Int)=k)with
 |none=>exact .inl ⟨rfl,fun p hp=>by have:=List.find?_eq_none.1 hf p hp;simpa using this⟩
 |some p=>
  have h2:=List.find?_some hf
  simp only[decide_eq_true_eq]at h2
  exact .inr ⟨p.1,p.2,h2.symm,List.mem_of_find?_eq_some hf,rfl⟩
section
variable{b:Nat}{g:Pg}{L:Recs}{stamp:Nat}{w:World}
theorem get_any(hR:Rep g L stamp)(h:Blk w b g.cells 144)(k:Int):
  Calls Tryz.prog 43 #[.pointer (some ⟨b,0,none⟩),.int .i64 k] w fun e w'=>e=.returned (.tuple #[sv ((lk L k).getD []),.bool (lk L k).isSome])/\Hp [] w w' []:=by
 refine Calls.mono (get_spec b g k w ⟨hR.ok,h⟩ hR.fit) ?_
 rintro e w' ⟨rfl,H⟩
 refine⟨?_,H⟩
 rcases J9 (L:=L) k with⟨h1,h2⟩|⟨K,s,rfl,h2,h3⟩
 ·rw[h1,if_neg]
  ·rfl
  ·rintro⟨h3,h4,h5⟩
   obtain⟨s,hs⟩:=hR.G9.1 ⟨by omega,h5⟩
   exact h2 _ hs (by simp only;omega)
 ·have hat:=hR.at_ h2
  have:=hR.below _ h2
  rw[h3,if_pos ⟨by omega,by simp only at this;omega,by rw[Int.toNat_natCast];omega⟩,Int.toNat_natCast,hat.2.2.2]
  rfl
theorem slots_any(hR:Rep g L stamp)(h:Blk w b g.cells 144):
  Calls Tryz.prog 42 #[.pointer (some ⟨b,0,none⟩)] w fun e w'=>∃a c,e=.returned (.slice a L.length c)/\Hp [] w w' [.own 3 1 a L.length c (intC (L.map (·.1)))]:=by
 refine Calls.mono (slots_spec b g w ⟨hR.ok,h⟩) ?_
 rintro e w' ⟨a,c,rfl,H⟩
 rw[hR.ZZ,length_map]at H⊢
 exact⟨a,c,rfl,H⟩
def adel(L:Recs)(k:Int):Recs×Int:=if(lk L k).isSome then(wo L k.toNat,0)else(L,110)
theorem LH(hR:Rep g L stamp)(h:Blk w b g.cells 144)(k:Int):
  Calls Tryz.prog 99 #[.pointer (some ⟨b,0,none⟩),.int .i64 k] w fun e w'=>e=.returned (.int .i64 (adel L k).2)/\∃g',Rep g' (adel L k).1 stamp/\Hp [b] w w' [pgA b g']:=by
 apply delete.ok
 unfold delete.vc
 have H:Hp [b] w w [pgA b g]:=Hp.JF (a:=pgA b g) h
 refine AL (Ig b g k _ (pgOf hR.ok H EQ4 (by repeat first|exact .head _|refine .tail _ ?_))) ?_
 rintro e w1 ⟨rfl,H'⟩;replace H:=H.ext0 H';clear H'
 refine⟨_,_,rfl,?_⟩
 unfold adel
 rcases J9 (L:=L) k with⟨h1,h2⟩|⟨K,s,rfl,h2,h3⟩
 ·rw[h1]
  refine AO (fun _=>⟨rfl,g,hR,H⟩) (fun h0=>absurd ?_ h0)
  split
  ·rename_i hc
   refine Classical.byContradiction fun h4=>?_
   obtain⟨s,hs⟩:=hR.G9.1 ⟨show k.toNat<g.many by omega,by show 0<(g.dir.getD k.toNat (0,0)).1;omega⟩
   exact h2 _ hs (by simp only;omega)
  ·rfl
 ·have hat:=hR.at_ h2
  have hbe:=hR.below _ h2
  simp only at hbe
  have e1:(if 0<=(K:Int)/\(K:Int)<(g.many:Int)then((g.dir.getD (K:Int).toNat (0,0)).1:Int)else 0)=(atOf g K:Int):=by
   rw[if_pos (by omega),Int.toNat_natCast];rfl
  rw[e1,h3]
  refine AO (fun h0=>absurd h0 (by omega)) (fun _=>?_)
  refine AL (XZ b g L stamp hR K _ (H.ok _ (.head _))) ?_
  rintro e w3 ⟨rfl,g',hR',H'⟩;replace H:=Hp.FO (a:=pgA b _) H H';clear H'
  refine⟨rfl,rfl,g',?_,H⟩
  rw[Int.toNat_natCast]
  exact hR'
end
theorem FY:Scl Tryz.prog 27:=BP (by kernel_rfl)
theorem Ho:Scl Tryz.prog 29:=BP (by kernel_rfl)
theorem Pv(b:Nat)(g:Pg)(w:World)(h:PgAt w b g):
  Calls Tryz.prog 126 #[.pointer (some ⟨b,0,none⟩)] w fun e w'=>e=.returned (.int .i64 (num g.st))/\Hp [] w w' []:=by
 apply stamp.ok
 unfold stamp.vc
 have hst:=h.1.st
 refine AA rfl ⟨⟨by omega,by omega⟩,?_⟩
 refine Ae.mk (fun m s w'=>∃k:Nat,m=8-k/\k<=8/\s=(num (g.st.take k),(k:Int))/\Hp [] w w' []) 8 ⟨0,rfl,by omega,by simp[num,valN,DN],Hp.start w⟩ ?_
 rintro m s w' next ⟨k,rfl,hk,rfl,H⟩ hnext
 refine AO (fun h1=>?_) (fun h1=>?_)
 ·have hk8:k<8:=by have h9:(k:Int)<((Int.toNat 8:Nat):Int):=h1;omega
  have hk':k<g.st.length:=by omega
  have e1:Int.toNat (k:Int)*1=k:=by omega
  have hb:g.bs[k]'(by rw[h.1.len];omega)=g.st[k]:=by
   simp only[Pg.bs]
   exact List.getElem_append_left hk'
  have hts:=Gt g.st k hk'
  have hlt:=(g.st[k]).toNat_lt
  refine⟨⟨by simp only;omega,h1⟩,_,by rw[e1,addB,];exact(h.chg H.chg (by simp)).ldB (by omega),by omega,?_⟩
  rw[hb]
  simp only[num]
  rw[Y4 _ _ hlt,<- hts,DN (z:=(k:Int)+1) (by omega)]
  exact hnext (8-(k+1)) _ _ (by omega) ⟨k+1,rfl,by omega,by simp[num],H⟩
 ·have hk8:k=8:=by have h9:¬(k:Int)<((Int.toNat 8:Nat):Int):=h1;omega
  subst hk8
  rw[take_of_length_le (by omega)]
  exact⟨rfl,H⟩
theorem stamp_spec(b:Nat)(g:Pg)(hv:valN g.st<=4611686018427387904)(w:World)(h:PgAt w b g):
  Calls Tryz.prog 126 #[.pointer (some ⟨b,0,none⟩)] w fun e w'=>e=.returned (.int .i64 (valN g.st:Int))/\Hp [] w w' []:=by
 have:=Pv b g w h
 rw[num,DN (by omega)]at this
 exact this
theorem OX{b:Nat}{g:Pg}{L:Recs}{stamp:Nat}{w:World}(hR:Rep g L stamp)(h:Blk w b g.cells 144):
  Calls Tryz.prog 126 #[.pointer (some ⟨b,0,none⟩)] w fun e w'=>e=.returned (.int .i64 (stamp:Int))/\Hp [] w w' []:=by
 have hs:=hR.stamp
 have e:(valN g.st:Int)=(stamp:Int):=by
  rw[hR.st];exact Dj (by omega) (by omega)
 have:=stamp_spec b g (by omega) w ⟨hR.ok,h⟩
 rw[e]at this
 exact this
theorem YO(n:Int):∀(m k:Nat),k<m->(be n m)[k]? =some (bt n (m-1-k))
 |0,k,h=>by omega
 |m+1,0,_=>rfl
 |m+1,k+1,h=>by
  rw[be,List.getElem?_cons_succ,YO n m k (by omega)]
  congr 2;omega
def stS(st:List UInt8)(n:Int)(k:Nat):List UInt8:=(be n 8).take k++st.drop k
theorem ZQ{st:List UInt8}(h:st.length=8)(n:Int){k:Nat}(hk:k<=8):(stS st n k).length=8:=by
 simp only[stS,length_append,length_take,length_drop,AU,h];omega
theorem stS_succ{st:List UInt8}(h:st.length=8)(n:Int){k:Nat}(hk:k<8):(stS st n k).set k (bt n (7-k))=stS st n (k+1):=by
 have hl:((be n 8).take k).length=k:=by rw[length_take,AU];omega
 have hg:=YO n 8 k hk
 obtain⟨hb,he⟩:=List.getElem?_eq_some_iff.1 hg
 have:st.drop k=st[k]::st.drop (k+1):=List.drop_eq_getElem_cons (by omega)
 unfold stS
 rw[set_append,if_neg (by omega),hl,Nat.sub_self,this,set_cons_zero,List.take_succ_eq_append_getElem hb,he,append_assoc]
 rfl
def Eo(n:Int):Prop:=0<=n/\n<=4611686018427387904
instance (n:Int):Decidable (Eo n):=by unfold Eo;infer_instance
theorem Rep.stamped{g:Pg}{L:Recs}{stamp:Nat}(h:Rep g L stamp){n:Nat}(hn:n<=4611686018427387904):Rep {g with st:=be (n:Int) 8} L n:=
 ⟨⟨AU _ 8,h.ok.hdr,h.ok.dir,h.ok.data,h.ok.many,h.ok.ent,h.ok.low⟩,rfl,hn,h.hdr,h.sorted,h.below,h.last,h.free,h.ord,h.small,h.low⟩
def cu(stamp:Nat)(n:Int):Nat:=if Eo n then n.toNat else stamp
theorem ND{b:Nat}{g:Pg}{L:Recs}{stamp:Nat}{w:World}(hR:Rep g L stamp)(h:Blk w b g.cells 144)(n:Int):
  Calls Tryz.prog 102 #[.pointer (some ⟨b,0,none⟩),.int .i64 n] w fun e w'=>e=.returned (.bool (decide (Eo n)))/\∃g',Rep g' L (cu stamp n)/\Hp [b] w w' [pgA b g']:=by
 apply setStamp.ok
 unfold setStamp.vc
 have H:Hp [b] w w [pgA b g]:=Hp.JF (a:=pgA b g) h
 have bad:¬Eo n->(Ending.returned (.bool false)=.returned (.bool (decide (Eo n))))/\∃g',Rep g' L (cu stamp n)/\Hp [b] w w [pgA b g']:=fun hn=>by
  rw[cu,if_neg hn]
  exact⟨nope hn,g,hR,H⟩
 refine AO (fun h1=>bad fun hh=>by have:=hh.1;omega) (fun h1=>AO (fun h2=>bad fun hh=>by have:=hh.2;omega) (fun h2=>?_))
 clear bad
 obtain⟨N,rfl⟩:∃N:Nat,n=N:=⟨n.toNat,by omega⟩
 have hok:Eo (N:Int):=⟨by omega,by omega⟩
 have hst:=hR.ok.st
 have okS:∀k,k<=8->({g with st:=stS g.st N k}:Pg).Ok:=fun k hk=>⟨ZQ hst _ hk,hR.ok.hdr,hR.ok.dir,hR.ok.data,hR.ok.many,hR.ok.ent,hR.ok.low⟩
 refine Ae.mk (fun m s w'=>∃k:Nat,m=8-k/\k<=8/\s=(k:Int)/\Hp [b] w w' [pgA b {g with st:=stS g.st N k}]) 8 ⟨0,rfl,by omega,rfl,H⟩ ?_
 clear H
 rintro m s w' next ⟨k,rfl,hk,rfl,H⟩ hnext
 refine AO (fun h3=>?_) (fun h3=>?_)
 ·have hk8:k<8:=by omega
  refine⟨AY.2 (by omega),AY.2 (by omega),by omega,AA rfl ⟨⟨by omega,by omega⟩,?_⟩⟩
  have e1:Int.toNat (k:Int)*1=k:=by omega
  have e2:(56:Int)-8*(k:Int)=8*((7-k:Nat):Int):=by omega
  rw[e1,addB,e2,Js (N:Int) (7-k) (by omega) _ rfl]
  refine Hp.st H EQ4 scl5 rfl rfl (by rw[(okS k hk).clen];omega) (Pg.Td (okS k hk) (by omega) _) ?_
  clear H
  intro w1 H
  refine⟨AY.2 (by omega),hnext (8-(k+1)) _ _ (by omega) ⟨k+1,rfl,by omega,by omega,?_⟩⟩
  have e:bQ (({g with st:=stS g.st N k}:Pg).bs.set k (bt N (7-k)))++[.int .i64 (g.many:Int),.int .i64 (g.low:Int)]=({g with st:=stS g.st N (k+1)}:Pg).cells:=by
   have:({g with st:=stS g.st N k}:Pg).bs.set k (bt N (7-k))=({g with st:=stS g.st N (k+1)}:Pg).bs:=by
    simp only[Pg.bs]
    rw[set_append,if_pos (by rw[ZQ hst _ hk];exact hk8),stS_succ hst _ hk8]
   rw[this];rfl
  have H:Hp [b] w w1 [.blk b (bQ (({g with st:=stS g.st N k}:Pg).bs.set k (bt N (7-k)))++[.int .i64 (g.many:Int),.int .i64 (g.low:Int)]) 144]:=H
  rw[e]at H
  exact H
 ·have hk8:k=8:=by omega
  subst hk8
  rw[cu,if_pos hok,Int.toNat_natCast]
  refine⟨by rw[decide_eq_true hok],_,hR.stamped (by omega),?_⟩
  have e:stS g.st (N:Int) 8=be (N:Int) 8:=by
   unfold stS
   rw[take_of_length_le (by rw[AU];exact Nat.le_refl _),List.drop_eq_nil_of_le (by omega),append_nil]
  rw[e]at H
  exact H
def gZ(low:Nat):Pg:= {st:=List.replicate 8 0,hdr:=0,dir:=List.replicate 120 (0,0),data:=List.replicate 3606 0,many:=0,low:=low}
theorem WM{low:Nat}(h:low<=4096):(gZ low).Ok:=⟨length_replicate,by show 0<65536;omega,length_replicate,length_replicate,by show 0<=120;omega,fun p hp=>by rw[List.eq_of_mem_replicate hp];simp,h⟩
theorem zl54:zl Tryz.prog 144=(gZ 0).cells:=by kernel_rfl
theorem new54:bigL Tryz.prog 144 [(2,.int .i64 4096)]=(gZ 4096).cells:=by kernel_rfl
theorem zl52:(zl Tryz.prog 142).length=4096:=by kernel_rfl
theorem Vz:Rep (gZ 4096) [] 0:=⟨WM (by omega),by show List.replicate 8 (0:UInt8)=be ((0:Nat):Int) 8;decide,by omega,rfl,.nil,by simp,.inl rfl,fun k hk=>by have:k<0:=hk;omega,⟨[],.refl _,rfl,by show(List.replicate 3606 (0:UInt8)).drop 3606=[];simp⟩,by simp[tot],by simp[tot,gZ]⟩
theorem new_any(w:World):Calls Tryz.prog 98 #[] w fun e w'=>∃b,e=.returned (.pointer (some ⟨b,0,none⟩))/\Hp [] w w' [pgA b (gZ 4096)]:=by
 apply snew.ok
 unfold snew.vc
 have H:=Hp.start w
 rw[new54]
 (intro _ _ hn;replace H:=H.new EQ4 hn;clear hn)
 exact⟨_,rfl,H⟩
theorem Ov{l cs:List Value}(h:l.length=cs.length):over l 0 cs=l:=by
 apply ext_getElem?
 intro k
 rw[Gs _ _ _ (by omega)]
 by_cases hk:k<l.length
 ·rw[if_pos (by omega),Nat.sub_zero]
 ·rw[if_neg (by omega),List.getElem?_eq_none (by omega),List.getElem?_eq_none (by omega)]
theorem cells_one(g:Pg):g.cells.all (·.oneCell')=true:=by
 rw[all_eq_true]
 intro u hu
 rcases List.mem_append.1 hu with h|h
 ·exact Eu _ u h
 ·rcases mem_cons.1 h with rfl|h
  ·rfl
  ·rcases mem_cons.1 h with rfl|h
   ·rfl
   ·cases h
theorem clone_any(b:Nat)(g:Pg)(w:World)(h:PgAt w b g):
  Calls Tryz.prog 89 #[.pointer (some ⟨b,0,none⟩)] w fun e w'=>∃b',e=.returned (.pointer (some ⟨b',0,none⟩))/\Hp [] w w' [pgA b' g]:=by
 apply clone.ok
 unfold clone.vc
 have H:=Hp.start w
 refine AA rfl ⟨bQ g.bs,_,_,Blk.ldA (vs:=g.cells) (o:=0) h.2 CY.agg (by rw[h.1.clen];exact CY.size) (by rw[drop_zero];exact take_length),?_⟩
 rw[zl54]
 (intro _ _ hn;replace H:=H.new EQ4 hn;clear hn)
 refine Hp.stA (vs:=g.cells) H EQ4 CY h.1.clen (cells_one g) (by rw[(WM (by omega)).clen];omega) (Ov (by rw[h.1.clen,(WM (by omega)).clen])) ?_
 clear H
 intro w2 H
 exact⟨_,rfl,H⟩
theorem UV(b:Nat)(g:Pg)(w:World)(h:PgAt w b g):
  Calls Tryz.prog 59 #[.pointer (some ⟨b,0,none⟩)] w fun e w'=>∃b',e=.returned (.slice (some ⟨b',0,none⟩) 4096 4096)/\Hp [] w w' [.blk b' (bQ g.bs) 142]:=by
 apply bytes.ok
 unfold bytes.vc
 have H:=Hp.start w
 have hl:(bQ g.bs).length=4096:=by rw[AQ,h.1.len]
 refine AA rfl ⟨bQ g.bs,Blk.ldA (vs:=bQ g.bs) (o:=0) h.2 Ci.agg (by rw[hl];exact Ci.size) ?_,?_⟩
 ·rw[drop_zero,Pg.cells]
  exact take_left _ _ _ rfl
 have z:=zl52
 generalize zl Tryz.prog 142=zz at z⊢
 (intro _ _ hn;replace H:=H.new EQ4 hn;clear hn)
 refine Hp.stA (vs:=bQ g.bs) H EQ4 Ci hl (all_eq_true.2 (Eu _)) (by omega) (Ov (by omega)) ?_
 clear H
 intro w2 H
 exact⟨_,rfl,H⟩
def upto(L:Recs)(k:Nat):Recs:=L.filter fun p=>decide (p.1<k)
theorem Px{L:Recs}(h:L.Pairwise fun a b=>a.1<b.1)(k:Nat):(upto L k).Pairwise fun a b=>a.1<b.1:=h.filter _
theorem upto_all{L:Recs}{m:Nat}(h:∀p∈L,p.1<m):upto L m=L:=List.filter_eq_self.2 fun p hp=>by simpa using h p hp
theorem insR_end(x:Nat×List UInt8):∀L:Recs,(∀p∈L,p.1<x.1)->insR x L=L++[x]
 | [],_=>rfl
 |p::r,h=>by
  rw[insR,if_neg (by have:=h p (.head _);omega),insR_end x r fun q hq=>h q (.tail _ hq)];rfl
theorem tot_sub(L:Recs)(f:Nat×List UInt8->Bool):tot (L.filter f)<=tot L:=by
 induction L with
 |nil=>exact Nat.le_refl _
 |cons p r ih=>
  rw[filter_cons,DV]
  split
  ·rw[DV];omega
  ·omega
theorem Xw:∀{x y:Recs},x.Pairwise (fun a b=>a.1<b.1)->y.Pairwise (fun a b=>a.1<b.1)->(∀p,p∈x↔p∈y)->x=y
 | [],[],_,_,_=>rfl
 | [],b::y,_,_,h=>by have:=(h b).2 (.head _);cases this
 |a::x,[],_,_,h=>by have:=(h a).1 (.head _);cases this
 |a::x,b::y,hx,hy,h=>by
  obtain⟨hx1,hx2⟩:=pairwise_cons.1 hx
  obtain⟨hy1,hy2⟩:=pairwise_cons.1 hy
  have hab:a=b:=by
   rcases mem_cons.1 ((h a).1 (.head _))with e|m
   ·exact e
   ·rcases mem_cons.1 ((h b).2 (.head _))with e|m'
    ·exact e.symm
    ·have:=hy1 a m;have:=hx1 b m';omega
  subst hab
  congr 1
  refine Xw hx2 hy2 fun k=>⟨fun hk=>?_,fun hk=>?_⟩
  ·rcases mem_cons.1 ((h k).1 (.tail _ hk))with e|m
   ·subst e;have:=hx1 k hk;omega
   ·exact m
  ·rcases mem_cons.1 ((h k).2 (.tail _ hk))with e|m
   ·subst e;have:=hy1 k hk;omega
   ·exact m
theorem upto_step{L:Recs}(hs:L.Pairwise fun a b=>a.1<b.1){k:Nat}{s:List UInt8}(h:(k,s)∈L):insR (k,s) (wo (upto L k) k)=upto L (k+1):=by
 have hwo:wo (upto L k) k=upto L k:=KP fun t ht=>by simp[upto]at ht
 rw[hwo]
 refine Xw (IC _ _ (Px hs k) fun p hp=>by simp[upto]at hp;simp only;omega) (Px hs _) fun p=>?_
 rw[FZ]
 simp only[upto,mem_filter,decide_eq_true_eq]
 constructor
 ·rintro(rfl|⟨h1,h2⟩)
  ·exact⟨h,by simp⟩
  ·exact⟨h1,by omega⟩
 ·rintro⟨h1,h2⟩
  by_cases hp:p.1=k
  ·left
   obtain⟨j,t⟩:=p
   simp only at hp
   subst hp
   rw[Yp hs h1 h]
  ·exact .inr ⟨h1,by omega⟩
theorem upto_skip{L:Recs}{k:Nat}(h:∀s,(k,s)∉L):upto L (k+1)=upto L k:=by
 refine List.filter_congr fun p hp=>?_
 have:p.1≠k:=fun e=>h p.2 (by rw[<- e];exact hp)
 simp only[decide_eq_decide];omega
end Go.Proofs.YtdeebigmpffnbaaGreat.Sl
namespace Go.Proofs.YtdeebigmpffnbaaGreat
open Go Go.Vc Go.Vault Go.Redo
structure LW where
 b:Nat
 ba:Option Addr
 bc:Nat
 ta:Option Addr
 tc:Nat
def lgC(y:LW)(db:Nat)(l:Lg):List Value:=[.pointer (some ⟨db,0,none⟩),.string l.name,.int .u64 (l.mark:Int),.slice y.ba l.b.length y.bc,.int .i64 (l.firm:Int),.int .i64 (l.many:Int),.slice y.ta l.all.length y.tc,.int .i64 l.code]
def lgA(y:LW)(db:Nat)(l:Lg):Asn:=.blk y.b (lgC y db l) 129
def lgO(y:LW)(l:Lg):List Asn:=[.own 5 1 y.ba l.b.length y.bc (bQ l.b),.own 9 1 y.ta l.all.length y.tc (l.all.map .string)]
theorem Sv(y:LW)(db:Nat)(l:Lg)(c:Int)(w:World)(st:Std w [lgA y db l]):
  Calls Tryz.prog 83 #[.pointer (some ⟨y.b,0,none⟩),.int .i64 c] w fun e w'=>e=.returned (.int .i64 (if l.code=0 then c else l.code))/\Hp (feet [lgA y db l]) w w' [lgA y db {l with code:=if l.code=0 then c else l.code}]:=by
 apply stuck.ok;unfold stuck.vc
 have H:=Hp.Ap st
 generalize feet [lgA y db l]=B at H⊢
 refine AA rfl ⟨_,H.ld (cs:=lgC y db l) EQ4 NI (.head _) rfl,?_⟩
 refine AO (fun h=>?_) (fun h=>?_)
 ·rw[if_pos h]
  refine AA rfl (Hp.st (o:=7) H EQ4 NI rfl rfl (by simp[lgC]) (cs':=lgC y db {l with code:=c}) rfl ?_)
  clear H;intro w1 H
  exact AA rfl ⟨_,H.ld EQ4 NI (.head _) rfl,rfl,H⟩
 ·rw[if_neg h]
  exact AA rfl ⟨_,H.ld (cs:=lgC y db l) EQ4 NI (.head _) rfl,rfl,H⟩
def ZH(y:LW)(x:DW)(d:Dk)(l:Lg)(w:World)(all:List ByteArray)(r:Dk×Int)(e:Ending)(w':World):Prop:=
 e=.returned (.int .i64 r.2)/\∃x':DW,x'.b=x.b/\x'.Ok r.1/\
  ((r.2=0/\∃y':LW,y'.b=y.b/\Hp (feet (lgA y x.b l::dkL x d)) w w' (lgA y' x.b (l.anew all)::(lgO y' (l.anew all)++dkL x' r.1)))\/
   (r.2≠0/\Hp (feet (lgA y x.b l::dkL x d)) w w' (lgA y x.b l::dkL x' r.1)))
theorem Ug{d:Dk}{N:Nat}(h:d.Fit N)(name:ByteArray)(b:List UInt8):(bn d name b).1.Fit (N+b.length/512+10):=by
 have thnF:∀{r:Dk×Int}{f:Dk->Dk×Int}{M K:Nat},r.1.Fit M->(r.1.Fit M->(f r.1).1.Fit K)->M<=K->(thn r f).1.Fit K:=by
  intro r f M K h1 h2 h3
  rw[thn]
  split
  ·exact h2 h1
  ·exact h1.mono h3
 have h1:(bf d name 2).1.Fit (N+3):=thnF (thnF (Fit.create h name) (fun h=>Fit.write h _ _ _) (by omega)) (fun h=>Fit.write h _ _ _) (by omega)
 have h2:=thnF (f:=fun d=>bU d name b 0) h1 (fun h=>TS h name b) (by omega)
 have h3:=thnF (f:=fun d=>bY d name 1 b.length) h2 (K:=N+b.length/512+10) (fun h=>by
  refine Dk.Fit.mono (N:=N+3+b.length/512+1+3) ?_ (by omega)
  exact thnF (thnF (Fit.sync h name) (fun h=>Fit.write h _ _ _) (by omega)) (fun h=>Fit.sync h _) (by omega)) (by omega)
 exact h3
theorem PQ(y:LW)(x:DW)(d:Dk)(l:Lg)(hok:x.Ok d){N:Nat}(fit:d.Fit N)(aa:Option Addr)(ac:Nat)(all:List ByteArray)(hS:(AV all).length<=100000000)(hl:all.length<=100000000)(hN:N<=500000)(hn:l.name.size<=1000)
  (w:World) (st:Std w (lgA y x.b l::dkL x d)) (hA:∀W,Chg (feet (lgA y x.b l::dkL x d)) w W->Cells W aa (all.map .string)) (h0:aa=none->all.length=0):
  Calls Tryz.prog 69 #[.pointer (some ⟨y.b,0,none⟩),.slice aa all.length ac] w (ZH y x d l w all (bW d l.name all)):=by
 apply lrenew.ok;unfold lrenew.vc ZH
 have H:=Hp.Ap st
 generalize hB:feet (lgA y x.b l::dkL x d)=B at H hA⊢
 refine Ae.mk (fun m s w'=>∃(k:Nat)(a:Option Addr)(c:Nat),m=all.length-k/\k<=all.length/\s=((a,(AV (all.take k)).length,c),(k:Int))/\
  Hp B w w' (.own 5 1 a (AV (all.take k)).length c (bQ (AV (all.take k)))::lgA y x.b l::dkL x d)) all.length ⟨0,none,0,rfl,by omega,rfl,H.nilS _ _⟩ ?_
 clear H
 rintro m s w1 next ⟨k,a,c,rfl,hk,rfl,H⟩ hnext
 refine AO (fun h3=>?_) (fun h3=>?_)
 ·have hkl:k<all.length:=by simp only at h3;omega
  have hv:(all.map Value.string)[k]? =some (.string all[k]):=by simp[hkl]
  have hcw:=hA w1 H.chg
  obtain⟨ad,ha,_⟩:=hcw k _ hv
  refine AA ha ⟨⟨by simp only;omega,by simp only;omega⟩,_,by simp only;rw[Int.toNat_natCast,Nat.mul_one];exact hcw.ld Ai ha hv,?_⟩
  have hsn:AV (all.take (k+1))=bT (AV (all.take k)) all[k]:=by rw[List.take_succ_eq_append_getElem hkl,framedAll_snoc]
  have hle:=framedAll_take all (k+1)
  rw[hsn,MH]at hle
  refine AL (Jn a c (AV (all.take k)) all[k] (by omega) w1 (H.std1 (L1:=[_]))) ?_
  rintro e w2 ⟨a',c',rfl,H'⟩
  replace H:=Hp.useL (L1:=[_]) H H';clear H'
  rw[<- hsn]at H⊢
  exact⟨_,_,_,rfl,AY.2 (by simp only;omega),hnext (all.length-(k+1)) _ _ (by omega) ⟨k+1,a',c',rfl,by omega,rfl,H⟩⟩
 ·have hkl:k=all.length:=by simp only at h3;omega
  subst hkl
  simp only[take_length]at H⊢
  refine AA rfl ⟨_,H.ld (cs:=lgC y x.b l) EQ4 Ai (.tail _ (.head _)) rfl,?_⟩
  refine⟨by show((l.name.size+4:Nat):Int)<=_;omega,?_⟩
  have hown:=(H.ownA (.head _))
  refine AL (lfill_spec y.b (lgC y x.b l) x d hok fit (newN l.name) a c (AV all) (by omega) (by omega) rfl w1 H.drop.std (fun W hW=>H.aX W hW) (VJ hown) hown.le.1) ?_
  rintro e w2 ⟨rfl,x1,hx1b,hx1,H'⟩
  replace H:=H.useT H';clear H'
  have fit1:=Ug fit (newN l.name) (AV all)
  refine⟨_,rfl,?_⟩
  have e0:bW d l.name all=thn (thn (bn d (newN l.name) (AV all)) fun d=>d.rename (newN l.name) l.name) fun d=>d.Ad:=rfl
  generalize bn d (newN l.name) (AV all)=r1 at hx1 H fit1 e0⊢
  refine AO (fun h4=>?_) (fun h4=>AO (fun h5=>absurd h5 h4) (fun _=>BI (fun _=>?_) (fun h5=>absurd (of_decide_eq_true h5) h4)))
  ·have e1:bW d l.name all=thn (r1.1.rename (newN l.name) l.name) fun d=>d.Ad:=by rw[e0];congr 1;rw[thn,if_pos h4]
   replace H:=H.drew
   refine AA rfl ⟨_,H.ld (cs:=lgC y x.b l) EQ4 J8 (.tail _ (.head _)) rfl,?_⟩
   refine AA rfl ⟨_,H.ld (cs:=lgC y x.b l) EQ4 Ai (.tail _ (.head _)) rfl,?_⟩
   refine⟨by show((l.name.size+4:Nat):Int)<=_;omega,?_⟩
   refine AA rfl ⟨_,H.ld (cs:=lgC y x.b l) EQ4 Ai (.tail _ (.head _)) rfl,?_⟩
   have hrs:=rename_spec x1 r1.1 hx1 (by have:=fit1.chs;omega) (newN l.name) l.name w2.drew H.drop.drop.std
   rw[hx1b]at hrs
   refine AL hrs ?_
   rintro e w3 ⟨rfl,x2,hx2b,hx2,H'⟩
   replace H:=H.Na H';clear H' hrs
   have fit2:=Fit.rename fit1 (newN l.name) l.name
   refine⟨_,rfl,?_⟩
   generalize r1.1.rename (newN l.name) l.name=r2 at hx2 H fit2 e1⊢
   refine AO (fun h5=>?_) (fun h5=>BI (fun _=>?_) (fun h6=>absurd (of_decide_eq_true h6) h5))
   ·have e2:bW d l.name all=r2.1.Ad:=by rw[e1,thn,if_pos h5]
    rw[e2]
    refine AA rfl ⟨_,H.ld (cs:=lgC y x.b l) EQ4 J8 (.tail _ (.head _)) rfl,?_⟩
    have hss:=Je x2 r2.1 hx2 w3 H.drop.drop.std
    rw[hx2b,hx1b]at hss
    refine AL hss ?_
    rintro e w4 ⟨rfl,x3,hx3b,hx3,H'⟩
    replace H:=H.Na H';clear H' hss
    refine⟨_,rfl,?_⟩
    have hxb3:x3.b=x.b:=by rw[hx3b,hx2b,hx1b]
    refine BI (fun h6=>⟨rfl,x3,hxb3,hx3,.inr ⟨of_decide_eq_false h6,H.drop⟩⟩) (fun h6=>?_)
    have h6:=of_decide_eq_true h6
    refine AA rfl (Hp.st (o:=2) H.Aq EQ4 Oe rfl rfl (by simp[lgC]) rfl ?_)
    clear H;intro w5 H
    refine AA rfl (Hp.st (o:=3) H EQ4 Gx rfl rfl (by simp[lgC]) rfl ?_)
    clear H;intro w6 H
    refine AA rfl (Hp.st (o:=4) H EQ4 Ah rfl rfl (by simp[lgC]) rfl ?_)
    clear H;intro w7 H
    refine AL (PM aa ac all (by omega) w7 (hA w7 H.chg) h0) ?_
    rintro e w8 ⟨ta,tc,rfl,H'⟩
    replace H:=H.ext1 H';clear H'
    refine⟨_,_,_,rfl,?_⟩
    refine AA rfl (Hp.st (o:=6) H.Aq EQ4 JY rfl rfl (by simp[lgC]) rfl ?_)
    clear H;intro w9 H
    refine AA rfl (Hp.st (o:=5) H EQ4 Ah rfl rfl (by simp[lgC]) rfl ?_)
    clear H;intro w10 H
    rw[h6]
    refine⟨rfl,x3,hxb3,hx3,.inl ⟨rfl,⟨y.b,a,c,ta,tc⟩,rfl,?_⟩⟩
    have H2:=H.perm (((List.Perm.swap _ _ _).cons _))
    exact H2
   ·have e2:bW d l.name all=r2:=by rw[e1,thn,if_neg h5]
    rw[e2]
    exact⟨rfl,x2,by rw[hx2b,hx1b],hx2,.inr ⟨h5,H.drop⟩⟩
  ·have e1:bW d l.name all=r1:=by rw[e0,thn,thn,if_neg h4,if_neg h4]
   rw[e1]
   exact⟨rfl,x1,hx1b,hx1,.inr ⟨h4,H.drop⟩⟩
end Go.Proofs.YtdeebigmpffnbaaGreat
namespace Go.Vc
open Go
section
variable{P:Program}{w:World}
theorem Um{d:Nat}{e:TypeId}(hk:kdB P e (.inl .u8)=true)(xs ys:List UInt8):∀is:List Nat,(∀i∈is,i<xs.length/\i<ys.length)->
  (Op.eqItems (d+1) e 1 (bQ xs).toArray (bQ ys).toArray is).run P w=.ok (is.all fun i=>xs[i]? ==ys[i]?) w
 | [],_=>rfl
 |i::is,h=>by
  have ih:=Um (d:=d) hk xs ys is fun j hj=>h j (.tail _ hj)
  obtain⟨h1,h2⟩:=h i (.head _)
  have ha:(bQ xs)[i]? =some (.int .u8 (xs[i].toNat:Int)):=by simp[bQ,h1]
  have hb:(bQ ys)[i]? =some (.int .u8 (ys[i].toNat:Int)):=by simp[bQ,h2]
  simp only[Op.eqItems,Nat.mul_one]
  simp only[Sem.run_bind,FI (w:=w) hk (show(bQ xs).toArray[i]? =some _ by simpa using ha),FI (w:=w) hk (show(bQ ys).toArray[i]? =some _ by simpa using hb),Result.andThen_ok,Y5 (d:=d) (w:=w) hk (show(fromV (.inl .u8) (.int .u8 (xs[i].toNat:Int))).isSome=true from rfl) (show(fromV (.inl .u8) (.int .u8 (ys[i].toNat:Int))).isSome=true from rfl)]
  rw[all_cons,List.getElem?_eq_getElem h1,List.getElem?_eq_getElem h2]
  have e1:sEq (.int .u8 (xs[i].toNat:Int)) (.int .u8 (ys[i].toNat:Int))=(some xs[i]==some ys[i]):=by
   rw[sEq,Bool.eq_iff_iff,decide_eq_true_eq,beq_iff_eq,Option.some.injEq,Int.ofNat_inj]
   exact UInt8.toNat_inj
  rw[e1]
  cases(some xs[i]==some ys[i])with
  |true=>simpa using ih
  |false=>simp
theorem all_eq{xs ys:List UInt8}{n:Nat}(hx:xs.length=n)(hy:ys.length=n):((List.range n).all fun i=>xs[i]? ==ys[i]?)=decide (xs=ys):=by
 rw[Bool.eq_iff_iff,all_eq_true,decide_eq_true_eq]
 constructor
 ·intro h
  refine ext_getElem? fun i=>?_
  by_cases hi:i<n
  ·exact beq_iff_eq.1 (h i (List.mem_range.2 hi))
  ·rw[List.getElem?_eq_none (by omega),List.getElem?_eq_none (by omega)]
 ·rintro rfl i _
  simp
theorem eqv_bytes{t e:TypeId}{n:Nat}{i:TypeInfo}(hu:P.underlying t=some (.array n e))(hi:P.info? e=some i)(hk:kdB P e (.inl .u8)=true)(hc:P.cellsOf e=1)(hg:P.eqGuardType P.depth t=false)
  {xs ys:List UInt8} (hx:xs.length=n) (hy:ys.length=n) (x y:Operand):Eqv P .neq t x y w (.agg (bQ xs).toArray) (.agg (bQ ys).toArray) (!decide (xs=ys)):=by
 have h1:=Um (P:=P) (w:=w) (d:=9998) hk xs ys (List.range n) fun j hj=>by have:=List.mem_range.1 hj;omega
 rw[all_eq hx hy]at h1
 simp only[Eqv,Sem.run_bind,run_eqGuard_agg w .neq t x y _ _ hg,Result.andThen_ok,run_neq_struct,run_equalIn_array w 9999 _ _ hu hi,hc,h1]
end
end Go.Vc
namespace Go.Proofs.YtdeebigmpffnbaaGreat
open Go Go.Vc Go.Vault Go.Redo
theorem undNo:Tryz.prog.underlying 206=some (.array 8 5):=by kernel_rfl
theorem infU8:∃i,Tryz.prog.info? 5=some i:=Option.isSome_iff_exists.1 (show(Tryz.prog.info? 5).isSome=true by kernel_rfl)
theorem kdU8:kdB Tryz.prog 5 (.inl .u8)=true:=by kernel_rfl
theorem cellsU8:Tryz.prog.cellsOf 5=1:=by kernel_rfl
theorem guardNo:Tryz.prog.eqGuardType Tryz.prog.depth 206=false:=by kernel_rfl
theorem Yq{d:Dk}(hok:d.Ok){n:ByteArray}{i:Int}(h:(d.read n i).2=0):(d.read n i).1.length=512:=by
 cases hd:d.dead with
 |true=>simp[Dk.read,hd]at h
 |false=>
  cases hk:d.find n with
  |none=>simp[Dk.read,hd,hk]at h
  |some k=>
   by_cases hi:i<0\/(d.len k:Int)<=i
   ·simp[Dk.read,hd,hk,hi]at h
   ·have e:d.read n i=((d.file k).now.getD i.toNat [],0):=by simp only[Dk.read,hd,hk,Bool.false_eq_true,if_false,if_neg hi]
    rw[e]
    have hlt:i.toNat<(d.file k).now.length:=by
     have:d.len k=(d.file k).now.length:=rfl
     omega
    have hf:=hok.find hk
    have hm:d.file k∈d.files:=by
     rw[Dk.file,getD_eq_getElem?_getD,List.getElem?_eq_getElem hf]
     exact getElem_mem _
    show((d.file k).now.getD i.toNat []).length=512
    rw[getD_eq_getElem?_getD,List.getElem?_eq_getElem hlt]
    exact(hok.files _ hm).now _ (getElem_mem _)
theorem look_spec(y:LW)(x:DW)(d:Dk)(l:Lg)(hok:x.Ok d)(n:Nat)(w:World)(st:Std w (lgA y x.b l::dkL x d)):
  Calls Tryz.prog 106 #[.pointer (some ⟨y.b,0,none⟩),.int .i64 (n:Int)] w fun e w'=>
   e=.returned (match GU d l.name n with
    |some (m,f)=>.tuple #[.int .u64 (m:Int),.int .u64 (f:Int),.bool true]
    |none=>.tuple #[.int .u64 0,.int .u64 0,.bool false])/\Hp [] w w' []:=by
 apply look.ok;unfold look.vc
 have H:=(Hp.Ap st).drew
 refine AA rfl ⟨_,H.ld (cs:=lgC y x.b l) EQ4 J8 (.head _) rfl,?_⟩
 refine AA rfl ⟨_,H.ld (cs:=lgC y x.b l) EQ4 Ai (.head _) rfl,?_⟩
 refine AL (O6 x d hok l.name (n:Int) w.drew H.drop.std) ?_
 rintro e w1 ⟨a,c,rfl,K⟩
 replace K:=(Hp.start w).drew.ext K
 simp only[append_nil]at K
 refine⟨_,_,_,_,rfl,?_⟩
 refine BI (fun h1=>?_) (fun h1=>?_)
 ·have h1:=of_decide_eq_false h1
  have e1:GU d l.name n=none:=by rw[GU,if_neg (fun h=>h1 h.1)]
  rw[e1]
  exact⟨rfl,K.drew.done⟩
 ·have h1:=of_decide_eq_true h1
  have hlen:=Yq hok.dk h1
  have hlook:GU d l.name n=if(d.read l.name n).1.take 8=(d.read l.name n).1.drop 504 then some (valN ((d.read l.name n).1.take 8),valN (((d.read l.name n).1.drop 8).take 8))else none:=by
   rw[GU]
   by_cases h2:(d.read l.name n).1.take 8=(d.read l.name n).1.drop 504
   ·rw[if_pos ⟨h1,h2⟩,if_pos h2]
   ·rw[if_neg (fun h=>h2 h.2),if_neg h2]
  rw[hlook]
  generalize(d.read l.name n).1=b at K hlen⊢
  replace K:=K.drew
  have hown:=K.ownA (.head _)
  have hcap:=hown.le.1
  have hcells:=hown.cells
  obtain⟨ad,ha⟩:=hcells.some (by intro h;have:=congrArg List.length h;rw[AQ,hlen]at this;simp at this)
  subst ha
  have e8:(bQ b).take 8=bQ (b.take 8):=by rw[bQ,bQ,map_take]
  have e504:(bQ b).drop 504=bQ (b.drop 504):=by rw[bQ,bQ,map_drop]
  have l8:(b.take 8).length=8:=by rw[length_take];omega
  have l504:(b.drop 504).length=8:=by rw[length_drop];omega
  have a0:ad.add 0=ad:=by simp[Addr.add]
  have hld0:=hcells.ldA (P:=Tryz.prog) bK rfl (o:=0) (vs:=bQ (b.take 8)) (by rw[drop_zero,e8]) (by rw[AQ,l8])
  have hld1:=hcells.ldA (P:=Tryz.prog) bK rfl (o:=504) (vs:=bQ (b.drop 504)) (by rw[e504,take_of_length_le (by rw[AQ,l504];exact Nat.le_refl _)]) (by rw[AQ,l504])
  rw[a0]at hld0
  have hs504:slA (some ad) c (Int.toNat 504) 1=some (ad.add 504):=by
   unfold slA;rw[if_neg (by show c≠504;omega)];rfl
  have hs8:slA (some ad) c (Int.toNat 8) 1=some (ad.add 8):=by
   unfold slA;rw[if_neg (by show c≠8;omega)];rfl
  obtain⟨inf,hinf⟩:=infU8
  refine⟨⟨by omega,by omega⟩,by omega,_,AA rfl hld0,⟨by omega,by omega⟩,by show 8<=b.length-504;omega,_,AA hs504 hld1,_,eqv_bytes undNo hinf kdU8 cellsU8 guardNo l8 l504 _ _,?_⟩
  refine BI (fun h2=>?_) (fun h2=>?_)
  ·rw[if_neg (of_decide_eq_false h2)]
   exact⟨rfl,K.done⟩
  ·rw[if_pos (of_decide_eq_true h2)]
   refine⟨⟨by omega,by omega⟩,⟨by omega,by omega,by omega⟩,?_⟩
   replace K:=K.drew
   have hc0:Cells w1.drew.drew (some ad) (bQ (b.take 8)):=by rw[<- e8];exact(K.ownA (.head _)).cells.take 8
   have ht:=Om (some ad) (b.take 8) c (by omega) w1.drew.drew hc0
   rw[l8]at ht
   refine AL ht ?_
   rintro e w2 ⟨rfl,H'⟩
   replace K:=K.ext0 H';clear H'
   refine⟨_,rfl,?_⟩
   rw[hs8]
   have hc1:Cells w2 (some (ad.add 8)) (bQ ((b.drop 8).take 8)):=by
    have h3:=((K.ownA (.head _)).cells.slA (c:=c) (i:=8) (by rw[AQ];omega))
    have h4:slA (some ad) c 8 1=some (ad.add 8):=hs8
    rw[h4]at h3
    have h5:=h3.take 8
    have e9:((bQ b).drop 8).take 8=bQ ((b.drop 8).take 8):=by simp only[bQ,map_take,map_drop]
    rw[e9]at h5;exact h5
   have l88:((b.drop 8).take 8).length=8:=by rw[length_take,length_drop];omega
   have ht:=Om (some (ad.add 8)) ((b.drop 8).take 8) (c-8) (by omega) w2 hc1
   rw[l88]at ht
   refine AL ht ?_
   rintro e w3 ⟨rfl,H'⟩
   replace K:=K.ext0 H';clear H'
   exact⟨_,rfl,rfl,K.done⟩
theorem undU8:Tryz.prog.underlying 5=some (.int .u8):=by kernel_rfl
def ZX(r:Option (List ByteArray))(w:World)(e:Ending)(w':World):Prop:=match r with
 |some l=>∃a c,e=.returned (.tuple #[.slice a l.length c,.bool true])/\Hp [] w w' [.own 9 1 a l.length c (l.map .string)]
 |none=>e=.returned (.tuple #[.slice none 0 0,.bool false])/\Hp [] w w' []
theorem TA{r:Option (List ByteArray)}(h:r=none){w w':World}{L:List Asn}(H:Hp [] w w' L):ZX r w (.returned (.tuple #[.slice none 0 0,.bool false])) w':=by
 subst h;exact⟨rfl,H.done⟩
theorem records_spec(a:Option Addr)(c:Nat)(bs:List UInt8)(hcap:bs.length<=c)(hl:bs.length<=1000000000)(w:World)(hc:Cells w a (bQ bs)):
  Calls Tryz.prog 108 #[.slice a bs.length c] w (ZX (records bs) w):=by
 apply records.ok;unfold records.vc
 refine Ae.mk (fun m s w'=>∃(a1:Option Addr)(c1:Nat)(bs1:List UInt8)(ta:Option Addr)(tc:Nat)(l1:List ByteArray)(m1:Nat),m=bs1.length/\s=((a1,bs1.length,c1),(ta,l1.length,tc))/\Cells w a1 (bQ bs1)/\bs1.length<=c1/\bs1.length<=m1/\
  l1.length+bs1.length<=bs.length/\Redo.records bs=(DZ m1 bs1).map (l1++ ·)/\Hp [] w w' [.own 9 1 ta l1.length tc (l1.map .string)]) bs.length
  ⟨a,c,bs,none,0,[],bs.length,rfl,rfl,hc,hcap,Nat.le_refl _,by simp,by rw[Redo.records];simp,(Hp.start w).nilS _ _⟩ ?_
 rintro m s w1 next ⟨a1,c1,bs1,ta,tc,l1,m1,rfl,rfl,hc1,hcap1,hm1,hsum,hrec,H⟩ hnext
 refine AO (fun h3=>?_) (fun h3=>?_)
 ·simp only at h3⊢
  have hne:bs1≠[]:=by rintro rfl;simp at h3
  obtain⟨m2,rfl⟩:∃m2,m1=m2+1:=⟨m1-1,by omega⟩
  rw[DZ,if_neg hne]at hrec
  refine AO (fun h4=>?_) (fun h4=>?_)
  ·rw[if_pos (by omega)]at hrec
   exact TA hrec H
  rw[if_neg (by omega)]at hrec
  refine⟨⟨by omega,by omega⟩,?_⟩
  have l4:(bs1.take 4).length=4:=by rw[length_take];omega
  have e4:(bQ bs1).take 4=bQ (bs1.take 4):=by simp only[bQ,map_take]
  have ht:=Om a1 (bs1.take 4) c1 (by omega) w1 (by rw[<- e4];exact(hc1.chg H.chg (by simp)).take 4)
  rw[l4]at ht
  have hlt:=JG (bs1.take 4)
  rw[l4]at hlt
  refine AL ht ?_
  rintro e w2 ⟨rfl,H'⟩
  replace H:=H.ext0 H';clear H' ht
  refine⟨_,rfl,?_⟩
  obtain⟨n,hn⟩:∃n,n=valN (bs1.take 4):=⟨_,rfl⟩
  rw[<- hn]at hrec hlt⊢
  have hn2:n<4294967296:=hlt
  have hw:IntKind.i64.wrap (n:Int)=(n:Int):=DN (by omega)
  rw[hw]
  refine AO (fun h5=>?_) (fun h5=>?_)
  ·rw[if_pos (by omega)]at hrec
   exact TA hrec H
  rw[if_neg (by omega)]at hrec
  refine⟨AY.2 (by omega),?_⟩
  refine AO (fun h6=>?_) (fun h6=>?_)
  ·rw[if_pos (by omega)]at hrec
   exact TA hrec H
  rw[if_neg (by omega)]at hrec
  refine⟨AY.2 (by omega),⟨by omega,by omega,by omega⟩,?_⟩
  have t1:Int.toNat (4+(n:Int))=4+n:=by omega
  have t2:Int.toNat (4:Int)=4:=rfl
  rw[t1,t2]
  have hcs:Cells w2 (slA a1 c1 4 1) (bQ ((bs1.drop 4).take n)):=by
   have h7:=((hc1.chg H.chg (by simp)).slA (c:=c1) (i:=4) (by rw[AQ];omega)).take n
   have e7:((bQ bs1).drop 4).take n=bQ ((bs1.drop 4).take n):=by simp only[bQ,map_take,map_drop]
   rw[e7]at h7;exact h7
  have lr:((bs1.drop 4).take n).length=n:=by rw[length_take,length_drop];omega
  refine⟨⟨((bs1.drop 4).take n).toArray⟩,b2s Jq undU8 aT (by rw[Di];exact hcs) (by show 4+n-4=((bs1.drop 4).take n).toArray.size;rw[size_toArray,lr];omega),?_⟩
  intro b w3 hnw;replace H:=H.new (cs:=[.string ⟨((bs1.drop 4).take n).toArray⟩]) EQ4 hnw;clear hnw
  refine Hp.app eltT (by omega) H.Aq EQ4 (Blk.src (n:=1) WO (H.blk (.head _)) (by simp) (by rfl)) (by simp only[maxLen];omega) (by omega) ?_
  clear H;intro a5 c5 w5 H
  refine⟨AY.2 (by omega),⟨by omega,by omega⟩,?_⟩
  have ld:(bs1.drop (4+n)).length=bs1.length-(4+n):=length_drop
  refine hnext (bs1.drop (4+n)).length _ _ (by omega) ⟨_,_,bs1.drop (4+n),a5,c5,l1++[⟨((bs1.drop 4).take n).toArray⟩],m2,rfl,by rw[ld,length_append];rfl,?_,by omega,by omega,by rw[length_append,ld];simp;omega,?_,?_⟩
  ·have h7:=hc1.slA (c:=c1) (i:=4+n) (by rw[AQ];omega)
   have e7:(bQ bs1).drop (4+n)=bQ (bs1.drop (4+n)):=by simp only[bQ,map_drop]
   rw[e7]at h7;exact h7
  ·rw[hrec,Option.map_map]
   congr 1;funext q
   simp
  ·rw[length_append,map_append]
   exact H.JW
 ·simp only at h3⊢
  have hb:bs1=[]:=List.eq_nil_of_length_eq_zero (by omega)
  subst hb
  have hr:Redo.records bs=some l1:=by
   rw[hrec]
   cases m1<;>simp[DZ]
  rw[hr]
  exact⟨_,_,rfl,H⟩
def EP(d:Dk)(name:ByteArray):Nat->Nat×Nat
 |0=>(0,0)
 |k+1=>better (EP d name k) (GU d name k)
theorem bM{l:List UInt8}(h:l.length<=8):valN l<=18446744073709551615:=by
 have h1:=JG l
 have h2:(256:Nat)^l.length<=256^8:=Nat.pow_le_pow_right (by omega) h
 have h3:(256:Nat)^8=18446744073709551616:=by decide
 omega
theorem lookP_le{d:Dk}{name:ByteArray}{k:Nat}{p:Nat×Nat}(h:GU d name k=some p):p.1<=18446744073709551615/\p.2<=18446744073709551615:=by
 unfold GU at h
 split at h
 ·rw[<- Option.some.inj h]
  exact⟨bM (by rw[length_take];omega),bM (by rw[length_take];omega)⟩
 ·cases h
theorem NZ(d:Dk)(name:ByteArray):∀k,(EP d name k).1<=18446744073709551615/\(EP d name k).2<=18446744073709551615
 |0=>by simp[EP]
 |k+1=>by
  have e:EP d name (k+1)=better (EP d name k) (GU d name k):=rfl
  rw[e]
  cases h:GU d name k with
  |none=>exact NZ d name k
  |some p=>
   by_cases hlt:(EP d name k).1<p.1
   ·have e2:better (EP d name k) (some p)=p:=by simp[better,hlt]
    rw[e2];exact lookP_le h
   ·have e2:better (EP d name k) (some p)=EP d name k:=by simp[better,hlt]
    rw[e2];exact NZ d name k
def FindPost(y:LW)(db:Nat)(w:World)(B:List Nat)(L:List Asn)(r:Int×Lg)(e:Ending)(w':World):Prop:=
 (r.1≠0/\e=.returned (.tuple #[.pointer none,.int .i64 r.1])/\Hp B w w' L)\/
 (r.1=0/\e=.returned (.tuple #[.pointer (some ⟨y.b,0,none⟩),.int .i64 0])/\∃y':LW,y'.b=y.b/\Hp B w w' (lgA y' db r.2::.own 9 1 y'.ta r.2.all.length y'.tc (r.2.all.map .string)::.own 5 1 y'.ba r.2.b.length y'.bc (bQ r.2.b)::L))
theorem lfind_spec(y:LW)(x:DW)(d:Dk)(name:ByteArray)(hok:x.Ok d){N:Nat}(fit:d.Fit N)(hN:N<=1000000)(h2:2<=d.size name)(hy:y.ba=none/\y.bc=0)(w:World)(st:Std w (lgA y x.b (Lg.none name)::dkL x d)):
  Calls Tryz.prog 68 #[.pointer (some ⟨y.b,0,none⟩)] w (FindPost y x.b w (feet (lgA y x.b (Lg.none name)::dkL x d)) (dkL x d) (Ky d name)):=by
 apply lfind.ok;unfold lfind.vc
 have H:=Hp.Ap st
 generalize hB:feet (lgA y x.b (Lg.none name)::dkL x d)=B at H⊢
 obtain⟨yb,yba,ybc,yta,ytc⟩:=y
 obtain⟨rfl,rfl⟩:=hy
 refine Ae.mk (fun m s w'=>∃k:Nat,m=2-k/\k<=2/\s=(((EP d name k).2:Int),(k:Int))/\Hp B w w' (lgA ⟨yb,none,0,yta,ytc⟩ x.b {Lg.none name with mark:=(EP d name k).1}::dkL x d)) 2 ⟨0,rfl,by omega,rfl,H⟩ ?_
 clear H
 rintro m s w1 next ⟨k,rfl,hk,rfl,H⟩ hnext
 refine AO (fun h3=>?_) (fun h3=>?_)
 ·simp only at h3⊢
  have hk2:k<2:=by omega
  have hbl:=NZ d name k
  have hls:=look_spec ⟨yb,none,0,yta,ytc⟩ x d {Lg.none name with mark:=(EP d name k).1} hok k w1 H.std
  dsimp only[Lg.none]at hls
  refine AL hls ?_
  rintro e w2 ⟨rfl,H'⟩
  replace H:=H.ext0 H';clear H'
  have hb1:EP d name (k+1)=better (EP d name k) (GU d name k):=rfl
  have nx:∀{w3:World}{f:Int},f=((EP d name (k+1)).2:Int)->Hp B w w3 (lgA ⟨yb,none,0,yta,ytc⟩ x.b {Lg.none name with mark:=(EP d name (k+1)).1}::dkL x d)->next (f,(k:Int)+1) w3:=by
   rintro w3 f rfl H
   exact hnext (2-(k+1)) _ _ (by omega) ⟨k+1,rfl,by omega,by rw[Int.natCast_add];rfl,H⟩
  cases hlk:GU d name k with
  |none=>
   rw[hlk]at hb1
   refine⟨_,_,_,rfl,CX ?_⟩
   exact⟨AY.2 (by omega),nx (by rw[hb1];rfl) (by rw[hb1];exact H)⟩
  |some p=>
   obtain⟨m1,f1⟩:=p
   rw[hlk]at hb1
   refine⟨_,_,_,rfl,D8 ?_⟩
   refine AA rfl ⟨_,H.ld EQ4 Oe (.head _) rfl,?_⟩
   refine AO (fun h4=>?_) (fun h4=>?_)
   ·have h4:(EP d name k).1<m1:=by exact Int.ofNat_lt.1 h4
    have e1:EP d name (k+1)=(m1,f1):=by rw[hb1];simp[better,h4]
    refine AA rfl (Hp.st (o:=2) H EQ4 Oe rfl rfl (by simp[lgC]) (cs':=lgC ⟨yb,none,0,yta,ytc⟩ x.b {Lg.none name with mark:=m1}) rfl ?_)
    clear H;intro w3 H
    exact⟨AY.2 (by omega),nx (by rw[e1]) (by rw[e1];exact H)⟩
   ·have h4:¬(EP d name k).1<m1:=fun h=>h4 (Int.ofNat_lt.2 h)
    have e1:EP d name (k+1)=EP d name k:=by rw[hb1];simp[better,h4]
    exact⟨AY.2 (by omega),nx (by rw[e1]) (by rw[e1];exact H)⟩
 ·simp only at h3⊢
  have hk2:k=2:=by omega
  subst hk2
  have hm2:EP d name 2=Jp d name:=rfl
  rw[hm2]at H⊢
  obtain⟨M,F,hMF⟩:∃M F,Jp d name=(M,F):=⟨_,_,rfl⟩
  have hFle:=(NZ d name 2).2
  rw[hm2,hMF]at hFle
  unfold Ky
  rw[hMF]at H⊢
  simp only at H hFle⊢
  replace H:=H.drew
  refine AA rfl ⟨_,H.ld EQ4 J8 (.head _) rfl,?_⟩
  refine AA rfl ⟨_,H.ld EQ4 Ai (.head _) rfl,?_⟩
  refine AL (Ic x d hok name w1.drew H.drop.std) ?_
  rintro e w2 ⟨rfl,H'⟩
  replace H:=H.ext0 H';clear H'
  have hsz:d.size name<=1000000:=by
   unfold Dk.size
   split
   ·have:=Fit.file fit
    rename_i k _
    have h5:=Dk.Vd fit.now k
    omega
   ·omega
  obtain⟨S,hS⟩:∃S:Nat,d.size name=(S:Int):=⟨(d.size name).toNat,by omega⟩
  refine⟨_,rfl,?_⟩
  rw[hS]at h2 hsz⊢
  have hw:IntKind.u64.wrap (((S:Int)-2)*512)=((S:Int)-2)*512:=by
   have:∀z:Int,IntKind.u64.wrap z=z%18446744073709551616:=fun z=>by simp[IntKind.wrap,IntKind.signed,IntKind.bits]
   rw[this];omega
  rw[hw]
  refine⟨AY.2 (by omega),AY.2 (by omega),?_⟩
  refine AO (fun h4=>?_) (fun h4=>?_)
  ·rw[if_pos h4]
   exact .inl ⟨by simp,rfl,H.drop⟩
  rw[if_neg h4]
  have hF:F<=512000000:=by omega
  have hwF:IntKind.i64.wrap (F:Int)=(F:Int):=DN (by omega)
  rw[hwF]
  obtain⟨g,hg⟩:∃g,g=gath d name F (F+1) 2 []:=⟨_,rfl⟩
  rw[<- hg]
  refine Ae.mk (fun m s w'=>∃(k:Nat)(acc:List UInt8)(m1:Nat)(a:Option Addr)(c:Nat),m=(F-acc.length)/\s=(k:Int)/\k<=2+acc.length/\acc.length<=F+512/\F+1<=m1+acc.length/\g=gath d name F m1 k acc/\
   Hp B w w' (lgA ⟨yb,a,c,yta,ytc⟩ x.b {Lg.none name with mark:=M,b:=acc}::.own 5 1 a acc.length c (bQ acc)::dkL x d)) F ⟨2,[],F+1,none,0,rfl,rfl,by simp,by simp,by simp,hg,?_⟩ ?_
  ·exact(H.nilS 5 1).Aq
  clear H w1 w2
  rintro m s w1 next ⟨k,acc,m1,a,c,rfl,rfl,hk,hal,hm1,hgk,H⟩ hnext
  refine AA rfl ⟨_,_,_,H.ld EQ4 Gx (.head _) rfl,?_⟩
  have hlen0:({Lg.none name with mark:=M,b:=acc}:Lg).b.length=acc.length:=rfl
  refine AO (fun h5=>?_) (fun h5=>?_)
  ·have h5:acc.length<F:=by exact Int.ofNat_lt.1 h5
   obtain⟨m2,rfl⟩:∃m2,m1=m2+1:=⟨m1-1,by omega⟩
   rw[gath,if_neg (by omega)]at hgk
   replace H:=H.drew
   refine AA rfl ⟨_,H.ld EQ4 J8 (.head _) rfl,?_⟩
   refine AA rfl ⟨_,H.ld EQ4 Ai (.head _) rfl,?_⟩
   refine AL (O6 x d hok name (k:Int) w1.drew H.drop.drop.std) ?_
   rintro e w2 ⟨ra,rc,rfl,H'⟩
   replace H:=H.ext1 H';clear H'
   refine⟨_,_,_,_,rfl,?_⟩
   refine BI (fun h6=>?_) (fun h6=>?_)
   ·have h6:=of_decide_eq_false h6
    rw[if_neg h6]at hgk
    have hg2:g.2≠0:=by rw[hgk];exact h6
    rw[if_neg hg2]
    exact .inl ⟨hg2,by rw[hgk],H.drop.drop.drop⟩
   ·have h6:=of_decide_eq_true h6
    rw[if_pos h6]at hgk
    have hrl:=Yq hok.dk h6
    generalize(d.read name (k:Int)).1=rb at H hrl hgk⊢
    refine AA rfl ⟨_,_,_,H.ld (cs:=lgC ⟨yb,a,c,yta,ytc⟩ x.b {Lg.none name with mark:=M,b:=acc}) EQ4 Gx (.tail _ (.head _)) rfl,?_⟩
    have hrc:=(H.ownA (e:=85) (.head _)).cells
    refine Hp.app Z9 (by omega) H.BF EQ4 (Cells.src (n:=rb.length) Jq hrc (by rw[AQ];omega) (Eu _) (VJ (H.ownA (e:=85) (.head _)))) (by simp only[maxLen];show acc.length+rb.length<=_;omega) (by show(acc.length+rb.length)*1<=_;omega) ?_
    clear H;intro a3 c3 w3 H
    refine AA rfl (Hp.st (o:=3) H.BF EQ4 Gx rfl rfl (by simp[lgC]) (cs':=lgC ⟨yb,a3,c3,yta,ytc⟩ x.b {Lg.none name with mark:=M,b:=acc++rb}) (by simp[lgC]) ?_)
    clear H;intro w4 H
    refine⟨AY.2 (by omega),hnext (F-(acc++rb).length) _ _ (by rw[length_append];omega) ⟨k+1,acc++rb,m2,a3,c3,rfl,by omega,by rw[length_append];omega,by rw[length_append];omega,by rw[length_append];omega,hgk,?_⟩⟩
    rw[length_append,BZ]
    exact H.BF.drop.Aq.Aq
  ·have h5:F<=acc.length:=by
    have:¬acc.length<F:=fun h=>h5 (Int.ofNat_lt.2 h)
    omega
   have hgv:g=(acc,0):=by
    rw[hgk]
    cases m1 with
    |zero=>rfl
    |succ m=>rw[gath,if_pos h5]
   rw[hgv]
   simp only[if_true]
   have hown:=H.ownA (.tail _ (.head _))
   refine AA rfl ⟨_,_,_,H.ld EQ4 Gx (.head _) rfl,?_⟩
   refine⟨⟨by omega,by omega,Int.ofNat_le.2 (Nat.le_trans h5 hown.le.1)⟩,?_⟩
   rw[Int.toNat_natCast]
   have ltk:(acc.take F).length=F:=by rw[length_take];omega
   refine AA rfl (Hp.st (o:=3) H EQ4 Gx rfl rfl (by simp[lgC]) (cs':=lgC ⟨yb,a,F,yta,ytc⟩ x.b {Lg.none name with mark:=M,b:=acc.take F}) (by simp only[lgC,ltk];rfl) ?_)
   clear H;intro w2 H
   refine AA rfl ⟨_,_,_,H.ld EQ4 Gx (.head _) rfl,?_⟩
   have hcell:Cells w2 a (bQ (acc.take F)):=by
    have h7:=(H.ownA (.tail _ (.head _))).cells.take F
    have e7:(bQ acc).take F=bQ (acc.take F):=by simp only[bQ,map_take]
    rw[e7]at h7;exact h7
   refine AL (records_spec a F (acc.take F) (by omega) (by omega) w2 hcell) ?_
   intro e w3 hrp
   cases hr:Redo.records (acc.take F)with
   |none=>
    rw[hr]at hrp
    obtain⟨rfl,H'⟩:=hrp
    replace H:=H.ext0 H';clear H'
    refine⟨_,_,_,_,rfl,?_⟩
    refine BI (fun _=>?_) (fun h=>by cases h)
    exact .inl ⟨by simp,rfl,H.drop.drop⟩
   |some l=>
    rw[hr]at hrp
    obtain⟨ta,tc,rfl,H'⟩:=hrp
    replace H:=H.ext1 H';clear H'
    refine⟨_,_,_,_,rfl,?_⟩
    refine BI (fun h=>by cases h) (fun _=>?_)
    refine AA rfl ⟨_,_,_,H.ld (cs:=lgC ⟨yb,a,F,yta,ytc⟩ x.b {Lg.none name with mark:=M,b:=acc.take F}) EQ4 Gx (.tail _ (.head _)) rfl,?_⟩
    refine AA rfl (Hp.st (o:=6) H.Aq EQ4 JY rfl rfl (by simp[lgC]) rfl ?_)
    clear H;intro w4 H
    refine AA rfl (Hp.st (o:=4) H EQ4 Ah rfl rfl (by simp[lgC]) rfl ?_)
    clear H;intro w5 H
    refine AA rfl (Hp.st (o:=5) H EQ4 Ah rfl rfl (by simp[lgC]) rfl ?_)
    clear H;intro w6 H
    refine .inr ⟨rfl,rfl,⟨yb,a,F,ta,tc⟩,rfl,?_⟩
    have e8:lgA ⟨yb,a,F,ta,tc⟩ x.b ⟨name,M,acc.take F,F,l.length,l,0⟩=.blk yb (((((lgC ⟨yb,a,F,yta,ytc⟩ x.b {Lg.none name with mark:=M,b:=acc.take F}).set 6 (.slice ta l.length tc)).set 4 (.int .i64 ((acc.take F).length:Int))).set 5 (.int .i64 (l.length:Int)))) 129:=by
     simp only[lgA,lgC,ltk];rfl
    have H9:=(H.BF.front h5).perm (DY [_,_] _ _).symm
    have e9:(bQ acc).take (F*1)=bQ (acc.take F):=by rw[Nat.mul_one];simp only[bQ,map_take]
    rw[e9]at H9
    have e10:((⟨name,M,acc.take F,F,l.length,l,0⟩:Lg).b).length=F:=ltk
    show Hp B w w6 (lgA ⟨yb,a,F,ta,tc⟩ x.b ⟨name,M,acc.take F,F,l.length,l,0⟩::_::.own 5 1 a ((⟨name,M,acc.take F,F,l.length,l,0⟩:Lg).b).length F (bQ (acc.take F))::_)
    rw[e10,e8]
    exact H9
def lgT(y:LW)(l:Lg):Asn:=.own 9 1 y.ta l.all.length y.tc (l.all.map .string)
def lgB(y:LW)(l:Lg):Asn:=.own 5 1 y.ba l.b.length y.bc (bQ l.b)
def X9(x:DW)(d:Dk)(name:ByteArray)(w:World)(r:Dk×Int×Lg)(e:Ending)(w':World):Prop:=∃x':DW,x'.b=x.b/\x'.Ok r.1/\
 ((r.2.1≠0/\e=.returned (.tuple #[.pointer none,.int .i64 r.2.1])/\Hp (feet (dkL x d)) w w' (dkL x' r.1))\/
  (r.2.1=0/\∃y:LW,e=.returned (.tuple #[.pointer (some ⟨y.b,0,none⟩),.int .i64 0])/\Hp (feet (dkL x d)) w w' (lgA y x.b r.2.2::lgT y r.2.2::lgB y r.2.2::dkL x' r.1)))
theorem P6{n:ByteArray}:n=ByteArray.mk #[]↔n.size=0:=by
 constructor
 ·rintro rfl;rfl
 ·intro h
  obtain⟨a⟩:=n
  exact congrArg ByteArray.mk (Array.eq_empty_of_size_eq_zero h)
theorem open_spec(x:DW)(d:Dk)(hok:x.Ok d){N:Nat}(fit:d.Fit N)(hN:N<=400000)(name:ByteArray)(w:World)(st:Std w (dkL x d)):
  Calls Tryz.prog 37 #[.pointer (some ⟨x.b,0,none⟩),.string name] w (X9 x d name w (CV d name)):=by
 apply open_.ok;unfold open_.vc X9
 have H:=Hp.Ap st
 generalize hB:feet (dkL x d)=B at H⊢
 intro b w1 hn;replace H:=H.new (cs:=lgC ⟨b,none,0,none,0⟩ x.b (Lg.none name)) EQ4 hn;clear hn
 refine AL (dead_spec x d w1 H.drop.std) ?_
 rintro e w2 ⟨rfl,H'⟩
 replace H:=H.ext0 H';clear H'
 refine⟨_,rfl,?_⟩
 refine CE (fun h=>?_) (fun h=>?_)
 ·have e1:CV d name=(d,93,Lg.none name):=by simp[CV,h]
  rw[e1]
  exact⟨x,rfl,hok,.inl ⟨by simp,rfl,H.drop⟩⟩
 have e0:CV d name=if name.size=0\/56<name.size then(d,92,Lg.none name)else if 2<=d.size name then(d,Ky d name)else((bW d name []).1,(bW d name []).2,(Lg.none name).anew []):=by simp[CV,h]
 rw[e0]
 refine AO (fun h1=>?_) (fun h1=>?_)
 ·rw[if_pos (.inl (P6.1 h1))]
  exact⟨x,rfl,hok,.inl ⟨by simp,rfl,H.drop⟩⟩
 refine AO (fun h2=>?_) (fun h2=>?_)
 ·rw[if_pos (.inr (by omega))]
  exact⟨x,rfl,hok,.inl ⟨by simp,rfl,H.drop⟩⟩
 rw[if_neg (fun h3=>h3.elim (fun h4=>h1 (P6.2 h4)) (fun h4=>by omega))]
 refine AL (Ic x d hok name w2 H.drop.std) ?_
 rintro e w3 ⟨rfl,H'⟩
 replace H:=H.ext0 H';clear H'
 refine⟨_,rfl,?_⟩
 refine AO (fun h3=>?_) (fun h3=>?_)
 ·rw[if_pos h3]
  refine AL (lfind_spec ⟨b,none,0,none,0⟩ x d name hok fit (by omega) h3 ⟨rfl,rfl⟩ w3 H.std) ?_
  rintro e w4 (⟨hr,rfl,H'⟩|⟨hr,rfl,y',hy',H'⟩)
  ·exact⟨_,_,rfl,x,rfl,hok,.inl ⟨hr,rfl,H.Dq H'⟩⟩
  ·refine⟨_,_,rfl,x,rfl,hok,.inr ⟨hr,y',by rw[hy'],H.Dq H'⟩⟩
 ·rw[if_neg h3]
  have hf0:AV []=[]:=rfl
  refine AL (PQ ⟨b,none,0,none,0⟩ x d (Lg.none name) hok fit none 0 [] (by simp[hf0]) (by simp) (by omega) (by show name.size<=1000;omega) w3 H.std (fun W _=>by intro j v hj;simp at hj) (fun _=>rfl)) ?_
  rintro e w4 ⟨rfl,x',hxb,hx',(⟨hr,y',hy',H'⟩|⟨hr,H'⟩)⟩
  ·refine⟨_,rfl,?_⟩
   refine BI (fun h4=>absurd hr (of_decide_eq_false h4)) (fun _=>?_)
   have H2:=H.Dq H'
   refine⟨x',hxb,hx',.inr ⟨hr,y',?_,?_⟩⟩
   ·rw[hy']
   ·exact H2.perm ((List.Perm.swap _ _ _).cons _)
  ·refine⟨_,rfl,?_⟩
   refine BI (fun _=>?_) (fun h4=>absurd (of_decide_eq_true h4) hr)
   exact⟨x',hxb,hx',.inl ⟨hr,rfl,(H.Dq H').drop⟩⟩
theorem lfirm_spec(y:LW)(db:Nat)(l:Lg)(w:World)(st:Std w [lgA y db l]):Calls Tryz.prog 70 #[.pointer (some ⟨y.b,0,none⟩)] w fun e w'=>e=.returned (.int .i64 (l.many:Int))/\Hp [] w w' []:=by
 apply lfirm.ok;unfold lfirm.vc
 have H:=Hp.Ap st
 exact AA rfl ⟨_,H.ld (cs:=lgC y db l) EQ4 Ah (.head _) rfl,rfl,Hp.start w⟩
theorem J5(y:LW)(db:Nat)(l:Lg)(w:World)(st:Std w [lgA y db l]):Calls Tryz.prog 46 #[.pointer (some ⟨y.b,0,none⟩)] w fun e w'=>e=.returned (.int .i64 l.code)/\Hp [] w w' []:=by
 apply lstuck.ok;unfold lstuck.vc
 have H:=Hp.Ap st
 exact AA rfl ⟨_,H.ld (cs:=lgC y db l) EQ4 NI (.head _) rfl,rfl,Hp.start w⟩
theorem lall_spec(y:LW)(db:Nat)(l:Lg)(hl:l.all.length<=1000000000)(w:World)(st:Std w [lgA y db l,lgT y l]):Calls Tryz.prog 71 #[.pointer (some ⟨y.b,0,none⟩)] w fun e w'=>
  ∃a c,e=.returned (.slice a l.all.length c)/\Hp [] w w' [.own 9 1 a l.all.length c (l.all.map .string)]:=by
 apply lall.ok;unfold lall.vc
 have H:=Hp.Ap st
 refine AA rfl ⟨_,_,_,H.ld (cs:=lgC y db l) EQ4 JY (.head _) rfl,?_⟩
 have hown:=H.ownA (e:=9) (.tail _ (.head _))
 refine AL (PM y.ta y.tc l.all hl w hown.cells (VJ hown)) ?_
 rintro e w1 ⟨a,c,rfl,H'⟩
 exact⟨_,_,_,rfl,a,c,rfl,H'⟩
def ZV(y:LW)(db:Nat)(l:Lg)(w:World)(s:ByteArray)(e:Ending)(w':World):Prop:=
 (∃i,e=.returned (.tuple #[.int .i64 i,.int .i64 (l.append s).2])/\((l.append s).2=0->i=((l.append s).1.all.length:Int)))/\∃y':LW,y'.b=y.b/\Hp (feet [lgA y db l,lgT y l,lgB y l]) w w' [lgA y' db (l.append s).1,lgT y' (l.append s).1,lgB y' (l.append s).1]
theorem lappend_spec(y:LW)(db:Nat)(l:Lg)(s:ByteArray)(hb:l.b.length+70000<=1000000000)(ha:l.all.length<=1000000)(w:World)(st:Std w [lgA y db l,lgT y l,lgB y l]):
  Calls Tryz.prog 56 #[.pointer (some ⟨y.b,0,none⟩),.string s] w (ZV y db l w s):=by
 apply lappend.ok;unfold lappend.vc ZV
 have H:=Hp.Ap st
 generalize hB:feet [lgA y db l,lgT y l,lgB y l]=B at H⊢
 refine AO (fun h=>?_) (fun h=>?_)
 ·have e1:l.append s=(l,101):=by rw[Lg.append,if_pos (by omega)]
  rw[e1]
  exact⟨⟨_,rfl,fun h=>absurd (show(101:Int)=0 from h) (by decide)⟩,y,rfl,H⟩
 have e1:l.append s=({l with b:=bT l.b s,all:=l.all++[s]},0):=by rw[Lg.append,if_neg (by omega)]
 rw[e1]
 replace H:=H.drew
 have fl:=MH l.b s
 have fin:∀(w5:World)(a1:Option Addr)(c1:Nat)(a2:Option Addr)(c2:Nat)(X:List Asn),Hp B w w5 (lgA y db l::.own 9 1 a2 (l.all.length+1) c2 (l.all.map .string++[.string s])::.own 5 1 a1 (bT l.b s).length c1 (bQ (bT l.b s))::X)->
   onP (some (⟨y.b,0,none⟩:Addr)) fun a_5=>∃w1,St Tryz.prog 29 w5 (a_5.add 3) (.slice a1 (bT l.b s).length c1) w1/\onP (some (⟨y.b,0,none⟩:Addr)) fun a_6=>∃w1_2,St Tryz.prog 26 w1 (a_6.add 6) (.slice a2 (l.all.length+1) c2) w1_2/\
    onP (some (⟨y.b,0,none⟩:Addr)) fun a=>∃a_7 l_1 c,Ld Tryz.prog 26 w1_2 (a.add 6) (.slice a_7 l_1 c)/\
     ((∃i,Ending.returned (.tuple #[.int .i64 (l_1:Int),.int .i64 0])=.returned (.tuple #[.int .i64 i,.int .i64 0])/\((0:Int)=0->i=((l.all++[s]).length:Int)))/\∃y':LW,y'.b=y.b/\Hp B w w1_2 [lgA y' db {l with b:=bT l.b s,all:=l.all++[s]},lgT y' {l with b:=bT l.b s,all:=l.all++[s]},lgB y' {l with b:=bT l.b s,all:=l.all++[s]}]):=by
  intro w5 a1 c1 a2 c2 X H
  refine AA rfl (Hp.st (o:=3) H EQ4 Gx rfl rfl (by simp[lgC]) (cs':=lgC ⟨y.b,a1,c1,y.ta,y.tc⟩ db {l with b:=bT l.b s}) rfl ?_)
  clear H;intro w6 H
  refine AA rfl (Hp.st (o:=6) H EQ4 JY rfl rfl (by simp[lgC]) (cs':=lgC ⟨y.b,a1,c1,a2,c2⟩ db {l with b:=bT l.b s,all:=l.all++[s]}) (by simp[lgC]) ?_)
  clear H;intro w7 H
  refine AA rfl ⟨_,_,_,H.ld EQ4 JY (.head _) rfl,⟨_,rfl,fun _=>by rw[length_append]⟩,⟨y.b,a1,c1,a2,c2⟩,rfl,?_⟩
  have e2:lgT ⟨y.b,a1,c1,a2,c2⟩ {l with b:=bT l.b s,all:=l.all++[s]}=.own 9 1 a2 (l.all.length+1) c2 (l.all.map .string++[.string s]):=by
   simp only[lgT,length_append,map_append,length_singleton,List.map_singleton]
  rw[e2]
  have H2:Hp B w w7 ([lgA ⟨y.b,a1,c1,a2,c2⟩ db {l with b:=bT l.b s,all:=l.all++[s]},.own 9 1 a2 (l.all.length+1) c2 (l.all.map .string++[.string s]),lgB ⟨y.b,a1,c1,a2,c2⟩ {l with b:=bT l.b s,all:=l.all++[s]}]++X):=H
  exact H2.BQ
 constructor
 ·refine AA rfl ⟨_,_,_,H.ld (cs:=lgC y db l) EQ4 Gx (.head _) rfl,?_⟩
  refine AA rfl ⟨_,_,_,H.ld (cs:=lgC y db l) EQ4 JY (.head _) rfl,?_⟩
  have H1:Hp B w w.drew ([lgB y l]++[lgA y db l,lgT y l]):=H.BF
  refine AL (Jn y.ba y.bc l.b s (by omega) w.drew H1.std1) ?_
  rintro e w2 ⟨a1,c1,rfl,H'⟩
  replace H1:=H1.useL H';clear H'
  refine⟨_,_,_,rfl,H1.ld (cs:=lgC y db l) EQ4 JY (.tail _ (.head _)) rfl,?_⟩
  intro b w3 hn;replace H1:=H1.new (cs:=[.string s]) EQ4 hn;clear hn
  refine⟨H1.ld (cs:=lgC y db l) EQ4 JY (.tail _ (.tail _ (.head _))) rfl,?_⟩
  refine Hp.app eltT (by omega) H1.BM EQ4 (Blk.src (n:=1) WO (H1.blk (.head _)) (by simp) (by rfl)) (by simp only[maxLen];omega) (by omega) ?_
  clear H1;intro a5 c5 w5 H1
  exact fin w5 a1 c1 a5 c5 [.blk b [.string s] 9] (H1.perm (AC fun ff gg h0 hc ha hpm=>by simp only[ha,hc,h0];omega))
 ·refine AA rfl ⟨_,_,_,H.ld (cs:=lgC y db l) EQ4 Gx (.head _) rfl,?_⟩
  refine AA rfl ⟨_,_,_,H.ld (cs:=lgC y db l) EQ4 JY (.head _) rfl,?_⟩
  intro b w3 hn;replace H:=H.new (cs:=[.string s]) EQ4 hn;clear hn
  refine⟨H.ld (cs:=lgC y db l) EQ4 JY (.tail _ (.head _)) rfl,H.ld (cs:=lgC y db l) EQ4 Gx (.tail _ (.head _)) rfl,?_⟩
  have H1:Hp B w w3 ([lgB y l]++[.blk b [.string s] 9,lgA y db l,lgT y l]):=H.BM
  refine AL (Jn y.ba y.bc l.b s (by omega) w3 H1.std1) ?_
  rintro e w4 ⟨a1,c1,rfl,H'⟩
  replace H1:=H1.useL H';clear H'
  refine⟨_,_,_,rfl,H1.ld (cs:=lgC y db l) EQ4 JY (.tail _ (.tail _ (.head _))) rfl,?_⟩
  refine Hp.app eltT (by omega) H1.BM EQ4 (Blk.src (n:=1) WO (H1.blk (.tail _ (.head _))) (by simp) (by rfl)) (by simp only[maxLen];omega) (by omega) ?_
  clear H1;intro a5 c5 w5 H1
  exact fin w5 a1 c1 a5 c5 [.blk b [.string s] 9] (H1.perm (AC fun ff gg h0 hc ha hpm=>by simp only[ha,hc,h0];omega))
def lgL(y:LW)(x:DW)(d:Dk)(l:Lg):List Asn:=lgT y l::lgB y l::lgA y x.b l::dkL x d
def QE(y:LW)(x:DW)(w:World)(B:List Nat)(r:Dk×Lg×Int)(e:Ending)(w':World):Prop:=
 e=.returned (.int .i64 r.2.2)/\∃(x':DW)(y':LW),x'.b=x.b/\y'.b=y.b/\x'.Ok r.1/\Hp B w w' (lgL y' x' r.1 r.2.1)
theorem ZP{y:LW}{x x':DW}(h:x'.b=x.b){d:Dk}{l:Lg}:lgT y l::lgB y l::lgA y x.b l::dkL x' d=lgL y x' d l:=by rw[lgL,h]
theorem PR(y:LW)(x:DW)(d:Dk)(l:Lg)(hok:x.Ok d){N:Nat}(fit:d.Fit N)(hN:N<=400000)(hb:l.b.length<=100000000)(hf:l.firm<=100000000)(hm:l.mark<=100000000)(w:World)(st:Std w (lgL y x d l)):
  Calls Tryz.prog 47 #[.pointer (some ⟨y.b,0,none⟩)] w (QE y x w (feet (lgL y x d l)) (Ak d l)):=by
 apply lflush.ok;unfold lflush.vc QE
 have H:=Hp.Ap st
 generalize hB:feet (lgL y x d l)=B at H⊢
 unfold lgL at H
 refine AA rfl ⟨_,H.ld (cs:=lgC y x.b l) EQ4 NI (.tail _ (.tail _ (.head _))) rfl,?_⟩
 refine BI (fun h=>?_) (fun h=>?_)
 ·have h:=of_decide_eq_false h
  have e1:Ak d l=(d,l,l.code):=by rw[Ak,if_neg h]
  rw[e1]
  exact AA rfl ⟨_,H.ld (cs:=lgC y x.b l) EQ4 NI (.tail _ (.tail _ (.head _))) rfl,rfl,x,y,rfl,rfl,hok,H⟩
 have h:=of_decide_eq_true h
 replace H:=H.drew
 refine AA rfl ⟨_,H.ld (cs:=lgC y x.b l) EQ4 Ai (.tail _ (.tail _ (.head _))) rfl,?_⟩
 refine AA rfl ⟨_,_,_,H.ld (cs:=lgC y x.b l) EQ4 Gx (.tail _ (.tail _ (.head _))) rfl,?_⟩
 refine AA rfl ⟨_,H.ld (cs:=lgC y x.b l) EQ4 Ah (.tail _ (.tail _ (.head _))) rfl,?_⟩
 have hown:=H.ownA (e:=5) (.tail _ (.head _))
 refine AL (PK y.b (lgC y x.b l) x d hok fit l.name y.ba y.bc l.b (by omega) l.firm (by omega) rfl w.drew H.drop.drop.std (fun W hW=>H.drop.aX W hW) (VJ hown) hown.le.1) ?_
 rintro e w1 ⟨rfl,x1,hx1b,hx1,H'⟩
 replace H:=H.Na H';clear H'
 have fit1:(bU d l.name l.b l.firm).1.Fit (N+l.b.length/512+1):=(NU l.name l.b _ _ fit).mono (by omega)
 have e0:Ak d l=if(thn (bU d l.name l.b l.firm) fun d=>bY d l.name (l.mark+1) l.b.length).2=0 then((thn (bU d l.name l.b l.firm) fun d=>bY d l.name (l.mark+1) l.b.length).1,{l with mark:=l.mark+1,firm:=l.b.length,many:=l.all.length},0)else((thn (bU d l.name l.b l.firm) fun d=>bY d l.name (l.mark+1) l.b.length).1,{l with code:=(thn (bU d l.name l.b l.firm) fun d=>bY d l.name (l.mark+1) l.b.length).2},(thn (bU d l.name l.b l.firm) fun d=>bY d l.name (l.mark+1) l.b.length).2):=by rw[Ak,if_pos h]
 rw[e0];clear e0
 refine⟨_,rfl,?_⟩
 have bad:∀(w2:World)(x2:DW)(r:Dk×Int),x2.b=x.b->x2.Ok r.1->r.2≠0->Hp B w w2 (lgT y l::lgB y l::lgA y x.b l::dkL x2 r.1)->
   AB Tryz.prog 83 [.pointer (some ⟨y.b,0,none⟩),.int .i64 r.2] w2 fun e w'=>∃i,e=.returned (.int .i64 i)/\
    (Ending.returned (.int .i64 i)=.returned (.int .i64 r.2)/\∃(x':DW)(y':LW),x'.b=x.b/\y'.b=y.b/\x'.Ok r.1/\Hp B w w' (lgL y' x' r.1 {l with code:=r.2})):=by
  intro w2 x2 r hxb hx2 hr H
  have H1:Hp B w w2 ([lgA y x.b l]++(lgT y l::lgB y l::dkL x2 r.1)):=H.BF
  refine AL (Sv y x.b l r.2 w2 H1.std1) ?_
  rintro e w3 ⟨rfl,H'⟩
  replace H1:=H1.useL H'
  rw[if_pos h]at H1⊢
  refine⟨_,rfl,rfl,x2,y,hxb,rfl,hx2,?_⟩
  rw[<- ZP hxb]
  exact H1.perm (((List.Perm.swap _ _ _).trans ((List.Perm.swap _ _ _).cons _)))
 refine AO (fun h1=>?_) (fun h1=>BI (fun _=>?_) (fun h2=>absurd (of_decide_eq_true h2) h1))
 ·have e1:(thn (bU d l.name l.b l.firm) fun d=>bY d l.name (l.mark+1) l.b.length)=bY (bU d l.name l.b l.firm).1 l.name (l.mark+1) l.b.length:=by rw[thn,if_pos h1]
  rw[e1]
  generalize(bU d l.name l.b l.firm).1=d1 at hx1 H fit1⊢
  replace H:=H.drew
  refine AA rfl ⟨_,H.ld (cs:=lgC y x.b l) EQ4 Ai (.tail _ (.tail _ (.head _))) rfl,?_⟩
  refine AA rfl ⟨_,H.ld (cs:=lgC y x.b l) EQ4 Oe (.tail _ (.tail _ (.head _))) rfl,inRU.2 (by omega),?_⟩
  refine AA rfl ⟨_,_,_,H.ld (cs:=lgC y x.b l) EQ4 Gx (.tail _ (.tail _ (.head _))) rfl,?_⟩
  have hss:=Q4 y.b (lgC y x.b l) x1 d1 hx1 fit1 (by omega) l.name (l.mark+1) l.b.length (by omega) (by omega) (by rw[hx1b];rfl) w1.drew H.drop.drop.std
  rw[Int.natCast_add]at hss
  refine AL hss ?_
  rintro e w2 ⟨rfl,x2,hx2b,hx2,H'⟩
  replace H:=H.Na H';clear H' hss
  refine⟨_,rfl,?_⟩
  have hxb2:x2.b=x.b:=by rw[hx2b,hx1b]
  generalize bY d1 l.name (l.mark+1) l.b.length=r at hx2 H⊢
  refine BI (fun h2=>?_) (fun h2=>?_)
  ·have h2:=of_decide_eq_false h2
   rw[if_neg h2]
   exact bad w2 x2 r hxb2 hx2 h2 H
  ·have h2:=of_decide_eq_true h2
   rw[if_pos h2]
   refine AA rfl ⟨_,H.ld (cs:=lgC y x.b l) EQ4 Oe (.tail _ (.tail _ (.head _))) rfl,inRU.2 (by omega),?_⟩
   refine AA rfl (Hp.st (o:=2) H.BF EQ4 Oe rfl rfl (by simp[lgC]) (cs':=lgC y x.b {l with mark:=l.mark+1}) (by simp[lgC]) ?_)
   clear H;intro w3 H
   replace H:=H.drew
   refine AA rfl ⟨_,_,_,H.ld (cs:=lgC y x.b {l with mark:=l.mark+1}) EQ4 Gx (.head _) rfl,?_⟩
   refine AA rfl ⟨_,_,_,H.ld (cs:=lgC y x.b {l with mark:=l.mark+1}) EQ4 JY (.head _) rfl,?_⟩
   refine AA rfl (Hp.st (o:=4) H EQ4 Ah rfl rfl (by simp[lgC]) (cs':=lgC y x.b {l with mark:=l.mark+1,firm:=l.b.length}) rfl ?_)
   clear H;intro w4 H
   refine AA rfl (Hp.st (o:=5) H EQ4 Ah rfl rfl (by simp[lgC]) (cs':=lgC y x.b {l with mark:=l.mark+1,firm:=l.b.length,many:=l.all.length}) rfl ?_)
   clear H;intro w5 H
   refine⟨rfl,x2,y,hxb2,rfl,hx2,?_⟩
   rw[<- ZP hxb2]
   exact H.perm (((List.Perm.swap _ _ _).trans ((List.Perm.swap _ _ _).cons _)))
 ·have e1:(thn (bU d l.name l.b l.firm) fun d=>bY d l.name (l.mark+1) l.b.length)=bU d l.name l.b l.firm:=by rw[thn,if_neg h1]
  rw[e1,if_neg h1]
  exact bad w1 x1 _ hx1b hx1 h1 H
theorem resetC_spec(s:ByteArray)(w:World):Calls Tryz.prog 96 #[.string s] w fun e w'=>e=.returned (.bool (decide (65536<(s.size:Int))))/\Hp [] w w' []:=by
 apply resetC.ok;unfold resetC.vc
 exact⟨rfl,Hp.start w⟩
theorem index_spec(aa:Option Addr)(ac:Nat)(all:List ByteArray)(hl:all.length<=1000000000)(w:World)(hc:Cells w aa (all.map .string)):
  Calls Tryz.prog 128 #[.slice aa all.length ac,.func (.func 96) #[] #[]] w fun e w'=>∃i:Int,e=.returned (.int .i64 i)/\(0<=i↔Iw all=true)/\Hp [] w w' []:=by
 apply indexT.ok;unfold indexT.vc
 refine Ae.mk (fun m s w'=>∃k:Nat,m=all.length-k/\k<=all.length/\s=(k:Int)/\Iw (all.take k)=false/\Hp [] w w' []) all.length ⟨0,rfl,by omega,rfl,rfl,Hp.start w⟩ ?_
 rintro m s w1 next ⟨k,rfl,hk,rfl,hno,H⟩ hnext
 refine AO (fun h3=>?_) (fun h3=>?_)
 ·have hkl:k<all.length:=by omega
  have hv:(all.map Value.string)[k]? =some (.string all[k]):=by simp[hkl]
  have hcw:=hc.chg H.chg (by simp)
  obtain⟨ad,ha,_⟩:=hcw k _ hv
  refine AA ha ⟨⟨by omega,by omega⟩,_,by rw[Int.toNat_natCast,Nat.mul_one];exact hcw.ld Ai ha hv,?_⟩
  refine XH (G8 Tryz.func96 rfl (AL (resetC_spec all[k] w1) fun _ _ h=>h)) ?_
  rintro e w2 ⟨rfl,H'⟩
  replace H:=H.ext0 H';clear H'
  refine⟨_,rfl,?_⟩
  refine AO (fun h4=>?_) (fun h4=>?_)
  ·refine⟨_,rfl,⟨fun _=>?_,fun _=>by omega⟩,H⟩
   rw[Iw,List.any_eq_true]
   exact⟨all[k],getElem_mem _,by rw[decide_eq_true_eq];omega⟩
  ·refine⟨AY.2 (by omega),hnext (all.length-(k+1)) _ _ (by omega) ⟨k+1,rfl,by omega,by omega,?_,H⟩⟩
   rw[List.take_succ_eq_append_getElem hkl,Iw,List.any_append,<- Iw,hno]
   simp;omega
 ·have hkl:k=all.length:=by omega
  subst hkl
  rw[take_length]at hno
  exact⟨_,rfl,⟨fun h=>by omega,fun h=>by rw[hno]at h;cases h⟩,H⟩
theorem contains_spec(aa:Option Addr)(ac:Nat)(all:List ByteArray)(hl:all.length<=1000000000)(w:World)(hc:Cells w aa (all.map .string)):
  Calls Tryz.prog 95 #[.slice aa all.length ac,.func (.func 96) #[] #[]] w fun e w'=>e=.returned (.bool (Iw all))/\Hp [] w w' []:=by
 apply containsT.ok;unfold containsT.vc
 refine AL (index_spec aa ac all hl w hc) ?_
 rintro e w1 ⟨i,rfl,hi,H⟩
 refine⟨_,rfl,?_,H⟩
 congr 2
 rw[Bool.eq_iff_iff,decide_eq_true_eq];exact hi
theorem lreset_spec(y:LW)(x:DW)(d:Dk)(l:Lg)(hok:x.Ok d){N:Nat}(fit:d.Fit N)(hN:N<=400000)(hn:l.name.size<=1000)(aa:Option Addr)(ac:Nat)(all:List ByteArray)(hS:(AV all).length<=100000000)(hl:all.length<=100000000)(w:World)(st:Std w (lgL y x d l))
  (hA:∀W,Chg (feet (lgL y x d l)) w W->Cells W aa (all.map .string)) (h0:aa=none->all.length=0):
  Calls Tryz.prog 53 #[.pointer (some ⟨y.b,0,none⟩),.slice aa all.length ac] w (QE y x w (feet (lgL y x d l)) (Dt d l all)):=by
 apply lreset.ok;unfold lreset.vc QE
 have H:=Hp.Ap st
 generalize hB:feet (lgL y x d l)=B at H hA⊢
 unfold lgL at H
 refine AL (contains_spec aa ac all (by omega) w (hA w H.chg)) ?_
 rintro e w1 ⟨rfl,H'⟩
 replace H:=H.ext0 H';clear H'
 refine⟨_,rfl,?_⟩
 refine CE (fun h=>?_) (fun h=>?_)
 ·have e1:Dt d l all=(d,l,101):=by rw[Dt,if_pos h]
  rw[e1]
  exact⟨rfl,x,y,rfl,rfl,hok,H⟩
 have e0:Dt d l all=if l.code=0 then(if(bW d l.name all).2=0 then((bW d l.name all).1,l.anew all,0)else((bW d l.name all).1,{l with code:=(bW d l.name all).2},(bW d l.name all).2))else(d,l,l.code):=by rw[Dt,if_neg (by rw[h];simp)]
 rw[e0]
 refine AA rfl ⟨_,H.ld (cs:=lgC y x.b l) EQ4 NI (.tail _ (.tail _ (.head _))) rfl,?_⟩
 refine BI (fun h1=>?_) (fun h1=>?_)
 ·rw[if_neg (of_decide_eq_false h1)]
  exact AA rfl ⟨_,H.ld (cs:=lgC y x.b l) EQ4 NI (.tail _ (.tail _ (.head _))) rfl,rfl,x,y,rfl,rfl,hok,H⟩
 have hcode:=of_decide_eq_true h1
 rw[if_pos hcode]
 refine AL (PQ y x d l hok fit aa ac all hS hl (by omega) hn w1 H.drop.drop.std (fun W hW=>hA W (H.drop.drop.later hW)) h0) ?_
 rintro e w2 ⟨rfl,x',hxb,hx',(⟨hr,y',hy',H'⟩|⟨hr,H'⟩)⟩
 ·replace H:=H.Na H';clear H'
  refine⟨_,rfl,?_⟩
  refine BI (fun h2=>absurd hr (of_decide_eq_false h2)) (fun _=>?_)
  rw[if_pos hr]
  refine⟨rfl,x',y',hxb,hy',hx',?_⟩
  rw[<- ZP hxb]
  have H2:Hp B w w2 (lgA y' x.b (l.anew all)::lgB y' (l.anew all)::lgT y' (l.anew all)::dkL x' (bW d l.name all).1):=H.drop.drop
  exact H2.perm (AC fun ff gg h0 hc ha hpm=>by simp only[ha,hc,h0];omega)
 ·replace H:=H.Na H';clear H'
  refine⟨_,rfl,?_⟩
  refine BI (fun _=>?_) (fun h2=>absurd (of_decide_eq_true h2) hr)
  rw[if_neg hr]
  have H1:Hp B w w2 ([lgA y x.b l]++(lgT y l::lgB y l::dkL x' (bW d l.name all).1)):=H.BF
  refine AL (Sv y x.b l _ w2 H1.std1) ?_
  rintro e w3 ⟨rfl,H'⟩
  replace H1:=H1.useL H'
  rw[if_pos hcode]at H1⊢
  refine⟨_,rfl,rfl,x',y,hxb,rfl,hx',?_⟩
  rw[<- ZP hxb]
  exact H1.perm (((List.Perm.swap _ _ _).trans ((List.Perm.swap _ _ _).cons _)))
open Go.RowKit Go.Sort
def Eh(zs:List Int):List Int:=zs.mergeSort fun x y=>decide (x<=y)
theorem FB(zs:List Int):(Eh zs).length=zs.length:=List.length_mergeSort _
theorem Xq(d:Array Int)(cur:Array Value):(putCells (Value.int .i64) 0 d cur).size=cur.size:=by simp[putCells]
theorem put_take(zs:List Int)(cur:Array Value)(h:zs.length<=cur.size):(putCells (Value.int .i64) 0 zs.toArray cur).toList.take zs.length=zs.map (.int .i64):=by
 apply ext_getElem?
 intro i
 by_cases hi:i<zs.length
 ·rw[List.getElem?_take_of_lt hi,Array.getElem?_toList]
  have h2:i<cur.size:=by omega
  simp[putCells,hi,h2]
 ·rw[List.getElem?_eq_none (by rw[length_take];omega),List.getElem?_eq_none (by simp;omega)]
theorem sortOwn_spec(a:Option Addr)(c:Nat)(zs:List Int)(w:World)(h:Own w 0 3 1 a zs.length c (zs.map (.int .i64)))(hlen:zs.length<4611686018427387904):
  Calls Tryz.prog 85 #[.slice a zs.length c] w fun e w'=>e=.returned (.tuple #[])/\Hp (blks a) w w' [.own 3 1 a zs.length c ((Eh zs).map (.int .i64))]:=by
 rcases h.2 with⟨rfl,h0,rfl⟩|⟨g,cur,fz,rfl,hb,hg,hf,hnc,hcm,hcs,htake⟩
 ·have hz:zs=[]:=List.eq_nil_of_length_eq_zero h0
  subst hz
  refine(AnyM.slices_Sort_int_none VG none 0 w).mono ?_
  rintro e w' ⟨rfl,rfl⟩
  refine⟨rfl,Chg.refl _ _,fun q hq=>?_,by simp[Asn.foot,blks],by simp⟩
  have e:Eh []=[]:=by simp[Eh]
  rw[mem_singleton.1 hq,e]
  exact Own.nil _ _ _ _
 ·have hle:zs.length<=cur.size:=by omega
  have hH:Holds (Value.int .i64) w g 0 zs.toArray:=by
   intro j hj
   have hj:j<zs.length:=by simpa using hj
   have hcell:cur[j]? =some (.int .i64 zs[j]):=by
    have h1:(cur.toList.take (zs.length*1))[j]? =some (.int .i64 zs[j]):=by rw[htake];simp[hj]
    rw[List.getElem?_take_of_lt (by omega),Array.getElem?_toList]at h1
    exact h1
   refine⟨?_,?_⟩
   ·simp[World.cell?,hg,hcell,hj]
   ·have:=hf (0+j) (by omega)
    obtain⟨f1,f2⟩:=fz
    simpa [World.frozen?,hg]using this
  refine(AnyM.slices_Sort_int VG g 0 c zs w hH (Array.getElem?_eq_some_iff.1 hg).1 hlen).mono ?_
  rintro e w' ⟨rfl,n,os,rfl⟩
  have hsz:(putRow (Value.int .i64) (Go.Sort.ahead w n) g 0 (zs.mergeSort fun x y=>decide (x<=y)).toArray).heap.size=w.heap.size:=by simp[Go.Sort.ahead]
  have hat:∀k,k<w.heap.size->(grow (putRow (Value.int .i64) (Go.Sort.ahead w n) g 0 (zs.mergeSort fun x y=>decide (x<=y)).toArray) os).heap[k]? =(putRow (Value.int .i64) (Go.Sort.ahead w n) g 0 (zs.mergeSort fun x y=>decide (x<=y)).toArray).heap[k]? :=fun k hk=>by
   show(_++os)[k]? =_
   rw[Array.getElem?_append_left (by rw[hsz];exact hk)]
  have hgl:=(Array.getElem?_eq_some_iff.1 hg).1
  refine⟨rfl,⟨rfl,rfl,rfl,?_,fun k hk hs=>?_⟩,fun q hq=>?_,fun q hq k hk=>?_,by simp⟩
  ·show w.heap.size<=(_++os).size
   rw[Array.size_append,hsz];omega
  ·rw[hat k hk]
   have hne:g≠k:=fun e=>hs (by simp[blks,e])
   simp[putRow,mapBlock,Go.Sort.ahead,Array.getElem?_modify,hne]
  ·rw[mem_singleton.1 hq]
   refine⟨by simp[FB],.inr ⟨g,putCells (Value.int .i64) 0 (Eh zs).toArray cur,fz,rfl,Nat.zero_le _,?_,?_,hnc,hcm,?_,?_⟩⟩
   ·rw[hat g hgl]
    simp[putRow,mapBlock,Go.Sort.ahead,Array.getElem?_modify,hg,onCells,Eh]
   ·rw[Xq];exact hf
   ·rw[Xq];exact hcs
   ·have:=put_take (Eh zs) cur (by rw[FB];exact hle)
    rw[FB]at this
    rw[Nat.mul_one];exact this
  ·rw[mem_singleton.1 hq]at hk
   exact .inl hk
theorem gInt:Scl Tryz.prog 3:=BP (by kernel_rfl)
theorem EN:Scl Tryz.prog 4:=BP (by kernel_rfl)
theorem gStr:Scl Tryz.prog 9:=BP (by kernel_rfl)
theorem gPF:Scl Tryz.prog 153:=BP (by kernel_rfl)
theorem gPP:Scl Tryz.prog 88:=BP (by kernel_rfl)
theorem gPD:Scl Tryz.prog 23:=BP (by kernel_rfl)
theorem gPL:Scl Tryz.prog 87:=BP (by kernel_rfl)
theorem gPG:Scl Tryz.prog 99:=BP (by kernel_rfl)
theorem gSF:Scl Tryz.prog 132:=BP (by kernel_rfl)
theorem gSI:Scl Tryz.prog 30:=BP (by kernel_rfl)
theorem gEr:Scl Tryz.prog 27:=BP (by kernel_rfl)
theorem gFn:Scl Tryz.prog 96:=BP (by kernel_rfl)
theorem geltI:Elt Tryz.prog 30 3 1 8:=FP (by kernel_rfl)
theorem geltF:Elt Tryz.prog 132 153 1 8:=FP (by kernel_rfl)
theorem gundI:Tryz.prog.underlying 30=some (.slice 3):=by kernel_rfl
theorem gundF:Tryz.prog.underlying 132=some (.slice 153):=by kernel_rfl
theorem aA:Tryz.prog.underlying 153=some (.pointer (Tryz.prog.pointee 153)):=by kernel_rfl
theorem Qw:Tryz.prog.underlying 23=some (.pointer (Tryz.prog.pointee 23)):=by kernel_rfl
def Aa:ByteArray:=⟨#[100,97,116,97]⟩
abbrev AP:=Sl.Recs×Nat
structure Fr where
 n:Nat
 pg:AP
 pins:Nat
 dirty:Bool
 used:Bool
structure St where
 d:Dk
 many:Nat
 fs:List Fr
 hand:Nat
 pages:Nat
 lg:Lg
structure GW where
 jb:Nat
 jc:List Value
 lw:LW
 pb:Nat
 fa:Option Addr
 fc:Nat
 fs:List (Nat×Nat)
def BG(b:Nat)(P:AP):Asn:=.any [b] fun w=>∃g,Sl.Rep g P.1 P.2/\Blk w b g.cells 144
theorem page_ok{b:Nat}{P:AP}{w:World}{g:Sl.Pg}(hR:Sl.Rep g P.1 P.2)(h:Blk w b g.cells 144):(BG b P).ok w:=
 ⟨fun k hk=>by simp at hk;subst hk;exact h.lt,fun w' hw=>⟨g,hR,(hw b (by simp)).trans h⟩⟩
theorem RU{b:Nat}{P:AP}{w:World}(h:(BG b P).ok w):∃g,Sl.Rep g P.1 P.2/\Blk w b g.cells 144:=h.2 w fun _ _=>rfl
theorem Hp.NE{B:List Nat}{w0 w:World}{L:List Asn}{b:Nat}{g:Sl.Pg}{P:AP}(hR:Sl.Rep g P.1 P.2)(H:Hp B w0 w (Sl.pgA b g::L)):Hp B w0 w (BG b P::L):=
 H.set (a':=BG b P) (Chg.refl _ _) (page_ok hR (H.blk (.head _))) (by simp[BG,Sl.pgA,Asn.foot])
theorem Hp.CV{B:List Nat}{w0 w:World}{L:List Asn}{b:Nat}{P:AP}(H:Hp B w0 w (BG b P::L)):∃g,Sl.Rep g P.1 P.2/\Hp B w0 w (Sl.pgA b g::L):=by
 obtain⟨g,hR,hb⟩:=RU (H.ok _ (.head _))
 exact⟨g,hR,H.set (a':=Sl.pgA b g) (Chg.refl _ _) hb (by simp[BG,Sl.pgA,Asn.foot])⟩
def O5(jb:Nat):Value:=.func (.func 39) #[.pointer (some ⟨jb,0,none⟩)] #[]
def BL(y:GW)(x:DW)(s:St):List Value:=[.pointer (some ⟨x.b,0,none⟩),.string Aa,.int .i64 (s.many:Int),O5 y.jb,.slice y.fa s.fs.length y.fc,.int .i64 (s.hand:Int),.int .i64 (s.pages:Int)]
def frC(w:Nat×Nat)(f:Fr):List Value:=[.int .i64 (f.n:Int),.pointer (some ⟨w.2,0,none⟩),.int .i64 (f.pins:Int),.bool f.dirty,.bool f.used]
def frL(w:Nat×Nat)(f:Fr):List Asn:=[.blk w.1 (frC w f) 156,BG w.2 f.pg]
def frsL(ws:List (Nat×Nat))(fs:List Fr):List Asn:=(List.zipWith frL ws fs).flatten
def FQ(ws:List (Nat×Nat)):List Value:=ws.map fun w=>.pointer (some ⟨w.1,0,none⟩)
def BN(y:GW)(x:DW)(s:St):Asn:=.blk y.pb (BL y x s) 134
def fsA(y:GW)(s:St):Asn:=.own 153 1 y.fa s.fs.length y.fc (FQ y.fs)
def CQ(y:GW)(x:DW)(s:St):List Asn:=[.blk y.jb y.jc 91,lgT y.lw s.lg,lgB y.lw s.lg,lgA y.lw x.b s.lg]
def stL(y:GW)(x:DW)(s:St):List Asn:=BN y x s::fsA y s::(CQ y x s++(frsL y.fs s.fs++dkL x s.d))
def LgB(l:Lg):Prop:=l.b.length<=100000000/\l.firm<=100000000/\l.mark<=100000000
structure StOk(y:GW)(x:DW)(s:St):Prop where
 fs:y.fs.length=s.fs.length
 env:y.jc[1]? =some (.pointer (some ⟨y.lw.b,0,none⟩))
 dk:x.Ok s.d
 len:s.fs.length<=64
 num:∀f∈s.fs,f.n<4096
 pins:∀f∈s.fs,f.pins<=1000000
 lg:(∀f∈s.fs,f.dirty=false)\/LgB s.lg
 hand:s.hand<64
 pages:s.pages<=4096
 many:s.many<=64
theorem TG{ws:List (Nat×Nat)}{k:Nat}{w:Nat×Nat}(h:ws[k]? =some w):(FQ ws)[k]? =some (.pointer (some ⟨w.1,0,none⟩)):=by simp[FQ,h]
theorem Zc{ws:List (Nat×Nat)}{fs:List Fr}{k:Nat}{w:Nat×Nat}{f:Fr}(h:ws[k]? =some w)(h':fs[k]? =some f):∀p∈frL w f,p∈frsL ws fs:=fun p hp=>
 (J7 frL h h').mem_iff.2 (mem_append_left _ hp)
theorem StOk.at{y:GW}{x:DW}{s:St}(h:StOk y x s){k:Nat}(hk:k<s.fs.length):∃w f,y.fs[k]? =some w/\s.fs[k]? =some f:=by
 have h2:=h.fs
 exact⟨_,_,List.getElem?_eq_getElem (by omega),List.getElem?_eq_getElem hk⟩
theorem Ei(y:GW)(x:DW)(s:St):BN y x s∈stL y x s:=.head _
theorem TF(y:GW)(x:DW)(s:St):fsA y s∈stL y x s:=.tail _ (.head _)
theorem TU{y:GW}{x:DW}{s:St}{k:Nat}{w:Nat×Nat}{f:Fr}(h:y.fs[k]? =some w)(h':s.fs[k]? =some f):Asn.blk w.1 (frC w f) 156∈stL y x s:=
 .tail _ (.tail _ (mem_append_right _ (mem_append_left _ (Zc h h' _ (.head _)))))
def EC(fs:List Fr)(n:Int):Option Nat:=fs.findIdx? fun f=>decide ((f.n:Int)=n)
def frP(ws:List (Nat×Nat)):Option Nat->Option Addr
 |some i=>(ws[i]?).map fun w=>⟨w.1,0,none⟩
 |none=>none
theorem UF(fs:List Fr)(n:Int)(k:Nat)(h:∀(j:Nat)(f:Fr),j<k->fs[j]? =some f->¬(f.n:Int)=n){f:Fr}(hf:fs[k]? =some f)(hn:(f.n:Int)=n):EC fs n=some k:=by
 rw[EC,List.findIdx?_eq_some_iff_getElem]
 have hk:=(List.getElem?_eq_some_iff.1 hf).1
 refine⟨hk,?_,fun j hj=>?_⟩
 ·rw[List.getElem?_eq_getElem hk]at hf
  rw[Option.some.inj hf];simpa using hn
 ·have:=h j _ hj (List.getElem?_eq_getElem (by omega))
  simpa using this
theorem Ud(fs:List Fr)(n:Int)(h:∀(j:Nat)(f:Fr),fs[j]? =some f->¬(f.n:Int)=n):EC fs n=none:=by
 rw[EC,List.findIdx?_eq_none_iff]
 intro f hf
 obtain⟨j,hj⟩:=List.getElem?_of_mem hf
 simpa using h j f hj
theorem JI(y:GW)(x:DW)(s:St)(ok:StOk y x s)(n:Int)(w:World)(st:Std w (stL y x s)):
  Calls Tryz.prog 87 #[.pointer (some ⟨y.pb,0,none⟩),.int .i64 n] w fun e w'=>e=.returned (.pointer (frP y.fs (EC s.fs n)))/\w'=w:=by
 apply ffind.ok;unfold ffind.vc
 have H:=Hp.Ap st
 refine AA rfl ⟨_,_,_,H.ld (o:=4) (cs:=BL y x s) EQ4 gSF (Ei y x s) rfl,?_⟩
 have hlen:=ok.len
 refine Ae.mk (fun m i w'=>∃k:Nat,m=s.fs.length-k/\k<=s.fs.length/\i=(k:Int)/\w'=w/\∀(j:Nat)(f:Fr),j<k->s.fs[j]? =some f->¬(f.n:Int)=n) s.fs.length ⟨0,rfl,by omega,rfl,rfl,fun j f hj=>by omega⟩ ?_
 rintro m i w1 next ⟨k,rfl,hk,rfl,rfl,hno⟩ hnext
 refine AO (fun h=>?_) (fun h=>?_)
 ·have hkl:k<s.fs.length:=by omega
  obtain⟨wf,f,hw,hf⟩:=ok.at hkl
  have hcl:=(H.ownA (TF y x s)).cells
  have hp:=TG hw
  obtain⟨ad,had,_⟩:=hcl _ _ hp
  have e1:Int.toNat (k:Int)*1=k:=by omega
  refine AA had ⟨⟨by omega,by omega⟩,_,by rw[e1];exact hcl.ld gPF had hp,?_⟩
  refine AA rfl ⟨_,H.ld (o:=0) (cs:=frC wf f) EQ4 gInt (TU hw hf) rfl,AO (fun hn=>?_) (fun hn=>?_)⟩
  ·rw[UF s.fs n k hno hf hn]
   refine⟨?_,rfl⟩
   simp[frP,hw]
  ·refine⟨AY.2 (by omega),hnext (s.fs.length-(k+1)) _ _ (by omega) ⟨k+1,rfl,by omega,by simp,rfl,fun j f' hj hf'=>?_⟩⟩
   rcases Nat.lt_or_ge j k with h1|h1
   ·exact hno j f' h1 hf'
   ·have:j=k:=by omega
    subst this
    rw[hf]at hf'
    rw[<- Option.some.inj hf'];exact hn
 ·rw[Ud s.fs n fun j f hf=>hno j f (by have:=(List.getElem?_eq_some_iff.1 hf).1;omega) hf]
  exact⟨rfl,rfl⟩
theorem fpages_spec(y:GW)(x:DW)(s:St)(w:World)(st:Std w (stL y x s)):
  Calls Tryz.prog 113 #[.pointer (some ⟨y.pb,0,none⟩)] w fun e w'=>e=.returned (.int .i64 (s.pages:Int))/\w'=w:=by
 apply fpages.ok;unfold fpages.vc
 exact AA rfl ⟨_,(Hp.Ap st).ld (o:=6) (cs:=BL y x s) EQ4 gInt (Ei y x s) rfl,rfl,rfl⟩
def nums(q:Fr->Bool)(fs:List Fr):List Int:=(fs.filter q).map fun f=>(f.n:Int)
theorem Mc(y:GW)(x:DW)(s:St)(ok:StOk y x s)(q:Fr->Bool)(fv:Value)(w:World)(st:Std w (stL y x s))
  (hq:∀(w':World)(wf:Nat×Nat)(f:Fr),Blk w' wf.1 (frC wf f) 156->Du Tryz.prog fv [.pointer (some ⟨wf.1,0,none⟩)] w' fun e w2=>e=.returned (.bool (q f))/\w2=w'):
  Calls Tryz.prog 90 #[.pointer (some ⟨y.pb,0,none⟩),fv] w fun e w'=>∃a c,e=.returned (.slice a (nums q s.fs).length c)/\Hp [] w w' [.own 3 1 a (nums q s.fs).length c ((Eh (nums q s.fs)).map (.int .i64))]:=by
 apply numbers.ok;unfold numbers.vc
 have S:=Hp.Ap st
 have hlen:=ok.len
 refine AA rfl ⟨_,_,_,S.ld (o:=4) (cs:=BL y x s) EQ4 gSF (Ei y x s) rfl,?_⟩
 have H:=(Hp.start w).nilS 3 1
 have hle:∀k,(nums q (s.fs.take k)).length<=64:=fun k=>by
  have h1:(nums q (s.fs.take k)).length<=(s.fs.take k).length:=by rw[nums,length_map];exact List.length_filter_le _ _
  rw[length_take]at h1;omega
 refine Ae.mk (fun m i w'=>∃(k:Nat)(a:Option Addr)(c:Nat),m=s.fs.length-k/\k<=s.fs.length/\i=((a,(nums q (s.fs.take k)).length,c),(k:Int))/\Hp [] w w' [.own 3 1 a (nums q (s.fs.take k)).length c ((nums q (s.fs.take k)).map (.int .i64))]) s.fs.length ⟨0,none,0,rfl,by omega,by simp[nums],by simpa [nums]using H⟩ ?_
 clear H
 rintro m i w1 next ⟨k,a,c,rfl,hk,rfl,H⟩ hnext
 dsimp only
 have stw:∀w',Chg [] w w'->Hp (feet (stL y x s)) w w' (stL y x s):=fun w' h=>S.chg0 h
 refine AO (fun h=>?_) (fun h=>?_)
 ·have hkl:k<s.fs.length:=by omega
  obtain⟨wf,f,hw,hf⟩:=ok.at hkl
  have S1:=stw _ H.chg
  have hcl:=(S1.ownA (TF y x s)).cells
  have hp:=TG hw
  obtain⟨ad,had,_⟩:=hcl _ _ hp
  have e1:Int.toNat (k:Int)*1=k:=by omega
  have hblk:=S1.blk (TU hw hf)
  have hstep:nums q (s.fs.take (k+1))=nums q (s.fs.take k)++(if q f then [(f.n:Int)]else []):=by
   rw[List.take_succ_eq_append_getElem hkl]
   have:s.fs[k]=f:=by rw[List.getElem?_eq_getElem hkl]at hf;exact Option.some.inj hf
   rw[this,nums,List.filter_append,map_append]
   congr 1
   rw[filter_cons]
   split<;>rfl
  have hl:=hle k
  generalize nums q (s.fs.take k)=F at*
  refine AA had ⟨⟨by omega,by omega⟩,_,by rw[e1];exact hcl.ld gPF had hp,?_⟩
  refine XH (hq w1 wf f hblk) ?_
  rintro e w2 ⟨rfl,rfl⟩
  refine⟨_,rfl,CE (fun h2=>?_) (fun h2=>?_)⟩
  ·rw[h2,if_pos rfl]at hstep
   refine AA rfl ⟨_,hblk.ld (o:=0) gInt.agg rfl,?_⟩
   intro b3 w3 hn
   replace H:=H.new (cs:=[.int .i64 (f.n:Int)]) EQ4 hn;clear hn
   refine Hp.app geltI (by omega) H.Aq EQ4 (Blk.src (n:=1) gundI (H.blk (.head _)) (by simp) (by rfl)) (by simp only[maxLen];omega) (by omega) ?_
   clear H;intro a5 c5 w5 H
   replace H:=H.del1
   exact⟨AY.2 (by omega),hnext (s.fs.length-(k+1)) _ _ (by omega) ⟨k+1,a5,c5,rfl,by omega,by rw[hstep,length_append];rfl,by rw[hstep,length_append,map_append];exact H⟩⟩
  ·rw[h2,if_neg (by simp),append_nil]at hstep
   exact⟨AY.2 (by omega),hnext (s.fs.length-(k+1)) _ _ (by omega) ⟨k+1,a,c,rfl,by omega,by rw[hstep];rfl,by rw[hstep];exact H⟩⟩
 ·have hke:k=s.fs.length:=by omega
  subst hke
  have hl:=hle s.fs.length
  rw[take_length]at H hl⊢
  refine AL (sortOwn_spec a c (nums q s.fs) w1 (H.ownA (.head _)) (by omega)) ?_
  rintro e w2 ⟨rfl,H'⟩
  exact⟨rfl,a,c,rfl,Hp.FO H H'⟩
theorem dirtyC_x(w':World)(wf:Nat×Nat)(f:Fr)(h:Blk w' wf.1 (frC wf f) 156):Du Tryz.prog (.func (.func 125) #[] #[]) [.pointer (some ⟨wf.1,0,none⟩)] w' fun e w2=>e=.returned (.bool f.dirty)/\w2=w':=by
 suffices hh:Calls Tryz.prog 125 #[.pointer (some ⟨wf.1,0,none⟩)] w' _ from G8 Tryz.func125 rfl (AL hh fun _ _ h=>h)
 apply dirtyC.ok;unfold dirtyC.vc
 exact AA rfl ⟨_,h.ld (o:=3) EN.agg rfl,rfl,rfl⟩
theorem fflushC_x(w':World)(wf:Nat×Nat)(f:Fr)(h:Blk w' wf.1 (frC wf f) 156):Du Tryz.prog (.func (.func 91) #[] #[]) [.pointer (some ⟨wf.1,0,none⟩)] w' fun e w2=>e=.returned (.bool (decide (0<f.pins)))/\w2=w':=by
 suffices hh:Calls Tryz.prog 91 #[.pointer (some ⟨wf.1,0,none⟩)] w' _ from G8 Tryz.func91 rfl (AL hh fun _ _ h=>h)
 apply fflushC.ok;unfold fflushC.vc
 refine AA rfl ⟨_,h.ld (o:=2) gInt.agg rfl,?_,rfl⟩
 have:decide ((0:Int)<(f.pins:Int))=decide (0<f.pins):=by rw[decide_eq_decide];omega
 rw[this]
def Em(f:Fr):Bool:=f.dirty
def NC(f:Fr):Bool:=decide (0<f.pins)
theorem dirty_spec(y:GW)(x:DW)(s:St)(ok:StOk y x s)(w:World)(st:Std w (stL y x s)):
  Calls Tryz.prog 92 #[.pointer (some ⟨y.pb,0,none⟩)] w fun e w'=>∃a c,e=.returned (.slice a (nums Em s.fs).length c)/\Hp [] w w' [.own 3 1 a (nums Em s.fs).length c ((Eh (nums Em s.fs)).map (.int .i64))]:=by
 apply dirty.ok;unfold dirty.vc
 refine AL (Mc y x s ok Em _ w st fun w' wf f h=>dirtyC_x w' wf f h) ?_
 rintro e w' ⟨a,c,rfl,H⟩
 exact⟨_,_,_,rfl,a,c,rfl,H⟩
def Bg(s:St)(n:Nat):Dk×Lg×Int:=if n<=s.lg.many then(s.d,s.lg,0)else Ak s.d s.lg
def DD(s:St)(n:Nat):St:= {s with d:=(Bg s n).1,lg:=(Bg s n).2.1}
def EM(s:St)(n:Nat):Int:=(Bg s n).2.2
theorem ahead_spec(y:GW)(x:DW)(s:St)(ok:StOk y x s)(hlg:LgB s.lg){N:Nat}(fit:s.d.Fit N)(hN:N<=400000)(n:Nat)(w:World)(st:Std w (CQ y x s++dkL x s.d)):
  Du Tryz.prog (O5 y.jb) [.int .i64 (n:Int)] w fun e w'=>e=.returned (.int .i64 (EM s n))/\∃(x':DW)(l':LW),x'.b=x.b/\l'.b=y.lw.b/\x'.Ok (DD s n).d/\Hp (feet (CQ y x s++dkL x s.d)) w w' (CQ {y with lw:=l'} x' (DD s n)++dkL x' (DD s n).d):=by
 suffices hh:Calls Tryz.prog 39 #[.pointer (some ⟨y.jb,0,none⟩),.int .i64 (n:Int)] w _ from G8 Tryz.func39 rfl (AL hh fun _ _ h=>h)
 apply jahead.ok;unfold jahead.vc
 have H:=Hp.Ap st
 generalize hB:feet (CQ y x s++dkL x s.d)=B at H⊢
 have mj:∀{Y:List Asn},Asn.blk y.jb y.jc 91∈CQ y x s++Y:=mem_append_left _ (.head _)
 refine AA rfl ⟨_,H.ld (o:=1) (cs:=y.jc) EQ4 gPL mj ok.env,?_⟩
 have K1:Hp B w w (lgA y.lw x.b s.lg::(.blk y.jb y.jc 91::lgT y.lw s.lg::lgB y.lw s.lg::dkL x s.d)):=H.perm (by rw[CQ];(refine AC fun ff gg h0 hc ha hpm=>?_;simp only[ha,hc,h0];omega))
 refine AL (lfirm_spec y.lw x.b s.lg w K1.std1) ?_
 rintro e w1 ⟨rfl,H'⟩
 have H1:=H.ext0 H'
 clear H' K1 H
 refine⟨_,rfl,AO (fun h1=>?_) (fun h1=>?_)⟩
 ·have hr:Bg s n=(s.d,s.lg,0):=if_pos (by omega)
  rw[EM,DD,hr]
  exact⟨rfl,x,y.lw,rfl,rfl,ok.dk,H1⟩
 ·have hr:Bg s n=Ak s.d s.lg:=if_neg (by omega)
  rw[EM,DD,hr]
  refine AA rfl ⟨_,H1.ld (o:=1) (cs:=y.jc) EQ4 gPL mj ok.env,?_⟩
  have K2:Hp B w w1 (lgL y.lw x s.d s.lg++[.blk y.jb y.jc 91]):=H1.perm (by rw[CQ,lgL];(refine AC fun ff gg h0 hc ha hpm=>?_;simp only[ha,hc,h0];omega))
  obtain⟨hb,hf,hm⟩:=hlg
  refine AL (PR y.lw x s.d s.lg ok.dk fit hN hb hf hm w1 K2.std1) ?_
  rintro e w2 ⟨rfl,x',l',hxb,hlb,hx',H'⟩
  have H2:=K2.useL H'
  exact⟨_,rfl,rfl,x',l',hxb,hlb,hx',H2.perm (by rw[CQ,lgL];(refine AC fun ff gg h0 hc ha hpm=>?_;simp only[ha,hc,h0];omega))⟩
theorem NV{r:Dk×Int}{f:Dk->Dk×Int}{N M:Nat}(h:r.1.Fit N)(hf:∀d:Dk,d.Fit N->(f d).1.Fit M)(hm:N<=M):(thn r f).1.Fit M:=by
 rw[thn]
 split
 ·exact hf _ h
 ·exact h.mono hm
theorem dseal_fit{d:Dk}{N:Nat}(h:d.Fit N)(name:ByteArray)(mark firm:Nat):(bY d name mark firm).1.Fit (N+3):=by
 rw[bY]
 exact NV (NV (N:=N+1) (M:=N+2) (Fit.sync h name) (fun d1 h1=>Fit.write h1 name _ _) (by omega)) (fun d1 h1=>Fit.sync h1 name) (by omega)
theorem dwriteK_fit{d:Dk}{N:Nat}(h:d.Fit N)(name:ByteArray)(b:List UInt8)(k:Nat):(bU d name b k).1.Fit (N+b.length/512+1):=(NU name b _ _ h).mono (by omega)
theorem RI(d:Dk)(l:Lg){N:Nat}(fit:d.Fit N):(Ak d l).1.Fit (N+l.b.length/512+8):=by
 have h1:(thn (bU d l.name l.b l.firm) fun d=>bY d l.name (l.mark+1) l.b.length).1.Fit (N+l.b.length/512+8):=
  NV (dwriteK_fit fit l.name l.b l.firm) (fun d1 h1=>(dseal_fit h1 l.name _ _).mono (by omega)) (by omega)
 rw[Ak]
 split
 ·simp only
  split
  ·exact h1
  ·exact h1
 ·exact fit.mono (by omega)
theorem aheadR_fit(s:St)(n:Nat){N:Nat}(fit:s.d.Fit N):(Bg s n).1.Fit (N+s.lg.b.length/512+8):=by
 rw[Bg]
 split
 ·exact fit.mono (by omega)
 ·exact RI _ _ fit
def layD(r:Dk×Int)(i:Nat)(b:List UInt8):Dk×Int:=if r.2=0 then r.1.write Aa (i:Int) b else r
def gapD:Nat->Nat->Dk×Int->Dk×Int
 |0,_,r=>r
 |m+1,i,r=>gapD m (i+1) (layD r i [])
def Be(bs:List UInt8)(k:Nat):List UInt8:=(bs.drop (k*512)).take 512
def rowD(bs:List UInt8)(base:Nat):Nat->Nat->Dk×Int->Dk×Int
 |0,_,r=>r
 |m+1,k,r=>rowD bs base m (k+1) (layD r (base+k) (Be bs k))
def Et(d:Dk)(e0:Int)(n:Nat)(bs:List UInt8):Dk×Int:=rowD bs (n*8) 8 0 (gapD (n*8-(d.size Aa).toNat) (d.size Aa).toNat (d,e0))
theorem WG{r:Dk×Int}{N:Nat}(h:r.1.Fit N)(i:Nat)(b:List UInt8):(layD r i b).1.Fit (N+1):=by
 unfold layD
 split
 ·exact Fit.write h _ _ _
 ·exact h.mono (by omega)
def layA(eb pvb pb:Nat)(pc:List Value)(e:Int)(x:DW)(d:Dk):List Asn:=.blk eb [.int .i64 e] 27::.blk pvb [.pointer (some ⟨pb,0,none⟩)] 88::.blk pb pc 134::dkL x d
theorem MN(eb pvb pb:Nat)(pc:List Value)(e:Int)(x:DW)(d:Dk)(hok:x.Ok d){N:Nat}(fit:d.Fit N)(hN:N<=900000)(hp0:pc[0]? =some (.pointer (some ⟨x.b,0,none⟩)))(hp1:pc[1]? =some (.string Aa))
  (n:Nat) (ba:Option Addr) (bc:Nat) (b:List UInt8) (w:World) (st:Std w (layA eb pvb pb pc e x d)) (hc:∀W,Chg (feet (layA eb pvb pb pc e x d)) w W->Cells W ba (bQ b)) (h0:ba=none->b.length=0):
  Calls Tryz.prog 127 #[.int .i64 (n:Int),.slice ba b.length bc,.pointer (some ⟨eb,0,none⟩),.pointer (some ⟨pvb,0,none⟩)] w fun r w'=>r=.returned (.tuple #[])/\∃x',x'.b=x.b/\x'.Ok (layD (d,e) n b).1/\Hp (feet (layA eb pvb pb pc e x d)) w w' (layA eb pvb pb pc (layD (d,e) n b).2 x' (layD (d,e) n b).1):=by
 apply fwriteC.ok;unfold fwriteC.vc
 have H:=Hp.Ap st
 have hsub:∀k∈feet (dkL x d),k∈feet (layA eb pvb pb pc e x d):=fun k hk=>by
  obtain⟨a,ha,h2⟩:=Dy.1 hk
  exact Dy.2 ⟨a,.tail _ (.tail _ (.tail _ ha)),h2⟩
 generalize hB:feet (layA eb pvb pb pc e x d)=B at H hc hsub⊢
 refine⟨_,AA rfl (H.ld (o:=0) (cs:=[.int .i64 e]) EQ4 gEr (.head _) rfl),AO (fun he=>?_) (fun he=>?_)⟩
 ·have e0:layD (d,e) n b=d.write Aa (n:Int) b:=if_pos he
  rw[e0]
  refine⟨_,AA rfl (H.ld (o:=0) (cs:=[.pointer (some ⟨pb,0,none⟩)]) EQ4 gPP (.tail _ (.head _)) rfl),?_⟩
  refine AA rfl ⟨_,H.ld (o:=0) (cs:=pc) EQ4 gPD (.tail _ (.tail _ (.head _))) hp0,?_⟩
  refine⟨_,AA rfl (H.ld (o:=0) (cs:=[.pointer (some ⟨pb,0,none⟩)]) EQ4 gPP (.tail _ (.head _)) rfl),?_⟩
  refine AA rfl ⟨_,H.ld (o:=1) (cs:=pc) EQ4 gStr (.tail _ (.tail _ (.head _))) hp1,?_⟩
  have H1:Hp B w w.drew (dkL x d++[.blk eb [.int .i64 e] 27,.blk pvb [.pointer (some ⟨pb,0,none⟩)] 88,.blk pb pc 134]):=H.drew.perm (perm_append_comm (l₁:=[_,_,_]))
  clear H
  refine AL (JE x d hok fit.few (by omega) (fit.used (by omega)) Aa (n:Int) ba bc b w.drew H1.std1 (fun W hW=>hc W ((Chg.drew (Chg.refl _ w)).trans hW (fun k hk=>hk) (fun k hk=>.inl (hsub k hk)))) h0) ?_
  rintro r w2 ⟨rfl,x2,hx2b,hx2,H'⟩
  have H2:=H1.useL H'
  clear H1 H'
  refine⟨_,rfl,AA rfl ?_⟩
  have H3:Hp B w w2 (.blk eb [.int .i64 e] 27::.blk pvb [.pointer (some ⟨pb,0,none⟩)] 88::.blk pb pc 134::dkL x2 (d.write Aa (n:Int) b).1):=H2.perm (by(refine AC fun ff gg h0 hc ha hpm=>?_;simp only[ha,hc,h0];omega))
  refine Hp.st H3 EQ4 gEr rfl rfl (by simp) rfl ?_
  intro w3 H4
  exact⟨rfl,x2,hx2b,hx2,H4⟩
 ·have e0:layD (d,e) n b=(d,e):=if_neg he
  rw[e0]
  exact⟨rfl,x,rfl,hok,H⟩
def wrL(y:GW)(x:DW)(s:St)(wf:Nat×Nat)(f:Fr):List Asn:=.blk wf.1 (frC wf f) 156::BG wf.2 f.pg::BN y x s::(CQ y x s++dkL x s.d)
def St.wrote(s:St)(f:Fr)(bs:List UInt8):St:= {DD s f.pg.2 with d:=(Et (Bg s f.pg.2).1 (EM s f.pg.2) f.n bs).1}
def DK(s:St)(f:Fr)(bs:List UInt8):Int:=(Et (Bg s f.pg.2).1 (EM s f.pg.2) f.n bs).2
def Fr.wrote(f:Fr)(e:Int):Fr:= {f with dirty:=if e=0 then false else f.dirty}
theorem Rj{bs:List UInt8}(h:bs.length=4096){k:Nat}(hk:k<8):(Be bs k).length=512:=by rw[Be,length_take,length_drop];omega
theorem chunk8_cells{w:World}{b:Nat}{bs:List UInt8}(h:Cells w (some ⟨b,0,none⟩) (bQ bs))(hl:bs.length=4096){k:Nat}(hk:k<8):Cells w (slA (some ⟨b,0,none⟩) 4096 (k*512) 1) (bQ (Be bs k)):=by
 have h1:=(h.slA (c:=4096) (i:=k*512) (by rw[AQ];omega)).take 512
 have e:((bQ bs).drop (k*512)).take 512=bQ (Be bs k):=by simp[bQ,Be,map_drop,map_take]
 rw[<- e];exact h1
theorem PI(y:GW)(x:DW)(s:St)(ok:StOk y x s)(hlg:LgB s.lg){N:Nat}(fit:s.d.Fit N)(hN:N<=400000)(wf:Nat×Nat)(f:Fr)(hsz:0<=(Bg s f.pg.2).1.size Aa)(hn:f.n<4096)(w:World)(st:Std w (wrL y x s wf f)):
  Calls Tryz.prog 93 #[.pointer (some ⟨y.pb,0,none⟩),.pointer (some ⟨wf.1,0,none⟩)] w fun r w'=>∃g,Sl.Rep g f.pg.1 f.pg.2/\r=.returned (.int .i64 (DK s f g.bs))/\
   ∃(x':DW)(l':LW),x'.b=x.b/\l'.b=y.lw.b/\x'.Ok (s.wrote f g.bs).d/\Hp (feet (wrL y x s wf f)) w w' (wrL {y with lw:=l'} x' (s.wrote f g.bs) wf (f.wrote (DK s f g.bs))):=by
 apply fwrite.ok;unfold fwrite.vc
 have H:=Hp.Ap st
 generalize hB:feet (wrL y x s wf f)=B at H⊢
 unfold wrL at H
 obtain⟨g,hR,H1⟩:=Hp.CV H.Aq
 clear H
 have hst:=hR.stamp
 intro b w1 hn1
 have H:=H1.new (cs:=[.pointer (some ⟨y.pb,0,none⟩)]) EQ4 hn1
 clear hn1 H1
 obtain⟨RA,hRA⟩:∃RA:List Asn,RA=[.blk wf.1 (frC wf f) 156,Sl.pgA wf.2 g]:=⟨_,rfl⟩
 have H0:Hp B w w1 (.blk b [.pointer (some ⟨y.pb,0,none⟩)] 88::BN y x s::(CQ y x s++(RA++dkL x s.d))):=by
  rw[hRA];exact H.perm (by(refine AC fun ff gg h0 hc ha hpm=>?_;simp only[ha,hc,h0];omega))
 clear H
 have mfr:∀{X Y:List Asn},Asn.blk wf.1 (frC wf f) 156∈X++(RA++Y):=mem_append_right _ (mem_append_left _ (by rw[hRA];exact .head _))
 have mpg:∀{X Y:List Asn},Sl.pgA wf.2 g∈X++(RA++Y):=mem_append_right _ (mem_append_left _ (by rw[hRA];exact .tail _ (.head _)))
 refine F8.mk (fun(q:Option Addr)(w':World)=>∃(eb:Nat)(x1:DW)(l1:LW),q=some ⟨eb,0,none⟩/\x1.b=x.b/\l1.b=y.lw.b/\x1.Ok (DD s f.pg.2).d/\Hp B w w' (.blk eb [.int .i64 (EM s f.pg.2)] 27::.blk b [.pointer (some ⟨y.pb,0,none⟩)] 88::BN y x s::(CQ {y with lw:=l1} x1 (DD s f.pg.2)++(RA++dkL x1 (DD s f.pg.2).d)))) ?hR ?hX
 case hX=>
  intro J hJ
  have asks:∀(w2:World)(L2:List Asn)(R:Ending->World->Prop),Hp B w w2 ((CQ y x s++dkL x s.d)++L2)->(∀w3 (x1:DW) (l1:LW),x1.b=x.b->l1.b=y.lw.b->x1.Ok (DD s f.pg.2).d->Hp B w w3 ((CQ {y with lw:=l1} x1 (DD s f.pg.2)++dkL x1 (DD s f.pg.2).d)++L2)->R (.returned (.int .i64 (EM s f.pg.2))) w3)->Du Tryz.prog (O5 y.jb) [.int .i64 (f.pg.2:Int)] w2 R:=by
   intro w2 L2 R K hk
   refine XH (ahead_spec y x s ok hlg fit hN f.pg.2 w2 K.std1) ?_
   rintro e w3 ⟨rfl,x1,l1,h1,h2,h3,H'⟩
   exact hk w3 x1 l1 h1 h2 h3 (K.useL H')
  refine⟨?_,?_,?_⟩
  ·refine⟨_,H0.ld (o:=0) (cs:=[.pointer (some ⟨y.pb,0,none⟩)]) EQ4 gPP (.head _) rfl,AA rfl ⟨_,H0.ld (o:=3) (cs:=BL y x s) EQ4 gFn (.tail _ (.head _)) rfl,AA rfl ⟨_,H0.ld (o:=1) (cs:=frC wf f) EQ4 gPG (.tail _ (.tail _ mfr)) rfl,?_⟩⟩⟩
   refine AL (Sl.OX hR (H0.drew.blk (.tail _ (.tail _ mpg)))) ?_
   rintro e w2 ⟨rfl,H'⟩
   have H2:=H0.drew.ext0 H'
   clear H'
   refine⟨_,rfl,H2.ld (o:=3) (cs:=BL y x s) EQ4 gFn (.tail _ (.head _)) rfl,H2.ld (o:=0) (cs:=[.pointer (some ⟨y.pb,0,none⟩)]) EQ4 gPP (.head _) rfl,?_⟩
   refine asks w2 (.blk b [.pointer (some ⟨y.pb,0,none⟩)] 88::BN y x s::RA) _ (H2.perm (by(refine AC fun ff gg h0 hc ha hpm=>?_;simp only[ha,hc,h0];omega))) ?_
   intro w3 x1 l1 hx1b hl1b hx1 H3
   refine⟨_,rfl,?_⟩
   intro eb w4 hn1
   have H4:=H3.new (cs:=[.int .i64 0]) EQ4 hn1
   refine Hp.st H4 EQ4 gEr rfl rfl (by simp) (cs':=[.int .i64 (EM s f.pg.2)]) rfl ?_
   intro w5 H5
   exact hJ _ _ ⟨eb,x1,l1,rfl,hx1b,hl1b,hx1,H5.perm (by(refine AC fun ff gg h0 hc ha hpm=>?_;simp only[ha,hc,h0];omega))⟩
  ·refine⟨_,H0.ld (o:=0) (cs:=[.pointer (some ⟨y.pb,0,none⟩)]) EQ4 gPP (.head _) rfl,AA rfl ⟨_,H0.ld (o:=3) (cs:=BL y x s) EQ4 gFn (.tail _ (.head _)) rfl,AA rfl ⟨_,H0.ld (o:=1) (cs:=frC wf f) EQ4 gPG (.tail _ (.tail _ mfr)) rfl,?_⟩⟩⟩
   refine AL (Sl.OX hR (H0.drew.blk (.tail _ (.tail _ mpg)))) ?_
   rintro e w2 ⟨rfl,H'⟩
   have H2:=H0.drew.ext0 H'
   clear H'
   refine⟨_,rfl,H2.ld (o:=3) (cs:=BL y x s) EQ4 gFn (.tail _ (.head _)) rfl,H2.ld (o:=0) (cs:=[.pointer (some ⟨y.pb,0,none⟩)]) EQ4 gPP (.head _) rfl,?_⟩
   intro eb w4 hn1
   have H4:=H2.new (cs:=[.int .i64 0]) EQ4 hn1
   refine⟨H4.ld (o:=3) (cs:=BL y x s) EQ4 gFn (.tail _ (.tail _ (.head _))) rfl,H4.ld (o:=0) (cs:=[.pointer (some ⟨y.pb,0,none⟩)]) EQ4 gPP (.tail _ (.head _)) rfl,?_⟩
   refine asks w4 (.blk eb [.int .i64 0] 27::.blk b [.pointer (some ⟨y.pb,0,none⟩)] 88::BN y x s::RA) _ (H4.perm (by(refine AC fun ff gg h0 hc ha hpm=>?_;simp only[ha,hc,h0];omega))) ?_
   intro w3 x1 l1 hx1b hl1b hx1 H3
   refine⟨_,rfl,?_⟩
   have H5:Hp B w w3 (.blk eb [.int .i64 0] 27::.blk b [.pointer (some ⟨y.pb,0,none⟩)] 88::BN y x s::(CQ {y with lw:=l1} x1 (DD s f.pg.2)++(RA++dkL x1 (DD s f.pg.2).d))):=H3.perm (by(refine AC fun ff gg h0 hc ha hpm=>?_;simp only[ha,hc,h0];omega))
   refine Hp.st H5 EQ4 gEr rfl rfl (by simp) (cs':=[.int .i64 (EM s f.pg.2)]) rfl ?_
   intro w5 H6
   exact hJ _ _ ⟨eb,x1,l1,rfl,hx1b,hl1b,hx1,H6⟩
  ·refine⟨_,H0.ld (o:=0) (cs:=[.pointer (some ⟨y.pb,0,none⟩)]) EQ4 gPP (.head _) rfl,AA rfl ⟨_,H0.ld (o:=3) (cs:=BL y x s) EQ4 gFn (.tail _ (.head _)) rfl,AA rfl ⟨_,H0.ld (o:=1) (cs:=frC wf f) EQ4 gPG (.tail _ (.tail _ mfr)) rfl,?_⟩⟩⟩
   intro eb w4 hn1
   have H4:=H0.drew.new (cs:=[.int .i64 0]) EQ4 hn1
   refine⟨H4.ld (o:=1) (cs:=frC wf f) EQ4 gPG (.tail _ (.tail _ (.tail _ mfr))) rfl,H4.ld (o:=3) (cs:=BL y x s) EQ4 gFn (.tail _ (.tail _ (.head _))) rfl,H4.ld (o:=0) (cs:=[.pointer (some ⟨y.pb,0,none⟩)]) EQ4 gPP (.tail _ (.head _)) rfl,?_⟩
   refine AL (Sl.OX hR (H4.blk (.tail _ (.tail _ (.tail _ mpg))))) ?_
   rintro e w2 ⟨rfl,H'⟩
   have H2:=H4.ext0 H'
   clear H'
   refine⟨_,rfl,H2.ld (o:=3) (cs:=BL y x s) EQ4 gFn (.tail _ (.tail _ (.head _))) rfl,H2.ld (o:=0) (cs:=[.pointer (some ⟨y.pb,0,none⟩)]) EQ4 gPP (.tail _ (.head _)) rfl,?_⟩
   refine asks w2 (.blk eb [.int .i64 0] 27::.blk b [.pointer (some ⟨y.pb,0,none⟩)] 88::BN y x s::RA) _ (H2.perm (by(refine AC fun ff gg h0 hc ha hpm=>?_;simp only[ha,hc,h0];omega))) ?_
   intro w3 x1 l1 hx1b hl1b hx1 H3
   refine⟨_,rfl,?_⟩
   have H5:Hp B w w3 (.blk eb [.int .i64 0] 27::.blk b [.pointer (some ⟨y.pb,0,none⟩)] 88::BN y x s::(CQ {y with lw:=l1} x1 (DD s f.pg.2)++(RA++dkL x1 (DD s f.pg.2).d))):=H3.perm (by(refine AC fun ff gg h0 hc ha hpm=>?_;simp only[ha,hc,h0];omega))
   refine Hp.st H5 EQ4 gEr rfl rfl (by simp) (cs':=[.int .i64 (EM s f.pg.2)]) rfl ?_
   intro w5 H6
   exact hJ _ _ ⟨eb,x1,l1,rfl,hx1b,hl1b,hx1,H6⟩
 clear H0 w1
 rintro q w1 ⟨eb,x1,l1,rfl,hx1b,hl1b,hx1,H⟩
 have fit1:=aheadR_fit s f.pg.2 fit
 have hlb:=hlg.1
 have hfl:s.lg.b.length/512<=195313:=by omega
 obtain⟨d1,hd1⟩:∃d1,d1=(Bg s f.pg.2).1:=⟨_,rfl⟩
 obtain⟨e1,he1⟩:∃e1,e1=EM s f.pg.2:=⟨_,rfl⟩
 have hd1':(DD s f.pg.2).d=d1:=hd1.symm
 rw[<- hd1]at fit1 hsz
 rw[hd1']at hx1
 rw[hd1',<- he1]at H
 obtain⟨RD,hRD⟩:∃RD:List Asn,RD=CQ {y with lw:=l1} x1 (DD s f.pg.2)++RA:=⟨_,rfl⟩
 have H1:Hp B w w1 (layA eb b y.pb (BL y x s) e1 x1 d1++RD):=by
  rw[hRD,layA];exact H.perm (by rw[BN];(refine AC fun ff gg h0 hc ha hpm=>?_;simp only[ha,hc,h0];omega))
 clear H
 have mf:∀{X:List Asn},Asn.blk wf.1 (frC wf f) 156∈X++RD:=mem_append_right _ (by rw[hRD,hRA];exact mem_append_right _ (.head _))
 have mg:∀{X:List Asn},Sl.pgA wf.2 g∈X++RD:=mem_append_right _ (by rw[hRD,hRA];exact mem_append_right _ (.tail _ (.head _)))
 refine⟨_,H1.ld (o:=0) (cs:=[.pointer (some ⟨y.pb,0,none⟩)]) EQ4 gPP (.tail _ (.head _)) rfl,AA rfl ⟨_,H1.ld (o:=0) (cs:=BL y x s) EQ4 gPD (.tail _ (.tail _ (.head _))) rfl,?_⟩⟩
 refine⟨_,H1.ld (o:=0) (cs:=[.pointer (some ⟨y.pb,0,none⟩)]) EQ4 gPP (.tail _ (.head _)) rfl,AA rfl ⟨_,H1.ld (o:=1) (cs:=BL y x s) EQ4 gStr (.tail _ (.tail _ (.head _))) rfl,?_⟩⟩
 have HD:Hp B w w1.drew (dkL x1 d1++(.blk eb [.int .i64 e1] 27::.blk b [.pointer (some ⟨y.pb,0,none⟩)] 88::.blk y.pb (BL y x s) 134::RD)):=H1.drew.perm (by rw[layA];(refine AC fun ff gg h0 hc ha hpm=>?_;simp only[ha,hc,h0];omega))
 have hsp:=Ic x1 d1 hx1 Aa w1.drew HD.std1
 rw[hx1b]at hsp
 refine AL hsp ?_
 rintro e w2 ⟨rfl,H'⟩
 have H2:=H1.drew.ext0 H'
 clear H' H1 HD hsp
 obtain⟨sz,hszn⟩:∃sz:Nat,d1.size Aa=(sz:Int):=⟨(d1.size Aa).toNat,by omega⟩
 have hwr:Et d1 e1 f.n g.bs=rowD g.bs (f.n*8) 8 0 (gapD (f.n*8-sz) sz (d1,e1)):=by rw[Et,hszn,Int.toNat_natCast]
 have hbl:g.bs.length=4096:=hR.ok.len
 rw[hszn]
 refine⟨_,rfl,?_⟩
 refine Ae.mk (fun m (i:Int) w'=>∃(k:Nat)(r:Dk×Int)(x2:DW)(M:Nat),m=f.n*8-k/\i=(k:Int)/\gapD (f.n*8-k) k r=gapD (f.n*8-sz) sz (d1,e1)/\x2.b=x.b/\x2.Ok r.1/\r.1.Fit M/\M+(f.n*8-k)<=N+195321+32768/\Hp B w w' (layA eb b y.pb (BL y x s) r.2 x2 r.1++RD)) (f.n*8-sz) ⟨sz,(d1,e1),x1,N+s.lg.b.length/512+8,rfl,rfl,rfl,hx1b,hx1,fit1,by omega,H2⟩ ?_
 clear H2 w1 w2
 rintro m i w1 next ⟨k,r,x2,M,rfl,rfl,hgap,hx2b,hx2,fit2,hM,H⟩ hnext
 have hpc0:(BL y x s)[0]? =some (.pointer (some ⟨x2.b,0,none⟩)):=by rw[hx2b];rfl
 refine AA rfl ⟨_,H.ld (o:=0) (cs:=frC wf f) EQ4 gInt mf rfl,AY.2 (by omega),AO (fun h1=>?_) (fun h1=>?_)⟩
 ·have hk:k<f.n*8:=by omega
  have hstep:gapD (f.n*8-k) k r=gapD (f.n*8-(k+1)) (k+1) (layD r k []):=by
   rw[show f.n*8-k=(f.n*8-(k+1))+1 by omega];rfl
  have hw:=MN eb b y.pb (BL y x s) r.2 x2 r.1 hx2 fit2 (by omega) hpc0 rfl k none 0 [] w1 H.std1 (fun W hW=>by intro j v hj;simp[bQ]at hj) (fun _=>rfl)
  refine AL hw ?_
  rintro e w2 ⟨rfl,x3,hx3b,hx3,H'⟩
  have H3:=H.useL H'
  refine⟨rfl,AY.2 (by omega),hnext (f.n*8-(k+1)) _ _ (by omega) ⟨k+1,layD r k [],x3,M+1,rfl,by omega,by rw[<- hstep,hgap],hx3b.trans hx2b,hx3,WG fit2 k [],by omega,H3⟩⟩
 ·have hgd:r=gapD (f.n*8-sz) sz (d1,e1):=by
   rw[<- hgap,show f.n*8-k=0 by omega];rfl
  rw[<- hgd]at hwr
  clear hnext hgap hgd
  refine AA rfl ⟨_,H.ld (o:=1) (cs:=frC wf f) EQ4 gPG mf rfl,?_⟩
  refine AL (Sl.UV wf.2 g w1 ⟨hR.ok,H.blk mg⟩) ?_
  rintro e w2 ⟨bb,rfl,H'⟩
  have H2:Hp B w w2 (layA eb b y.pb (BL y x s) r.2 x2 r.1++(.blk bb (bQ g.bs) 142::RD)):=(H.ext1 H').perm (by(refine AC fun ff gg h0 hc ha hpm=>?_;simp only[ha,hc,h0];omega))
  clear H H'
  refine⟨_,_,_,rfl,?_⟩
  refine Ae.mk (fun m (i:Int) w'=>∃(j:Nat)(r2:Dk×Int)(x3:DW)(M2:Nat),m=8-j/\j<=8/\i=(j:Int)/\rowD g.bs (f.n*8) (8-j) j r2=rowD g.bs (f.n*8) 8 0 r/\x3.b=x.b/\x3.Ok r2.1/\r2.1.Fit M2/\M2<=N+195321+32768+j/\Hp B w w' (layA eb b y.pb (BL y x s) r2.2 x3 r2.1++(.blk bb (bQ g.bs) 142::RD))) 8 ⟨0,r,x2,M,rfl,by omega,rfl,rfl,hx2b,hx2,fit2,by omega,H2⟩ ?_
  clear H2 w1 w2
  rintro m i w1 next ⟨j,r2,x3,M2,rfl,hj,rfl,hrow,hx3b,hx3,fit3,hM2,H⟩ hnext
  have mf2:∀{X:List Asn}{p:Asn},Asn.blk wf.1 (frC wf f) 156∈X++(p::RD):=mem_append_right _ (.tail _ (by rw[hRD,hRA];exact mem_append_right _ (.head _)))
  refine AO (fun h2=>?_) (fun h2=>?_)
  ·have hj8:j<8:=by omega
   have hpc3:(BL y x s)[0]? =some (.pointer (some ⟨x3.b,0,none⟩)):=by rw[hx3b];rfl
   have hstep:rowD g.bs (f.n*8) (8-j) j r2=rowD g.bs (f.n*8) (8-(j+1)) (j+1) (layD r2 (f.n*8+j) (Be g.bs j)):=by
    rw[show 8-j=(8-(j+1))+1 by omega];rfl
   have hcl:=Rj hbl hj8
   refine AA rfl ⟨_,H.ld (o:=0) (cs:=frC wf f) EQ4 gInt mf2 rfl,AY.2 (by omega),AY.2 (by omega),AY.2 (by omega),AY.2 (by omega),AY.2 (by omega),⟨by omega,by omega,by omega⟩,?_⟩
   have e1:Int.toNat ((j:Int)*512)=j*512:=by omega
   have e2:Int.toNat (((j:Int)+1)*512)-j*512=(Be g.bs j).length:=by omega
   have e3:(f.n:Int)*8+(j:Int)=((f.n*8+j:Nat):Int):=by omega
   rw[e1,e2,e3]
   have hw:=MN eb b y.pb (BL y x s) r2.2 x3 r2.1 hx3 fit3 (by omega) hpc3 rfl (f.n*8+j) (slA (some ⟨bb,0,none⟩) 4096 (j*512) 1) (4096-j*512) (Be g.bs j) w1.drew H.drew.std1 (fun W hW=>by
    have K:=H.drew.useL (M:=[]) ⟨hW,by simp,by simp,.nil⟩
    exact chunk8_cells (K.blk (.head _)).cells hbl hj8) (fun h=>by rw[slA]at h;split at h<;>cases h)
   refine AL hw ?_
   rintro e w2 ⟨rfl,x4,hx4b,hx4,H'⟩
   have H3:=H.drew.useL H'
   exact⟨rfl,AY.2 (by omega),hnext (8-(j+1)) _ _ (by omega) ⟨j+1,layD r2 (f.n*8+j) (Be g.bs j),x4,M2+1,rfl,by omega,by omega,by rw[<- hstep,hrow],hx4b.trans hx3b,hx4,WG fit3 _ _,by omega,H3⟩⟩
  ·have hj8:j=8:=by omega
   subst hj8
   have hr2:r2=Et d1 e1 f.n g.bs:=by rw[hwr,<- hrow];rfl
   have hE:DK s f g.bs=r2.2:=by rw[DK,<- hd1,<- he1,<- hr2]
   have hS:(s.wrote f g.bs).d=r2.1:=by rw[St.wrote,<- hd1,<- he1,<- hr2]
   clear hnext
   have hpc:BL {y with lw:=l1} x3 (s.wrote f g.bs)=BL y x s:=by simp[BL,St.wrote,DD,hx3b]
   have hdl:CQ {y with lw:=l1} x3 (s.wrote f g.bs)=CQ {y with lw:=l1} x1 (DD s f.pg.2):=by rw[CQ,CQ,hx3b,hx1b];rfl
   refine⟨_,AA rfl (H.ld (o:=0) (cs:=[.int .i64 r2.2]) EQ4 gEr (.head _) rfl),AO (fun h3=>?_) (fun h3=>?_)⟩
   ·have H4:Hp B w w1 (.blk wf.1 (frC wf f) 156::.blk eb [.int .i64 r2.2] 27::(.blk b [.pointer (some ⟨y.pb,0,none⟩)] 88::.blk bb (bQ g.bs) 142::(Sl.pgA wf.2 g::.blk y.pb (BL y x s) 134::(CQ {y with lw:=l1} x1 (DD s f.pg.2)++dkL x3 r2.1)))):=by
     rw[hRD,hRA,layA]at H
     exact H.perm (by(refine AC fun ff gg h0 hc ha hpm=>?_;simp only[ha,hc,h0];omega))
    refine AA rfl (Hp.st (o:=3) H4 EQ4 EN rfl rfl (by simp[frC]) (cs':=frC wf (f.wrote 0)) rfl ?_)
    clear H H4;intro w2 H
    refine⟨_,AA rfl (H.ld (o:=0) (cs:=[.int .i64 r2.2]) EQ4 gEr (.tail _ (.head _)) rfl),g,hR,by rw[hE],x3,l1,hx3b,hl1b,by rw[hS];exact hx3,?_⟩
    have H5:Hp B w w2 (Sl.pgA wf.2 g::(.blk wf.1 (frC wf (f.wrote 0)) 156::.blk y.pb (BL y x s) 134::(CQ {y with lw:=l1} x1 (DD s f.pg.2)++dkL x3 r2.1))):=(H.drop1.drop1.drop1).perm (by(refine AC fun ff gg h0 hc ha hpm=>?_;simp only[ha,hc,h0];omega))
    have H6:=Hp.NE (P:=f.pg) hR H5
    rw[wrL,BN,hpc,hdl,hS,hE,h3]
    exact H6.Aq
   ·refine⟨_,AA rfl (H.ld (o:=0) (cs:=[.int .i64 r2.2]) EQ4 gEr (.head _) rfl),g,hR,by rw[hE],x3,l1,hx3b,hl1b,by rw[hS];exact hx3,?_⟩
    have hfw:f.wrote r2.2=f:=by rw[Fr.wrote,if_neg h3]
    have H5:Hp B w w1 (.blk eb [.int .i64 r2.2] 27::.blk b [.pointer (some ⟨y.pb,0,none⟩)] 88::.blk bb (bQ g.bs) 142::(Sl.pgA wf.2 g::(.blk wf.1 (frC wf f) 156::.blk y.pb (BL y x s) 134::(CQ {y with lw:=l1} x1 (DD s f.pg.2)++dkL x3 r2.1)))):=by
     rw[hRD,hRA,layA]at H
     exact H.perm (by(refine AC fun ff gg h0 hc ha hpm=>?_;simp only[ha,hc,h0];omega))
    have H6:=Hp.NE (P:=f.pg) hR H5.drop.drop.drop
    rw[wrL,BN,hpc,hdl,hS,hE,hfw]
    exact H6.Aq
theorem Yr:Elt Tryz.prog 29 5 1 1:=FP (by kernel_rfl)
theorem Yz:Tryz.prog.underlying 29=some (.slice 5):=by kernel_rfl
theorem Zk:Tryz.prog.underlying 3=some (.int .i64):=by kernel_rfl
theorem gzU:zeroOf Tryz.prog 5=some (.int .u8 0):=by kernel_rfl
def zrow:List Value:=bQ (List.replicate 512 0)
theorem IU:zrow.length=512:=by rw[zrow,AQ,length_replicate]
theorem ZB(n:Nat):(Builtin.zeroCells (Value.int .u8 0).cells n).toList=bQ (List.replicate n 0):=by
 have e:(Value.int .u8 0).cells= #[.int .u8 0]:=rfl
 apply ext_getElem?
 intro i
 rw[Array.getElem?_toList,e,Builtin.zeroCells]
 by_cases h:i<n
 ·simp[h,bQ,Nat.mod_one]
 ·simp[h,bQ]
theorem zcells:(Builtin.zeroCells (Value.int .u8 0).cells 512).toList=zrow:=ZB 512
theorem Zi:Builtin.zeroCells (Value.int .u8 0).cells 512=zrow.toArray:=by rw[<- zcells]
theorem room_zero{w:World}(b sLen sCap:Nat)(hroom:sLen+512<=sCap)(hc:∀j,j<512->(w.cell? ⟨b,sLen+j,none⟩).isSome=true)(hf:∀j,j<512->w.frozen? ⟨b,sLen+j,none⟩=false):
  (Builtin.append_ #[29,3] 29 #[.slice (some ⟨b,0,none⟩) sLen sCap,.int .i64 512]).run Tryz.prog w=.ok (.slice (some ⟨b,0,none⟩) (sLen+512) sCap) (w.setCells b sLen zrow):=by
 obtain⟨hu,i,z,hi,hz,hs,hb,hzs⟩:=Yr
 have hz2:z=.int .u8 0:=by
  have:=gzU
  simp only[zeroOf,hi,hz,Option.some.injEq]at this
  exact this
 subst hz2
 have hst:=run_storeCells_cells (P:=Tryz.prog) b sLen zrow 0 w (fun j hj=>by rw[IU]at hj;rw[Nat.add_zero];exact hc j hj) (fun j hj=>by rw[IU]at hj;rw[Nat.add_zero];exact hf j hj) (fun u hu=>Eu _ u hu)
 simp only[Nat.add_zero]at hst
 have hw:IntKind.i64.wrap 512=512:=by decide
 have hA:∀w':World,(asInt (.int .i64 512)).run Tryz.prog w'=.ok 512 w':=fun _=>rfl
 simp[Builtin.append_,run_underlying hu,run_underlying Zk,sizeOf,typeInfo,zeroValue,hi,hz,hs,hb,hw,hroom,Zi,Addr.add_lit,hst,hA]
theorem grow_zero{w:World}(base:Option Addr)(sLen sCap:Nat)(olds:List Value)(hold:(Builtin.firstCells 1 sLen (.slice base sLen sCap)).run Tryz.prog w.drew=.ok olds.toArray w.drew)(hg:sCap<sLen+512)(hsm:sLen<=1000000):
  ∃nc,sLen+512<=nc/\nc<=maxLen/\(Builtin.append_ #[29,3] 29 #[.slice base sLen sCap,.int .i64 512]).run Tryz.prog w=.ok (.slice (some ⟨w.heap.size,0,none⟩) (sLen+512) nc) (w.drew.alloc (.cells ((olds++zrow).toArray++Builtin.zeroCells (Value.int .u8 0).cells (nc-(sLen+512))) 5)):=by
 obtain⟨hu,i,z,hi,hz,hs,hb,hzs⟩:=Yr
 have hz2:z=.int .u8 0:=by
  have:=gzU
  simp only[zeroOf,hi,hz,Option.some.injEq]at this
  exact this
 subst hz2
 have hw:IntKind.i64.wrap 512=512:=by decide
 have hA:∀w':World,(asInt (.int .i64 512)).run Tryz.prog w'=.ok 512 w':=fun _=>rfl
 have hn:¬(sLen+512<=sCap):=by omega
 have hfit:=growslice_fits (need:=sLen+512) (old:=sCap) (bytes:=i.bytes) hg (by rw[hb];omega)
 have h48':¬(281474976710656<Builtin.nextslicecap (sLen+512) sCap*i.bytes):=by omega
 rw[hb,Nat.mul_one]at h48'
 have hmx:IntKind.i64.max=9223372036854775807:=by decide
 refine⟨grownCap w (sLen+512) sCap 5,grownCap_ge w (sLen+512) sCap 5,grownCap_le_maxLen w (sLen+512) sCap 5 (by simp only[maxLen];omega),?_⟩
 have h63':¬(9223372036854775807<((sLen:Int)+max 512 0)):=by omega
 simp[Builtin.append_,run_underlying hu,run_underlying Zk,sizeOf,typeInfo,zeroValue,hi,hz,hs,hb,hw,hn,h63',h48',hmx,Question.forced,hold,newRow,grownCap,Zi,hA]
 congr 2
 apply Array.ext'
 simp only[Array.toList_append,append_assoc]
theorem app_zero{w:World}{a:Option Addr}{n c:Nat}{xs:List Value}(hown:Own w 0 5 1 a n c xs)(hn:n<=1000000):
  ∃a' c' w1,App Tryz.prog #[29,3] 29 w (.slice a n c) (.int .i64 512) (.slice a' (n+512) c') w1/\Own w1 0 5 1 a' (n+512) c' (xs++zrow)/\Chg (blks a) w w1/\∀k∈blks a',k∈blks a\/w.heap.size<=k:=by
 have hlen:(xs++zrow).length=(n+512)*1:=by rw[length_append,hown.1,IU];omega
 have grow:∀(hold:(Builtin.firstCells 1 n (.slice a n c)).run Tryz.prog w.drew=.ok xs.toArray w.drew),c<n+512->
   ∃a' c' w1,App Tryz.prog #[29,3] 29 w (.slice a n c) (.int .i64 512) (.slice a' (n+512) c') w1/\Own w1 0 5 1 a' (n+512) c' (xs++zrow)/\Chg (blks a) w w1/\∀k∈blks a',k∈blks a\/w.heap.size<=k:=by
  intro hold hg
  obtain⟨nc,hge,hcm,hr⟩:=grow_zero (w:=w) a n c xs hold hg hn
  refine⟨_,nc,_,hr,⟨hlen,.inr ⟨w.heap.size,_,_,rfl,Nat.zero_le _,Gm w.drew _,Thaw.zero _,hge,hcm,?_,?_⟩⟩,?_,?_⟩
  ·have h1:(Builtin.zeroCells (Value.int .u8 0).cells (nc-(n+512))).size=nc-(n+512):=by
    rw[<- Array.length_toList,ZB,AQ,length_replicate]
   rw[Array.size_append,h1,size_toArray,hlen];omega
  ·rw[<- hlen,Array.toList_append]
   exact List.take_left' rfl
  ·exact⟨rfl,rfl,rfl,by simp,fun k hk _=>alloc_old w.drew _ k hk⟩
  ·intro k hk;simp[blks]at hk;subst hk;exact .inr (Nat.le_refl _)
 rcases hown.2 with⟨rfl,rfl,rfl⟩|⟨g,cur,fz,rfl,hbg,hg,hf,hnc,hcm,hcs,htake⟩
 ·have hxs:xs=[]:=List.eq_nil_of_length_eq_zero (by simpa using hown.1)
  subst hxs
  exact grow (run_firstCells_none _ _ _ _ _) (by omega)
 ·by_cases hroom:n+512<=c
  ·have hfit:n+zrow.length<=cur.size:=by rw[IU];omega
   have hcell:∀j,j<512->(w.cell? ⟨g,n+j,none⟩).isSome=true:=by
    intro j hj
    have:n+j<cur.size:=by rw[IU]at hfit;omega
    simp[World.cell?,hg];omega
   have hr:=room_zero (w:=w) g n c hroom hcell (fun j hj=>by
    have:=hf (n+j) (by rw[IU]at hfit;omega)
    obtain⟨f1,f2⟩:=fz
    simpa [World.frozen?,hg]using this)
   have hcur:w.heap[g]? =some (.cells cur.toList.toArray 5 fz):=by simpa using hg
   obtain⟨h3,h4⟩:=IG zrow w cur.toList n hcur (by rw[Array.length_toList];exact hfit)
   refine⟨_,_,_,hr,⟨hlen,.inr ⟨g,_,fz,rfl,hbg,h3,?_,hroom,hcm,?_,?_⟩⟩,h4,fun k hk=>.inl hk⟩
   ·intro k hk
    refine hf k ?_
    rw[size_toArray,GI _ _ _ (by rw[Array.length_toList];exact hfit),Array.length_toList]at hk
    exact hk
   ·rw[size_toArray,GI _ _ _ (by rw[Array.length_toList];exact hfit),Array.length_toList];exact hcs
   ·rw[<- hlen]
    have:=Us zrow n cur.toList (by rw[Array.length_toList];exact hfit)
    rw[show(xs++zrow).length=n+zrow.length by rw[length_append,hown.1];omega]
    simp only[List.toList_toArray]
    rw[Nat.mul_one]at htake
    rw[this,htake]
  ·refine grow ?_ (by omega)
   refine run_firstCells_some _ _ _ _ _ _ xs hown.1 fun j v hj=>?_
   obtain⟨ad,had,hcell⟩:=hown.cells j v hj
   cases had
   simpa using hcell
theorem Hp.appZ{B:List Nat}{w0 w:World}{L:List Asn}{a:Option Addr}{n c:Nat}{xs:List Value}{G:Option Addr->Nat->Nat->World->Prop}(H:Hp B w0 w (.own 5 1 a n c xs::L))(hn:n<=1000000)
  (k:∀a' c' w1,Hp B w0 w1 (.own 5 1 a' (n+512) c' (xs++zrow)::L)->G a' (n+512) c' w1):
  ∃a' n' c' w1,App Tryz.prog #[29,3] 29 w (.slice a n c) (.int .i64 512) (.slice a' n' c') w1/\G a' n' c' w1:=by
 obtain⟨a',c',w1,h1,h2,h3,h4⟩:=app_zero (H.ok _ (.head _)) hn
 exact⟨a',_,c',w1,h1,k a' c' w1 (H.set h3 h2 h4)⟩
theorem X4{w:World}{e:TypeId}{sz n c:Nat}{a:Option Addr}{xs:List Value}(h:Own w 0 e sz a n c xs)(ha:a=none):n=0:=by
 rcases h.2 with⟨_,h,_⟩|⟨g,_,_,h,_⟩
 ·exact h
 ·rw[ha]at h;cases h
theorem gundBS:Tryz.prog.underlying 29=some (.slice 5):=by kernel_rfl
end Go.Proofs.YtdeebigmpffnbaaGreat
namespace Go.Proofs.YtdeebigmpffnbaaGreat.Sl
open Go Go.Vc
theorem be_two(x y:UInt8):be ((valN [x,y]:Nat):Int) 2=[x,y]:=by
 have hx:=x.toNat_lt
 have hy:=y.toNat_lt
 have e:be ((valN [x,y]:Nat):Int) 2=[bt ((valN [x,y]:Nat):Int) 1,bt ((valN [x,y]:Nat):Int) 0]:=rfl
 have h1:=KL ((valN [x,y]:Nat):Int) 1
 have h0:=KL ((valN [x,y]:Nat):Int) 0
 rw[NM]at h0 h1
 have p1:(2:Int)^(8*1)=256:=by decide
 have p0:(2:Int)^(8*0)=1:=by decide
 rw[p1]at h1
 rw[p0]at h0
 have a1:bt ((valN [x,y]:Nat):Int) 1=x:=by
  rw[NM]
  exact UInt8.toNat_inj.1 (by omega)
 have a0:bt ((valN [x,y]:Nat):Int) 0=y:=by
  rw[NM]
  exact UInt8.toNat_inj.1 (by omega)
 rw[e,a1,a0]
def twoP(bs:List UInt8)(i:Nat):Nat:=valN ((bs.drop i).take 2)
theorem YG{bs:List UInt8}{i:Nat}(h:i+2<=bs.length):be (twoP bs i:Int) 2=(bs.drop i).take 2:=by
 have e:(bs.drop i).take 2=[bs[i]'(by omega),bs[i+1]'(by omega)]:=by
  rw[List.drop_eq_getElem_cons (by omega),List.drop_eq_getElem_cons (i:=i+1) (by omega)];rfl
 rw[twoP,e,be_two]
theorem YH(bs:List UInt8)(i:Nat):twoP bs i<65536:=by
 have h:=JG ((bs.drop i).take 2)
 have hl:((bs.drop i).take 2).length<=2:=by rw[length_take];omega
 have:=Nat.pow_le_pow_right (n:=256) (by omega) hl
 rw[twoP]
 omega
def parse(bs:List UInt8):Pg:= {st:=bs.take 8,hdr:=twoP bs 8,dir:=(List.range 120).map fun k=>(twoP bs (10+4*k),twoP bs (10+4*k+2)),data:=bs.drop 490,many:=0,low:=0}
theorem U4(bs:List UInt8):∀n,10+4*n<=bs.length->dirB ((List.range n).map fun k=>(twoP bs (10+4*k),twoP bs (10+4*k+2)))=(bs.drop 10).take (4*n)
 |0,_=>by simp[dirB]
 |n+1,h=>by
  rw[List.range_succ,map_append,IB,U4 bs n (by omega)]
  have e:dirB (List.map (fun k=>(twoP bs (10+4*k),twoP bs (10+4*k+2))) [n])=(bs.drop (10+4*n)).take 2++(bs.drop (10+4*n+2)).take 2:=by
   rw[<- YG (by omega),<- YG (by omega)]
   simp[dirB]
  rw[e,show 4*(n+1)=4*n+(2+2) by omega,take_add,take_add,drop_drop,drop_drop,Nat.add_assoc]
theorem WY{bs:List UInt8}(h:bs.length=4096):(parse bs).Ok/\(parse bs).bs=bs:=by
 refine⟨⟨by simp[parse,h],YH _ _,by simp[parse],by simp[parse,h],by show 0<=120;omega,fun p hp=>?_,by show 0<=4096;omega⟩,?_⟩
 ·obtain⟨k,_,rfl⟩:=mem_map.1 hp
  exact⟨YH _ _,YH _ _⟩
 ·show bs.take 8++(be (twoP bs 8:Int) 2++(dirB ((List.range 120).map fun k=>(twoP bs (10+4*k),twoP bs (10+4*k+2)))++bs.drop 490))=bs
  rw[YG (by omega),U4 bs 120 (by omega)]
  have e1:bs=bs.take 8++bs.drop 8:=(take_append_drop 8 bs).symm
  have e2:bs.drop 8=(bs.drop 8).take 2++bs.drop 10:=by
   have:=(take_append_drop 2 (bs.drop 8)).symm
   rw[drop_drop]at this;exact this
  have e3:bs.drop 10=(bs.drop 10).take 480++bs.drop 490:=by
   have:=(take_append_drop 480 (bs.drop 10)).symm
   rw[drop_drop]at this;exact this
  rw[show 4*120=480 by omega,<- e3,<- e2,<- e1]
def Ih(g:Pg):Nat->Nat->Recs->Option Recs
 |0,_,L=>some L
 |m+1,k,L=>if atOf g k=0 then Ih g m (k+1) L else if atOf g k<10\/4096<atOf g k+lenOf g k then none else
   let r:=aput L (k:Int) ((g.bs.drop (atOf g k)).take (lenOf g k))
   if r.2=0 then Ih g m (k+1) r.1 else none
def Jh(bs:List UInt8):Option (Recs×Nat):=
 let g:=parse bs
 if 120<g.hdr\/¬Eo (num g.st)then none else(Ih g g.hdr 0 []).map fun L=>(L,(num g.st).toNat)
theorem Qk(bb c0:Nat)(bs:List UInt8)(hbl0:bs.length=4096)(w:World)(h:Cells w (some ⟨bb,0,none⟩) (bQ bs))(hc0:4096<=c0):
  Calls Tryz.prog 116 #[.slice (some ⟨bb,0,none⟩) 4096 c0] w fun e w'=>(Jh bs=none/\e=.returned (.tuple #[.pointer none,.int .i64 112])/\Hp [] w w' [])\/
   ∃P b' g',Jh bs=some P/\e=.returned (.tuple #[.pointer (some ⟨b',0,none⟩),.int .i64 0])/\Rep g' P.1 P.2/\Hp [] w w' [pgA b' g']:=by
 obtain⟨hok,hbs⟩:=WY hbl0
 have hlp:Jh bs=if 120<(parse bs).hdr\/¬Eo (num (parse bs).st)then none else(Ih (parse bs) (parse bs).hdr 0 []).map fun L=>(L,(num (parse bs).st).toNat):=rfl
 generalize parse bs=g at hok hbs hlp
 rw[hlp]
 clear hlp
 subst hbs
 apply load.ok
 unfold load.vc
 have H:=Hp.start w
 have hmax:maxLen=9223372036854775807:=by simp[maxLen]
 have hbl:(bQ g.bs).length=4096:=by rw[AQ,hok.len]
 (intro _ _ hn;replace H:=H.new EQ4 hn;clear hn)
 (intro _ _ hn;replace H:=H.new EQ4 hn;clear hn)
 (intro _ _ hn;replace H:=H.new EQ4 hn;clear hn)
 rename_i b0 _ b1 _ b2 _
 ((repeat apply Exists.intro);first|refine⟨H.ld EQ4 (by first|exact scl3|exact A7|exact FY|exact Ho) (by repeat first|exact .head _|refine .tail _ ?_) rfl,?_⟩|refine⟨H.ldA EQ4 (by first|exact CY|exact Ci) (by repeat first|exact .head _|refine .tail _ ?_) rfl rfl,?_⟩)
 refine Aw (fun hn=>absurd rfl hn) (fun _=>?_)
 rw[zl54]
 (intro _ _ hn;replace H:=H.new EQ4 hn;clear hn)
 rename_i b3 _
 ((repeat apply Exists.intro);first|refine⟨H.ld EQ4 (by first|exact scl3|exact A7|exact FY|exact Ho) (by repeat first|exact .head _|refine .tail _ ?_) rfl,?_⟩|refine⟨H.ldA EQ4 (by first|exact CY|exact Ci) (by repeat first|exact .head _|refine .tail _ ?_) rfl rfl,?_⟩)
 replace H:=H.drew
 have hbb:=h.chg H.chg (by simp)
 refine Hp.cpy (o:=0) (n:=4096) (m:=4096) H EQ4 PO scl5.size (Cells.src (n:=4096) PO hbb (by rw[hbl]) (Eu _) (fun h=>by cases h)) (by omega) (by rw[(WM (by omega)).clen];omega) ?_
 clear H
 intro w5 H
 obtain⟨gr,hgr⟩:∃gr:Pg,gr= {g with many:=0,low:=0}:=⟨_,rfl⟩
 have okr:gr.Ok:=by rw[hgr];exact⟨hok.st,hok.hdr,hok.dir,hok.data,by show 0<=120;omega,hok.ent,by show 0<=4096;omega⟩
 have hraw:over (bQ g.bs) 0 (gZ 0).cells=gr.cells:=by
  have:=J3 (bQ g.bs) [] (bQ (gZ 0).bs) [.int .i64 ((0:Nat):Int),.int .i64 ((0:Nat):Int)] (by rw[hbl,AQ,(WM (by omega)).len])
  rw[hgr]
  exact this
 rw[hraw]at H
 refine AL (NQ b3 gr 8 (by omega) _ (pgOf okr H EQ4 (.head _))) ?_
 rintro e w6 ⟨rfl,H'⟩;replace H:=H.ext0 H';clear H'
 refine⟨_,rfl,?_⟩
 have h8:(valN ((gr.bs.drop 8).take 2):Int)=(g.hdr:Int):=by
  have e1:gr.bs.drop 8=be (g.hdr:Int) 2++(dirB g.dir++g.data):=by
   rw[hgr]
   show(g.st++(be (g.hdr:Int) 2++(dirB g.dir++g.data))).drop 8=_
   exact drop_left _ _ _ hok.st
  rw[e1,take_left _ _ 2 (AU _ 2)]
  have:=hok.hdr
  exact Dj (by omega) (by omega)
 rw[h8]
 refine Hp.st H EQ4 scl3 rfl rfl (by rw[okr.clen];omega) (Pg.Ri okr _) ?_
 clear H
 intro w7 H
 obtain⟨g2,hg2⟩:∃g2:Pg,g2= {gr with many:=g.hdr}:=⟨_,rfl⟩
 rw[<- hg2]at H
 have hbs2:g2.bs=g.bs:=by rw[hg2,hgr];rfl
 have hst2:g2.st=g.st:=by rw[hg2,hgr]
 have hat2:∀k,atOf g2 k=atOf g k:=fun k=>by rw[hg2,hgr];rfl
 have hln2:∀k,lenOf g2 k=lenOf g k:=fun k=>by rw[hg2,hgr];rfl
 have hm2:g2.many=g.hdr:=by rw[hg2]
 have hmc:g2.cells[4096]? =some (.int .i64 (g.hdr:Int)):=by
  rw[hg2,Pg.cells]
  have hl:({gr with many:=g.hdr}:Pg).bs.length=4096:=okr.len
  rw[List.getElem?_append_right (by rw[AQ,hl];exact Nat.le_refl _),AQ,hl];rfl
 refine AL (new_any _) ?_
 rintro e w8 ⟨p,rfl,H'⟩;replace H:=H.ext1 H';clear H'
 refine⟨_,rfl,?_⟩
 replace H:Hp [] w w8 [pgA b3 g2,pgA p (gZ 4096),.blk b2 [.int .i64 0] 27,.blk b1 [.pointer none] 99,.blk b0 [.slice (some ⟨bb,0,none⟩) 4096 c0] 29]:=by((try dsimp only[cons_append,nil_append]);(try dsimp only[cons_append,nil_append]at H);refine Hp.perm H ?_;(repeat(apply BH;(focus first|exact Bq|exact Bo|exact Bv|exact Bi|exact Bz|exact CG|exact CB|exact perm_p7|exact perm_p8|exact perm_p9)));exact List.Perm.refl _)
 (intro _ _ hn;replace H:=H.new EQ4 hn;clear hn)
 rename_i b4 _
 ((first|(apply Hp.st;(case H=>first|exact H|exact H.Aq|exact H.BF|exact H.BM|exact H.Bc|exact H.Bh|exact H.Bj|exact H.pull7);(case e=>exact⟨rfl,rfl,rfl,rfl⟩);(case S=>exact(by first|exact scl3|exact A7|exact FY|exact Ho));(case hv=>exact rfl);(case h1=>exact rfl);(case ho=>exact Nat.le_of_ble_eq_true rfl);(case hc=>exact rfl))|(apply Hp.stA;(case H=>first|exact H|exact H.Aq|exact H.BF|exact H.BM|exact H.Bc|exact H.Bh|exact H.Bj|exact H.pull7);(case e=>exact⟨rfl,rfl,rfl,rfl⟩);(case S=>exact(by first|exact CY|exact Ci));(case hn=>exact rfl);(case h1=>exact rfl);(case ho=>exact Nat.le_of_ble_eq_true rfl);(case hc=>exact rfl)));clear H;intro _ H;(try simp only[over,set_cons_zero,set_cons_succ]at H))
 rename_i w88
 refine⟨_,H.drew.ld (o:=4096) (cs:=g2.cells) EQ4 scl3 (by repeat first|exact .head _|refine .tail _ ?_) hmc,?_⟩
 refine AO (fun h0=>?_) (fun h0=>?_)
 ·replace H:=H.drew
  replace H:Hp [] w w88.drew ([.blk b1 [.pointer none] 99,.blk b2 [.int .i64 0] 27]++[pgA b3 g2,pgA p (gZ 4096),.blk b4 [.pointer (some ⟨p,0,none⟩)] 99,.blk b0 [.slice (some ⟨bb,0,none⟩) 4096 c0] 29]):=by((try dsimp only[cons_append,nil_append]);(try dsimp only[cons_append,nil_append]at H);refine Hp.perm H ?_;(repeat(apply BH;(focus first|exact Bq|exact Bo|exact Bv|exact Bi|exact Bz|exact CG|exact CB|exact perm_p7|exact perm_p8|exact perm_p9)));exact List.Perm.refl _)
  simp only[cons_append,nil_append]at H
  refine Hp.st H EQ4 A7 rfl rfl (by simp) rfl ?_
  clear H
  intro w13 H
  replace H:=H.Aq
  refine Hp.st H EQ4 FY rfl rfl (by simp) rfl ?_
  clear H
  intro w14 H
  ((repeat apply Exists.intro);first|refine⟨H.ld EQ4 (by first|exact scl3|exact A7|exact FY|exact Ho) (by repeat first|exact .head _|refine .tail _ ?_) rfl,?_⟩|refine⟨H.ldA EQ4 (by first|exact CY|exact Ci) (by repeat first|exact .head _|refine .tail _ ?_) rfl rfl,?_⟩)
  ((repeat apply Exists.intro);first|refine⟨H.ld EQ4 (by first|exact scl3|exact A7|exact FY|exact Ho) (by repeat first|exact .head _|refine .tail _ ?_) rfl,?_⟩|refine⟨H.ldA EQ4 (by first|exact CY|exact Ci) (by repeat first|exact .head _|refine .tail _ ?_) rfl rfl,?_⟩)
  exact .inl ⟨if_pos (.inl (by omega)),rfl,H.drop.drop.drop.drop.drop.drop⟩
 have hml:g.hdr<=120:=by omega
 have ok2:g2.Ok:=by rw[hg2];exact⟨okr.st,okr.hdr,okr.dir,okr.data,hml,okr.ent,okr.low⟩
 ((repeat apply Exists.intro);first|refine⟨H.ld EQ4 (by first|exact scl3|exact A7|exact FY|exact Ho) (by repeat first|exact .head _|refine .tail _ ?_) rfl,?_⟩|refine⟨H.ldA EQ4 (by first|exact CY|exact Ci) (by repeat first|exact .head _|refine .tail _ ?_) rfl rfl,?_⟩)
 refine AL (Pv b3 g2 _ (pgOf ok2 H EQ4 (by repeat first|exact .head _|refine .tail _ ?_))) ?_
 rintro e w9 ⟨rfl,H'⟩;replace H:=H.drew.ext0 H';clear H'
 rw[hst2]
 refine⟨_,rfl,?_⟩
 refine⟨H.ld EQ4 A7 (by repeat first|exact .head _|refine .tail _ ?_) rfl,?_⟩
 replace H:Hp [] w w9 (pgA p (gZ 4096)::[pgA b3 g2,.blk b4 [.pointer (some ⟨p,0,none⟩)] 99,.blk b2 [.int .i64 0] 27,.blk b1 [.pointer none] 99,.blk b0 [.slice (some ⟨bb,0,none⟩) 4096 c0] 29]):=by((try dsimp only[cons_append,nil_append]);(try dsimp only[cons_append,nil_append]at H);refine Hp.perm H ?_;(repeat(apply BH;(focus first|exact Bq|exact Bo|exact Bv|exact Bi|exact Bz|exact CG|exact CB|exact perm_p7|exact perm_p8|exact perm_p9)));exact List.Perm.refl _)
 refine AL (ND Vz (H.ok _ (.head _)) (num g.st)) ?_
 rintro e w10 ⟨rfl,g3,hR3,H'⟩;replace H:=Hp.FO (a:=pgA p _) H H';clear H'
 refine⟨_,rfl,?_⟩
 refine BI (fun h0=>?_) (fun h0=>?_)
 ·have hns:¬Eo (num g.st):=of_decide_eq_false h0
  replace H:Hp [] w w10 ([.blk b1 [.pointer none] 99,.blk b2 [.int .i64 0] 27]++[pgA b3 g2,pgA p g3,.blk b4 [.pointer (some ⟨p,0,none⟩)] 99,.blk b0 [.slice (some ⟨bb,0,none⟩) 4096 c0] 29]):=by((try dsimp only[cons_append,nil_append]);(try dsimp only[cons_append,nil_append]at H);refine Hp.perm H ?_;(repeat(apply BH;(focus first|exact Bq|exact Bo|exact Bv|exact Bi|exact Bz|exact CG|exact CB|exact perm_p7|exact perm_p8|exact perm_p9)));exact List.Perm.refl _)
  simp only[cons_append,nil_append]at H
  refine Hp.st H EQ4 A7 rfl rfl (by simp) rfl ?_
  clear H
  intro w13 H
  replace H:=H.Aq
  refine Hp.st H EQ4 FY rfl rfl (by simp) rfl ?_
  clear H
  intro w14 H
  ((repeat apply Exists.intro);first|refine⟨H.ld EQ4 (by first|exact scl3|exact A7|exact FY|exact Ho) (by repeat first|exact .head _|refine .tail _ ?_) rfl,?_⟩|refine⟨H.ldA EQ4 (by first|exact CY|exact Ci) (by repeat first|exact .head _|refine .tail _ ?_) rfl rfl,?_⟩)
  ((repeat apply Exists.intro);first|refine⟨H.ld EQ4 (by first|exact scl3|exact A7|exact FY|exact Ho) (by repeat first|exact .head _|refine .tail _ ?_) rfl,?_⟩|refine⟨H.ldA EQ4 (by first|exact CY|exact Ci) (by repeat first|exact .head _|refine .tail _ ?_) rfl rfl,?_⟩)
  exact .inl ⟨if_pos (.inr hns),rfl,H.drop.drop.drop.drop.drop.drop⟩
 have hoks:Eo (num g.st):=of_decide_eq_true h0
 rw[cu,if_pos hoks]at hR3
 obtain⟨stamp,hstamp⟩:∃stamp,stamp=(num g.st).toNat:=⟨_,rfl⟩
 rw[<- hstamp]at hR3
 rw[if_neg (fun h=>h.elim (fun h=>by omega) (fun h=>h hoks)),<- hstamp]
 replace H:Hp [] w w10 [pgA b3 g2,pgA p g3,.blk b4 [.pointer (some ⟨p,0,none⟩)] 99,.blk b2 [.int .i64 0] 27,.blk b1 [.pointer none] 99,.blk b0 [.slice (some ⟨bb,0,none⟩) 4096 c0] 29]:=by((try dsimp only[cons_append,nil_append]);(try dsimp only[cons_append,nil_append]at H);refine Hp.perm H ?_;(repeat(apply BH;(focus first|exact Bq|exact Bo|exact Bv|exact Bi|exact Bz|exact CG|exact CB|exact perm_p7|exact perm_p8|exact perm_p9)));exact List.Perm.refl _)
 refine⟨_,_,_,rfl,⟨_,_,Tryz.func76,rfl⟩,?_⟩
 refine I9 b3 g.hdr (fun _ _=>g2) (fun k (x:Pg×Recs)=>[pgA b3 g2,pgA p x.1,.blk b4 [.pointer (some ⟨p,0,none⟩)] 99,.blk b2 [.int .i64 0] 27,.blk b1 [.pointer none] 99,.blk b0 [.slice (some ⟨bb,0,none⟩) 4096 c0] 29]) (fun k x=>k<=g.hdr/\Rep x.1 x.2 stamp/\Ih g (g.hdr-k) k x.2=Ih g g.hdr 0 []) (fun _:Unit=>[.blk b1 [.pointer none] 99,.blk b2 [.int .i64 112] 27]) (fun _=>Ih g g.hdr 0 []=none) (g3,[])
  ⟨by omega,hR3,rfl⟩ H
  (fun k x w' T _ H=>⟨pgOf ok2 H EQ4 (.head _),hm2⟩) (fun k x hk hx h0=>⟨x,⟨by omega,hx.2.1,by
   rw[hat2]at h0
   rw[<- hx.2.2,show g.hdr-k=(g.hdr-(k+1))+1 by omega,Ih,if_pos h0]⟩,rfl⟩) ?_ ?_ ?_
 ·clear H
  rintro k ⟨x,L⟩ hk ⟨_,hx,hL⟩ h0 w' T0 T1 begin kn kr kx _ hbeg hkn hkr
  refine hbeg _ fun w2 H=>?_
  simp only[cons_append,nil_append]at H
  dsimp only at hx hL h0
  rw[hat2]at h0
  have he:=hok.ent
  rw[show g.hdr-k=(g.hdr-(k+1))+1 by omega,Ih,if_neg (by omega)]at hL
  have hentk:atOf g k<65536/\lenOf g k<65536:=by
   have hk2:k<g.dir.length:=by rw[hok.dir];omega
   have:=he _ (getElem_mem hk2)
   simp only[atOf,lenOf,getD_eq_getElem?_getD,List.getElem?_eq_getElem hk2,Option.getD_some]
   exact this
  refine AL (ML b3 g2 k (by omega) _ (pgOf ok2 H EQ4 (.head _))) ?_
  rintro e w4 ⟨rfl,H'⟩;replace H:=H.ext0 H';clear H'
  rw[hat2,hln2]
  refine⟨_,_,rfl,?_⟩
  have stop:∀w5 (xx:Pg),Hp [] w w5 (pgA b3 g2::pgA p xx::.blk b4 [.pointer (some ⟨p,0,none⟩)] 99::.blk b2 [.int .i64 0] 27::.blk b1 [.pointer none] 99::.blk b0 [.slice (some ⟨bb,0,none⟩) 4096 c0] 29::T1)->Ih g g.hdr 0 []=none->
    ∃w6,Vc.St Tryz.prog 99 w5 ⟨b1,0,none⟩ (.pointer none) w6/\∃w7,Vc.St Tryz.prog 27 w6 ⟨b2,0,none⟩ (.int .i64 112) w7/\kr w7:=fun w5 xx H hn=>by
   replace H:Hp [] w w5 (.blk b1 [.pointer none] 99::.blk b2 [.int .i64 0] 27::pgA b3 g2::pgA p xx::.blk b4 [.pointer (some ⟨p,0,none⟩)] 99::.blk b0 [.slice (some ⟨bb,0,none⟩) 4096 c0] 29::T1):=by((try dsimp only[cons_append,nil_append]);(try dsimp only[cons_append,nil_append]at H);refine Hp.perm H ?_;(repeat(apply BH;(focus first|exact Bq|exact Bo|exact Bv|exact Bi|exact Bz|exact CG|exact CB|exact perm_p7|exact perm_p8|exact perm_p9)));exact List.Perm.refl _)
   refine Hp.st H EQ4 A7 rfl rfl (by simp) rfl ?_
   clear H
   intro w13 H
   replace H:=H.Aq
   refine Hp.st H EQ4 FY rfl rfl (by simp) rfl ?_
   clear H
   intro w14 H
   replace H:=H.Aq
   exact hkr _ () hn H.del2.del2.del2.del2
  refine AO (fun h1=>stop _ x H.drew (by rw[<- hL,if_pos (.inl (by omega))])) (fun h1=>?_)
  refine⟨AY.2 (by omega),AO (fun h2=>stop _ x H.drew (by rw[<- hL,if_pos (.inr (by omega))])) (fun h2=>?_)⟩
  ((repeat apply Exists.intro);first|refine⟨H.ld EQ4 (by first|exact scl3|exact A7|exact FY|exact Ho) (by repeat first|exact .head _|refine .tail _ ?_) rfl,?_⟩|refine⟨H.ldA EQ4 (by first|exact CY|exact Ci) (by repeat first|exact .head _|refine .tail _ ?_) rfl rfl,?_⟩)
  ((repeat apply Exists.intro);first|refine⟨H.ld EQ4 (by first|exact scl3|exact A7|exact FY|exact Ho) (by repeat first|exact .head _|refine .tail _ ?_) rfl,?_⟩|refine⟨H.ldA EQ4 (by first|exact CY|exact Ci) (by repeat first|exact .head _|refine .tail _ ?_) rfl rfl,?_⟩)
  have e1:Int.toNat (atOf g k:Int)=atOf g k:=by omega
  have e2:Int.toNat ((atOf g k:Int)+(lenOf g k:Int))=atOf g k+lenOf g k:=by omega
  rw[if_neg (by omega)]at hL
  obtain⟨s,hs⟩:∃s,s=(g.bs.drop (atOf g k)).take (lenOf g k):=⟨_,rfl⟩
  rw[<- hs]at hL
  have hsl:s.length=lenOf g k:=by rw[hs,length_take,length_drop,hbl0];omega
  refine⟨AY.2 (by omega),⟨by omega,by omega,by omega⟩,⟨s.toArray⟩,?_,?_⟩
  ·rw[e1,e2,show atOf g k+lenOf g k-atOf g k=s.length by omega]
   have hcl:Cells w4 (some ⟨bb,0,none⟩) (bQ g.bs):=h.chg H.chg (by simp)
   have hc2:=(hcl.slA (c:=c0) (i:=atOf g k) (by omega)).take s.length
   have hrec:((bQ g.bs).drop (atOf g k)).take s.length=bQ s:=by
    rw[hsl,hs]
    simp[bQ,map_drop,map_take]
   rw[hrec]at hc2
   exact b2s PO und5 und9 (by rw[Di];exact hc2) (by rw[QC])
  have hsl2:s.length<=maxLen:=by omega
  replace H:Hp [] w w4 (pgA p x::pgA b3 g2::.blk b4 [.pointer (some ⟨p,0,none⟩)] 99::.blk b2 [.int .i64 0] 27::.blk b1 [.pointer none] 99::.blk b0 [.slice (some ⟨bb,0,none⟩) 4096 c0] 29::T1):=by((try dsimp only[cons_append,nil_append]);(try dsimp only[cons_append,nil_append]at H);refine Hp.perm H ?_;(repeat(apply BH;(focus first|exact Bq|exact Bo|exact Bv|exact Bi|exact Bz|exact CG|exact CB|exact perm_p7|exact perm_p8|exact perm_p9)));exact List.Perm.refl _)
  refine AL (X0 p x L stamp hx (k:Int) s _ (H.drew.ok _ (.head _))) ?_
  rintro e w5 ⟨rfl,x',hx',H'⟩;replace H:=Hp.FO (a:=pgA p _) H.drew H';clear H'
  refine⟨_,rfl,Aw (fun hz=>?_) (fun hz=>?_)⟩
  ·exact stop _ x' (by((try dsimp only[cons_append,nil_append]);(try dsimp only[cons_append,nil_append]at H);refine Hp.perm H ?_;(repeat(apply BH;(focus first|exact Bq|exact Bo|exact Bv|exact Bi|exact Bz|exact CG|exact CB|exact perm_p7|exact perm_p8|exact perm_p9)));exact List.Perm.refl _)) (by rw[<- hL];simp only;rw[if_neg hz])
  ·simp only at hL
   rw[if_pos hz]at hL
   exact hkn _ (x',(aput L (k:Int) s).1) ⟨by omega,hx',hL⟩ (by((try dsimp only[cons_append,nil_append]);(try dsimp only[cons_append,nil_append]at H);refine Hp.perm H ?_;(repeat(apply BH;(focus first|exact Bq|exact Bo|exact Bv|exact Bi|exact Bz|exact CG|exact CB|exact perm_p7|exact perm_p8|exact perm_p9)));exact List.Perm.refl _))
 ·clear H
  rintro⟨x,L⟩ D w' ⟨_,hx,hL⟩ H
  simp only[cons_append,nil_append]at H
  dsimp only at hx hL H
  rw[Nat.sub_self]at hL
  ((repeat apply Exists.intro);first|refine⟨H.ld EQ4 (by first|exact scl3|exact A7|exact FY|exact Ho) (by repeat first|exact .head _|refine .tail _ ?_) rfl,?_⟩|refine⟨H.ldA EQ4 (by first|exact CY|exact Ci) (by repeat first|exact .head _|refine .tail _ ?_) rfl rfl,?_⟩)
  replace H:Hp [] w w' [.blk b1 [.pointer none] 99,.blk b2 [.int .i64 0] 27,pgA p x,objA D (.deferred (some []))]:=by
   have H:Hp [] w w' ([.blk b1 [.pointer none] 99,.blk b2 [.int .i64 0] 27,pgA p x,objA D (.deferred (some [])),pgA b3 g2,.blk b4 [.pointer (some ⟨p,0,none⟩)] 99,.blk b0 [.slice (some ⟨bb,0,none⟩) 4096 c0] 29]):=by((try dsimp only[cons_append,nil_append]);(try dsimp only[cons_append,nil_append]at H);refine Hp.perm H ?_;(repeat(apply BH;(focus first|exact Bq|exact Bo|exact Bv|exact Bi|exact Bz|exact CG|exact CB|exact perm_p7|exact perm_p8|exact perm_p9)));exact List.Perm.refl _)
   exact H.del4.del4.del4
  refine Hp.st H EQ4 A7 rfl rfl (by simp) rfl ?_
  clear H
  intro w3 H
  replace H:=H.Aq
  refine Hp.st H EQ4 FY rfl rfl (by simp) rfl ?_
  clear H
  intro w4 H
  refine Hp.shut H.BM fun w5 H=>?_
  ((repeat apply Exists.intro);first|refine⟨H.ld EQ4 (by first|exact scl3|exact A7|exact FY|exact Ho) (by repeat first|exact .head _|refine .tail _ ?_) rfl,?_⟩|refine⟨H.ldA EQ4 (by first|exact CY|exact Ci) (by repeat first|exact .head _|refine .tail _ ?_) rfl rfl,?_⟩)
  ((repeat apply Exists.intro);first|refine⟨H.ld EQ4 (by first|exact scl3|exact A7|exact FY|exact Ho) (by repeat first|exact .head _|refine .tail _ ?_) rfl,?_⟩|refine⟨H.ldA EQ4 (by first|exact CY|exact Ci) (by repeat first|exact .head _|refine .tail _ ?_) rfl rfl,?_⟩)
  exact .inr ⟨(L,stamp),p,x,by rw[<- hL];rfl,rfl,hx,H.drop.drop⟩
 ·clear H
  rintro _ D w' hn H
  simp only[cons_append,nil_append]at H
  refine Hp.shut H.BF fun w5 H=>?_
  ((repeat apply Exists.intro);first|refine⟨H.ld EQ4 (by first|exact scl3|exact A7|exact FY|exact Ho) (by repeat first|exact .head _|refine .tail _ ?_) rfl,?_⟩|refine⟨H.ldA EQ4 (by first|exact CY|exact Ci) (by repeat first|exact .head _|refine .tail _ ?_) rfl rfl,?_⟩)
  ((repeat apply Exists.intro);first|refine⟨H.ld EQ4 (by first|exact scl3|exact A7|exact FY|exact Ho) (by repeat first|exact .head _|refine .tail _ ?_) rfl,?_⟩|refine⟨H.ldA EQ4 (by first|exact CY|exact Ci) (by repeat first|exact .head _|refine .tail _ ?_) rfl rfl,?_⟩)
  exact .inl ⟨by rw[hn];rfl,rfl,H.drop.drop⟩
end Go.Proofs.YtdeebigmpffnbaaGreat.Sl
namespace Go.Proofs.YtdeebigmpffnbaaGreat
open Go Go.Vc Go.Vault Go.Redo
def rdF(d:Dk)(n:Nat):Nat->Nat->List UInt8->List UInt8×Int
 |0,_,b=>(b,0)
 |m+1,k,b=>
  let r:=d.read Aa ((n*8+k:Nat):Int)
  if r.2=0 then rdF d n m (k+1) (b++r.1)else if r.2=91 then rdF d n m (k+1) (b++List.replicate 512 0)else(b,r.2)
def EG(d:Dk)(n:Nat):Option AP×Int:=
 let r:=rdF d n 8 0 []
 if r.2=0 then match Sl.Jh r.1 with
  |some P=>(some P,0)
  |none=>(none,112)
 else(none,r.2)
theorem readP_none{d:Dk}{n:Nat}(h:(EG d n).1=none):(EG d n).2≠0:=by
 rw[EG]at h⊢
 split at h
 ·next h0=>
  rw[if_pos h0]
  split at h
  ·cases h
  ·simp
 ·next h0=>rw[if_neg h0];exact h0
theorem read_len{d:Dk}(hok:d.Ok){name:ByteArray}{i:Int}(h:(d.read name i).2=0):(d.read name i).1.length=512:=by
 rw[Dk.read]at h⊢
 split at h
 ·cases h
 ·next h0=>
  rw[if_neg h0]
  split at h
  ·cases h
  ·next k hk=>
   split at h
   ·cases h
   ·next h1=>
    rw[if_neg h1]
    dsimp only
    have hi:i.toNat<(d.file k).now.length:=by
     have h2:¬(d.len k:Int)<=i:=fun h=>h1 (.inr h)
     have h3:¬i<0:=fun h=>h1 (.inl h)
     have h4:d.len k=(d.file k).now.length:=rfl
     omega
    have hK:=hok.find hk
    have hm:d.file k∈d.files:=by
     rw[Dk.file,getD_eq_getElem?_getD,List.getElem?_eq_getElem hK];exact getElem_mem _
    rw[getD_eq_getElem?_getD,List.getElem?_eq_getElem hi]
    exact(hok.files _ hm).now _ (getElem_mem hi)
theorem freadG_spec(y:GW)(x:DW)(s:St)(hok:x.Ok s.d)(n:Nat)(hn:n<4096)(w:World)(stp:Blk w y.pb (BL y x s) 134)(st:Std w (dkL x s.d)):
  Calls Tryz.prog 137 #[.pointer (some ⟨y.pb,0,none⟩),.int .i64 (n:Int)] w fun e w'=>((EG s.d n).1=none/\e=.returned (.tuple #[.pointer none,.int .i64 (EG s.d n).2])/\Hp [] w w' [])\/
   ∃P b,(EG s.d n).1=some P/\e=.returned (.tuple #[.pointer (some ⟨b,0,none⟩),.int .i64 0])/\Hp [] w w' [BG b P]:=by
 apply fread.ok;unfold fread.vc
 have stw:∀w',Chg [] w w'->Std w' (dkL x s.d):=fun w' h=>((Hp.Ap st).chg0 h).std
 have pbw:∀w',Chg [] w w'->Blk w' y.pb (BL y x s) 134:=fun w' h=>stp.chg h (by simp)
 have H:=(Hp.start w).nilS 5 1
 refine Ae.mk (fun m i w'=>∃(j:Nat)(a:Option Addr)(c:Nat)(b:List UInt8),m=8-j/\j<=8/\b.length=j*512/\rdF s.d n (8-j) j b=rdF s.d n 8 0 []/\i=((a,b.length,c),(j:Int))/\Hp [] w w' [.own 5 1 a b.length c (bQ b)]) 8 ⟨0,none,0,[],rfl,by omega,rfl,rfl,rfl,H⟩ ?_
 clear H
 rintro m i w1 next ⟨j,a,c,b,rfl,hj,hbl,hrd,rfl,H⟩ hnext
 dsimp only
 refine AO (fun h=>?_) (fun h=>?_)
 ·have hj8:j<8:=by omega
  have hpb:=pbw _ H.drew.chg
  refine AA rfl ⟨_,hpb.ld (o:=0) gPD.agg rfl,AA rfl ⟨_,hpb.ld (o:=1) gStr.agg rfl,AY.2 (by omega),AY.2 (by omega),?_⟩⟩
  have e3:(n:Int)*8+(j:Int)=((n*8+j:Nat):Int):=by omega
  rw[e3]
  have hr:=O6 x s.d hok Aa ((n*8+j:Nat):Int) w1.drew (stw _ H.drew.chg)
  rw[show 8-j=(8-(j+1))+1 by omega,rdF]at hrd
  have hlen:=read_len hok.dk (name:=Aa) (i:=((n*8+j:Nat):Int))
  generalize hq:s.d.read Aa ((n*8+j:Nat):Int)=q at hr hrd hlen
  refine AL hr ?_
  clear hr
  rintro e w2 ⟨a2,c2,rfl,H'⟩
  have H2:=H.drew.ext1 H'
  clear H' H
  refine⟨_,_,_,_,rfl,?_⟩
  refine AO (fun h1=>?_) (fun h1=>AO (fun h2=>?_) (fun h2=>?_))
  ·rw[if_pos h1]at hrd
   have hsl:=hlen h1
   refine Hp.app Yr (by omega) H2.Aq EQ4 (Cells.src gundBS (H2.ownA (.head _)).cells (by rw[AQ,Nat.mul_one]) (Eu _) (fun h=>X4 (H2.ownA (.head _)) h)) (by simp only[maxLen];omega) (by omega) ?_
   intro a3 c3 w3 H3
   refine⟨AY.2 (by omega),hnext (8-(j+1)) _ _ (by omega) ⟨j+1,a3,c3,b++q.1,rfl,by omega,by rw[length_append];omega,hrd,by rw[length_append];rfl,?_⟩⟩
   rw[length_append,BZ];exact H3.del1
  ·rw[if_neg h1,if_pos h2]at hrd
   refine Hp.appZ H2.drop (by omega) ?_
   intro a3 c3 w3 H3
   refine⟨AY.2 (by omega),hnext (8-(j+1)) _ _ (by omega) ⟨j+1,a3,c3,b++List.replicate 512 0,rfl,by omega,by rw[length_append,length_replicate];omega,hrd,by rw[length_append,length_replicate];rfl,?_⟩⟩
   rw[length_append,length_replicate,BZ];exact H3
  ·rw[if_neg h1,if_neg h2]at hrd
   have hp:EG s.d n=(none,q.2):=by rw[EG,<- hrd];dsimp only;rw[if_neg h1]
   rw[hp]
   exact .inl ⟨rfl,rfl,H2.drop.drop⟩
 ·have hj8:j=8:=by omega
  subst hj8
  have hrd:(b,(0:Int))=rdF s.d n 8 0 []:=hrd
  have hp:EG s.d n=match Sl.Jh b with|some P=>(some P,0)|none=>(none,112):=by rw[EG,<- hrd];dsimp only;rw[if_pos rfl]
  have h4:b.length=4096:=by omega
  rw[h4]at H⊢
  have hown:=H.ownA (.head _)
  rcases hown.2 with⟨_,h,_⟩|⟨gb,cur,fz,rfl,_,hh,_,hle,_⟩
  ·omega
  ·refine AL (Sl.Qk gb c b h4 w1 hown.cells hle) ?_
   rintro e w2 (⟨hl,rfl,H'⟩|⟨P,b',g',hl,rfl,hR',H'⟩)
   ·rw[hl]at hp
    rw[hp]
    exact⟨_,_,rfl,.inl ⟨rfl,rfl,(H.ext0 H').drop⟩⟩
   ·rw[hl]at hp
    rw[hp]
    exact⟨_,_,rfl,.inr ⟨P,b',rfl,rfl,Hp.NE hR' ((H.ext1 H').BQ (L:=[_]))⟩⟩
def Cf:Nat->List Fr->Nat->Option Nat×List Fr×Nat
 |0,fs,h=>(none,fs,h)
 |m+1,fs,h=>match fs[h]? with
  |none=>(none,fs,h)
  |some f=>if 0<f.pins then Cf m fs ((h+1)%fs.length)else if f.used then Cf m (fs.set h {f with used:=false}) ((h+1)%fs.length)else(some h,fs,(h+1)%fs.length)
def Zl(f g:Fr):Prop:=g.n=f.n/\g.pg=f.pg/\g.pins=f.pins/\g.dirty=f.dirty
structure Bf(fs gs:List Fr):Prop where
 len:gs.length=fs.length
 at_:∀(k:Nat)(f g:Fr),fs[k]? =some f->gs[k]? =some g->Zl f g
theorem Bf.refl(fs:List Fr):Bf fs fs:=⟨rfl,fun k f g h1 h2=>by rw[h1]at h2;cases h2;exact⟨rfl,rfl,rfl,rfl⟩⟩
theorem Bf.trans{a b c:List Fr}(h:Bf a b)(h':Bf b c):Bf a c:=by
 refine⟨h'.len.trans h.len,fun k f g h1 h2=>?_⟩
 have hk:=(List.getElem?_eq_some_iff.1 h1).1
 have hb:k<b.length:=by rw[h.len];exact hk
 have e1:=h.at_ k f _ h1 (List.getElem?_eq_getElem hb)
 have e2:=h'.at_ k _ g (List.getElem?_eq_getElem hb) h2
 exact⟨e2.1.trans e1.1,e2.2.1.trans e1.2.1,e2.2.2.1.trans e1.2.2.1,e2.2.2.2.trans e1.2.2.2⟩
theorem Bf.set{fs:List Fr}{k:Nat}{f:Fr}(h:fs[k]? =some f):Bf fs (fs.set k {f with used:=false}):=by
 refine⟨by simp,fun j a b h1 h2=>?_⟩
 rw[List.getElem?_set]at h2
 by_cases hj:k=j
 ·subst hj
  rw[if_pos rfl,if_pos (List.getElem?_eq_some_iff.1 h).1]at h2
  rw[h1]at h;cases h;cases h2
  exact⟨rfl,rfl,rfl,rfl⟩
 ·rw[if_neg hj,h1]at h2;cases h2;exact⟨rfl,rfl,rfl,rfl⟩
theorem LQ:∀(m:Nat)(fs:List Fr)(h:Nat),Bf fs (Cf m fs h).2.1
 |0,fs,h=>Bf.refl fs
 |m+1,fs,h=>by
  unfold Cf
  split
  ·exact Bf.refl fs
  ·rename_i f hf
   split
   ·exact LQ m fs _
   ·split
    ·exact(Bf.set hf).trans (LQ m _ _)
    ·exact Bf.refl fs
theorem Ls:∀(m:Nat)(fs:List Fr)(h:Nat),h<fs.length->(Cf m fs h).2.2<fs.length
 |0,fs,h,hh=>hh
 |m+1,fs,h,hh=>by
  have hmod:(h+1)%fs.length<fs.length:=Nat.mod_lt _ (by omega)
  unfold Cf
  split
  ·exact hh
  ·rename_i f hf
   split
   ·exact Ls m fs _ hmod
   ·split
    ·have:=Ls m (fs.set h {f with used:=false}) ((h+1)%fs.length) (by simpa using hmod)
     simpa using this
    ·exact hmod
theorem Iy(m:Nat){fs:List Fr}{h:Nat}{f:Fr}(hf:fs[h]? =some f):Cf (m+1) fs h=if 0<f.pins then Cf m fs ((h+1)%fs.length)else if f.used then Cf m (fs.set h {f with used:=false}) ((h+1)%fs.length)else(some h,fs,(h+1)%fs.length):=by
 rw[Cf,hf]
theorem O7:∀(a b:Nat)(fs:List Fr)(h:Nat),h<fs.length->(Cf (a+b) fs h).1=none->(Cf a fs h).1=none/\Cf (a+b) fs h=Cf b (Cf a fs h).2.1 (Cf a fs h).2.2
 |0,b,fs,h,hh,e=>by rw[Nat.zero_add];exact⟨rfl,rfl⟩
 |a+1,b,fs,h,hh,e=>by
  have hmod:(h+1)%fs.length<fs.length:=Nat.mod_lt _ (by omega)
  rw[show a+1+b=(a+b)+1 by omega]at e⊢
  have hf:fs[h]? =some fs[h]:=List.getElem?_eq_getElem hh
  rw[Iy _ hf]at e
  rw[Iy a hf,Iy (a+b) hf]
  by_cases hp:0<(fs[h]).pins
  ·rw[if_pos hp]at e
   rw[if_pos hp,if_pos hp]
   exact O7 a b fs _ hmod e
  ·rw[if_neg hp]at e
   rw[if_neg hp,if_neg hp]
   by_cases hu:(fs[h]).used=true
   ·rw[if_pos hu]at e
    rw[if_pos hu,if_pos hu]
    exact O7 a b _ _ (by simpa using hmod) e
   ·rw[if_neg hu]at e
    cases e
theorem JC:∀(m:Nat)(fs:List Fr)(h:Nat),h<fs.length->m<=fs.length->(Cf m fs h).1=none->
  (Cf m fs h).2.2=(h+m)%fs.length/\(∀(p:Nat)(f:Fr),(Cf m fs h).2.1[p]? =some f->(∃j,j<m/\p=(h+j)%fs.length)->0<f.pins\/f.used=false)/\(∀(p:Nat)(f:Fr),(Cf m fs h).2.1[p]? =some f->(∀g,fs[p]? =some g->0<g.pins\/g.used=false)->0<f.pins\/f.used=false)/\((∀(p:Nat)(g:Fr),fs[p]? =some g->0<g.pins\/g.used=false)->∀(p:Nat)(g:Fr),fs[p]? =some g->(∃j,j<m/\p=(h+j)%fs.length)->0<g.pins)
 |0,fs,h,hh,hm,e=>⟨by rw[Nat.add_zero,Nat.mod_eq_of_lt hh];rfl,fun p f _ ⟨j,hj,_⟩=>by omega,fun p f hf hg=>hg f hf,fun _ p g _ ⟨j,hj,_⟩=>by omega⟩
 |m+1,fs,h,hh,hm,e=>by
  have hmod:(h+1)%fs.length<fs.length:=Nat.mod_lt _ (by omega)
  have hf:fs[h]? =some fs[h]:=List.getElem?_eq_getElem hh
  have hsum:∀j,((h+1)%fs.length+j)%fs.length=(h+(j+1))%fs.length:=fun j=>by
   rw[Nat.mod_add_mod];congr 1;omega
  unfold Cf at e⊢
  simp only[hf]at e⊢
  by_cases hp:0<(fs[h]).pins
  ·simp only[if_pos hp]at e⊢
   obtain⟨h1,h2,h3,h4⟩:=JC m fs _ hmod (by omega) e
   refine⟨by rw[h1,hsum],fun p f hpf ⟨j,hj,ej⟩=>?_,h3,fun hall p g hg ⟨j,hj,ej⟩=>?_⟩
   ·cases j with
    |zero=>
     rw[Nat.add_zero,Nat.mod_eq_of_lt hh]at ej
     subst ej
     exact h3 _ f hpf fun g hg=>by rw[hf]at hg;cases hg;exact .inl hp
    |succ j=>exact h2 p f hpf ⟨j,by omega,by rw[hsum];exact ej⟩
   ·cases j with
    |zero=>
     rw[Nat.add_zero,Nat.mod_eq_of_lt hh]at ej
     subst ej
     rw[hf]at hg;cases hg;exact hp
    |succ j=>exact h4 hall p g hg ⟨j,by omega,by rw[hsum];exact ej⟩
  ·simp only[if_neg hp]at e⊢
   by_cases hu:(fs[h]).used=true
   ·simp only[if_pos hu]at e⊢
    have hlen:(fs.set h {fs[h]with used:=false}).length=fs.length:=by simp
    obtain⟨h1,h2,h3,h4⟩:=JC m (fs.set h {fs[h]with used:=false}) ((h+1)%fs.length) (by rw[hlen];exact hmod) (by rw[hlen];omega) e
    rw[hlen]at h1 h2
    have hat:(fs.set h {fs[h]with used:=false})[h]? =some {fs[h]with used:=false}:=by rw[List.getElem?_set_self hh]
    refine⟨by rw[h1,hsum],fun p f hpf ⟨j,hj,ej⟩=>?_,fun p f hpf hg=>?_,fun hall p g hg _=>?_⟩
    ·cases j with
     |zero=>
      rw[Nat.add_zero,Nat.mod_eq_of_lt hh]at ej
      subst ej
      exact h3 _ f hpf fun g hg=>by rw[hat]at hg;cases hg;exact .inr rfl
     |succ j=>exact h2 p f hpf ⟨j,by omega,by rw[hsum];exact ej⟩
    ·refine h3 p f hpf fun g hg2=>?_
     by_cases hph:p=h
     ·subst hph;rw[hat]at hg2;cases hg2;exact .inr rfl
     ·rw[List.getElem?_set_ne (Ne.symm hph)]at hg2
      exact hg g hg2
    ·have:=hall h _ hf
     rw[hu]at this
     rcases this with h9|h9
     ·exact absurd h9 hp
     ·cases h9
   ·simp only[if_neg hu]at e
    cases e
theorem clock_full{fs:List Fr}{h:Nat}(hh:h<fs.length)(e:(Cf (2*fs.length) fs h).1=none):∀f∈fs,0<f.pins:=by
 have h2:2*fs.length=fs.length+fs.length:=by omega
 rw[h2]at e
 obtain⟨e1,e2⟩:=O7 fs.length fs.length fs h hh e
 obtain⟨a1,a2,a3,a4⟩:=JC fs.length fs h hh (Nat.le_refl _) e1
 have hs:=LQ fs.length fs h
 have hhand:=Ls fs.length fs h hh
 rw[e2]at e
 generalize hfs1:(Cf fs.length fs h).2.1=fs1 at*
 generalize hh1:(Cf fs.length fs h).2.2=h1 at*
 have hlen:=hs.len
 have hcov:∀(q p:Nat),q<fs.length->p<fs.length->∃j,j<fs.length/\p=(q+j)%fs.length:=fun q p hq hp=>by
  by_cases hqp:q<=p
  ·exact⟨p-q,by omega,by rw[show q+(p-q)=p by omega,Nat.mod_eq_of_lt hp]⟩
  ·refine⟨fs.length-q+p,by omega,?_⟩
   rw[show q+(fs.length-q+p)=p+fs.length by omega,Nat.add_mod_right,Nat.mod_eq_of_lt hp]
 have hall:∀(p:Nat)(g:Fr),fs1[p]? =some g->0<g.pins\/g.used=false:=fun p g hg=>
  a2 p g hg (hcov h p hh (by have:=(List.getElem?_eq_some_iff.1 hg).1;omega))
 rw[<- hlen]at e
 obtain⟨b1,b2,b3,b4⟩:=JC fs1.length fs1 h1 (by omega) (Nat.le_refl _) e
 intro f hf
 obtain⟨p,hp,rfl⟩:=List.getElem_of_mem hf
 have hp1:p<fs1.length:=by omega
 have:=b4 hall p _ (List.getElem?_eq_getElem hp1) (by rw[hlen];exact hcov h1 p (by omega) hp)
 rw[(hs.at_ p _ _ (List.getElem?_eq_getElem hp) (List.getElem?_eq_getElem hp1)).2.2.1]at this
 exact this
def stK(y:GW)(x:DW)(s:St)(k:Nat):List Asn:=BN y x s::fsA y s::(CQ y x s++(frsL (y.fs.eraseIdx k) (s.fs.eraseIdx k)++dkL x s.d))
theorem Qz{ws:List (Nat×Nat)}{fs:List Fr}{k:Nat}{w:Nat×Nat}{f:Fr}(h:ws[k]? =some w)(h':fs[k]? =some f):(frsL ws fs).Perm (frL w f++frsL (ws.eraseIdx k) (fs.eraseIdx k)):=J7 frL h h'
theorem Nc{y:GW}{x:DW}{s:St}{k:Nat}{w:Nat×Nat}{f:Fr}(h:y.fs[k]? =some w)(h':s.fs[k]? =some f):(stL y x s).Perm (frL w f++stK y x s k):=by
 have hp:=Qz h h'
 rw[stL,stK]
 refine AC fun ff gg h0 hc ha hpm=>?_
 have h9:=hpm _ _ hp
 simp only[ha,hc,h0]at h9⊢
 omega
theorem Yw{y:GW}{x:DW}{s:St}{k:Nat}(hk:k<s.fs.length)(hl:y.fs.length=s.fs.length)(w:Nat×Nat)(f:Fr):(stL {y with fs:=y.fs.set k w} x {s with fs:=s.fs.set k f}).Perm (frL w f++(BN y x s::.own 153 1 y.fa s.fs.length y.fc (FQ (y.fs.set k w))::(CQ y x s++(frsL (y.fs.eraseIdx k) (s.fs.eraseIdx k)++dkL x s.d)))):=by
 have h1:(y.fs.set k w)[k]? =some w:=by rw[List.getElem?_set_self (by omega)]
 have h2:(s.fs.set k f)[k]? =some f:=by rw[List.getElem?_set_self hk]
 have hp:=Qz h1 h2
 rw[List.eraseIdx_set_eq,List.eraseIdx_set_eq]at hp
 have e1:BN {y with fs:=y.fs.set k w} x {s with fs:=s.fs.set k f}=BN y x s:=by simp[BN,BL]
 have e2:fsA {y with fs:=y.fs.set k w} {s with fs:=s.fs.set k f}=.own 153 1 y.fa s.fs.length y.fc (FQ (y.fs.set k w)):=by simp[fsA]
 have e3:CQ {y with fs:=y.fs.set k w} x {s with fs:=s.fs.set k f}=CQ y x s:=rfl
 rw[stL,e1,e2,e3]
 refine AC fun ff gg h0 hc ha hpm=>?_
 have h9:=hpm _ _ hp
 simp only[ha,hc,h0]at h9⊢
 omega
theorem ptrsF_set{ws:List (Nat×Nat)}{k:Nat}{w w':Nat×Nat}(h:ws[k]? =some w)(hb:w'.1=w.1):FQ (ws.set k w')=FQ ws:=by
 apply ext_getElem?
 intro j
 simp only[FQ,List.getElem?_map,List.getElem?_set]
 by_cases hj:k=j
 ·subst hj
  rw[if_pos rfl,if_pos (List.getElem?_eq_some_iff.1 h).1,h]
  simp[hb]
 ·rw[if_neg hj]
theorem Yu{y:GW}{x:DW}{s:St}{k:Nat}{w w':Nat×Nat}(hw:y.fs[k]? =some w)(hk:k<s.fs.length)(hl:y.fs.length=s.fs.length)(hb:w'.1=w.1)(f:Fr):(stL {y with fs:=y.fs.set k w'} x {s with fs:=s.fs.set k f}).Perm (frL w' f++stK y x s k):=by
 have:=Yw (x:=x) hk hl w' f
 rw[ptrsF_set hw hb]at this
 exact this
theorem Xn{α:Type}{l:List α}{k:Nat}{x:α}(h:l[k]? =some x):l.set k x=l:=by
 apply ext_getElem?
 intro j
 rw[List.getElem?_set]
 split
 ·rename_i e;subst e
  rw[if_pos (List.getElem?_eq_some_iff.1 h).1,h]
 ·rfl
theorem Np{y:GW}{x:DW}{s:St}{k:Nat}{w:Nat×Nat}(hw:y.fs[k]? =some w)(hk:k<s.fs.length)(hl:y.fs.length=s.fs.length)(f:Fr):(stL y x {s with fs:=s.fs.set k f}).Perm (frL w f++stK y x s k):=by
 have:=Yu (x:=x) hw hk hl (w':=w) rfl f
 rw[Xn hw]at this
 exact this
structure FT(y y1:GW)(x x1:DW):Prop where
 jb:y1.jb=y.jb
 jc:y1.jc=y.jc
 pb:y1.pb=y.pb
 lwb:y1.lw.b=y.lw.b
 xb:x1.b=x.b
theorem FT.refl(y:GW)(x:DW):FT y y x x:=⟨rfl,rfl,rfl,rfl,rfl⟩
def Vp(s s1:St)(k:Nat):Prop:=
 (s.fs.length<s.many/\k=s.fs.length/\∃F,s1= {s with fs:=s.fs++[F]})\/
 (¬s.fs.length<s.many/\∃(fs1:List Fr)(h1:Nat)(f:Fr),Bf s.fs fs1/\h1<fs1.length/\fs1[k]? =some f/\f.pins=0/\
  ((f.dirty=false/\s1= {s with fs:=fs1,hand:=h1})\/(f.dirty=true/\∃g,Sl.Rep g f.pg.1 f.pg.2/\DK s f g.bs=0/\s1=St.wrote {s with fs:=fs1,hand:=h1} f g.bs)))
def KQ(s s1:St)(c:Int):Prop:=
 ¬s.fs.length<s.many/\∃(fs1:List Fr)(h1:Nat),Bf s.fs fs1/\h1<fs1.length/\
  ((c=120/\(∀f∈s.fs,0<f.pins)/\s1= {s with fs:=fs1,hand:=h1})\/
   (∃(k:Nat)(f:Fr)(g:Sl.Pg),fs1[k]? =some f/\f.pins=0/\f.dirty=true/\Sl.Rep g f.pg.1 f.pg.2/\DK s f g.bs=c/\s1=St.wrote {s with fs:=fs1,hand:=h1} f g.bs))
def FreePost(y:GW)(x:DW)(s:St)(B:List Nat)(w:World)(e:Ending)(w':World):Prop:=
 (∃(y1:GW)(x1:DW)(s1:St)(k:Nat),e=.returned (.tuple #[.int .i64 (k:Int),.int .i64 0])/\FT y y1 x x1/\x1.Ok s1.d/\y1.fs.length=s1.fs.length/\k<s1.fs.length/\(∀i,i≠k->y1.fs[i]? =y.fs[i]?)/\Vp s s1 k/\Hp B w w' (stK y1 x1 s1 k))\/
 (∃(y1:GW)(x1:DW)(s1:St)(c:Int),c≠0/\e=.returned (.tuple #[.int .i64 0,.int .i64 c])/\FT y y1 x x1/\x1.Ok s1.d/\y1.fs=y.fs/\KQ s s1 c/\Hp B w w' (stL y1 x1 s1))
theorem StOk.same{y:GW}{x:DW}{s:St}(h:StOk y x s){fs1:List Fr}(hs:Bf s.fs fs1){h1:Nat}(hh:h1<fs1.length):StOk y x {s with fs:=fs1,hand:=h1}:=by
 have hl:=hs.len
 have hh2:=h.len
 have hat:∀g∈fs1,∃f∈s.fs,Zl f g:=fun g hg=>by
  obtain⟨k,hk,rfl⟩:=List.getElem_of_mem hg
  exact⟨_,getElem_mem (by omega),hs.at_ k _ _ (List.getElem?_eq_getElem (by omega)) (List.getElem?_eq_getElem hk)⟩
 refine⟨by show y.fs.length=fs1.length;rw[hl];exact h.fs,h.env,h.dk,by show fs1.length<=64;omega,fun g hg=>?_,fun g hg=>?_,h.lg.imp (fun hd g hg=>by obtain⟨f,hf,hs⟩:=hat g hg;rw[hs.2.2.2];exact hd f hf) id,by show h1<64;omega,h.pages,h.many⟩
 ·obtain⟨f,hf,hs⟩:=hat g hg
  rw[hs.1];exact h.num f hf
 ·obtain⟨f,hf,hs⟩:=hat g hg
  rw[hs.2.2.1];exact h.pins f hf
theorem QR{y:GW}{x:DW}{s:St}{k:Nat}{w:Nat×Nat}{f:Fr}(h:y.fs[k]? =some w)(h':s.fs[k]? =some f):(stL y x s).Perm (wrL y x s w f++(fsA y s::frsL (y.fs.eraseIdx k) (s.fs.eraseIdx k))):=by
 have hp:=Qz h h'
 rw[stL,wrL]
 refine AC fun ff gg h0 hc ha hpm=>?_
 have h9:=hpm _ _ hp
 simp only[frL]at h9
 simp only[ha,hc,h0]at h9⊢
 omega
theorem free_spec(y:GW)(x:DW)(s:St)(ok:StOk y x s){N:Nat}(fit:s.d.Fit N)(hN:N<=400000)(hsz:∀n,0<=(Bg s n).1.size Aa)(hfl:s.fs.length<=s.many)(hh:s.fs.length=s.many->s.hand<s.fs.length)(w:World)(st:Std w (stL y x s)):
  Calls Tryz.prog 124 #[.pointer (some ⟨y.pb,0,none⟩)] w fun e w'=>FreePost y x s (feet (stL y x s)) w e w':=by
 apply free.ok;unfold free.vc
 have H:=Hp.Ap st
 generalize hB:feet (stL y x s)=B at H⊢
 have hlen:=ok.len
 have hmany:=ok.many
 have ldF:∀{s1:St}{w1 w2:World}{L:List Asn},Hp B w w1 L->Eqw w1 w2->BN y x s1∈L->Ld Tryz.prog 132 w2 ⟨y.pb,4,none⟩ (.slice y.fa s1.fs.length y.fc):=fun{s1 _ _ _} K e m=>K.ld (o:=4) (cs:=BL y x s1) e gSF m rfl
 have ldH:∀{s1:St}{w1 w2:World}{L:List Asn},Hp B w w1 L->Eqw w1 w2->BN y x s1∈L->Ld Tryz.prog 3 w2 ⟨y.pb,5,none⟩ (.int .i64 (s1.hand:Int)):=fun{s1 _ _ _} K e m=>K.ld (o:=5) (cs:=BL y x s1) e gInt m rfl
 refine AA rfl ⟨_,_,_,ldF H EQ4 (Ei y x s),AA rfl ⟨_,H.ld (o:=2) (cs:=BL y x s) EQ4 gInt (Ei y x s) rfl,AO (fun h=>?_) (fun h=>?_)⟩⟩
 ·--one more
  have hlt:s.fs.length<s.many:=by omega
  refine AA rfl ⟨_,_,_,ldF H EQ4 (Ei y x s),?_⟩
  intro b w1 hn1
  replace H:=H.drew.new (cs:=[.int .i64 (-1),.pointer none,.int .i64 0,.bool false,.bool false]) EQ4 hn1;clear hn1
  intro b1 w2 hn1
  replace H:=H.new (cs:=[.pointer (some ⟨b,0,none⟩)]) EQ4 hn1;clear hn1
  rw[stL]at H
  have H2:=H.BM
  clear H
  rw[fsA]at H2
  refine Hp.app geltF (by omega) H2 EQ4 (Blk.src (n:=1) gundF (H2.blk (.tail _ (.head _))) (by simp) (by rfl)) (by simp only[maxLen];omega) (by omega) ?_
  clear H2;intro a5 c5 w5 H
  replace H:=H.BM
  rw[BN]at H
  refine AA rfl (Hp.st (o:=4) H EQ4 gSF rfl rfl (by simp[BL]) (cs':=BL {y with fa:=a5,fc:=c5} x {s with fs:=s.fs++[⟨0,([],0),0,false,false⟩]}) (by simp[BL]) ?_)
  clear H;intro w6 H
  refine AA rfl ⟨_,_,_,H.ld (o:=4) (cs:=BL {y with fa:=a5,fc:=c5} x {s with fs:=s.fs++[⟨0,([],0),0,false,false⟩]}) EQ4 gSF (.head _) rfl,AY.2 ?_,?_⟩
  ·rw[length_append];simp only[length_singleton];omega
  ·left
   have hyl:=ok.fs
   refine⟨{y with fa:=a5,fc:=c5,fs:=y.fs++[(b,0)]},x,{s with fs:=s.fs++[⟨0,([],0),0,false,false⟩]},s.fs.length,?_,⟨rfl,rfl,rfl,rfl,rfl⟩,ok.dk,by simp[hyl],by simp,fun i hi=>?_,.inl ⟨hlt,rfl,_,rfl⟩,?_⟩
   ·have:(((s.fs++[(⟨0,([],0),0,false,false⟩:Fr)]).length:Int)-1)=(s.fs.length:Int):=by simp
    rw[this]
   ·rw[List.getElem?_append]
    by_cases h2:i<y.fs.length
    ·rw[if_pos h2]
    ·rw[if_neg h2,List.getElem?_eq_none (by simp;omega),List.getElem?_eq_none (by omega)]
   ·have e1:(y.fs++[(b,0)]).eraseIdx s.fs.length=y.fs:=by rw[<- hyl,List.eraseIdx_append_of_length_le (Nat.le_refl _)];simp
    have e2:(s.fs++[(⟨0,([],0),0,false,false⟩:Fr)]).eraseIdx s.fs.length=s.fs:=by rw[List.eraseIdx_append_of_length_le (Nat.le_refl _)];simp
    have e3:FQ (y.fs++[(b,0)])=FQ y.fs++[.pointer (some ⟨b,0,none⟩)]:=by simp[FQ]
    have H2:Hp B w w6 (.blk b1 [.pointer (some ⟨b,0,none⟩)] 153::.blk b [.int .i64 (-1),.pointer none,.int .i64 0,.bool false,.bool false] 156::stK {y with fa:=a5,fc:=c5,fs:=y.fs++[(b,0)]} x {s with fs:=s.fs++[⟨0,([],0),0,false,false⟩]} s.fs.length):=by
     rw[stK,e1,e2,fsA,e3]
     have e4:(s.fs++[(⟨0,([],0),0,false,false⟩:Fr)]).length=s.fs.length+1:=by simp
     rw[e4]
     refine H.perm ?_
     rw[BN]
     have e5:CQ {y with fa:=a5,fc:=c5,fs:=y.fs++[(b,0)]} x {s with fs:=s.fs++[⟨0,([],0),0,false,false⟩]}=CQ y x s:=rfl
     have e6:BL {y with fa:=a5,fc:=c5,fs:=y.fs++[(b,0)]} x {s with fs:=s.fs++[⟨0,([],0),0,false,false⟩]}=BL {y with fa:=a5,fc:=c5} x {s with fs:=s.fs++[⟨0,([],0),0,false,false⟩]}:=rfl
     rw[e5,e6]
     (refine AC fun ff gg h0 hc ha hpm=>?_;simp only[ha,hc,h0];omega)
    exact H2.drop.drop
 ·--the clock
  have hnl:¬s.fs.length<s.many:=by omega
  have hhand:=hh (by omega)
  refine AA rfl ⟨_,_,_,ldF H EQ4 (Ei y x s),AY.2 (by omega),?_⟩
  refine Ae.mk (fun m (i:Int×Int) w'=>∃(c:Nat)(fs1:List Fr)(h1:Nat),m=2*s.fs.length-c/\c<=2*s.fs.length/\i=(-1,(c:Int))/\Bf s.fs fs1/\h1<fs1.length/\Cf (2*s.fs.length-c) fs1 h1=Cf (2*s.fs.length) s.fs s.hand/\Hp B w w' (stL y x {s with fs:=fs1,hand:=h1})) (2*s.fs.length) ⟨0,s.fs,s.hand,rfl,by omega,rfl,Bf.refl _,hhand,rfl,H.drew⟩ ?_
  clear H
  rintro m i w1 next ⟨c,fs1,h1,rfl,hc,rfl,hsame,hh1,hcl,H⟩ hnext
  dsimp only
  have ok1:=ok.same hsame hh1
  have hl1:=hsame.len
  refine AO (fun h2=>?_) (fun h2=>?_)
  ·have hcl2:c<2*s.fs.length:=by omega
   obtain⟨wf,f,hw,hf⟩:=ok1.at hh1
   have hpf:f.pins<=1000000:=ok1.pins f (mem_of_getElem? hf)
   have hnf:f.n<4096:=ok1.num f (mem_of_getElem? hf)
   have K:=(H.ownA (TF y x {s with fs:=fs1,hand:=h1})).cells
   have hp:=TG hw
   obtain⟨ad,had,_⟩:=K _ _ hp
   have e1:Int.toNat (h1:Int)*1=h1:=by omega
   have et:Int.tmod ((h1:Int)+1) (fs1.length:Int)=(((h1+1)%fs1.length:Nat):Int):=by rw[Int.natCast_emod];exact Int.tmod_eq_emod_of_nonneg (by omega)
   have hmod:(h1+1)%fs1.length<fs1.length:=Nat.mod_lt _ (by omega)
   have mp:=Ei y x {s with fs:=fs1,hand:=h1}
   refine AA rfl ⟨_,_,_,ldF H EQ4 mp,AA rfl ⟨_,ldH H EQ4 mp,?_⟩⟩
   refine AA had ⟨⟨by show(0:Int)<=(h1:Int);omega,by show(h1:Int)<(fs1.length:Int);omega⟩,_,by dsimp only;rw[e1];exact(H.drew.ownA (TF y x {s with fs:=fs1,hand:=h1})).cells.ld gPF had hp,?_⟩
   refine AA rfl ⟨_,ldH H EQ4 mp,AA rfl ⟨_,ldH H EQ4 mp,AY.2 (by dsimp only;omega),AA rfl ⟨_,_,_,ldF H EQ4 mp,by show(fs1.length:Int)≠0;omega,?_⟩⟩⟩
   dsimp only
   rw[et]
   have H0:Hp B w w1.drew.drew (.blk y.pb (BL y x {s with fs:=fs1,hand:=h1}) 134::(fsA y {s with fs:=fs1,hand:=h1}::(CQ y x {s with fs:=fs1,hand:=h1}++(frsL y.fs fs1++dkL x s.d)))):=H.drew.drew
   refine AA rfl (Hp.st (o:=5) H0 EQ4 gInt rfl rfl (by simp[BL]) (cs':=BL y x {s with fs:=fs1,hand:=(h1+1)%fs1.length}) rfl ?_)
   clear H0 H mp K;intro w2 H
   replace H:Hp B w w2 (stL y x {s with fs:=fs1,hand:=(h1+1)%fs1.length}):=H
   have mp:=Ei y x {s with fs:=fs1,hand:=(h1+1)%fs1.length}
   have mf:=TU (x:=x) (s:= {s with fs:=fs1,hand:=(h1+1)%fs1.length}) hw hf
   have hstep:=Iy (2*s.fs.length-(c+1)) hf
   have hcs:2*s.fs.length-c=(2*s.fs.length-(c+1))+1:=by omega
   rw[hcs,hstep]at hcl
   refine AA rfl ⟨_,H.ld (o:=2) (cs:=frC wf f) EQ4 gInt mf rfl,AO (fun h3=>?_) (fun h3=>?_)⟩
   ·rw[if_pos (by omega)]at hcl
    exact⟨AY.2 (by omega),hnext (2*s.fs.length-(c+1)) _ _ (by omega) ⟨c+1,fs1,(h1+1)%fs1.length,rfl,by omega,by simp,hsame,hmod,hcl,H⟩⟩
   ·have hp0:f.pins=0:=by omega
    rw[if_neg (by omega)]at hcl
    refine AA rfl ⟨_,H.ld (o:=4) (cs:=frC wf f) EQ4 EN mf rfl,CE (fun hu=>?_) (fun hu=>?_)⟩
    ·rw[if_pos hu]at hcl
     have H2:Hp B w w2 (.blk wf.1 (frC wf f) 156::BG wf.2 f.pg::stK y x {s with fs:=fs1,hand:=(h1+1)%fs1.length} h1):=H.perm (Nc hw hf)
     refine AA rfl (Hp.st (o:=4) H2 EQ4 EN rfl rfl (by simp[frC]) (cs':=frC wf {f with used:=false}) rfl ?_)
     clear H2 H;intro w3 H
     have H3:Hp B w w3 (stL y x {s with fs:=fs1.set h1 {f with used:=false},hand:=(h1+1)%fs1.length}):=H.perm (Np (x:=x) (s:= {s with fs:=fs1,hand:=(h1+1)%fs1.length}) hw hh1 ok1.fs _).symm
     exact⟨AY.2 (by omega),hnext (2*s.fs.length-(c+1)) _ _ (by omega) ⟨c+1,_,(h1+1)%fs1.length,rfl,by omega,by simp,hsame.trans (Bf.set hf),by simpa using hmod,hcl,H3⟩⟩
    ·rw[if_neg (by simp[hu])]at hcl
     have K2:=(H.ownA (TF y x {s with fs:=fs1,hand:=(h1+1)%fs1.length})).cells
     refine AO (fun h4=>by omega) (fun _=>?_)
     refine AA rfl ⟨_,_,_,ldF H EQ4 mp,?_⟩
     refine AA had ⟨⟨by omega,by show(h1:Int)<(fs1.length:Int);omega⟩,_,by rw[e1];exact K2.ld gPF had hp,?_⟩
     refine AA rfl ⟨_,H.ld (o:=3) (cs:=frC wf f) EQ4 EN mf rfl,CE (fun hd=>?_) (fun hd=>?_)⟩
     ·refine AA rfl ⟨_,_,_,ldF H EQ4 mp,AA had ⟨⟨by omega,by show(h1:Int)<(fs1.length:Int);omega⟩,_,by rw[e1];exact K2.ld gPF had hp,?_⟩⟩
      have ok2:StOk y x {s with fs:=fs1,hand:=(h1+1)%fs1.length}:=ok.same hsame hmod
      have H2:=H.perm (QR (x:=x) (s:= {s with fs:=fs1,hand:=(h1+1)%fs1.length}) hw hf)
      clear H
      refine AL (PI y x {s with fs:=fs1,hand:=(h1+1)%fs1.length} ok2 (ok2.lg.resolve_left fun h=>by have:=h f (mem_of_getElem? hf);rw[hd]at this;cases this) fit hN wf f (hsz f.pg.2) hnf w2 H2.std1) ?_
      rintro e w3 ⟨g,hR,rfl,x2,la,hx2b,hlab,hx2,H'⟩
      have H3:=H2.useL H'
      clear H2 H'
      have eE:DK {s with fs:=fs1,hand:=(h1+1)%fs1.length} f g.bs=DK s f g.bs:=rfl
      rw[eE]at H3⊢
      refine⟨_,rfl,Aw (fun hE=>?_) (fun hE=>?_)⟩
      ·right
       have hfw:f.wrote (DK s f g.bs)=f:=by rw[Fr.wrote,if_neg hE]
       rw[hfw]at H3
       refine⟨{y with lw:=la},x2,St.wrote {s with fs:=fs1,hand:=(h1+1)%fs1.length} f g.bs,_,hE,rfl,⟨rfl,rfl,rfl,hlab,hx2b⟩,hx2,rfl,⟨hnl,fs1,_,hsame,hmod,.inr ⟨h1,f,g,hf,hp0,hd,hR,rfl,rfl⟩⟩,?_⟩
       exact H3.perm (QR (y:= {y with lw:=la}) (x:=x2) (s:=St.wrote {s with fs:=fs1,hand:=(h1+1)%fs1.length} f g.bs) hw hf).symm
      ·left
       refine⟨{y with lw:=la},x2,St.wrote {s with fs:=fs1,hand:=(h1+1)%fs1.length} f g.bs,h1,?_,⟨rfl,rfl,rfl,hlab,hx2b⟩,hx2,ok1.fs,hh1,fun _ _=>rfl,.inr ⟨hnl,fs1,_,f,hsame,hmod,hf,hp0,.inr ⟨hd,g,hR,hE,rfl⟩⟩,?_⟩
       ·rfl
       ·have H4:Hp B w w3 (.blk wf.1 (frC wf (f.wrote (DK s f g.bs))) 156::BG wf.2 f.pg::stK {y with lw:=la} x2 (St.wrote {s with fs:=fs1,hand:=(h1+1)%fs1.length} f g.bs) h1):=H3.perm (by
         rw[wrL,stK]
         show List.Perm (.blk wf.1 (frC wf (f.wrote (DK s f g.bs))) 156::BG wf.2 f.pg::BN {y with lw:=la} x2 (St.wrote {s with fs:=fs1,hand:=(h1+1)%fs1.length} f g.bs)::(CQ {y with lw:=la} x2 (St.wrote {s with fs:=fs1,hand:=(h1+1)%fs1.length} f g.bs)++dkL x2 (St.wrote {s with fs:=fs1,hand:=(h1+1)%fs1.length} f g.bs).d)++(fsA y {s with fs:=fs1,hand:=(h1+1)%fs1.length}::frsL (y.fs.eraseIdx h1) (fs1.eraseIdx h1))) (.blk wf.1 (frC wf (f.wrote (DK s f g.bs))) 156::BG wf.2 f.pg::BN {y with lw:=la} x2 (St.wrote {s with fs:=fs1,hand:=(h1+1)%fs1.length} f g.bs)::fsA y {s with fs:=fs1,hand:=(h1+1)%fs1.length}::(CQ {y with lw:=la} x2 (St.wrote {s with fs:=fs1,hand:=(h1+1)%fs1.length} f g.bs)++(frsL (y.fs.eraseIdx h1) (fs1.eraseIdx h1)++dkL x2 (St.wrote {s with fs:=fs1,hand:=(h1+1)%fs1.length} f g.bs).d)))
         (refine AC fun ff gg h0 hc ha hpm=>?_;simp only[ha,hc,h0];omega))
        exact H4.drop.drop
     ·left
      have H2:Hp B w w2 (.blk wf.1 (frC wf f) 156::BG wf.2 f.pg::stK y x {s with fs:=fs1,hand:=(h1+1)%fs1.length} h1):=H.perm (Nc hw hf)
      exact⟨y,x,{s with fs:=fs1,hand:=(h1+1)%fs1.length},h1,rfl,FT.refl y x,ok.dk,ok1.fs,hh1,fun _ _=>rfl,.inr ⟨hnl,fs1,_,f,hsame,hmod,hf,hp0,.inl ⟨hd,rfl⟩⟩,H2.drop.drop⟩
  ·have hce:2*s.fs.length-c=0:=by omega
   rw[hce]at hcl
   have hnone:(Cf (2*s.fs.length) s.fs s.hand).1=none:=by rw[<- hcl];rfl
   refine AO (fun _=>?_) (fun h3=>by omega)
   right
   exact⟨y,x,{s with fs:=fs1,hand:=h1},120,by omega,rfl,FT.refl y x,ok.dk,rfl,⟨hnl,fs1,h1,hsame,hh1,.inl ⟨rfl,clock_full hhand hnone,rfl⟩⟩,H⟩
def holdL(y:GW)(x:DW)(s:St)(k b n:Nat):List Asn:=BN y x {s with pages:=max s.pages (n+1)}::.own 153 1 y.fa s.fs.length y.fc (FQ (y.fs.set k (b,0)))::(CQ y x s++(frsL (y.fs.eraseIdx k) (s.fs.eraseIdx k)++dkL x s.d))
theorem OV{ws:List (Nat×Nat)}{k:Nat}(b p:Nat):FQ (ws.set k (b,p))=(FQ ws).set k (.pointer (some ⟨b,0,none⟩)):=by simp[FQ,map_set]
theorem U0{y:GW}{x:DW}{s:St}{k b p n:Nat}(hk:k<s.fs.length)(hl:y.fs.length=s.fs.length)(F:Fr):
  (.blk b (frC (b,p) F) 156::BG p F.pg::holdL y x s k b n).Perm (stL {y with fs:=y.fs.set k (b,p)} x {s with fs:=s.fs.set k F,pages:=max s.pages (n+1)}):=by
 have:=Yw (y:=y) (x:=x) (s:= {s with pages:=max s.pages (n+1)}) hk hl (b,p) F
 rw[OV]at this
 rw[holdL,OV]
 exact this.symm
def HoldBad(y:GW)(x:DW)(s:St)(B:List Nat)(w:World)(e:Ending)(w':World):Prop:=
 ∃(y1:GW)(x1:DW)(s1:St)(c:Int),c≠0/\e=.returned (.tuple #[.pointer none,.int .i64 c])/\FT y y1 x x1/\x1.Ok s1.d/\y1.fs=y.fs/\KQ s s1 c/\Hp B w w' (stL y1 x1 s1)
theorem VD(y:GW)(x:DW)(s:St)(ok:StOk y x s){N:Nat}(fit:s.d.Fit N)(hN:N<=400000)(hsz:∀n,0<=(Bg s n).1.size Aa)(hfl:s.fs.length<=s.many)(hh:s.fs.length=s.many->s.hand<s.fs.length)(n:Nat)(hn:n<4096)(pv:Option Addr)(w:World)(st:Std w (stL y x s)):
  Calls Tryz.prog 88 #[.pointer (some ⟨y.pb,0,none⟩),.int .i64 (n:Int),.pointer pv] w fun e w'=>
   (∃(y1:GW)(x1:DW)(s1:St)(k b:Nat),e=.returned (.tuple #[.pointer (some ⟨b,0,none⟩),.int .i64 0])/\FT y y1 x x1/\x1.Ok s1.d/\y1.fs.length=s1.fs.length/\k<s1.fs.length/\(∀i,i≠k->y1.fs[i]? =y.fs[i]?)/\Vp s s1 k/\
    Hp (feet (stL y x s)) w w' (.blk b [.int .i64 (n:Int),.pointer pv,.int .i64 0,.bool false,.bool true] 156::holdL y1 x1 s1 k b n))\/
   HoldBad y x s (feet (stL y x s)) w e w':=by
 apply hold.ok;unfold hold.vc
 refine AL (free_spec y x s ok fit hN hsz hfl hh w st) ?_
 generalize hB:feet (stL y x s)=B
 rintro e w1 (⟨y1,x1,s1,k,rfl,hS,hx1,hl1,hk,hoth,hF,H⟩|⟨y1,x1,s1,c,hc,rfl,hS,hx1,hl1,hF,H⟩)
 ·refine⟨_,_,rfl,Aw (fun h=>absurd rfl h) (fun _=>?_)⟩
  have e1:Int.toNat (k:Int)*1=k:=by omega
  rw[stK]at H
  have epb:=hS.pb
  rw[<- epb]
  have hown:=H.ownA (a:=y1.fa) (n:=s1.fs.length) (c:=y1.fc) (xs:=FQ y1.fs) (.tail _ (.head _))
  have hpl:k<(FQ y1.fs).length:=by simp[FQ];omega
  obtain⟨ad,had,_⟩:=hown.at hpl
  have hpg:s1.pages<=4096:=by
   have h9:=ok.pages
   rcases hF with⟨_,_,F,rfl⟩|⟨_,fs1,h1,f,_,_,_,_,⟨_,rfl⟩|⟨_,g,_,_,rfl⟩⟩<;>exact h9
  refine AA rfl ⟨_,_,_,H.ld (o:=4) (cs:=BL y1 x1 s1) EQ4 gSF (.head _) rfl,?_⟩
  intro b w2 hn1
  replace H:=H.new (cs:=[.int .i64 (n:Int),.pointer pv,.int .i64 0,.bool false,.bool true]) EQ4 hn1;clear hn1
  have H2:=H.BF
  clear H
  rw[fsA]at H2
  refine AA had ⟨⟨by omega,by omega⟩,?_⟩
  rw[e1]
  refine Hp.stO1 H2 EQ4 gPF had rfl rfl hpl ?_
  clear H2;intro w3 H
  refine AA rfl ⟨_,H.ld (o:=6) (cs:=BL y1 x1 s1) EQ4 gInt (.tail _ (.tail _ (.head _))) rfl,AY.2 (by omega),?_⟩
  have em:max (s1.pages:Int) ((n:Int)+1)=((max s1.pages (n+1):Nat):Int):=by omega
  rw[em]
  have H2:=H.BF
  clear H
  rw[BN]at H2
  refine AA rfl (Hp.st (o:=6) H2 EQ4 gInt rfl rfl (by simp[BL]) (cs':=BL y1 x1 {s1 with pages:=max s1.pages (n+1)}) rfl ?_)
  clear H2;intro w4 H
  have K:=(H.ownA (.tail _ (.head _))).cells
  have hat:((FQ y1.fs).set k (.pointer (some ⟨b,0,none⟩)))[k]? =some (.pointer (some ⟨b,0,none⟩)):=by rw[List.getElem?_set_self hpl]
  refine AA rfl ⟨_,_,_,H.ld (o:=4) (cs:=BL y1 x1 {s1 with pages:=max s1.pages (n+1)}) EQ4 gSF (.head _) rfl,AA had ⟨⟨by omega,by show(k:Int)<(s1.fs.length:Int);omega⟩,_,K.ld gPF had hat,?_⟩⟩
  left
  refine⟨y1,x1,s1,k,b,rfl,hS,hx1,hl1,hk,hoth,hF,?_⟩
  rw[holdL,OV,BN]
  exact H.BF
 ·refine⟨_,_,rfl,Aw (fun _=>?_) (fun h=>absurd h hc)⟩
  right
  exact⟨y1,x1,s1,c,hc,rfl,hS,hx1,hl1,hF,H⟩
theorem Kr{fs:List Fr}{n:Int}{j:Nat}(h:EC fs n=some j):∃f,fs[j]? =some f/\(f.n:Int)=n:=by
 rw[EC,List.findIdx?_eq_some_iff_getElem]at h
 obtain⟨hj,h1,_⟩:=h
 exact⟨_,List.getElem?_eq_getElem hj,by simpa using h1⟩
theorem Ze{fs:List Fr}{n:Int}(h:EC fs n=none):∀f∈fs,(f.n:Int)≠n:=by
 rw[EC,List.findIdx?_eq_none_iff]at h
 intro f hf
 simpa using h f hf
theorem eqvF{w:World}{p:Option Addr}{x y:Operand}:Eqv Tryz.prog .eql 153 x y w (.pointer p) (.pointer none) p.isNone:=Cb aA
theorem eqvFN{w:World}{p:Option Addr}{x y:Operand}:Eqv Tryz.prog .neq 153 x y w (.pointer p) (.pointer none) (!p.isNone):=Xl aA
def bG(y1:GW)(s s1:St)(n a:Nat):Prop:=
 (∃(j:Nat)(f:Fr)(w:Nat×Nat),EC s.fs (n:Int)=some j/\s.fs[j]? =some f/\f.n=n/\y1.fs[j]? =some w/\w.2=a/\s1= {s with fs:=s.fs.set j {f with pins:=f.pins+1,used:=true}})\/
 (∃(s0:St)(k:Nat)(P:AP)(b:Nat),EC s.fs (n:Int)=none/\(EG s.d n).1=some P/\Vp s s0 k/\k<s0.fs.length/\y1.fs[k]? =some (b,a)/\s1= {s0 with fs:=s0.fs.set k ⟨n,P,1,false,true⟩,pages:=max s0.pages (n+1)})
def aK(s s1:St)(n:Nat)(c:Int):Prop:=
 EC s.fs (n:Int)=none/\(((EG s.d n).1=none/\c=(EG s.d n).2/\s1=s)\/((∃P,(EG s.d n).1=some P)/\KQ s s1 c))
def GetPost(y:GW)(x:DW)(s:St)(n:Nat)(B:List Nat)(w:World)(e:Ending)(w':World):Prop:=
 ∃(y1:GW)(x1:DW)(s1:St),FT y y1 x x1/\x1.Ok s1.d/\y1.fs.length=s1.fs.length/\Hp B w w' (stL y1 x1 s1)/\
  ((∃a,e=.returned (.tuple #[.pointer (some ⟨a,0,none⟩),.int .i64 0])/\bG y1 s s1 n a)\/(∃c,c≠0/\e=.returned (.tuple #[.pointer none,.int .i64 c])/\aK s s1 n c))
theorem KQ.len{s s1:St}{c:Int}(h:KQ s s1 c):s1.fs.length=s.fs.length:=by
 rcases h with⟨_,fs1,h1,hs,_,⟨_,_,rfl⟩|⟨k,f,g,_,_,_,_,_,rfl⟩⟩
 ·exact hs.len
 ·exact hs.len
theorem getG_spec(y:GW)(x:DW)(s:St)(ok:StOk y x s){N:Nat}(fit:s.d.Fit N)(hN:N<=400000)(hsz:∀n,0<=(Bg s n).1.size Aa)(hfl:s.fs.length<=s.many)(hh:s.fs.length=s.many->s.hand<s.fs.length)(n:Nat)(hn:n<4096)(w:World)(st:Std w (stL y x s)):
  Calls Tryz.prog 114 #[.pointer (some ⟨y.pb,0,none⟩),.int .i64 (n:Int)] w fun e w'=>GetPost y x s n (feet (stL y x s)) w e w':=by
 have hx:=ok.dk
 have hyl:=ok.fs
 apply fget.ok;unfold fget.vc
 refine AO (fun h=>by omega) (fun _=>AO (fun h=>by omega) (fun _=>?_))
 refine AL (JI y x s ok n w st) ?_
 rintro e w1 ⟨rfl,rfl⟩
 refine⟨_,rfl,_,eqvF,?_⟩
 have H:=Hp.Ap st
 generalize hB:feet (stL y x s)=B at H⊢
 cases hfd:EC s.fs (n:Int)with
 |some j=>
  obtain⟨f,hf,hfn⟩:=Kr hfd
  have hj:=(List.getElem?_eq_some_iff.1 hf).1
  obtain⟨wf,f',hw,hf'⟩:=ok.at hj
  rw[hf]at hf';cases hf'
  have hfn:f.n=n:=by omega
  subst hfn
  have hpl:=ok.pins f (mem_of_getElem? hf)
  simp only[frP,hw,Option.map_some]
  refine CE (fun h=>by cases h) (fun _=>?_)
  have H2:Hp B w1 w1 (.blk wf.1 (frC wf f) 156::BG wf.2 f.pg::stK y x s j):=H.perm (Nc hw hf)
  clear H
  refine AA rfl ⟨_,H2.ld (o:=2) (cs:=frC wf f) EQ4 gInt (.head _) rfl,AY.2 (by omega),?_⟩
  refine AA rfl (Hp.st (o:=2) H2 EQ4 gInt rfl rfl (by simp[frC]) (cs':=frC wf {f with pins:=f.pins+1}) rfl ?_)
  clear H2;intro w2 H
  refine AA rfl (Hp.st (o:=4) H EQ4 EN rfl rfl (by simp[frC]) (cs':=frC wf {f with pins:=f.pins+1,used:=true}) rfl ?_)
  clear H;intro w3 H
  refine AA rfl ⟨_,H.ld (o:=1) (cs:=frC wf {f with pins:=f.pins+1,used:=true}) EQ4 gPG (.head _) rfl,?_⟩
  have H2:Hp B w1 w3 (stL y x {s with fs:=s.fs.set j {f with pins:=f.pins+1,used:=true}}):=H.perm (Np (x:=x) hw hj hyl _).symm
  exact⟨y,x,{s with fs:=s.fs.set j {f with pins:=f.pins+1,used:=true}},FT.refl y x,hx,by show _=(s.fs.set j _).length;rw[length_set];exact hyl,H2,.inl ⟨wf.2,rfl,.inl ⟨j,f,wf,hfd,hf,rfl,hw,rfl,rfl⟩⟩⟩
 |none=>
  refine CE (fun _=>?_) (fun h=>by cases h)
  have hsub:∀w',Chg [] w1 w'->Std w' (dkL x s.d):=fun w' hc=>by
   have:=(H.chg0 hc)
   rw[stL]at this
   exact this.drop.drop |>.perm (by rw[<- append_assoc];exact perm_append_comm) |>.std1
  refine AL (freadG_spec y x s hx n (by omega) w1 (H.blk (Ei y x s)) (hsub w1 (Chg.refl _ _))) ?_
  rintro e w2 (⟨hr,rfl,H'⟩|⟨P,b,hr,rfl,H'⟩)
  ·have hne:=readP_none hr
   exact⟨_,_,rfl,Aw (fun _=>⟨y,x,s,FT.refl y x,hx,hyl,H.ext0 H',.inr ⟨_,hne,rfl,hfd,.inl ⟨hr,rfl,rfl⟩⟩⟩) (fun h=>absurd h hne)⟩
  have H2:Hp B w1 w2 (stL y x s++[BG b P]):=(H.ext H').perm perm_append_comm
  clear H H'
  refine⟨_,_,rfl,Aw (fun h=>absurd rfl h) (fun _=>?_)⟩
  refine AL (VD y x s ok fit hN hsz hfl hh n (by omega) (some ⟨b,0,none⟩) w2 H2.std1) ?_
  rintro e w3 (⟨y1,x1,s1,k,fb,rfl,hS,hx1,hl1,hk,hoth,hF,H'⟩|⟨y1,x1,s1,c,hc,rfl,hS,hx1,hl1,hF,H'⟩)
  ·have H3:=H2.useL H'
   clear H2 H'
   refine⟨_,_,rfl,Aw (fun h=>absurd rfl h) (fun _=>?_)⟩
   replace H3:Hp B w1 w3 (.blk fb [.int .i64 (n:Int),.pointer (some ⟨b,0,none⟩),.int .i64 0,.bool false,.bool true] 156::(holdL y1 x1 s1 k fb n++[BG b P])):=H3
   refine AA rfl ⟨_,H3.ld (o:=2) (cs:=[.int .i64 (n:Int),.pointer (some ⟨b,0,none⟩),.int .i64 0,.bool false,.bool true]) EQ4 gInt (.head _) rfl,AY.2 (by omega),?_⟩
   refine AA rfl (Hp.st (o:=2) H3 EQ4 gInt rfl rfl (by simp) (cs':=[.int .i64 (n:Int),.pointer (some ⟨b,0,none⟩),.int .i64 1,.bool false,.bool true]) rfl ?_)
   clear H3;intro w4 H
   refine AA rfl (Hp.st (o:=4) H EQ4 EN rfl rfl (by simp) (cs':=frC (fb,b) ⟨n,P,1,false,true⟩) rfl ?_)
   clear H;intro w5 H
   refine AA rfl ⟨_,H.ld (o:=1) (cs:=frC (fb,b) ⟨n,P,1,false,true⟩) EQ4 gPG (.head _) rfl,?_⟩
   have H2:Hp B w1 w5 (stL {y1 with fs:=y1.fs.set k (fb,b)} x1 {s1 with fs:=s1.fs.set k ⟨n,P,1,false,true⟩,pages:=max s1.pages (n+1)}):=H.perm ((List.Perm.cons _ (perm_append_comm (l₂:=[BG b P]))).trans (U0 (p:=b) hk hl1 ⟨n,P,1,false,true⟩))
   exact⟨{y1 with fs:=y1.fs.set k (fb,b)},x1,{s1 with fs:=s1.fs.set k ⟨n,P,1,false,true⟩,pages:=max s1.pages (n+1)},⟨hS.jb,hS.jc,hS.pb,hS.lwb,hS.xb⟩,hx1,by simp[hl1],H2,.inl ⟨b,rfl,.inr ⟨s1,k,P,fb,hfd,hr,hF,hk,by show(y1.fs.set k (fb,b))[k]? =_;rw[List.getElem?_set_self (by omega)],rfl⟩⟩⟩
  ·have H3:=H2.useL H'
   clear H2 H'
   refine⟨_,_,rfl,Aw (fun _=>?_) (fun h=>absurd h hc)⟩
   exact⟨y1,x1,s1,hS,hx1,by rw[hl1,hF.len];exact hyl,H3.BQ,.inr ⟨c,hc,rfl,hfd,.inr ⟨⟨P,hr⟩,hF⟩⟩⟩
def Dw(s:St)(n:Nat)(ch:Bool):St×Bool:=
 match EC s.fs (n:Int)with
 |none=>(s,false)
 |some j=>match s.fs[j]? with
  |none=>(s,false)
  |some f=>if f.pins=0 then(s,false)else({s with fs:=s.fs.set j {f with pins:=f.pins-1,dirty:=f.dirty||ch}},true)
theorem doneG_spec(y:GW)(x:DW)(s:St)(ok:StOk y x s)(n:Nat)(ch:Bool)(w:World)(st:Std w (stL y x s)):
  Calls Tryz.prog 115 #[.pointer (some ⟨y.pb,0,none⟩),.int .i64 (n:Int),.bool ch] w fun e w'=>e=.returned (.bool (Dw s n ch).2)/\Hp (feet (stL y x s)) w w' (stL y x (Dw s n ch).1):=by
 have hyl:=ok.fs
 apply fdone.ok;unfold fdone.vc
 refine AL (JI y x s ok n w st) ?_
 rintro e w1 ⟨rfl,rfl⟩
 have H:=Hp.Ap st
 generalize hB:feet (stL y x s)=B at H⊢
 refine⟨_,rfl,AO (fun h=>by omega) (fun h=>⟨_,eqvF,?_⟩)⟩
 rw[Dw]
 cases hfd:EC s.fs (n:Int)with
 |none=>exact CE (fun _=>⟨rfl,H⟩) (fun h=>by cases h)
 |some j=>
  obtain⟨f,hfj,hfn⟩:=Kr hfd
  have hj:=(List.getElem?_eq_some_iff.1 hfj).1
  obtain⟨wf,f',hw,hf'⟩:=ok.at hj
  rw[hfj]at hf';cases hf'
  have hpl:=ok.pins f (mem_of_getElem? hfj)
  simp only[frP,hw,Option.map_some,hfj]
  refine CE (fun h=>by cases h) (fun _=>?_)
  refine AA rfl ⟨_,H.ld (o:=2) (cs:=frC wf f) EQ4 gInt (TU hw hfj) rfl,AO (fun h0=>?_) (fun h0=>?_)⟩
  ·rw[if_pos (by omega)]
   exact⟨rfl,H⟩
  ·rw[if_neg (by omega)]
   have H2:Hp B w1 w1 (.blk wf.1 (frC wf f) 156::BG wf.2 f.pg::stK y x s j):=H.perm (Nc hw hfj)
   clear H
   refine AA rfl ⟨_,H2.ld (o:=2) (cs:=frC wf f) EQ4 gInt (.head _) rfl,AY.2 (by omega),?_⟩
   have ep:(f.pins:Int)-1=((f.pins-1:Nat):Int):=by omega
   rw[ep]
   refine AA rfl (Hp.st (o:=2) H2 EQ4 gInt rfl rfl (by simp[frC]) (cs':=frC wf {f with pins:=f.pins-1}) rfl ?_)
   clear H2;intro w2 H
   have fin:∀(b:Bool)(w3:World),b=(f.dirty||ch)->Hp B w1 w3 (.blk wf.1 (frC wf {f with pins:=f.pins-1,dirty:=b}) 156::BG wf.2 f.pg::stK y x s j)->Hp B w1 w3 (stL y x {s with fs:=s.fs.set j {f with pins:=f.pins-1,dirty:=f.dirty||ch}}):=by
    rintro b w3 rfl H3
    exact H3.perm (Np (x:=x) hw hj hyl _).symm
   refine AA rfl ⟨_,H.ld (o:=3) (cs:=frC wf {f with pins:=f.pins-1}) EQ4 EN (.head _) rfl,CE (fun hd=>?_) (fun hd=>?_)⟩
   ·refine AA rfl (Hp.st (o:=3) H EQ4 EN rfl rfl (by simp[frC]) (cs':=frC wf {f with pins:=f.pins-1,dirty:=true}) rfl ?_)
    clear H;intro w3 H
    exact⟨rfl,fin true w3 (by have:f.dirty=true:=hd;rw[this];rfl) H⟩
   ·refine AA rfl (Hp.st (o:=3) H EQ4 EN rfl rfl (by simp[frC]) (cs':=frC wf {f with pins:=f.pins-1,dirty:=ch}) rfl ?_)
    clear H;intro w3 H
    exact⟨rfl,fin ch w3 (by have:f.dirty=false:=hd;rw[this];rfl) H⟩
def JX(s s1:St)(n:Nat)(P:AP):Prop:=
 (∃(j:Nat)(f:Fr),EC s.fs (n:Int)=some j/\s.fs[j]? =some f/\f.n=n/\f.pins=0/\s1= {s with fs:=s.fs.set j {f with pg:=P,dirty:=true,used:=true}})\/
 (∃(s0:St)(k:Nat),EC s.fs (n:Int)=none/\Vp s s0 k/\k<s0.fs.length/\s1= {s0 with fs:=s0.fs.set k ⟨n,P,0,true,true⟩,pages:=max s0.pages (n+1)})
def IE(s s1:St)(n:Nat)(c:Int):Prop:=
 (c=120/\s1=s/\∃f∈s.fs,f.n=n/\0<f.pins)\/(c≠0/\EC s.fs (n:Int)=none/\KQ s s1 c)
def SetPost(y:GW)(x:DW)(s:St)(n:Nat)(P:AP)(b0:Nat)(g0:Sl.Pg)(B:List Nat)(w:World)(e:Ending)(w':World):Prop:=
 ∃(y1:GW)(x1:DW)(s1:St)(c:Int),FT y y1 x x1/\x1.Ok s1.d/\y1.fs.length=s1.fs.length/\Hp B w w' (stL y1 x1 s1++[Sl.pgA b0 g0])/\e=.returned (.int .i64 c)/\((c=0/\JX s s1 n P)\/IE s s1 n c)
theorem setG_spec(y:GW)(x:DW)(s:St)(ok:StOk y x s){N:Nat}(fit:s.d.Fit N)(hN:N<=400000)(hsz:∀n,0<=(Bg s n).1.size Aa)(hfl:s.fs.length<=s.many)(hh:s.fs.length=s.many->s.hand<s.fs.length)(n:Nat)(hn:n<4096)(b0:Nat)(g0:Sl.Pg)(P:AP)(hR0:Sl.Rep g0 P.1 P.2)(w:World)(st:Std w (stL y x s++[Sl.pgA b0 g0])):
  Calls Tryz.prog 50 #[.pointer (some ⟨y.pb,0,none⟩),.int .i64 (n:Int),.pointer (some ⟨b0,0,none⟩)] w fun e w'=>SetPost y x s n P b0 g0 (feet (stL y x s++[Sl.pgA b0 g0])) w e w':=by
 have hx:=ok.dk
 have hyl:=ok.fs
 apply fset.ok;unfold fset.vc
 have H:=Hp.Ap st
 generalize hB:feet (stL y x s++[Sl.pgA b0 g0])=B at H⊢
 refine AL (JI y x s ok n w H.std1) ?_
 rintro e w1 ⟨rfl,rfl⟩
 refine⟨_,rfl,AO (fun h=>by omega) (fun _=>AO (fun h=>by omega) (fun _=>⟨_,eqvFN,?_⟩))⟩
 have lay:∀(w2:World)(wb:Nat)(F:Fr)(pv:Value)(L:List Asn)(R:Ending->World->Prop),Hp B w1 w2 (.blk wb [.int .i64 (F.n:Int),pv,.int .i64 (F.pins:Int),.bool F.dirty,.bool F.used] 156::(L++[Sl.pgA b0 g0]))->
   (∀w3 b,Hp B w1 w3 (.blk wb (frC (wb,b) {F with pg:=P,dirty:=true,used:=true}) 156::BG b P::(L++[Sl.pgA b0 g0]))->R (.returned (.int .i64 0)) w3)->
   AB Tryz.prog 89 [.pointer (some ⟨b0,0,none⟩)] w2 fun e w'=>∃p,e=.returned (.pointer p)/\onP (some (⟨wb,0,none⟩:Addr)) fun a=>∃w1,Go.Vc.St Tryz.prog 99 w' (a.add 1) (.pointer p) w1/\onP (some (⟨wb,0,none⟩:Addr)) fun a=>∃w1_1,Go.Vc.St Tryz.prog 4 w1 (a.add 3) (.bool true) w1_1/\onP (some (⟨wb,0,none⟩:Addr)) fun a=>∃w1,Go.Vc.St Tryz.prog 4 w1_1 (a.add 4) (.bool true) w1/\R (.returned (.int .i64 0)) w1:=by
  intro w2 wb F pv L R K hk
  refine AL (Sl.clone_any b0 g0 w2 ⟨hR0.ok,K.blk (.tail _ (mem_append_right _ (.head _)))⟩) ?_
  rintro e w3 ⟨b,rfl,H'⟩
  have K2:=(K.ext1 H').Aq
  clear K H'
  refine⟨_,rfl,AA rfl (Hp.st (o:=1) K2 EQ4 gPG rfl rfl (by simp) (cs':=[.int .i64 (F.n:Int),.pointer (some ⟨b,0,none⟩),.int .i64 (F.pins:Int),.bool F.dirty,.bool F.used]) rfl ?_)⟩
  clear K2;intro w4 K
  refine AA rfl (Hp.st (o:=3) K EQ4 EN rfl rfl (by simp) (cs':=[.int .i64 (F.n:Int),.pointer (some ⟨b,0,none⟩),.int .i64 (F.pins:Int),.bool true,.bool F.used]) rfl ?_)
  clear K;intro w5 K
  refine AA rfl (Hp.st (o:=4) K EQ4 EN rfl rfl (by simp) (cs':=frC (wb,b) {F with pg:=P,dirty:=true,used:=true}) rfl ?_)
  clear K;intro w6 K
  exact hk w6 b (Hp.NE (P:=P) hR0 K.Aq).Aq
 cases hfd:EC s.fs (n:Int)with
 |some j=>
  obtain⟨f,hf,hfn⟩:=Kr hfd
  have hj:=(List.getElem?_eq_some_iff.1 hf).1
  obtain⟨wf,f',hw,hf'⟩:=ok.at hj
  rw[hf]at hf';cases hf'
  have hfn:f.n=n:=by omega
  subst hfn
  have hmem:=mem_of_getElem? hf
  simp only[frP,hw,Option.map_some]
  refine BI (fun _=>?_) (fun h=>by cases h)
  refine AA rfl ⟨_,H.ld (o:=2) (cs:=frC wf f) EQ4 gInt (mem_append_left _ (TU hw hf)) rfl,AO (fun h0=>?_) (fun h0=>⟨_,eqvF,CE (fun h=>by cases h) (fun _=>?_)⟩)⟩
  ·exact⟨y,x,s,120,FT.refl y x,hx,hyl,H,rfl,.inr (.inl ⟨rfl,rfl,f,hmem,rfl,by omega⟩)⟩
  ·have H2:Hp B w1 w1 (.blk wf.1 (frC wf f) 156::((BG wf.2 f.pg::stK y x s j)++[Sl.pgA b0 g0])):=H.perm ((Nc hw hf).append_right _)
   refine lay w1 wf.1 f _ _ _ H2 ?_
   clear H2 H;intro w3 b H
   have H2:Hp B w1 w3 (stL {y with fs:=y.fs.set j (wf.1,b)} x {s with fs:=s.fs.set j {f with pg:=P,dirty:=true,used:=true}}++[Sl.pgA b0 g0]):=by
    have H3:Hp B w1 w3 (((frL (wf.1,b) {f with pg:=P,dirty:=true,used:=true}++stK y x s j)++[Sl.pgA b0 g0])++[BG wf.2 f.pg]):=H.perm (by rw[frL];(refine AC fun ff gg h0 hc ha hpm=>?_;simp only[ha,hc,h0];omega))
    exact(H3.BQ).perm ((Yu (x:=x) (w':=(wf.1,b)) hw hj hyl rfl _).symm.append_right _)
   exact⟨{y with fs:=y.fs.set j (wf.1,b)},x,{s with fs:=s.fs.set j {f with pg:=P,dirty:=true,used:=true}},0,⟨rfl,rfl,rfl,rfl,rfl⟩,hx,by simp[hyl],H2,rfl,.inl ⟨rfl,.inl ⟨j,f,hfd,hf,rfl,by omega,rfl⟩⟩⟩
 |none=>
  refine BI (fun h=>by cases h) (fun _=>⟨_,eqvF,CE (fun _=>?_) (fun h=>by cases h)⟩)
  refine AL (VD y x s ok fit hN hsz hfl hh n (by omega) none w1 H.std1) ?_
  rintro e w3 (⟨y1,x1,s1,k,fb,rfl,hS,hx1,hl1,hk,hoth,hF,H'⟩|⟨y1,x1,s1,c,hc,rfl,hS,hx1,hl1,hF,H'⟩)
  ·have H3:=H.useL H'
   clear H H'
   refine⟨_,_,rfl,Aw (fun h=>absurd rfl h) (fun _=>?_)⟩
   refine lay w3 fb ⟨n,P,0,false,true⟩ _ _ _ H3 ?_
   clear H3;intro w4 b H
   have H2:Hp B w1 w4 (stL {y1 with fs:=y1.fs.set k (fb,b)} x1 {s1 with fs:=s1.fs.set k ⟨n,P,0,true,true⟩,pages:=max s1.pages (n+1)}++[Sl.pgA b0 g0]):=by
    have H3:Hp B w1 w4 ((.blk fb (frC (fb,b) ⟨n,P,0,true,true⟩) 156::BG b P::holdL y1 x1 s1 k fb n)++[Sl.pgA b0 g0]):=H
    exact H3.perm ((U0 (p:=b) hk hl1 ⟨n,P,0,true,true⟩).append_right _)
   exact⟨{y1 with fs:=y1.fs.set k (fb,b)},x1,{s1 with fs:=s1.fs.set k ⟨n,P,0,true,true⟩,pages:=max s1.pages (n+1)},0,⟨hS.jb,hS.jc,hS.pb,hS.lwb,hS.xb⟩,hx1,by simp[hl1],H2,rfl,.inl ⟨rfl,.inr ⟨s1,k,hfd,hF,hk,rfl⟩⟩⟩
  ·have H3:=H.useL H'
   clear H H'
   refine⟨_,_,rfl,Aw (fun _=>?_) (fun h=>absurd h hc)⟩
   exact⟨y1,x1,s1,c,hS,hx1,by rw[hl1,hF.len];exact hyl,H3,rfl,.inr (.inr ⟨hc,hfd,hF⟩)⟩
structure Safe(I:Nat->St->Prop)(D:Nat->Prop):Prop where
 fit:∀c s,I c s->s.d.Fit 400000
 lg:∀c s,I c s->LgB s.lg
 size:∀c s,I c s->∀n,0<=(Bg s n).1.size Aa
 wrote:∀(c:Nat)(s:St)(f:Fr)(g:Sl.Pg),I c s->c<64->D f.n->f.n<4096->Sl.Rep g f.pg.1 f.pg.2->I (c+1) (s.wrote f g.bs)
 fs:∀(c:Nat)(s:St)(fs:List Fr)(h p:Nat),I c s->I c {s with fs:=fs,hand:=h,pages:=p}
inductive E5:List Int->St->St->Int->Prop where
 |nil (s:St):E5 [] s s 0
 |ok (z:Int) (l:List Int) (s s':St) (c:Int) (j:Nat) (f:Fr) (g:Sl.Pg):EC s.fs z=some j->s.fs[j]? =some f->(f.n:Int)=z->Sl.Rep g f.pg.1 f.pg.2->DK s f g.bs=0->
   E5 l {s.wrote f g.bs with fs:=s.fs.set j {f with dirty:=false}} s' c->E5 (z::l) s s' c
 |bad (z:Int) (l:List Int) (s:St) (j:Nat) (f:Fr) (g:Sl.Pg):EC s.fs z=some j->s.fs[j]? =some f->(f.n:Int)=z->Sl.Rep g f.pg.1 f.pg.2->DK s f g.bs≠0->E5 (z::l) s (s.wrote f g.bs) (DK s f g.bs)
def Hm(s s1:St)(c:Int):Prop:=
 (0<(nums NC s.fs).length/\c=120/\s1=s)\/
 ((nums NC s.fs).length=0/\∃(s2:St)(c2:Int),E5 (Eh (nums Em s.fs)) s s2 c2/\((c2≠0/\c=c2/\s1=s2)\/(c2=0/\c=(s2.d.sync Aa).2/\s1= {s2 with d:=(s2.d.sync Aa).1})))
def FlushPost(y:GW)(x:DW)(s:St)(B:List Nat)(w:World)(e:Ending)(w':World):Prop:=
 ∃(y1:GW)(x1:DW)(s1:St)(c:Int),FT y y1 x x1/\x1.Ok s1.d/\y1.fs.length=s1.fs.length/\Hp B w w' (stL y1 x1 s1)/\e=.returned (.int .i64 c)/\Hm s s1 c
theorem EL{z:Int}{l:List Int}:z∈Eh l↔z∈l:=(List.mergeSort_perm l _).mem_iff
theorem wr_turn{y:GW}{x:DW}{s:St}{k:Nat}{w:Nat×Nat}(hw:y.fs[k]? =some w)(hk:k<s.fs.length)(hl:y.fs.length=s.fs.length)(F:Fr):(stL y x {s with fs:=s.fs.set k F}).Perm (wrL y x s w F++(fsA y s::frsL (y.fs.eraseIdx k) (s.fs.eraseIdx k))):=by
 have hp:=Np (x:=x) hw hk hl F
 refine hp.trans ?_
 rw[frL,stK,wrL]
 (refine AC fun ff gg h0 hc ha hpm=>?_;simp only[ha,hc,h0];omega)
theorem flushG_spec{I:Nat->St->Prop}{D:Nat->Prop}(hI:Safe I D)(y:GW)(x:DW)(s:St)(ok:StOk y x s)(hs:I 0 s)(hD:∀f∈s.fs,f.dirty=true->D f.n)(w:World)(st:Std w (stL y x s)):
  Calls Tryz.prog 51 #[.pointer (some ⟨y.pb,0,none⟩)] w fun e w'=>FlushPost y x s (feet (stL y x s)) w e w':=by
 have hx:=ok.dk
 have hyl:=ok.fs
 apply fflush.ok;unfold fflush.vc
 have S:=Hp.Ap st
 generalize hB:feet (stL y x s)=B at S⊢
 refine AL (Mc y x s ok NC _ w st fun w' wf f h=>fflushC_x w' wf f h) ?_
 rintro e w1 ⟨a0,c0,rfl,H0⟩
 have H1:=S.chg0 H0.chg
 clear S H0
 refine⟨_,_,_,rfl,AO (fun h=>?_) (fun h=>?_)⟩
 ·exact⟨y,x,s,120,FT.refl y x,hx,hyl,H1,rfl,.inl ⟨by omega,rfl,rfl⟩⟩
 ·have hz:(nums NC s.fs).length=0:=by omega
  refine AL (dirty_spec y x s ok w1 H1.std) ?_
  rintro e w2 ⟨a,c,rfl,H'⟩
  obtain⟨L,hL⟩:∃L,L=Eh (nums Em s.fs):=⟨_,rfl⟩
  have hLl:(nums Em s.fs).length=L.length:=by rw[hL,FB]
  have hLle:L.length<=64:=by
   rw[<- hLl,nums,length_map]
   have:=List.length_filter_le Em s.fs
   have:=ok.len
   omega
  have hLD:∀z∈L,∀n:Nat,(n:Int)=z->D n:=by
   intro z hz2 n hn
   rw[hL]at hz2
   obtain⟨f,hf,e⟩:=mem_map.1 (EL.1 hz2)
   obtain⟨h1,h2⟩:=mem_filter.1 hf
   have:n=f.n:=by omega
   rw[this];exact hD f h1 h2
  have hLm:∀z∈L,z∈s.fs.map fun f=>(f.n:Int):=by
   intro z hz2
   rw[hL]at hz2
   obtain⟨f,hf,e⟩:=mem_map.1 (EL.1 hz2)
   exact mem_map.2 ⟨f,(mem_filter.1 hf).1,e⟩
  rw[<- hL,hLl]at H'
  rw[hLl]
  have H2:Hp B w w2 (stL y x s++[.own 3 1 a L.length c (L.map (.int .i64))]):=(H1.ext H').perm perm_append_comm
  clear H1 H'
  refine⟨_,_,_,rfl,?_⟩
  refine Ae.mk (fun m (i:Int) w'=>∃(k:Nat)(y1:GW)(x1:DW)(s1:St),m=L.length-k/\k<=L.length/\i=(k:Int)/\FT y y1 x x1/\x1.Ok s1.d/\y1.fs=y.fs/\s1.fs.map (fun f=>(f.n:Int))=s.fs.map (fun f=>(f.n:Int))/\I k s1/\
   (∀f∈s1.fs,f.n<4096/\f.pins<=1000000)/\s1.hand=s.hand/\s1.pages=s.pages/\s1.many=s.many/\(∀s' c',E5 (L.drop k) s1 s' c'->E5 L s s' c')/\Hp B w w' (stL y1 x1 s1++[.own 3 1 a L.length c (L.map (.int .i64))])) L.length
   ⟨0,y,x,s,rfl,by omega,rfl,FT.refl y x,hx,rfl,rfl,hs,fun f hf=>⟨ok.num f hf,ok.pins f hf⟩,rfl,rfl,rfl,fun _ _ h=>h,H2⟩ ?_
  clear H2 w1 w2
  rintro m i w1 next ⟨k,y1,x1,s1,rfl,hk,rfl,hS,hx1,hyf,hmap,hI1,hfr,hhand,hpgs,hmany,hlink,H⟩ hnext
  have hsl:s1.fs.length=s.fs.length:=by have:=congrArg List.length hmap;simpa using this
  have hy1l:y1.fs.length=s1.fs.length:=by rw[hyf,hsl];exact hyl
  have ok1:StOk y1 x1 s1:=⟨hy1l,by rw[hS.jc,hS.lwb];exact ok.env,hx1,by rw[hsl];exact ok.len,fun f hf=>(hfr f hf).1,fun f hf=>(hfr f hf).2,.inr (hI.lg _ s1 hI1),by rw[hhand];exact ok.hand,by rw[hpgs];exact ok.pages,by rw[hmany];exact ok.many⟩
  have epb:=hS.pb
  rw[<- epb]
  refine AO (fun h2=>?_) (fun h2=>?_)
  ·have hkl:k<L.length:=by omega
   have hown:=(H.ownA (mem_append_right _ (.head _))).cells
   have hat:(L.map (Value.int .i64))[k]? =some (.int .i64 L[k]):=by simp[hkl]
   obtain⟨ad,had,_⟩:=hown _ _ hat
   have e1:Int.toNat (k:Int)*1=k:=by omega
   refine AA had ⟨⟨by omega,by omega⟩,_,by rw[e1];exact hown.ld gInt had hat,?_⟩
   refine AL (JI y1 x1 s1 ok1 _ w1 H.std1) ?_
   rintro e w2 ⟨rfl,rfl⟩
   have hdk:L.drop k=L[k]::L.drop (k+1):=List.drop_eq_getElem_cons hkl
   have hmz:=hLm _ (getElem_mem hkl)
   rw[<- hmap]at hmz
   obtain⟨f0,hf0,ef0⟩:=mem_map.1 hmz
   cases hfd:EC s1.fs L[k]with
   |none=>exact absurd ef0 (Ze hfd f0 hf0)
   |some j=>
    obtain⟨f,hf,hfn⟩:=Kr hfd
    have hj:=(List.getElem?_eq_some_iff.1 hf).1
    have hmem:=mem_of_getElem? hf
    obtain⟨wf,f',hw,hf'⟩:=ok1.at hj
    rw[hf]at hf';cases hf'
    simp only[frP,hw,Option.map_some]
    refine⟨_,rfl,?_⟩
    have H3:Hp B w w2 (wrL y1 x1 s1 wf f++((fsA y1 s1::frsL (y1.fs.eraseIdx j) (s1.fs.eraseIdx j))++[.own 3 1 a L.length c (L.map (.int .i64))])):=by
     rw[<- append_assoc]
     exact H.perm ((QR hw hf).append_right _)
    clear H hown
    refine AL (PI y1 x1 s1 ok1 (hI.lg _ s1 hI1) (hI.fit _ s1 hI1) (Nat.le_refl _) wf f (hI.size _ s1 hI1 f.pg.2) (hfr f hmem).1 w2 H3.std1) ?_
    rintro e w3 ⟨g,hR,rfl,x2,l2,hx2b,hl2b,hx2,H'⟩
    have H4:=H3.useL H'
    clear H3 H'
    have hS2:FT y {y1 with lw:=l2} x x2:=⟨hS.jb,hS.jc,hS.pb,hl2b.trans hS.lwb,hx2b.trans hS.xb⟩
    refine⟨_,rfl,Aw (fun hE=>?_) (fun hE=>?_)⟩
    ·have hfw:f.wrote (DK s1 f g.bs)=f:=by rw[Fr.wrote,if_neg hE]
     rw[hfw]at H4
     have H5:Hp B w w3 (stL {y1 with lw:=l2} x2 (s1.wrote f g.bs)++[.own 3 1 a L.length c (L.map (.int .i64))]):=by
      refine H4.perm ?_
      rw[<- append_assoc]
      exact((QR (y:= {y1 with lw:=l2}) (x:=x2) (s:=s1.wrote f g.bs) hw hf).symm.append_right _)
     refine⟨{y1 with lw:=l2},x2,s1.wrote f g.bs,_,hS2,hx2,hy1l,H5.BQ,rfl,.inr ⟨hz,s1.wrote f g.bs,_,?_,.inl ⟨hE,rfl,rfl⟩⟩⟩
     rw[<- hL]
     refine hlink _ _ ?_
     rw[hdk]
     exact .bad _ _ _ j f g hfd hf hfn hR hE
    ·have hfw:f.wrote (DK s1 f g.bs)= {f with dirty:=false}:=by rw[Fr.wrote,if_pos hE]
     rw[hfw]at H4
     have H5:Hp B w w3 (stL {y1 with lw:=l2} x2 {s1.wrote f g.bs with fs:=s1.fs.set j {f with dirty:=false}}++[.own 3 1 a L.length c (L.map (.int .i64))]):=by
      refine H4.perm ?_
      rw[<- append_assoc]
      exact(wr_turn (y:= {y1 with lw:=l2}) (x:=x2) (s:=s1.wrote f g.bs) hw hj hy1l {f with dirty:=false}).symm.append_right _
     refine⟨AY.2 (by omega),hnext (L.length-(k+1)) _ _ (by omega) ⟨k+1,{y1 with lw:=l2},x2,{s1.wrote f g.bs with fs:=s1.fs.set j {f with dirty:=false}},rfl,by omega,by omega,hS2,hx2,hyf,?_,?_,?_,hhand,hpgs,hmany,?_,H5⟩⟩
     ·show(s1.fs.set j _).map _=_
      rw[map_set,<- hmap]
      exact Xn (by rw[List.getElem?_map,hf];rfl)
     ·exact hI.fs _ (s1.wrote f g.bs) _ _ _ (hI.wrote k s1 f g hI1 (by omega) (hLD _ (getElem_mem hkl) f.n hfn) (hfr f hmem).1 hR)
     ·intro h hh
      rcases List.mem_or_eq_of_mem_set hh with h1|rfl
      ·exact hfr h h1
      ·exact hfr f hmem
     ·intro s' c' hfl
      refine hlink _ _ ?_
      rw[hdk]
      exact .ok _ _ _ _ _ j f g hfd hf hfn hR hE hfl
  ·have hke:k=L.length:=by omega
   subst hke
   clear hnext
   have H3:=H.BQ
   clear H
   refine AA rfl ⟨_,H3.ld (o:=0) (cs:=BL y1 x1 s1) EQ4 gPD (.head _) rfl,AA rfl ⟨_,H3.ld (o:=1) (cs:=BL y1 x1 s1) EQ4 gStr (.head _) rfl,?_⟩⟩
   have H4:Hp B w w1.drew (dkL x1 s1.d++(BN y1 x1 s1::fsA y1 s1::(CQ y1 x1 s1++frsL y1.fs s1.fs))):=H3.drew.perm (by rw[stL];(refine AC fun ff gg h0 hc ha hpm=>?_;simp only[ha,hc,h0];omega))
   clear H3
   refine AL (O0 x1 s1.d hx1 (hI.fit _ s1 hI1).few (by omega) Aa w1.drew H4.std1) ?_
   rintro e w2 ⟨rfl,x2,hx2b,hx2,H'⟩
   have H5:=H4.useL H'
   clear H4 H'
   refine⟨_,rfl,?_⟩
   have H6:Hp B w w2 (stL y1 x2 {s1 with d:=(s1.d.sync Aa).1}):=by
    refine H5.perm ?_
    have e1:BN y1 x2 {s1 with d:=(s1.d.sync Aa).1}=BN y1 x1 s1:=by simp[BN,BL,hx2b]
    have e2:CQ y1 x2 {s1 with d:=(s1.d.sync Aa).1}=CQ y1 x1 s1:=by simp[CQ,hx2b]
    rw[stL,e1,e2]
    show List.Perm (dkL x2 (s1.d.sync Aa).1++(BN y1 x1 s1::fsA y1 s1::(CQ y1 x1 s1++frsL y1.fs s1.fs))) (BN y1 x1 s1::fsA y1 s1::(CQ y1 x1 s1++(frsL y1.fs s1.fs++dkL x2 (s1.d.sync Aa).1)))
    (refine AC fun ff gg h0 hc ha hpm=>?_;simp only[ha,hc,h0];omega)
   refine⟨y1,x2,{s1 with d:=(s1.d.sync Aa).1},_,⟨hS.jb,hS.jc,hS.pb,hS.lwb,hx2b.trans hS.xb⟩,hx2,hy1l,H6,rfl,.inr ⟨hz,s1,0,?_,.inr ⟨rfl,rfl,rfl⟩⟩⟩
   rw[<- hL]
   refine hlink _ _ ?_
   rw[List.drop_length]
   exact .nil s1
theorem gU8:Scl Tryz.prog 5:=BP (by kernel_rfl)
theorem Zb:Tryz.prog.underlying 9=some .string:=by kernel_rfl
theorem VU:Tryz.prog.underlying 5=some (.int .u8):=by kernel_rfl
theorem Gj(l:List UInt8)(hl:l.length<=6)(w:World):Calls Tryz.prog 112 #[.string ⟨l.toArray⟩] w fun e w'=>e=.returned (.int .i64 (valN l:Int))/\Hp [] w w' []:=by
 apply jval.ok;unfold jval.vc
 have hsz:(ByteArray.mk l.toArray).size=l.length:=by simp[ByteArray.size]
 refine Hp.s2b (Hp.start w) EQ4 Zb Yz VU (by rw[hsz];simp only[maxLen];omega) ?_
 intro a c w1 H
 rw[hsz,Di]at H
 rw[hsz]
 have hv:=JG l
 have h6:256^l.length<=256^6:=Nat.pow_le_pow_right (by omega) hl
 have h7:(256:Nat)^6=281474976710656:=by decide
 refine Ae.mk (fun m s w'=>∃k:Nat,m=l.length-k/\k<=l.length/\s=((valN (l.take k):Int),(k:Int))/\Hp [] w w' [.own 5 1 a l.length c (bQ l)]) l.length ⟨0,rfl,by omega,rfl,H⟩ ?_
 clear H
 rintro m s w' next ⟨k,rfl,hk,rfl,H⟩ hnext
 dsimp only
 refine AO (fun h1=>?_) (fun h1=>?_)
 ·have hkl:k<l.length:=by omega
  have hown:=(H.ownA (.head _)).cells
  have hat:(bQ l)[k]? =some (.int .u8 ((l[k]).toNat:Int)):=by simp[bQ,hkl]
  obtain⟨ad,had,_⟩:=hown _ _ hat
  have e1:Int.toNat (k:Int)*1=k:=by omega
  have hts:=Gt l k hkl
  have hmo:=valN_mono l (k+1)
  have hlt:=(l[k]).toNat_lt
  have e3:(2:Int)^min (Int.toNat 8) (IntKind.bits .i64)=256:=by decide
  refine AA had ⟨⟨by omega,h1⟩,_,by rw[e1];exact hown.ld gU8 had hat,by omega,AY.2 (by rw[e3];omega),AY.2 (by omega),?_⟩
  rw[X7 _ _ (by omega) hlt,<- hts]
  exact hnext (l.length-(k+1)) _ _ (by omega) ⟨k+1,rfl,by omega,by simp,H⟩
 ·have hke:k=l.length:=by omega
  subst hke
  rw[take_length]
  exact⟨rfl,H.drop⟩
def nbS(n:Int)(m k:Nat):List UInt8:=(be n m).take k++List.replicate (m-k) 0
theorem nbS_len(n:Int){m k:Nat}(hk:k<=m):(nbS n m k).length=m:=by
 simp only[nbS,length_append,length_take,length_replicate,AU];omega
theorem nbS_succ(n:Int){m k:Nat}(hk:k<m):(nbS n m k).set k (bt n (m-1-k))=nbS n m (k+1):=by
 have hl:((be n m).take k).length=k:=by rw[length_take,AU];omega
 obtain⟨hb,he⟩:=List.getElem?_eq_some_iff.1 (Sl.YO n m k hk)
 unfold nbS
 rw[set_append,if_neg (by omega),hl,Nat.sub_self,show m-k=(m-(k+1))+1 by omega,List.replicate_succ,set_cons_zero,List.take_succ_eq_append_getElem hb,he,append_assoc]
 rfl
theorem made_zeros(n:Nat):(madeCells (Value.int .u8 0).cells (n*1)).toList=List.replicate n (Value.int .u8 0):=by
 apply ext_getElem?
 intro k
 rw[Nat.mul_one]
 by_cases hk:k<n
 ·have:(madeCells (Value.int .u8 0).cells n).toList.length=n:=by rw[Array.length_toList,size_madeCells]
  rw[List.getElem?_eq_getElem (by omega),List.getElem?_replicate,if_pos hk]
  simp[madeCells,Value.cells,Nat.mod_one]
 ·rw[List.getElem?_eq_none (by rw[Array.length_toList,size_madeCells];omega),List.getElem?_replicate,if_neg hk]
theorem made8(m:Nat):(madeCells (Value.int .u8 0).cells (m*1)).toList=bQ (List.replicate m 0):=by
 rw[made_zeros];simp[bQ]
theorem IZ(n:Nat)(hn:n<=9223372036854775807)(m:Nat)(hm:m<=8)(w:World):Calls Tryz.prog 57 #[.int .i64 (n:Int),.int .i64 (m:Int)] w fun e w'=>e=.returned (.string ⟨(be (n:Int) m).toArray⟩)/\Hp [] w w' []:=by
 apply jnum.ok;unfold jnum.vc
 have em:Int.toNat (m:Int)=m:=by omega
 refine Hp.mkS Yr (Hp.start w) EQ4 (by omega) (by rw[em];simp only[maxLen];omega) (by omega) gzU ?_
 intro a w1 H
 rw[em,made8]at H
 rw[em]
 refine Ae.mk (fun q s w'=>∃k:Nat,q=m-k/\k<=m/\s=(k:Int)/\Hp [] w w' [.own 5 1 a m m (bQ (nbS (n:Int) m k))]) m ⟨0,rfl,by omega,rfl,by rw[nbS];exact H⟩ ?_
 clear H
 rintro q s w' next ⟨k,rfl,hk,rfl,H⟩ hnext
 have hlen:=nbS_len (n:Int) hk
 refine AO (fun h3=>?_) (fun h3=>?_)
 ·have hkm:k<m:=by omega
  have hbl:(bQ (nbS (n:Int) m k)).length=m:=by rw[AQ,hlen]
  obtain⟨ad,had,_⟩:=(H.ownA (.head _)).at (j:=k) (by rw[hbl];exact hkm)
  refine⟨AY.2 (by omega),AY.2 (by omega),AY.2 (by omega),by omega,AA had ⟨⟨by omega,by omega⟩,?_⟩⟩
  have e1:Int.toNat (k:Int)*1=k:=by omega
  have e2:8*((m:Int)-1-(k:Int))=8*((m-1-k:Nat):Int):=by omega
  rw[e1,e2,Js (n:Int) (m-1-k) (by omega) _ rfl]
  refine Hp.stO1 H EQ4 gU8 had rfl rfl (by rw[hbl];exact hkm) ?_
  clear H
  intro w2 H
  refine⟨AY.2 (by omega),hnext (m-(k+1)) _ _ (by omega) ⟨k+1,rfl,by omega,by omega,?_⟩⟩
  have e:(bQ (nbS (n:Int) m k)).set k (.int .u8 ((bt (n:Int) (m-1-k)).toNat:Int))=bQ (nbS (n:Int) m (k+1)):=by
   rw[<- nbS_succ _ hkm];simp[bQ,map_set]
  rw[e]at H
  exact H
 ·have hke:k=m:=by omega
  subst hke
  have e:nbS (n:Int) k k=be (n:Int) k:=by
   rw[nbS,take_of_length_le (by rw[AU];exact Nat.le_refl _),Nat.sub_self];simp
  rw[e]at H
  exact⟨_,b2s Yz VU Zb (by rw[Di];exact(H.ownA (.head _)).cells) (by simp[ByteArray.size,AU]),rfl,H.drop⟩
end Go.Proofs.YtdeebigmpffnbaaGreat
namespace Go.Vc
def fnTB(P:Program)(t:TypeId):Bool:=match P.underlying t with
 |some (.func _ _ _)=>true
 |_=>false
theorem eqv_fnE{P:Program}{t:TypeId}{f:Fn}{fi ca:Array Value}{x y:Operand}{w:World}(h:fnTB P t=true):Eqv P .eql t x y w (.func f fi ca) .nilFunc false:=by
 have hd:∃a b c,P.underlying t=some (.func a b c):=by
  unfold fnTB at h
  split at h
  ·rename_i a b c e;exact⟨a,b,c,e⟩
  ·cases h
 obtain⟨a,b,c,hu⟩:=hd
 have h1:∀d:Nat,(Op.equalIn (d+1) t (.func f fi ca) .nilFunc).run P w=.ok false w:=fun d=>by
  simp[Op.equalIn,run_underlying hu]
 have h2:(Op.equal t (.func f fi ca) .nilFunc).run P w=.ok false w:=h1 9999
 have h3:(binOp .eql t (.func f fi ca) .nilFunc).run P w=.ok (.bool false) w:=by
  have e:binOp .eql t (.func f fi ca) .nilFunc=(do return .bool (<- Op.equal t (.func f fi ca) .nilFunc)):=rfl
  rw[e]
  simp only[Sem.run_bind,h2,Result.andThen_ok,Sem.run_pure]
 have hg:(eqGuard .eql t x y (.func f fi ca) .nilFunc).run P w=.ok () w:=rfl
 simp only[Eqv,Sem.run_bind,hg,Result.andThen_ok,h3]
end Go.Vc
namespace Go.Proofs.YtdeebigmpffnbaaGreat
open Go Go.Vc Go.Vault Go.Redo
def Au(d:Dk):Dk×Int:=if d.size Aa<0 then d.create Aa else(d,0)
def D9(d:Dk):Nat:=(Int.tdiv (d.size Aa+8-1) 8).toNat
theorem QQ{d:Dk}{N:Nat}(h:d.Fit N)(n:ByteArray): -1<=d.size n/\d.size n<=(N:Int):=by
 rw[Dk.size]
 split
 ·next k _=>
  have:=Dk.Vd h.now k
  omega
 ·omega
theorem pagesP_eq{d:Dk}{N:Nat}(h:d.Fit N):Int.tdiv (d.size Aa+8-1) 8=(D9 d:Int)/\(D9 d:Int)<=(N:Int)+7:=by
 have hs:=QQ h Aa
 have e:Int.tdiv (d.size Aa+8-1) 8=(d.size Aa+8-1)/8:=Int.tdiv_eq_ediv_of_nonneg (by omega)
 rw[D9,e]
 omega
def VF(x:DW)(jb many pages:Nat):List Value:=[.pointer (some ⟨x.b,0,none⟩),.string Aa,.int .i64 (many:Int),O5 jb,.slice none 0 0,.int .i64 0,.int .i64 (pages:Int)]
def UO(x:DW)(d:Dk)(many jb:Nat)(w:World)(e:Ending)(w':World):Prop:=
 ∃x':DW,x'.b=x.b/\x'.Ok (Au d).1/\
  (((Au d).2≠0/\e=.returned (.tuple #[.pointer none,.int .i64 (Au d).2])/\Hp (feet (dkL x d)) w w' (dkL x' (Au d).1))\/
   ((Au d).2=0/\∃pb,e=.returned (.tuple #[.pointer (some ⟨pb,0,none⟩),.int .i64 0])/\Hp (feet (dkL x d)) w w' (.blk pb (VF x jb many (D9 (Au d).1)) 134::dkL x' (Au d).1)))
theorem fopenG_spec(x:DW)(d:Dk)(hok:x.Ok d){N:Nat}(fit:d.Fit N)(hN:N<=400000)(many:Nat)(hm:4<=many/\many<=64)(jb:Nat)(w:World)(st:Std w (dkL x d)):
  Calls Tryz.prog 38 #[.pointer (some ⟨x.b,0,none⟩),.string Aa,.int .i64 (many:Int),O5 jb] w (UO x d many jb w):=by
 apply cZ.ok;unfold cZ.vc UO
 have H:=Hp.Ap st
 generalize hB:feet (dkL x d)=B at H⊢
 refine AO (fun h=>by omega) (fun _=>AO (fun h=>by omega) (fun _=>⟨_,eqv_fnE (by kernel_rfl),CE (fun h=>by cases h) (fun _=>?_)⟩))
 refine AL (Ic x d hok Aa w st) ?_
 rintro e w1 ⟨rfl,H'⟩
 replace H:=H.ext0 H';clear H'
 have fin:∀(x':DW)(w2:World),x'.b=x.b->x'.Ok (Au d).1->(Au d).2=0->(Au d).1.Fit (N+1)->Hp B w w2 (dkL x' (Au d).1)->AB Tryz.prog 67 [.pointer (some ⟨x.b,0,none⟩),.string Aa] w2 fun e w'=>∃i,e=.returned (.int .i64 i)/\inR .i64 (i+8)/\inR .i64 (i+8-1)/\(8:Int)≠0/\inR .i64 (Int.tdiv (i+8-1) 8)/\
   ∀b w1,New w' (.cells #[.pointer (some ⟨x.b,0,none⟩),.string Aa,.int .i64 (many:Int),O5 jb,.slice none 0 0,.int .i64 0,.int .i64 (Int.tdiv (i+8-1) 8)] 134) b w1->
    ∃x':DW,x'.b=x.b/\x'.Ok (Au d).1/\(((Au d).2≠0/\Ending.returned (.tuple #[.pointer (some ⟨b,0,none⟩),.int .i64 0])=.returned (.tuple #[.pointer none,.int .i64 (Au d).2])/\Hp B w w1 (dkL x' (Au d).1))\/
     ((Au d).2=0/\∃pb,Ending.returned (.tuple #[.pointer (some ⟨b,0,none⟩),.int .i64 0])=.returned (.tuple #[.pointer (some ⟨pb,0,none⟩),.int .i64 0])/\Hp B w w1 (.blk pb (VF x jb many (D9 (Au d).1)) 134::dkL x' (Au d).1))):=by
  intro x' w2 hb hx' h0 hfit K
  have hsp:=Ic x' (Au d).1 hx' Aa w2 K.std
  rw[hb]at hsp
  refine AL hsp ?_
  clear hsp
  rintro e w3 ⟨rfl,K'⟩
  replace K:=K.ext0 K';clear K'
  have hs:=QQ hfit Aa
  obtain⟨hp1,hp2⟩:=pagesP_eq hfit
  refine⟨_,rfl,AY.2 (by omega),AY.2 (by omega),by omega,by rw[hp1];exact AY.2 (by omega),?_⟩
  intro b w4 hn
  rw[hp1]at hn
  exact⟨x',hb,hx',.inr ⟨h0,b,rfl,by rw[VF];exact K.new (cs:=[_,_,_,_,_,_,_]) EQ4 hn⟩⟩
 refine⟨_,rfl,AO (fun hneg=>?_) (fun hpos=>?_)⟩
 ·have hP:Au d=d.create Aa:=if_pos hneg
  refine AL (PS x d hok (by have:=fit.chs;omega) (by have:=fit.files;omega) Aa w1 H.std) ?_
  rintro e w2 ⟨rfl,x',hx'b,hx',H'⟩
  replace H:=H.Dq H';clear H'
  refine⟨_,rfl,Aw (fun h=>?_) (fun h=>?_)⟩
  ·exact⟨x',hx'b,by rw[hP];exact hx',.inl ⟨by rw[hP];exact h,by rw[hP],by rw[hP];exact H⟩⟩
  ·exact fin x' w2 hx'b (by rw[hP];exact hx') (by rw[hP];exact h) (by rw[hP];exact Fit.create fit Aa) (by rw[hP];exact H)
 ·have hP:Au d=(d,0):=if_neg hpos
  exact fin x w1 rfl (by rw[hP];exact hok) (by rw[hP]) (by rw[hP];exact fit.mono (by omega)) (by rw[hP];exact H)
theorem gSP:Scl Tryz.prog 89:=BP (by kernel_rfl)
theorem geltP:Elt Tryz.prog 89 99 1 8:=FP (by kernel_rfl)
theorem gundSP:Tryz.prog.underlying 89=some (.slice 99):=by kernel_rfl
structure JP where
 pa:Option Addr
 pc:Nat
 bs:List Nat
def jcV(a b c:Value)(p:JP)(t:Option Nat)(wt:Int):List Value:=[a,b,c,.slice p.pa p.bs.length p.pc,.map t,.int .i64 wt]
def EH(bs:List Nat):List Value:=bs.map fun b=>.pointer (some ⟨b,0,none⟩)
def jpL(jb:Nat)(a b c:Value)(p:JP)(t:Option Nat)(wt:Int)(Ps:List AP):List Asn:=
 .blk jb (jcV a b c p t wt) 91::.own 99 1 p.pa p.bs.length p.pc (EH p.bs)::List.zipWith BG p.bs Ps
def CS(Ps:List AP)(m:Nat):List AP:=Ps++List.replicate (m-Ps.length) ([],0)
theorem growP_step{Ps:List AP}{m:Nat}(h:Ps.length<m):CS (Ps++[([],0)]) m=CS Ps m:=by
 rw[CS,CS,append_assoc,length_append,show m-Ps.length=(m-(Ps.length+1))+1 by omega,List.replicate_succ]
 rfl
theorem growP_none{Ps:List AP}{m:Nat}(h:m<=Ps.length):CS Ps m=Ps:=by
 rw[CS,Nat.sub_eq_zero_of_le h];simp
theorem Gy(jb:Nat)(va vb vc:Value)(p:JP)(t:Option Nat)(wt:Int)(Ps:List AP)(hl:p.bs.length=Ps.length)(hsz:Ps.length<=4096)(n:Nat)(hn:n<4096)(w:World)(st:Std w (jpL jb va vb vc p t wt Ps)):
  Calls Tryz.prog 58 #[.pointer (some ⟨jb,0,none⟩),.int .i64 (n:Int)] w fun e w'=>∃(p':JP)(b:Nat),e=.returned (.pointer (some ⟨b,0,none⟩))/\p'.bs[n]? =some b/\p'.bs.length=(CS Ps (n+1)).length/\Hp (feet (jpL jb va vb vc p t wt Ps)) w w' (jpL jb va vb vc p' t wt (CS Ps (n+1))):=by
 apply jpage.ok;unfold jpage.vc
 have H:=Hp.Ap st
 generalize hB:feet (jpL jb va vb vc p t wt Ps)=B at H⊢
 refine Ae.mk (fun m (s:PUnit) w'=>∃(p1:JP)(Qs:List AP),m=(n+1)-Qs.length/\p1.bs.length=Qs.length/\Qs.length<=4096/\CS Qs (n+1)=CS Ps (n+1)/\Hp B w w' (jpL jb va vb vc p1 t wt Qs)) ((n+1)-Ps.length) ⟨p,Ps,rfl,hl,hsz,rfl,H⟩ ?_
 clear H
 rintro m s w1 next ⟨p1,Qs,rfl,hl1,hsz1,hg,H⟩ hnext
 rw[jpL]at H
 refine AA rfl ⟨_,_,_,H.ld (o:=3) (cs:=jcV va vb vc p1 t wt) EQ4 gSP (.head _) rfl,AO (fun h1=>?_) (fun h1=>?_)⟩
 ·have hlt:Qs.length<=n:=by omega
  refine AA rfl ⟨_,_,_,H.drew.ld (o:=3) (cs:=jcV va vb vc p1 t wt) EQ4 gSP (.head _) rfl,?_⟩
  refine AL (Sl.new_any _) ?_
  rintro e w2 ⟨b,rfl,H'⟩
  have H2:=H.drew.ext1 H'
  clear H H'
  refine⟨_,rfl,H2.ld (o:=3) (cs:=jcV va vb vc p1 t wt) EQ4 gSP (.tail _ (.head _)) rfl,?_⟩
  intro b1 w3 hn1
  have H3:=H2.new (cs:=[.pointer (some ⟨b,0,none⟩)]) EQ4 hn1
  clear H2 hn1
  refine⟨H3.ld (o:=3) (cs:=jcV va vb vc p1 t wt) EQ4 gSP (.tail _ (.tail _ (.head _))) rfl,?_⟩
  have H4:=H3.BM
  clear H3
  refine Hp.app geltP (by omega) H4 EQ4 (Blk.src (n:=1) gundSP (H4.blk (.tail _ (.head _))) (by simp) (by rfl)) (by simp only[maxLen];omega) (by omega) ?_
  clear H4;intro a5 c5 w5 H
  have H2:=H.BM
  clear H
  refine AA rfl (Hp.st (o:=3) H2 EQ4 gSP rfl rfl (by simp[jcV]) (cs':=jcV va vb vc ⟨a5,c5,p1.bs++[b]⟩ t wt) (by simp[jcV]) ?_)
  clear H2;intro w6 H
  refine hnext ((n+1)-(Qs++[(([],0):AP)]).length) _ _ (by rw[length_append];simp only[length_singleton];omega) ⟨⟨a5,c5,p1.bs++[b]⟩,Qs++[([],0)],rfl,by simp[hl1],by rw[length_append];simp only[length_singleton];omega,by rw[growP_step (by omega),hg],?_⟩
  have H3:Hp B w w6 (.blk b1 [.pointer (some ⟨b,0,none⟩)] 99::Sl.pgA b (Sl.gZ 4096)::.blk jb (jcV va vb vc ⟨a5,c5,p1.bs++[b]⟩ t wt) 91::.own 99 1 a5 (p1.bs.length+1) c5 (EH p1.bs++[.pointer (some ⟨b,0,none⟩)])::List.zipWith BG p1.bs Qs):=H.perm (by(refine AC fun ff gg h0 hc ha hpm=>?_;simp only[ha,hc,h0];omega))
  have H4:=Hp.NE (P:=([],0)) Sl.Vz H3.drop
  have ez:List.zipWith BG (p1.bs++[b]) (Qs++[([],0)])=List.zipWith BG p1.bs Qs++[BG b ([],0)]:=by
   rw[List.zipWith_append hl1];rfl
  have ep:EH (p1.bs++[b])=EH p1.bs++[.pointer (some ⟨b,0,none⟩)]:=by simp[EH]
  have en:(p1.bs++[b]).length=p1.bs.length+1:=by simp
  rw[jpL,ez,ep]
  show Hp B w w6 (.blk jb (jcV va vb vc ⟨a5,c5,p1.bs++[b]⟩ t wt) 91::.own 99 1 a5 (p1.bs++[b]).length c5 (EH p1.bs++[.pointer (some ⟨b,0,none⟩)])::(List.zipWith BG p1.bs Qs++[BG b ([],0)]))
  rw[en]
  exact H4.perm (by(refine AC fun ff gg h0 hc ha hpm=>?_;simp only[ha,hc,h0];omega))
 ·have hlt:n<Qs.length:=by omega
  rw[growP_none (by omega)]at hg
  refine AA rfl ⟨_,_,_,H.ld (o:=3) (cs:=jcV va vb vc p1 t wt) EQ4 gSP (.head _) rfl,?_⟩
  have hown:=(H.ownA (.tail _ (.head _))).cells
  have hnb:n<p1.bs.length:=by omega
  have hat:(EH p1.bs)[n]? =some (.pointer (some ⟨p1.bs[n],0,none⟩)):=by simp[EH,hnb]
  obtain⟨ad,had,_⟩:=hown _ _ hat
  have e1:Int.toNat (n:Int)*1=n:=by omega
  refine AA had ⟨⟨by omega,by omega⟩,_,by rw[e1];exact hown.ld gPG had hat,p1,p1.bs[n],rfl,by simp[hnb],by rw[<- hg];exact hl1,?_⟩
  rw[<- hg,jpL]
  exact H
theorem Yd:Elt Tryz.prog 40 73 4 40:=FP (by kernel_rfl)
theorem Ve:Tryz.prog.underlying 40=some (.slice 73):=by kernel_rfl
structure Chg1 where
 page:Int
 slot:Int
 s:ByteArray
 gone:Bool
def chC(l:List Chg1):List Value:=l.flatMap fun c=>[.int .i64 c.page,.int .i64 c.slot,.string c.s,.bool c.gone]
theorem MJ(x y:List Chg1):chC (x++y)=chC x++chC y:=by simp[chC]
def one1(l:List UInt8):Chg1:=⟨(valN (l.take 2):Int),(valN ((l.take 3).drop 2):Int),⟨((l.take (6+valN ((l.take 6).drop 4))).drop 6).toArray⟩,decide (sb ⟨l.toArray⟩ 3=1)⟩
def IM:Nat->List UInt8->List Chg1->Option (List Chg1)
 |0,_,acc=>some acc
 |m+1,l,acc=>if l.length=0 then some acc else if l.length<6 then none else if l.length-6<valN ((l.take 6).drop 4)then none else
   IM m (l.drop (6+valN ((l.take 6).drop 4))) (acc++[one1 l])
theorem jtaken_spec(l:List UInt8)(hl:l.length<=100000000)(w:World):Calls Tryz.prog 75 #[.string ⟨l.toArray⟩] w fun e w'=>
  (IM (l.length+1) l []=none/\e=.returned (.tuple #[.slice none 0 0,.bool false])/\Hp [] w w' [])\/
  ∃L a c,IM (l.length+1) l []=some L/\L.length<=l.length/\e=.returned (.tuple #[.slice a L.length c,.bool true])/\Hp [] w w' [.own 73 4 a L.length c (chC L)]:=by
 apply jtaken.ok;unfold jtaken.vc
 refine Ae.mk (fun m (s:ByteArray×Option Addr×Nat×Nat) w'=>∃(q:Nat)(l1:List UInt8)(acc:List Chg1)(a:Option Addr)(c:Nat),m=l1.length/\l1.length<=q/\acc.length+l1.length<=l.length/\IM (q+1) l1 acc=IM (l.length+1) l []/\s=(⟨l1.toArray⟩,a,acc.length,c)/\Hp [] w w' [.own 73 4 a acc.length c (chC acc)]) l.length ⟨l.length,l,[],none,0,rfl,Nat.le_refl _,by simp,rfl,rfl,(Hp.start w).nilS 73 4⟩ ?_
 rintro m s w1 next ⟨q,l1,acc,a,c,rfl,hq,hle,htk,rfl,H⟩ hnext
 dsimp only
 have hsz:(ByteArray.mk l1.toArray).size=l1.length:=by simp[ByteArray.size]
 rw[IM]at htk
 refine Aw (fun h1=>?_) (fun h1=>?_)
 ·have h0:l1.length≠0:=fun h=>h1 (P6.2 (by rw[hsz];exact h))
  rw[if_neg h0]at htk
  rw[hsz]
  refine AO (fun h2=>?_) (fun h2=>?_)
  ·rw[if_pos (by omega)]at htk
   exact .inl ⟨htk.symm,rfl,H.drop⟩
  rw[if_neg (by omega)]at htk
  refine⟨AY.2 (by omega),⟨by omega,by omega,by omega⟩,?_⟩
  rw[I4,show Int.toNat 4=4 from rfl,show Int.toNat 6=6 from rfl]
  have hv:=JG ((l1.take 6).drop 4)
  have hvl:((l1.take 6).drop 4).length=2:=by rw[length_drop,length_take];omega
  rw[hvl]at hv
  refine AL (Gj _ (by omega) _) ?_
  rintro e w2 ⟨rfl,H'⟩
  have H2:=H.ext0 H'
  clear H H'
  refine⟨_,rfl,AO (fun h3=>?_) (fun h3=>?_)⟩
  ·rw[if_pos (by omega)]at htk
   exact .inl ⟨htk.symm,rfl,H2.drop⟩
  rw[if_neg (by omega)]at htk
  refine⟨⟨by omega,by omega,by omega⟩,?_⟩
  refine AL (Gj _ (by omega) _) ?_
  rintro e w3 ⟨rfl,H'⟩
  have H:=H2.ext0 H'
  clear H2 H'
  obtain⟨v,hvv⟩:∃v,v=valN ((l1.take 6).drop 4):=⟨_,rfl⟩
  rw[<- hvv]at htk hv h3⊢
  have e6:Int.toNat (6+(v:Int))=6+v:=by omega
  refine⟨_,rfl,AY.2 (by omega),⟨by omega,by omega⟩,⟨by omega,by omega,by omega⟩,⟨by omega,by omega⟩,⟨by omega,by omega,by omega⟩,?_⟩
  rw[I4,show Int.toNat 2=2 from rfl,drop_zero]
  refine AL (Gj (l1.take 2) (by rw[length_take];omega) _) ?_
  rintro e w4 ⟨rfl,H'⟩
  have H2:=H.drew.ext0 H'
  clear H H'
  refine⟨_,rfl,?_⟩
  rw[I4,show Int.toNat 3=3 from rfl]
  refine AL (Gj ((l1.take 3).drop 2) (by rw[length_drop,length_take];omega) _) ?_
  rintro e w5 ⟨rfl,H'⟩
  have H:=H2.ext0 H'
  clear H2 H'
  refine⟨_,rfl,?_⟩
  rw[e6,I4]
  intro b w6 hn1
  have ho:chC [one1 l1]=[.int .i64 (valN (l1.take 2):Int),.int .i64 (valN ((l1.take 3).drop 2):Int),.string ⟨((l1.take (6+v)).drop 6).toArray⟩,.bool (decide (sb ⟨l1.toArray⟩ 3=1))]:=by rw[hvv];rfl
  have H2:=H.new (cs:=chC [one1 l1]) EQ4 (by rw[ho];exact hn1)
  clear H hn1
  refine Hp.app Yd (by omega) H2.Aq EQ4 (Blk.src (n:=1) Ve (H2.blk (.head _)) rfl rfl) (by simp only[maxLen];omega) (by omega) ?_
  clear H2
  intro a6 c6 w7 H
  have H:Hp [] w w7 (.own 73 4 a6 (acc.length+1) c6 (chC acc++chC [one1 l1])::[.blk b (chC [one1 l1]) 73]):=H
  refine⟨⟨by omega,by omega⟩,?_⟩
  have hx:(ByteArray.mk l1.toArray).extract (6+v) l1.length=⟨(l1.drop (6+v)).toArray⟩:=by rw[I4,take_length]
  rw[hx]
  refine hnext (l1.drop (6+v)).length _ _ (by rw[length_drop];omega) ⟨q-1,l1.drop (6+v),acc++[one1 l1],a6,c6,rfl,by rw[length_drop];omega,by simp only[length_append,length_drop,length_singleton];omega,?_,by rw[length_append];rfl,?_⟩
  ·rw[<- htk,show q-1+1=q by omega]
  ·rw[MJ,length_append];exact H.del1
 ·have h0:l1.length=0:=by rw[<- hsz];exact P6.1 h1
  rw[if_pos h0]at htk
  exact .inr ⟨acc,a,c,htk.symm,by omega,rfl,H⟩
theorem YJ:Agg Tryz.prog 144 4098:=Sl.CY
theorem SQ:∀{bs:List Nat}{Ps:List AP}{k b:Nat}{P:AP},bs[k]? =some b->Ps[k]? =some P->(List.zipWith BG bs Ps).Perm (BG b P::List.zipWith BG (bs.eraseIdx k) (Ps.eraseIdx k))
 | [],_,_,_,_,h,_=>by simp at h
 |_::_,[],_,_,_,_,h=>by simp at h
 |x::bs,y::Ps,0,b,P,h,h'=>by
  simp at h h';subst h h'
  exact .refl _
 |x::bs,y::Ps,k+1,b,P,h,h'=>by
  simp at h h'
  have:=SQ h h'
  simp only[List.zipWith_cons_cons,List.eraseIdx_cons_succ]
  exact(this.cons _).trans (.swap _ _ _)
theorem ZT{jb:Nat}{va vb vc:Value}{p:JP}{t:Option Nat}{wt:Int}{Ps:List AP}{k b:Nat}{P:AP}(h:p.bs[k]? =some b)(h':Ps[k]? =some P):
  (jpL jb va vb vc p t wt Ps).Perm (BG b P::.blk jb (jcV va vb vc p t wt) 91::.own 99 1 p.pa p.bs.length p.pc (EH p.bs)::List.zipWith BG (p.bs.eraseIdx k) (Ps.eraseIdx k)):=by
 have hp:=SQ h h'
 rw[jpL]
 refine AC fun ff gg h0 hc ha hpm=>?_
 have h9:=hpm _ _ hp
 simp only[ha,hc,h0]at h9⊢
 omega
theorem jp_shut{jb:Nat}{va vb vc:Value}{p:JP}{t:Option Nat}{wt:Int}{Ps:List AP}{k b:Nat}(h:p.bs[k]? =some b)(h':k<Ps.length)(Q:AP):
  (jpL jb va vb vc p t wt (Ps.set k Q)).Perm (BG b Q::.blk jb (jcV va vb vc p t wt) 91::.own 99 1 p.pa p.bs.length p.pc (EH p.bs)::List.zipWith BG (p.bs.eraseIdx k) (Ps.eraseIdx k)):=by
 have:=ZT (jb:=jb) (va:=va) (vb:=vb) (vc:=vc) (t:=t) (wt:=wt) (Ps:=Ps.set k Q) (P:=Q) h (by rw[List.getElem?_set_self h'])
 rw[List.eraseIdx_set_eq]at this
 exact this
theorem MF{B:List Nat}{w0 w1 w':World}{jb:Nat}{va vb vc:Value}{p:JP}{t:Option Nat}{wt:Int}{Ps:List AP}{L:List Asn}{k b:Nat}{g:Sl.Pg}{Q:AP}(hR:Sl.Rep g Q.1 Q.2)(H:Hp B w0 w1 (jpL jb va vb vc p t wt Ps++L))(eq:Eqw w1 w')(h:p.bs[k]? =some b)(hl:p.bs.length=Ps.length)
  {G:World->Prop} (kk:∀w2,Hp B w0 w2 (jpL jb va vb vc p t wt (Ps.set k Q)++L)->G w2):∃w2,Go.Vc.St Tryz.prog 144 w' ⟨b,0,none⟩ (.agg g.cells.toArray) w2/\G w2:=by
 have hk:k<Ps.length:=by rw[<- hl];exact(List.getElem?_eq_some_iff.1 h).1
 have H1:=H.perm ((ZT (jb:=jb) (va:=va) (vb:=vb) (vc:=vc) (t:=t) (wt:=wt) h (List.getElem?_eq_getElem hk)).append_right L)
 obtain⟨g0,hR0,H2⟩:=Hp.CV H1
 have hlen:g.cells.length=4098:=hR.ok.clen
 have hlen0:g0.cells.length=4098:=hR0.ok.clen
 refine Hp.stA (o:=0) (cs:=g0.cells) H2 eq YJ hlen (Sl.cells_one g) (by omega) (cs':=g.cells) (Sl.Ov (by omega)) ?_
 intro w2 H3
 exact kk w2 ((Hp.NE hR H3).perm ((jp_shut (jb:=jb) (va:=va) (vb:=vb) (vc:=vc) (t:=t) (wt:=wt) h hk Q).symm.append_right L))
def Fb(Ps:List AP)(l:List UInt8):List AP×Int:=
 if l.length≠4099\/4096<=valN ((l.take 3).drop 1)then(Ps,180)else
  match Sl.Jh (l.drop 3)with
  |none=>(Ps,112)
  |some P=>((CS Ps (valN ((l.take 3).drop 1)+1)).set (valN ((l.take 3).drop 1)) P,0)
theorem jrestore_spec(jb:Nat)(va vb vc:Value)(p:JP)(t:Option Nat)(wt:Int)(Ps:List AP)(hl:p.bs.length=Ps.length)(hsz:Ps.length<=4096)(l:List UInt8)(hll:l.length<=100000000)(w:World)(st:Std w (jpL jb va vb vc p t wt Ps)):
  Calls Tryz.prog 74 #[.pointer (some ⟨jb,0,none⟩),.string ⟨l.toArray⟩] w fun e w'=>e=.returned (.int .i64 (Fb Ps l).2)/\∃p':JP,p'.bs.length=(Fb Ps l).1.length/\Hp (feet (jpL jb va vb vc p t wt Ps)) w w' (jpL jb va vb vc p' t wt (Fb Ps l).1):=by
 apply jrestore.ok;unfold jrestore.vc
 have H:=Hp.Ap st
 generalize hB:feet (jpL jb va vb vc p t wt Ps)=B at H⊢
 have hsz1:(ByteArray.mk l.toArray).size=l.length:=by simp[ByteArray.size]
 rw[hsz1]
 refine Aw (fun h1=>?_) (fun h1=>?_)
 ·have e:Fb Ps l=(Ps,180):=by rw[Fb,if_pos (.inl (by omega))]
  rw[e];exact⟨rfl,p,hl,H⟩
 have hlen:l.length=4099:=by omega
 refine⟨⟨by omega,by omega,by omega⟩,?_⟩
 rw[I4,show Int.toNat 1=1 from rfl,show Int.toNat 3=3 from rfl]
 have hvl:((l.take 3).drop 1).length=2:=by rw[length_drop,length_take];omega
 have hv:=Gj ((l.take 3).drop 1) (by omega)
 have hr:Fb Ps l=if l.length≠4099\/4096<=valN ((l.take 3).drop 1)then(Ps,(180:Int))else match Sl.Jh (l.drop 3)with
  |none=>(Ps,(112:Int))
  |some P=>((CS Ps (valN ((l.take 3).drop 1)+1)).set (valN ((l.take 3).drop 1)) P,(0:Int)):=rfl
 generalize(l.take 3).drop 1=q at hv hr⊢
 obtain⟨n,hn⟩:∃n,n=valN q:=⟨_,rfl⟩
 rw[<- hn]at hv hr
 refine AL (hv _) ?_
 rintro e w1 ⟨rfl,H'⟩
 replace H:=H.ext0 H';clear H'
 refine⟨_,rfl,AO (fun h2=>?_) (fun h2=>?_)⟩
 ·rw[if_pos (.inr (by omega))]at hr
  rw[hr];exact⟨rfl,p,hl,H⟩
 rw[if_neg (by omega)]at hr
 refine⟨⟨by omega,by omega⟩,?_⟩
 rw[I4,take_length]
 have hdl:(l.drop 3).length=4096:=by rw[length_drop];omega
 have hds:(ByteArray.mk (l.drop 3).toArray).size=4096:=by simp[ByteArray.size,hdl]
 refine Hp.s2b H EQ4 Zb Yz VU (by rw[hds];simp only[maxLen];omega) ?_
 clear H
 intro a c w2 H
 rw[hds,Di]at H
 rw[hds]
 have hown:=H.ownA (.head _)
 rcases hown.2 with⟨_,h,_⟩|⟨gb,cur,fz,rfl,_,hh,_,hle,_⟩
 ·omega
 refine AL (Sl.Qk gb c (l.drop 3) hdl w2 hown.cells hle) ?_
 rintro e w3 (⟨hlo,rfl,H'⟩|⟨P,b',g',hlo,rfl,hR',H'⟩)
 ·rw[hlo]at hr
  rw[hr]
  exact⟨_,_,rfl,Aw (fun _=>⟨rfl,p,hl,(H.ext0 H').drop⟩) (fun h=>by cases h)⟩
 rw[hlo]at hr
 rw[hr]
 have H2:Hp B w w3 (jpL jb va vb vc p t wt Ps++[Sl.pgA b' g']):=((H.ext1 H').Aq.drop).perm (perm_append_comm (l₁:=[_]))
 clear H H'
 refine⟨_,_,rfl,Aw (fun h=>absurd rfl h) (fun _=>?_)⟩
 refine⟨⟨by omega,by omega,by omega⟩,?_⟩
 have ldP:∀{w4 w5:World}{L:List Asn},Hp B w w4 L->Eqw w4 w5->Sl.pgA b' g'∈L->Ld Tryz.prog 144 w5 ⟨b',0,none⟩ (.agg (bQ g'.bs++([Value.int .i64 (g'.many:Int)]++([Value.int .i64 (g'.low:Int)]++[]))).toArray):=fun{w4 w5 L} K e m=>K.ldA (cs:=g'.cells) e YJ m (by rw[drop_zero,take_of_length_le (by rw[hR'.ok.clen];exact Nat.le_refl _)];rfl) hR'.ok.clen
 refine AA rfl ⟨_,_,_,ldP H2 EQ4 (mem_append_right _ (.head _)),?_⟩
 refine AL (hv _) ?_
 rintro e w4 ⟨rfl,H'⟩
 have H3:=H2.drew.ext0 H'
 clear H2 H'
 refine⟨_,rfl,ldP H3 EQ4 (mem_append_right _ (.head _)),?_⟩
 refine AL (Gy jb va vb vc p t wt Ps hl hsz n (by omega) w4 H3.std1) ?_
 rintro e w5 ⟨p',b,rfl,hb,hl',H'⟩
 have H4:=H3.useL H'
 clear H3 H'
 refine⟨_,rfl,ldP H4 EQ4 (mem_append_right _ (.head _)),AA rfl ?_⟩
 refine MF (g:=g') hR' H4 EQ4 hb hl' ?_
 intro w6 H5
 exact⟨rfl,p',by rw[length_set];exact hl',H5.BQ⟩
theorem LC(jb:Nat)(va vb vc:Value)(p:JP)(t:Option Nat)(wt:Int)(w:World)(st:Blk w jb (jcV va vb vc p t wt) 91):
  Calls Tryz.prog 15 #[.pointer (some ⟨jb,0,none⟩)] w fun e w'=>e=.returned (.int .i64 wt)/\Hp [] w w' []:=by
 apply jwaiting.ok;unfold jwaiting.vc
 exact AA rfl ⟨_,st.ld (o:=5) gInt.agg rfl,rfl,Hp.start w⟩
theorem jstuck_spec(jb:Nat)(va vc:Value)(y:LW)(db:Nat)(l:Lg)(p:JP)(t:Option Nat)(wt:Int)(w:World)(st:Blk w jb (jcV va (.pointer (some ⟨y.b,0,none⟩)) vc p t wt) 91)(sl:Std w [lgA y db l]):
  Calls Tryz.prog 27 #[.pointer (some ⟨jb,0,none⟩)] w fun e w'=>e=.returned (.int .i64 l.code)/\Hp [] w w' []:=by
 apply jstuck.ok;unfold jstuck.vc
 refine AA rfl ⟨_,st.ld (o:=1) gPL.agg rfl,?_⟩
 refine AL (J5 y db l w sl) ?_
 rintro e w1 ⟨rfl,H⟩
 exact⟨_,rfl,rfl,H⟩
def jsL(jb:Nat)(va vc:Value)(p:JP)(t:Option Nat)(wt:Int)(y:LW)(x:DW)(d:Dk)(l:Lg):List Asn:=.blk jb (jcV va (.pointer (some ⟨y.b,0,none⟩)) vc p t wt) 91::lgL y x d l
def BK(d:Dk)(l:Lg)(wt:Int):Dk×Lg×Int×Int:=
 if l.code≠0 then(d,l,wt,190)else((Ak d l).1,(Ak d l).2.1,if(Ak d l).2.2=0 then 0 else wt,(Ak d l).2.2)
theorem jsync_spec(jb:Nat)(va vc:Value)(p:JP)(t:Option Nat)(wt:Int)(y:LW)(x:DW)(d:Dk)(l:Lg)(hok:x.Ok d){N:Nat}(fit:d.Fit N)(hN:N<=400000)(hb:l.b.length<=100000000)(hf:l.firm<=100000000)(hm:l.mark<=100000000)(w:World)(st:Std w (jsL jb va vc p t wt y x d l)):
  Calls Tryz.prog 22 #[.pointer (some ⟨jb,0,none⟩)] w fun e w'=>e=.returned (.int .i64 (BK d l wt).2.2.2)/\∃(x':DW)(y':LW),x'.b=x.b/\y'.b=y.b/\x'.Ok (BK d l wt).1/\Hp (feet (jsL jb va vc p t wt y x d l)) w w' (jsL jb va vc p t (BK d l wt).2.2.1 y' x' (BK d l wt).1 (BK d l wt).2.1):=by
 apply jsync.ok;unfold jsync.vc
 have H:=Hp.Ap st
 generalize hB:feet (jsL jb va vc p t wt y x d l)=B at H⊢
 rw[jsL]at H
 refine AA rfl ⟨_,H.ld (o:=1) (cs:=jcV va (.pointer (some ⟨y.b,0,none⟩)) vc p t wt) EQ4 gPL (.head _) rfl,?_⟩
 have K1:Hp B w w (lgA y x.b l::(.blk jb (jcV va (.pointer (some ⟨y.b,0,none⟩)) vc p t wt) 91::lgT y l::lgB y l::dkL x d)):=H.perm (by rw[lgL];(refine AC fun ff gg h0 hc ha hpm=>?_;simp only[ha,hc,h0];omega))
 refine AL (J5 y x.b l w K1.std1) ?_
 rintro e w1 ⟨rfl,H'⟩
 replace H:=H.ext0 H'
 clear K1 H'
 refine⟨_,rfl,Aw (fun h=>?_) (fun h=>?_)⟩
 ·have e:BK d l wt=(d,l,wt,190):=if_pos h
  rw[e]
  exact⟨rfl,x,y,rfl,rfl,hok,H⟩
 have e:BK d l wt=((Ak d l).1,(Ak d l).2.1,if(Ak d l).2.2=0 then 0 else wt,(Ak d l).2.2):=if_neg (fun h2=>h2 h)
 rw[e]
 dsimp only
 refine AA rfl ⟨_,H.ld (o:=1) (cs:=jcV va (.pointer (some ⟨y.b,0,none⟩)) vc p t wt) EQ4 gPL (.head _) rfl,?_⟩
 have K2:Hp B w w1 (lgL y x d l++[.blk jb (jcV va (.pointer (some ⟨y.b,0,none⟩)) vc p t wt) 91]):=H.perm (perm_append_comm (l₁:=[_]))
 clear H
 refine AL (PR y x d l hok fit hN hb hf hm w1 K2.std1) ?_
 rintro e w2 ⟨rfl,x',y',hxb,hyb,hx',H'⟩
 have H2:=(K2.useL H').perm (perm_append_comm (l₂:=[_]))
 clear K2 H'
 refine⟨_,rfl,AO (fun h2=>?_) (fun h2=>?_)⟩
 ·rw[if_pos h2]
  refine AA rfl (Hp.st (o:=5) H2 EQ4 gInt rfl rfl (by simp[jcV]) (cs':=jcV va (.pointer (some ⟨y.b,0,none⟩)) vc p t 0) rfl ?_)
  intro w3 H
  exact⟨rfl,x',y',hxb,hyb,hx',by rw[jsL,hyb];exact H⟩
 ·rw[if_neg h2]
  exact⟨rfl,x',y',hxb,hyb,hx',by rw[jsL,hyb];exact H2⟩
end Go.Proofs.YtdeebigmpffnbaaGreat
namespace Go.Vc
open Go
structure PN(P:Program)(t:TypeId):Prop where
 und : ∃ f g, P.underlying t = some (.struct #[f, g]) ∧ f.offset = 0 ∧ g.offset = 1 ∧ f.name ≠ "_" ∧ g.name ≠ "_" ∧ kdB P f.type (.inl .i64) = true ∧ kdB P g.type (.inl .i64) = true
 flat:Xi P t [(0,.inl .i64),(1,.inl .i64)]
def aY(P:Program)(t:TypeId):Bool:=match P.underlying t with
 | some (.struct ⟨[f, g]⟩) => Nat.beq f.offset 0 && Nat.beq g.offset 1 && f.name != "_" && g.name != "_" && kdB P f.type (.inl .i64) && kdB P g.type (.inl .i64)
 |_=>false
theorem pair_of{P:Program}{t:TypeId}(h:aY P t=true)(h':aB P t [(0,.inl .i64),(1,.inl .i64)]=true):PN P t:=by
 refine⟨?_,NH h'⟩
 unfold aY at h
 split at h
 ·rename_i f g hu
  simp only[Bool.and_eq_true,bne_iff_ne,ne_eq]at h
  obtain⟨⟨⟨⟨⟨h1,h2⟩,h3⟩,h4⟩,h5⟩,h6⟩:=h
  exact⟨f,g,hu,Nat.eq_of_beq_eq_true h1,Nat.eq_of_beq_eq_true h2,h3,h4,h5,h6⟩
 ·cases h
def DJ(p:Int×Int):Value:=.agg #[.int .i64 p.1,.int .i64 p.2]
section
variable{P:Program}{t:TypeId}{w:World}
theorem Nu{t:TypeId}{k:Kd}{v:Value}{em:Bool}{n:Nat}(h:kdB P t k=true):(Instr.checkKey em (n+1) t v).run P w=.ok () w:=by
 unfold kdB at h
 split at h
 ·rename_i hu;simp only[Instr.checkKey,Sem.run_bind,Am hu,Result.andThen_ok,Sem.run_pure]
 ·rename_i hu;simp only[Instr.checkKey,Sem.run_bind,Am hu,Result.andThen_ok,Sem.run_pure]
 ·rename_i hu;simp only[Instr.checkKey,Sem.run_bind,Am hu,Result.andThen_ok,Sem.run_pure]
 ·cases h
theorem SV(T:PN P t)(em:Bool)(p:Int×Int)(w:World):(Instr.checkKey em 10000 t (DJ p)).run P w=.ok () w:=by
 obtain⟨⟨f,g,hu,hf,hg,hfn,hgn,hft,hgt⟩,_⟩:=T
 show(Instr.checkKey em (9998+1+1) t (DJ p)).run P w=.ok () w
 rw[Instr.checkKey]
 simp only[DJ,Sem.run_bind,Am hu,Result.andThen_ok]
 rw[<- Array.forIn_toList]
 simp only[List.forIn_cons,List.forIn_nil,Sem.run_bind,hfn,hgn,ne_eq,not_false_eq_true,if_true,Result.andThen_ok,FI (w:=w) hft (show(#[Value.int .i64 p.1,Value.int .i64 p.2]:Array Value)[f.offset]? =some (.int .i64 p.1) by rw[hf];rfl),
  FI (w:=w) hgt (show(#[Value.int .i64 p.1,Value.int .i64 p.2]:Array Value)[g.offset]? =some (.int .i64 p.2) by rw[hg];rfl),Nu hft,Nu hgt,Sem.run_pure]
theorem pair_equal(T:PN P t)(a b:Int×Int)(w:World):(Op.equal t (DJ a) (DJ b)).run P w=.ok (decide (a=b)) w:=by
 have:=XL (w:=w) T.flat (xs:=[.int .i64 a.1,.int .i64 a.2]) (ys:=[.int .i64 b.1,.int .i64 b.2]) (by simp[fitL,fromV];exact⟨rfl,rfl⟩) (by simp[fitL,fromV];exact⟨rfl,rfl⟩)
 refine this.trans ?_
 simp only[eqL,all_cons,List.all_nil,List.getElem?_cons_zero,List.getElem?_cons_succ,sEq,Bool.and_true]
 congr 1
 rw[<- Bool.decide_and]
 exact decide_eq_decide.2 ⟨fun h=>Prod.ext h.1 h.2,fun h=>by rw[h];exact⟨rfl,rfl⟩⟩
def I5(es:List MapEntry)(al:List ((Int×Int)×Value)):Prop:=es.map (fun e=>(e.key,e.val))=al.map fun p=>(DJ p.1,p.2)
def MapP(w:World)(b:Nat)(al:List ((Int×Int)×Value)):Prop:=
 ∃es clock,w.heap[b]? =some (.map es clock)/\I5 es.toList al/\(es.toList.map (·.born)).Nodup/\∀e∈es.toList,e.born<clock
theorem SK(T:PN P t)(w:World):∀{es:List MapEntry}{al:List ((Int×Int)×Value)}(i:Nat)(k:Int×Int),I5 es al->
  (aget al k=none/\(Instr.findAsking t (DJ k) es i).run P w=.ok none w)\/
  ∃j v e,aget al k=some v/\(Instr.findAsking t (DJ k) es i).run P w=.ok (some (i+j,v)) w/\es[j]? =some e/\e.key=DJ k/\e.val=v/\
   (∀v',I5 (es.modify j fun e=> {e with key:=DJ k,val:=v'}) (aput al k v'))
 | [],al,i,k,h=>by
  have:al=[]:=by cases al with
   |nil=>rfl
   |cons p r=>simp[I5]at h
  subst this
  exact .inl ⟨rfl,rfl⟩
 |e::es,al,i,k,h=>by
  cases al with
  |nil=>simp[I5]at h
  |cons p al=>
   obtain⟨x,u⟩:=p
   simp only[I5,map_cons,List.cons.injEq,Prod.mk.injEq]at h
   obtain⟨⟨hk,hv⟩,h⟩:=h
   simp only[Instr.findAsking,Sem.run_bind,hk,pair_equal T,Result.andThen_ok,aget,aput]
   by_cases hkx:k=x
   ·subst hkx
    right
    refine⟨0,u,e,by simp,by simp[hv],by simp,hk,hv,fun v'=>?_⟩
    simp only[if_true,I5,List.modify_zero_cons,map_cons,hk]
    rw[h]
   ·simp only[hkx,decide_false,if_false,Bool.false_eq_true]
    rcases SK T w (i+1) k h with⟨h1,h2⟩|⟨j,v,e',h1,h2,h3,h4,h5,h6⟩
    ·exact .inl ⟨h1,h2⟩
    ·right
     refine⟨j+1,v,e',h1,by rw[h2];congr 3;omega,by simpa using h3,h4,h5,fun v'=>?_⟩
     have:=h6 v'
     simp only[I5,List.modify_succ_cons,map_cons,hk,hv]at this⊢
     rw[this]
theorem Uu{K:Type}[DecidableEq K]{k:K}{v:Value}:∀(al:List (K×Value)),aget al k=none->aput al k v=al++[(k,v)]
 | [],_=>rfl
 |(x,u)::r,hn=>by
  simp only[aget]at hn
  split at hn
  ·cases hn
  ·rename_i hne
   simp only[aput,if_neg hne,Uu r hn,cons_append]
theorem PN.wide(T:PN P t):(match P.underlying t with|some (.array _ _)|some (.struct _)=>true|_=>false)=true:=by
 obtain⟨⟨f,g,hu,_⟩,_⟩:=T
 rw[hu]
structure Uo(P:Program)(t kT eT:TypeId)(z:Value):Prop where
 und:P.underlying t=some (.map kT eT)
 key:PN P kT
 zero:zeroOf P eT=some z
theorem ZA{kT eT:TypeId}{z:Value}(T:Uo P t kT eT z){b:Nat}{al:List ((Int×Int)×Value)}(h:MapP w b al)(k:Int×Int):
  Lk P t false w (.map (some b)) (DJ k) ((aget al k).getD z)/\Lk P t true w (.map (some b)) (DJ k) (.tuple #[(aget al k).getD z,.bool (aget al k).isSome]):=by
 obtain⟨es,clock,h1,h2,h3⟩:=h
 have hck:∀e,(Instr.checkKey e 10000 kT (DJ k)).run P w=.ok () w:=fun e=>SV T.key e k w
 have hfk:(Instr.findKey kT (DJ k) es.toList).run P w=(Instr.findAsking kT (DJ k) es.toList).run P w:=run_findKey_eq w T.key.wide _ _
 rcases SK T.key w 0 k h2 with⟨g1,g2⟩|⟨j,v,e,g1,g2,-⟩
 ·simp only[Lk,Instr.lookup,Sem.run_bind,Am T.und,Result.andThen_ok,run_getObj_map h1,Sem.run_pure,hck,hfk,g2,Sem.run_map,He T.zero,g1]
  constructor<;>rfl
 ·simp only[Lk,Instr.lookup,Sem.run_bind,Am T.und,Result.andThen_ok,run_getObj_map h1,Sem.run_pure,hck,hfk,g2,g1]
  constructor<;>rfl
theorem mup_pair{kT eT:TypeId}{z:Value}(T:Uo P t kT eT z){b:Nat}{al:List ((Int×Int)×Value)}(h:MapP w b al)(k:Int×Int)(v:Value):
  ∃w1,MUp P t w (.map (some b)) (DJ k) v w1/\MapP w1 b (aput al k v)/\Chg [b] w w1:=by
 obtain⟨es,clock,h1,h2,h3,h4⟩:=h
 have hck:∀e,(Instr.checkKey e 10000 kT (DJ k)).run P w=.ok () w:=fun e=>SV T.key e k w
 have hfk:(Instr.findKey kT (DJ k) es.toList).run P w=(Instr.findAsking kT (DJ k) es.toList).run P w:=run_findKey_eq w T.key.wide _ _
 have hlt:=(Array.getElem?_eq_some_iff.1 h1).1
 rcases SK T.key w 0 k h2 with⟨g1,g2⟩|⟨j,u,e,g1,g2,g3,g4,g5,g6⟩
 ·refine⟨setB w b (.map (es.push {key:=DJ k,val:=v,born:=clock}) (clock+1)),?_,⟨_,_,Dl hlt,?_,?_,?_⟩,DI _ _ _⟩
  ·simp only[MUp,Instr.mapUpdate,Sem.run_bind,Am T.und,Result.andThen_ok,run_getObj_map h1,hck,hfk,g2,run_setObj_map h1]
  ·rw[Array.toList_push,Uu al g1]
   simp only[I5,map_append,map_cons,List.map_nil]at h2⊢
   rw[h2]
  ·rw[Array.toList_push,map_append,List.nodup_append]
   refine⟨h3,by simp,?_⟩
   intro a ha c hc
   simp at hc;subst hc
   obtain⟨e,he,rfl⟩:=mem_map.1 ha
   exact Nat.ne_of_lt (h4 e he)
  ·intro e he
   rw[Array.toList_push]at he
   rcases List.mem_append.1 he with he|he
   ·exact Nat.lt_succ_of_lt (h4 e he)
   ·simp at he;subst he;exact Nat.lt_succ_self _
 ·have hj:es[j]? =some e:=by simpa using g3
  refine⟨setB w b (.map (es.modify j fun e=> {e with key:=DJ k,val:=v}) clock),?_,⟨_,_,Dl hlt,?_,?_,?_⟩,DI _ _ _⟩
  ·rw[Nat.zero_add]at g2
   have hb:Instr.sameBits 10000 (DJ k) (DJ k)=true:=by
    show Instr.sameBits (9999+1) (DJ k) (DJ k)=true
    simp[Instr.sameBits,DJ]
   have hstay:(Instr.keyThatStays (DJ k) (DJ k)).run P w=.ok (DJ k) w:=by
    simp[Instr.keyThatStays,hb]
   simp only[MUp,Instr.mapUpdate,Sem.run_bind,Am T.und,Result.andThen_ok,run_getObj_map h1,hck,hfk,g2,hj,Option.map_some,Option.getD_some,g4,hstay,run_setObj_map h1]
  ·rw[Array.toList_modify];exact g6 v
  ·rw[Array.toList_modify,FH];exact h3
  ·intro e' he'
   have:e'.born∈(es.modify j fun e=> {e with key:=DJ k,val:=v}).toList.map (·.born):=mem_map.2 ⟨e',he',rfl⟩
   rw[Array.toList_modify,FH]at this
   obtain⟨e2,he2,e3⟩:=mem_map.1 this
   rw[<- e3];exact h4 e2 he2
def Ed(b:Nat)(al:List ((Int×Int)×Value)):Asn:=.any [b] fun w=>MapP w b al
theorem Zh{b:Nat}{al:List ((Int×Int)×Value)}{w:World}(h:MapP w b al):(Ed b al).ok w:=
 ⟨by intro k hk;simp at hk;subst hk;obtain⟨es,c,h1,_⟩:=h;exact(Array.getElem?_eq_some_iff.1 h1).1,fun w' e=>by
  obtain⟨es,c,h1,h2⟩:=h
  exact⟨es,c,(e b (by simp)).trans h1,h2⟩⟩
theorem SG{b:Nat}{al:List ((Int×Int)×Value)}{w:World}(h:(Ed b al).ok w):MapP w b al:=h.2 w fun _ _=>rfl
variable{B:List Nat}{w0 w':World}{L:List Asn}{kT eT:TypeId}{z v:Value}{b:Nat}
theorem Hp.newP(H:Hp B w0 w L)(e:Eqw w w'){w1:World}(h:New w' (.map #[] 0) b w1):Hp B w0 w1 (Ed b []::L):=
 (H.go e).add h.chg (Zh ⟨#[],0,h.blk,rfl,by simp,by simp⟩) (by simp[Asn.foot,Ed];exact h.num▸Nat.le_refl _)
theorem Hp.lkP{al:List ((Int×Int)×Value)}(T:Uo P t kT eT z)(H:Hp B w0 w L)(e:Eqw w w')(m:Ed b al∈L){x:Int×Int}(hv:(aget al x).getD z=v):Lk P t false w' (.map (some b)) (DJ x) v:=by
 subst hv;exact(ZA T (SG ((H.go e).ok _ m)) x).1
theorem Hp.bH{al:List ((Int×Int)×Value)}(T:Uo P t kT eT z)(H:Hp B w0 w L)(e:Eqw w w')(m:Ed b al∈L){x:Int×Int}{o:Bool}(hv:(aget al x).getD z=v)(ho:(aget al x).isSome=o):Lk P t true w' (.map (some b)) (DJ x) (.tuple #[v,.bool o]):=by
 subst hv;subst ho;exact(ZA T (SG ((H.go e).ok _ m)) x).2
theorem Hp.mupP{al:List ((Int×Int)×Value)}(T:Uo P t kT eT z)(H:Hp B w0 w (Ed b al::L))(e:Eqw w w'){x:Int×Int}{G:World->Prop}
  (kk:∀w1,Hp B w0 w1 (Ed b (aput al x v)::L)->G w1):∃w1,MUp P t w' (.map (some b)) (DJ x) v w1/\G w1:=by
 obtain⟨w1,h1,h2,h3⟩:=mup_pair T (SG ((H.go e).ok _ (.head _))) x v
 exact⟨w1,h1,kk w1 ((H.go e).set h3 (Zh h2) fun k hk=>.inl hk)⟩
end
end Go.Vc
