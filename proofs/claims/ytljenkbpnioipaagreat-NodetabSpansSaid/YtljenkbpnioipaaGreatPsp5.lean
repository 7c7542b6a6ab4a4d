/- Part 5 of 6 of the proof of nodetabSpans_holds: for every input, from every world that may be reached. -/
import Derived.Test.YtljenkbpnioipaaGreatPsp4
set_option linter.unusedVariables false
set_option linter.unusedSimpArgs false
set_option maxRecDepth 100000
set_option maxHeartbeats 4000000
open List(append_assoc append_eq append_nil cons_append drop_drop drop_eq_getElem_cons drop_length drop_zero ext_getElem? flatMap_append flatMap_cons foldl_cons foldl_nil length_append length_attach length_cons length_drop length_map length_nil length_pos_iff length_replicate length_set length_take map_append map_cons map_nil mem_append mem_append_left mem_append_right mem_cons mem_map mem_of_getElem? mem_singleton nil_append nodup_cons not_mem_nil pairwise_cons pairwise_iff_getElem set_cons_succ set_cons_zero size_toArray take_length take_of_length_le take_succ_eq_append_getElem take_zero)
namespace Go.Proofs.YtljenkbpnioipaaGreat.Fol
open Go Go.Vc
def valN(l:List UInt8):Nat:=l.foldl (fun n x=>n*256+x.toNat) 0
def num(l:List UInt8):Int:=IntKind.i64.wrap (valN l:Int)
theorem DX(x:Int):IntKind.i64.wrap x=if x%18446744073709551616≥9223372036854775808 then x%18446744073709551616-18446744073709551616 else x%18446744073709551616:=by
 simp[IntKind.wrap,IntKind.signed,IntKind.bits]
theorem La{x y:Int}(h:x%18446744073709551616=y%18446744073709551616):IntKind.i64.wrap x=IntKind.i64.wrap y:=by
 rw[DX,DX,h]
theorem FC(x:Int):IntKind.i64.wrap x%18446744073709551616=x%18446744073709551616:=by
 rw[DX];split<;>omega
theorem IR{x y:Int}(h:x%18446744073709551616=y%18446744073709551616):BitVec.ofInt 64 x=BitVec.ofInt 64 y:=by
 apply BitVec.eq_of_toNat_eq;rw[BitVec.toNat_ofInt,BitVec.toNat_ofInt]
 have:(((2^64:Nat):Int))=18446744073709551616:=by decide
 rw[this,h]
theorem XB(v y:Nat)(f:y<256):Vc.bits .or .i64 (IntKind.i64.wrap (IntKind.i64.wrap (v:Int)*2^min (Int.toNat 8) (IntKind.bits .i64))) (IntKind.i64.wrap (y:Int))=IntKind.i64.wrap ((v*256+y:Nat):Int):=by
 have a:(2:Int)^min (Int.toNat 8) (IntKind.bits .i64)=256:=by decide
 rw[a];show IntKind.i64.wrap ((BitVec.ofInt 64 (IntKind.i64.wrap (IntKind.i64.wrap (v:Int)*256))|||BitVec.ofInt 64 (IntKind.i64.wrap (y:Int))).toNat:Int)=_
 have b:BitVec.ofInt 64 (IntKind.i64.wrap (IntKind.i64.wrap (v:Int)*256))=BitVec.ofInt 64 (((v%2^56)*256:Nat):Int):=by
  apply IR;rw[FC];have:=FC (v:Int);omega
 have c:BitVec.ofInt 64 (IntKind.i64.wrap (y:Int))=BitVec.ofInt 64 (y:Int):=IR (FC _);rw[b,c];apply La;rw[BitVec.toNat_or,BitVec.toNat_ofInt,BitVec.toNat_ofInt]
 have d:((((v%2^56)*256:Nat):Int)%((2^64:Nat):Int)).toNat=(v%2^56)<<<8:=by
  rw[Nat.shiftLeft_eq];omega
 have e:((y:Int)%((2^64:Nat):Int)).toNat=y:=by omega
 rw[d,e,<- Nat.shiftLeft_add_eq_or_of_lt (by omega),Nat.shiftLeft_eq];omega
def tk(l:List UInt8)(n:Nat):List UInt8:=if n<=l.length then l.take n else []
def dr(l:List UInt8)(n:Nat):List UInt8:=if n<=l.length then l.drop n else []
def rdrP(b:Nat)(f:List Nat)(bs:List UInt8)(sh:Bool)(w:World):Prop:=
 b∉f/\∃a c,Blk w b [.slice a bs.length c,.bool sh] 266/\Cells w a (Aa bs)/\bs.length<=c/\∀k∈blks a,k∈f
def rdr(b:Nat)(f:List Nat)(bs:List UInt8)(sh:Bool):Asn:=.any (b::f) (rdrP b f bs sh)
theorem eu{b:Nat}{f:List Nat}{bs:List UInt8}{a:Bool}{w:World}(h:(rdr b f bs a).ok w):rdrP b f bs a w:=h.2 w fun _ _=>rfl
theorem cells_of{w w':World}{a:Option Addr}{vs:List Value}(h:Cells w a vs)(e:∀k∈blks a,w'.heap[k]? =w.heap[k]?):Cells w' a vs:=by
 intro j v d;obtain⟨c,rfl,b⟩:=h j v d;refine⟨c,rfl,?_⟩
 have f:(c.add j).block=c.block:=by unfold Addr.add;split<;>rfl
 rw[World.cell?_of_block (e _ (by rw[f];simp[blks]))];exact b
theorem ZT{b:Nat}{f:List Nat}{bs:List UInt8}{e:Bool}{w:World}(h:rdrP b f bs e w)(l:∀k∈f,k<w.heap.size):(rdr b f bs e).ok w:=by
 obtain⟨m,a,c,g,n,o,i⟩:=h;refine⟨?_,?_⟩
 ·intro k d
  rcases mem_cons.1 d with rfl|d
  ·exact g.lt
  ·exact l k d
 ·intro p j
  exact⟨m,a,c,(j b (.head _)).trans g,cells_of n fun k d=>j k (.tail _ (i k d)),o,i⟩
theorem Ph(b:Nat)(f:List Nat)(bs:List UInt8)(sh:Bool)(long:Nat)(w:World)(h:(rdr b f bs sh).ok w):
  Calls Tryz.prog 193 #[.pointer (some ⟨b,0,none⟩),.int .i64 long] w fun e w'=>e=.returned (.string ⟨(tk bs long).toArray⟩)/\Hp (b::f) w w' [rdr b f (dr bs long) (sh||decide (bs.length<long))]:=by
 obtain⟨h1,a,c,h2,h3,h4,h5⟩:=eu h;have hlt:∀k∈f,k<w.heap.size:=fun k hk=>h.1 k (.tail _ hk);have H:Hp [b] w w [.blk b [.slice a bs.length c,.bool sh] 266]:=Hp.JA (a:=.blk b [.slice a bs.length c,.bool sh] 266) h2
 have fin:∀(w':World)(a':Option Addr)(c':Nat)(bs':List UInt8)(sh':Bool),Hp [b] w w' [.blk b [.slice a' bs'.length c',.bool sh'] 266]->Cells w a' (Aa bs')->bs'.length<=c'->(∀k∈blks a',k∈f)->Hp (b::f) w w' [rdr b f bs' sh']:=by
  intro w' a' c' bs' sh' H' hc hl hk;refine⟨H'.chg.more (by simp),?_,?_,by simp⟩
  ·intro x hx
   simp only[mem_singleton]at hx;subst hx;exact ZT ⟨h1,a',c',H'.blk (.head _),hc.chg H'.chg (fun k hk' he=>by simp at he;subst he;exact h1 (hk _ hk')),hl,hk⟩ fun k hk=>Nat.lt_of_lt_of_le (hlt k hk) H'.chg.size
  ·intro x hx k hk
   simp only[mem_singleton]at hx;subst hx;exact .inl hk
 apply fText.ok;unfold fText.vc
 ((repeat apply Exists.intro);refine⟨H.lo WR,?_⟩)
 refine AB (fun hs=>?_) (fun hs=>?_)
 ·(apply Hp.st;(case H=>exact H);(case e=>exact⟨rfl,rfl,rfl,rfl⟩);(case S=>exact WR);(case hv=>exact rfl);(case h1=>exact rfl);(case ho=>exact Nat.le_of_ble_eq_true rfl);(case hc=>exact rfl);clear H;intro _ H;(try simp only[over,set_cons_zero,set_cons_succ]at H);apply Hp.st;(case H=>exact H);(case e=>exact⟨rfl,rfl,rfl,rfl⟩);(case S=>exact scl4);(case hv=>exact rfl);(case h1=>exact rfl);(case ho=>exact Nat.le_of_ble_eq_true rfl);(case hc=>exact rfl);clear H;intro _ H;(try simp only[over,set_cons_zero,set_cons_succ]at H))
  have e1:¬long<=bs.length:=by omega
  refine⟨by simp[tk,e1],?_⟩;rw[dr,if_neg e1,decide_eq_true (by omega),Bool.or_true];exact fin _ none 0 [] true H (by intro j v hj;simp[Aa]at hj) (by simp) (by simp[blks])
 ·((repeat apply Exists.intro);refine⟨H.lo WR,?_⟩)
  have e1:long<=bs.length:=by omega
  refine⟨⟨by omega,by omega⟩,⟨(bs.take long).toArray⟩,b2s WO und5 und9 (by rw[CQ,Qv];exact h3.take _) (by simp[ByteArray.size];omega),AA rfl ?_⟩
  ((repeat apply Exists.intro);refine⟨H.lo WR,?_⟩)
  refine⟨⟨by omega,by omega⟩,AA rfl ?_⟩
  (apply Hp.st;(case H=>exact H);(case e=>exact⟨rfl,rfl,rfl,rfl⟩);(case S=>exact WR);(case hv=>exact rfl);(case h1=>exact rfl);(case ho=>exact Nat.le_of_ble_eq_true rfl);(case hc=>exact rfl);clear H;intro _ H;(try simp only[over,set_cons_zero,set_cons_succ]at H))
  refine⟨by simp[tk,e1],?_⟩;rw[dr,if_pos e1,decide_eq_false (by omega),Bool.or_false];refine fin _ _ (c-long) (bs.drop long) sh ?_ (by rw[Qs];exact h3.slA (c:=c) (i:=long) (by rw[Ah];exact h4)) (by simp;omega) ?_
  ·simpa using H
  ·intro k hk
   refine h5 k ?_;unfold slA at hk;split at hk
   ·exact hk
   ·cases a with
    |none=>simp[blks]at hk
    |some ad=>
     simp only[Option.map_some,blks,mem_singleton]at hk⊢;rw[hk];unfold Addr.add;split<;>rfl
theorem PY(l:List UInt8)(x:UInt8):valN (l++[x])=valN l*256+x.toNat:=by simp[valN,List.foldl_append]
theorem Og(l:List UInt8):valN l<256^l.length:=by
 have:∀(l:List UInt8)(a:Nat),l.foldl (fun n x=>n*256+x.toNat) a<(a+1)*256^l.length:=by
  intro l
  induction l with
  |nil=>intro a;simp
  |cons x r b=>
   intro a;have c:=b (a*256+x.toNat);have d:=x.toNat_lt;rw[foldl_cons,length_cons,Nat.pow_succ];have e:(a*256+x.toNat+1)*256^r.length<=((a+1)*256)*256^r.length:=Nat.mul_le_mul_right _ (by omega)
   have f:(a+1)*(256^r.length*256)=((a+1)*256)*256^r.length:=by rw[Nat.mul_comm (256^r.length) 256,Nat.mul_assoc]
   omega
 simpa [valN]using this l 0
theorem PS{l:List UInt8}(h:l.length<=7):num l=(valN l:Int):=by
 have a:=Og l;have b:256^l.length<=256^7:=Nat.pow_le_pow_right (by omega) h;rw[num,DX,if_neg (by omega)];omega
theorem Iq(b:Nat)(f:List Nat)(bs:List UInt8)(n:Bool)(d:Nat)(t:d<=8)(w:World)(h:(rdr b f bs n).ok w):
  Calls Tryz.prog 183 #[.pointer (some ⟨b,0,none⟩),.int .i64 d] w fun e w'=>e=.returned (.int .i64 (num (tk bs d)))/\Hp (b::f) w w' [rdr b f (dr bs d) (n||decide (bs.length<d))]:=by
 apply fNumber.ok;unfold fNumber.vc;refine AC (Ph b f bs n d w h) ?_;rintro e u ⟨rfl,H⟩
 have x:(tk bs d).length<=8:=by unfold tk;split<;>simp;omega
 have p:maxLen=9223372036854775807:=by simp[maxLen]
 have i:(ByteArray.mk (tk bs d).toArray).size=(tk bs d).length:=by simp[ByteArray.size]
 refine⟨_,rfl,Hp.s2b H EQ4 und9 WO und5 (by rw[i];omega) ?_⟩;clear H;intro a c y H;rw[CQ,i]at H;rw[i];refine AP.mk (fun m s w'=>∃k,m=(tk bs d).length-k/\s=(num ((tk bs d).take k),(k:Int))/\k<=(tk bs d).length/\Hp (b::f) w w' [.own 5 1 a (tk bs d).length c (Aa (tk bs d)),rdr b f (dr bs d) (n||decide (bs.length<d))]) (tk bs d).length ⟨0,rfl,by simp[num,valN,DX],Nat.zero_le _,H⟩ ?_;clear H
 rintro m s w' next ⟨k,rfl,rfl,z,H⟩ j
 dsimp only;refine AB (fun q=>?_) (fun q=>?_)
 ·have g:k<(tk bs d).length:=by omega
  have r:=(H.ownA (.head _)).cells;obtain⟨A,o,l⟩:=r k (.int .u8 ((tk bs d)[k].toNat:Int)) (by simp[Aa,List.getElem?_map,List.getElem?_eq_getElem g]);refine AA o ⟨⟨by omega,q⟩,_,OJ scl5.agg (by rw[Nat.mul_one];exact l),by omega,iR,?_⟩;refine j ((tk bs d).length-(k+1)) _ _ (by omega) ⟨k+1,rfl,?_,by omega,H⟩;rw[num,XB _ _ (tk bs d)[k].toNat_lt,take_succ_eq_append_getElem g,num,PY];simp
 ·have g:k=(tk bs d).length:=by omega
  subst g;rw[take_length];exact⟨rfl,H.drop⟩
def D5(l:List UInt8):Option (Nat×Nat×Nat):=
 if l.length<6\/906<l.length then none
 else if valN (l.take 4)<1\/2147483647<valN (l.take 4)\/valN ((l.drop 5).take 1)<=valN ((l.drop 4).take 1)then none
 else some (valN (l.take 4),valN ((l.drop 4).take 1),valN ((l.drop 5).take 1))
def fF:Option (Nat×Nat×Nat)->Value
 |none=>.tuple #[.int .i64 0,.int .i64 0,.int .i64 0,.bool false]
 |some (a,b,c)=>.tuple #[.int .i64 a,.int .i64 b,.int .i64 c,.bool true]
theorem PZ(s:ByteArray)(w:World):Calls Tryz.prog 126 #[.string s] w fun e w'=>e=.returned (fF (D5 s.data.toList))/\Hp [] w w' []:=by
 have i:s.data.toList.length=s.size:=Array.length_toList;have H:=Hp.start w
 have p:maxLen=9223372036854775807:=by simp[maxLen]
 apply fHead.ok;unfold fHead.vc;refine AB (fun r=>⟨by rw[D5,if_pos (by omega)];rfl,H⟩) (fun r=>AB (fun t=>⟨by rw[D5,if_pos (by omega)];rfl,H⟩) (fun t=>?_));refine Hp.s2b H EQ4 und9 WO und5 (by omega) ?_;clear H;intro a c N H;intro b q l;replace H:=H.nw l;clear l;have d:=H.ownA m1
 have m:(rdr b (blks a) s.data.toList false).ok q:=by
  refine ZT ⟨?_,a,c,?_,d.cells,by rw[i];exact d.le.1,fun k g=>g⟩ fun k g=>(d.mem k g).2
  ·exact fun u=>(pairwise_cons.1 H.sep).1 _ (.head _) b (by simp[Asn.foot]) u
  ·rw[i];exact H.blk (.head _)
 have h:∀k∈b::blks a,∃x∈[Asn.blk b [.slice a s.size c,.bool false] 266,.own 5 1 a s.size c (byteCells s)],k∈x.foot:=by
  intro k g;rcases mem_cons.1 g with rfl|g
  ·exact⟨_,.head _,by simp[Asn.foot]⟩
  ·exact⟨_,.tail _ (.head _),g⟩
 refine AC (Iq b (blks a) s.data.toList false 4 (by omega) q m) ?_;rintro e y ⟨rfl,f⟩;replace H:=Hp.use (L1:=[_,_]) (L2:=[]) H f h;clear f;refine⟨_,rfl,AC (Iq b (blks a) _ _ 1 (by omega) y (H.ok _ (.head _))) ?_⟩;rintro e z ⟨rfl,f⟩;replace H:=H.Ba f;clear f;refine⟨_,rfl,AC (Iq b (blks a) _ _ 1 (by omega) z (H.ok _ (.head _))) ?_⟩;rintro e O ⟨rfl,f⟩;replace H:=H.Ba f;clear f;refine⟨_,rfl,?_⟩
 have A:tk s.data.toList 4=s.data.toList.take 4:=by rw[tk,if_pos (by omega)]
 have B:dr s.data.toList 4=s.data.toList.drop 4:=by rw[dr,if_pos (by omega)]
 have C:(s.data.toList.drop 4).length=s.size-4:=by rw[length_drop,i]
 have D:tk (s.data.toList.drop 4) 1=(s.data.toList.drop 4).take 1:=by rw[tk,if_pos (by omega)]
 have F:dr (s.data.toList.drop 4) 1=s.data.toList.drop 5:=by rw[dr,if_pos (by omega),drop_drop]
 have G:(s.data.toList.drop 5).length=s.size-5:=by rw[length_drop,i]
 have J:tk (s.data.toList.drop 5) 1=(s.data.toList.drop 5).take 1:=by rw[tk,if_pos (by omega)]
 rw[B,F,A,D,J];have o:∀(x:List UInt8)(n:Nat),n<=7->num (x.take n)=(valN (x.take n):Int):=fun x n l=>PS (by rw[length_take];omega);rw[o _ 4 (by omega),o _ 1 (by omega),o _ 1 (by omega)]
 have j:¬(s.data.toList.length<6\/906<s.data.toList.length):=by omega
 refine AB (fun K=>⟨by rw[D5,if_neg j,if_pos (by omega)];rfl,H.done⟩) (fun K=>AB (fun L=>⟨by rw[D5,if_neg j,if_pos (by omega)];rfl,H.done⟩) (fun L=>AB (fun M=>⟨by rw[D5,if_neg j,if_pos (by omega)];rfl,H.done⟩) (fun M=>⟨by rw[D5,if_neg j,if_neg (by omega)];rfl,H.done⟩)))
theorem XK(n:Int)(d:0<=n):∀k,valN (be n k)=n.toNat%256^k:=by
 have b:∀k (a:Nat),(be n k).foldl (fun n x=>n*256+x.toNat) a=a*256^k+n.toNat%256^k:=by
  intro k
  induction k with
  |zero=>intro a;simp[be,Nat.mod_one]
  |succ k e=>
   intro a
   have f:(bt n k).toNat=n.toNat/256^k%256:=by
    have c:=Si n k
    have g:(2:Int)^(8*k)=((256^k:Nat):Int):=by
     rw[Int.pow_mul];simp
    rw[g]at c
    have h:n/((256^k:Nat):Int)=((n.toNat/256^k:Nat):Int):=by
     rw[Int.natCast_ediv,Int.toNat_of_nonneg d]
    rw[h]at c;omega
   rw[be,foldl_cons,e,f,Nat.pow_succ];have i:n.toNat%(256^k*256)=n.toNat%256^k+256^k*(n.toNat/256^k%256):=Nat.mod_mul;rw[i,Nat.add_mul,Nat.mul_assoc,Nat.mul_comm 256 (256^k),Nat.mul_comm (n.toNat/256^k%256)];omega
 intro k;simpa [valN]using b k 0
theorem IY{n:Int}{k:Nat}(a:0<=n)(h1:n<256^k):(valN (be n k):Int)=n:=by
 rw[XK n a,Nat.mod_eq_of_lt]
 ·omega
 ·have:((256^k:Nat):Int)=256^k:=by simp
  omega
theorem I5{n:Int}{k:Nat}(a:0<=n)(h1:n<256^k)(b:n<9223372036854775808):num (be n k)=n:=by
 rw[num,IY a h1,DX,if_neg (by omega)];omega
def fid(l:List (List UInt8)):Nat:=match l with
 | []=>0
 |s::_=>match D5 s with
  |none=>0
  |some (a,_,_)=>a
def good(l:List (List UInt8)):Prop:=∀k s,l[k]? =some s->D5 s=some (fid l,k,l.length)
def FT(l:List (List UInt8)):List UInt8:=l.flatMap (·.drop 6)
theorem take_left{α:Type}(a b:List α)(n:Nat)(h:a.length=n):(a++b).take n=a:=by subst h;simp
theorem drop_left{α:Type}(a b:List α)(n:Nat)(h:a.length=n):(a++b).drop n=b:=by subst h;simp
theorem chunks{α:Type}(l:List α)(m:Nat):(List.range m).flatMap (fun k=>(l.drop (900*k)).take 900)=l.take (900*m):=by
 induction m with
 |zero=>simp
 |succ m a=>
  rw[List.range_succ,flatMap_append,a];simp only[flatMap_cons,List.flatMap_nil,append_nil];rw[show 900*(m+1)=900*m+900 by omega,List.take_add]
theorem Xo(id:Int)(k m:Nat):(headB id k m).length=6:=by simp[headB,laid,AX]
theorem piece_drop(r:Rec)(k:Nat):(Bi r k).drop 6=((Ak r).drop (900*k)).take 900:=drop_left _ _ 6 (Xo _ _ _)
theorem join_pieces(r:Rec):FT (pieces r)=Ak r:=by
 rw[FT,pieces,List.flatMap_map];have:(fun k=>(Bi r k).drop 6)=fun k=>((Ak r).drop (900*k)).take 900:=funext fun k=>piece_drop r k;rw[this,chunks];exact take_of_length_le (by unfold Bc;omega)
theorem VE(r:Rec)(k:Nat):(Bi r k).length=6+min 900 ((Ak r).length-900*k):=by
 rw[Bi,length_append,Xo,length_take,length_drop]
theorem head_piece{r:Rec}(h:EE r){k:Nat}(j:k<Bc (Ak r).length):D5 (Bi r k)=some (r.id.toNat,k,Bc (Ak r).length):=by
 obtain⟨l,m,n⟩:=FI h
 have o:Bc (Ak r).length<=34:=by unfold Bc;omega
 have c:=h.1;have a:=h.2.1;have p:=VE r k
 have e:Bi r k=be r.id 4++(be (k:Int) 1++(be (Bc (Ak r).length:Int) 1++((Ak r).drop (900*k)).take 900)):=by
  rw[Bi,headB];simp[laid]
 have d:(Bi r k).take 4=be r.id 4:=by rw[e];exact take_left _ _ 4 (AX _ _)
 have b:(Bi r k).drop 4=be (k:Int) 1++(be (Bc (Ak r).length:Int) 1++((Ak r).drop (900*k)).take 900):=by rw[e];exact drop_left _ _ 4 (AX _ _)
 have f:(Bi r k).drop 5=be (Bc (Ak r).length:Int) 1++((Ak r).drop (900*k)).take 900:=by
  rw[show 5=4+1 from rfl,<- drop_drop,b];exact drop_left _ _ 1 (AX _ _)
 have q:(valN (be r.id 4):Int)=r.id:=IY (by omega) (by omega);have s:(valN (be (k:Int) 1):Int)=k:=IY (by omega) (by omega);have t:(valN (be (Bc (Ak r).length:Int) 1):Int)=Bc (Ak r).length:=IY (by omega) (by omega)
 have g:((Bi r k).drop 4).take 1=be (k:Int) 1:=by rw[b];exact take_left _ _ 1 (AX _ _)
 have i:((Bi r k).drop 5).take 1=be (Bc (Ak r).length:Int) 1:=by rw[f];exact take_left _ _ 1 (AX _ _)
 rw[D5,if_neg (by omega),d,g,i,if_neg (by omega)];simp only[Option.some.injEq,Prod.mk.injEq];omega
theorem good_pieces{r:Rec}(h:EE r):good (pieces r):=by
 obtain⟨f,g,i⟩:=FI h
 have c:0<Bc (Ak r).length:=by unfold Bc;omega
 have e:fid (pieces r)=r.id.toNat:=by
  have a:(pieces r)[0]? =some (Bi r 0):=by simp[pieces,c]
  cases hp:pieces r with
  |nil=>rw[hp]at a;cases a
  |cons s t=>
   rw[hp]at a;simp at a;subst a;simp only[fid,head_piece h c]
 intro k s b;rw[GU,e]
 have d:k<Bc (Ak r).length:=by
  have:=(List.getElem?_eq_some_iff.1 b).1
  rwa [GU]at this
 have:s=Bi r k:=by
  simp[pieces,d]at b;exact b.symm
 subst this;exact head_piece h d
theorem Hg{a b:List UInt8}{n:Nat}(h:a.length=n):tk (a++b) n=a:=by
 rw[tk,if_pos (by simp;omega)];exact take_left _ _ n h
theorem Di{a b:List UInt8}{n:Nat}(h:a.length=n):dr (a++b) n=b:=by
 rw[dr,if_pos (by simp;omega)];exact drop_left _ _ n h
theorem Ju{a b:List UInt8}{n:Nat}(h:a.length=n):decide ((a++b).length<n)=false:=by
 rw[decide_eq_false_iff_not];simp;omega
def Ey:Nat->List UInt8->List (Int×ByteArray)×List UInt8×Bool
 |0,b=>([],b,false)
 |n+1,b=>
  let len:=(num (tk (dr b 2) 2)).toNat
  let r:=Ey n (dr (dr (dr b 2) 2) len)
  ((num (tk b 2),⟨(tk (dr (dr b 2) 2) len).toArray⟩)::r.1,r.2.1,((decide (b.length<2)||decide ((dr b 2).length<2))||decide ((dr (dr b 2) 2).length<len))||r.2.2)
theorem QE:∀(l:List (Int×ByteArray))(rest:List UInt8),(∀p∈l,I8 p.1/\p.2.size<=1500)->Ey l.length (ET l++rest)=(l,rest,false)
 | [],rest,h=>rfl
 |p::r,rest,h=>by
  obtain⟨⟨i,j⟩,k⟩:=h p (.head _);have c:=QE r rest fun q d=>h q (.tail _ d)
  have e:ET (p::r)++rest=be p.1 2++(be (p.2.size:Int) 2++(p.2.data.toList++(ET r++rest))):=by simp[ET]
  have b:p.2.data.toList.length=p.2.size:=Array.length_toList;have a:∀n:Int,(be n 2).length=2:=fun n=>AX n 2;have f:num (be p.1 2)=p.1:=I5 (by omega) (by omega) (by omega);have g:num (be (p.2.size:Int) 2)=(p.2.size:Int):=I5 (by omega) (by omega) (by omega);rw[length_cons,e];simp only[Ey,Hg (a _),Di (a _),Ju (a _),f,g,Int.toNat_natCast,Hg b,Di b,Ju b,c];rfl
structure dR where
 r:Rec
 rest:List UInt8
 short:Bool
def lens(l:List Nat)(b:List UInt8):List UInt8:=l.foldl dr b
def Pz(l:List Nat)(b:List UInt8):Bool:=match l with
 | []=>false
 |n::r=>decide (b.length<n)||Pz r (dr b n)
def QQ(b:List UInt8):Nat:=(num (tk (lens [4,4,8,8,1,2] b) 2)).toNat
def Tn(b:List UInt8):Nat:=(num (tk (lens [4,4,8,8,1,2,2,QQ b] b) 1)).toNat
def parse(b:List UInt8):dR:=
 let A:=Ey (Tn b) (lens [4,4,8,8,1,2,2,QQ b,1] b)
 {r:= {id:=num (tk b 4),parent:=num (tk (lens [4] b) 4),frm:=num (tk (lens [4,4] b) 8),to:=num (tk (lens [4,4,8] b) 8),kind:=num (tk (lens [4,4,8,8] b) 1),name:=num (tk (lens [4,4,8,8,1] b) 2),text:=⟨(tk (lens [4,4,8,8,1,2,2] b) (QQ b)).toArray⟩,attrs:=A.1}
  rest:=A.2.1
  short:=Pz [4,4,8,8,1,2,2,QQ b,1] b||A.2.2}
theorem parse_whole{r:Rec}(h:EE r):parse (Ak r)=⟨r,[],false⟩:=by
 have B:=FI h;obtain⟨C,D,F,G,H,J,K,l⟩:=h
 have e:Ak r=be r.id 4++(be r.parent 4++(be r.frm 8++(be r.to 8++(be r.kind 1++(be r.name 2++(be (r.text.size:Int) 2++(r.text.data.toList++(be (r.attrs.length:Int) 1++(ET r.attrs++[]))))))))):=by
  simp[Ak,ES,laid]
 have m:0<=r.kind/\r.kind<256/\0<=r.name/\r.name<65536/\r.text.size<=1500/\∀p∈r.attrs,I8 p.1/\p.2.size<=1500:=by
  rcases l with⟨j,k,_,f,i,_⟩|⟨j,k,f,i⟩
  ·refine⟨by omega,by omega,?_,?_,?_,k⟩
   ·have:=f.1;omega
   ·have:=f.2;omega
   ·rw[i];simp[ByteArray.size]
  ·refine⟨by omega,by omega,by omega,by omega,i,?_⟩
   rw[f];simp
 obtain⟨j,L,M,N,O,o⟩:=m;have g:r.text.data.toList.length=r.text.size:=Array.length_toList;have a:∀n:Int,(be n 1).length=1:=fun n=>AX n 1;have b:∀n:Int,(be n 2).length=2:=fun n=>AX n 2;have c:∀n:Int,(be n 4).length=4:=fun n=>AX n 4;have d:∀n:Int,(be n 8).length=8:=fun n=>AX n 8;have q:num (be r.id 4)=r.id:=I5 (by omega) (by omega) (by omega);have s:num (be r.parent 4)=r.parent:=I5 (by omega) (by omega) (by omega);have u:num (be r.frm 8)=r.frm:=I5 (by omega) (by omega) (by omega);have w:num (be r.to 8)=r.to:=I5 (by omega) (by omega) (by omega);have x:num (be r.kind 1)=r.kind:=I5 (by omega) (by omega) (by omega);have y:num (be r.name 2)=r.name:=I5 (by omega) (by omega) (by omega);have z:num (be (r.text.size:Int) 2)=(r.text.size:Int):=I5 (by omega) (by omega) (by omega);have A:num (be (r.attrs.length:Int) 1)=(r.attrs.length:Int):=I5 (by omega) (by omega) (by omega)
 have t:QQ (Ak r)=r.text.size:=by
  rw[e];simp only[QQ,lens,foldl_cons,foldl_nil,Di (c _),Di (d _),Di (a _),Di (b _),Hg (b _),z,Int.toNat_natCast]
 have at_:Tn (Ak r)=r.attrs.length:=by
  rw[Tn,t,e];simp only[lens,foldl_cons,foldl_nil,Di (c _),Di (d _),Di (a _),Di (b _),Hg (a _),Di g,A,Int.toNat_natCast]
 rw[parse,t,at_,e]
 simp only[Pz,lens,foldl_cons,foldl_nil,Di (c _),Di (d _),Di (a _),Di (b _),Di g,Hg (c _),Hg (d _),Hg (a _),Hg (b _),Hg g,
  Ju (c _),Ju (d _),Ju (a _),Ju (b _),Ju g,q,s,u,w,x,y,QE r.attrs [] o]
 rfl
def decR(l:List (List UInt8))(r:Rec):Prop:=EE r/\pieces r=l
theorem JG{l:List (List UInt8)}{r:Rec}(h:decR l r):good l/\FT l=Ak r/\30<=(FT l).length/\parse (FT l)=⟨r,[],false⟩:=by
 obtain⟨a,rfl⟩:=h;rw[join_pieces];exact⟨good_pieces a,rfl,(FI a).1,parse_whole a⟩
theorem decR_one{l:List (List UInt8)}{r a:Rec}(h:decR l r)(c:decR l a):r=a:=by
 have b:=(JG h).2.2.2;rw[(JG c).2.2.2]at b;exact(congrArg dR.r b).symm
structure StrS(w:World)(a:Option Addr)(n:Nat)(l:List (List UInt8)):Prop where
 len:n=l.length
 cells:Cells w a (l.map sv)
theorem StrS.chg{w w':World}{a:Option Addr}{n:Nat}{l:List (List UInt8)}{B:List Nat}(h:StrS w a n l)(hc:Chg B w w')(b:∀k∈blks a,k∉B):StrS w' a n l:=⟨h.len,h.cells.chg hc b⟩
theorem StrS.ld{w:World}{a:Option Addr}{n:Nat}{l:List (List UInt8)}(h:StrS w a n l){k:Nat}{s:List UInt8}(d:l[k]? =some s):∃b,a=some b/\Ld Tryz.prog 9 w (b.add (k*1)) (.string ⟨s.toArray⟩):=by
 obtain⟨b,c,e⟩:=h.cells k (sv s) (by simp[d]);exact⟨b,c,OJ scl9.agg (by rw[Nat.mul_one];exact e)⟩
theorem StrS.ld0{w:World}{a:Option Addr}{n:Nat}{l:List (List UInt8)}(h:StrS w a n l){s:List UInt8}(e:l[0]? =some s){c:Addr}(f:a=some c):Ld Tryz.prog 9 w c (.string ⟨s.toArray⟩):=by
 obtain⟨d,b,g⟩:=h.cells 0 (sv s) (by simp[e])
 have:c=d:=by rw[f]at b;exact Option.some.inj b
 subst this;exact OJ scl9.agg (by simpa [Addr.add,sv]using g)
theorem headF_len{l:List UInt8}{x:Nat×Nat×Nat}(h:D5 l=some x):6<=l.length/\l.length<=906/\x.2.2<256:=by
 unfold D5 at h;split at h
 ·cases h
 ·split at h
  ·cases h
  ·cases h
   have:=Og ((l.drop 5).take 1)
   have a:((l.drop 5).take 1).length<=1:=by rw[length_take];omega
   have b:256^((l.drop 5).take 1).length<=256^1:=Nat.pow_le_pow_right (by omega) a;refine⟨by omega,by omega,?_⟩;show valN _<256;omega
theorem Qa(x:Option (Nat×Nat×Nat)):∃(i j m:Nat)(b:Bool),fF x=.tuple #[.int .i64 (i:Int),.int .i64 (j:Int),.int .i64 (m:Int),.bool b]/\(x=none->i=0/\b=false)/\(∀y,x=some y->(i,j,m)=y/\b=true):=by
 cases x with
 |none=>exact⟨0,0,0,false,rfl,fun _=>⟨rfl,rfl⟩,by simp⟩
 |some y=>
  obtain⟨i,j,m⟩:=y;exact⟨i,j,m,true,rfl,by simp,fun y h=>by cases h;exact⟨rfl,rfl⟩⟩
theorem fid_head{l:List (List UInt8)}{s:List UInt8}(h:l[0]? =some s){i:Nat}(d:D5 s=none->i=0)(h1:∀y,D5 s=some y->i=y.1):fid l=i:=by
 cases l with
 |nil=>cases h
 |cons t r=>
  simp at h;subst h;simp only[fid]
  cases hh:D5 t with
  |none=>simp[d hh]
  |some y=>obtain⟨a,b,c⟩:=y;simp[h1 _ hh]
theorem XM(l:List UInt8)(i j:Nat):(ByteArray.mk l.toArray).extract i j=⟨((l.take j).drop i).toArray⟩:=by
 apply ByteArray.ext;apply Array.ext';rw[ByteArray.data_extract,Array.toList_extract,List.extract_eq_take_drop];simp only[List.drop_take]
def zrec:Value:=.agg #[.int .i64 0,.int .i64 0,.int .i64 0,.int .i64 0,.int .i64 0,.int .i64 0,.string ⟨#[]⟩,.slice none 0 0]
theorem Ko(A:List (Int×ByteArray))(p:Int×ByteArray):BC (A++[p])=BC A++[.int .i64 p.1,.string p.2]:=by simp[BC,Gh]
theorem mk_inj{x y:List UInt8}:(ByteArray.mk x.toArray=ByteArray.mk y.toArray)↔x=y:=by
 constructor
 ·intro h;have:=congrArg (fun b:ByteArray=>b.data.toList) h;simpa using this
 ·rintro rfl;rfl
theorem joined_spec(l:List (List UInt8))(a:Option Addr)(n c:Nat)(w:World)(D:StrS w a n l)(hn:n<=maxLen):
  Calls Tryz.prog 192 #[.slice a n c] w fun e w'=>(good l/\∃a' c',e=.returned (.tuple #[.slice a' (FT l).length c',.bool (decide (0<(FT l).length))])/\(FT l).length<=900*256/\l.length<=256/\Hp [] w w' [.own 5 1 a' (FT l).length c' (Aa (FT l))])\/
   (¬good l/\e=.returned (.tuple #[.slice none 0 0,.bool false])/\Hp [] w w' []):=by
 have H:=Hp.start w
 have N:maxLen=9223372036854775807:=by simp[maxLen]
 have O:=D.len;apply fJoined.ok;unfold fJoined.vc
 refine AP.mk (fun m s w'=>∃k a' C c',m=l.length-k/\s=((a',C,c'),(k:Int))/\k<=l.length/\C=(FT (l.take k)).length/\(FT (l.take k)).length<=900*k/\(0<k->l.length<=256)/\(∀j s,j<k->l[j]? =some s->D5 s=some (fid l,j,l.length))/\
  Hp [] w w' [.own 5 1 a' C c' (Aa (FT (l.take k)))]) l.length ⟨0,none,0,0,rfl,rfl,Nat.zero_le _,rfl,Nat.zero_le _,by omega,by omega,H.nilS 5 1⟩ ?_
 clear H
 rintro m s w' next ⟨k,a',C,c',rfl,rfl,hk,rfl,h9,o,R,H⟩ q
 dsimp only;refine AB (fun h=>?_) (fun h=>?_)
 ·have d:k<l.length:=by omega
  have F:l[k]? =some l[k]:=List.getElem?_eq_getElem d;have u:l[0]? =some l[0]:=List.getElem?_eq_getElem (by omega);obtain⟨ad,r,G⟩:=(D.chg H.chg (by simp)).ld F;refine AA r ⟨⟨by omega,h⟩,_,G,AC (PZ _ _) ?_⟩;rintro e w2 ⟨rfl,x⟩;replace H:=H.ext0 x;clear x;obtain⟨i,j,m,b,ev,T,U⟩:=Qa (D5 l[k]);have aa:D5 l[k]=none->i=0/\b=false:=T;refine⟨i,j,m,b,by simp only[ev],AA r ⟨⟨by omega,by omega⟩,_,(D.chg H.chg (by simp)).ld0 u r,AC (PZ _ _) ?_⟩⟩;rintro e w3 ⟨rfl,x⟩;replace H:=H.ext0 x;clear x;obtain⟨X,j2,m2,b2,J,g1,g2⟩:=Qa (D5 l[0]);have Y:fid l=X:=fid_head u (fun h=>(g1 h).1) (fun y hy=>by have:=(g2 y hy).1;rw[<- this]);refine⟨X,j2,m2,b2,by simp only[J],?_⟩;have f:(¬D5 l[k]=some (fid l,k,l.length))->¬good l:=fun z K=>z (K k _ F);refine Gp (fun z=>.inr ⟨f ?_,rfl,H.done⟩) (fun z=>?_)
  ·intro g;have:=(U _ g).2;rw[z]at this;cases this
  cases g:D5 l[k]with
  |none=>have:=(T g).2;rw[z]at this;cases this
  |some y=>
   obtain⟨y1,y2⟩:=U y g;subst y1;refine AV (fun hi=>.inr ⟨f ?_,rfl,H.done⟩) (fun hi=>AV (fun hj=>.inr ⟨f ?_,rfl,H.done⟩) (fun hj=>AV (fun hm=>.inr ⟨f ?_,rfl,H.done⟩) (fun hm=>?_)))
   ·rw[g,Option.some.injEq,Prod.mk.injEq];omega
   ·rw[g,Option.some.injEq,Prod.mk.injEq,Prod.mk.injEq];omega
   ·rw[g,Option.some.injEq,Prod.mk.injEq,Prod.mk.injEq];omega
   have L:=headF_len g
   have A:(ByteArray.mk l[k].toArray).size=l[k].length:=by simp[ByteArray.size]
   have B:(ByteArray.mk l[k].toArray).extract (Int.toNat 6) (ByteArray.mk l[k].toArray).size=⟨(l[k].drop 6).toArray⟩:=by
    rw[A];rw[XM,take_length];rfl
   have ab:m<256:=L.2.2;rw[B];have Z:(l[k].drop 6).length=l[k].length-6:=length_drop
   have p:(ByteArray.mk (l[k].drop 6).toArray).size=(l[k].drop 6).length:=by simp[ByteArray.size]
   refine⟨⟨by omega,by rw[A];omega⟩,Hp.app Ve (by omega) H EQ4 (Src.ofString _ und9 ⟨(l[k].drop 6).toArray⟩) (by omega) (by omega) ?_⟩;clear H;intro a5 c5 w5 H;rw[CQ,<- CS,p,<- length_append]at H;rw[p,<- length_append]
   have ej:FT (l.take (k+1))=FT (l.take k)++l[k].drop 6:=by
    rw[take_succ_eq_append_getElem d,FT,flatMap_append];simp[FT]
   rw[<- ej]at H⊢;refine⟨iR,q (l.length-(k+1)) _ _ (by omega) ⟨k+1,a5,_,c5,rfl,rfl,by omega,rfl,?_,by omega,?_,H⟩⟩
   ·rw[ej,length_append];omega
   ·intro j' s' ac t
    by_cases M:j'=k
    ·subst M
     rw[F]at t;cases t;rw[g,Option.some.injEq,Prod.mk.injEq,Prod.mk.injEq];omega
    ·exact R j' s' (by omega) t
 ·have d:k=l.length:=by omega
  subst d;rw[take_length]at H h9⊢;left;refine⟨fun j s hs=>R j s (List.getElem?_eq_some_iff.1 hs).1 hs,a',c',?_,?_,?_,H⟩
  ·have Z:decide ((0:Int)<((FT l).length:Int))=decide (0<(FT l).length):=decide_eq_decide.2 (by omega)
   rw[Z]
  ·by_cases h0:l.length=0
   ·omega
   ·have:=o (by omega);omega
  ·by_cases h0:l.length=0
   ·omega
   ·exact o (by omega)
theorem toRdr{B:List Nat}{w0 w:World}{L:List Asn}{b:Nat}{a:Option Addr}{bs:List UInt8}{c:Nat}{f:Bool}(H:Hp B w0 w (.blk b [.slice a bs.length c,.bool f] 266::.own 5 1 a bs.length c (Aa bs)::L)):Hp B w0 w (rdr b (blks a) bs f::L):=by
 have d:=H.ownA m1
 have g:(rdr b (blks a) bs f).ok w:=by
  refine ZT ⟨?_,a,c,H.blk (.head _),d.cells,d.le.1,fun k e=>e⟩ fun k e=>(d.mem k e).2;exact fun h=>(pairwise_cons.1 H.sep).1 _ (.head _) b (by simp[Asn.foot]) h
 refine Hp.use (L1:=[_,_]) (L2:=L) H (Hp.JA g) fun k e=>?_;rcases mem_cons.1 e with rfl|e
 ·exact⟨_,.head _,by simp[Asn.foot]⟩
 ·exact⟨_,.tail _ (.head _),e⟩
theorem aJ:Tryz.prog.underlying 202=some (.slice 260):=by kernel_rfl
theorem TD(l:List UInt8)(n:Nat):(tk l n).length<=n:=by unfold tk;split<;>simp;omega
theorem Xh{l:List UInt8}(h:l.length<=7):num l=((num l).toNat:Int):=by rw[PS h];simp
theorem parse_rel{g b1 k l m n o p h:List UInt8}{T N:Nat}(a:dr g 4=b1)(b:dr b1 4=k)(c:dr k 8=l)(d:dr l 8=m)(e:dr m 1=n)(f:dr n 2=o)(i:dr o 2=p)(s:num (tk o 2)=(T:Int))(j:dr p T=h)(t:num (tk h 1)=(N:Int)):
  parse g= {r:= {id:=num (tk g 4),parent:=num (tk b1 4),frm:=num (tk k 8),to:=num (tk l 8),kind:=num (tk m 1),name:=num (tk n 2),text:=⟨(tk p T).toArray⟩,attrs:=(Ey N (dr h 1)).1},rest:=(Ey N (dr h 1)).2.1,short:=Pz [4,4,8,8,1,2,2,T,1] g||(Ey N (dr h 1)).2.2}:=by
 have q:QQ g=T:=by
  simp only[QQ,lens,foldl_cons,foldl_nil,a,b,c,d,e,f,s,Int.toNat_natCast]
 have u:Tn g=N:=by
  simp only[Tn,q,lens,foldl_cons,foldl_nil,a,b,c,d,e,f,i,j,t,Int.toNat_natCast]
 simp only[parse,q,u,lens,foldl_cons,foldl_nil,a,b,c,d,e,f,i,j]
theorem decode_spec(l:List (List UInt8))(a:Option Addr)(n c:Nat)(w:World)(hS:StrS w a n l)(hn:n<=maxLen):
  Calls Tryz.prog 131 #[.slice a n c] w fun e w'=>(∃r a' c',decR l r/\e=.returned (.tuple #[r.val a' r.attrs.length c',.int .i64 0])/\Hp [] w w' [.own 260 2 a' r.attrs.length c' (BC r.attrs)])\/
   ((¬∃r,decR l r)/\e=.returned (.tuple #[zrec,.int .i64 160])/\Hp [] w w' []):=by
 have H:=Hp.start w
 have hmax:maxLen=9223372036854775807:=by simp[maxLen]
 have hlen:=hS.len;apply fDecode.ok;unfold fDecode.vc
 (intro _ _ hn;replace H:=H.nw hn;clear hn)
 rename_i b _;refine AC (joined_spec l a n c _ (hS.chg H.chg (by simp)) hn) ?_;rintro e w2 (⟨hgood,a1,c1,rfl,hj1,hj2,H'⟩|⟨hbad,rfl,H'⟩)
 ·replace H:=H.ext1 H'
  clear H';refine⟨_,_,_,_,rfl,AV (fun h0=>?_) (fun h0=>?_)⟩
  ·(apply Hp.stA;(case H=>exact H.Ae);(case e=>exact⟨rfl,rfl,rfl,rfl⟩);(case S=>exact Cj);(case hn=>exact rfl);(case h1=>exact rfl);(case ho=>exact Nat.le_of_ble_eq_true rfl);(case hc=>exact rfl);clear H;intro _ H;(try simp only[over,set_cons_zero,set_cons_succ]at H);(repeat apply Exists.intro);refine⟨H.loA Cj,?_⟩)
   refine .inr ⟨?_,rfl,H.done⟩;rintro⟨r,hr⟩;have:=(JG hr).2.2.1;omega
  ·intro b2 w3 hn3
   replace H:=toRdr (H.nw hn3);clear hn3;generalize blks a1=f at H;generalize hb0:FT l=b0 at*;have num1:=fun(long:Nat)(h8:long<=8)(bs:List UInt8)(sh:Bool)(w:World)(h:(rdr b2 f bs sh).ok w)=>Iq b2 f bs sh long h8 w h;refine AC (num1 4 (by omega) _ _ _ (H.ok _ (.head _))) ?_;rintro e w4 ⟨rfl,H'⟩;replace H:=H.Ba H';clear H';generalize hb1:dr b0 4=b1 at H;refine⟨_,rfl,AC (num1 4 (by omega) _ _ _ (H.ok _ (.head _))) ?_⟩;rintro e w5 ⟨rfl,H'⟩;replace H:=H.Ba H';clear H';generalize hb2:dr b1 4=b2x at H;refine⟨_,rfl,?_⟩
   (intro _ _ hn;replace H:=H.nw hn;clear hn;apply Hp.stA;(case H=>exact H);(case e=>exact⟨rfl,rfl,rfl,rfl⟩);(case S=>exact Cj);(case hn=>exact rfl);(case h1=>exact rfl);(case ho=>exact Nat.le_of_ble_eq_true rfl);(case hc=>exact rfl);clear H;intro _ H;(try simp only[over,set_cons_zero,set_cons_succ]at H))
   replace H:=H.Ae;rename_i b3 _ _;refine AC (num1 8 (by omega) _ _ _ (H.ok _ (.head _))) ?_;rintro e w6 ⟨rfl,H'⟩;replace H:=H.Ba H';clear H';generalize hb3:dr b2x 8=b3x at H;refine⟨_,rfl,AC (num1 8 (by omega) _ _ _ (H.ok _ (.head _))) ?_⟩;rintro e w7 ⟨rfl,H'⟩;replace H:=H.Ba H';clear H';generalize hb4:dr b3x 8=b4 at H;refine⟨_,rfl,?_⟩
   (apply Hp.stA;(case H=>exact H.Ae);(case e=>exact⟨rfl,rfl,rfl,rfl⟩);(case S=>exact dX);(case hn=>exact rfl);(case h1=>exact rfl);(case ho=>exact Nat.le_of_ble_eq_true rfl);(case hc=>exact rfl);clear H;intro _ H;(try simp only[over,set_cons_zero,set_cons_succ]at H))
   replace H:=H.Ae;refine AC (num1 1 (by omega) _ _ _ (H.ok _ (.head _))) ?_;rintro e w8 ⟨rfl,H'⟩;replace H:=H.Ba H';clear H';generalize hb5:dr b4 1=b5 at H;refine⟨_,rfl,AC (num1 2 (by omega) _ _ _ (H.ok _ (.head _))) ?_⟩;rintro e w9 ⟨rfl,H'⟩;replace H:=H.Ba H';clear H';generalize hb6:dr b5 2=b6 at H;refine⟨_,rfl,?_⟩
   (apply Hp.st;(case H=>exact H.Ae);(case e=>exact⟨rfl,rfl,rfl,rfl⟩);(case S=>exact scl3);(case hv=>exact rfl);(case h1=>exact rfl);(case ho=>exact Nat.le_of_ble_eq_true rfl);(case hc=>exact rfl);clear H;intro _ H;(try simp only[over,set_cons_zero,set_cons_succ]at H);apply Hp.st;(case H=>exact H);(case e=>exact⟨rfl,rfl,rfl,rfl⟩);(case S=>exact scl3);(case hv=>exact rfl);(case h1=>exact rfl);(case ho=>exact Nat.le_of_ble_eq_true rfl);(case hc=>exact rfl);clear H;intro _ H;(try simp only[over,set_cons_zero,set_cons_succ]at H))
   replace H:=H.Ae;refine AC (num1 2 (by omega) _ _ _ (H.ok _ (.head _))) ?_;rintro e w10 ⟨rfl,H'⟩;replace H:=H.Ba H';clear H';generalize hb7:dr b6 2=b7 at H;refine⟨_,rfl,?_⟩;obtain⟨T,hT⟩:∃T:Nat,num (tk b6 2)=(T:Int):=⟨_,Xh (Nat.le_trans (TD _ 2) (by omega))⟩;rw[hT];refine AC (Ph b2 f _ _ _ _ (H.ok _ (.head _))) ?_;rintro e w11 ⟨rfl,H'⟩;replace H:=H.Ba H';clear H';generalize hb8:dr b7 T=b8 at H;refine⟨_,rfl,?_⟩
   (apply Hp.st;(case H=>exact H.Ae);(case e=>exact⟨rfl,rfl,rfl,rfl⟩);(case S=>exact scl9);(case hv=>exact rfl);(case h1=>exact rfl);(case ho=>exact Nat.le_of_ble_eq_true rfl);(case hc=>exact rfl);clear H;intro _ H;(try simp only[over,set_cons_zero,set_cons_succ]at H))
   replace H:=H.Ae;refine AC (num1 1 (by omega) _ _ _ (H.ok _ (.head _))) ?_;rintro e w12 ⟨rfl,H'⟩;replace H:=H.Ba H';clear H';obtain⟨N,hN⟩:∃N:Nat,num (tk b8 1)=(N:Int):=⟨_,Xh (Nat.le_trans (TD _ 1) (by omega))⟩;refine⟨_,rfl,?_⟩;rw[hN]
   have hN2:N<256:=by
    have h2:=PS (Nat.le_trans (TD b8 1) (by omega));have h3:=Og (tk b8 1);have h4:256^(tk b8 1).length<=256^1:=Nat.pow_le_pow_right (by omega) (TD _ 1);omega
   obtain⟨p,hp⟩:∃p,p=parse b0:=⟨_,rfl⟩;have hdec:∀r,decR l r->p=⟨r,[],false⟩:=fun r hr=>hp.trans ((congrArg parse hb0).symm.trans (JG hr).2.2.2);have hpar:=parse_rel hb1 hb2 hb3 hb4 hb5 hb6 hb7 hT hb8 hN;rw[<- hp]at hpar;generalize hb9:dr b8 1=b9 at H hpar
   replace H:∃sh9,sh9=(Pz [4,4,8,8,1,2,2,T,1] b0)/\Hp [] w w12 [rdr b2 f b9 sh9,.blk b3 [.int .i64 p.r.id,.int .i64 p.r.parent,.int .i64 p.r.kind,.int .i64 p.r.name,.int .i64 p.r.frm,.int .i64 p.r.to,.string p.r.text,.slice none 0 0] 204,
     .blk b [.int .i64 0,.int .i64 0,.int .i64 0,.int .i64 0,.int .i64 0,.int .i64 0,.string ⟨#[]⟩,.slice none 0 0] 204]:=by
    refine⟨?x,?e,?h⟩
    case h=>rw[hpar];exact H
    case e=>
     subst hb1 hb2 hb3 hb4 hb5 hb6 hb7 hb8;simp only[Pz,Bool.or_assoc,Bool.false_or,Bool.or_false]
   obtain⟨sh9,hsh9,H⟩:=H;rw[<- hsh9]at hpar
   have hpA:p.r.attrs=(Ey N b9).1:=by rw[hpar]
   have hpR:p.rest=(Ey N b9).2.1:=by rw[hpar]
   have hpS:p.short=(sh9||(Ey N b9).2.2):=by rw[hpar]
   clear hpar
   refine AP.mk (fun m s w'=>∃k A bs sh a' c',m=N-k/\s=(k:Int)/\k<=N/\A.length=k/\A++(Ey (N-k) bs).1=p.r.attrs/\(Ey (N-k) bs).2.1=p.rest/\(sh||(Ey (N-k) bs).2.2)=p.short/\
    Hp [] w w' [.own 260 2 a' k c' (BC A),rdr b2 f bs sh,.blk b3 [.int .i64 p.r.id,.int .i64 p.r.parent,.int .i64 p.r.kind,.int .i64 p.r.name,.int .i64 p.r.frm,.int .i64 p.r.to,.string p.r.text,.slice a' k c'] 204,
     .blk b [.int .i64 0,.int .i64 0,.int .i64 0,.int .i64 0,.int .i64 0,.int .i64 0,.string ⟨#[]⟩,.slice none 0 0] 204])
    (N) ⟨0,[],_,_,none,0,rfl,rfl,Nat.zero_le _,rfl,by rw[hpA];rfl,by rw[hpR];rfl,by rw[hpS];rfl,H.nilS 260 2⟩ ?_
   clear H
   rintro m s w' next ⟨k,A,bs,sh,a',c',rfl,rfl,hk,hA,hp1,hp2,hp3,H⟩ hnext
   dsimp only;refine AB (fun h=>?_) (fun h=>?_)
   ·have hk1:N-k=(N-(k+1))+1:=by omega
    rw[hk1]at hp1 hp2 hp3;simp only[Ey]at hp1 hp2 hp3;replace H:=H.Ae;refine AC (num1 2 (by omega) _ _ _ (H.ok _ (.head _))) ?_;rintro e w13 ⟨rfl,H'⟩;replace H:=H.Ba H';clear H';refine⟨_,rfl,?_⟩
    (intro _ _ hn;replace H:=H.nw hn;clear hn;apply Hp.stA;(case H=>exact H);(case e=>exact⟨rfl,rfl,rfl,rfl⟩);(case S=>exact WC);(case hn=>exact rfl);(case h1=>exact rfl);(case ho=>exact Nat.le_of_ble_eq_true rfl);(case hc=>exact rfl);clear H;intro _ H;(try simp only[over,set_cons_zero,set_cons_succ]at H))
    replace H:=H.Ae;refine AC (num1 2 (by omega) _ _ _ (H.ok _ (.head _))) ?_;rintro e w14 ⟨rfl,H'⟩;replace H:=H.Ba H';clear H';refine⟨_,rfl,?_⟩;rw[Xh (Nat.le_trans (TD (dr bs 2) 2) (by omega))];refine AC (Ph b2 f _ _ _ _ (H.ok _ (.head _))) ?_;rintro e w15 ⟨rfl,H'⟩;replace H:=H.Ba H';clear H';refine⟨_,rfl,?_⟩
    (apply Hp.st;(case H=>exact H.Ae);(case e=>exact⟨rfl,rfl,rfl,rfl⟩);(case S=>exact scl9);(case hv=>exact rfl);(case h1=>exact rfl);(case ho=>exact Nat.le_of_ble_eq_true rfl);(case hc=>exact rfl);clear H;intro _ H;(try simp only[over,set_cons_zero,set_cons_succ]at H);(repeat apply Exists.intro);refine⟨H.lo Gv,?_⟩;(repeat apply Exists.intro);refine⟨H.loA WC,?_⟩;intro _ _ hn;replace H:=H.nw hn;clear hn)
    refine Hp.app Zi (by omega) H.D8 EQ4 (Blk.src (P:=Tryz.prog) aJ (H.blk (.head _)) rfl rfl) (by omega) (by omega) ?_;clear H;intro a6 c6 w16 H;rw[<- Ko A (_,_)]at H;replace H:=H.Ib
    (apply Hp.st;(case H=>exact H);(case e=>exact⟨rfl,rfl,rfl,rfl⟩);(case S=>exact Gv);(case hv=>exact rfl);(case h1=>exact rfl);(case ho=>exact Nat.le_of_ble_eq_true rfl);(case hc=>exact rfl);clear H;intro _ H;(try simp only[over,set_cons_zero,set_cons_succ]at H))
    refine⟨iR,hnext (N-(k+1)) _ _ (by omega) ⟨k+1,_,_,_,a6,c6,rfl,by simp,by omega,?_,?_,hp2,?_,H.Ae.del2.del2.BD.Ae⟩⟩
    ·simp[hA]
    ·rw[<- hp1];simp
    ·rw[<- hp3];simp only[Bool.or_assoc]
   ·have hkN:k=N:=by omega
    subst hkN;rw[Nat.sub_self]at hp1 hp2 hp3;simp only[Ey,append_nil,Bool.or_false]at hp1 hp2 hp3
    ((repeat apply Exists.intro);refine⟨H.loA Cj,?_⟩)
    have hAt:AtS w' a' k p.r.attrs:=⟨by rw[<- hp1,hA],by rw[<- hp1];exact(H.ownA (.head _)).cells⟩;refine AC (QJ p.r a' k c' _ hAt (by omega)) ?_;rintro e w13 ⟨a7,c7,rfl,H'⟩;replace H:=H.ext1 H';clear H';refine⟨_,_,_,_,rfl,?_⟩
    refine Am.mk (fun s w'=>(s=true->¬∃r,decR l r)/\(s=false->EE p.r/\(out p.r).length=l.length)/\
     Hp [] w w' [.own 9 1 a7 (out p.r).length c7 ((out p.r).map sv),.own 260 2 a' k c' (BC A),rdr b2 f bs sh,.blk b3 [.int .i64 p.r.id,.int .i64 p.r.parent,.int .i64 p.r.kind,.int .i64 p.r.name,.int .i64 p.r.frm,.int .i64 p.r.to,.string p.r.text,.slice a' k c'] 204,
     .blk b [.int .i64 0,.int .i64 0,.int .i64 0,.int .i64 0,.int .i64 0,.int .i64 0,.string ⟨#[]⟩,.slice none 0 0] 204]) ?_ ?_
    ·clear H
     rintro s w' ⟨hs1,hs2,H⟩;refine F6 (fun hs=>?_) (fun hs=>?_)
     ·(apply Hp.stA;(case H=>exact H.Ib);(case e=>exact⟨rfl,rfl,rfl,rfl⟩);(case S=>exact Cj);(case hn=>exact rfl);(case h1=>exact rfl);(case ho=>exact Nat.le_of_ble_eq_true rfl);(case hc=>exact rfl);clear H;intro _ H;(try simp only[over,set_cons_zero,set_cons_succ]at H);(repeat apply Exists.intro);refine⟨H.loA Cj,?_⟩)
      exact .inr ⟨hs1 hs,rfl,H.done⟩
     ·obtain⟨hr1,hr2⟩:=hs2 hs
      have hout:out p.r=pieces p.r:=by rw[out,if_pos hr1]
      refine AP.mk (fun m s w'=>∃j,m=l.length-j/\s=(j:Int)/\j<=l.length/\(out p.r).take j=l.take j/\
       Hp [] w w' [.own 9 1 a7 (out p.r).length c7 ((out p.r).map sv),.own 260 2 a' k c' (BC A),rdr b2 f bs sh,.blk b3 [.int .i64 p.r.id,.int .i64 p.r.parent,.int .i64 p.r.kind,.int .i64 p.r.name,.int .i64 p.r.frm,.int .i64 p.r.to,.string p.r.text,.slice a' k c'] 204,
       .blk b [.int .i64 0,.int .i64 0,.int .i64 0,.int .i64 0,.int .i64 0,.int .i64 0,.string ⟨#[]⟩,.slice none 0 0] 204]) l.length ⟨0,rfl,rfl,Nat.zero_le _,by simp,H⟩ ?_
      clear H
      rintro m s w' next ⟨j,rfl,rfl,hj,hje,H⟩ hnext
      refine AB (fun h1=>?_) (fun h1=>?_)
      ·have hjl:j<l.length:=by omega
       have hq1:(out p.r)[j]? =some (out p.r)[j]:=List.getElem?_eq_getElem (by omega);have hq2:l[j]? =some l[j]:=List.getElem?_eq_getElem hjl;have hO:StrS w'.drew a7 (out p.r).length (out p.r):=⟨rfl,(H.drew.ownA (.head _)).cells⟩;obtain⟨ad7,had7,hld7⟩:=hO.ld hq1;obtain⟨ad,had,hld⟩:=(hS.chg H.drew.chg (by simp)).ld hq2;refine AA had7 ⟨⟨by omega,by omega⟩,_,hld7,AA had ⟨⟨by omega,by omega⟩,_,hld,AV (fun hne=>?_) (fun heq=>?_)⟩⟩
       ·replace H:=H.drew
        (apply Hp.stA;(case H=>exact H.Ib);(case e=>exact⟨rfl,rfl,rfl,rfl⟩);(case S=>exact Cj);(case hn=>exact rfl);(case h1=>exact rfl);(case ho=>exact Nat.le_of_ble_eq_true rfl);(case hc=>exact rfl);clear H;intro _ H;(try simp only[over,set_cons_zero,set_cons_succ]at H);(repeat apply Exists.intro);refine⟨H.loA Cj,?_⟩)
        refine .inr ⟨?_,rfl,H.done⟩;rintro⟨r,hr⟩;have h3:=hdec r hr
        have h4:out p.r=l:=by rw[h3,out,if_pos hr.1,hr.2]
        have h5:(out p.r)[j]? =l[j]? :=by rw[h4]
        have h6:=Option.some.inj (hq1.symm.trans (h5.trans hq2));exact hne (by rw[h6])
       ·rw[mk_inj]at heq
        refine⟨iR,hnext (l.length-(j+1)) _ _ (by omega) ⟨j+1,rfl,by simp,by omega,?_,H.drew⟩⟩;rw[take_succ_eq_append_getElem hjl,take_succ_eq_append_getElem (by omega),hje,heq]
      ·have hjl:j=l.length:=by omega
       subst hjl;rw[<- hr2,take_length,hr2,take_length]at hje
       ((repeat apply Exists.intro);refine⟨H.loA Cj,?_⟩;apply Hp.stA;(case H=>exact H.Ib);(case e=>exact⟨rfl,rfl,rfl,rfl⟩);(case S=>exact Cj);(case hn=>exact rfl);(case h1=>exact rfl);(case ho=>exact Nat.le_of_ble_eq_true rfl);(case hc=>exact rfl);clear H;intro _ H;(try simp only[over,set_cons_zero,set_cons_succ]at H);(repeat apply Exists.intro);refine⟨H.loA Cj,?_⟩)
       refine .inl ⟨p.r,a',c',⟨hr1,by rw[<- hout];exact hje⟩,?_,?_⟩
       ·rw[<- hp1,hA];rfl
       ·rw[<- hp1,hA]
        exact H.BD.MV
    ·intro J hJ
     obtain⟨hb2,ab,cb,hbk,hbc,hbl,hbf⟩:=eu (H.ok _ m2)
     have hno:(p.short=true\/p.rest≠[]\/¬EE p.r\/(out p.r).length≠l.length)->¬∃r,decR l r:=by
      rintro h ⟨r,hr⟩;have h3:=hdec r hr
      have h4:(out r)=l:=by rw[out,if_pos hr.1,hr.2]
      rw[h3]at h;rcases h with h|h|h|h
      ·cases h
      ·exact h rfl
      ·exact h hr.1
      ·exact h (by rw[h4])
     refine⟨sh,hbk.ld scl4.agg rfl,F6 (fun h1=>hJ _ _ ⟨fun _=>hno (.inl (by rw[<- hp3,h1])),by simp,H⟩) (fun h1=>⟨_,_,_,hbk.ld WR.agg rfl,AB (fun h2=>hJ _ _ ⟨fun _=>hno (.inr (.inl ?_)),by simp,H⟩) (fun h2=>?_)⟩)⟩
     ·intro h3;rw[<- hp2]at h3;rw[h3]at h2;simp at h2
     ·refine AV (fun h3=>hJ _ _ ⟨fun _=>hno (.inr (.inr (.inl ?_))),by simp,H⟩) (fun h3=>hJ _ _ ⟨fun h4=>hno (.inr (.inr (.inr ?_))),fun h4=>⟨?_,?_⟩,H⟩)
      ·intro h4;rw[errOf,if_pos h4]at h3;exact h3 rfl
      ·intro h5;simp[hlen,h5]at h4
      ·refine Classical.byContradiction fun h5=>?_
       rw[errOf,if_neg h5]at h3;cases h3
      ·simp at h4;omega
 ·replace H:=H.ext0 H'
  clear H';refine⟨none,0,0,false,rfl,CU ?_⟩
  (apply Hp.stA;(case H=>exact H);(case e=>exact⟨rfl,rfl,rfl,rfl⟩);(case S=>exact Cj);(case hn=>exact rfl);(case h1=>exact rfl);(case ho=>exact Nat.le_of_ble_eq_true rfl);(case hc=>exact rfl);clear H;intro _ H;(try simp only[over,set_cons_zero,set_cons_succ]at H);(repeat apply Exists.intro);refine⟨H.loA Cj,?_⟩)
  refine .inr ⟨?_,rfl,H.done⟩;rintro⟨r,hr⟩;exact hbad (JG hr).1
end Go.Proofs.YtljenkbpnioipaaGreat.Fol
namespace Go.Proofs.YtljenkbpnioipaaGreat
noncomputable section
open Go Go.Vc Go.Nod
theorem made_zeros(n:Nat):(madeCells (Value.int .u8 0).cells (n*1)).toList=List.replicate n (Value.int .u8 0):=by
 apply ext_getElem?;intro k;rw[Nat.mul_one];by_cases a:k<n
 ·have:(madeCells (Value.int .u8 0).cells n).toList.length=n:=by rw[Array.length_toList,size_madeCells]
  rw[List.getElem?_eq_getElem (by omega),List.getElem?_replicate,if_pos a];simp[madeCells,Value.cells,Nat.mod_one]
 ·rw[List.getElem?_eq_none (by rw[Array.length_toList,size_madeCells];omega),List.getElem?_replicate,if_neg a]
theorem bzU8:zeroOf Tryz.prog 5=some (.int .u8 0):=by kernel_rfl
def nbS(n:Int)(m k:Nat):List UInt8:=(be n m).take k++List.replicate (m-k) 0
theorem nbS_len(n:Int){m k:Nat}(h:k<=m):(nbS n m k).length=m:=by
 simp only[nbS,length_append,length_take,AX,length_replicate];omega
theorem nbS_succ(n:Int){m k:Nat}(h:k<m):(nbS n m k).set k (bt n (m-1-k))=nbS n m (k+1):=by
 have a:((be n m).take k).length=k:=by rw[length_take,AX];omega
 obtain⟨b,c⟩:=List.getElem?_eq_some_iff.1 (Sl.eU n m k h);rw[nbS,nbS,List.set_append,if_neg (by omega),a,Nat.sub_self,show m-k=(m-(k+1))+1 by omega,List.replicate_succ,set_cons_zero,take_succ_eq_append_getElem b,c,append_assoc];rfl
theorem O4(n:Int)(m:Nat)(u:m<=8)(w:World):Calls Tryz.prog 114 #[.int .i64 n,.int .i64 (m:Int)] w fun e w'=>e=.returned (sv (be n m))/\Hp [] w w' []:=by
 apply nNumber.ok;unfold nNumber.vc;refine Hp.mkS fH (Hp.start w) EQ4 (by omega) (by rw[Int.toNat_natCast];simp only[maxLen];omega) (by omega) bzU8 ?_;intro a x H;rw[Int.toNat_natCast]at H⊢;rw[made_zeros]at H;refine AP.mk (fun q s w'=>∃j:Nat,q=m-j/\j<=m/\s=(j:Int)/\Hp [] w w' [.own 5 1 a m m (Aa (nbS n m j))]) m ⟨0,rfl,by omega,rfl,?_⟩ ?_
 ·have:Aa (nbS n m 0)=List.replicate m (Value.int .u8 0):=by
   rw[nbS,take_zero,nil_append,Nat.sub_zero,Sl.Qg]
  rw[this];exact H
 clear H;rintro q s f y ⟨j,rfl,p,rfl,H⟩ c;refine AB (fun h=>?_) (fun h=>?_)
 ·have b:j<m:=by omega
  have d:Own f 0 5 1 a m m (Aa (nbS n m j)):=H.ownA (.head _);obtain⟨g,i⟩:=d.CV (by omega)
  have r:(m:Int)-1-(j:Int)=((m-1-j:Nat):Int):=by omega
  refine⟨iR,iR,iR,by omega,AA i ⟨⟨by omega,by omega⟩,?_⟩⟩;rw[Oo n (m-1-j) (by omega) _ r,Int.toNat_natCast,Nat.mul_one];refine Hp.stO1 (o:=j) H EQ4 yU8 i rfl rfl (by rw[Ah,nbS_len n p];exact b) fun z k=>⟨iR,c (m-(j+1)) _ _ (by omega) ⟨j+1,rfl,by omega,rfl,?_⟩⟩;rw[Sl.NH,nbS_succ n b]at k;exact k
 ·have b:j=m:=by omega
  subst b
  have t:nbS n j j=be n j:=by
   have:(be n j).take j=be n j:=take_of_length_le (by rw[AX];exact Nat.le_refl _);rw[nbS,this,Nat.sub_self];simp
  rw[t]at H;have d:Own f 0 5 1 a j j (Aa (be n j)):=H.ownA (.head _);have l:=d.cells;rw[<- CQ]at l;refine⟨_,b2s VQ Yx X5 l (by rw[GX,AX]),rfl,H.done⟩
theorem QV(l:List UInt8)(p:l.length<=6)(w:World):Calls Tryz.prog 124 #[sv l] w fun e w'=>e=.returned (.int .i64 (valN l:Int))/\Hp [] w w' []:=by
 apply nValue.ok;unfold nValue.vc;refine Hp.s2b (s:=⟨l.toArray⟩) (Hp.start w) EQ4 X5 VQ Yx (by rw[GX];simp only[maxLen];omega) ?_;intro a c r H;rw[CQ,GX]at H;rw[GX];refine AP.mk (fun q s w'=>∃j:Nat,q=l.length-j/\j<=l.length/\s=((valN (l.take j):Int),(j:Int))/\Hp [] w w' [.own 5 1 a l.length c (Aa l)]) l.length ⟨0,rfl,by omega,rfl,H⟩ ?_;clear H;rintro q s i t ⟨j,rfl,u,rfl,H⟩ d;dsimp only;refine AB (fun h=>?_) (fun h=>?_)
 ·have b:j<l.length:=by omega
  have k:(Aa l)[j]? =some (.int .u8 (l[j].toNat:Int)):=by simp[Aa,List.getElem?_map,List.getElem?_eq_getElem b]
  obtain⟨x,f,g⟩:=H.ldO (w':=i) (o:=j) EQ4 yU8 (.head _) k;have y:=Og (l.take j);have m:(256:Nat)^(l.take j).length<=256^5:=Nat.pow_le_pow_right (by omega) (by rw[length_take];omega)
  have n:min (Int.toNat 8) (IntKind.bits .i64)=8:=by decide
  refine AA f ⟨⟨by omega,by omega⟩,_,by rw[Int.toNat_natCast,Nat.mul_one];exact g,by omega,by rw[n];exact iR,iR,d (l.length-(j+1)) _ _ (by omega) ⟨j+1,rfl,by omega,?_,H⟩⟩;rw[YP _ _ (by omega) l[j].toNat_lt,valN_take_succ l j b];rfl
 ·have b:j=l.length:=by omega
  subst b;rw[take_length];exact⟨rfl,H.done⟩
theorem lNaNS2_spec(x:ByteArray)(w:World):Calls Tryz.prog 222 #[.string x] w fun e w'=>e=.returned (.bool false)/\w'=w:=by
 apply lNaNS2.ok;unfold lNaNS2.vc;exact⟨by simp,rfl⟩
theorem lNaNS_spec(x:ByteArray)(w:World):Calls Tryz.prog 156 #[.string x] w fun e w'=>e=.returned (.bool false)/\w'=w:=by
 apply lNaNS.ok;unfold lNaNS.vc;exact⟨by simp,rfl⟩
theorem lLessS_spec(x y:ByteArray)(w:World):Calls Tryz.prog 155 #[.string x,.string y] w fun e w'=>e=.returned (.bool (dec (ltB x y)))/\w'=w:=by
 apply lLessS.ok;unfold lLessS.vc;refine AC (lNaNS2_spec x w) ?_;rintro _ _ ⟨rfl,rfl⟩;exact⟨_,rfl,BA (x:=_) ⟨by rw[ltD],rfl⟩⟩
def asAt(l:List ByteArray):List At:=l.map fun s=>(s,none0)
theorem KL(l:List ByteArray)(k:Nat):(asAt l)[k]? =(l[k]?).map fun s=>(s,none0):=List.getElem?_map ..
theorem aN{l:List ByteArray}(h:l.Pairwise fun x y=>x.data.toList<y.data.toList):Rs (asAt l):=List.pairwise_map.2 h
theorem asAt_has{l:List ByteArray}(h:l.Pairwise fun x y=>x.data.toList<y.data.toList)(t:ByteArray):hasA (asAt l) t↔t∈l:=by
 constructor
 ·rintro⟨v,f⟩
  rw[KL]at f;obtain⟨s,a,e⟩:=Option.map_eq_some_iff.1 f;cases e;exact mem_of_getElem? a
 ·intro m
  obtain⟨k,b⟩:=List.getElem?_of_mem m;have g:∀j s,l[j]? =some s->(j<cutA (asAt l) t↔ltB s t):=fun j s a=>(OA (asAt l) t (aN h) j (s,none0) (by rw[KL,a];rfl)).symm;have r:¬k<cutA (asAt l) t:=fun c=>EQ t ((g k t b).1 c);have n:=MC (asAt l) t;have d:=(List.getElem?_eq_some_iff.1 b).1;have o:(asAt l).length=l.length:=length_map _
  have c:cutA (asAt l) t=k:=by
   refine Nat.le_antisymm (by omega) (Nat.not_lt.1 fun p=>?_);have a:l[cutA (asAt l) t]? =some l[cutA (asAt l) t]:=List.getElem?_eq_getElem (by omega);have i:=pairwise_iff_getElem.1 h (cutA (asAt l) t) k (by omega) d p;have q:l[k]=t:=(List.getElem?_eq_some_iff.1 b).2;rw[q]at i;have:=(g _ _ a).2 i;omega
  exact⟨none0,by rw[c,KL,b];rfl⟩
theorem Dk{l:List ByteArray}{k:Nat}{s:ByteArray}(h:l[k]? =some s):(BI l)[k]? =some (.string s):=by rw[BI,List.getElem?_map,h];rfl
theorem lBSrS_spec(a:Option Addr)(n c:Nat)(l:List ByteArray)(t:ByteArray)(w:World)(q:Cells w a (BI l))(L:n=l.length)(H:l.Pairwise fun x y=>x.data.toList<y.data.toList)(hn:n<=1000000):
  Calls Tryz.prog 98 #[.slice a n c,.string t] w fun e w'=>(∃i:Int,e=.returned (.tuple #[.int .i64 i,.bool (dec (t∈l))]))/\w'=w:=by
 apply lBSrS.ok;unfold lBSrS.vc;have u:=MC (asAt l) t;have M:(asAt l).length=l.length:=length_map _;have z:∀j s,l[j]? =some s->(j<cutA (asAt l) t↔ltB s t):=fun j s N=>(OA (asAt l) t (aN H) j (s,none0) (by rw[KL,N];rfl)).symm;have J:=asAt_has H t;obtain⟨k,K⟩:∃k,k=cutA (asAt l) t:=⟨_,rfl⟩;rw[<- K]at u z;refine AP.mk (fun m s w'=>∃i j:Nat,m=j-i/\s=((i:Int),(j:Int))/\i<=k/\k<=j/\j<=n/\w'=w) n ⟨0,n,rfl,rfl,by omega,by omega,Nat.le_refl _,rfl⟩ ?_;rintro m s _ Y ⟨i,j,rfl,rfl,O,R,A,rfl⟩ r;dsimp only;refine AB (fun h=>?_) (fun h=>?_)
 ·rw[aQ i j n (by omega)]
  obtain⟨b,B⟩:∃b,b=(i+j)/2:=⟨_,rfl⟩;rw[<- B]
  have g:b<l.length:=by omega
  have d:l[b]? =some l[b]:=List.getElem?_eq_getElem g;obtain⟨T,o,_⟩:=q _ _ (Dk d);refine⟨iR,by omega,AA o ⟨⟨by omega,by omega⟩,l[b],by rw[Int.toNat_natCast,Nat.mul_one];exact q.ld yStr o (Dk d),AC (lLessS_spec l[b] t _) ?_⟩⟩;rintro _ _ ⟨rfl,rfl⟩;refine⟨_,rfl,br_d (fun C=>⟨iR,?_⟩) (fun C=>?_)⟩
  ·have:=(z b _ d).2 C
   exact r (j-(b+1)) _ _ (by omega) ⟨b+1,j,rfl,by simp,by omega,R,A,rfl⟩
  ·have:¬b<k:=fun U=>C ((z b _ d).1 U)
   exact r (b-i) _ _ (by omega) ⟨i,b,rfl,rfl,O,by omega,by omega,rfl⟩
 ·have D:i=k:=by omega
  subst D;refine AB (fun X=>?_) (fun X=>?_)
  ·have g:i<l.length:=by omega
   have d:l[i]? =some l[i]:=List.getElem?_eq_getElem g;obtain⟨T,o,_⟩:=q _ _ (Dk d);refine AA o ⟨⟨by omega,by omega⟩,l[i],by rw[Int.toNat_natCast,Nat.mul_one];exact q.ld yStr o (Dk d),AB (fun F=>?_) (fun F=>?_)⟩
   ·exact⟨⟨_,by rw[<- CZ (show t∈l from F▸mem_of_getElem? d)]⟩,rfl⟩
   ·have p:¬t∈l:=fun G=>by
     obtain⟨v,f⟩:=J.2 G;rw[<- K,KL,d]at f
     injection f with f;injection f with f
     exact F f
    refine AA o ⟨⟨by omega,by omega⟩,l[i],by rw[Int.toNat_natCast,Nat.mul_one];exact q.ld yStr o (Dk d),AC (lNaNS_spec l[i] _) ?_⟩;rintro _ _ ⟨rfl,rfl⟩;exact⟨_,rfl,BA (x:=_) ⟨⟨_,by rw[<- Bf p]⟩,rfl⟩⟩
  ·have p:¬t∈l:=fun G=>by
    obtain⟨v,f⟩:=J.2 G;have:=(List.getElem?_eq_some_iff.1 f).1;omega
   exact⟨⟨_,by rw[<- Bf p]⟩,rfl⟩
end
noncomputable section
open Go Go.Vc Go.Nod
def Kt(al:List (ByteArray×Value))(N:Int):Prop:=∀p∈al,∃z:Int,p.2=.int .i64 z/\0<=z/\z<=N
theorem Kt.get{al:List (ByteArray×Value)}{N:Int}(h:Kt al N)(a:0<=N)(k:ByteArray):∃z:Int,(aget al k).getD (.int .i64 0)=.int .i64 z/\0<=z/\z<=N:=by
 induction al with
 |nil=>exact⟨0,rfl,by omega,a⟩
 |cons p r b=>
  obtain⟨y,u⟩:=p;rw[aget];by_cases e:k=y
  ·rw[if_pos e]
   obtain⟨z,c,d,f⟩:=h _ (.head _);exact⟨z,c,d,f⟩
  ·rw[if_neg e]
   exact b fun q g=>h q (.tail _ g)
theorem Kt.put{al:List (ByteArray×Value)}{N:Int}(h:Kt al N){k:ByteArray}{z:Int}(g:0<=z)(i:z<=N):Kt (aput al k (.int .i64 (z+1))) (N+1):=by
 intro p a
 have b:p=(p.1,.int .i64 (z+1))\/p∈al:=by
  clear h
  induction al with
  |nil=>rw[aput,mem_singleton]at a;exact .inl (by rw[a])
  |cons q r c=>
   obtain⟨y,u⟩:=q;rw[aput]at a;by_cases e:k=y
   ·rw[if_pos e,mem_cons]at a
    rcases a with a|a
    ·exact .inl (by rw[a])
    ·exact .inr (.tail _ a)
   ·rw[if_neg e,mem_cons]at a
    rcases a with a|a
    ·exact .inr (by rw[a];exact .head _)
    ·rcases c a with h|h
     ·exact .inl h
     ·exact .inr (.tail _ h)
 rcases b with b|b
 ·exact⟨z+1,by rw[b],by omega,by omega⟩
 ·obtain⟨y,d,f,j⟩:=h p b
  exact⟨y,d,f,by omega⟩
theorem Kt.mono{al:List (ByteArray×Value)}{N M:Int}(h:Kt al N)(d:N<=M):Kt al M:=fun p a=>by
 obtain⟨z,b,c,e⟩:=h p a;exact⟨z,b,c,by omega⟩
theorem namesI_len(x:It):(Fe x).length<=x.x.attrs.length+1:=by
 rw[Fe,length_append,length_map];split<;>simp<;>omega
theorem XA(l:List It)(h:∀x∈l,x.x.attrs.length<=20):(l.flatMap Fe).length<=21*l.length:=by
 induction l with
 |nil=>simp
 |cons x r a=>
  have c:=namesI_len x;have d:=h x (.head _);have e:=a fun y b=>h y (.tail _ b);rw[flatMap_cons,length_append,length_cons];omega
theorem QD(la:Option Addr)(n lc:Nat)(l:List It)(ss:List Sl3)(w:World)(hA:Df [] w la n l ss)(hn:n<=1000)(O:∀x∈l,x.x.attrs.length<=20):
  Calls Tryz.prog 57 #[.slice la n lc] w fun e w'=>∃a c,e=.returned (.slice a (GL l).length c)/\Hp [] w w' [.own 9 1 a (GL l).length c (BI (GL l))]:=by
 apply nNames.ok;unfold nNames.vc;have av:=hA.now.len;intro b w1 R;have H1:=(Hp.start w).newS EQ4 R;refine AP.mk (fun m s w'=>∃(j:Nat)(A:List (ByteArray×Value))(X:List Asn),m=n-j/\j<=n/\s=(j:Int)/\A.map (·.1)=uniq ((l.take j).flatMap Fe)/\Kt A (21*j)/\Hp [] w w' (.smap b A::X)) n ⟨0,[],[],rfl,by omega,rfl,by simp[uniq],fun p hp=>(by cases hp),H1⟩ ?_;clear H1 R;rintro m s w2 nx ⟨j,A,X,rfl,hj,rfl,T,hc,H⟩ g;refine AB (fun h1=>?_) (fun h1=>?_)
 ·have B:j<l.length:=by omega
  have hI:=hA.rd w2 H.chg;obtain⟨x,sl,M,U,an⟩:=hI.at_ (k:=j) (by omega);obtain⟨ad,ao,ap⟩:=hI.some M U;have aw:=O x (mem_of_getElem? M);have a1:=an.len
  have aq:l.take (j+1)=l.take j++[x]:=by rw[take_succ_eq_append_getElem B,(List.getElem?_eq_some_iff.1 M).2]
  refine AA ao ⟨⟨by omega,h1⟩,x.level,x.x.kind,x.x.name,x.x.text,sl.1,sl.2.1,sl.2.2,by rw[Int.toNat_natCast];exact ap,?_⟩;intro xb w3 Y;have H2:=H.nw Y;refine Hp.sA H2 DZ (cs':=itC x sl) fun w4 o=>?_;clear H2 Y H;obtain⟨K,hK⟩:∃K,K=(l.take j).flatMap Fe++(if x.x.kind=1 then [x.x.name]else []):=⟨_,rfl⟩;refine Am.mk (fun _ w'=>∃(d:List (ByteArray×Value)),d.map (·.1)=uniq K/\Kt d (21*j+1)/\Hp [] w w' (.smap b d::.blk xb (itC x sl) 123::X)) ?_ ?_
  ·rintro _ w5 ⟨d,Z,aa,C⟩
   refine⟨sl.1,sl.2.1,sl.2.2,C.lo iSAt,?_⟩;refine AP.mk (fun m s w'=>∃(i:Nat)(f:List (ByteArray×Value))(X2:List Asn),m=sl.2.1-i/\i<=sl.2.1/\s=(i:Int)/\f.map (·.1)=uniq (K++(x.x.attrs.take i).map (·.1))/\Kt f (21*j+1+i)/\Hp [] w w' (.smap b f::X2)) sl.2.1 ⟨0,d,_,rfl,by omega,rfl,by simpa using Z,aa.mono (by omega),C⟩ ?_;clear C Z aa;rintro m s w6 a2 ⟨i,f,X2,rfl,hi,rfl,ab,D,H6⟩ ac;refine AB (fun N=>?_) (fun N=>⟨iR,?_⟩)
   ·have r:i<x.x.attrs.length:=by omega
    have hp:x.x.attrs[i]? =some x.x.attrs[i]:=List.getElem?_eq_getElem r;have ar:=hA.rd w6 H6.chg
    have ae:AtR w6 sl.1 sl.2.1 x.x.attrs:=by
     obtain⟨x',a3,af,u,ag⟩:=ar.at_ (k:=j) (by omega);rw[M]at af;cases af;rw[U]at u;cases u;exact ag
    have t:=J3 hp;obtain⟨a4,y⟩:=ae.cells.some (fun e=>by rw[e]at t;simp at t);obtain⟨p,ah⟩:∃p,p=x.x.attrs[i]:=⟨_,rfl⟩;rw[<- ah]at hp t;refine AA y ⟨⟨by omega,N⟩,p.1,p.2,by rw[Int.toNat_natCast];exact ae.cells.ldA Gs y t rfl,fun yb w7 ak=>?_⟩;have H7:=H6.nw ak;refine Hp.sA H7 Gs (cs':=[.string p.1,.string p.2]) fun w8 H8=>?_;clear H7 ak H6;obtain⟨z,hz,F,G⟩:=D.get (by omega) p.1;refine⟨p.1,H8.lo yStr,z,H8.lkS IG EQ4 m1 hz,iR,?_⟩;refine Hp.mupS IG H8.Ae EQ4 fun w9 H9=>⟨iR,ac (sl.2.1-(i+1)) _ _ (by omega) ⟨i+1,_,_,rfl,by omega,rfl,?_,?_,H9⟩⟩
    ·rw[PR,ab,<- WP,append_assoc,take_succ_eq_append_getElem r,<- ah,map_append];rfl
    ·exact(D.put F G).mono (by omega)
   ·have r:i=x.x.attrs.length:=by omega
    refine g (n-(j+1)) _ _ (by omega) ⟨j+1,f,X2,rfl,by omega,rfl,?_,D.mono (by omega),H6⟩;rw[ab,aq,r,take_length,flatMap_append,hK,append_assoc];simp[Fe]
  ·intro J hJ
   refine⟨x.x.kind,o.lo yInt,AB (fun N=>?_) (fun N=>?_)⟩
   ·obtain⟨z,hz,F,G⟩:=hc.get (by omega) x.x.name
    refine⟨x.x.name,o.lo yStr,z,o.lkS IG EQ4 m1 hz,iR,?_⟩;refine Hp.mupS IG o.Ae EQ4 fun w5 C=>hJ _ _ ⟨_,?_,hc.put F G,C⟩;rw[PR,T,<- WP,hK,if_pos N]
   ·exact hJ _ _ ⟨A,by rw[hK,if_neg N,append_nil];exact T,hc.mono (by omega),o.Ae⟩
 ·have B:j=l.length:=by omega
  rw[B,take_length]at T;have a5:=XA l O;have a6:=YN (l.flatMap Fe)
  have a0:A.length=(uniq (l.flatMap Fe)).length:=by rw[<- T,length_map]
  refine AC (keysS_spec (some b) w2) ?_;rintro _ w3 ⟨q,rfl,H3⟩;have o:=H.ext1 H3;clear H H3
  have hs:∀x∈GL l,x.size<=maxLen:=fun n hn=>by
   obtain⟨x,M,g⟩:=Vj.1 hn;have am:=hA.small x M;rw[Fe,mem_append]at g;rcases g with h|h
   ·split at h
    ·rw[mem_singleton]at h;rw[h];exact am.1
    ·cases h
   ·obtain⟨a,ha,rfl⟩:=mem_map.1 h
    exact(am.2.2 a ha).1
  refine⟨_,rfl,AC (sortedS_spec q b A w3 (o.blk (.head _)) (o.ok _ m1) (GL l) (by rw[T];exact Dy _) (IL (Sj _)) hs (by omega)) ?_⟩;rintro _ w4 ⟨a,c,rfl,C⟩;exact⟨a,_,c,rfl,a,c,rfl,Hp.BP (L:=[_]) (o.ext1 C)⟩
end
noncomputable section
open Go Go.Vc Go.Nod
def AgreeW(k:Nat)(V W:List ByteArray):Prop:=∀(j:Nat)(s:ByteArray),k<=j->s≠none0->(V[j]? =some s↔W[j]? =some s)
theorem AgreeW.step{k:Nat}{V W:List ByteArray}(h:AgreeW k V W):AgreeW (k+1) V W:=fun j s b a=>h j s (by omega) a
theorem Qy{f:List Nat}{b:Nat}{W:List ByteArray}{w:World}(h:(Aj f b W).ok w)(la:Option Addr)(r lc:Nat)(l:List ByteArray)(hL:∀W',Chg f w W'->Cells W' la (BI l))(aa:r=l.length)(ab:r<=1000000)(hR:l.Pairwise fun x y=>x.data.toList<y.data.toList):
  Calls Tryz.prog 56 #[.pointer (some ⟨b,0,none⟩),.slice la r lc] w fun e w'=>∃B,e=.returned (.int .i64 (NR W l).2)/\Hp f w w' [Aj B b (NR W l).1]:=by
 apply nLearn.ok;unfold nLearn.vc;have H0:Hp f w w [Aj f b W]:=Be h
 have X:WOk W:=by
  obtain⟨L,⟨X,_⟩,_⟩:=EP h;exact X
 have hl:=X.len;refine AC (WZ h) ?_;rintro _ w1 ⟨a,c,rfl,H1⟩;have H2:=(H0.ext1 H1).Ae;clear H0 H1;refine⟨a,W.length,c,rfl,AP.mk (fun q s w'=>∃(j:Nat)(V:List ByteArray)(B:List Nat),q=W.length-j/\j<=W.length/\s=(j:Int)/\WOk V/\AgreeW j V W/\J7 l (W.drop j) j V=J7 l W 0 W/\Hp f w w' [Aj B b V,.own 9 1 a W.length c (BI W)]) W.length ⟨0,W,f,rfl,by omega,rfl,X,fun j s _ _=>Iff.rfl,by simp,H2⟩ ?_⟩;clear H2;rintro q s K nx ⟨j,V,f1,rfl,hj,rfl,hV,Y,C,H⟩ d;refine AB (fun h1=>?_) (fun h1=>?_)
 ·have u:j<W.length:=by omega
  have D:W[j]? =some W[j]:=List.getElem?_eq_getElem u;obtain⟨x,n⟩:∃x,x=W[j]:=⟨_,rfl⟩;rw[<- n]at D;obtain⟨ad,z,ac⟩:=H.ldO (w':=K) (o:=j) EQ4 yStr m1 (Dk D)
  have F:W.drop j=x::W.drop (j+1):=by rw[n];exact drop_eq_getElem_cons u
  rw[F,J7]at C;refine AA z ⟨⟨by omega,h1⟩,x,by rw[Int.toNat_natCast,Nat.mul_one];exact ac,AC (lBSrS_spec la r lc l x K (hL K H.chg) aa hR ab) ?_⟩;rintro _ ah ⟨⟨i,rfl⟩,hw⟩;obtain rfl:=hw.symm
  have M:¬(x≠none0/\x∉l)->∀(R:Int->World->Prop),(∀m s' w',m<W.length-j->(∃(j:Nat)(V:List ByteArray)(B:List Nat),m=W.length-j/\j<=W.length/\s'=(j:Int)/\WOk V/\AgreeW j V W/\J7 l (W.drop j) j V=J7 l W 0 W/\Hp f w w' [Aj B b V,.own 9 1 a W.length c (BI W)])->R s' w')->inR .i64 ((j:Int)+1)/\R ((j:Int)+1) K:=fun ae R hR=>by
   rw[if_neg ae]at C;exact⟨iR,hR (W.length-(j+1)) _ _ (by omega) ⟨j+1,V,f1,rfl,by omega,rfl,hV,Y.step,C,H⟩⟩
  refine⟨_,_,rfl,?_⟩;refine Am.mk (fun t w'=>w'=K/\t=dec (x≠none0/\x∉l)) ?_ ?_
  ·rintro t _ ⟨rfl,rfl⟩
   refine br_d (fun g=>?_) (fun g=>M g _ d);have N:=(Y j x (Nat.le_refl _) g.1).2 D;have O:=(List.getElem?_eq_some_iff.1 N).1;refine⟨iR,AC (xDrop_spec (H.ok _ (.head _)) j x N g.1) ?_⟩;rintro _ w3 ⟨Z,rfl,H3⟩;have H4:=H.use1 H3;rw[if_pos g]at C;obtain⟨m,_,_,G,_⟩:=drop_at O;refine⟨_,rfl,iR,d (W.length-(j+1)) _ _ (by omega) ⟨j+1,JS V j,Z,rfl,by omega,rfl,hV.drop O,fun i s hi hs=>?_,C,H4⟩⟩;rw[G i s hs];exact⟨fun h=>(Y i s (by omega) hs).1 h.1,fun h=>⟨(Y i s (by omega) hs).2 h,by omega⟩⟩
  ·intro J hJ
   refine AV (fun g=>?_) (fun g=>?_)
   ·refine hJ _ _ ⟨rfl,?_⟩
    by_cases hm:x∈l
    ·rw[<- CZ hm,<- Bf fun h=>h.2 hm];rfl
    ·rw[<- Bf hm,<- CZ (show x≠none0/\x∉l from⟨g,hm⟩)];rfl
   ·exact hJ _ _ ⟨rfl,Bf fun h=>h.1 g⟩
 ·have u:j=W.length:=by omega
  have af:V=J7 l W 0 W:=by
   rw[u,drop_length,J7]at C;exact C
  have ag:NR W l=Md l V:=by rw[af];rfl
  rw[ag];refine AP.mk (fun q s w'=>∃(k:Nat)(U:List ByteArray)(B:List Nat),q=r-k/\k<=r/\s=(k:Int)/\Md (l.drop k) U=Md l V/\Hp f w w' [Aj B b U,.own 9 1 a W.length c (BI W)]) r ⟨0,V,f1,rfl,by omega,rfl,by simp,H⟩ ?_;clear H d;rintro q s w3 nx ⟨k,U,Z,rfl,hk,rfl,p,H⟩ d;refine AB (fun g=>?_) (fun g=>?_)
  ·have A:k<l.length:=by omega
   have D:l[k]? =some l[k]:=List.getElem?_eq_getElem A;obtain⟨x,n⟩:∃x,x=l[k]:=⟨_,rfl⟩;rw[<- n]at D;have T:=hL w3 H.chg;obtain⟨ad,z,_⟩:=T _ _ (Dk D)
   have F:l.drop k=x::l.drop (k+1):=by rw[n];exact drop_eq_getElem_cons A
   rw[F,Md]at p;refine AA z ⟨⟨by omega,g⟩,x,by rw[Int.toNat_natCast,Nat.mul_one];exact T.ld yStr z (Dk D),AC (Nh (H.ok _ (.head _)) x) ?_⟩;rintro _ _ ⟨rfl,rfl⟩;refine⟨_,_,rfl,br_d (fun G=>?_) (fun G=>?_)⟩
   ·rw[if_pos G]at p
    exact⟨iR,d (r-(k+1)) _ _ (by omega) ⟨k+1,U,Z,rfl,by omega,rfl,p,H⟩⟩
   ·rw[if_neg G]at p
    refine AC (xAdd_spec (H.ok _ (.head _)) x G) ?_;rintro _ w4 ⟨f3,rfl,H4⟩;have H5:=H.use1 H4;refine⟨_,_,rfl,AV (fun h4=>?_) (fun h4=>?_)⟩
    ·rw[if_pos h4]at p
     rw[<- p];exact⟨f3,rfl,Hp.BP (L:=[_]) H5⟩
    ·rw[if_neg (fun h=>h h4)]at p
     exact⟨iR,d (r-(k+1)) _ _ (by omega) ⟨k+1,_,f3,rfl,by omega,rfl,p,H5⟩⟩
  ·have A:k=l.length:=by omega
   rw[A,drop_length,Md]at p;rw[<- p];exact⟨Z,rfl,Hp.BP (L:=[_]) H⟩
end
end Go.Proofs.YtljenkbpnioipaaGreat
namespace Go.Vc
open Go
theorem ZV{a:Asn}{w w':World}(h:a.ok w)(H:Chg [] w w'):a.ok w':=
 Asn.X9 h fun k b=>H.2.2.2.2 k (Asn.WQ h k b) (by simp)
end Go.Vc
namespace Go.Proofs.YtljenkbpnioipaaGreat
noncomputable section
open Go Go.Vc Go.Nod
theorem pPtr:Scl Tryz.prog 95:=BK (by kernel_rfl)
theorem pSl:Scl Tryz.prog 84:=BK (by kernel_rfl)
theorem pelt:Elt Tryz.prog 84 95 1 8:=CW (by kernel_rfl)
theorem pund:Tryz.prog.underlying 84=some (.slice 95):=by kernel_rfl
def pgC(bs:List Nat):List Value:=bs.map fun b=>.pointer (some ⟨b,0,none⟩)
theorem RN{bs:List Nat}{k b:Nat}(h:bs[k]? =some b):(pgC bs)[k]? =some (.pointer (some ⟨b,0,none⟩)):=by rw[pgC,List.getElem?_map,h];rfl
def pgsL(pa:Option Addr)(pc:Nat)(bs:List Nat)(gs:List Sl.Pg):List Asn:=.own 95 1 pa bs.length pc (pgC bs)::List.zipWith Sl.pgA bs gs
structure PgsOk(P:List Sl.Recs)(bs:List Nat)(gs:List Sl.Pg):Prop where
 lb:bs.length=P.length
 lg:gs.length=P.length
 rep:∀(k:Nat)(g:Sl.Pg)(R:Sl.Recs),gs[k]? =some g->P[k]? =some R->Sl.Rep g R 0
def pgsQ(pa:Option Addr)(pc:Nat)(P:List Sl.Recs)(L:List Asn):Prop:=∃bs gs,PgsOk P bs gs/\L=pgsL pa pc bs gs
def pgsA(f:List Nat)(pa:Option Addr)(pc:Nat)(P:List Sl.Recs):Asn:=pkA f (pgsQ pa pc P)
theorem XD{bs:List Nat}{gs:List Sl.Pg}(k:gs.length=bs.length){n b:Nat}{g:Sl.Pg}(a:bs[n]? =some b)(c:gs[n]? =some g):
  List.zipWith Sl.pgA bs gs=List.zipWith Sl.pgA (bs.take n) (gs.take n)++Sl.pgA b g::List.zipWith Sl.pgA (bs.drop (n+1)) (gs.drop (n+1)):=by
 obtain⟨d,e⟩:=List.getElem?_eq_some_iff.1 a;obtain⟨h,i⟩:=List.getElem?_eq_some_iff.1 c
 have s1:bs=bs.take n++b::bs.drop (n+1):=by rw[<- e,<- drop_eq_getElem_cons d,List.take_append_drop]
 have j:gs=gs.take n++g::gs.drop (n+1):=by rw[<- i,<- drop_eq_getElem_cons h,List.take_append_drop]
 conv=>lhs;rw[s1,j]
 rw[List.zipWith_append (by rw[length_take,length_take];omega)];rfl
section
variable{B f:List Nat}{w0 w w':World}{L:List Asn}{pa:Option Addr}{pc:Nat}{P:List Sl.Recs}
theorem Tz(H:Hp B w0 w (pgsA f pa pc P::L)){n:Nat}{R:Sl.Recs}(hn:P[n]? =some R):
  ∃(b:Nat)(g:Sl.Pg)(X:Asn)(s:Addr),pa=some s/\(∀W,X.ok W->Ld Tryz.prog 95 W (s.add (n*1)) (.pointer (some ⟨b,0,none⟩)))/\Sl.Rep g R 0/\Hp B w0 w (Sl.pgA b g::X::L)/\
   ∀w1 t d u,Sl.Rep d u 0->Hp B w0 w1 (Sl.pgA b d::X::t)->∃U,Hp B w0 w1 (pgsA U pa pc (P.set n u)::t):=by
 obtain⟨M,⟨bs,a,h,rfl⟩,T,_⟩:=H.unpack;have y:=(List.getElem?_eq_some_iff.1 hn).1;have z:=h.lb;have A:=h.lg;obtain⟨b,x⟩:∃b,bs[n]? =some b:=⟨_,List.getElem?_eq_getElem (by omega)⟩;obtain⟨g,C⟩:∃g,a[n]? =some g:=⟨_,List.getElem?_eq_getElem (by omega)⟩;have Y:=XD (by omega) x C;obtain⟨s,m,_⟩:=T.ldO (w':=w) (o:=n) EQ4 pPtr (.head _) (RN x);obtain⟨i,j⟩:∃i,i=.own 95 1 pa bs.length pc (pgC bs)::(List.zipWith Sl.pgA (bs.take n) (a.take n)++List.zipWith Sl.pgA (bs.drop (n+1)) (a.drop (n+1))):=⟨_,rfl⟩
 have Z:Hp B w0 w (i++(Sl.pgA b g::L)):=T.perm (by
  refine AL fun ff gg D F G J=>?_;rw[pgsL,Y,j]
  simp only[G,F,D];omega)
 have H3:Hp B w0 w (pkA (feet i) (fun M=>M=i)::Sl.pgA b g::L):=Z.pack rfl;refine⟨b,g,pkA (feet i) (fun M=>M=i),s,m,fun w' he=>?_,h.rep n g R C hn,H3.Ae,fun w1 t d u K H'=>?_⟩
 ·obtain⟨M2,l,N,_⟩:=EP he
  subst l;have ho:Own w' 0 95 1 pa bs.length pc (pgC bs):=N.ok (.own 95 1 pa bs.length pc (pgC bs)) (by rw[j];exact .head _);rw[Nat.mul_one];exact ho.cells.ld pPtr m (RN x)
 ·obtain⟨M2,l,H4,_⟩:=H'.Ae.unpack
  subst l;have p:=(List.getElem?_eq_some_iff.1 C).1;have O:(a.set n d)[n]? =some d:=List.getElem?_set_self p;have q:=XD (bs:=bs) (gs:=a.set n d) (by rw[length_set];omega) x O
  have et:(a.set n d).take n=a.take n:=by
   rw[List.take_set];exact List.set_eq_of_length_le (by rw[length_take];omega)
  have ed:(a.set n d).drop (n+1)=a.drop (n+1):=List.drop_set_of_lt (by omega);rw[et,ed]at q
  have H5:Hp B w0 w1 (pgsL pa pc bs (a.set n d)++t):=H4.perm (by
   refine AL fun ff gg D F G J=>?_;rw[pgsL,q,j]
   simp only[G,F,D];omega)
  refine H5.DJ (Q:=pgsQ pa pc (P.set n u)) ⟨bs,a.set n d,⟨by rw[length_set];exact z,by rw[length_set,length_set];exact A,fun k g2 R2 r c=>?_⟩,rfl⟩;rw[List.getElem?_set]at r c;by_cases e:n=k
  ·subst e
   rw[if_pos rfl,if_pos p]at r;rw[if_pos rfl,if_pos y]at c;cases r;cases c;exact K
  ·rw[if_neg e]at r c
   exact h.rep k g2 R2 r c
theorem Jc(H:Hp B w0 w (pgsA f pa pc P::L)){n:Nat}{R:Sl.Recs}(hn:P[n]? =some R):
  ∃(b:Nat)(g:Sl.Pg)(X:Asn)(a:Addr),pa=some a/\(∀w',Eqw w w'->Ld Tryz.prog 95 w' (a.add (n*1)) (.pointer (some ⟨b,0,none⟩)))/\Sl.Rep g R 0/\Hp B w0 w (Sl.pgA b g::X::L)/\
   ∀w1 c d h,Sl.Rep d h 0->Hp B w0 w1 (Sl.pgA b d::X::c)->∃j,Hp B w0 w1 (pgsA j pa pc (P.set n h)::c):=by
 obtain⟨b,g,X,a,k,l,m,i,o⟩:=Tz H hn;exact⟨b,g,X,a,k,fun w' e=>l w' ((i.go e).ok _ m1),m,i,o⟩
theorem bY(h:(pgsA f pa pc P).ok w){n:Nat}{R:Sl.Recs}(hn:P[n]? =some R):
  ∃(b:Nat)(g:Sl.Pg)(d:Addr),pa=some d/\Sl.Rep g R 0/\∀W,Chg [] w W->Ld Tryz.prog 95 W (d.add (n*1)) (.pointer (some ⟨b,0,none⟩))/\Blk W b g.cells 162:=by
 obtain⟨M,⟨bs,i,a,rfl⟩,j,_⟩:=EP h;have m:=(List.getElem?_eq_some_iff.1 hn).1;have p:=a.lb;have q:=a.lg;obtain⟨b,e⟩:∃b,bs[n]? =some b:=⟨_,List.getElem?_eq_getElem (by omega)⟩;obtain⟨g,k⟩:∃g,i[n]? =some g:=⟨_,List.getElem?_eq_getElem (by omega)⟩;have H:=Hp.CE j;obtain⟨d,c,_⟩:=H.ldO (w':=w) (o:=n) EQ4 pPtr (.head _) (RN e);have r:Own w 0 95 1 pa bs.length pc (pgC bs):=H.ownA (.head _)
 have s:Sl.pgA b g∈pgsL pa pc bs i:=by
  rw[pgsL,XD (by omega) e k];exact .tail _ (mem_append_right _ (.head _))
 have t:Blk w b g.cells 162:=j.ok _ s;refine⟨b,g,d,c,a.rep n g R k hn,fun W l=>⟨?_,t.chg l (by simp)⟩⟩;rw[Nat.mul_one];exact(r.cells.chg l (by simp)).ld pPtr c (RN e)
theorem Zj(H:Hp B w0 w L):∃a,Hp B w0 w (pgsA a none 0 []::L):=
 Hp.DJ (M:=pgsL none 0 [] []) (H.nilS 95 1) ⟨[],[],⟨rfl,rfl,fun k g R b=>by simp at b⟩,rfl⟩
theorem Xi{l a:Nat}{T:TypeId}{g:Sl.Pg}{R:Sl.Recs}(H:Hp B w0 w (.blk l [.pointer (some ⟨a,0,none⟩)] T::Sl.pgA a g::pgsA f pa pc P::L))(A:Sl.Rep g R 0)(Y:P.length<=100000)(e:Eqw w w'){G:Option Addr->Nat->Nat->World->Prop}
  (k:∀a' c' o w1,Hp B w0 w1 (pgsA o a' c' (P++[R])::L)->G a' (P.length+1) c' w1):
  ∃a' x c' w1,App Tryz.prog #[84,84] 84 w' (.slice pa P.length pc) (.slice (some ⟨l,0,none⟩) 1 1) (.slice a' x c') w1/\G a' x c' w1:=by
 obtain⟨M,⟨bs,h,c,rfl⟩,C,_⟩:=H.BD.unpack;have d:=c.lb;have j:=c.lg
 have y:Hp B w0 w (.own 95 1 pa bs.length pc (pgC bs)::(.blk l [.pointer (some ⟨a,0,none⟩)] T::(List.zipWith Sl.pgA bs h++[Sl.pgA a g])++L)):=C.perm (by
  refine AL fun ff D p q r s=>?_
  simp only[pgsL,r,q,p];omega)
 rw[<- d];refine Hp.app pelt (by omega) y e (Blk.src (P:=Tryz.prog) pund ((y.go e).blk m1) rfl rfl) (by simp only[maxLen];omega) (by omega) ?_;intro a' c' w1 F
 have J:Hp B w0 w1 (pgsL a' c' (bs++[a]) (h++[g])++(.blk l [.pointer (some ⟨a,0,none⟩)] T::L)):=F.perm (by
  refine AL fun ff D p q r s=>?_
  have K:(bs++[a]).length=bs.length+1:=by simp
  have N:pgC (bs++[a])=pgC bs++[.pointer (some ⟨a,0,none⟩)]:=by simp[pgC]
  have O:List.zipWith Sl.pgA (bs++[a]) (h++[g])=List.zipWith Sl.pgA bs h++[Sl.pgA a g]:=List.zipWith_append (by omega)
  simp only[pgsL,K,N,O,r,q,p];omega)
 have t:∀(k:Nat)(m:Sl.Pg)(n:Sl.Recs),(h++[g])[k]? =some m->(P++[R])[k]? =some n->Sl.Rep m n 0:=fun k m n i b=>by
  by_cases U:k<P.length
  ·rw[List.getElem?_append_left (by omega)]at i b
   exact c.rep k m n i b
  ·by_cases u:k=P.length
   ·subst u
    rw[<- j,List.getElem?_concat_length]at i;rw[List.getElem?_concat_length]at b;cases i;cases b;exact A
   ·rw[List.getElem?_eq_none (by simp;omega)]at i
    cases i
 obtain⟨o,X⟩:=J.DJ (Q:=pgsQ a' c' (P++[R])) ⟨bs++[a],h++[g],⟨by simp[d],by simp[j],t⟩,rfl⟩;have z:=k a' c' o w1 X.drop1;rw[<- d]at z;exact z
end
end
noncomputable section
open Go Go.Vc Go.Nod
theorem rMIS:Scl Tryz.prog 80:=BK (by kernel_rfl)
theorem rPB:Scl Tryz.prog 81:=BK (by kernel_rfl)
theorem rMSP:Scl Tryz.prog 83:=BK (by kernel_rfl)
theorem rMSR:Scl Tryz.prog 114:=BK (by kernel_rfl)
theorem rPT:Scl Tryz.prog 23:=BK (by kernel_rfl)
def numW(W:List ByteArray)(n:ByteArray):Int:=if hasW W n then(posW W n:Int)+1 else 0
def recP(S:SM)(W:List ByteArray)(id par:Int)(x:NX):Fol.Rec:=
 {id:=id,parent:=par,kind:=x.kind,name:=if x.kind=1 then numW W x.name else 0,frm:=((sget S id).getD (0,0)).1,to:=((sget S id).getD (0,0)).2,text:=x.text,attrs:=x.attrs.map fun a=>(numW W a.1,a.2)}
def recC(r:Fol.Rec)(a:Option Addr)(n c:Nat):List Value:=[.int .i64 r.id,.int .i64 r.parent,.int .i64 r.kind,.int .i64 r.name,.int .i64 r.frm,.int .i64 r.to,.string r.text,.slice a n c]
def recZ:List Value:=[.int .i64 0,.int .i64 0,.int .i64 0,.int .i64 0,.int .i64 0,.int .i64 0,.string ⟨#[]⟩,.slice none 0 0]
def ndC(id par kd:Int)(x:NX)(a:Option Addr)(n c:Nat):List Value:=[.int .i64 id,.int .i64 par,.int .i64 x.kind,.int .i64 kd,.string x.name,.string x.text,.slice a n c]
theorem nRecord_spec{w:World}(tb sb wb:Nat)(cs:List Value)(Tt:TypeId)(ht:Blk w tb cs Tt)(h1:cs[1]? =some (.map (some sb)))(h2:cs[2]? =some (.pointer (some ⟨wb,0,none⟩))){S:SM}(hS:MapAt (DF .i64) w sb (smC S)){wf:List Nat}{W:List ByteArray}(hW:(Aj wf wb W).ok w)
  (id b f:Int) (x:NX) (a:Option Addr) (n c:Nat) (hA:AtR w a n x.attrs) (hn:n<=1000):
  Calls Tryz.prog 116 #[.pointer (some ⟨tb,0,none⟩),.agg (ndC id b f x a n c).toArray] w fun e w'=>∃a' c',e=.returned ((recP S W id b x).val a' x.attrs.length c')/\Hp [] w w' [.own 260 2 a' x.attrs.length c' (Fol.BC (recP S W id b x).attrs)]:=by
 apply nRecord.ok;unfold nRecord.vc
 have an:=hA.len
 intro nb w1 F zb w2 G
 have H:=((Hp.start w).new (cs:=ndC id b f x a n c) EQ4 F).new (cs:=recZ) EQ4 G
 clear F G
 obtain⟨z,hz⟩:∃z:Sp,z=(sget S id).getD (0,0):=⟨_,rfl⟩
 have ac:(aget (smC S) id).getD (.agg #[.int .i64 0,.int .i64 0])=.agg #[.int .i64 z.1,.int .i64 z.2]:=by
  rw[J8,hz];cases sget S id<;>rfl
 have ld0:Ld Tryz.prog 3 w2.drew ⟨nb,0,none⟩ (.int .i64 id):=H.ld (o:=0) (cs:=ndC id b f x a n c) EQ4 yInt (.tail _ (.head _)) rfl
 have K:∀{u:World},Chg [] w u->Lk Tryz.prog 80 false u (.map (some sb)) (.int .i64 id) (.agg #[.int .i64 z.1,.int .i64 z.2]):=fun{u} M=>by
  have:=(Le IZ (hS.chg M (by simp)) id).1
  rw[ac]at this
  exact this
 have h:∀{u:World}{j:Nat}{t:TypeId}{v:Value},Chg [] w u->Scl Tryz.prog t->cs[j]? =some v->Ld Tryz.prog t u (Addr.add ⟨tb,0,none⟩ j) v:=fun{u j t v} M S hj=>by
  rw[add_lit,Nat.zero_add]
  exact(ht.chg M (by simp)).ld S.agg hj
 refine⟨id,ld0,b,H.ld (o:=1) (cs:=ndC id b f x a n c) EQ4 yInt (.tail _ (.head _)) rfl,x.kind,H.ld (o:=2) (cs:=ndC id b f x a n c) EQ4 yInt (.tail _ (.head _)) rfl,x.text,H.ld (o:=5) (cs:=ndC id b f x a n c) EQ4 yStr (.tail _ (.head _)) rfl,
  AA rfl ⟨some sb,h H.drew.chg rMIS h1,id,ld0,z.1,z.2,K H.drew.chg,fun rb w3 N=>?_⟩⟩
 have O:=H.drew.new (cs:=recZ) EQ4 N
 clear N H ld0
 have d:∀{j:Nat}{t:TypeId}{v:Value},Scl Tryz.prog t->(ndC id b f x a n c)[j]? =some v->Ld Tryz.prog t w3 ⟨nb,j,none⟩ v:=fun S hj=>O.ld (cs:=ndC id b f x a n c) EQ4 S (.tail _ (.tail _ (.head _))) hj
 refine⟨K O.chg,d yInt rfl,h O.chg rMIS h1,d yStr rfl,d yInt rfl,d yInt rfl,d yInt rfl,?_⟩
 obtain⟨r,R⟩:∃r,r=recP S W id b x:=⟨_,rfl⟩
 rw[<- R]
 obtain⟨T,y⟩:∃T:Fol.Rec,T= {r with name:=0,attrs:=[]}:=⟨_,rfl⟩
 have ae:recC T none 0 0=[.int .i64 id,.int .i64 b,.int .i64 x.kind,.int .i64 0,.int .i64 z.1,.int .i64 z.2,.string x.text,.slice none 0 0]:=by rw[y,R,hz];rfl
 refine Hp.stA O EQ4 Fol.Cj (vs:=[.int .i64 id,.int .i64 b,.int .i64 x.kind,.int .i64 0,.int .i64 z.1,.int .i64 z.2,.string x.text,.slice none 0 0]) rfl rfl (by simp[recZ]) (cs':=recC T none 0 0) (by rw[ae];rfl) fun w4 A=>?_
 clear O d
 obtain⟨k,B⟩:∃k:Fol.Rec,k= {r with attrs:=[]}:=⟨_,rfl⟩
 refine Am.mk (fun _ w'=>Hp [] w w' (.blk rb (recC k none 0 0) 204::.blk zb recZ 204::.blk nb (ndC id b f x a n c) 71::[])) ?_ ?_
 rotate_left
 ·intro J hJ
  refine⟨x.kind,A.ld (o:=2) (cs:=ndC id b f x a n c) EQ4 yInt (.tail _ (.tail _ (.head _))) rfl,AB (fun hk=>?_) (fun hk=>hJ _ _ ?_)⟩
  ·refine AA rfl ⟨_,h A.drew.chg rPB h2,x.name,A.ld (o:=4) (cs:=ndC id b f x a n c) EQ4 yStr (.tail _ (.tail _ (.head _))) rfl,AC (Nh (ZV hW A.drew.chg) x.name) ?_⟩
   rintro _ _ ⟨rfl,rfl⟩
   refine⟨_,_,rfl,Hp.st (o:=3) A EQ4 yInt rfl rfl (by simp[recC]) (cs':=recC k none 0 0) ?_ fun w5 U=>hJ _ _ U⟩
   rw[B,y,R,recC,recC,recP]
   simp only[if_pos hk,numW,set_cons_succ,set_cons_zero]
  ·have:k=T:=by
    rw[B,y,R,recP]
    simp only[if_neg hk]
   rw[this];exact A
 clear A
 rintro _ w5 U
 have ra:r.attrs=x.attrs.map fun a=>(numW W a.1,a.2):=by rw[R];rfl
 refine⟨a,n,c,U.ld (o:=6) (cs:=ndC id b f x a n c) EQ4 iSAt (.tail _ (.tail _ (.head _))) rfl,?_⟩
 have g:=(U.nilS 260 2).Ae
 clear U
 refine AP.mk (fun m s w'=>∃(i:Nat)(a':Option Addr)(c':Nat)(X:List Asn),m=n-i/\i<=n/\s=(i:Int)/\Hp [] w w' (.blk rb (recC k a' i c') 204::.own 260 2 a' i c' (Fol.BC (r.attrs.take i))::.blk zb recZ 204::X)) n ⟨0,none,0,_,rfl,by omega,rfl,g⟩ ?_
 clear g
 rintro m s w6 nx ⟨i,a',c',X,rfl,hi,rfl,g⟩ af
 refine AB (fun h3=>?_) (fun h3=>?_)
 ·have q:i<x.attrs.length:=by omega
  obtain⟨p,ag⟩:∃p,p=x.attrs[i]:=⟨_,rfl⟩
  have hp:x.attrs[i]? =some p:=by rw[ag];exact List.getElem?_eq_getElem q
  have Y:=hA.chg g.chg (by simp)
  have C:=J3 hp
  obtain⟨ad,Z⟩:=Y.cells.some (fun e=>by rw[e]at C;simp at C)
  refine AA Z ⟨⟨by omega,h3⟩,p.1,p.2,by rw[Int.toNat_natCast];exact Y.cells.ldA Gs Z C rfl,fun yb w7 aa=>?_⟩
  have H7:=g.new (cs:=[.string ⟨#[]⟩,.string ⟨#[]⟩]) EQ4 aa
  refine Hp.stA H7 EQ4 Gs (vs:=[.string p.1,.string p.2]) rfl rfl (by simp) (cs':=[.string p.1,.string p.2]) rfl fun w8 D=>?_
  clear g H7 aa
  refine AA rfl ⟨_,h D.drew.chg rPB h2,p.1,D.ld (o:=0) (cs:=[.string p.1,.string p.2]) EQ4 yStr (.head _) rfl,AC (Nh (ZV hW D.drew.chg) p.1) ?_⟩
  rintro _ _ ⟨rfl,rfl⟩
  refine⟨_,_,rfl,a',i,c',D.ld (o:=7) (cs:=recC k a' i c') EQ4 Fol.Gv (.tail _ (.head _)) rfl,p.2,D.ld (o:=1) (cs:=[.string p.1,.string p.2]) EQ4 yStr (.head _) rfl,fun ub w9 ab=>?_⟩
  have H9:=D.drew.new (cs:=[.int .i64 (numW W p.1),.string p.2]) EQ4 ab
  clear D ab
  refine Hp.app Fol.Zi (by omega) H9.D8 EQ4 (Blk.src (P:=Tryz.prog) Fol.aJ (H9.blk (.head _)) rfl rfl) (by simp only[maxLen];omega) (by omega) ?_
  intro a2 c2 ao ah
  refine Hp.st (o:=7) ah.D8 EQ4 Fol.Gv rfl rfl (by simp[recC]) (cs':=recC k a2 (i+1) c2) rfl fun ap ak=>⟨DD.2 (by omega),af (n-(i+1)) _ _ (by omega) ⟨i+1,a2,c2,.blk ub [.int .i64 (numW W p.1),.string p.2] 260::.blk yb [.string p.1,.string p.2] 142::X,rfl,by omega,rfl,?_⟩⟩
  have e1:Fol.BC (r.attrs.take (i+1))=Fol.BC (r.attrs.take i)++[.int .i64 (numW W p.1),.string p.2]:=by
   have al:i<r.attrs.length:=by rw[ra,length_map];exact q
   have am:r.attrs[i]=(numW W p.1,p.2):=by
    have:=congrArg (fun l=>l[i]?) ra
    simp only[List.getElem?_map,hp,Option.map_some]at this
    exact(List.getElem?_eq_some_iff.1 this).2
   rw[take_succ_eq_append_getElem al,Fol.Ko,am]
  rw[e1]
  refine ak.perm ?_
  refine AL fun ff gg h0 M ha aq=>?_
  simp only[ha,M,h0,append_eq,nil_append,cons_append];omega
 ·have q:i=x.attrs.length:=by omega
  subst q
  have e1:r.attrs.take x.attrs.length=r.attrs:=take_of_length_le (by rw[ra,length_map];exact Nat.le_refl _)
  rw[e1]at g
  have er:recC k a' x.attrs.length c'=recC r a' x.attrs.length c':=by rw[B];rfl
  rw[er]at g
  refine⟨r.id,r.parent,r.kind,r.name,r.frm,r.to,r.text,a',x.attrs.length,c',g.ldA (o:=0) (cs:=recC r a' x.attrs.length c') EQ4 Fol.Cj (.head _) rfl rfl,?_⟩
  refine Hp.stA g.BD EQ4 Fol.Cj (vs:=recC r a' x.attrs.length c') rfl rfl (by simp[recZ]) (cs':=recC r a' x.attrs.length c') rfl fun w7 H7=>?_
  refine⟨r.id,r.parent,r.kind,r.name,r.frm,r.to,r.text,a',x.attrs.length,c',H7.ldA (o:=0) (cs:=recC r a' x.attrs.length c') EQ4 Fol.Cj (.head _) rfl rfl,a',c',rfl,?_⟩
  exact Hp.BP (L:=[_]) (H7.BD)
end
end Go.Proofs.YtljenkbpnioipaaGreat
namespace Go.Nod
theorem Xk{L:List Rw}(hn:(L.map (·.id)).Nodup){j:Nat}{r:Rw}(a:L[j]? =some r):atR L r.id=some (j,r):=by
 obtain⟨b,e⟩:=List.getElem?_eq_some_iff.1 a
 have c:L=L.take j++r::L.drop (j+1):=by rw[<- e,<- drop_eq_getElem_cons b,List.take_append_drop]
 have d:Fp L r.id=some j:=by
  have:=ZF (A:=L.take j) (r:=r) (B:=L.drop (j+1)) (fun x f g=>by
   rw[c,map_append,map_cons,List.nodup_append]at hn
   exact hn.2.2 x.id (mem_map.2 ⟨x,f,rfl⟩) r.id (.head _) g)
  rw[<- c,length_take,Nat.min_eq_left (Nat.le_of_lt b)]at this;exact this
 rw[atR,d];dsimp only;rw[a];rfl
theorem BN.Rz{F:Fo}{T:Tr}(G:BN F T):(T.L.map (·.id)).Nodup:=by
 rw[<- G.fl,BH];exact G.nodup
end Go.Nod
namespace Go.Proofs.YtljenkbpnioipaaGreat
noncomputable section
open Go Go.Vc Go.Nod
def bts(l:List UInt8):ByteArray:=⟨l.toArray⟩
theorem OU(a b:List UInt8):bts a++bts b=bts (a++b):=mk_append a b
theorem EU(l:List UInt8):(bts l).size=l.length:=GX l
theorem Kr(s:ByteArray):bts s.data.toList=s:=(aO s).symm
def Et(next:Int):ByteArray:=bts (104::be next 4)
def Oa(k:Nat)(s:ByteArray):ByteArray:=bts (119::(be ((k:Int)+1) 2++s.data.toList))
def Eg:Nat->List ByteArray->List ByteArray
 |_,[]=>[]
 |k,s::r=>(if s=none0 then []else [Oa k s])++Eg (k+1) r
theorem KJ(s:ByteArray):∀(l:List ByteArray)(k:Nat),Eg k (l++[s])=Eg k l++(if s=none0 then []else [Oa (k+l.length) s])
 | [],k=>by simp[Eg]
 |x::r,k=>by
  rw[cons_append,Eg,KJ s r (k+1),Eg,append_assoc,length_cons];rw[show k+1+r.length=k+(r.length+1) by omega]
def FX(p:List UInt8):ByteArray:=bts (110::p)
def OO(T:Tr)(S:SM)(W:List ByteArray)(j:Nat):List ByteArray:=match T.L[j]? with
 |some r=>(Fol.out (recP S W r.id (BG T.L j) r.x)).map FX
 |none=>[]
def ER(T:Tr)(S:SM)(W:List ByteArray)(n:Nat):List ByteArray:=(List.range n).flatMap (OO T S W)
theorem Ij(T:Tr)(S:SM)(W:List ByteArray)(n:Nat):ER T S W (n+1)=ER T S W n++OO T S W n:=by
 rw[ER,List.range_succ,flatMap_append];simp[ER]
def He(T:Tr)(S:SM)(W:List ByteArray):List ByteArray:=Et T.next::Eg 0 W++ER T S W T.L.length
abbrev RM:=List (ByteArray×ByteArray)
def layR(m:RM)(l:List ByteArray):RM:=l.foldl (fun m s=>gput m (CJ s) s) m
theorem YJ(m:RM)(a b:List ByteArray):layR m (a++b)=layR (layR m a) b:=List.foldl_append
def DL(T:Tr)(S:SM)(W:List ByteArray):RM:=layR [] (He T S W)
def rwV(s:ByteArray):Value:=.agg #[.string s]
theorem YO:MapT Tryz.prog GI 114 9 192 (.agg #[.string ⟨#[]⟩]):=⟨by kernel_rfl,by kernel_rfl,by kernel_rfl⟩
theorem IJ{B:List Nat}{w0 w:World}{L:List Asn}(mb a:Nat)(R:RM)(s:ByteArray)(H:Hp B w0 w (.smap mb (gC rwV R)::.blk a [.map (some mb)] 114::L)):
  Calls Tryz.prog 112 #[.string s,.pointer (some ⟨a,0,none⟩)] w fun e w'=>e=.returned (.tuple #[])/\Hp B w0 w' (.smap mb (gC rwV (layR R [s]))::.blk a [.map (some mb)] 114::L):=by
 apply nRecords1.ok;unfold nRecords1.vc;have ld:∀{W:World},Eqw w W->Ld Tryz.prog 114 W ⟨a,0,none⟩ (.map (some mb)):=fun c=>H.ld (o:=0) (cs:=[.map (some mb)]) c rMSR m1 rfl;refine⟨some mb,AA rfl (ld EQ4),AC (Qo s _) ?_⟩;rintro _ _ ⟨rfl,rfl⟩;refine⟨_,rfl,AA rfl (ld EQ4),?_⟩;refine Hp.mupS YO H EQ4 fun d b=>⟨rfl,?_⟩;have e:aput (gC rwV R) (CJ s) (.agg #[.string s])=gC rwV (layR R [s]):=Nl rwV R (CJ s) s;rw[e]at b;exact b
section
variable{B:List Nat}{w0 w:World}{L:List Asn}
theorem aZ(r:Fol.Rec):(Fol.out r).length<=34:=by
 rw[Fol.out];split
 ·rename_i h
  have:=(Fol.FI h).2.1;rw[Fol.GU,Fol.Bc];omega
 ·simp
theorem out_mem{r:Fol.Rec}{p:List UInt8}(h:p∈Fol.out r):p.length<=906:=by
 rw[Fol.out]at h;split at h
 ·obtain⟨k,_,rfl⟩:=mem_map.1 h
  rw[Fol.VE];omega
 ·cases h
theorem ND(ub g sb k:Nat)(v3 v4:Value)(tf wf:List Nat)(T:Tr)(S:SM)(W:List ByteArray)
  (H:Hp B w0 w (.blk ub [.pointer (some ⟨g,0,none⟩),.map (some sb),.pointer (some ⟨k,0,none⟩),v3,v4] 86::AU tf g T::.imap sb .i64 (smC S)::Aj wf k W::L)):
  Calls Tryz.prog 60 #[.pointer (some ⟨ub,0,none⟩)] w fun e w'=>∃mb ab,e=.returned (.map (some mb))/\
   Hp B w0 w' (.smap mb (gC rwV (DL T S W))::.blk ub [.pointer (some ⟨g,0,none⟩),.map (some sb),.pointer (some ⟨k,0,none⟩),v3,v4] 86::AU ab g T::.imap sb .i64 (smC S)::Aj wf k W::L):=by
 apply nRecords.ok;unfold nRecords.vc;obtain⟨f,m⟩:∃f:List Value,f=[.pointer (some ⟨g,0,none⟩),.map (some sb),.pointer (some ⟨k,0,none⟩),v3,v4]:=⟨_,rfl⟩
 have ac:f[0]? =some (.pointer (some ⟨g,0,none⟩)):=by rw[m];rfl
 have a9:f[1]? =some (.map (some sb)):=by rw[m];rfl
 have ak:f[2]? =some (.pointer (some ⟨k,0,none⟩)):=by rw[m];rfl
 rw[<- m]at H⊢;clear m;intro mb w1 al;have H1:=H.newS EQ4 al;intro xb w2 am;have H2:=H1.nw am;clear H H1 al am;refine Hp.s1 H2 rMSR (cs':=[.map (some mb)]) fun w3 H3=>?_;clear H2;refine AA rfl ⟨_,H3.ld (o:=0) (cs:=f) EQ4 nPT m2 ac,AC (UX (H3.ok _ m3)) ?_⟩;rintro _ _ ⟨rfl,rfl⟩;refine⟨_,rfl,AC (O4 T.next 4 (by omega) _) ?_⟩;rintro _ w4 ⟨rfl,H4⟩;have H5:=(H3.ext0 H4).Ae;clear H3 H4
 have ba:(bts (be T.next 4)).size=4:=by rw[EU,AX]
 refine⟨bts (be T.next 4),rfl,by rw[ba];decide,?_⟩;rw[show(ByteArray.mk #[(104:UInt8)])++bts (be T.next 4)=Et T.next from OU [104] (be T.next 4)];refine AC (IJ mb xb [] (Et T.next) H5) ?_;rintro _ w5 ⟨rfl,H6⟩;clear H5;refine⟨rfl,AA rfl ⟨_,by rw[add_lit];exact H6.ld (o:=2) (cs:=f) EQ4 rPB m2 ak,?_⟩⟩
 have K:WOk W:=by
  obtain⟨M,⟨hW,_⟩,_⟩:=EP (H6.ok (Aj wf k W) m5);exact hW
 have bv:=K.len;refine AC (WZ (H6.ok (Aj wf k W) m5)) ?_;rintro _ w6 ⟨wa,wc,rfl,H7⟩;have H8:=H6.ext1 H7;clear H6 H7;refine⟨_,_,_,rfl,?_⟩;obtain⟨Y,hY⟩:∃Y:List Asn,Y=.blk xb [.map (some mb)] 114::.blk ub f 86::AU tf g T::.imap sb .i64 (smC S)::Aj wf k W::.own 9 1 wa W.length wc (BI W)::L:=⟨_,rfl⟩;refine AP.mk (fun q s w'=>∃j:Nat,q=W.length-j/\j<=W.length/\s=(j:Int)/\Hp B w0 w' (.smap mb (gC rwV (layR [] (Et T.next::Eg 0 (W.take j))))::Y)) W.length ⟨0,rfl,by omega,rfl,H8.perm ?_⟩ ?_
 ·rw[hY]
  refine AL fun ff gg z A C D=>?_
  have e1:layR [] (Et T.next::Eg 0 (W.take 0))=layR [] [Et T.next]:=by rw[take_zero,Eg]
  simp only[e1,C,A,z];omega
 clear H8;rintro q s w7 nx ⟨j,rfl,hj,rfl,H⟩ t;refine AB (fun h1=>?_) (fun h1=>?_)
 ·have b:j<W.length:=by omega
  have hx:W[j]? =some W[j]:=List.getElem?_eq_getElem b;obtain⟨x,an⟩:∃x,x=W[j]:=⟨_,rfl⟩;rw[<- an]at hx
  have ao:W.take (j+1)=W.take j++[x]:=by rw[take_succ_eq_append_getElem b,an]
  have bb:(W.take j).length=j:=by rw[length_take];omega
  obtain⟨ad,ae,af⟩:=H.ldO (w':=w7) (o:=j) EQ4 yStr (by rw[hY];exact .tail _ m5) (Dk hx);refine AA ae ⟨⟨by omega,h1⟩,x,by rw[Int.toNat_natCast,Nat.mul_one];exact af,AV (fun h2=>?_) (fun h2=>?_)⟩
  ·refine⟨iR,AC (O4 ((j:Int)+1) 2 (by omega) w7) ?_⟩
   rintro _ w8 ⟨rfl,H9⟩;have u:=H.ext0 H9
   have bw:x.size<=60:=by
    rcases K.ok x (mem_of_getElem? hx)with h|h
    ·exact(h2 h).elim
    ·exact h.2.1
   have bc:(bts (be ((j:Int)+1) 2)).size=2:=by rw[EU,AX]
   have bd:(ByteArray.mk #[(119:UInt8)]++bts (be ((j:Int)+1) 2)).size=3:=by
    rw[show ByteArray.mk #[(119:UInt8)]++bts (be ((j:Int)+1) 2)=bts (119::be ((j:Int)+1) 2)from OU [119] _,EU,length_cons,AX]
   refine⟨bts (be ((j:Int)+1) 2),rfl,by rw[bc];decide,by rw[bd];omega,?_⟩
   have er:ByteArray.mk #[(119:UInt8)]++bts (be ((j:Int)+1) 2)++x=Oa j x:=by
    rw[show ByteArray.mk #[(119:UInt8)]++bts (be ((j:Int)+1) 2)=bts (119::be ((j:Int)+1) 2)from OU [119] _]
    conv=>lhs;rw[<- Kr x]
    rw[OU];rfl
   rw[er];rw[hY]at u;refine AC (IJ mb xb _ (Oa j x) u) ?_;rintro _ w9 ⟨rfl,G⟩;refine⟨rfl,iR,t (W.length-(j+1)) _ _ (by omega) ⟨j+1,rfl,by omega,rfl,?_⟩⟩;rw[ao,KJ,bb,if_neg h2,<- cons_append,YJ,Nat.zero_add,hY];exact G
  ·refine⟨iR,t (W.length-(j+1)) _ _ (by omega) ⟨j+1,rfl,by omega,rfl,?_⟩⟩
   rw[ao,KJ,if_pos h2,append_nil];exact H
 ·have b:j=W.length:=by omega
  rw[b,take_length]at H;clear t;obtain⟨R1,ap⟩:∃R1,R1=Et T.next::Eg 0 W:=⟨_,rfl⟩;rw[<- ap]at H;rw[hY]at H;refine AA rfl ⟨_,H.ld (o:=0) (cs:=f) EQ4 nPT m2 ac,?_⟩
  obtain⟨F,hG⟩:∃F,BN F T:=by
   obtain⟨F,_,_,hG,_⟩:=FQ (H.ok (AU tf g T) m3);exact⟨F,hG⟩
  have bx:=hG.len;have bh:=hG.Rz;refine AC (Ip (H.ok (AU tf g T) m3)) ?_;rintro _ w8 ⟨bi,oa,oc,rfl,H9⟩;have u:=H.D8.use1 H9;clear H H9;refine⟨_,_,_,rfl,?_⟩;obtain⟨Z,hZ⟩:∃Z:List Asn,Z=.imap sb .i64 (smC S)::Aj wf k W::.own 3 1 oa T.L.length oc (AO (T.L.map (·.id)))::.own 9 1 wa W.length wc (BI W)::L:=⟨_,rfl⟩;refine AP.mk (fun q s w'=>∃(j:Nat)(ab:List Nat)(X:List Asn),q=T.L.length-j/\j<=T.L.length/\s=(j:Int)/\Hp B w0 w' (.smap mb (gC rwV (layR [] (R1++ER T S W j)))::.blk xb [.map (some mb)] 114::.blk ub f 86::AU ab g T::(Z++X))) T.L.length ⟨0,bi,[],rfl,by omega,rfl,u.perm ?_⟩ ?_
  ·refine AL fun ff gg z A C D=>?_
   have e1:R1++ER T S W 0=R1:=by simp[ER]
   simp only[e1,hZ,C,A,z];omega
  clear u;rintro q s w9 nx ⟨j,aq,X,rfl,hj,rfl,H⟩ t;refine AB (fun h2=>?_) (fun h2=>?_)
  ·have b:j<T.L.length:=by omega
   obtain⟨r,bj⟩:∃r,r=T.L[j]:=⟨_,rfl⟩
   have hr:T.L[j]? =some r:=by rw[bj];exact List.getElem?_eq_getElem b
   have bk:(AO (T.L.map (·.id)))[j]? =some (.int .i64 r.id):=by simp[AO,hr]
   obtain⟨ad,ae,af⟩:=H.ldO (w':=w9) (o:=j) EQ4 yInt (by rw[hZ];exact .tail _ m5) bk;refine AA ae ⟨⟨by omega,h2⟩,r.id,by rw[Int.toNat_natCast,Nat.mul_one];exact af,AA rfl ⟨_,H.ld (o:=0) (cs:=f) EQ4 nPT m2 ac,?_⟩⟩;refine AC (Lu (H.ok (AU aq g T) m3) r.id) ?_;have ar:=Xk bh hr;rintro _ b0 ⟨av,⟨h3,_⟩|⟨n,r',a,c,kd,h3,rfl,h4,G⟩⟩
   ·rw[ar]at h3;cases h3
   rw[ar]at h3;cases h3;have aw:=H.D8.use1 G;clear H G;refine⟨r.id,BG T.L j,r.x.kind,kd,r.x.name,r.x.text,a,r.x.attrs.length,c,true,rfl,fun zb b1 N=>?_⟩;have a0:=aw.nw N;refine Hp.sA a0 KE (cs':=ndC r.id (BG T.L j) kd r.x a r.x.attrs.length c) fun bl d=>?_;clear aw a0 N;refine⟨r.id,BG T.L j,r.x.kind,kd,r.x.name,r.x.text,a,r.x.attrs.length,c,d.loA KE,?_⟩;have U:Own bl 0 142 2 a r.x.attrs.length c (atC r.x.attrs):=d.ownA m2
   have mS:Asn.imap sb .i64 (smC S)∈Z++X:=by rw[hZ];exact .head _
   have mW:Aj wf k W∈Z++X:=by rw[hZ];exact .tail _ (.head _)
   refine AC (nRecord_spec ub sb k f 86 (d.blk m5) a9 ak (S:=S) (d.ok _ (.tail _ (.tail _ (.tail _ (.tail _ (.tail _ (.tail _ mS))))))) (W:=W) (d.ok _ (.tail _ (.tail _ (.tail _ (.tail _ (.tail _ (.tail _ mW))))))) r.id (BG T.L j) kd r.x a r.x.attrs.length c ⟨rfl,U.cells⟩ (by omega)) ?_;rintro _ a1 ⟨ra,rc,rfl,a2⟩;have y:=d.ext1 a2;clear d a2 U;obtain⟨l,ag⟩:∃l,l=recP S W r.id (BG T.L j) r.x:=⟨_,rfl⟩;rw[<- ag]at y⊢
   have aa:r.x.attrs.length=l.attrs.length:=by rw[ag,recP,length_map]
   rw[aa]at y⊢;refine⟨_,_,_,_,_,_,_,_,_,_,rfl,?_⟩;have a3:Own a1 0 260 2 ra l.attrs.length rc (Fol.BC l.attrs):=y.ownA (.head _);refine AC (Fol.QJ l ra l.attrs.length rc a1 ⟨rfl,a3.cells⟩ (by simp only[maxLen];omega)) ?_;rintro _ b2 ⟨pa,pc,rfl,a4⟩;have ah:=y.ext1 a4;clear y a4 a3;refine⟨_,_,_,_,rfl,?_⟩;have bm:=aZ l;obtain⟨O,hO⟩:∃O,O=Fol.out l:=⟨_,rfl⟩;rw[<- hO]at ah bm⊢
   have bo:ER T S W (j+1)=ER T S W j++O.map FX:=by
    rw[Ij,OO,hr];dsimp only;rw[<- ag,<- hO]
   refine AP.mk (fun q s w'=>∃(i:Nat)(X2:List Asn),q=O.length-i/\i<=O.length/\s=(i:Int)/\Hp B w0 w' (.smap mb (gC rwV (layR [] (R1++ER T S W j++(O.take i).map FX)))::.blk xb [.map (some mb)] 114::.blk ub f 86::AU av g T::.own 9 1 pa O.length pc (O.map sv)::(Z++X2))) O.length ⟨0,.own 260 2 ra l.attrs.length rc (Fol.BC l.attrs)::.blk zb (ndC r.id (BG T.L j) kd r.x a r.x.attrs.length c) 71::.own 142 2 a r.x.attrs.length c (atC r.x.attrs)::X,rfl,by omega,rfl,ah.perm ?_⟩ ?_
   ·refine AL fun ff gg z A C D=>?_
    simp only[take_zero,map_nil,append_nil,aa,C,A,z];omega
   clear ah;rintro q s bp b3 ⟨i,X2,rfl,hi,rfl,H⟩ a5;refine AB (fun h5=>?_) (fun h5=>⟨iR,t (T.L.length-(j+1)) _ _ (by omega) ⟨j+1,av,.own 9 1 pa O.length pc (O.map sv)::X2,rfl,by omega,rfl,?_⟩⟩)
   ·have J:i<O.length:=by omega
    obtain⟨p,a6⟩:∃p,p=O[i]:=⟨_,rfl⟩
    have hp:O[i]? =some p:=by rw[a6];exact List.getElem?_eq_getElem J
    have bq:(O.map sv)[i]? =some (.string (bts p)):=by rw[List.getElem?_map,hp];rfl
    have b4:p.length<=906:=out_mem (r:=l) (by rw[<- hO];exact mem_of_getElem? hp);obtain⟨b5,a7,a8⟩:=H.ldO (w':=bp) (o:=i) EQ4 yStr m4 bq;refine AA a7 ⟨⟨by omega,h5⟩,bts p,by rw[Int.toNat_natCast,Nat.mul_one];exact a8,by rw[EU,show(ByteArray.mk #[(110:UInt8)]).size=1 from rfl];omega,?_⟩;rw[show ByteArray.mk #[(110:UInt8)]++bts p=FX p from OU [110] p];refine AC (IJ mb xb _ (FX p) H) ?_;rintro _ b6 ⟨rfl,H2⟩;refine⟨rfl,iR,a5 (O.length-(i+1)) _ _ (by omega) ⟨i+1,X2,rfl,by omega,rfl,?_⟩⟩;rw[take_succ_eq_append_getElem J,<- a6,map_append,<- append_assoc,YJ];exact H2
   ·have J:i=O.length:=by omega
    rw[J,take_length,append_assoc,<- bo]at H
    exact H.perm (by
     refine AL fun ff gg z A C D=>?_
     simp only[C,A,z];omega)
  ·have b:j=T.L.length:=by omega
   rw[b]at H
   have er:layR [] (R1++ER T S W T.L.length)=DL T S W:=by rw[DL,He,ap]
   rw[er]at H;refine⟨some mb,H.lo rMSR,mb,aq,rfl,?_⟩
   exact Hp.BP (R:=.blk xb [.map (some mb)] 114::.own 3 1 oa T.L.length oc (AO (T.L.map (·.id)))::.own 9 1 wa W.length wc (BI W)::X) (H.perm (by
    refine AL fun ff gg z A C D=>?_
    simp only[hZ,C,A,z];omega))
end
end
noncomputable section
open Go Go.Vc Go.Nod
abbrev Pl:=Int×Int
abbrev QM:=List (ByteArray×Pl)
abbrev DM:=List (Pl×Int)
theorem hpair:Q3 Tryz.prog 101:=pair_of (by kernel_rfl) (by kernel_rfl)
theorem Ux:YI Tryz.prog 110 101 3 (.int .i64 0):=⟨by kernel_rfl,hpair,by kernel_rfl⟩
theorem VK:MapT Tryz.prog GI 83 9 101 (.agg #[.int .i64 0,.int .i64 0]):=⟨by kernel_rfl,by kernel_rfl,by kernel_rfl⟩
theorem hagg:Agg Tryz.prog 101 2:=Ci (by kernel_rfl)
theorem hMPI:Scl Tryz.prog 110:=BK (by kernel_rfl)
def dC(D:DM):List (Pl×Value):=gC (fun z=>.int .i64 z) D
def cnt(D:DM)(p:Pl):Int:=(gget D p).getD 0
def touch(D:DM)(p:Pl):DM:=gput D p (cnt D p+1)
theorem PU(D:DM)(p:Pl):(aget (dC D) p).getD (.int .i64 0)=.int .i64 (cnt D p):=by
 rw[dC,LQ,cnt];cases gget D p<;>rfl
theorem Rf(D:DM)(p:Pl):aput (dC D) p (.int .i64 (cnt D p+1))=dC (touch D p):=Nl (fun z=>.int .i64 z) D p (cnt D p+1)
def Cm(P:List Sl.Recs)(n:Nat):Sl.Recs:=(P[n]?).getD []
structure WSt where
 P:List Sl.Recs
 Q:QM
 D:DM
def WSt.drop(st:WSt)(key:ByteArray):WSt:=
 ⟨st.P.set ((gget st.Q key).getD (0,0)).1.toNat (Sl.adel (Cm st.P ((gget st.Q key).getD (0,0)).1.toNat) ((gget st.Q key).getD (0,0)).2).1,gdel st.Q key,touch st.D ((gget st.Q key).getD (0,0))⟩
def Fz(P:List Sl.Recs)(n:Nat):List Sl.Recs:=if n=P.length then P++[[]]else P
def putF(s:List UInt8):Nat->Nat->List Sl.Recs->List Sl.Recs×Option Pl
 |0,_,P=>(P,none)
 |f+1,n,P=>if(Sl.ains (Cm (Fz P n) n) s).2.2=0 then((Fz P n).set n (Sl.ains (Cm (Fz P n) n) s).1,some ((n:Int),(Sl.ains (Cm (Fz P n) n) s).2.1))else putF s f (n+1) (Fz P n)
def WSt.put(st:WSt)(key s:ByteArray):WSt×Int:=match putF s.data.toList 4096 0 st.P with
 |(P,none)=>(⟨P,st.Q,st.D⟩,94)
 |(P,some p)=>(⟨P,gput st.Q key p,touch st.D p⟩,0)
structure CB(st:WSt)(N:Int):Prop where
 len:st.P.length<=4096
 q:∀e∈st.Q,0<=e.2.1/\e.2.1<st.P.length/\0<=e.2.2/\e.2.2<120
 qn:(st.Q.map (·.1)).Nodup
 key:∀e∈st.Q,e.1.size<=6
 d:∀e∈st.D,0<=e.2/\e.2<=N/\0<=e.1.1/\e.1.1<st.P.length/\0<=e.1.2/\e.1.2<120
 dn:(st.D.map (·.1)).Nodup
theorem CB.cnt{st:WSt}{N:Int}(h:CB st N)(a:0<=N)(p:Pl):0<=cnt st.D p/\cnt st.D p<=N:=by
 rw[Go.Proofs.YtljenkbpnioipaaGreat.cnt]
 cases e:gget st.D p with
 |none=>exact⟨Int.le_refl _,a⟩
 |some z=>
  have:=h.d _ (ML e);exact⟨this.1,this.2.1⟩
theorem CB.touch{st:WSt}{N:Int}(h:CB st N)(c:0<=N){p:Pl}(a:0<=p.1/\p.1<st.P.length/\0<=p.2/\p.2<120):CB ⟨st.P,st.Q,touch st.D p⟩ (N+1):=by
 refine⟨h.len,h.q,h.qn,h.key,fun e b=>?_,IC h.dn _ _⟩;rcases Jb b with rfl|b
 ·have:=h.cnt c p
  exact⟨by show 0<=Go.Proofs.YtljenkbpnioipaaGreat.cnt st.D p+1;omega,by show Go.Proofs.YtljenkbpnioipaaGreat.cnt st.D p+1<=N+1;omega,a.1,a.2.1,a.2.2.1,a.2.2.2⟩
 ·have:=h.d e b
  exact⟨this.1,by omega,this.2.2⟩
theorem CB.pages{st:WSt}{N:Int}(h:CB st N){P:List Sl.Recs}(h1:st.P.length<=P.length)(b:P.length<=4096):CB ⟨P,st.Q,st.D⟩ N:=
 ⟨b,fun e a=>by have:=h.q e a;exact⟨this.1,by show e.2.1<(P.length:Int);omega,this.2.2⟩,h.qn,h.key,fun e a=>by
  have:=h.d e a
  exact⟨this.1,this.2.1,this.2.2.1,by show e.1.1<(P.length:Int);omega,this.2.2.2.2⟩,h.dn⟩
theorem CB.drop{st:WSt}{N:Int}(h:CB st N)(f:0<=N){key:ByteArray}{p:Pl}(c:gget st.Q key=some p):CB (st.drop key) (N+1):=by
 have g:=h.q _ (ML c);have a:=(h.pages (P:=st.P.set p.1.toNat (Sl.adel (Cm st.P p.1.toNat) p.2).1) (by rw[length_set];exact Nat.le_refl _) (by rw[length_set];exact h.len)).touch f (p:=p) (by rw[length_set];exact g);rw[WSt.drop,c];exact⟨a.len,fun e b=>a.q e ((KP _ _).subset b),Uo h.qn _,fun e b=>h.key e ((KP _ _).subset b),a.d,a.dn⟩
theorem Yb(P:List Sl.Recs)(n:Nat):P.length<=(Fz P n).length/\(Fz P n).length<=P.length+1/\(n<=P.length->n<(Fz P n).length):=by
 rw[Fz];split
 ·simp;omega
 ·refine⟨Nat.le_refl _,by omega,fun h=>by omega⟩
theorem ains_slot(L:Sl.Recs)(s:List UInt8):0<=(Sl.ains L s).2.1/\(Sl.ains L s).2.1<120:=by
 unfold Sl.ains;dsimp only;split
 ·exact⟨Int.le_refl _,by show(0:Int)<120;omega⟩
 ·split
  ·dsimp only;omega
  ·exact⟨Int.le_refl _,by show(0:Int)<120;omega⟩
theorem ains_bad{L:Sl.Recs}{s:List UInt8}(h:(Sl.ains L s).2.2≠0):(Sl.ains L s).1=L:=by
 unfold Sl.ains at h⊢;dsimp only at h⊢;split
 ·rfl
 ·rename_i a
  rw[if_neg a]at h;split
  ·rename_i b
   rw[if_pos b]at h;exact absurd rfl h
  ·rfl
theorem Zz(s:List UInt8):∀(f n:Nat)(P:List Sl.Recs),n<=P.length->P.length<=f+n->P.length<=(putF s f n P).1.length/\(putF s f n P).1.length<=f+n/\∀p,(putF s f n P).2=some p->0<=p.1/\p.1<(putF s f n P).1.length/\0<=p.2/\p.2<120
 |0,n,P,h1,h2=>⟨Nat.le_refl _,h2,fun p a=>by cases a⟩
 |f+1,n,P,h1,h2=>by
  obtain⟨b,g,c⟩:=Yb P n;have h:=c h1
  have d:(Fz P n).length<=f+(n+1):=by
   rw[Fz];split
   ·simp;omega
   ·omega
  rw[putF];split
  ·dsimp only
   rw[length_set];refine⟨b,by omega,fun p a=>?_⟩;cases a;have:=ains_slot (Cm (Fz P n) n) s;exact⟨by dsimp only;omega,by dsimp only;omega,this.1,this.2⟩
  ·obtain⟨i,j,e⟩:=Zz s f (n+1) (Fz P n) (by omega) d
   exact⟨by omega,by omega,e⟩
theorem CB.put{st:WSt}{N:Int}(h:CB st N)(i:0<=N){key:ByteArray}(j:key.size<=6)(s:ByteArray):CB (st.put key s).1 (N+1):=by
 have l:=h.len;obtain⟨c,k,f⟩:=Zz s.data.toList 4096 0 st.P (Nat.zero_le _) (by omega);rw[WSt.put]
 cases e:putF s.data.toList 4096 0 st.P with
 |mk P o=>
  rw[e]at c k f
  cases o with
  |none=>
   have a:=h.pages (P:=P) c (by omega);exact⟨a.len,a.q,a.qn,a.key,fun e b=>by have:=a.d e b;exact⟨this.1,by omega,this.2.2⟩,a.dn⟩
  |some p=>
   have g:=f p rfl;have a:=(h.pages (P:=P) c (by omega)).touch i g;refine⟨a.len,fun e b=>?_,IC h.qn _ _,fun e b=>?_,a.d,a.dn⟩
   ·rcases Jb b with rfl|b
    ·exact g
    ·exact a.q e b
   ·rcases Jb b with rfl|b
    ·exact j
    ·exact h.key e b
structure WN where
 xb:Nat
 db:Nat
 ub:Nat
 tb:Nat
 sb:Nat
 wb:Nat
 qb:Nat
def wrC(z:WN):List Value:=[.pointer (some ⟨z.ub,0,none⟩),.map (some z.db)]
def tbC(z:WN)(pa:Option Addr)(n pc:Nat):List Value:=[.pointer (some ⟨z.tb,0,none⟩),.map (some z.sb),.pointer (some ⟨z.wb,0,none⟩),.slice pa n pc,.map (some z.qb)]
def wrL(z:WN)(pf:List Nat)(pa:Option Addr)(pc:Nat)(st:WSt):List Asn:=
 [pgsA pf pa pc st.P,.smap z.qb (gC Ag st.Q),IA z.db (dC st.D),.blk z.xb (wrC z) 112,.blk z.ub (tbC z pa st.P.length pc) 86]
theorem ZW{Q:QM}{k:ByteArray}:(aget (gC Ag Q) k).getD (.agg #[.int .i64 0,.int .i64 0])=.agg #[.int .i64 ((gget Q k).getD (0,0)).1,.int .i64 ((gget Q k).getD (0,0)).2]:=by
 rw[LQ];cases gget Q k<;>rfl
section
variable{B:List Nat}{w0 w:World}{L:List Asn}
theorem TW(z:WN)(pf:List Nat)(pa:Option Addr)(pc:Nat)(st:WSt)(N:Int)(d:CB st N)(hN:0<=N/\N<=1000000000)(key:ByteArray)(p:Pl)(C:gget st.Q key=some p)(H:Hp B w0 w (wrL z pf pa pc st++L)):
  Calls Tryz.prog 108 #[.pointer (some ⟨z.xb,0,none⟩),.string key] w fun e w'=>e=.returned (.tuple #[])/\∃c,Hp B w0 w' (wrL z c pa pc (st.drop key)++L):=by
 apply nDrop.ok;unfold nDrop.vc;have hq:0<=p.1/\p.1<st.P.length/\0<=p.2/\p.2<120:=d.q _ (ML C);have aa:=d.len;have O:=d.cnt hN.1 p;have f:∀{W:World}{M:List Asn},Hp B w0 W M->Asn.blk z.xb (wrC z) 112∈M->∀{k:World},Eqw W k->Ld Tryz.prog 23 k ⟨z.xb,0,none⟩ (.pointer (some ⟨z.ub,0,none⟩)):=fun H m _ e=>H.ld (o:=0) (cs:=wrC z) e rPT m rfl
 have l:∀{W:World}{M:List Asn},Hp B w0 W M->Asn.blk z.ub (tbC z pa st.P.length pc) 86∈M->∀{k:World},Eqw W k->Ld Tryz.prog 83 k (Addr.add ⟨z.ub,0,none⟩ 4) (.map (some z.qb)):=fun H m _ e=>by
  rw[add_lit];exact H.ld (o:=4) (cs:=tbC z pa st.P.length pc) e rMSP m rfl
 have F:∀{Q:QM},gget Q key=some p->(aget (gC Ag Q) key).getD (.agg #[.int .i64 0,.int .i64 0])=.agg #[.int .i64 p.1,.int .i64 p.2]:=fun{Q} h=>by rw[ZW,h];rfl
 refine AA rfl ⟨_,f H m3 EQ4,AA rfl ⟨_,l H m4 EQ4,p.1,p.2,H.lkS VK EQ4 m1 (F C),fun T w1 r=>?_⟩⟩;have U:=H.nw r;refine Hp.sA U hagg (cs':=[.int .i64 p.1,.int .i64 p.2]) fun w2 Y=>?_;clear H U r;obtain⟨n,Z⟩:∃n:Nat,p.1=(n:Int):=⟨p.1.toNat,by omega⟩
 have G:n<st.P.length:=by omega
 obtain⟨R,hR⟩:∃R,st.P[n]? =some R:=⟨_,List.getElem?_eq_getElem G⟩;have H3:Hp B w0 w2 (pgsA pf pa pc st.P::(.blk T [.int .i64 p.1,.int .i64 p.2] 101::.smap z.qb (gC Ag st.Q)::IA z.db (dC st.D)::.blk z.xb (wrC z) 112::.blk z.ub (tbC z pa st.P.length pc) 86::L)):=Y.Ae;obtain⟨b,g,X,ad,J,s,t,i,a⟩:=Jc H3.drew hR;have u:∀{x:Asn}{M:List Asn},x∈M->x∈Sl.pgA b g::X::M:=fun h=>.tail _ (.tail _ h);refine AA rfl ⟨_,f i (u m3) EQ4,AA rfl ⟨pa,st.P.length,pc,by rw[add_lit];exact i.ld (o:=3) (cs:=tbC z pa st.P.length pc) EQ4 pSl (u m4) rfl,p.1,i.ld (o:=0) (cs:=[.int .i64 p.1,.int .i64 p.2]) EQ4 yInt (u (.head _)) rfl,AA J ⟨⟨by omega,by omega⟩,_,by rw[Z,Int.toNat_natCast];exact s _ EQ4,p.2,i.ld (o:=1) (cs:=[.int .i64 p.1,.int .i64 p.2]) EQ4 yInt (u (.head _)) rfl,?_⟩⟩⟩;refine AC (Sl.delete_any t (i.blk (.head _)) p.2) ?_;rintro _ w3 ⟨rfl,g',j,H5⟩;have H6:=i.Ba H5;obtain⟨c,y⟩:=a _ _ _ _ j H6;clear Y H3 i H5 H6 a s;refine⟨_,rfl,AA rfl ⟨_,by rw[add_lit];exact y.lo hMPI,p.1,p.2,y.loA hagg,cnt st.D p,y.lkP Ux EQ4 m3 (PU st.D p),iR,?_⟩⟩;refine Hp.menP Ux y.D8 EQ4 (PU st.D p) fun w4 A=>?_;rw[Rf]at A;refine AA rfl ⟨_,f A m4 EQ4,AA rfl ⟨some z.qb,l A m5 EQ4,?_⟩⟩;refine Hp.delS VK rfl A.D8 EQ4 fun w5 H9=>⟨rfl,c,?_⟩;rw[bu]at H9
 have ed:st.drop key=⟨st.P.set n (Sl.adel R p.2).1,gdel st.Q key,touch st.D p⟩:=by
  rw[WSt.drop,C,Option.getD_some,Z,Int.toNat_natCast,Cm,hR];rfl
 have K:Hp B w0 w5 ((wrL z c pa pc (st.drop key)++L)++[.blk T [.int .i64 p.1,.int .i64 p.2] 101]):=H9.perm (by
  refine AL fun ff gg h0 hc ha ab=>?_;rw[ed]
  simp only[wrL,length_set,ha,hc,h0];omega)
 exact Hp.BP K
end
end
noncomputable section
open Go Go.Vc Go.Nod
section
variable{B:List Nat}{w0 w:World}{L:List Asn}
theorem nPut_spec(z:WN)(pf:List Nat)(pa:Option Addr)(pc:Nat)(st:WSt)(N:Int)(A:CB st N)(hN:0<=N/\N<=1000000000)(key s:ByteArray)(H:Hp B w0 w (wrL z pf pa pc st++L)):
  Calls Tryz.prog 111 #[.pointer (some ⟨z.xb,0,none⟩),.string key,.string s] w fun e w'=>∃i aa ab,e=.returned (.int .i64 (st.put key s).2)/\Hp B w0 w' (wrL z i aa ab (st.put key s).1++L):=by
 apply nPut.ok;unfold nPut.vc;have ac:=A.len;have a:∀{W:World}{M:List Asn},Hp B w0 W M->Asn.blk z.xb (wrC z) 112∈M->∀{C:World},Eqw W C->Ld Tryz.prog 23 C ⟨z.xb,0,none⟩ (.pointer (some ⟨z.ub,0,none⟩)):=fun H m _ e=>H.ld (o:=0) (cs:=wrC z) e rPT m rfl
 have f:∀{W:World}{M:List Asn}{pa:Option Addr}{n pc:Nat},Hp B w0 W M->Asn.blk z.ub (tbC z pa n pc) 86∈M->∀{C:World},Eqw W C->Ld Tryz.prog 84 C (Addr.add ⟨z.ub,0,none⟩ 3) (.slice pa n pc):=fun{W M pa n pc} H m _ e=>by
  rw[add_lit];exact H.ld (o:=3) (cs:=tbC z pa n pc) e pSl m rfl
 refine AP.mk (fun q t w'=>∃(n:Nat)(pf:List Nat)(pa:Option Addr)(pc:Nat)(P:List Sl.Recs),q=4096-n/\n<=4096/\t=(n:Int)/\n<=P.length/\P.length<=4096/\putF s.data.toList (4096-n) n P=putF s.data.toList 4096 0 st.P/\Hp B w0 w' (wrL z pf pa pc ⟨P,st.Q,st.D⟩++L)) 4096 ⟨0,pf,pa,pc,st.P,rfl,by omega,rfl,Nat.zero_le _,ac,rfl,H⟩ ?_;clear H;rintro q t w1 nx ⟨n,pf,pa,pc,P,rfl,hn,rfl,ae,hP,h,H⟩ af;refine AB (fun h1=>?_) (fun h1=>?_)
 ·have e0:4096-n=0:=by omega
  rw[e0,putF]at h
  have ep:st.put key s=(⟨P,st.Q,st.D⟩,94):=by rw[WSt.put,<- h]
  rw[ep];exact⟨pf,pa,pc,rfl,H⟩
 have e1:4096-n=(4096-(n+1))+1:=by omega
 obtain⟨g1,g2,g3⟩:=Yb P n;have g4:=g3 ae
 have g5:(Fz P n).length<=4096:=by
  rw[Fz];split
  ·simp;omega
  ·omega
 rw[e1,putF]at h;obtain⟨c,l⟩:∃c,c=Fz P n:=⟨_,rfl⟩;rw[<- l]at h g1 g4 g5;refine Am.mk (fun _ w'=>∃pf pa pc,Hp B w0 w' (wrL z pf pa pc ⟨c,st.Q,st.D⟩++L)) ?_ ?_
 ·rintro _ w2 ⟨pf,pa,pc,H⟩
  obtain⟨R,hR⟩:∃R,c[n]? =some R:=⟨_,List.getElem?_eq_getElem g4⟩
  have ag:Cm c n=R:=by rw[Cm,hR];rfl
  rw[ag]at h;obtain⟨b,g,X,ad,ah,F,G,j,d⟩:=Jc H hR;refine AA rfl ⟨_,a H m3 EQ4,AA rfl ⟨pa,c.length,pc,f H m4 EQ4,AA ah ⟨⟨by omega,by omega⟩,_,by rw[Int.toNat_natCast];exact F _ EQ4,?_⟩⟩⟩;have k:=Sl.insert_any G (j.blk (.head _)) s.data.toList;rw[show sv s.data.toList=Value.string s from congrArg Value.string (Kr s)]at k;refine AC k ?_;rintro _ w3 ⟨rfl,g',r,u⟩;have U:=j.Ba u;obtain⟨i,x⟩:=d _ _ _ _ r U;clear H j u U d F;refine⟨_,_,rfl,AB (fun y=>?_) (fun y=>⟨iR,?_⟩)⟩
  ·rw[if_pos y]at h
   obtain⟨p,K⟩:∃p:Pl,p=((n:Int),(Sl.ains R s.data.toList).2.1):=⟨_,rfl⟩;rw[<- K]at h
   have ep:st.put key s=(⟨c.set n (Sl.ains R s.data.toList).1,gput st.Q key p,touch st.D p⟩,0):=by rw[WSt.put,<- h]
   have al:=A.cnt hN.1 p
   have ev:(Value.agg #[.int .i64 (n:Int),.int .i64 (Sl.ains R s.data.toList).2.1])=Ag p:=by rw[K];rfl
   refine AA rfl ⟨_,a x m3 EQ4,AA rfl ⟨some z.qb,by rw[add_lit];exact x.lo rMSP,?_⟩⟩;simp only[ev];refine Hp.mupS VK x.Ae EQ4 fun w4 Y=>?_;rw[Nl]at Y;refine AA rfl ⟨some z.db,by rw[add_lit];exact Y.lo hMPI,cnt st.D p,Y.lkP Ux EQ4 m2 (PU st.D p),iR,?_⟩;refine Hp.menP Ux Y.BD EQ4 (PU st.D p) fun w5 H9=>?_;rw[Rf]at H9;rw[ep];refine⟨i,pa,pc,rfl,H9.perm ?_⟩;refine AL fun ff gg h0 hc ha ak=>?_;simp only[wrL,length_set,ha,hc,h0,append_eq,nil_append,cons_append];omega
  ·rw[if_neg y]at h
   rw[ains_bad y]at x
   have es:c.set n R=c:=by
    obtain⟨hl,he⟩:=List.getElem?_eq_some_iff.1 hR;rw[<- he];exact List.set_getElem_self hl
   rw[es]at x;refine af (4096-(n+1)) _ _ (by omega) ⟨n+1,i,pa,pc,c,rfl,by omega,rfl,by omega,g5,h,x⟩
 ·intro J hJ
  refine AA rfl ⟨_,a H m3 EQ4,AA rfl ⟨pa,P.length,pc,f H m4 EQ4,AB (fun y=>?_) (fun y=>hJ _ _ ⟨pf,pa,pc,?_⟩)⟩⟩
  ·have Z:c=P++[[]]:=by rw[l,Fz,if_pos (by omega)]
   refine AA rfl ⟨_,a H m3 EQ4,AA rfl ⟨_,a H m3 EQ4,AA rfl ⟨pa,P.length,pc,f H m4 EQ4,?_⟩⟩⟩;refine AC (Sl.new_any _) ?_;rintro _ w2 ⟨nb,rfl,H2⟩;have O:=H.drew.ext1 H2;clear H H2;refine⟨_,rfl,f O m5 EQ4,a O m4 EQ4,a O m4 EQ4,fun yb w3 T=>?_⟩;have j:=O.nw T;clear O T;refine⟨f j m6 EQ4,a j m5 EQ4,a j m5 EQ4,?_⟩;refine Xi j Sl.dJ (show P.length<=100000 by omega) EQ4 fun a' c' f' w4 u=>?_;rw[<- Z]at u;refine⟨a u m3 EQ4,AA rfl ?_⟩;rw[add_lit];refine Hp.st (o:=0+3) u.Ib EQ4 pSl rfl rfl (by simp[tbC]) (cs':=tbC z a' c.length c') ?_ fun w5 U=>hJ _ _ ⟨f',a',c',U.perm ?_⟩
   ·have:c.length=P.length+1:=by rw[Z];simp
    rw[this];rfl
   ·refine AL fun ff gg h0 hc ha ak=>?_
    simp only[wrL,ha,hc,h0,append_eq,nil_append,cons_append];omega
  ·have Z:c=P:=by rw[l,Fz,if_neg (by omega)]
   rw[Z];exact H
end
end
noncomputable section
open Go Go.Vc Go.Nod
theorem bJ{a:List UInt8}{s:ByteArray}:bts a=s↔a=s.data.toList:=by
 constructor
 ·intro h;rw[<- h];simp[bts]
 ·intro h;rw[h];exact Kr s
theorem jaggR:Agg Tryz.prog 192 1:=Ci (by kernel_rfl)
def WSt.one(R:RM)(st:WSt)(key:ByteArray):WSt×Int:=match gget st.Q key with
 |none=>st.put key ((gget R key).getD none0)
 |some p=>
  if(Sl.lk (Cm st.P p.1.toNat) p.2).getD []=((gget R key).getD none0).data.toList then(st,0)
  else if(Sl.aput (Cm st.P p.1.toNat) p.2 ((gget R key).getD none0).data.toList).2=0 then(⟨st.P.set p.1.toNat (Sl.aput (Cm st.P p.1.toNat) p.2 ((gget R key).getD none0).data.toList).1,st.Q,touch st.D p⟩,0)
  else(WSt.drop ⟨st.P,st.Q,touch st.D p⟩ key).put key ((gget R key).getD none0)
def JR(R:RM):List ByteArray->WSt->WSt
 | [],st=>st
 |k::r,st=>JR R r (if gget R k=none then st.drop k else st)
def layK(R:RM):List ByteArray->WSt->WSt×Int
 | [],st=>(st,0)
 |k::r,st=>if(st.one R k).2≠0 then st.one R k else layK R r (st.one R k).1
def Jt(R:RM)(st:WSt):WSt×Int:=layK R (Eh (R.map (·.1))) (JR R (Eh (st.Q.map (·.1))) st)
theorem CB.mono{st:WSt}{N M:Int}(h:CB st N)(b:N<=M):CB st M:=⟨h.len,h.q,h.qn,h.key,fun e a=>by
 have:=h.d e a
 exact⟨this.1,by omega,this.2.2⟩,h.dn⟩
theorem CB.one{st:WSt}{N:Int}(h:CB st N)(a:0<=N)(R:RM){key:ByteArray}(b:key.size<=6):CB (st.one R key).1 (N+3):=by
 rw[WSt.one]
 cases e:gget st.Q key with
 |none=>exact(h.put a b _).mono (by omega)
 |some p=>
  have c:=h.q _ (ML e);dsimp only;split
  ·exact h.mono (by omega)
  ·have d:=h.touch a c
   split
   ·have f:=(h.pages (P:=st.P.set p.1.toNat (Sl.aput (Cm st.P p.1.toNat) p.2 ((gget R key).getD none0).data.toList).1) (by rw[length_set];exact Nat.le_refl _) (by rw[length_set];exact h.len)).touch a (p:=p) (by rw[length_set];exact c)
    exact f.mono (by omega)
   ·exact((d.drop (by omega) (key:=key) (p:=p) e).put (by omega) b _).mono (by omega)
theorem VM{st:WSt}{key x:ByteArray}(hn:(st.Q.map (·.1)).Nodup)(c:x≠key)(h:x∈st.Q.map (·.1)):x∈(st.drop key).Q.map (·.1):=by
 refine Classical.byContradiction fun a=>?_;have b:=Ec.2 a;rw[show(st.drop key).Q=gdel st.Q key from rfl,Td _ _ _ hn,if_neg c]at b;exact Ec.1 b h
section
variable{B:List Nat}{w0 w:World}{L:List Asn}
theorem Ql(z:WN)(pf:List Nat)(pa:Option Addr)(pc:Nat)(st:WSt)(ap:CB st 0)(mb:Nat)(R:RM)(bl:(R.map (·.1)).Nodup)(a9:∀e∈R,e.1.size<=6)(cb:R.length<=1000000)(cc:st.Q.length<=1000000)(H:Hp B w0 w (wrL z pf pa pc st++(.smap mb (gC rwV R)::L))):
  Calls Tryz.prog 59 #[.pointer (some ⟨z.xb,0,none⟩),.map (some mb)] w fun e w'=>∃ag aq ar,e=.returned (.int .i64 (Jt R st).2)/\Hp B w0 w' (wrL z ag aq ar (Jt R st).1++(.smap mb (gC rwV R)::L)):=by
 apply nWrite.ok;unfold nWrite.vc;have av:∀{W:World}{M:List Asn},Hp B w0 W M->Asn.blk z.xb (wrC z) 112∈M->∀{W':World},Eqw W W'->Ld Tryz.prog 23 W' ⟨z.xb,0,none⟩ (.pointer (some ⟨z.ub,0,none⟩)):=fun H m _ e=>H.ld (o:=0) (cs:=wrC z) e rPT m rfl
 have ba:∀{W:World}{M:List Asn}{pa:Option Addr}{n pc:Nat},Hp B w0 W M->Asn.blk z.ub (tbC z pa n pc) 86∈M->∀{W':World},Eqw W W'->Ld Tryz.prog 84 W' (Addr.add ⟨z.ub,0,none⟩ 3) (.slice pa n pc):=fun{W M pa n pc} H m _ e=>by
  rw[add_lit];exact H.ld (o:=3) (cs:=tbC z pa n pc) e pSl m rfl
 have bb:∀{W:World}{M:List Asn}{pa:Option Addr}{n pc:Nat},Hp B w0 W M->Asn.blk z.ub (tbC z pa n pc) 86∈M->∀{W':World},Eqw W W'->Ld Tryz.prog 83 W' (Addr.add ⟨z.ub,0,none⟩ 4) (.map (some z.qb)):=fun{W M pa n pc} H m _ e=>by
  rw[add_lit];exact H.ld (o:=4) (cs:=tbC z pa n pc) e rMSP m rfl
 have ac:∀(aw:ByteArray),(aget (gC rwV R) aw).getD (.agg #[.string ⟨#[]⟩])=.agg #[.string ((gget R aw).getD none0)]:=fun aw=>by
  rw[LQ];cases gget R aw<;>rfl
 have bc:∀{K:List ByteArray},(∀x∈K,x.size<=6)->∀x∈Eh K,x.size<=maxLen:=fun h x O=>by
  have:=h x (FW.1 O);simp only[maxLen];omega
 refine AA rfl ⟨_,av H m3 EQ4,AA rfl ⟨some z.qb,bb H m4 EQ4,AC (keysP_spec (some z.qb) w) ?_⟩⟩;rintro _ w1 ⟨q,rfl,H1⟩;have U:=H.ext1 H1;clear H H1;obtain⟨K,hK⟩:∃K,K=Eh (st.Q.map (·.1)):=⟨_,rfl⟩
 have cd:K.length=st.Q.length:=by rw[hK,JZ,length_map]
 have bm:K.Nodup:=by rw[hK];exact(Dy _).nodup_iff.2 ap.qn
 refine⟨_,rfl,AC (sortedP_spec q z.qb (gC Ag st.Q) w1 (U.blk (.head _)) (U.ok _ m2) K (by rw[Q7,hK];exact Dy _) (by rw[hK];exact IL ap.qn) (by rw[hK];exact bc fun x O=>by obtain⟨e,he,rfl⟩:=mem_map.1 O;exact ap.key e he) (by rw[eH];omega)) ?_⟩;rintro _ w2 ⟨ka,kc,rfl,T⟩;have H4:=U.ext1 T;clear U T
 have bo:Jt R st=layK R (Eh (R.map (·.1))) (JR R K st):=by rw[hK];rfl
 rw[bo];refine⟨_,_,_,rfl,AP.mk (fun m t w'=>∃(j:Nat)(pf:List Nat)(pa:Option Addr)(pc:Nat)(C:WSt)(X:List Asn),m=K.length-j/\j<=K.length/\t=(j:Int)/\CB C j/\JR R (K.drop j) C=JR R K st/\(∀x∈K.drop j,x∈C.Q.map (·.1))/\Hp B w0 w' (wrL z pf pa pc C++(.own 9 1 ka K.length kc (K.map .string)::.smap mb (gC rwV R)::(L++X)))) K.length ⟨0,pf,pa,pc,st,[.blk q [.map (some z.qb)] 83],rfl,by omega,rfl,ap,by simp,fun x O=>by rw[drop_zero,hK]at O;exact FW.1 O,H4.perm ?_⟩ ?_⟩
 ·refine AL fun ff gg Y F ha aa=>?_
  simp only[wrL,ha,F,Y,append_eq,nil_append,cons_append];omega
 clear H4;rintro m t w3 nx ⟨j,pf,pa,pc,G,X,rfl,hj,rfl,l,A,ak,H⟩ ah;refine AB (fun h1=>?_) (fun h1=>?_)
 ·have r:j<K.length:=by omega
  obtain⟨x,al⟩:∃x,x=K[j]:=⟨_,rfl⟩
  have O:K[j]? =some x:=by rw[al];exact List.getElem?_eq_getElem r
  have am:K.drop j=x::K.drop (j+1):=by rw[al];exact drop_eq_getElem_cons r
  rw[am,JR]at A;rw[am]at ak
  have bp:x∉K.drop (j+1):=by
   have:=bm.sublist (List.drop_sublist j K);rw[am,nodup_cons]at this;exact this.1
  obtain⟨ad,a3,a4⟩:=H.ldO (w':=w3) (o:=j) EQ4 yStr m5 (show(K.map Value.string)[j]? =some (.string x) by rw[List.getElem?_map,O];rfl);refine AA a3 ⟨⟨by omega,h1⟩,x,by rw[Int.toNat_natCast,Nat.mul_one];exact a4,_,_,H.Wl YO EQ4 m6 (ac x) rfl,fun yb w4 bd=>?_⟩;have U:=H.nw bd;refine Hp.sA U jaggR (cs':=[.string ((gget R x).getD none0)]) fun w5 T=>?_;have H5:=T.drop;clear H U T bd
  have a5:(aget (gC rwV R) x).isSome=(gget R x).isSome:=by rw[LQ,Option.isSome_map]
  rw[a5];refine Gp (fun h2=>?_) (fun h2=>⟨iR,ah (K.length-(j+1)) _ _ (by omega) ⟨j+1,pf,pa,pc,G,X,rfl,by omega,rfl,l.mono (by omega),?_,fun y hy=>ak y (.tail _ hy),H5⟩⟩)
  ·have ab:gget R x=none:=by
    cases e:gget R x with
    |none=>rfl
    |some v=>rw[e]at h2;cases h2
   rw[if_pos ab]at A;obtain⟨p,hp⟩:∃p,gget G.Q x=some p:=Option.ne_none_iff_exists'.1 fun e=>Ec.1 e (ak x (.head _));refine AC (TW z pf pa pc G j l (by omega) x p hp H5) ?_;rintro _ w6 ⟨rfl,ag,H6⟩;refine⟨rfl,iR,ah (K.length-(j+1)) _ _ (by omega) ⟨j+1,ag,pa,pc,G.drop x,X,rfl,by omega,rfl,?_,A,fun y hy=>VM l.qn (fun e=>bp (e▸hy)) (ak y (.tail _ hy)),?_⟩⟩
   ·have:=l.drop (by omega) hp
    exact this.mono (by omega)
   ·exact H6
  ·have k:gget R x≠none:=fun e=>by rw[e]at h2;cases h2
   rw[if_neg k]at A;exact A
 clear ah ak
 have r:j=K.length:=by omega
 rw[r,drop_length,JR]at A;rw[<- A];rw[r]at l;refine AC (keysR_spec (some mb) w3) ?_;rintro _ w4 ⟨q2,rfl,H1⟩;have U:=H.ext1 H1;clear H H1 A;obtain⟨M,hM⟩:∃M,M=Eh (R.map (·.1)):=⟨_,rfl⟩
 have ce:M.length=R.length:=by rw[hM,JZ,length_map]
 refine⟨_,rfl,AC (sortedR_spec q2 mb (gC rwV R) w4 (U.blk (.head _)) (U.ok _ m7) M (by rw[Q7,hM];exact Dy _) (by rw[hM];exact IL bl) (by rw[hM];exact bc fun x O=>by obtain⟨e,he,rfl⟩:=mem_map.1 O;exact a9 e he) (by rw[eH];omega)) ?_⟩;rintro _ w5 ⟨ma,mc,rfl,T⟩;have H4:=U.ext1 T;clear U T;rw[<- hM]
 have bq:∀x∈M,x.size<=6:=fun x O=>by
  rw[hM,FW]at O;obtain⟨e,he,rfl⟩:=mem_map.1 O;exact a9 e he
 obtain⟨N0,bv⟩:∃N0:Int,N0=(K.length:Int):=⟨_,rfl⟩;rw[<- bv]at l;refine⟨_,_,_,rfl,AP.mk (fun m t w'=>∃(j:Nat)(pf:List Nat)(pa:Option Addr)(pc:Nat)(C:WSt)(X:List Asn),m=M.length-j/\j<=M.length/\t=(j:Int)/\CB C (N0+3*j)/\layK R (M.drop j) C=layK R M G/\Hp B w0 w' (wrL z pf pa pc C++(.smap mb (gC rwV R)::.own 9 1 ma M.length mc (M.map .string)::(L++X)))) M.length ⟨0,pf,pa,pc,G,.own 9 1 ka K.length kc (K.map .string)::.blk q2 [.map (some mb)] 114::X,rfl,by omega,rfl,l.mono (by omega),by simp,H4.perm ?_⟩ ?_⟩
 ·refine AL fun ff gg Y F ha aa=>?_
  simp only[wrL,ha,F,Y,append_eq,nil_append,cons_append];omega
 clear H4 l;rintro m t w6 nx ⟨j,pf,pa,pc,a,X,rfl,hj,rfl,u,A,H⟩ ah;refine AB (fun h1=>?_) (fun h1=>?_);rotate_left
 ·have r:j=M.length:=by omega
  rw[r,drop_length,layK]at A;rw[<- A]
  exact⟨pf,pa,pc,rfl,Hp.BP (R:=.own 9 1 ma M.length mc (M.map .string)::X) (H.perm (by
   refine AL fun ff gg Y F ha aa=>?_
   simp only[ha,F,Y,append_eq,nil_append,cons_append];omega))⟩
 have r:j<M.length:=by omega
 obtain⟨x,al⟩:∃x,x=M[j]:=⟨_,rfl⟩
 have O:M[j]? =some x:=by rw[al];exact List.getElem?_eq_getElem r
 have am:M.drop j=x::M.drop (j+1):=by rw[al];exact drop_eq_getElem_cons r
 rw[am,layK]at A;have bw:=bq x (mem_of_getElem? O);have a1:=u.one (by omega) R bw;obtain⟨s,hs⟩:∃s,s=(gget R x).getD none0:=⟨_,rfl⟩;obtain⟨ad,a3,a4⟩:=H.ldO (w':=w6) (o:=j) EQ4 yStr m6 (show(M.map Value.string)[j]? =some (.string x) by rw[List.getElem?_map,O];rfl);refine AA a3 ⟨⟨by omega,h1⟩,x,by rw[Int.toNat_natCast,Nat.mul_one];exact a4,?_⟩
 have go:∀{W:World}{pf pa pc}{f:WSt},a.one R x=(f,0)->Hp B w0 W (wrL z pf pa pc f++(.smap mb (gC rwV R)::.own 9 1 ma M.length mc (M.map .string)::(L++X)))->inR .i64 ((j:Int)+1)/\nx ((j:Int)+1) W:=fun{W pf pa pc f} he T=>by
  rw[he]at A a1;rw[if_neg (by simp)]at A;exact⟨iR,ah (M.length-(j+1)) _ _ (by omega) ⟨j+1,pf,pa,pc,f,X,rfl,by omega,rfl,a1.mono (by omega),A,T⟩⟩
 have bx:∀{W:World}{pf pa pc}{f:WSt}{c:Int},a.one R x=(f,c)->c≠0->Hp B w0 W (wrL z pf pa pc f++(.smap mb (gC rwV R)::.own 9 1 ma M.length mc (M.map .string)::(L++X)))->∃ag aq ar,Ending.returned (.int .i64 c)=.returned (.int .i64 (layK R M G).2)/\Hp B w0 W (wrL z ag aq ar (layK R M G).1++(.smap mb (gC rwV R)::L)):=fun{W pf pa pc f c} he F T=>by
  rw[he]at A;rw[if_pos F]at A;rw[<- A]
  exact⟨pf,pa,pc,rfl,Hp.BP (R:=.own 9 1 ma M.length mc (M.map .string)::X) (T.perm (by
   refine AL fun ff gg Y F ha aa=>?_
   simp only[ha,F,Y,append_eq,nil_append,cons_append];omega))⟩
 clear A ah;refine AA rfl ⟨_,av H m3 EQ4,AA rfl ⟨some z.qb,bb H m4 EQ4,_,_,_,H.Wl VK EQ4 m1 ZW rfl,fun yb w7 bh=>?_⟩⟩;obtain⟨p,hp⟩:∃p,p=(gget a.Q x).getD (0,0):=⟨_,rfl⟩;rw[<- hp]
 have a5:(aget (gC Ag a.Q) x).isSome=(gget a.Q x).isSome:=by rw[LQ,Option.isSome_map]
 rw[a5];have U:=H.nw bh;refine Hp.sA U hagg (cs':=[.int .i64 p.1,.int .i64 p.2]) fun w8 T=>?_;clear H U bh;refine Am.mk (fun _ w'=>∃pf pa pc f,CB f (N0+3*j+2)/\f.put x s=a.one R x/\Hp B w0 w' (wrL z pf pa pc f++(.smap mb (gC rwV R)::.own 9 1 ma M.length mc (M.map .string)::(L++X)))) ?_ ?_
 ·rintro _ w9 ⟨pf,pa,pc,f,ae,an,H4⟩
  refine⟨s,by rw[hs];exact H4.lkS YO EQ4 m5 (ac x),AC (nPut_spec z pf pa pc f _ ae (by omega) x s H4) ?_⟩;rintro _ bi ⟨ag,aq,ar,rfl,H5⟩;obtain⟨o,ho⟩:∃o,o=f.put x s:=⟨_,rfl⟩;rw[<- ho]at an H5;obtain⟨cf,c4⟩:=o;refine⟨_,rfl,?_⟩;rw[<- ho];refine AV (fun h2=>bx an.symm h2 H5) (fun h2=>?_);have b0:c4=0:=h2;subst b0;exact go an.symm H5
 ·intro J hJ
  refine F6 (fun h2=>?_) (fun h2=>?_);rotate_left
  ·have ab:gget a.Q x=none:=by
    cases e:gget a.Q x with
    |none=>rfl
    |some v=>rw[e]at h2;cases h2
   exact hJ _ _ ⟨pf,pa,pc,a,u.mono (by omega),by rw[WSt.one,ab,hs],T.drop⟩
  have k:gget a.Q x=some p:=by
   cases e:gget a.Q x with
   |none=>rw[e]at h2;cases h2
   |some v=>rw[hp,e];rfl
  have hq:0<=p.1/\p.1<a.P.length/\0<=p.2/\p.2<120:=u.q _ (ML k)
  have d:a.one R x=if(Sl.lk (Cm a.P p.1.toNat) p.2).getD []=s.data.toList then(a,0)else if(Sl.aput (Cm a.P p.1.toNat) p.2 s.data.toList).2=0 then(⟨a.P.set p.1.toNat (Sl.aput (Cm a.P p.1.toNat) p.2 s.data.toList).1,a.Q,touch a.D p⟩,0)else(WSt.drop ⟨a.P,a.Q,touch a.D p⟩ x).put x s:=by
   rw[WSt.one,k,hs]
  obtain⟨n,hn⟩:∃n:Nat,p.1=(n:Int):=⟨p.1.toNat,by omega⟩
  have b1:n<a.P.length:=by omega
  have b9:=u.len;obtain⟨Rc,a0⟩:∃Rc,a.P[n]? =some Rc:=⟨_,List.getElem?_eq_getElem b1⟩
  have b2:Cm a.P p.1.toNat=Rc:=by rw[hn,Int.toNat_natCast,Cm,a0];rfl
  rw[b2]at d
  have H4:Hp B w0 w8 (pgsA pf pa pc a.P::(.smap z.qb (gC Ag a.Q)::IA z.db (dC a.D)::.blk z.xb (wrC z) 112::.blk z.ub (tbC z pa a.P.length pc) 86::.smap mb (gC rwV R)::.blk yb [.int .i64 p.1,.int .i64 p.2] 101::.own 9 1 ma M.length mc (M.map .string)::(L++X))):=T.perm (by
   refine AL fun ff gg Y F ha aa=>?_
   simp only[wrL,ha,F,Y,append_eq,nil_append,cons_append];omega)
  clear T;obtain⟨b,g,Z,b3,ao,N,af,H5,i⟩:=Jc H4.drew a0;clear H4;have mY:∀{x:Asn}{M:List Asn},x∈M->x∈Sl.pgA b g::Z::M:=fun h=>.tail _ (.tail _ h);refine AA rfl ⟨_,av H5 (mY m2) EQ4,AA rfl ⟨pa,a.P.length,pc,ba H5 (mY m3) EQ4,p.1,H5.ld (o:=0) (cs:=[.int .i64 p.1,.int .i64 p.2]) EQ4 yInt (mY m5) rfl,AA ao ⟨⟨by omega,by omega⟩,_,by rw[hn,Int.toNat_natCast];exact N _ EQ4,p.2,H5.ld (o:=1) (cs:=[.int .i64 p.1,.int .i64 p.2]) EQ4 yInt (mY m5) rfl,?_⟩⟩⟩;refine AC (Sl.get_any af (H5.blk (.head _)) p.2) ?_;rintro _ w9 ⟨rfl,H6⟩;obtain⟨b4,H7⟩:=i _ _ _ _ af (H5.ext0 H6);clear H5 H6 i N
  have a2:a.P.set n Rc=a.P:=by
   obtain⟨hl,he⟩:=List.getElem?_eq_some_iff.1 a0;rw[<- he];exact List.set_getElem_self hl
  rw[a2]at H7;refine⟨_,_,rfl,s,by rw[hs];exact H7.lkS YO EQ4 m5 (ac x),AB (fun h3=>?_) (fun h3=>?_)⟩
  ·rw[if_pos (bJ.1 h3)]at d
   exact go d (pf:=b4) (pa:=pa) (pc:=pc) (Hp.BP (R:=[.blk yb [.int .i64 p.1,.int .i64 p.2] 101]) (H7.perm (by
    refine AL fun ff gg Y F ha aa=>?_
    simp only[wrL,ha,F,Y,append_eq,nil_append,cons_append];omega)))
  rw[if_neg fun e=>h3 (bJ.2 e)]at d;have ca:=u.cnt (by omega) p;refine AA rfl ⟨some z.db,by rw[add_lit];exact H7.lo hMPI,p.1,p.2,H7.loA hagg,cnt a.D p,H7.lkP Ux EQ4 m2 (PU a.D p),iR,?_⟩;refine Hp.menP Ux H7.BD EQ4 (PU a.D p) fun bi H8=>?_;rw[Rf]at H8;clear H7;obtain⟨b,g,Z,b3,ao,N,af,H9,i⟩:=Jc (H8.Ae).drew a0;clear H8;have mY:∀{x:Asn}{M:List Asn},x∈M->x∈Sl.pgA b g::Z::M:=fun h=>.tail _ (.tail _ h);refine AA rfl ⟨_,av H9 (mY m2) EQ4,AA rfl ⟨pa,a.P.length,pc,ba H9 (mY m3) EQ4,p.1,H9.ld (o:=0) (cs:=[.int .i64 p.1,.int .i64 p.2]) EQ4 yInt (mY m5) rfl,AA ao ⟨⟨by omega,by omega⟩,_,by rw[hn,Int.toNat_natCast];exact N _ EQ4,p.2,H9.ld (o:=1) (cs:=[.int .i64 p.1,.int .i64 p.2]) EQ4 yInt (mY m5) rfl,s,by rw[hs];exact H9.lkS YO EQ4 (mY m4) (ac x),?_⟩⟩⟩;have bj:=Sl.TM b g Rc 0 af p.2 s.data.toList bi.drew (H9.blk (.head _));rw[show sv s.data.toList=Value.string s from congrArg Value.string (Kr s)]at bj;refine AC bj ?_;rintro _ b5 ⟨rfl,g',a6,bk⟩;obtain⟨a7,a8⟩:=i _ _ _ _ a6 (H9.Ba bk);clear H9 bk i N;refine⟨_,rfl,AB (fun h4=>?_) (fun h4=>?_)⟩
  ·rw[if_pos h4,hn,Int.toNat_natCast]at d
   refine go d (pf:=a7) (pa:=pa) (pc:=pc) (Hp.BP (R:=[.blk yb [.int .i64 p.1,.int .i64 p.2] 101]) (a8.perm ?_));refine AL fun ff gg Y F ha aa=>?_;simp only[wrL,length_set,ha,F,Y,append_eq,nil_append,cons_append];omega
  ·rw[if_neg h4]at d
   have e3:(Sl.aput Rc p.2 s.data.toList).1=Rc:=Sl.Xw h4;rw[e3,a2]at a8;have ae:=u.touch (by omega) hq
   have b6:Hp B w0 b5 (wrL z a7 pa pc ⟨a.P,a.Q,touch a.D p⟩++(.smap mb (gC rwV R)::.own 9 1 ma M.length mc (M.map .string)::(L++X))):=Hp.BP (R:=[.blk yb [.int .i64 p.1,.int .i64 p.2] 101]) (a8.perm (by
    refine AL fun ff gg Y F ha aa=>?_
    simp only[wrL,ha,F,Y,append_eq,nil_append,cons_append];omega))
   refine AC (TW z a7 pa pc ⟨a.P,a.Q,touch a.D p⟩ _ ae (by omega) x p k b6) ?_;rintro _ cg ⟨rfl,b7,b8⟩;exact⟨rfl,hJ _ _ ⟨b7,pa,pc,_,(ae.drop (by omega) (key:=x) (p:=p) k).mono (by omega),d.symm,b8⟩⟩
end
end
noncomputable section
open Go Go.Vc Go.Nod
structure Tab where
 T:Tr
 S:SM
 W:List ByteArray
 P:List Sl.Recs
 Q:QM
structure Vr(X:Tab):Prop where
 st:CB ⟨X.P,X.Q,[]⟩ 0
 ql:X.Q.length<=500000
def tab0:Tab:=⟨⟨[],1⟩,[],[],[],[]⟩
theorem tab0_ok:Vr tab0:=⟨⟨Nat.zero_le _,fun e h=>(by cases h),.nil,fun e h=>(by cases h),fun e h=>(by cases h),.nil⟩,Nat.zero_le _⟩
def tabL(z:WN)(pa:Option Addr)(pc:Nat)(pf tf wf:List Nat)(X:Tab):List Asn:=
 [.blk z.ub (tbC z pa X.P.length pc) 86,AU tf z.tb X.T,.imap z.sb .i64 (smC X.S),Aj wf z.wb X.W,pgsA pf pa pc X.P,.smap z.qb (gC Ag X.Q)]
def tabQ(b:Nat)(X:Tab)(L:List Asn):Prop:=∃(z:WN)(pa:Option Addr)(pc:Nat)(pf tf wf:List Nat),z.ub=b/\Vr X/\L=tabL z pa pc pf tf wf X
def tabA(f:List Nat)(b:Nat)(X:Tab):Asn:=pkA f (tabQ b X)
theorem lagg:Agg Tryz.prog 86 5:=Ci (by kernel_rfl)
theorem tab_ok{f:List Nat}{b:Nat}{X:Tab}{w:World}(h:(tabA f b X).ok w):Vr X:=by
 obtain⟨L,⟨z,c,d,e,g,i,_,a,_⟩,_⟩:=EP h;exact a
theorem PT(w:World):Calls Tryz.prog 10 #[] w fun e w'=>∃b f,e=.returned (.pointer (some ⟨b,0,none⟩))/\Hp [] w w' [tabA f b tab0]:=by
 apply nNew.ok;unfold nNew.vc
 refine AC (WS w) ?_
 rintro _ w1 ⟨tb,tf,rfl,H1⟩
 refine⟨_,rfl,fun sb w2 hn2=>?_⟩
 have H2:=H1.newI EQ4 .i64 hn2
 refine AC (Vm w2) ?_
 rintro _ w3 ⟨wb,wf,rfl,H3⟩
 have H4:=H2.ext1 H3
 refine⟨_,rfl,fun qb w4 hn4 b w5 hn5=>?_⟩
 have H5:=(H4.newS EQ4 hn4).new (cs:=[.pointer (some ⟨tb,0,none⟩),.map (some sb),.pointer (some ⟨wb,0,none⟩),.slice none 0 0,.map (some qb)]) EQ4 hn5
 obtain⟨pf,H6⟩:=Zj H5
 have H7:Hp [] w w5 (tabL ⟨0,0,b,tb,sb,wb,qb⟩ none 0 pf tf wf tab0++[]):=H6.perm (by
  refine AL fun ff gg h0 hc ha hpm=>?_
  have e1:smC tab0.S=[]:=rfl
  have e2:gC Ag tab0.Q=[]:=rfl
  have e3:tab0.P=[]:=rfl
  have e4:tab0.T=⟨[],1⟩:=rfl
  have e5:tab0.W=[]:=rfl
  simp only[tabL,tbC,e1,e2,e3,e4,e5,length_nil,ha,hc,h0,append_eq,nil_append,cons_append];omega)
 obtain⟨f,H8⟩:=H7.DJ (Q:=tabQ b tab0) ⟨⟨0,0,b,tb,sb,wb,qb⟩,none,0,pf,tf,wf,rfl,tab0_ok,rfl⟩
 exact⟨b,f,rfl,H8⟩
section
variable{f:List Nat}{b:Nat}{X:Tab}{w:World}
theorem nClone_spec(h:(tabA f b X).ok w):Calls Tryz.prog 18 #[.pointer (some ⟨b,0,none⟩)] w fun e w'=>∃f1 f2 b',e=.returned (.pointer (some ⟨b',0,none⟩))/\Hp f w w' [tabA f1 b X,tabA f2 b' X]:=by
 apply nClone.ok;unfold nClone.vc;have H0:Hp f w w [tabA f b X]:=Be h;obtain⟨M,⟨z,C,D,pf,tf,wf,rfl,ae,rfl⟩,H,_⟩:=H0.unpack;clear H0;rw[append_nil]at H;have ba:X.P.length<=4096:=ae.st.len
 have d:∀{W:World}{M:List Asn}{j:Nat}{t:TypeId}{v:Value},Hp f w W M->Asn.blk z.ub (tbC z C X.P.length D) 86∈M->Scl Tryz.prog t->(tbC z C X.P.length D)[j]? =some v->∀{W':World},Eqw W W'->Ld Tryz.prog t W' (Addr.add ⟨z.ub,0,none⟩ j) v:=fun{W M j t v} H m S hj _ e=>by
  rw[add_lit,Nat.zero_add];exact H.ld (o:=j) (cs:=tbC z C X.P.length D) e S m hj
 refine AA rfl ⟨_,H.lo nPT,AA rfl ⟨_,d H (.head _) rMIS rfl EQ4,AA rfl ⟨_,d H (.head _) rPB rfl EQ4,AA rfl ⟨_,d H (.head _) rMSP rfl EQ4,?_⟩⟩⟩⟩;have H1:=H.drew;clear H;refine AC (QN (H1.ok (AU tf z.tb X.T) m1)) ?_;rintro _ w1 ⟨af,J,ag,rfl,H2⟩;have u:=H1.Ae.use1 H2;clear H1 H2;refine⟨_,rfl,d u m2 rMSP rfl EQ4,d u m2 rPB rfl EQ4,d u m2 rMIS rfl EQ4,?_⟩;refine AC (Kq z.sb (smC X.S) w1 (u.ok (Asn.imap z.sb .i64 (smC X.S)) m3)) ?_;rintro _ w2 ⟨p,rfl,bb,an,ao⟩
 have F:=u.add (a':=.imap p .i64 (smC X.S)) ao an (fun k hk=>by
  have:k=p:=by simpa [Asn.foot]using hk
  omega)
 clear u an ao;refine⟨some p,rfl,d F m3 rMSP rfl EQ4,d F m3 rPB rfl EQ4,?_⟩;refine AC (xClone_spec (F.ok (Aj wf z.wb X.W) m5)) ?_;rintro _ w3 ⟨ah,K,ak,rfl,H5⟩;have N:=(F.dN).use1 H5;clear F H5;refine⟨_,rfl,d N m5 rMSP rfl EQ4,?_⟩;refine AC (lMClonePl_spec z.qb (gC Ag X.Q) w3 (N.ok (Asn.smap z.qb (gC Ag X.Q)) m8)) ?_;rintro _ w4 ⟨q,rfl,bc,ap,aq⟩
 have H7:=N.add (a':=.smap q (gC Ag X.Q)) aq ap (fun k hk=>by
  have:k=q:=by simpa [Asn.foot]using hk
  omega)
 clear N ap aq;refine⟨some q,rfl,fun O w5 ar=>?_⟩;obtain⟨l,r⟩:∃l:WN,l=⟨0,0,O,ag,p,ak,q⟩:=⟨_,rfl⟩;have H8:=H7.new (cs:=tbC l none 0 0) EQ4 (by rw[r];exact ar);obtain⟨i,H9⟩:=Zj H8;clear H7 H8 ar;obtain⟨Y,hY⟩:∃Y:List Asn,Y=[.blk z.ub (tbC z C X.P.length D) 86,AU af z.tb X.T,.imap z.sb .i64 (smC X.S),Aj ah z.wb X.W,.smap z.qb (gC Ag X.Q),AU J ag X.T,.imap p .i64 (smC X.S),Aj K ak X.W,.smap q (gC Ag X.Q)]:=⟨_,rfl⟩
 have x:Hp f w w5 (pgsA pf C D X.P::.blk O (tbC l none 0 0) 86::pgsA i none 0 []::Y):=H9.perm (by
  refine AL fun ff gg U hc ha aa=>?_
  simp only[hY,ha,hc,U,append_eq,nil_append,cons_append];omega)
 clear H9;refine AA rfl ⟨C,X.P.length,D,d x (.tail _ (.tail _ (.tail _ (by rw[hY];exact .head _)))) pSl rfl EQ4,?_⟩;refine AP.mk (fun m s w'=>∃(j:Nat)(pf i:List Nat)(a:Option Addr)(c:Nat)(Z:List Asn),m=X.P.length-j/\j<=X.P.length/\s=(j:Int)/\Hp f w w' (pgsA pf C D X.P::.blk O (tbC l a j c) 86::pgsA i a c (X.P.take j)::(Y++Z))) X.P.length ⟨0,pf,i,none,0,[],rfl,by omega,rfl,by rw[append_nil];exact x⟩ ?_;clear x;rintro m s w6 nx ⟨j,pf,i,a,c,Z,rfl,hj,rfl,H⟩ a3;refine AB (fun h1=>?_) (fun h1=>?_)
 ·have y:j<X.P.length:=by omega
  obtain⟨R,al⟩:∃R,R=X.P[j]:=⟨_,rfl⟩
  have hR:X.P[j]? =some R:=by rw[al];exact List.getElem?_eq_getElem y
  have am:(X.P.take j).length=j:=by rw[length_take];omega
  obtain⟨pb,g,A,ad,a4,av,B,H2,n⟩:=Jc H hR;refine AA a4 ⟨⟨by omega,h1⟩,_,by rw[Int.toNat_natCast];exact av _ EQ4,a,j,c,H.lo pSl,?_⟩;refine AC (Sl.clone_any pb g _ ⟨B.ok,H2.drew.blk (.head _)⟩) ?_;rintro _ w7 ⟨gb,rfl,u⟩;have F:=H2.drew.ext1 u;clear H H2 u
  have H5:Hp f w w7 (Sl.pgA pb g::A::Sl.pgA gb g::.blk O (tbC l a j c) 86::pgsA i a c (X.P.take j)::(Y++Z)):=F.perm (by
   refine AL fun ff gg U hc ha aa=>?_
   simp only[ha,hc,U,append_eq,nil_append,cons_append];omega)
  obtain⟨aw,N⟩:=n _ _ _ _ B H5
  have a0:X.P.set j R=X.P:=by rw[al];exact List.set_getElem_self y
  rw[a0]at N;clear F H5 n av;refine⟨_,rfl,N.lo pSl,fun yb w8 a1=>?_⟩;have H7:=N.nw a1;clear N a1;refine⟨H7.lo pSl,?_⟩
  have H8:Hp f w w8 (.blk yb [.pointer (some ⟨gb,0,none⟩)] 95::Sl.pgA gb g::pgsA i a c (X.P.take j)::.blk O (tbC l a j c) 86::pgsA aw C D X.P::(Y++Z)):=H7.perm (by
   refine AL fun ff gg U hc ha aa=>?_
   simp only[ha,hc,U,append_eq,nil_append,cons_append];omega)
  clear H7;have ab:=Xi (w':=w8) H8 B (by rw[am];omega) EQ4 (G:=fun a' n' c' w1=>∃ac,St Tryz.prog 84 w1 ⟨O,3,none⟩ (.slice a' n' c') ac/\inR .i64 ((j:Int)+1)/\nx ((j:Int)+1) ac) fun a2 c2 f2 w9 H9=>?_
  ·rw[am]at ab;exact ab
  have a5:X.P.take (j+1)=X.P.take j++[R]:=by rw[take_succ_eq_append_getElem y,al]
  rw[<- a5]at H9;refine Hp.st (o:=3) H9.Ae EQ4 pSl rfl rfl (by simp[tbC]) (cs':=tbC l a2 (j+1) c2) (by rw[am];rfl) fun bd x=>⟨iR,a3 (X.P.length-(j+1)) _ _ (by omega) ⟨j+1,aw,f2,a2,c2,Z,rfl,by omega,rfl,x.perm ?_⟩⟩;refine AL fun ff gg U hc ha aa=>?_;simp only[ha,hc,U,append_eq,nil_append,cons_append];omega
 ·have y:j=X.P.length:=by omega
  rw[y,take_length]at H
  have hb:l.ub=O:=by rw[r]
  have a6:l.tb=ag:=by rw[r]
  have a7:l.sb=p:=by rw[r]
  have a8:l.wb=ak:=by rw[r]
  have a9:l.qb=q:=by rw[r]
  have H2:Hp f w w6 (tabL z C D pf af ah X++(tabL l a c i J K X++Z)):=H.perm (by
   refine AL fun ff gg U hc ha aa=>?_
   simp only[tabL,hY,hb,a6,a7,a8,a9,ha,hc,U,append_eq,nil_append,cons_append];omega)
  obtain⟨f1,u⟩:=H2.DJ (Q:=tabQ z.ub X) ⟨z,C,D,pf,af,ah,rfl,ae,rfl⟩;obtain⟨f2,F⟩:=(u.perm List.perm_middle.symm:Hp f w w6 (tabL l a c i J K X++(pkA f1 (tabQ z.ub X)::Z))).DJ (Q:=tabQ O X) ⟨l,a,c,i,J,K,hb,ae,rfl⟩;exact⟨f1,f2,O,rfl,Hp.BP (L:=[_,_]) F.Ae⟩
theorem Js(h:(tabA f b X).ok w):Calls Tryz.prog 22 #[.pointer (some ⟨b,0,none⟩)] w fun e w'=>∃g o j,e=.returned (.pointer (some ⟨j,0,none⟩))/\Hp f w w' [tabA g b X,AU o j X.T]:=by
 apply nTree.ok;unfold nTree.vc;have p:Hp f w w [tabA f b X]:=Be h;obtain⟨M,⟨z,k,l,m,q,n,rfl,i,rfl⟩,H,_⟩:=p.unpack;rw[append_nil]at H;refine AA rfl ⟨_,H.lo nPT,AC (QN (H.ok (AU q z.tb X.T) m1)) ?_⟩;rintro _ r ⟨a,c,d,rfl,s⟩;have t:=H.Ae.use1 s
 have u:Hp f w r (tabL z k l m a n X++[AU c d X.T]):=t.perm (by
  refine AL fun ff D x y A B=>?_
  simp only[tabL,A,y,x,append_eq,nil_append,cons_append];omega)
 obtain⟨g,C⟩:=u.DJ (Q:=tabQ z.ub X) ⟨z,k,l,m,a,n,rfl,i,rfl⟩;exact⟨_,rfl,g,c,d,rfl,C⟩
theorem TE(h:(tabA f b X).ok w)(id:Int):Calls Tryz.prog 27 #[.pointer (some ⟨b,0,none⟩),.int .i64 id] w fun e w'=>e=.returned (.tuple #[spV ((sget X.S id).getD (0,0)),.bool (sget X.S id).isSome])/\Hp [] w w' []:=by
 apply nSpan.ok;unfold nSpan.vc;obtain⟨M,⟨z,m,n,t,u,x,rfl,o,rfl⟩,p,_⟩:=EP h;have c:=Hp.CE p;have q:Blk w z.ub (tbC z m X.P.length n) 86:=c.blk (.head _);have r:MapAt (DF .i64) w z.sb (smC X.S):=c.ok _ m2;clear c;intro A B d;have H:=(Hp.start w).nw d;obtain⟨y,j⟩:∃y:Sp,y=(sget X.S id).getD (0,0):=⟨_,rfl⟩
 have g:(aget (smC X.S) id).getD (.agg #[.int .i64 0,.int .i64 0])=.agg #[.int .i64 y.1,.int .i64 y.2]:=by
  rw[J8,j];cases sget X.S id<;>rfl
 have a:=(Le IZ (r.chg H.chg (by simp)) id).2;rw[g]at a;refine AA rfl ⟨some z.sb,by rw[add_lit];exact(q.chg H.chg (by simp)).ld rMIS.agg rfl,y.1,y.2,_,a,fun C D i=>?_⟩;have s:=H.nw i;refine Hp.sA s EK (cs':=[.int .i64 y.1,.int .i64 y.2]) fun F k=>?_;refine⟨y.1,y.2,k.loA EK,?_⟩;refine Hp.sA k.Ae EK (cs':=[.int .i64 y.1,.int .i64 y.2]) fun G l=>?_;refine⟨y.1,y.2,l.loA EK,?_,l.drop.drop⟩;rw[J8,Option.isSome_map,<- j];rfl
end
end
end Go.Proofs.YtljenkbpnioipaaGreat
namespace Go.Nod
theorem Ns(v:Int):∀(A:List Rw)(o:Int),Dx v o A=o\/∃(k:Nat)(r:Rw),A[k]? =some r/\Dx v o A=r.id
 | [],o=>.inl rfl
 |x::A,o=>by
  rw[Dx];split
  ·rcases Ns v A x.id with h|⟨k,r,a,c⟩
   ·exact .inr ⟨0,x,rfl,h⟩
   ·exact .inr ⟨k+1,r,a,c⟩
  ·rcases Ns v A o with h|⟨k,r,a,c⟩
   ·exact .inl h
   ·exact .inr ⟨k+1,r,a,c⟩
theorem parent_in{L:List Rw}{n:Nat}:BG L n=0\/∃(k:Nat)(r:Rw),k<n/\L[k]? =some r/\BG L n=r.id:=by
 rw[BG]
 cases e:L[n]? with
 |none=>exact .inl rfl
 |some r=>
  dsimp only;rcases Ns r.level (L.take n) 0 with h|⟨k,d,a,g⟩
  ·exact .inl h
  ·have c:k<n:=by
    have:=(List.getElem?_eq_some_iff.1 a).1;rw[length_take]at this;omega
   rw[List.getElem?_take_of_lt c]at a;exact .inr ⟨k,d,c,a,g⟩
def Uc(T:Tr)(i:Int):Int:=match atR T.L i with
 |none=>0
 |some (n,_)=>BG T.L n
noncomputable def Py(T:Tr)(top:Int):Nat->Int->Bool
 |0,i=>decide (i=top)
 |f+1,i=>if i=0\/i=top then decide (i=top)else Py T top f (Uc T i)
def rank(T:Tr)(i:Int):Nat:=match atR T.L i with
 |none=>if i=0 then 0 else 1
 |some (n,_)=>n+2
noncomputable def TI(T:Tr)(i top:Int):Bool:=Py T top (T.L.length+2) i
theorem rank_le(T:Tr)(i:Int):rank T i<=T.L.length+1:=by
 rw[rank]
 cases e:atR T.L i with
 |none=>dsimp only;split<;>omega
 |some p=>
  obtain⟨n,r⟩:=p;dsimp only;rw[atR]at e
  cases e2:Fp T.L i with
  |none=>rw[e2]at e;cases e
  |some k=>
   rw[e2]at e;dsimp only at e
   cases e3:T.L[k]? with
   |none=>rw[e3]at e;cases e
   |some a=>
    rw[e3]at e;cases e;have:=(List.getElem?_eq_some_iff.1 e3).1;omega
theorem dV{L:List Rw}{i:Int}{n:Nat}{r:Rw}(h:atR L i=some (n,r)):L[n]? =some r/\r.id=i:=by
 rw[atR]at h
 cases e2:Fp L i with
 |none=>rw[e2]at h;cases h
 |some k=>
  rw[e2]at h;dsimp only at h
  cases e3:L[k]? with
  |none=>rw[e3]at h;cases h
  |some c=>
   rw[e3]at h;cases h;refine⟨e3,?_⟩;rw[Fp]at e2;obtain⟨d,a,_⟩:=List.findIdx?_eq_some_iff_getElem.1 e2;have:=(List.getElem?_eq_some_iff.1 e3).2;rw[this]at a;exact of_decide_eq_true a
theorem BN.rank_par{F:Fo}{T:Tr}(G:BN F T){i:Int}(h:i≠0):rank T (Uc T i)<rank T i:=by
 have c:=G.Rz
 have j:atR T.L 0=none:=by
  cases e:atR T.L 0 with
  |none=>rfl
  |some p=>
   obtain⟨n,r⟩:=p;obtain⟨a,d⟩:=dV e
   have l:r.id∈ids F:=by
    rw[<- BH F 0,G.fl];exact mem_map.2 ⟨r,mem_of_getElem? a,rfl⟩
   have:=(G.pos _ l).1;omega
 have g:rank T 0=0:=by rw[rank,j];rfl
 rw[Uc]
 cases e:atR T.L i with
 |none=>
  dsimp only;rw[g,rank,e];dsimp only;rw[if_neg h];omega
 |some p=>
  obtain⟨n,r⟩:=p;dsimp only
  have m:rank T i=n+2:=by rw[rank,e]
  rw[m];rcases parent_in (L:=T.L) (n:=n)with a|⟨k,r',hk,a,d⟩
  ·rw[a,g];omega
  ·rw[d,rank,Xk c a];dsimp only;omega
theorem Qm(T:Tr)(a:Int):∀(f:Nat)(i:Int),i=0\/i=a->Py T a f i=decide (i=a)
 |0,i,_=>rfl
 |f+1,i,h=>by rw[Py,if_pos h]
end Go.Nod
namespace Go.Proofs.YtljenkbpnioipaaGreat
noncomputable section
open Go Go.Vc Go.Nod
structure Cg where
 page:Int
 slot:Int
 s:ByteArray
 gone:Bool
def cgC(c:Cg):List Value:=[.int .i64 c.page,.int .i64 c.slot,.string c.s,.bool c.gone]
def cgsC(l:List Cg):List Value:=l.flatMap cgC
theorem Wp(l:List Cg)(c:Cg):cgsC (l++[c])=cgsC l++cgC c:=by simp[cgsC]
theorem Zn:∀{l:List Cg}{k:Nat}{p:Cg},l[k]? =some p->((cgsC l).drop (k*4)).take 4=cgC p
 |x::r,0,p,h=>by simp at h;subst h;rfl
 |x::r,k+1,p,h=>by
  rw[List.getElem?_cons_succ]at h;rw[Nat.succ_mul];show((cgC x++cgsC r).drop (k*4+4)).take 4=_;rw[Nat.add_comm,<- drop_drop];exact Zn h
theorem melt:Elt Tryz.prog 39 55 4 40:=CW (by kernel_rfl)
theorem mund:Tryz.prog.underlying 39=some (.slice 55):=by kernel_rfl
theorem magg:Agg Tryz.prog 55 4:=Ci (by kernel_rfl)
def KG(n:Nat)(R:Sl.Recs):List Cg:=R.map fun p=>⟨n,p.1,bts p.2,false⟩
def JY:Nat->List Sl.Recs->List Cg
 |_,[]=>[]
 |n,R::r=>KG n R++JY (n+1) r
def SC(P:List Sl.Recs):List Cg:=JY 0 P
theorem Jy(R:Sl.Recs):∀(P:List Sl.Recs)(n:Nat),JY n (P++[R])=JY n P++KG (n+P.length) R
 | [],n=>by simp[JY]
 |x::r,n=>by
  rw[cons_append,JY,Jy R r (n+1),JY,append_assoc,length_cons,show n+1+r.length=n+(r.length+1) by omega]
theorem rep_len{g:Sl.Pg}{R:Sl.Recs}{st:Nat}(h:Sl.Rep g R st):R.length<=120:=by
 have a:=h.RF;have c:=Sl.TC g g.many;rw[a,length_map]at c;have:=h.ok.many;omega
section
variable{f:List Nat}{b:Nat}{X:Tab}{w:World}
theorem nRows_spec(h:(tabA f b X).ok w):Calls Tryz.prog 17 #[.pointer (some ⟨b,0,none⟩)] w fun e w'=>∃a c,e=.returned (.slice a (SC X.P).length c)/\Hp [] w w' [.own 55 4 a (SC X.P).length c (cgsC (SC X.P))]:=by
 apply nRows.ok;unfold nRows.vc;obtain⟨M,⟨z,G,J,pf,tf,wf,rfl,K,rfl⟩,hs,_⟩:=EP h;have ae:X.P.length<=4096:=K.st.len;have N:=Hp.CE hs;have hb:Blk w z.ub (tbC z G X.P.length J) 86:=N.blk (.head _);have O:(pgsA pf G J X.P).ok w:=N.ok _ m4;clear N;refine AA rfl ⟨G,X.P.length,J,by rw[add_lit];exact hb.ld pSl.agg rfl,?_⟩;refine AP.mk (fun m s w'=>∃(j:Nat)(a:Option Addr)(c:Nat)(A:List Asn),m=X.P.length-j/\j<=X.P.length/\s=((a,(JY 0 (X.P.take j)).length,c),(j:Int))/\(JY 0 (X.P.take j)).length<=120*j/\Hp [] w w' (.own 55 4 a (JY 0 (X.P.take j)).length c (cgsC (JY 0 (X.P.take j)))::A)) X.P.length ⟨0,none,0,[],rfl,by omega,rfl,by simp[JY],(Hp.start w).nilS 55 4⟩ ?_;rintro m s w1 nx ⟨j,a,c,A,rfl,hj,rfl,u,H⟩ T;dsimp only;refine AB (fun h1=>?_) (fun h1=>?_)
 ·have k:j<X.P.length:=by omega
  obtain⟨R,x⟩:∃R,R=X.P[j]:=⟨_,rfl⟩
  have hR:X.P[j]? =some R:=by rw[x];exact List.getElem?_eq_getElem k
  have U:(X.P.take j).length=j:=by rw[length_take];omega
  have r:X.P.take (j+1)=X.P.take j++[R]:=by rw[take_succ_eq_append_getElem k,x]
  obtain⟨pb,g,ad,Y,d,t⟩:=bY O hR;have af:=rep_len d;refine AA Y ⟨⟨by omega,h1⟩,_,by rw[Int.toNat_natCast];exact(t _ H.chg).1,AC (Sl.slots_any d (t _ H.chg).2) ?_⟩;rintro _ w2 ⟨sa,sc,rfl,H2⟩;have Z:=(H.ext1 H2).Ae;clear H H2;refine⟨_,_,_,rfl,?_⟩;obtain⟨l,n⟩:∃l,l=JY 0 (X.P.take j):=⟨_,rfl⟩;rw[<- n]at Z u⊢;refine AP.mk (fun m s w'=>∃(i:Nat)(a:Option Addr)(c:Nat)(A:List Asn),m=R.length-i/\i<=R.length/\s=((a,l.length+i,c),(i:Int))/\Hp [] w w' (.own 55 4 a (l.length+i) c (cgsC (l++KG j (R.take i)))::.own 3 1 sa R.length sc (Sl.intC (R.map (·.1)))::A)) R.length ⟨0,a,c,A,rfl,by omega,rfl,?_⟩ ?_
  ·have e:l++KG j (R.take 0)=l:=by simp[KG]
   rw[e];exact Z
  clear Z;rintro m s w3 ag ⟨i,a,c,A,rfl,hi,rfl,H⟩ y;dsimp only;refine AB (fun h2=>?_) (fun h2=>⟨iR,?_⟩)
  ·have q:i<R.length:=by omega
   obtain⟨p,C⟩:∃p,p=R[i]:=⟨_,rfl⟩
   have hp:R[i]? =some p:=by rw[C];exact List.getElem?_eq_getElem q
   have aa:(Sl.intC (R.map (·.1)))[i]? =some (.int .i64 (p.1:Int)):=by rw[Sl.intC,List.getElem?_map,List.getElem?_map,hp];rfl
   obtain⟨ah,D,F⟩:=H.ldO (w':=w3) (o:=i) EQ4 yInt m1 aa;refine AA D ⟨⟨by omega,h2⟩,_,by rw[Int.toNat_natCast,Nat.mul_one];exact F,AC (Sl.get_any d (t _ H.chg).2 (p.1:Int)) ?_⟩;rintro _ w4 ⟨rfl,H5⟩;have ab:Sl.lk R (p.1:Int)=some p.2:=Sl.lk_some d.sorted (mem_of_getElem? hp);rw[ab];refine⟨bts p.2,true,rfl,fun yb w5 ac=>?_⟩;have H6:=(H.ext0 H5).new (cs:=cgC ⟨j,p.1,bts p.2,false⟩) EQ4 ac;refine Hp.app melt (by omega) H6.Ae EQ4 (Blk.src (P:=Tryz.prog) mund (H6.blk (.head _)) rfl rfl) (by simp only[maxLen];omega) (by omega) ?_;intro a2 c2 w6 H7;refine⟨iR,y (R.length-(i+1)) _ _ (by omega) ⟨i+1,a2,c2,.blk yb (cgC ⟨j,p.1,bts p.2,false⟩) 55::A,rfl,by omega,rfl,?_⟩⟩
   ·have e:l++KG j (R.take (i+1))=(l++KG j (R.take i))++[⟨j,p.1,bts p.2,false⟩]:=by
     rw[take_succ_eq_append_getElem q,<- C,KG,KG,map_append,append_assoc];rfl
    rw[e,Wp];exact H7.perm ((List.Perm.swap _ _ _).cons _)
  ·have q:i=R.length:=by omega
   subst q;rw[take_length]at H;refine T (X.P.length-(j+1)) _ _ (by omega) ⟨j+1,a,c,.own 3 1 sa R.length sc (Sl.intC (R.map (·.1)))::A,rfl,by omega,?_,?_,?_⟩
   ·rw[r,Jy,<- n,length_append,KG,length_map];rfl
   ·rw[r,Jy,<- n,length_append,KG,length_map];omega
   ·rw[r,Jy,<- n,U,Nat.zero_add,length_append,show(KG j R).length=R.length from length_map _]
    exact H
 ·have k:j=X.P.length:=by omega
  rw[k,take_length]at H⊢;exact⟨a,c,rfl,Hp.BP (L:=[_]) H⟩
end
section
variable{B:List Nat}{w0 w:World}{L:List Asn}
theorem nBelow_spec(C u:Nat)(cs:List Value)(G:TypeId)(J:cs[0]? =some (.pointer (some ⟨u,0,none⟩)))(g:List Nat)(T:Tr)(i d:Int)(H:Hp B w0 w (AU g u T::.blk C cs G::L)):
  Calls Tryz.prog 55 #[.pointer (some ⟨C,0,none⟩),.int .i64 i,.int .i64 d] w fun e w'=>∃K,e=.returned (.bool (TI T i d))/\Hp B w0 w' (AU K u T::.blk C cs G::L):=by
 apply nBelow.ok;unfold nBelow.vc
 obtain⟨F,M⟩:∃F,BN F T:=by
  obtain⟨F,_,_,M,_⟩:=FQ (H.ok (AU g u T) (.head _));exact⟨F,M⟩
 have aa:=rank_le T i;refine AP.mk (fun m s w'=>∃(k:Nat)(j:Int)(g:List Nat),m=rank T j/\s=j/\rank T j<=k/\Py T d k j=TI T i d/\Hp B w0 w' (AU g u T::.blk C cs G::L)) (rank T i) ⟨T.L.length+2,i,g,rfl,rfl,by omega,rfl,H⟩ ?_;clear H;rintro m s w1 nx ⟨k,j,g,rfl,rfl,hk,p,H⟩ y;refine AV (fun D=>AV (fun N=>?_) (fun N=>?_)) (fun D=>?_)
 ·have l:=M.rank_par D
  obtain⟨k,rfl⟩:∃k',k=k'+1:=⟨k-1,by omega⟩;rw[Py,if_neg (by rintro(h|h);exact D h;exact N h)]at p;refine AA rfl ⟨_,H.ld (o:=0) (cs:=cs) EQ4 nPT m1 J,AC (Lu (H.ok (AU g u T) (.head _)) s) ?_⟩;rintro _ w2 ⟨z,⟨O,rfl,R⟩|⟨n,r,a,c,Z,O,rfl,h4,R⟩⟩
  ·have U:=H.use1 R
   have q:Uc T s=0:=by rw[Uc,O]
   refine⟨0,0,0,0,⟨#[]⟩,⟨#[]⟩,none,0,0,false,rfl,fun yb w3 t=>?_⟩;have Y:=U.nw t;refine Hp.sA Y KE (cs':=[.int .i64 0,.int .i64 0,.int .i64 0,.int .i64 0,.string ⟨#[]⟩,.string ⟨#[]⟩,.slice none 0 0]) fun w4 A=>?_;refine⟨0,A.lo yInt,?_⟩;rw[q]at l p;exact y (rank T 0) _ _ l ⟨k,0,z,rfl,rfl,by omega,p,A.drop⟩
  ·have U:=H.use1 R
   have q:Uc T s=BG T.L n:=by rw[Uc,O]
   refine⟨s,BG T.L n,r.x.kind,Z,r.x.name,r.x.text,a,r.x.attrs.length,c,true,rfl,fun yb w3 t=>?_⟩;have Y:=U.nw t;refine Hp.sA Y KE (cs':=ndC s (BG T.L n) Z r.x a r.x.attrs.length c) fun w4 A=>?_;refine⟨BG T.L n,A.lo yInt,?_⟩;rw[q]at l p;exact y (rank T (BG T.L n)) _ _ l ⟨k,BG T.L n,z,rfl,rfl,by omega,p,(A.drop.Ae).drop⟩
 ·exact⟨g,by rw[<- p,Qm T d k s (.inr N)],H⟩
 ·exact⟨g,by rw[<- p,Qm T d k s (.inl D)],H⟩
end
end
end Go.Proofs.YtljenkbpnioipaaGreat
namespace Go.Vc
open Go Go.Sort Go.Proofs
theorem BM{α:Type}(enc:α->List Value){k:Nat}(a:∀x,(enc x).length=k)(l:List α):(l.flatMap enc).length=l.length*k:=by
 induction l with
 |nil=>simp
 |cons x r b=>rw[flatMap_cons,length_append,b,a,length_cons,Nat.succ_mul];omega
section
variable{α:Type}[Inhabited α]
theorem flat_get(enc:α->List Value){k:Nat}(a:∀x,(enc x).length=k)(b:0<k):∀(l:List α)(t:Nat),t<l.length*k->(l.flatMap enc)[t]? =some ((enc (l[t/k]!))[t%k]!)
 | [],t,h=>by simp at h
 |x::r,t,h=>by
  rw[flatMap_cons];by_cases d:t<k
  ·rw[List.getElem?_append_left (by rw[a];exact d),Nat.div_eq_of_lt d,Nat.mod_eq_of_lt d]
   have:t<(enc x).length:=by rw[a];exact d
   rw[List.getElem?_eq_getElem this];simp[this]
  ·obtain⟨u,rfl⟩:∃u,t=k+u:=⟨t-k,by omega⟩
   have f:u<r.length*k:=by
    rw[length_cons,Nat.succ_mul]at h;omega
   have i:=flat_get enc a b r u f;rw[List.getElem?_append_right (by rw[a];omega),a,Nat.add_sub_cancel_left,i]
   have j:(k+u)/k=u/k+1:=by rw[Nat.add_div_left _ b]
   have m:(k+u)%k=u%k:=by rw[Nat.add_mod_left]
   rw[j,m];have o:u/k<r.length:=Nat.div_lt_of_lt_mul (by rw[Nat.mul_comm];exact f);simp[o]
theorem VD(enc:α->List Value){k:Nat}(b:∀x,(enc x).length=k)(a:0<k)(l:List α)(t:Nat)(h:t<l.length*k):(l.flatMap enc)[t]? =some (flatK enc k l.toArray)[t]! :=by
 rw[flat_get enc b a l t h,get_flatK enc k _ t (by simpa using h)];simp
variable{B:List Nat}{w0 w:World}{L:List Asn}{e:TypeId}{c n g:Nat}{l:List α}
theorem Hp.sorted(enc:α->List Value){k:Nat}(f:∀x,(enc x).length=k)(o:0<k)(H:Hp B w0 w (.own e k (some ⟨g,0,none⟩) n c (l.flatMap enc)::L))(i:n=l.length):
  HoldsK enc k w g 0 l.toArray/\g<w.heap.size/\∀(m:Nat)(d:Array Obj)(l':List α),l'.length=l.length->Hp B w0 (sortWorldK enc k w g 0 m l'.toArray d) (.own e k (some ⟨g,0,none⟩) n c (l'.flatMap enc)::L):=by
 have X:Own w 0 e k (some ⟨g,0,none⟩) n c (l.flatMap enc):=H.ownA (.head _)
 rcases X.2 with⟨h,_⟩|⟨g',a,A,C,hb,y,O,R,Y,T,Z⟩
 ·cases h
 cases C;have p:=(Array.getElem?_eq_some_iff.1 y).1;have D:n*k<=a.size:=Nat.le_trans (Nat.mul_le_mul_right k R) T;refine⟨fun j z=>?_,p,fun m d l' b=>?_⟩
 ·rw[size_flatK]at z
  have q:j<l.length*k:=by simpa using z
  have U:=VD enc f o l j q;rw[<- Z,List.getElem?_take_of_lt (by rw[i];exact q)]at U
  have F:j<a.size:=by rw[i]at D;omega
  have G:=O j F;obtain⟨f1,f2⟩:=A;refine⟨?_,?_⟩
  ·simp only[Nat.zero_add,World.cell?,y,id]
   simpa using U
  ·simpa [World.frozen?,y,Nat.zero_add]using G
 ·have r:(sortWorldK enc k w g 0 m l'.toArray d).heap[g]? =some (.cells (putCells id 0 (flatK enc k l'.toArray) a) e A):=by
   show((w.heap.modify g (onCells (putCells id 0 (flatK enc k l'.toArray))))++d)[g]? =_;rw[Array.getElem?_append_left (by rw[Array.size_modify];exact p),Array.getElem?_modify,if_pos rfl,y];rfl
  have s:Chg [g] w (sortWorldK enc k w g 0 m l'.toArray d):=by
   refine⟨rfl,rfl,rfl,?_,fun j z J=>?_⟩
   ·show w.heap.size<=((w.heap.modify g (onCells (putCells id 0 (flatK enc k l'.toArray))))++d).size
    rw[Array.size_append,Array.size_modify];omega
   ·show((w.heap.modify g (onCells (putCells id 0 (flatK enc k l'.toArray))))++d)[j]? =_
    rw[Array.getElem?_append_left (by rw[Array.size_modify];exact z),Array.getElem?_modify,if_neg (by intro h;exact J (by simp[h]))]
  have u:(putCells id 0 (flatK enc k l'.toArray) a).size=a.size:=by simp[putCells]
  refine H.set (a':=.own e k (some ⟨g,0,none⟩) n c (l'.flatMap enc)) s ?_ (fun k f=>.inl f);refine⟨by rw[BM enc f,b,i],.inr ⟨g,_,A,rfl,Nat.zero_le _,r,by rw[u];exact O,R,Y,by rw[u];exact T,?_⟩⟩;apply ext_getElem?;intro t;by_cases K:t<n*k
  ·rw[List.getElem?_take_of_lt K,VD enc f o l' t (by rw[b,<- i];exact K)]
   have M:t<a.size:=by omega
   have N:t<(flatK enc k l'.toArray).size:=by rw[size_flatK];simp only[size_toArray];rw[b,<- i];exact K
   rw[putCells];simp only[Array.getElem?_toList,Array.getElem?_mapIdx,Array.getElem?_eq_getElem M,Option.map_some,Nat.zero_add,Nat.zero_le,true_and,Nat.sub_zero,id];rw[if_pos N]
  ·rw[List.getElem?_eq_none (by rw[length_take];omega),List.getElem?_eq_none (by rw[BM enc f,b,<- i];omega)]
theorem Ob{w w1 a:World}{b d:Obj}{b1 f:Nat}(h1:New w b b1 w1)(h:New w1 d f a):a=grow (w.drewN 0) #[b,d]:=by
 obtain⟨rfl,rfl⟩:=h1;obtain⟨rfl,rfl⟩:=h;simp only[World.alloc,grow,World.drewN,Nat.add_zero];congr 1
end
end Go.Vc
namespace Go.Proofs.YtljenkbpnioipaaGreat
noncomputable section
open Go Go.Vc Go.Nod Go.Proofs Go.RowKit Go.Sort Go.Shelf
def getP(P:List Sl.Recs)(p:Pl):Option (List UInt8):=if(P.length:Int)<=p.1 then none else Sl.lk (Cm P p.1.toNat) p.2
def getB(P:List Sl.Recs)(p:Pl):ByteArray:=bts ((getP P p).getD [])
theorem Wv{w:World}(d:Nat)(cs:List Value)(o:TypeId)(q:Blk w d cs o){pa:Option Addr}{pc:Nat}{pf:List Nat}{P:List Sl.Recs}(hc:cs[3]? =some (.slice pa P.length pc))(f:(pgsA pf pa pc P).ok w)(p:Pl)(s:0<=p.1):
  Calls Tryz.prog 117 #[.pointer (some ⟨d,0,none⟩),Ag p] w fun e w'=>e=.returned (.tuple #[.string (getB P p),.bool (getP P p).isSome])/\Hp [] w w' []:=by
 apply nGet.ok;unfold nGet.vc
 have a:∀{W:World},Chg [] w W->Ld Tryz.prog 84 W (Addr.add ⟨d,0,none⟩ 3) (.slice pa P.length pc):=fun h=>by
  rw[add_lit];exact(q.chg h (by simp)).ld pSl.agg (by rw[Nat.zero_add];exact hc)
 intro t u i;have H:=(Hp.start w).nw i;refine⟨p.1,H.lo yInt,AA rfl ⟨pa,P.length,pc,a H.drew.chg,AB (fun j=>⟨?_,H.drew.drop⟩) (fun j=>?_)⟩⟩
 ·rw[getB,getP,if_pos j];rfl
 ·obtain⟨n,l⟩:∃n:Nat,p.1=(n:Int):=⟨p.1.toNat,by omega⟩
  obtain⟨R,m⟩:∃R,P[n]? =some R:=⟨_,List.getElem?_eq_getElem (by omega)⟩;obtain⟨x,g,y,k,b,c⟩:=bY f m;refine AA rfl ⟨pa,P.length,pc,a H.drew.drew.chg,p.1,H.lo yInt,AA k ⟨⟨by omega,by omega⟩,_,by rw[l,Int.toNat_natCast];exact(c _ H.drew.drew.chg).1,p.2,H.lo yInt,AC (Sl.get_any b (c _ H.drew.drew.chg).2 p.2) ?_⟩⟩;rintro _ z ⟨rfl,r⟩;refine⟨_,_,rfl,?_,(H.drew.drew.ext0 r).drop⟩;rw[getB,getP,if_neg j,l,Int.toNat_natCast,Cm,m];rfl
def EN(old new:List Sl.Recs)(p:Pl):Option Cg:=
 if¬(getB old p=getB new p/\(getP old p).isSome=(getP new p).isSome)then some ⟨p.1,p.2,getB new p,!(getP new p).isSome⟩else none
def Dh(c:Cg):Int:=c.page*120+c.slot
def O0(l:List Cg):List Cg:=l.mergeSort fun a b=>decide (Dh a<=Dh b)
def DR(old new:List Sl.Recs)(D:DM):List Cg:=O0 ((D.map (·.1)).filterMap (EN old new))
def InS(c:Cg):Prop:=0<=c.page/\c.page<4096/\0<=c.slot/\c.slot<120
def cfC(x y:Cg):Int:=(x.page-y.page)*120+x.slot-y.slot
theorem nChanges1_ex(W:World)(x y:Cg)(d:InS x)(f:InS y):Calls Tryz.prog 119 #[.agg (cgC x).toArray,.agg (cgC y).toArray] W fun e w'=>e=.returned (.int .i64 (cfC x y))/\∃q c,w'=grow (W.drewN q) c:=by
 apply nChanges1.ok;unfold nChanges1.vc;intro g h a i j b;have H:=((Hp.start W).new (cs:=cgC x) EQ4 a).new (cs:=cgC y) EQ4 b;obtain⟨k,l,m,n⟩:=d;obtain⟨o,p,r,s⟩:=f;refine⟨x.page,H.lo yInt,y.page,H.lo yInt,iR,iR,x.slot,H.lo yInt,iR,y.slot,H.lo yInt,iR,?_⟩;exact⟨rfl,0,_,Ob a b⟩
theorem nagg4:∀w,(isAgg 55).run Tryz.prog w=.ok true w:=fun w=>Ho magg.agg w
theorem nsize4:∀w,(Go.sizeOf 55).run Tryz.prog w=.ok 4 w:=fun w=>Bl magg.size w
theorem J6(l:List Cg):(O0 l).Perm l:=List.mergeSort_perm l _
theorem ZN(l:List Cg):(O0 l).Pairwise fun a b=>Dh a<=Dh b:=by
 have d:=List.pairwise_mergeSort (le:=fun a b=>decide (Dh a<=Dh b)) (fun a b c d e=>by simp only[decide_eq_true_eq]at*;omega) (fun a b=>by simp only[Bool.or_eq_true,decide_eq_true_eq];omega) l
 exact d.imp fun h=>by simpa using h
theorem Vd{l l':List Cg}(n:l'.Perm l)(p:l'.Pairwise fun a b=>Dh a<=Dh b)(hn:l.Pairwise fun a b=>Dh a≠Dh b):l'=O0 l:=by
 have k:∀a b,a∈l->b∈l->Dh a=Dh b->a=b:=fun a b k q e=>by
  obtain⟨i,o⟩:=List.getElem?_of_mem k;obtain⟨j,m⟩:=List.getElem?_of_mem q;obtain⟨c,d⟩:=List.getElem?_eq_some_iff.1 o;obtain⟨f,g⟩:=List.getElem?_eq_some_iff.1 m;rcases Nat.lt_trichotomy i j with h|h|h
  ·exact absurd e (by rw[<- d,<- g];exact pairwise_iff_getElem.1 hn i j c f h)
  ·subst h
   rw[o]at m;exact Option.some.inj m
  ·exact absurd e.symm (by rw[<- d,<- g];exact pairwise_iff_getElem.1 hn j i f c h)
 refine List.Perm.eq_of_pairwise (le:=fun a b=>Dh a<=Dh b) (fun a b r s t u=>k a b (n.mem_iff.1 r) ((J6 l).mem_iff.1 s) (Int.le_antisymm t u)) p (ZN l) (n.trans (J6 l).symm)
section
variable{B:List Nat}{w0 w:World}{L:List Asn}
theorem nSort_spec(l:List Cg)(a:Option Addr)(c:Nat)(q:∀x∈l,InS x)(hn:l.Pairwise fun a b=>Dh a≠Dh b)(aa:l.length<=1000000)(H:Hp B w0 w (.own 55 4 a l.length c (cgsC l)::L)):
  Calls Tryz.prog 118 #[.slice a l.length c,.func (.func 119) #[] #[]] w fun e w'=>e=.returned (.tuple #[])/\Hp B w0 w' (.own 55 4 a l.length c (cgsC (O0 l))::L):=by
 by_cases o:l=[]
 ·subst o
  have:=AnyF.slices_SortFunc_none (P:=Tryz.prog) (ρ:=sfCR) {sfCL with} a c (.func (.func 119) #[] #[]) w;change Calls Tryz.prog 118 _ _ _ at this;refine Calls.mono this ?_;rintro e w' ⟨rfl,rfl⟩
  have e0:O0 []=[]:=by rw[O0];simp
  rw[e0];exact⟨rfl,H⟩
 have ho:Own w 0 55 4 a l.length c (cgsC l):=H.ownA (.head _);obtain⟨g,rfl⟩:=ho.CV (by have:=length_pos_iff.2 o;omega);obtain⟨x0,r0,G⟩:∃x r,l=x::r:=List.exists_cons_of_ne_nil o
 letI:Inhabited {c:Cg//c∈l}:=⟨⟨x0,by rw[G];exact .head _⟩⟩
 obtain⟨d,f⟩:∃d: {c:Cg//c∈l}->List Value,d=fun x=>cgC x.1:=⟨_,rfl⟩
 have hk:∀x,(d x).length=4:=fun x=>by rw[f];rfl
 have s:∀x,∀v∈d x,v.oneCell'=true:=fun x v J=>by
  rw[f]at J;simp only[cgC,mem_cons,not_mem_nil,or_false]at J;rcases J with rfl|rfl|rfl|rfl<;>rfl
 have t:∀K:List {c:Cg//c∈l},K.flatMap d=cgsC (K.map (·.1)):=fun K=>by
  rw[f,cgsC,List.flatMap_map]
 have hH:Hp B w0 w (.own 55 4 (some ⟨g,0,none⟩) l.length c (l.attach.flatMap d)::L):=by
  rw[t,List.attach_map_subtype_val];exact H
 obtain⟨u,M,p⟩:=hH.sorted d hk (by omega) (by rw[length_attach]);obtain⟨A,C⟩:∃A: {c:Cg//c∈l}-> {c:Cg//c∈l}->Int,A=fun x y=>cfC x.1 y.1:=⟨_,rfl⟩
 have h:∀x y,ltOf A x y=decide (Dh x.1<Dh y.1):=fun x y=>by
  rw[ltOf,C];exact decide_eq_decide.2 (by simp only[cfC,Dh];omega)
 have hO:SWO (ltOf A):=⟨fun x=>by rw[h];simp,fun x y z h1 h2=>by rw[h]at*;simp only[decide_eq_true_eq]at*;omega,fun x y z h1 h2=>by rw[h]at*;simp only[decide_eq_false_iff_not]at*;omega⟩
 have N:=AnyQ.slices_SortFunc (P:=Tryz.prog) (ρ:=sfCR) sfCL 4 nagg4 nsize4 d hk s A hO 119 #[] g 0 c l.attach.toArray w
  (enters_of Tryz.func119 (by kernel_rfl) rfl)
  (fun m os dk ab x y=>by
   rw[f,C]
   exact nChanges1_ex _ x.1 y.1 (q _ x.2) (q _ y.2)) u M (by simp;omega)
 change Calls Tryz.prog 118 _ _ _ at N;simp only[size_toArray,length_attach]at N;refine Calls.mono N ?_;rintro e w' ⟨rfl,k,n,os,hp,D,rfl⟩;refine⟨rfl,?_⟩
 have F:k.size=l.length:=by have:=hp.1;simpa using this
 have O:k.toList.Perm l.attach:=by
  have:=hp.2.2
  have e1:k.extract 0 l.length=k:=by rw[<- F];simp
  have e2:l.attach.toArray.extract 0 l.length=l.attach.toArray:=by
   simp only[List.extract_toArray,List.extract_eq_take_drop,drop_zero,Nat.sub_zero];rw[take_of_length_le (by simp)]
  rw[e1,e2]at this;simpa using this
 have R:(k.toList.map (·.1)).Perm l:=by
  have:=O.map (·.1)
  rwa [List.attach_map_subtype_val]at this
 have T:(k.toList.map (·.1)).Pairwise fun a b=>Dh a<=Dh b:=by
  rw[List.pairwise_map,pairwise_iff_getElem];intro i j hi hj U
  have X:j<k.size:=by simpa using hj
  have Y:i<k.size:=by simpa using hi
  have:=D i j (Nat.zero_le _) U (by omega);rw[h,decide_eq_false_iff_not,getElem!_pos k i Y,getElem!_pos k j X]at this;simp only[Array.getElem_toList];omega
 have Z:=Vd R T hn;have hb:=p n os k.toList (by rw[Array.length_toList,length_attach];exact F);rw[t,Z,Array.toArray_toList]at hb;exact hb
end
end
noncomputable section
open Go Go.Vc Go.Nod
theorem KZ{old new:List Sl.Recs}{p:Pl}{c:Cg}(h:EN old new p=some c):c.page=p.1/\c.slot=p.2:=by
 rw[EN]at h;split at h
 ·cases h;exact⟨rfl,rfl⟩
 ·cases h
theorem slot_inj{p q:Pl}(b:0<=p.2/\p.2<120)(c:0<=q.2/\q.2<120)(h:p.1*120+p.2=q.1*120+q.2):p=q:=by
 have a:p.1=q.1:=by omega
 exact Prod.ext a (by omega)
theorem TQ{old new:List Sl.Recs}:∀{l:List Pl},l.Nodup->(∀p∈l,0<=p.2/\p.2<120)->(l.filterMap (EN old new)).Pairwise fun a b=>Dh a≠Dh b
 | [],_,_=>by simp
 |p::l,hn,hs=>by
  rw[nodup_cons]at hn;have i:=TQ (old:=old) (new:=new) hn.2 fun q f=>hs q (.tail _ f);rw[List.filterMap_cons]
  cases e:EN old new p with
  |none=>exact i
  |some c=>
   refine pairwise_cons.2 ⟨fun d j=>?_,i⟩;obtain⟨q,f,g⟩:=List.mem_filterMap.1 j;obtain⟨k,m⟩:=KZ e;obtain⟨n,o⟩:=KZ g;intro h;simp only[Dh,k,m,n,o]at h;have:=slot_inj (hs p (.head _)) (hs q (.tail _ f)) h;exact hn.1 (this▸f)
section
variable{B:List Nat}{w0 w:World}{L:List Asn}
theorem MR(z:WN)(pf:List Nat)(pa:Option Addr)(pc:Nat)(P:List Sl.Recs)(D:DM)(hD:∀e∈D,0<=e.1.1/\e.1.1<4096/\0<=e.1.2/\e.1.2<120)(a0:(D.map (·.1)).Nodup)(bi:D.length<=1000000)
  (ob:Nat) (r:List Value) (opf:List Nat) (opa:Option Addr) (opc:Nat) (O:List Sl.Recs) (a1:r[3]? =some (.slice opa O.length opc))
  (H:Hp B w0 w (IA z.db (dC D)::.blk z.xb (wrC z) 112::.blk z.ub (tbC z pa P.length pc) 86::pgsA pf pa pc P::.blk ob r 86::pgsA opf opa opc O::L)):
  Calls Tryz.prog 61 #[.pointer (some ⟨z.xb,0,none⟩),.pointer (some ⟨ob,0,none⟩)] w fun e w'=>∃a c,e=.returned (.slice a (DR O P D).length c)/\
   Hp B w0 w' (.own 55 4 a (DR O P D).length c (cgsC (DR O P D))::.blk z.ub (tbC z pa P.length pc) 86::pgsA pf pa pc P::.blk ob r 86::pgsA opf opa opc O::L):=by
 apply nChanges.ok;unfold nChanges.vc;obtain⟨A,d,ae,a3,a4,a5⟩:=Tq (H.ok _ (.head _));have H1:Hp B w0 w (objA z.db (.map A d)::_):=H.set (a':=objA z.db (.map A d)) (Chg.refl _ _) (RS ae) (fun k hk=>.inl hk);clear H;refine AA rfl ⟨some z.db,by rw[add_lit];exact H1.lo hMPI,?_⟩;refine Hp.rng H1 EQ4 Ux.und ae fun it w1 H2=>?_;clear H1;obtain⟨n,j⟩:∃n,n=EN O P:=⟨_,rfl⟩;obtain⟨Y,G⟩:∃Y:List Asn,Y=objA z.db (.map A d)::.blk z.xb (wrC z) 112::.blk z.ub (tbC z pa P.length pc) 86::pgsA pf pa pc P::.blk ob r 86::pgsA opf opa opc O::L:=⟨_,rfl⟩;rw[<- G]at H2;have af:(dC D).map (·.1)=D.map (·.1):=Q7 _ D
 refine AP.mk (fun m s w'=>∃(g:Array Nat)(rs:List (Pl×Value))(f:List Cg)(a:Option Addr)(c:Nat)(X:List Asn),m=(EH A g).length/\s=(a,f.length,c)/\((EH A g).map fun e=>(e.key,e.val)).Perm (rs.map fun p=>(Ag p.1,p.2))/\(∀p∈rs,p.1∈D.map (·.1))/\
  (f++(rs.map (·.1)).filterMap n).Perm ((D.map (·.1)).filterMap n)/\Hp B w0 w' (objA it (.mapIter (some z.db) d g d)::.own 55 4 a f.length c (cgsC f)::(Y++X))) _ ⟨#[],dC D,[],none,0,[],rfl,rfl,?_,?_,?_,?_⟩ ?_
 ·rw[QO]
  have e:A.toList.map (fun e=>(e.key,e.val))=(dC D).map fun p=>(Ag p.1,p.2):=a3;rw[e]
 ·intro p T
  rw[<- af];exact mem_map.2 ⟨p,T,rfl⟩
 ·rw[nil_append,af]
 ·exact(H2.nilS 55 4).perm (by
   refine AL fun ff gg U Z ha aa=>?_;have e1:cgsC []=[]:=rfl
   simp only[e1,length_nil,ha,Z,U,append_eq,nil_append,cons_append,append_nil];omega)
 clear H2;rintro m s w2 nx ⟨g,rs,f,a,c,X,rfl,rfl,ab,ag,i,H⟩ ah;dsimp only
 have bh:f.length<=D.length:=by
  have h1:=i.length_eq;have C:=List.length_filterMap_le n (D.map (·.1));rw[length_append]at h1;rw[length_map]at C;omega
 have a6:w2.heap[z.db]? =some (.map A d):=by
  have:objA z.db (.map A d)∈objA it (.mapIter (some z.db) d g d)::.own 55 4 a f.length c (cgsC f)::(Y++X):=.tail _ (.tail _ (mem_append_left _ (by rw[G];exact .head _)));exact H.obj this
 refine Hp.nxt H EQ4 a6 a5 a4 (fun h1=>?_) (fun e w3 he T H3 ak=>?_)
 ·have hr:=Xy ab h1
  rw[hr,map_nil,List.filterMap_nil,append_nil]at i
  have al:((D.map (·.1)).filterMap n).Pairwise fun a b=>Dh a≠Dh b:=by
   rw[j]
   exact TQ a0 fun p T=>by
    obtain⟨e,he,rfl⟩:=mem_map.1 T;exact(hD e he).2.2
  have a7:f.Pairwise fun a b=>Dh a≠Dh b:=(i.pairwise_iff (fun h e=>h e.symm)).2 al
  have a8:∀x∈f,InS x:=fun x hx=>by
   obtain⟨p,T,am⟩:=List.mem_filterMap.1 (i.mem_iff.1 hx);obtain⟨e,he,rfl⟩:=mem_map.1 T;rw[j]at am;obtain⟨c1,c2⟩:=KZ am;have:=hD e he;exact⟨by rw[c1];exact this.1,by rw[c1];exact this.2.1,by rw[c2];exact this.2.2.1,by rw[c2];exact this.2.2.2⟩
  refine AC (nSort_spec f a c a8 a7 (by omega) H.Ae) ?_;rintro _ w3 ⟨rfl,H3⟩
  have an:O0 f=DR O P D:=by
   refine Vd (l:=(D.map (·.1)).filterMap (EN O P)) ?_ (ZN f) (by rw[<- j];exact al);rw[<- j];exact(J6 f).trans i
  have ao:f.length=(DR O P D).length:=by rw[<- an];exact(J6 f).length_eq.symm
  rw[an,ao]at H3;refine⟨rfl,a,c,by rw[ao],?_⟩
  exact Hp.BP (R:=objA it (.mapIter (some z.db) d g d)::objA z.db (.map A d)::.blk z.xb (wrC z) 112::X) (H3.perm (by
   refine AL fun ff gg U Z ha aa=>?_
   simp only[G,ha,Z,U,append_eq,nil_append,cons_append];omega))
 ·obtain⟨K,⟨p,pv⟩,M,rfl,a9,u,ap⟩:=rest_step (kv:=fun p:Pl×Value=>(Ag p.1,p.2)) ab T
  have ek:e.key=Ag p:=(Prod.ext_iff.1 a9).1;clear ab;have ba:=ag (p,pv) (by simp);obtain⟨pe,bb,aq⟩:=mem_map.1 ba;have ac:=hD pe bb;rw[show pe.1=p from aq]at ac;have bj:objA it (.mapIter (some z.db) d (g.push e.born) d)∈objA it (.mapIter (some z.db) d (g.push e.born) d)::.own 55 4 a f.length c (cgsC f)::(Y++X):=.head _;refine⟨p.1,p.2,e.val,w3,by rw[ek]at ak;exact ak,fun yb w4 ar=>?_⟩;have H4:=H3.nw ar;refine Hp.sA H4 hagg (cs':=[.int .i64 p.1,.int .i64 p.2]) fun w5 H5=>?_;clear H H3 H4 ar;have y:∀{x:Asn},x∈Y->x∈Asn.blk yb [.int .i64 p.1,.int .i64 p.2] 101::objA it (.mapIter (some z.db) d (g.push e.born) d)::.own 55 4 a f.length c (cgsC f)::(Y++X):=fun h=>.tail _ (.tail _ (.tail _ (mem_append_left _ h)));refine⟨p.1,p.2,H5.loA hagg,?_⟩;refine AC (Wv ob r 86 (H5.blk (y (by rw[G];exact .tail _ m3))) a1 (H5.ok (pgsA opf opa opc O) (y (by rw[G];exact .tail _ m4))) p ac.1) ?_;rintro _ w6 ⟨rfl,H6⟩;have H7:=H5.ext0 H6;clear H5 H6;refine⟨_,_,rfl,AA rfl ⟨_,H7.ld (o:=0) (cs:=wrC z) EQ4 rPT (y (by rw[G];exact .tail _ (.head _))) rfl,p.1,p.2,H7.loA hagg,?_⟩⟩;have F:=H7.drew;refine AC (Wv z.ub (tbC z pa P.length pc) 86 (F.blk (y (by rw[G];exact .tail _ m1))) rfl (F.ok (pgsA pf pa pc P) (y (by rw[G];exact .tail _ m2))) p ac.1) ?_;rintro _ w7 ⟨rfl,H8⟩;have H9:=F.ext0 H8;clear H7 F H8;refine⟨_,_,rfl,?_⟩;refine Am.mk (fun t w'=>w'=w7/\t=dec (¬(getB O p=getB P p/\(getP O p).isSome=(getP P p).isSome))) ?_ ?_
  ·rintro t bk ⟨hw,rfl⟩
   obtain rfl:=hw.symm
   have N:∀q∈K++M,q.1∈D.map (·.1):=fun q hq=>ag q (by
    rw[mem_append]at hq;simp only[mem_append,mem_cons]
    exact hq.elim .inl fun h=>.inr (.inr h))
   have av:∀o:Option Cg,n p=o->(((K++(p,pv)::M).map (·.1)).filterMap n).Perm (o.toList++((K++M).map (·.1)).filterMap n):=fun o ho=>by
    have h1:((K++(p,pv)::M).map (·.1)).Perm (p::(K++M).map (·.1)):=(List.perm_middle (a:=(p,pv)) (l₁:=K) (l₂:=M)).map (·.1);refine(h1.filterMap n).trans ?_;rw[List.filterMap_cons,ho];cases o<;>exact .refl _
   refine br_d (fun C=>?_) (fun C=>?_)
   ·have ad:n p=some ⟨p.1,p.2,getB P p,!(getP P p).isSome⟩:=by rw[j,EN,if_pos C]
    refine⟨p.1,H9.lo yInt,p.2,H9.lo yInt,fun ub w8 bc=>?_⟩;have aw:=H9.new (cs:=cgC ⟨p.1,p.2,getB P p,!(getP P p).isSome⟩) EQ4 bc;refine Hp.app melt (by omega) aw.D8 EQ4 (Blk.src (P:=Tryz.prog) mund (aw.blk (.head _)) rfl rfl) (by simp only[maxLen];omega) (by omega) ?_;intro a2 c2 w9 bd;refine ah _ _ _ ap ⟨g.push e.born,K++M,f++[⟨p.1,p.2,getB P p,!(getP P p).isSome⟩],a2,c2,.blk ub (cgC ⟨p.1,p.2,getB P p,!(getP P p).isSome⟩) 55::.blk yb [.int .i64 p.1,.int .i64 p.2] 101::X,rfl,by simp,u,N,?_,bd.perm ?_⟩
    ·refine List.Perm.trans ?_ i
     rw[append_assoc];exact((av _ ad).symm).append_left f
    ·refine AL fun ff gg U Z ha aa=>?_
     simp only[Wp,length_append,length_cons,length_nil,Nat.zero_add,ha,Z,U,append_eq,nil_append,cons_append];omega
   ·have ad:n p=none:=by rw[j,EN,if_neg C]
    refine ah _ _ _ ap ⟨g.push e.born,K++M,f,a,c,.blk yb [.int .i64 p.1,.int .i64 p.2] 101::X,rfl,rfl,u,N,?_,H9.perm ?_⟩
    ·refine List.Perm.trans ?_ i
     exact((av _ ad).symm).append_left f
    ·refine AL fun ff gg U Z ha aa=>?_
     simp only[ha,Z,U,append_eq,nil_append,cons_append];omega
  ·intro J hJ
   refine AV (fun C=>hJ _ _ ⟨rfl,CZ fun h=>C h.1⟩) (fun C=>hJ _ _ ⟨rfl,?_⟩);by_cases h3:(getP O p).isSome=(getP P p).isSome
   ·rw[<- Bf (fun h=>h ⟨C,h3⟩),h3];simp
   ·rw[<- CZ (fun h=>h3 h.2)]
    cases h4:(getP O p).isSome<;>cases h5:(getP P p).isSome<;>simp_all
end
end
end Go.Proofs.YtljenkbpnioipaaGreat
namespace Go.Vc
open Go
theorem JM{α:Type}:∀{l l':List α},l.Nodup->(∀x∈l,x∈l')->l.length<=l'.length
 | [],l',_,_=>Nat.zero_le _
 |x::l,l',hn,h=>by
  rw[nodup_cons]at hn;obtain⟨a,b,rfl⟩:=List.append_of_mem (h x (.head _))
  have:=JM (l:=l) (l':=a++b) hn.2 fun y d=>by
   have c:=h y (.tail _ d);rw[mem_append,mem_cons]at c;rw[mem_append];rcases c with c|c|c
   ·exact .inl c
   ·exact(hn.1 (c▸d)).elim
   ·exact .inr c
  simp only[length_append,length_cons]at this⊢;omega
theorem Hp.keep{B:List Nat}{w0 w:World}{L:List Asn}{a x:Asn}(H:Hp B w0 w (a::L))(d:x∈L):∀W,Chg a.foot w W->x.ok W:=fun W f=>by
 have b:=H.ok x (.tail _ d);refine Asn.X9 b fun k e=>f.2.2.2.2 k (Asn.WQ b k e) fun c=>?_;exact(pairwise_cons.1 H.sep).1 x d k c e
end Go.Vc
namespace Go.Proofs.YtljenkbpnioipaaGreat
noncomputable section
open Go Go.Vc Go.Nod
theorem Yc{st:WSt}{key s x:ByteArray}(h:x∈(st.put key s).1.Q.map (·.1)):x∈st.Q.map (·.1)\/x=key:=by
 rw[WSt.put]at h
 cases e:putF s.data.toList 4096 0 st.P with
 |mk P o=>
  rw[e]at h
  cases o with
  |none=>exact .inl h
  |some p=>
   dsimp only at h;rw[Jg]at h;split at h
   ·exact .inl h
   ·rw[mem_append,mem_singleton]at h;exact h
theorem Yf{st:WSt}{key x:ByteArray}(h:x∈(st.drop key).Q.map (·.1)):x∈st.Q.map (·.1):=((KP st.Q key).map (·.1)).subset h
theorem drop_gone{st:WSt}{key:ByteArray}(hn:(st.Q.map (·.1)).Nodup):key∉(st.drop key).Q.map (·.1):=by
 refine Ec.1 ?_;rw[show(st.drop key).Q=gdel st.Q key from rfl,Td _ _ _ hn,if_pos rfl]
theorem ZM{st:WSt}{R:RM}{key x:ByteArray}(h:x∈(st.one R key).1.Q.map (·.1)):x∈st.Q.map (·.1)\/x=key:=by
 rw[WSt.one]at h;split at h
 ·exact Yc h
 ·split at h
  ·exact .inl h
  ·split at h
   ·exact .inl h
   ·rcases Yc h with h|h
    ·exact .inl (Yf (st:=⟨st.P,st.Q,_⟩) h)
    ·exact .inr h
theorem Nc(R:RM):∀(K:List ByteArray)(st:WSt),(st.Q.map (·.1)).Nodup->((JR R K st).Q.map (·.1)).Nodup/\∀x,x∈(JR R K st).Q.map (·.1)->x∈st.Q.map (·.1)/\(x∈K->gget R x≠none)
 | [],st,hn=>⟨hn,fun x h=>⟨h,fun g=>(by cases g)⟩⟩
 |k::r,st,hn=>by
  rw[JR];by_cases e:gget R k=none
  ·rw[if_pos e]
   obtain⟨c,d⟩:=Nc R r (st.drop k) (Uo hn k);refine⟨c,fun x h=>?_⟩;obtain⟨b,f⟩:=d x h;refine⟨Yf b,fun a=>?_⟩;rcases mem_cons.1 a with rfl|a
   ·exact(drop_gone hn b).elim
   ·exact f a
  ·rw[if_neg e]
   obtain⟨c,d⟩:=Nc R r st hn;refine⟨c,fun x h=>?_⟩;obtain⟨b,f⟩:=d x h;refine⟨b,fun a=>?_⟩;rcases mem_cons.1 a with rfl|a
   ·exact e
   ·exact f a
theorem V6(R:RM):∀(M:List ByteArray)(st:WSt)(x:ByteArray),x∈(layK R M st).1.Q.map (·.1)->x∈st.Q.map (·.1)\/x∈M
 | [],st,x,h=>.inl h
 |k::r,st,x,h=>by
  rw[layK]at h;split at h
  ·rcases ZM h with h|h
   ·exact .inl h
   ·exact .inr (h▸.head _)
  ·rcases V6 R r _ x h with h|h
   ·rcases ZM h with h|h
    ·exact .inl h
    ·exact .inr (h▸.head _)
   ·exact .inr (.tail _ h)
theorem Uj{R:RM}{st:WSt}(hn:(st.Q.map (·.1)).Nodup){x:ByteArray}(h:x∈(Jt R st).1.Q.map (·.1)):x∈R.map (·.1):=by
 rcases V6 R _ _ x h with h|h
 ·obtain⟨b,c⟩:=(Nc R (Eh (st.Q.map (·.1))) st hn).2 x h
  have:=c (FW.2 b);exact Classical.byContradiction fun a=>this (Ec.2 a)
 ·exact FW.1 h
theorem TP(R:RM):∀(K:List ByteArray)(st:WSt)(N:Int),CB st N->0<=N->K.Nodup->(∀x∈K,x∈st.Q.map (·.1))->CB (JR R K st) (N+K.length)
 | [],st,N,h,_,_,_=>h.mono (by simp)
 |k::r,st,N,h,h0,hn,hin=>by
  rw[nodup_cons]at hn;rw[JR];by_cases e:gget R k=none
  ·rw[if_pos e]
   obtain⟨p,b⟩:∃p,gget st.Q k=some p:=Option.ne_none_iff_exists'.1 fun e=>Ec.1 e (hin k (.head _));have:=TP R r (st.drop k) (N+1) (h.drop h0 b) (by omega) hn.2 fun x a=>VM h.qn (fun e=>hn.1 (e▸a)) (hin x (.tail _ a));exact this.mono (by rw[length_cons];omega)
  ·rw[if_neg e]
   exact(TP R r st N h h0 hn.2 fun x a=>hin x (.tail _ a)).mono (by rw[length_cons];omega)
theorem Zt(R:RM):∀(M:List ByteArray)(st:WSt)(N:Int),CB st N->0<=N->(∀x∈M,x.size<=6)->CB (layK R M st).1 (N+3*M.length)
 | [],st,N,h,_,_=>h.mono (by simp)
 |k::r,st,N,h,h0,hk=>by
  have a:=h.one h0 R (hk k (.head _));rw[layK];split
  ·exact a.mono (by rw[length_cons];omega)
  ·exact(Zt R r _ (N+3) a (by omega) fun x b=>hk x (.tail _ b)).mono (by rw[length_cons];omega)
theorem Y2{R:RM}{st:WSt}(h:CB st 0)(a:∀e∈R,e.1.size<=6):CB (Jt R st).1 (st.Q.length+3*R.length):=by
 have d:=TP R (Eh (st.Q.map (·.1))) st 0 h (by omega) ((Dy _).nodup_iff.2 h.qn) (fun x b=>FW.1 b)
 have c:=Zt R (Eh (R.map (·.1))) _ _ d (by omega) (fun x b=>by
  obtain⟨e,f,rfl⟩:=mem_map.1 (FW.1 b)
  exact a e f)
 rw[JZ,JZ,length_map,length_map]at c;exact c.mono (by omega)
theorem UJ(s:ByteArray):(CJ s).size<=6:=by
 rw[CJ];split
 ·decide
 ·split
  ·rw[ByteArray.size_extract];omega
  ·split<;>(rw[ByteArray.size_extract];omega)
theorem UW(l:List ByteArray):∀(m:RM),(m.map (·.1)).Nodup->((layR m l).map (·.1)).Nodup:=by
 induction l with
 |nil=>intro m h;exact h
 |cons s r a=>intro m h;exact a _ (IC h _ _)
theorem layR_key(l:List ByteArray):∀(m:RM),(∀e∈m,e.1.size<=6)->∀e∈layR m l,e.1.size<=6:=by
 induction l with
 |nil=>intro m h;exact h
 |cons s r b=>
  intro m h;refine b _ fun e a=>?_;rcases Jb a with rfl|a
  ·exact UJ s
  ·exact h e a
theorem layR_len(l:List ByteArray):∀(m:RM),(layR m l).length<=m.length+l.length:=by
 induction l with
 |nil=>intro m;simp[layR]
 |cons s r a=>
  intro m;have b:=a (gput m (CJ s) s);have c:=UU m (CJ s) s;rw[length_cons];show(layR (gput m (CJ s) s) r).length<=_;omega
theorem TJ:∀(l:List ByteArray)(k:Nat),(Eg k l).length<=l.length
 | [],k=>by simp[Eg]
 |s::r,k=>by
  have:=TJ r (k+1);rw[Eg,length_append,length_cons];split
  ·simp;omega
  ·simp;omega
theorem nodeR_len(T:Tr)(S:SM)(W:List ByteArray)(j:Nat):(OO T S W j).length<=34:=by
 rw[OO];split
 ·rw[length_map];exact aZ _
 ·simp
theorem UF(T:Tr)(S:SM)(W:List ByteArray):∀n:Nat,(ER T S W n).length<=34*n
 |0=>by simp[ER]
 |n+1=>by
  have:=UF T S W n;have:=nodeR_len T S W n;rw[Ij,length_append];omega
theorem Q4{T:Tr}{S:SM}{W:List ByteArray}(b:T.L.length<=1000)(c:W.length<=4000):(DL T S W).length<=40000:=by
 have a:=layR_len (He T S W) [];have d:=TJ W 0;have e:=UF T S W T.L.length;rw[DL];simp only[He,length_cons,length_append,length_nil,cons_append]at a⊢;omega
theorem MZ(T:Tr)(S:SM)(W:List ByteArray):((DL T S W).map (·.1)).Nodup:=UW _ [] .nil
theorem QX(T:Tr)(S:SM)(W:List ByteArray):∀e∈DL T S W,e.1.size<=6:=layR_key _ [] (by simp)
def Zc(T:Tr)(id:Int):List Int:=(T.L.map (·.id)).filter fun x=>TI T x id
def Tab.moved(T:Tr)(o:OpP):List Int:=if o.kind=3 then Zc T o.id else []
def Tab.words(X:Tab)(T:Tr):List ByteArray×Int:=NR X.W (GL (T.L.map rowI))
def Tab.spans(X:Tab)(T:Tr)(o:OpP):SM:=IP T X.S (Tab.moved T o)
def Tab.wr(X:Tab)(T:Tr)(o:OpP):WSt×Int:=Jt (DL T (X.spans T o) (X.words T).1) ⟨X.P,X.Q,[]⟩
def doP(X:Tab)(o:OpP):Tab×Int×List Cg×Int:=
 if(X.T.edit o).2.2≠0 then(X,0,[],(X.T.edit o).2.2)
 else if(X.words (X.T.edit o).1).2≠0 then(X,0,[],(X.words (X.T.edit o).1).2)
 else if(X.wr (X.T.edit o).1 o).2≠0 then(X,0,[],(X.wr (X.T.edit o).1 o).2)
 else(⟨(X.T.edit o).1,X.spans (X.T.edit o).1 o,(X.words (X.T.edit o).1).1,(X.wr (X.T.edit o).1 o).1.P,(X.wr (X.T.edit o).1 o).1.Q⟩,(X.T.edit o).2.1,DR X.P (X.wr (X.T.edit o).1 o).1.P (X.wr (X.T.edit o).1 o).1.D,0)
theorem MM{B:List Nat}{w0 w':World}{L:List Asn}{F:Fo}{T:Tr}(c:BN F T){ia:Option Addr}{ic:Nat}{ss:List Sl3}(a:SlOk (T.L.map AY) ss)(H:Hp B w0 w' L)(ho:Asn.own 123 5 ia T.L.length ic (itsC (T.L.map AY) ss)∈L)(h:∀x∈BQ (T.L.map AY) ss,x∈L):
  Df [] w' ia T.L.length (T.L.map rowI) ss:=by
 have d:=c.len;refine⟨fun W i=>?_,by simp only[maxLen];omega,fun s j=>?_,fun x b=>Yh (XU (EM c x b)) (EM c x b)⟩
 ·have f:=H.chg0 i
  exact dZ (show Own W 0 123 5 ia T.L.length ic (itsC (T.L.map AY) ss)from f.ownA ho) a (by rw[length_map]) fun x b=>f.ok x (h x b)
 ·obtain⟨k,g⟩:=List.getElem?_of_mem j
  have l:=(List.getElem?_eq_some_iff.1 g).1;have m:=a.len;have b:(T.L.map AY)[k]? =some ((T.L.map AY)[k]'(by omega)):=List.getElem?_eq_getElem _;have e:=a.att k _ s b g;have:=(FK (EM c _ (mem_of_getElem? b))).1;simp only[maxLen];omega
end
noncomputable section
open Go Go.Vc Go.Nod
theorem bV:Agg Tryz.prog 45 7:=Ci (by kernel_rfl)
def RX(f:List Nat)(b:Nat)(X:Tab)(o:OpP)(w:World)(e:Ending)(w':World):Prop:=
 ∃f' a c,e=.returned (.tuple #[.int .i64 (doP X o).2.1,.slice a (doP X o).2.2.1.length c,.int .i64 (doP X o).2.2.2])/\Hp f w w' [tabA f' b (doP X o).1,.own 55 4 a (doP X o).2.2.1.length c (cgsC (doP X o).2.2.1)]
theorem S9{f:List Nat}{X:Tab}{o:OpP}{w W:World}{z1:WN}{opa:Option Addr}{opc:Nat}{opf otf owf:List Nat}{Z:List Asn}{c:Int}(a:Vr X)(d:doP X o=(X,0,[],c))(H:Hp f w W (tabL z1 opa opc opf otf owf X++Z)):
  RX f z1.ub X o w (.returned (.tuple #[.int .i64 0,.slice none 0 0,.int .i64 c])) W:=by
 rw[RX,d];obtain⟨b,e⟩:=H.DJ (Q:=tabQ z1.ub X) ⟨z1,opa,opc,opf,otf,owf,rfl,a,rfl⟩;exact⟨b,none,0,rfl,((Hp.BP (L:=[tabA b z1.ub X]) e).nilS 55 4).Ae⟩
theorem YM{f:List Nat}{b:Nat}{X:Tab}{w:World}(h:(tabA f b X).ok w)(o:OpP)(la:Option Addr)(n lc:Nat)(ss:List Sl3)(hA:Df f w la n o.l ss)(b1:n<=140737488355328)(ht:o.text.size<=maxLen):
  Calls Tryz.prog 19 #[.pointer (some ⟨b,0,none⟩),.agg (opC o la n lc).toArray] w (RX f b X o w):=by
 apply nDo.ok;unfold nDo.vc;have ab:=tab_ok h;intro eb w1 b2;have H1:=(Be h:Hp f w w [tabA f b X]).new (cs:=opC o la n lc) EQ4 b2;refine AC (nClone_spec (H1.ok (tabA f b X) m1)) ?_;rintro _ w2 ⟨f1,f2,ub,rfl,H2⟩;have H3:=H1.Ae.use1 H2;clear H1 H2 b2;obtain⟨M1,⟨U,ac,ae,ak,an,ao,rfl,_,rfl⟩,H4,_⟩:=H3.unpack
 have H5:Hp f w w2 (tabA f2 ub X::(tabL U ac ae ak an ao X++[.blk eb (opC o la n lc) 45])):=H4.perm (by
  refine AL fun ff gg A B C G=>?_
  simp only[C,B,A,append_eq,nil_append,cons_append];omega)
 obtain⟨M2,⟨z,g,u,pf,tf,wf,rfl,_,rfl⟩,H6,_⟩:=H5.unpack;clear H3 H4 H5;obtain⟨O,hO⟩:∃O,O=tabL U ac ae ak an ao X:=⟨_,rfl⟩;rw[<- hO]at H6;have mO:∀{x:Asn}{L1 L2:List Asn},x∈O->x∈L1++(O++L2):=fun h=>mem_append_right _ (mem_append_left _ h);refine⟨_,rfl,AA rfl ⟨_,H6.lo nPT,o.kind,o.id,o.to,o.at_,o.name,o.text,la,n,lc,H6.ldA (o:=0) (cs:=opC o la n lc) EQ4 bV (mem_append_right _ (mem_append_right _ (.head _))) rfl rfl,?_⟩⟩
 have H7:Hp f w w2.drew (AU tf z.tb X.T::.blk z.ub (tbC z g X.P.length u) 86::.imap z.sb .i64 (smC X.S)::Aj wf z.wb X.W::pgsA pf g u X.P::.smap z.qb (gC Ag X.Q)::.blk eb (opC o la n lc) 45::(O++[])):=H6.drew.perm (by
  refine AL fun ff gg A B C G=>?_
  simp only[tabL,C,B,A,append_eq,nil_append,cons_append,append_nil];omega)
 clear H6;have b3:Df tf w2.drew la n o.l ss:=hA.go H7 fun k hk=>Dl.2 ⟨AU tf z.tb X.T,.head _,hk⟩;refine AC (nEdit_spec (H7.ok _ (.head _)) o la n lc ss b3 b1 ht) ?_;rintro _ w3 ⟨bc,rfl,H8⟩;have H9:=H7.Ba H8;clear H7 H8 b3;obtain⟨T,hT⟩:∃T,T=(X.T.edit o).1:=⟨_,rfl⟩;rw[<- hT]at H9;have mt:∀{x:Asn}{L1:List Asn},x∈O->x∈L1++O:=fun h=>mem_append_right _ h;refine⟨_,_,rfl,AV (fun h1=>?_) (fun h1=>?_)⟩
 ·refine S9 (z1:=U) (opa:=ac) (opc:=ae) (opf:=ak) (otf:=an) (owf:=ao) (Z:=[AU bc z.tb T,.blk z.ub (tbC z g X.P.length u) 86,.imap z.sb .i64 (smC X.S),Aj wf z.wb X.W,pgsA pf g u X.P,.smap z.qb (gC Ag X.Q),.blk eb (opC o la n lc) 45]) ab (by rw[doP,if_pos h1]) (H9.perm ?_)
  rw[<- hO];refine AL fun ff gg A B C G=>?_;simp only[C,B,A,append_eq,nil_append,cons_append,append_nil];omega
 obtain⟨F,hG⟩:∃F,BN F T:=by
  obtain⟨F,_,_,hG,_⟩:=FQ (H9.ok (AU bc z.tb T) (.head _));exact⟨F,hG⟩
 have b4:=hG.len;have b5:∀x∈T.L.map rowI,x.x.attrs.length<=20:=fun x hx=>(FK (EM hG x hx)).1;obtain⟨nm,bd⟩:∃nm,nm=GL (T.L.map rowI):=⟨_,rfl⟩
 have c8:nm.length<=21000:=by
  have h2:=XA (T.L.map rowI) b5;have h3:=YN ((T.L.map rowI).flatMap Fe);rw[bd,GL,JZ];rw[length_map]at h2;omega
 have b6:nm.Pairwise fun x y=>x.data.toList<y.data.toList:=by rw[bd];exact IL (Sj _)
 have c9:WOk X.W:=by
  obtain⟨L,⟨hW,_⟩,_⟩:=EP (H9.ok (Aj wf z.wb X.W) m3);exact hW
 refine Am.mk (fun s w'=>∃(ap:List Nat)(ma:Option Addr)(mc:Nat)(a:List Int)(ZZ:List Asn),s=(ma,a.length,mc)/\a=Tab.moved T o/\a.length<=100000/\Hp f w w' (AU ap z.tb T::.blk z.ub (tbC z g X.P.length u) 86::.imap z.sb .i64 (smC X.S)::Aj wf z.wb X.W::pgsA pf g u X.P::.smap z.qb (gC Ag X.Q)::.own 3 1 ma a.length mc (AO a)::(O++ZZ))) ?_ ?_
 ·clear H9
  rintro _ w5 ⟨aa,ma,mc,a,ZZ,rfl,al,aw,HT⟩;have Hd:=HT.drew;clear HT
  have a0:∀{W:World}{M:List Asn}{g:Option Addr}{m u j:Nat}{t:TypeId}{v:Value}{z:WN},Hp f w W M->Asn.blk z.ub (tbC z g m u) 86∈M->Scl Tryz.prog t->(tbC z g m u)[j]? =some v->∀{W':World},Eqw W W'->Ld Tryz.prog t W' (Addr.add ⟨z.ub,0,none⟩ j) v:=fun{W M g m u j t v z} H m S hj _ e=>by
   rw[add_lit,Nat.zero_add];exact H.ld (o:=j) (cs:=tbC z g _ u) e S m hj
  refine AA rfl ⟨_,a0 Hd m1 rPB rfl EQ4,AA rfl ⟨_,Hd.lo nPT,AA rfl ⟨_,Hd.lo nPT,AC (Jw (Hd.ok (AU aa z.tb T) (.head _))) ?_⟩⟩⟩;rintro _ _ ⟨rfl,rfl⟩;refine⟨_,rfl,Hd.lo nPT,a0 Hd m1 rPB rfl EQ4,AC (Ie (Hd.ok (AU aa z.tb T) (.head _))) ?_⟩;rintro _ v1 ⟨ah,ia,ic,af,rfl,cm,Hi⟩;have H1:=Hd.use1 Hi;clear Hd Hi;have b7:∀{x:Asn}{M:List Asn},x∈BQ (T.L.map AY) af->x∈AU ah z.tb T::.own 123 5 ia T.L.length ic (itsC (T.L.map AY) af)::(BQ (T.L.map AY) af++M):=fun h=>.tail _ (.tail _ (mem_append_left _ h));have b8:∀{x:Asn}{M:List Asn},x∈M->x∈AU ah z.tb T::.own 123 5 ia T.L.length ic (itsC (T.L.map AY) af)::(BQ (T.L.map AY) af++M):=fun h=>.tail _ (.tail _ (mem_append_right _ h));refine⟨_,_,_,rfl,a0 H1 (b8 (.head _)) rPB rfl EQ4,AC (QD ia _ ic (T.L.map rowI) af v1 (MM hG cm H1 m1 fun x hx=>b7 hx) b4 b5) ?_⟩;rintro _ v2 ⟨na,nc,rfl,Hn⟩;rw[<- bd]at Hn⊢
  have H2:Hp f w v2 (Aj wf z.wb X.W::.own 9 1 na nm.length nc (BI nm)::.blk z.ub (tbC z g X.P.length u) 86::AU ah z.tb T::.imap z.sb .i64 (smC X.S)::pgsA pf g u X.P::.smap z.qb (gC Ag X.Q)::.own 3 1 ma a.length mc (AO a)::(O++(.own 123 5 ia T.L.length ic (itsC (T.L.map AY) af)::(BQ (T.L.map AY) af++ZZ)))):=(H1.ext1 Hn).perm (by
   refine AL fun ff gg A B C G=>?_
   simp only[C,B,A,append_eq,nil_append,cons_append,append_nil];omega)
  clear H1 Hn b7 b8;generalize dc:(Asn.own 123 5 ia T.L.length ic (itsC (T.L.map AY) af)::(BQ (T.L.map AY) af++ZZ))=Z1 at H2
  refine⟨_,_,_,rfl,a0 H2 m2 rPB rfl EQ4,AC (Qy (H2.ok (Aj wf z.wb X.W) (.head _)) na nm.length nc nm (fun W' cn=>by
   have:Own W' 0 9 1 na nm.length nc (BI nm):=H2.keep (x:=.own 9 1 na nm.length nc (BI nm)) (.head _) W' cn
   exact this.cells) rfl (by omega) b6) ?_⟩
  rintro _ v3 ⟨ag,rfl,Hl⟩;have H3:=H2.use1 Hl;clear H2 Hl
  have co:NR X.W nm=X.words T:=by rw[Tab.words,bd]
  rw[co]at H3⊢;have cp:∀{x:Asn}{a1 a2 a3 a4 a5 a6 a7 a8:Asn}{M:List Asn},x∈O->x∈a1::a2::a3::a4::a5::a6::a7::a8::(O++M):=fun h=>.tail _ (.tail _ (.tail _ (.tail _ (.tail _ (.tail _ (.tail _ (.tail _ (mem_append_left _ h))))))));refine⟨_,rfl,AV (fun h2=>?_) (fun h2=>?_)⟩
  ·refine S9 (z1:=U) (opa:=ac) (opc:=ae) (opf:=ak) (otf:=an) (owf:=ao) (Z:=[Aj ag z.wb (X.words T).1,.own 9 1 na nm.length nc (BI nm),.blk z.ub (tbC z g X.P.length u) 86,AU ah z.tb T,.imap z.sb .i64 (smC X.S),pgsA pf g u X.P,.smap z.qb (gC Ag X.Q),.own 3 1 ma a.length mc (AO a)]++Z1) ab (by rw[doP,if_neg (fun hh=>hh h1),<- hT,if_pos h2]) (H3.perm ?_)
   rw[<- hO];refine AL fun ff gg A B C G=>?_;simp only[C,B,A,append_eq,nil_append,cons_append,append_nil];omega
  have cq:WOk (X.words T).1:=by
   obtain⟨L,⟨hW,_⟩,_⟩:=EP (H3.ok (Aj ag z.wb (X.words T).1) (.head _));exact hW
  have oS:Asn.imap U.sb .i64 (smC X.S)∈O:=by rw[hO];exact .tail _ m1
  have oB:Asn.blk U.ub (tbC U ac X.P.length ae) 86∈O:=by rw[hO];exact .head _
  have H4:Hp f w v3.drew (AU ah z.tb T::.blk z.ub (tbC z g X.P.length u) 86::Aj ag z.wb (X.words T).1::.imap z.sb .i64 (smC X.S)::pgsA pf g u X.P::.smap z.qb (gC Ag X.Q)::.own 3 1 ma a.length mc (AO a)::.own 9 1 na nm.length nc (BI nm)::(O++Z1)):=H3.drew.perm (by
   refine AL fun ff gg A B C G=>?_
   simp only[C,B,A,append_eq,nil_append,cons_append,append_nil];omega)
  clear H3;refine AA rfl ⟨_,H4.lo nPT,AA rfl ⟨_,a0 H4 (cp oB) rMIS rfl EQ4,?_⟩⟩
  have bp:=QZ (H4.ok (AU ah z.tb T) (.head _)) U.sb X.S ma a.length mc a (fun W hW=>H4.keep (x:=.imap U.sb .i64 (smC X.S)) (.tail _ (.tail _ (.tail _ (.tail _ (.tail _ (.tail _ (.tail _ (mem_append_left _ oS)))))))) W hW) (fun W hW=>by
   have:Own W 0 3 1 ma a.length mc (AO a):=H4.keep (x:=.own 3 1 ma a.length mc (AO a)) m5 W hW
   exact this.cells) rfl aw
  refine AC bp ?_;rintro _ v4 ⟨b9,mb,rfl,Hb⟩;have H5:=H4.use1 Hb;clear H4 Hb bp
  have cr:IP T X.S a=X.spans T o:=by rw[Tab.spans,al]
  rw[cr]at H5;obtain⟨S,hS⟩:∃S,S=X.spans T o:=⟨_,rfl⟩;rw[<- hS]at H5;refine⟨some mb,rfl,AA rfl ?_⟩;rw[add_lit];refine Hp.st (o:=0+1) H5.BD EQ4 rMIS rfl rfl (by simp[tbC]) (cs':=[.pointer (some ⟨z.tb,0,none⟩),.map (some mb),.pointer (some ⟨z.wb,0,none⟩),.slice g X.P.length u,.map (some z.qb)]) rfl fun v5 H6=>?_;clear H5;intro db v6 cb xb v7 bh;obtain⟨y,hy⟩:∃y:WN,y=⟨xb,db,z.ub,z.tb,mb,z.wb,z.qb⟩:=⟨_,rfl⟩;have H7:=(H6.newP EQ4 cb).new (cs:=wrC y) EQ4 (by rw[hy];exact bh);clear H6 cb bh
  have H8:Hp f w v7 (.blk z.ub [.pointer (some ⟨z.tb,0,none⟩),.map (some mb),.pointer (some ⟨z.wb,0,none⟩),.slice g X.P.length u,.map (some z.qb)] 86::AU b9 z.tb T::.imap mb .i64 (smC S)::Aj ag z.wb (X.words T).1::pgsA pf g u X.P::.smap z.qb (gC Ag X.Q)::IA db []::.blk xb (wrC y) 112::(O++(.imap z.sb .i64 (smC X.S)::.own 3 1 ma a.length mc (AO a)::.own 9 1 na nm.length nc (BI nm)::Z1))):=H7.perm (by
   refine AL fun ff gg A B C G=>?_
   simp only[C,B,A,append_eq,nil_append,cons_append,append_nil];omega)
  clear H7;generalize dd:(Asn.imap z.sb .i64 (smC X.S)::.own 3 1 ma a.length mc (AO a)::.own 9 1 na nm.length nc (BI nm)::Z1)=Z2 at H8;refine AC (ND z.ub z.tb mb z.wb (.slice g X.P.length u) (.map (some z.qb)) b9 ag T S (X.words T).1 H8) ?_;rintro _ v8 ⟨rb,a9,rfl,H9⟩;clear H8;obtain⟨R,hR⟩:∃R,R=DL T S (X.words T).1:=⟨_,rfl⟩
  have de:R.length<=40000:=by rw[hR];exact Q4 b4 cq.len
  have ct:(R.map (·.1)).Nodup:=by rw[hR];exact MZ T S _
  have cd:∀e∈R,e.1.size<=6:=by rw[hR];exact QX T S _
  rw[<- hR]at H9;have dg:=ab.ql
  have ba:Hp f w v8 (wrL y pf g u ⟨X.P,X.Q,[]⟩++(.smap rb (gC rwV R)::AU a9 z.tb T::.imap mb .i64 (smC S)::Aj ag z.wb (X.words T).1::(O++Z2))):=H9.perm (by
   refine AL fun ff gg A B C G=>?_;have e1:dC []=[]:=rfl
   have e2:tbC y g X.P.length u=[.pointer (some ⟨z.tb,0,none⟩),.map (some mb),.pointer (some ⟨z.wb,0,none⟩),.slice g X.P.length u,.map (some z.qb)]:=by rw[hy];rfl
   have e3:y.qb=z.qb/\y.db=db/\y.xb=xb/\y.ub=z.ub:=by rw[hy];exact⟨rfl,rfl,rfl,rfl⟩
   simp only[wrL,e1,e2,e3.1,e3.2.1,e3.2.2.1,e3.2.2.2,C,B,A,append_eq,nil_append,cons_append,append_nil];omega)
  clear H9
  have cu:(some ⟨xb,0,none⟩:Option Addr)=some ⟨y.xb,0,none⟩:=by rw[hy]
  rw[cu];refine⟨some rb,rfl,AC (Ql y pf g u ⟨X.P,X.Q,[]⟩ ab.st rb R ct cd (by omega) (show X.Q.length<=1000000 by omega) ba) ?_⟩;rintro _ v9 ⟨bb,K,N,rfl,am⟩;clear ba
  have bq:Jt R ⟨X.P,X.Q,[]⟩=X.wr T o:=by rw[hR,hS];rfl
  rw[bq]at am⊢;obtain⟨st,bi⟩:∃st,st=(X.wr T o).1:=⟨_,rfl⟩
  have c:CB st (X.Q.length+3*R.length):=by
   rw[bi,<- bq];exact Y2 ab.st cd
  have cv:∀x∈st.Q.map (·.1),x∈R.map (·.1):=fun x hx=>by
   rw[bi,<- bq]at hx;exact Uj ab.st.qn hx
  have cw:st.D.length<=1000000:=by
   have h3:st.D.length<=4096*120:=by
    have h4:=JM (l:=st.D.map (·.1)) (l':=(List.range 4096).flatMap fun(i:Nat)=>(List.range 120).map fun(k:Nat)=>((i:Int),(k:Int))) c.dn fun p hp=>by
     obtain⟨e,he,rfl⟩:=mem_map.1 hp;have h5:=c.d e he;have h6:=c.len;refine List.mem_flatMap.2 ⟨e.1.1.toNat,List.mem_range.2 (by omega),mem_map.2 ⟨e.1.2.toNat,List.mem_range.2 (by omega),?_⟩⟩;exact Prod.ext (by show((e.1.1.toNat:Nat):Int)=e.1.1;omega) (by show((e.1.2.toNat:Nat):Int)=e.1.2;omega)
    rw[length_map,List.length_flatMap]at h4;simp only[length_map,List.length_range,List.map_const',List.sum_replicate_nat]at h4;exact h4
   omega
  rw[<- bi]at am;refine⟨_,rfl,AV (fun h3=>?_) (fun h3=>?_)⟩
  ·refine S9 (z1:=U) (opa:=ac) (opc:=ae) (opf:=ak) (otf:=an) (owf:=ao) (Z:=wrL y bb K N st++(.smap rb (gC rwV R)::AU a9 z.tb T::.imap mb .i64 (smC S)::Aj ag z.wb (X.words T).1::Z2)) ab (by rw[doP,if_neg (fun hh=>hh h1),<- hT,if_neg (fun hh=>hh h2),if_pos h3]) (am.perm ?_)
   rw[<- hO];refine AL fun ff gg A B C G=>?_;simp only[C,B,A,append_eq,nil_append,cons_append,append_nil];omega
  have ce:Hp f w v9 (IA y.db (dC st.D)::.blk y.xb (wrC y) 112::.blk y.ub (tbC y K st.P.length N) 86::pgsA bb K N st.P::.blk U.ub (tbC U ac X.P.length ae) 86::pgsA ak ac ae X.P::(.smap y.qb (gC Ag st.Q)::AU a9 z.tb T::.imap mb .i64 (smC S)::Aj ag z.wb (X.words T).1::(.smap rb (gC rwV R)::AU an U.tb X.T::.imap U.sb .i64 (smC X.S)::Aj ao U.wb X.W::.smap U.qb (gC Ag X.Q)::Z2))):=am.perm (by
   refine AL fun ff gg A B C G=>?_
   simp only[wrL,hO,tabL,C,B,A,append_eq,nil_append,cons_append,append_nil];omega)
  clear am
  refine AC (MR y bb K N st.P st.D (fun e he=>by
   have h5:=c.d e he;have h6:=c.len
   exact⟨h5.2.2.1,by omega,h5.2.2.2.2.1,h5.2.2.2.2.2⟩) c.dn cw U.ub (tbC U ac X.P.length ae) ak ac ae X.P rfl ce) ?_
  rintro _ va ⟨ca,cc,rfl,bv⟩;clear ce
  have cx:(some ⟨z.ub,0,none⟩:Option Addr)=some ⟨y.ub,0,none⟩:=by rw[hy]
  rw[cx];refine⟨ca,_,cc,rfl,AA rfl ⟨some ⟨y.tb,0,none⟩,some y.sb,some ⟨y.wb,0,none⟩,K,st.P.length,N,some y.qb,bv.loA lagg,AA rfl ?_⟩⟩;refine Hp.stA bv.D8 EQ4 lagg (vs:=tbC y K st.P.length N) rfl rfl (by simp[tbC]) (cs':=tbC y K st.P.length N) rfl fun vb cy=>?_;clear bv
  have bw:y.tb=z.tb/\y.sb=mb/\y.wb=z.wb:=by rw[hy];exact⟨rfl,rfl,rfl⟩
  obtain⟨X2,bj⟩:∃X2:Tab,X2=⟨T,S,(X.words T).1,st.P,st.Q⟩:=⟨_,rfl⟩
  have bx:Vr X2:=by
   rw[bj];refine⟨⟨c.len,c.q,c.qn,c.key,fun e he=>(by cases he),.nil⟩,?_⟩;have:=JM c.qn cv;rw[length_map,length_map]at this;show st.Q.length<=500000;omega
  have cz:doP X o=(X2,(X.T.edit o).2.1,DR X.P st.P st.D,0):=by
   rw[doP,if_neg (fun hh=>hh h1),<- hT,if_neg (fun hh=>hh h2),if_neg (fun hh=>hh h3),bj,bi,hS]
  rw[RX,cz];obtain⟨y2,bk⟩:∃y2:WN,y2= {y with ub:=U.ub}:=⟨_,rfl⟩
  have c0:Hp f w vb (tabL y2 K N bb a9 ag X2++(.own 55 4 ca (DR X.P st.P st.D).length cc (cgsC (DR X.P st.P st.D))::(.blk y.ub (tbC y K st.P.length N) 86::pgsA ak ac ae X.P::.smap rb (gC rwV R)::AU an U.tb X.T::.imap U.sb .i64 (smC X.S)::Aj ao U.wb X.W::.smap U.qb (gC Ag X.Q)::Z2))):=cy.perm (by
   refine AL fun ff gg A B C G=>?_
   have e1:tbC y2 K X2.P.length N=tbC y K st.P.length N:=by rw[bk,bj];rfl
   have c1:tbC y2 K st.P.length N=tbC y K st.P.length N:=by rw[bk];rfl
   have e2:y2.ub=U.ub/\y2.tb=z.tb/\y2.sb=mb/\y2.wb=z.wb/\y2.qb=y.qb:=by rw[bk];exact⟨rfl,bw.1,bw.2.1,bw.2.2,rfl⟩
   have e3:X2.T=T/\X2.S=S/\X2.W=(X.words T).1/\X2.P=st.P/\X2.Q=st.Q:=by rw[bj];exact⟨rfl,rfl,rfl,rfl,rfl⟩
   simp only[tabL,e1,c1,e2.1,e2.2.1,e2.2.2.1,e2.2.2.2.1,e2.2.2.2.2,e3.1,e3.2.1,e3.2.2.1,e3.2.2.2.1,e3.2.2.2.2,C,B,A,append_eq,nil_append,cons_append,append_nil];omega)
  obtain⟨f3,c3⟩:=c0.DJ (Q:=tabQ U.ub X2) ⟨y2,K,N,bb,a9,ag,by rw[bk],bx,rfl⟩;exact⟨f3,ca,cc,rfl,Hp.BP (L:=[_,_]) c3⟩
 ·intro J hJ
  refine⟨o.kind,H9.lo yInt,AB (fun hk=>?_) (fun hk=>?_)⟩
  ·have b0:Tab.moved T o=Zc T o.id:=by rw[Tab.moved,if_pos hk]
   refine AA rfl ⟨_,H9.lo nPT,AC (Ip (H9.ok (AU bc z.tb T) (.head _))) ?_⟩;rintro _ w4 ⟨c4,oa,oc,rfl,ba⟩;have am:=H9.use1 ba;clear H9 ba;refine⟨_,_,_,rfl,?_⟩;obtain⟨Z,hZ⟩:∃Z:List Asn,Z=.imap z.sb .i64 (smC X.S)::Aj wf z.wb X.W::pgsA pf g u X.P::.smap z.qb (gC Ag X.Q)::.blk eb (opC o la n lc) 45::(O++[.own 3 1 oa T.L.length oc (AO (T.L.map (·.id)))]):=⟨_,rfl⟩
   have cf:∀j,j<=T.L.length->((T.L.map (·.id)).take j).length=j:=fun j hj=>by rw[length_take,length_map];omega
   refine AP.mk (fun q s w'=>∃(j:Nat)(ap:List Nat)(ma:Option Addr)(mc:Nat)(a:List Int)(Y:List Asn),q=T.L.length-j/\j<=T.L.length/\s=((ma,a.length,mc),(j:Int))/\a=((T.L.map (·.id)).take j).filter (fun x=>TI T x o.id)/\Hp f w w' (AU ap z.tb T::.blk z.ub (tbC z g X.P.length u) 86::.own 3 1 ma a.length mc (AO a)::(Z++Y))) T.L.length ⟨0,c4,none,0,[],[],rfl,by omega,rfl,by simp,(am.nilS 3 1).perm ?_⟩ ?_
   ·refine AL fun ff gg A B C G=>?_
    have e1:AO []=[]:=rfl;simp only[e1,hZ,length_nil,C,B,A,append_eq,nil_append,cons_append,append_nil];omega
   clear am;rintro q s w5 nx ⟨j,aa,ma,mc,a,Y,rfl,hj,rfl,aq,H⟩ cg;dsimp only
   have da:a.length<=j:=by
    rw[aq];exact Nat.le_trans (List.length_filter_le _ _) (Nat.le_of_eq (cf j hj))
   have ch:∀{x:Asn},x∈Z->x∈AU aa z.tb T::.blk z.ub (tbC z g X.P.length u) 86::.own 3 1 ma a.length mc (AO a)::(Z++Y):=fun h=>.tail _ (.tail _ (.tail _ (mem_append_left _ h)));refine AB (fun h2=>?_) (fun h2=>?_)
   ·have bl:j<T.L.length:=by omega
    obtain⟨r,ci⟩:∃r,r=T.L[j]:=⟨_,rfl⟩
    have hr:T.L[j]? =some r:=by rw[ci];exact List.getElem?_eq_getElem bl
    have c5:(AO (T.L.map (·.id)))[j]? =some (.int .i64 r.id):=by simp[AO,hr]
    have cj:(T.L.map (·.id)).take (j+1)=(T.L.map (·.id)).take j++[r.id]:=by
     rw[take_succ_eq_append_getElem (by rw[length_map];exact bl)];rw[List.getElem_map,<- ci]
    obtain⟨ad,c6,c7⟩:=H.ldO (w':=w5) (o:=j) EQ4 yInt (ch (by rw[hZ];exact .tail _ (.tail _ (.tail _ (.tail _ (.tail _ (mem_append_right _ (.head _)))))))) c5;refine Am.mk (fun t w'=>∃(ap:List Nat)(bm:Option Addr)(bo:Nat)(av:List Int)(Y':List Asn),t=(bm,av.length,bo)/\av=((T.L.map (·.id)).take (j+1)).filter (fun x=>TI T x o.id)/\Hp f w w' (AU ap z.tb T::.blk z.ub (tbC z g X.P.length u) 86::.own 3 1 bm av.length bo (AO av)::(Z++Y'))) ?_ ?_
    ·rintro t w6 ⟨ap,bm,bo,av,Y',rfl,h3,h4⟩
     exact⟨iR,cg (T.L.length-(j+1)) _ _ (by omega) ⟨j+1,ap,bm,bo,av,Y',rfl,by omega,rfl,h3,h4⟩⟩
    ·intro J hJ
     refine AA c6 ⟨⟨by omega,h2⟩,r.id,by rw[Int.toNat_natCast,Nat.mul_one];exact c7,o.id,H.ld (o:=1) (cs:=opC o la n lc) EQ4 yInt (ch (by rw[hZ];exact .tail _ m3)) rfl,?_⟩;refine AC (nBelow_spec z.ub z.tb (tbC z g X.P.length u) 86 rfl aa T r.id o.id H) ?_;rintro _ w6 ⟨ah,rfl,H2⟩;refine⟨_,rfl,F6 (fun h3=>fun yb w7 bh=>?_) (fun h3=>hJ _ _ ⟨ah,ma,mc,a,Y,rfl,?_,H2⟩)⟩
     ·have H3:=H2.nw bh
      refine Hp.app MP (by omega) H3.D8 EQ4 (Blk.src (P:=Tryz.prog) NF (H3.blk (.head _)) rfl rfl) (by simp only[maxLen];omega) (by omega) ?_;intro a2 c2 w8 H4;refine hJ _ _ ⟨ah,a2,c2,a++[r.id],.blk yb [.int .i64 r.id] 3::Y,by simp,?_,H4.perm ?_⟩
      ·rw[cj,List.filter_append,<- aq]
       simp[h3]
      ·refine AL fun ff gg A B C G=>?_
       have e1:AO (a++[r.id])=AO a++[.int .i64 r.id]:=by simp[AO]
       simp only[e1,length_append,length_cons,length_nil,Nat.zero_add,C,B,A,append_eq,nil_append,cons_append];omega
     ·rw[cj,List.filter_append,<- aq]
      simp[h3]
   clear cg
   have bl:j=T.L.length:=by omega
   have al:a=Tab.moved T o:=by
    rw[b0,Zc,aq,bl,take_of_length_le (by rw[length_map];exact Nat.le_refl _)]
   have HT:Hp f w w5 (AU aa z.tb T::.blk z.ub (tbC z g X.P.length u) 86::.imap z.sb .i64 (smC X.S)::Aj wf z.wb X.W::pgsA pf g u X.P::.smap z.qb (gC Ag X.Q)::.own 3 1 ma a.length mc (AO a)::(O++(.blk eb (opC o la n lc) 45::.own 3 1 oa T.L.length oc (AO (T.L.map (·.id)))::Y))):=H.perm (by
    refine AL fun ff gg A B C G=>?_
    simp only[hZ,C,B,A,append_eq,nil_append,cons_append,append_nil];omega)
   clear H
   have aw:a.length<=100000:=by omega
   exact hJ _ _ ⟨aa,ma,mc,a,_,rfl,al,aw,HT⟩
  ·have b0:Tab.moved T o=[]:=by rw[Tab.moved,if_neg hk]
   obtain⟨a,ar⟩:∃a:List Int,a=[]:=⟨_,rfl⟩
   have al:a=Tab.moved T o:=by rw[b0,ar]
   obtain⟨aa,ck⟩:∃aa,aa=bc:=⟨_,rfl⟩;rw[<- ck]at H9
   have HT:Hp f w w3 (AU aa z.tb T::.blk z.ub (tbC z g X.P.length u) 86::.imap z.sb .i64 (smC X.S)::Aj wf z.wb X.W::pgsA pf g u X.P::.smap z.qb (gC Ag X.Q)::.own 3 1 none a.length 0 (AO a)::(O++[.blk eb (opC o la n lc) 45])):=(H9.nilS 3 1).perm (by
    refine AL fun ff gg A B C G=>?_;have e1:AO []=[]:=rfl
    simp only[ar,e1,length_nil,C,B,A,append_eq,nil_append,cons_append,append_nil];omega)
   clear H9
   have aw:a.length<=100000:=by rw[ar];exact Nat.zero_le _
   have cl:a.length=0:=by rw[ar];rfl
   exact hJ _ _ ⟨aa,none,0,a,_,by rw[cl],al,aw,HT⟩
end
noncomputable section
open Go Go.Vc Go.Nod
theorem RI(l:List UInt8)(i j:Nat):(bts l).extract i j=bts ((l.take j).drop i):=XM l i j
theorem F7.none{W:List ByteArray}{al:List (ByteArray×Value)}(h:F7 W al):F7 (W++[none0]) al:=by
 refine⟨h.apart,fun n v=>?_⟩;rw[h.iff];constructor
 ·rintro⟨k,a,b,c⟩
  exact⟨k,by rw[List.getElem?_append_left (List.getElem?_eq_some_iff.1 a).1];exact a,b,c⟩
 ·rintro⟨k,a,b,c⟩
  refine⟨k,?_,b,c⟩;by_cases e:k<W.length
  ·rwa [List.getElem?_append_left e]at a
  ·have d:=(List.getElem?_eq_some_iff.1 a).1
   have:k=W.length:=by simp at d;omega
   subst this;rw[List.getElem?_concat_length]at a;cases a;exact(b rfl).elim
theorem F7.some{W:List ByteArray}{al:List (ByteArray×Value)}(h:F7 W al){s:ByteArray}(n:s≠none0)(hn:s∉W):aget al s=Option.none/\F7 (W++[s]) (aput al s (.int .i64 ((W.length:Int)+1))):=by
 have f:s∉al.map (·.1):=fun o=>by
  obtain⟨⟨a,v⟩,g,rfl⟩:=mem_map.1 o;obtain⟨k,b,_⟩:=(h.iff a v).1 g;exact hn (mem_of_getElem? b)
 refine⟨JE.2 f,?_⟩;rw[LC _ _ _ f];refine⟨?_,fun m v=>?_⟩
 ·rw[Ef,map_append,List.nodup_append]
  exact⟨h.apart,by simp,fun a p c l e=>by rw[map_cons,map_nil,mem_singleton]at l;subst l;exact f (e▸p)⟩
 ·rw[mem_append,mem_singleton,h.iff]
  constructor
  ·rintro(⟨k,b,i,d⟩|b)
   ·exact⟨k,by rw[List.getElem?_append_left (List.getElem?_eq_some_iff.1 b).1];exact b,i,d⟩
   ·cases b
    exact⟨W.length,List.getElem?_concat_length,n,rfl⟩
  ·rintro⟨k,b,i,d⟩
   by_cases q:k<W.length
   ·rw[List.getElem?_append_left q]at b
    exact .inl ⟨k,b,i,d⟩
   ·have j:=(List.getElem?_eq_some_iff.1 b).1
    have:k=W.length:=by simp at j;omega
    subst this;rw[List.getElem?_concat_length]at b;cases b;exact .inr (by rw[d])
theorem xLoad_spec(la:Option Addr)(ln lc:Nat)(l:List ByteArray)(w:World)(hL:Cells w la (BI l))(hll:ln=l.length)(hW:WOk l):
  Calls Tryz.prog 66 #[.slice la ln lc] w fun e w'=>∃f b,e=.returned (.tuple #[.pointer (some ⟨b,0,none⟩),.int .i64 0])/\Hp [] w w' [Aj f b l]:=by
 apply xLoad.ok;unfold xLoad.vc
 have hlen:=hW.len
 refine AC (Vm w) ?_
 rintro _ w1 ⟨b,f,rfl,H1⟩
 obtain⟨M,⟨_,mb,a,c,al,hN,rfl⟩,H2,_⟩:=H1.unpack
 clear H1
 refine⟨_,rfl,?_⟩
 have H3:Hp [] w w1 (.blk b [.slice a ([]:List ByteArray).length c,.map (some mb)] 150::.own 167 2 a ([]:List ByteArray).length c (Ai [])::.smap mb al::[]):=H2
 clear H2
 refine AP.mk (fun q s w'=>∃(j:Nat)(a:Option Addr)(c:Nat)(al:List (ByteArray×Value))(X:List Asn),q=ln-j/\j<=ln/\s=(j:Int)/\F7 (l.take j) al/\Hp [] w w' (.blk b [.slice a j c,.map (some mb)] 150::.own 167 2 a j c (Ai (l.take j))::.smap mb al::X)) ln ⟨0,a,c,al,[],rfl,by omega,rfl,by rw[take_zero];exact hN,by rw[take_zero];exact H3⟩ ?_
 clear H3 hN
 rintro q s w2 nx ⟨j,a,c,al,X,rfl,hj,rfl,hN,H⟩ hnx
 refine AB (fun h1=>?_) (fun h1=>?_)
 ·have hjl:j<l.length:=by omega
  obtain⟨x,hxe⟩:∃x,x=l[j]:=⟨_,rfl⟩
  have hx:l[j]? =some x:=by rw[hxe];exact List.getElem?_eq_getElem hjl
  have htk:l.take (j+1)=l.take j++[x]:=by rw[take_succ_eq_append_getElem hjl,hxe]
  have hlt:(l.take j).length=j:=by rw[length_take];omega
  have hc2:=hL.chg H.chg (by simp)
  obtain⟨ad,had,_⟩:=hc2 _ _ (Dk hx)
  have hnew:x≠none0->x∉l.take j:=fun hx0 hm=>by
   obtain⟨i,hi⟩:=List.getElem?_of_mem hm
   have hil:=(List.getElem?_eq_some_iff.1 hi).1
   rw[List.getElem?_take_of_lt (by omega)]at hi
   have:=hW.one i j x hi hx hx0
   omega
  refine AA had ⟨⟨by omega,h1⟩,x,by rw[Int.toNat_natCast,Nat.mul_one];exact hc2.ld yStr had (Dk hx),AA rfl ⟨some mb,by rw[add_lit];exact H.ld (o:=1) (cs:=[.slice a j c,.map (some mb)]) EQ4 kMSI (.head _) rfl,?_⟩⟩
  obtain⟨z,hz⟩:∃z:Int,(aget al x).getD (.int .i64 0)=.int .i64 z:=by
   cases e:aget al x with
   |none=>exact⟨0,rfl⟩
   |some v=>
    have hKm:=(Ei hN.apart).1 e
    obtain⟨k,_,_,h3⟩:=(hN.iff x v).1 hKm
    exact⟨_,h3⟩
  refine⟨z,_,H.Wl IG EQ4 (.tail _ (.tail _ (.head _))) hz rfl,AB (fun h2=>by omega) (fun _=>?_)⟩
  refine Am.mk (fun t w'=>t=false/\Hp [] w w' (.blk b [.slice a j c,.map (some mb)] 150::.own 167 2 a j c (Ai (l.take j))::.smap mb al::X)) ?_ ?_
  ·rintro t w3 ⟨rfl,H3⟩
   refine BA (x:=_) (AB (fun h3=>?_) (fun h3=>?_))
   ·refine AA rfl ⟨a,j,c,H3.ld (o:=0) (cs:=[.slice a j c,.map (some mb)]) EQ4 kSW (.head _) rfl,fun yb w4 hn4=>?_⟩
    have H4:=H3.new (cs:=[.string none0,.int .i64 0]) EQ4 hn4
    refine Hp.app bg (by omega) H4.BD EQ4 (Blk.src (P:=Tryz.prog) dG (H4.blk (.head _)) rfl rfl) (by simp only[maxLen];omega) (by omega) ?_
    intro a2 c2 w5 H5
    refine AA rfl (Hp.st (o:=0) H5.BD EQ4 kSW rfl rfl (by simp) (cs':=[.slice a2 (j+1) c2,.map (some mb)]) rfl fun w6 H6=>⟨DD.2 (by omega),hnx (ln-(j+1)) _ _ (by omega) ⟨j+1,a2,c2,al,.blk yb [.string none0,.int .i64 0] 167::X,rfl,by omega,rfl,?_,H6.perm ?_⟩⟩)
    ·rw[htk,h3];exact hN.none
    ·have e1:Ai (l.take (j+1))=Ai (l.take j)++[.string none0,.int .i64 0]:=by rw[htk,h3,KA];rfl
     refine AL fun ff gg h0 hc ha hpm=>?_
     simp only[I,Q,e1,ha,hc,h0,append_eq,nil_append,cons_append];omega
   ·have hu:useW x=1:=by rw[useW,if_neg h3]
    obtain⟨_,hN2⟩:=hN.some h3 (hnew h3)
    rw[hlt]at hN2
    refine AA rfl ⟨a,j,c,H3.ld (o:=0) (cs:=[.slice a j c,.map (some mb)]) EQ4 kSW (.head _) rfl,fun yb w4 hn4=>?_⟩
    have H4:=H3.new (cs:=[.string x,.int .i64 1]) EQ4 hn4
    refine Hp.app bg (by omega) H4.BD EQ4 (Blk.src (P:=Tryz.prog) dG (H4.blk (.head _)) rfl rfl) (by simp only[maxLen];omega) (by omega) ?_
    intro a2 c2 w5 H5
    refine AA rfl (Hp.st (o:=0) H5.BD EQ4 kSW rfl rfl (by simp) (cs':=[.slice a2 (j+1) c2,.map (some mb)]) rfl fun w6 H6=>?_)
    refine AA rfl ⟨some mb,by rw[add_lit];exact H6.ld (o:=1) (cs:=[.slice a2 (j+1) c2,.map (some mb)]) EQ4 kMSI (.head _) rfl,DD.2 (by omega),?_⟩
    refine Hp.mupS IG H6.D8 EQ4 fun w7 H7=>⟨DD.2 (by omega),hnx (ln-(j+1)) _ _ (by omega) ⟨j+1,a2,c2,_,.blk yb [.string x,.int .i64 1] 167::X,rfl,by omega,rfl,by rw[htk];exact hN2,H7.perm ?_⟩⟩
    have e1:Ai (l.take (j+1))=Ai (l.take j)++[.string x,.int .i64 1]:=by rw[htk,KA,<- hu];rfl
    refine AL fun ff gg h0 hc ha hpm=>?_
    simp only[I,Q,e1,ha,hc,h0,append_eq,nil_append,cons_append];omega
  ·intro J hJ
   refine AV (fun h3=>?_) (fun h3=>hJ _ _ ⟨rfl,H⟩)
   refine AC (IE x w2) ?_
   rintro _ w3 ⟨rfl,H3⟩
   have hnm:Cb x:=(hW.ok x (mem_of_getElem? hx)).resolve_left h3
   refine⟨_,rfl,F5 (fun h4=>(h4 hnm).elim) (fun _=>hJ _ _ ⟨?_,H.ext0 H3⟩)⟩
   rw[(hN.some h3 (hnew h3)).1];rfl
 ·have hjl:j=l.length:=by omega
  subst hjl
  rw[take_length]at H hN
  refine AP.mk (fun q _ w'=>∃(a:Option Addr)(c:Nat)(X:List Asn),Hp [] w w' (.blk b [.slice a l.length c,.map (some mb)] 150::.own 167 2 a l.length c (Ai l)::.smap mb al::X)) 0 ⟨a,c,X,H⟩ ?_
  clear H hnx
  rintro q _ w3 nx ⟨a,c,X,H⟩ _
  have fin:∃f' b',Ending.returned (.tuple #[.pointer (some ⟨b,0,none⟩),.int .i64 0])=.returned (.tuple #[.pointer (some ⟨b',0,none⟩),.int .i64 0])/\Hp [] w w3.drew [Aj f' b' l]:=by
   obtain⟨f',H2⟩:=(H.drew:Hp [] w w3.drew (JV b mb a c l al++X)).DJ (Q:=UT b l) ⟨hW,mb,a,c,al,hN,rfl⟩
   exact⟨f',b,rfl,Hp.BP (L:=[_]) H2⟩
  have ldW:∀{W':World},Eqw w3 W'->Ld Tryz.prog 148 W' ⟨b,0,none⟩ (.slice a l.length c):=fun he=>H.ld (o:=0) (cs:=[.slice a l.length c,.map (some mb)]) he kSW (.head _) rfl
  refine AA rfl ⟨a,l.length,c,ldW EQ4,AB (fun h2=>?_) (fun h2=>fin)⟩
  obtain⟨x,hxe⟩:∃x,x=l[l.length-1]:=⟨_,rfl⟩
  have hx:l[l.length-1]? =some x:=by rw[hxe];exact List.getElem?_eq_getElem (by omega)
  have hx0:x≠none0:=fun e=>hW.last (by rw[List.getLast?_eq_getElem?,hx,e])
  have ho:Own w3 0 167 2 a l.length c (Ai l):=H.ownA (.tail _ (.head _))
  obtain⟨g,hg⟩:=ho.CV (by omega)
  have hod:Cells w3.drew a (Ai l):=ho.cells
  have e1:((l.length:Int)-1).toNat=l.length-1:=by omega
  refine AA rfl ⟨a,l.length,c,ldW EQ4,AA rfl ⟨a,l.length,c,ldW EQ4,DD.2 (by omega),AA hg ⟨⟨by omega,by omega⟩,useW x,?_,AB (fun h3=>(hx0 ((JH _).1 h3)).elim) (fun h3=>fin)⟩⟩⟩
  rw[add_add,e1];exact hod.ld yInt hg (GH hx)
def ldC(ub:Nat)(next:Int)(wa:Option Addr)(wn wc pb:Nat)(aa:Option Addr)(an ac:Nat):List Value:=[.pointer (some ⟨ub,0,none⟩),.int .i64 next,.slice wa wn wc,.map (some pb),.slice aa an ac]
def padW(V:List ByteArray)(n:Nat):List ByteArray:=V++List.replicate (n-V.length) none0
def Xp(V:List ByteArray)(l:List UInt8):Option (List ByteArray):=
 if l.length<4\/valN ((l.take 3).drop 1)<1\/4000<valN ((l.take 3).drop 1)then none
 else some ((padW V (valN ((l.take 3).drop 1))).set (valN ((l.take 3).drop 1)-1) (bts (l.drop 3)))
theorem rSS:Scl Tryz.prog 106:=BK (by kernel_rfl)
section
variable{B:List Nat}{w0 w:World}{L:List Asn}
theorem nWord_spec(xb ub:Nat)(next:Int)(wa:Option Addr)(wc pb:Nat)(aa:Option Addr)(an ac:Nat)(V V':List ByteArray)(l:List UInt8)(hV:V.length<=100000)(hw:Xp V l=some V')(hl:l.length<=maxLen)
  (H:Hp B w0 w (.blk xb (ldC ub next wa V.length wc pb aa an ac) 128::.own 9 1 wa V.length wc (BI V)::L)):
  Calls Tryz.prog 125 #[.pointer (some ⟨xb,0,none⟩),.string (bts l)] w fun e w'=>∃wa' wc',e=.returned (.bool true)/\Hp B w0 w' (.blk xb (ldC ub next wa' V'.length wc' pb aa an ac) 128::.own 9 1 wa' V'.length wc' (BI V')::L):=by
 apply nWord.ok;unfold nWord.vc
 rw[EU]
 obtain⟨n,hn⟩:∃n,n=valN ((l.take 3).drop 1):=⟨_,rfl⟩
 rw[Xp,<- hn]at hw
 by_cases hbad:l.length<4\/n<1\/4000<n
 ·rw[if_pos hbad]at hw;cases hw
 rw[if_neg hbad]at hw
 have hV':=(Option.some.inj hw).symm
 refine AB (fun h1=>by omega) (fun h1=>⟨⟨by omega,by omega,by omega⟩,?_⟩)
 rw[RI]
 show BL _ _ [.string (bts ((l.take 3).drop 1))] _ _
 refine AC (QV ((l.take 3).drop 1) (by rw[length_drop,length_take];omega) w) ?_
 rintro _ w1 ⟨rfl,H1⟩
 have H2:=H.ext0 H1
 clear H H1
 rw[<- hn]
 refine⟨_,rfl,AB (fun h2=>by omega) (fun h2=>AB (fun h3=>by omega) (fun h3=>?_))⟩
 refine AP.mk (fun q _ w'=>∃(j:Nat)(wa:Option Addr)(wc:Nat)(X:List Asn),q=(n-V.length)-j/\j<=n-V.length/\Hp B w0 w' (.blk xb (ldC ub next wa (V.length+j) wc pb aa an ac) 128::.own 9 1 wa (V.length+j) wc (BI (V++List.replicate j none0))::(L++X))) (n-V.length) ⟨0,wa,wc,[],rfl,by omega,by rw[append_nil];simpa using H2⟩ ?_
 clear H2
 rintro q _ w2 nx ⟨j,wa,wc,X,rfl,hj,H⟩ hnx
 refine AA rfl ⟨wa,V.length+j,wc,by rw[add_lit];exact H.ld (o:=2) (cs:=ldC ub next wa (V.length+j) wc pb aa an ac) EQ4 rSS (.head _) rfl,AB (fun h4=>?_) (fun h4=>?_)⟩
 ·refine AA rfl ⟨wa,V.length+j,wc,by rw[add_lit];exact H.ld (o:=2) (cs:=ldC ub next wa (V.length+j) wc pb aa an ac) EQ4 rSS (.head _) rfl,fun yb w3 hn3=>?_⟩
  have H3:=H.new (cs:=[.string none0]) EQ4 hn3
  refine Hp.app bH (by omega) H3.BD EQ4 (Blk.src (P:=Tryz.prog) df (H3.blk (.head _)) rfl rfl) (by simp only[maxLen];omega) (by omega) ?_
  intro a2 c2 w4 H4
  refine AA rfl ?_
  rw[add_lit]
  refine Hp.st (o:=0+2) H4.BD EQ4 rSS rfl rfl (by simp[ldC]) (cs':=ldC ub next a2 (V.length+(j+1)) c2 pb aa an ac) rfl fun w5 H5=>hnx (n-V.length-(j+1)) _ _ (by omega) ⟨j+1,a2,c2,.blk yb [.string none0] 9::X,rfl,by omega,H5.perm ?_⟩
  have e1:BI (V++List.replicate (j+1) none0)=BI (V++List.replicate j none0)++[.string none0]:=by
   rw[List.replicate_succ',<- append_assoc,BI,map_append];rfl
  have e2:V.length+j+1=V.length+(j+1):=by omega
  refine AL fun ff gg h0 hc ha hpm=>?_
  simp only[I,Q,e1,e2,ha,hc,h0,append_eq,nil_append,cons_append];omega
 ·have hjn:j=n-V.length:=by omega
  have hp:V++List.replicate j none0=padW V n:=by rw[hjn];rfl
  have hpl:(padW V n).length=V.length+j:=by rw[<- hp];simp
  rw[hp]at H
  have hln:n<=(padW V n).length:=by rw[hpl];omega
  have ho:Own w2 0 9 1 wa (V.length+j) wc (BI (padW V n)):=H.ownA (.tail _ (.head _))
  obtain⟨g,hg⟩:=ho.CV (by omega)
  have e1:((n:Int)-1).toNat=n-1:=by omega
  refine AA rfl ⟨wa,V.length+j,wc,by rw[add_lit];exact H.ld (o:=2) (cs:=ldC ub next wa (V.length+j) wc pb aa an ac) EQ4 rSS (.head _) rfl,DD.2 (by omega),⟨by omega,by omega⟩,AA hg ⟨⟨by omega,by omega⟩,?_⟩⟩
  rw[e1,Nat.mul_one,RI,show(l.take l.length).drop (Int.toNat 3)=l.drop 3 by rw[take_length];rfl]
  refine Hp.stO1 (o:=n-1) H.Ae EQ4 yStr hg rfl rfl (by rw[BI,length_map];omega) fun w3 H3=>⟨wa,wc,rfl,?_⟩
  have e2:(BI (padW V n)).set (n-1) (.string (bts (l.drop 3)))=BI V':=by rw[hV',BI,BI,List.map_set]
  have e3:V'.length=V.length+j:=by rw[hV',length_set,hpl]
  rw[e2]at H3
  rw[e3]
  exact Hp.BP (L:=_::_::L) (R:=X) H3.Ae
end
end
end Go.Proofs.YtljenkbpnioipaaGreat
namespace Go.Nod
open Go Go.Vc
section
variable{K V:Type}[DecidableEq K]
theorem SQ:∀(l:List (K×V))(k:K)(v:V),(gput l k v).Perm ((k,v)::gdel l k)
 | [],k,v=>.refl _
 |(y,u)::r,k,v=>by
  rw[gput,gdel];by_cases h:k=y
  ·rw[if_pos h,if_pos h,h]
  ·rw[if_neg h,if_neg h]
   exact((SQ r k v).cons _).trans (.swap _ _ _)
theorem Tj:∀(l:List (K×V))(k:K)(v:V),gget l k=some v->l.Perm ((k,v)::gdel l k)
 |(y,u)::r,k,v,h=>by
  rw[gget]at h;rw[gdel];by_cases e:k=y
  ·rw[if_pos e]at h⊢
   cases h;rw[e]
  ·rw[if_neg e]at h⊢
   exact((Tj r k v h).cons _).trans (.swap _ _ _)
theorem Vk:∀(l:List (K×V))(k:K),gget l k=none->gdel l k=l
 | [],k,_=>rfl
 |(y,u)::r,k,h=>by
  rw[gget]at h;rw[gdel];by_cases e:k=y
  ·rw[if_pos e]at h;cases h
  ·rw[if_neg e]at h⊢;rw[Vk r k h]
theorem U1:∀(l:List (K×V))(k:K)(v:V),gget l k=some v->gput l k v=l
 |(y,u)::r,k,v,h=>by
  rw[gget]at h;rw[gput];by_cases e:k=y
  ·rw[if_pos e]at h⊢;cases h;rfl
  ·rw[if_neg e]at h⊢;rw[U1 r k v h]
variable{U:Type}
theorem ZA(g:V->U):∀(l:List (K×V))(k:K),gget (l.map fun p=>(p.1,g p.2)) k=(gget l k).map g
 | [],k=>rfl
 |(y,u)::r,k=>by
  rw[map_cons,gget,gget];by_cases e:k=y
  ·rw[if_pos e,if_pos e];rfl
  ·rw[if_neg e,if_neg e];exact ZA g r k
theorem Y1(g:V->U):∀(l:List (K×V))(k:K)(v:V),(gput l k v).map (fun p=>(p.1,g p.2))=gput (l.map fun p=>(p.1,g p.2)) k (g v)
 | [],k,v=>rfl
 |(y,u)::r,k,v=>by
  rw[map_cons,gput,gput];by_cases e:k=y
  ·rw[if_pos e,if_pos e];rfl
  ·rw[if_neg e,if_neg e,map_cons,Y1 g r k v]
end
end Go.Nod
namespace Go.Proofs.YtljenkbpnioipaaGreat
noncomputable section
open Go Go.Vc Go.Nod
abbrev Pcs:=List (List UInt8)
abbrev PW:=Option Addr×Nat×Pcs
abbrev CM:=List (Int×Pcs)
def pwV(p:PW):Value:=.slice p.1 p.2.2.length p.2.1
def pwO(p:Int×PW):Asn:=.own 9 1 p.2.1 p.2.2.2.length p.2.2.1 (p.2.2.2.map sv)
def pcsQ(pb:Nat)(C:CM)(L:List Asn):Prop:=∃W:List (Int×PW),W.map (fun p=>(p.1,p.2.2.2))=C/\L=.imap pb .i64 (gC pwV W)::W.map pwO
def pcsA(f:List Nat)(pb:Nat)(C:CM):Asn:=pkA f (pcsQ pb C)
theorem aA:MapT Tryz.prog (DF .i64) 125 3 106 (.slice none 0 0):=⟨by kernel_rfl,by kernel_rfl,by kernel_rfl⟩
theorem tMIS:Scl Tryz.prog 125:=BK (by kernel_rfl)
def pcAt(C:CM)(i:Int):Pcs:=(gget C i).getD []
section
variable{B f:List Nat}{w0 w:World}{L:List Asn}{pb:Nat}{C:CM}
theorem pcs_nil(H:Hp B w0 w (.imap pb .i64 []::L)):∃a,Hp B w0 w (pcsA a pb []::L):=
 Hp.DJ (M:=[.imap pb .i64 []]) H ⟨[],rfl,rfl⟩
theorem Vq(H:Hp B w0 w (pcsA f pb C::L))(i:Int):∃(a:Option Addr)(c:Nat)(al:List (Int×Value))(X:Asn),(aget al i).getD (.slice none 0 0)=.slice a (pcAt C i).length c/\
  Hp B w0 w (.imap pb .i64 al::.own 9 1 a (pcAt C i).length c ((pcAt C i).map sv)::X::L)/\
  (∀w1 h a' c' l',Hp B w0 w1 (.imap pb .i64 (aput al i (.slice a' l'.length c'))::.own 9 1 a' l'.length c' (l'.map sv)::X::h)->∃s,Hp B w0 w1 (pcsA s pb (gput C i l')::h))/\
  (∀v,gget C i=some v->aput al i (.slice a (pcAt C i).length c)=al):=by
 obtain⟨M,⟨W,D,rfl⟩,F,_⟩:=H.unpack
 have j:gget C i=(gget W i).map (·.2.2):=by rw[<- D];exact ZA (fun p:PW=>p.2.2) W i
 have o:=LQ pwV W i
 have b:∀(r:List Asn),(gdel W i).map pwO=r->∀w1 h a' c' l',Hp B w0 w1 (.imap pb .i64 (aput (gC pwV W) i (.slice a' l'.length c'))::.own 9 1 a' l'.length c' (l'.map sv)::pkA (feet r) (fun M=>M=r)::h)->∃s,Hp B w0 w1 (pcsA s pb (gput C i l')::h):=fun r t w1 h a' c' l' N=>by
  obtain⟨T,u,G,_⟩:=N.BD.unpack;subst u;have O:aput (gC pwV W) i (.slice a' l'.length c')=gC pwV (gput W i (a',c',l')):=Nl pwV W i (a',c',l');rw[O]at G;have x:((gput W i (a',c',l')).map pwO).Perm (.own 9 1 a' l'.length c' (l'.map sv)::(gdel W i).map pwO):=(SQ W i (a',c',l')).map pwO
  have R:Hp B w0 w1 ((.imap pb .i64 (gC pwV (gput W i (a',c',l')))::(gput W i (a',c',l')).map pwO)++h):=G.perm (by
   refine AL fun ff q k g m d=>?_;have:=d _ _ x;simp only[g]at this
   simp only[<- t,this,m,g,k,append_eq,nil_append,cons_append];omega)
  exact R.DJ (Q:=pcsQ pb (gput C i l')) ⟨_,by rw[Y1 (fun p:PW=>p.2.2) W i (a',c',l'),D],rfl⟩
 cases e:gget W i with
 |none=>
  have n:pcAt C i=[]:=by rw[pcAt,j,e];rfl
  have y:Hp B w0 w ((gdel W i).map pwO++(.imap pb .i64 (gC pwV W)::L)):=F.perm (by
   refine AL fun ff q k g m d=>?_;rw[Vk W i e]
   simp only[m,g,k,append_eq,nil_append,cons_append];omega)
  have z:=y.pack (Q:=fun M=>M=(gdel W i).map pwO) rfl;refine⟨none,0,gC pwV W,_,?_,?_,b _ rfl,fun v A=>?_⟩
  ·rw[o,e,n];rfl
  ·rw[n];exact(z.nilS 9 1).BD
  ·rw[j,e]at A;cases A
 |some p=>
  obtain⟨a,c,l⟩:=p
  have n:pcAt C i=l:=by rw[pcAt,j,e];rfl
  have x:=(Tj W i (a,c,l) e).map pwO
  have y:Hp B w0 w ((gdel W i).map pwO++(.imap pb .i64 (gC pwV W)::.own 9 1 a l.length c (l.map sv)::L)):=F.perm (by
   refine AL fun ff q k g m d=>?_;have J:=d _ _ x;rw[map_cons]at J;simp only[g]at J;have Y:q (pwO (i,a,c,l))=q (.own 9 1 a l.length c (l.map sv)):=rfl
   simp only[m,g,k,append_eq,nil_append,cons_append];omega)
  have z:=y.pack (Q:=fun M=>M=(gdel W i).map pwO) rfl;refine⟨a,c,gC pwV W,_,?_,?_,b _ rfl,fun v A=>?_⟩
  ·rw[o,e,n];rfl
  ·rw[n];exact z.perm (by
    refine AL fun ff q k g m d=>?_
    simp only[m,g,k,append_eq,nil_append,cons_append];omega)
  ·rw[n]
   have:aput (gC pwV W) i (pwV (a,c,l))=gC pwV W:=by rw[Nl,U1 W i _ e]
   exact this
end
structure LdS where
 P:List Sl.Recs
 Q:QM
 next:Int
 V:List ByteArray
 C:CM
def Wx(st:LdS)(s:List UInt8):Option (Int×List ByteArray×CM):=match s with
 | []=>none
 |b::r=>
  if b.toNat=104 then(if r.length=4 then some ((valN r:Int),st.V,st.C)else none)
  else if b.toNat=119 then(Xp st.V s).map fun V'=>(st.next,V',st.C)
  else if b.toNat=110 then(Fol.D5 r).map fun h=>(st.next,st.V,gput st.C (h.1:Int) (pcAt st.C h.1++[r]))
  else none
def padP(P:List Sl.Recs)(n:Nat):List Sl.Recs:=P++List.replicate (n-P.length) []
def Rt(st:LdS)(c:Cg):Option LdS:=
 if c.gone=true\/c.page<0\/4096<=c.page then none
 else if(gget st.Q (CJ c.s)).isSome\/(Sl.lk (Cm (padP st.P (c.page.toNat+1)) c.page.toNat) c.slot).isSome\/(Sl.aput (Cm (padP st.P (c.page.toNat+1)) c.page.toNat) c.slot c.s.data.toList).2≠0 then none
 else(Wx st c.s.data.toList).map fun k=>⟨(padP st.P (c.page.toNat+1)).set c.page.toNat (Sl.aput (Cm (padP st.P (c.page.toNat+1)) c.page.toNat) c.slot c.s.data.toList).1,gput st.Q (CJ c.s) (c.page,c.slot),k.1,k.2.1,k.2.2⟩
def ldL(xb pb:Nat)(z:WN)(wa:Option Addr)(wc:Nat)(aa:Option Addr)(an ac:Nat)(cf pf:List Nat)(pa:Option Addr)(pc:Nat)(st:LdS):List Asn:=
 [.blk xb (ldC z.ub st.next wa st.V.length wc pb aa an ac) 128,.own 9 1 wa st.V.length wc (BI st.V),pcsA cf pb st.C,.blk z.ub (tbC z pa st.P.length pc) 86,pgsA pf pa pc st.P,.smap z.qb (gC Ag st.Q)]
structure LdOk(st:LdS)(N:Nat):Prop where
 P:st.P.length<=4096
 V:st.V.length<=4000
 C:∀i,(pcAt st.C i).length<=N
theorem wordP_len{V a:List ByteArray}{l:List UInt8}(h:Xp V l=some a)(b:V.length<=4000):a.length<=4000:=by
 rw[Xp]at h;split at h
 ·cases h
 ·cases h
  rw[length_set,padW,length_append,length_replicate];omega
theorem pcAt_put(C:CM)(i j:Int)(l:Pcs):pcAt (gput C i l) j=if j=i then l else pcAt C j:=by
 rw[pcAt,OB];split<;>rfl
theorem LdOk.take{st d:LdS}{N:Nat}{c:Cg}(h:LdOk st N)(b:Rt st c=some d):LdOk d (N+1):=by
 rw[Rt]at b;split at b
 ·cases b
 ·rename_i m
  split at b
  ·cases b
  ·obtain⟨⟨n,o,p⟩,a,j⟩:=Option.map_eq_some_iff.1 b
   subst j;have q:=h.P;refine⟨?_,?_,?_⟩
   ·rw[length_set,padP,length_append,length_replicate];omega
   ·rw[Wx.eq_def]at a
    split at a
    ·cases a
    ·split at a
     ·split at a
      ·cases a;exact h.V
      ·cases a
     ·split at a
      ·obtain⟨l,g,e⟩:=Option.map_eq_some_iff.1 a
       cases e;exact wordP_len g h.V
      ·split at a
       ·obtain⟨x,_,e⟩:=Option.map_eq_some_iff.1 a
        cases e;exact h.V
       ·cases a
   ·intro i
    have k:=h.C i;rw[Wx.eq_def]at a;split at a
    ·cases a
    ·split at a
     ·split at a
      ·cases a;exact Nat.le_succ_of_le k
      ·cases a
     ·split at a
      ·obtain⟨l,g,e⟩:=Option.map_eq_some_iff.1 a
       cases e;exact Nat.le_succ_of_le k
      ·split at a
       ·obtain⟨x,_,e⟩:=Option.map_eq_some_iff.1 a
        cases e;rw[pcAt_put];split
        ·rename_i e;subst e
         have:=h.C (x.1:Int);simp;omega
        ·exact Nat.le_succ_of_le k
       ·cases a
end
noncomputable section
open Go Go.Vc Go.Nod
theorem Uu(l:List UInt8):(bts l).data.toList=l:=by simp[bts]
section
variable{B:List Nat}{w0 w:World}{L:List Asn}
theorem nTake_spec(xb p:Nat)(z:WN)(t:Option Addr)(u:Nat)(aa:Option Addr)(an ac:Nat)(cf pf:List Nat)(pa:Option Addr)(pc:Nat)(st bd:LdS)(N:Nat)(av:LdOk st N)(hN:N<=1000000)(pg sl:Int)(l:List UInt8)(G:Bool)(T:Rt st ⟨pg,sl,bts l,G⟩=some bd)
  (H:Hp B w0 w (ldL xb p z t u aa an ac cf pf pa pc st++L)):
  Calls Tryz.prog 65 #[.pointer (some ⟨xb,0,none⟩),.agg (cgC ⟨pg,sl,bts l,G⟩).toArray] w fun e w'=>∃aw a7 a8 U b7 b8,e=.returned (.bool true)/\Hp B w0 w' (ldL xb p z aw a7 aa an ac a8 U b7 b8 bd++L):=by
 apply nTake.ok;unfold nTake.vc;rw[Rt]at T;dsimp only at T;split at T
 ·cases T
 rename_i h1
 have a9:G=false:=by
  cases G with
  |false=>rfl
  |true=>exact(h1 (.inl rfl)).elim
 subst a9;have cm:0<=pg/\pg<4096:=⟨by omega,by omega⟩;clear h1;split at T
 ·cases T
 rename_i h2;rw[Uu]at T h2;obtain⟨n,hn⟩:∃n:Nat,pg=(n:Int):=⟨pg.toNat,by omega⟩;rw[hn,Int.toNat_natCast]at T h2;obtain⟨P1,ba⟩:∃P1,P1=padP st.P (n+1):=⟨_,rfl⟩;rw[<- ba]at T h2;have cn:=av.P
 have bh:n<P1.length/\P1.length<=4096:=by
  rw[ba,padP,length_append,length_replicate];omega
 obtain⟨R,hR⟩:∃R,P1[n]? =some R:=⟨_,List.getElem?_eq_getElem bh.1⟩
 have b9:Cm P1 n=R:=by rw[Cm,hR];rfl
 rw[b9]at T h2;obtain⟨y,ap⟩:∃y,y=CJ (bts l):=⟨_,rfl⟩;rw[<- ap]at T h2
 have hq:gget st.Q y=none:=by
  cases e:gget st.Q y with
  |none=>rfl
  |some v=>rw[e]at h2;exact(h2 (.inl rfl)).elim
 have cb:Sl.lk R sl=none:=by
  cases e:Sl.lk R sl with
  |none=>rfl
  |some v=>rw[e]at h2;exact(h2 (.inr (.inl rfl))).elim
 have X:(Sl.aput R sl l).2=0:=Classical.byContradiction fun h=>h2 (.inr (.inr h));clear h2;obtain⟨⟨k1,k2,k3⟩,d,ab⟩:=Option.map_eq_some_iff.1 T;clear T
 have bi:l≠[]:=fun e=>by rw[e,Wx]at d;cases d
 have co:l.length<=3600:=by
  rw[Sl.aput]at X;split at X
  ·cases X
  ·split at X
   ·cases X
   ·omega
 obtain⟨C,hC⟩:∃C,C=cgC ⟨pg,sl,bts l,false⟩:=⟨_,rfl⟩
 have c0:C[0]? =some (.int .i64 pg):=by rw[hC];rfl
 have c1:C[1]? =some (.int .i64 sl):=by rw[hC];rfl
 have c2:C[2]? =some (.string (bts l)):=by rw[hC];rfl
 intro yb w1 bj;have H1:=H.new (cs:=C) EQ4 (by rw[hC];exact bj);clear H bj;refine⟨false,H1.ld (o:=3) (cs:=C) EQ4 bz (.head _) (by rw[hC];rfl),BA (x:=_) ⟨pg,H1.ld (o:=0) (cs:=C) EQ4 yInt (.head _) c0,AB (fun h=>by omega) (fun _=>⟨pg,H1.ld (o:=0) (cs:=C) EQ4 yInt (.head _) c0,AB (fun h=>by omega) (fun _=>⟨bts l,H1.ld (o:=2) (cs:=C) EQ4 yStr (.head _) c2,AB (fun h=>?_) (fun _=>?_)⟩)⟩)⟩⟩
 ·exact(bi (by have:=congrArg (fun s:ByteArray=>s.data.toList) h;rw[Uu]at this;simpa using this)).elim
 refine AP.mk (fun q _ w'=>∃(j:Nat)(pf:List Nat)(pa:Option Addr)(pc:Nat),q=(n+1-st.P.length)-j/\j<=n+1-st.P.length/\Hp B w0 w' (.blk yb C 55::(ldL xb p z t u aa an ac cf pf pa pc {st with P:=st.P++List.replicate j []}++L))) (n+1-st.P.length) ⟨0,pf,pa,pc,rfl,by omega,by
  have:({st with P:=st.P++List.replicate 0 []}:LdS)=st:=by simp
  rw[this];exact H1⟩ ?_
 clear H1;rintro q _ w2 nx ⟨j,pf,pa,pc,rfl,hj,H⟩ bk;obtain⟨f,ah⟩:∃f,f=st.P++List.replicate j []:=⟨_,rfl⟩;rw[<- ah]at H
 have ck:f.length=st.P.length+j:=by rw[ah];simp
 have a:∀{W:World}{M:List Asn}{nx:Int}{t wn u},Hp B w0 W M->Asn.blk xb (ldC z.ub nx t wn u p aa an ac) 128∈M->∀{J:World},Eqw W J->Ld Tryz.prog 23 J ⟨xb,0,none⟩ (.pointer (some ⟨z.ub,0,none⟩)):=fun{W M nx t wn u} H m _ e=>H.ld (o:=0) (cs:=ldC z.ub nx t wn u p aa an ac) e rPT m rfl
 have Y:∀{W:World}{M:List Asn}{pa:Option Addr}{m pc:Nat},Hp B w0 W M->Asn.blk z.ub (tbC z pa m pc) 86∈M->∀{J:World},Eqw W J->Ld Tryz.prog 84 J (Addr.add ⟨z.ub,0,none⟩ 3) (.slice pa m pc):=fun{W M pa m pc} H m' _ e=>by
  rw[add_lit];exact H.ld (o:=3) (cs:=tbC z pa m pc) e pSl m' rfl
 have bl:∀{W:World}{M:List Asn}{pa:Option Addr}{m pc:Nat},Hp B w0 W M->Asn.blk z.ub (tbC z pa m pc) 86∈M->∀{J:World},Eqw W J->Ld Tryz.prog 83 J (Addr.add ⟨z.ub,0,none⟩ 4) (.map (some z.qb)):=fun{W M pa m pc} H m' _ e=>by
  rw[add_lit];exact H.ld (o:=4) (cs:=tbC z pa m pc) e rMSP m' rfl
 have mx:∀{a0 a1 a2 a3 a4 a5 a6:Asn}{M:List Asn},a1∈a0::([a1,a2,a3,a4,a5,a6]++M):=.tail _ (.head _);have mt:∀{a0 a1 a2 a3 a4 a5 a6:Asn}{M:List Asn},a4∈a0::([a1,a2,a3,a4,a5,a6]++M):=.tail _ m3;refine AA rfl ⟨_,a H mx EQ4,AA rfl ⟨pa,f.length,pc,Y H mt EQ4,pg,H.ld (o:=0) (cs:=C) EQ4 yInt (.head _) c0,AB (fun h3=>?_) (fun h3=>?_)⟩⟩
 ·refine AA rfl ⟨_,a H mx EQ4,AA rfl ⟨_,a H mx EQ4,AA rfl ⟨pa,f.length,pc,Y H mt EQ4,AC (Sl.new_any _) ?_⟩⟩⟩
  rintro _ w3 ⟨nb,rfl,H2⟩;have H3:=H.drew.drew.ext1 H2;clear H H2;have ak:∀{b0 a0 a1 a2 a3 a4 a5 a6:Asn}{M:List Asn},a1∈b0::a0::([a1,a2,a3,a4,a5,a6]++M):=.tail _ m1;have bm:∀{b0 a0 a1 a2 a3 a4 a5 a6:Asn}{M:List Asn},a4∈b0::a0::([a1,a2,a3,a4,a5,a6]++M):=.tail _ m4;refine⟨_,rfl,Y H3 bm EQ4,a H3 ak EQ4,a H3 ak EQ4,fun vb w4 bo=>?_⟩;have K:=H3.nw bo;clear H3 bo;refine⟨Y K (.tail _ bm) EQ4,a K (.tail _ ak) EQ4,a K (.tail _ ak) EQ4,?_⟩
  have H5:Hp B w0 w4 (.blk vb [.pointer (some ⟨nb,0,none⟩)] 95::Sl.pgA nb (Sl.gZ 4096)::pgsA pf pa pc f::.blk z.ub (tbC z pa f.length pc) 86::.blk xb (ldC z.ub st.next t st.V.length u p aa an ac) 128::.blk yb C 55::.own 9 1 t st.V.length u (BI st.V)::pcsA cf p st.C::.smap z.qb (gC Ag st.Q)::L):=K.perm (by
   refine AL fun ff gg h0 hc ha am=>?_
   simp only[ldL,ha,hc,h0,append_eq,nil_append,cons_append];omega)
  clear K;refine Xi H5 Sl.dJ (show f.length<=100000 by omega) EQ4 fun a' c' f' w5 H6=>?_;refine⟨a H6 m2 EQ4,AA rfl ?_⟩;rw[add_lit]
  have e1:(f++[[]]).length=f.length+1:=by simp
  refine Hp.st (o:=0+3) H6.Ae EQ4 pSl rfl rfl (by simp[tbC]) (cs':=tbC z a' (f++[[]]).length c') (by rw[e1];rfl) fun w6 H7=>bk (n+1-st.P.length-(j+1)) _ _ (by omega) ⟨j+1,f',a',c',rfl,by omega,H7.perm ?_⟩
  have e2:st.P++List.replicate (j+1) []=f++[[]]:=by rw[List.replicate_succ',<- append_assoc,<- ah]
  refine AL fun ff gg h0 hc ha am=>?_;simp only[I,Q,ldL,e2,ha,hc,h0,append_eq,nil_append,cons_append];omega
 clear bk
 have bp:f=P1:=by
  have:j=n+1-st.P.length:=by omega
  rw[ah,ba,this];rfl
 subst bp;rw[hn]at*;refine⟨bts l,H.ld (o:=2) (cs:=C) EQ4 yStr (.head _) c2,AC (Qo (bts l) _) ?_⟩;rintro _ _ ⟨rfl,rfl⟩;rw[<- ap]
 have cd:(aget (gC Ag st.Q) y).getD (.agg #[.int .i64 0,.int .i64 0])=.agg #[.int .i64 0,.int .i64 0]:=by rw[ZW,hq];rfl
 have ce:(aget (gC Ag st.Q) y).isSome=false:=by rw[LQ,hq];rfl
 refine⟨_,rfl,AA rfl ⟨_,a H mx EQ4,AA rfl ⟨some z.qb,bl H mt EQ4,0,0,false,H.Wl VK EQ4 m6 cd ce,fun vb w3 bq=>?_⟩⟩⟩;have H1:=H.drew.nw bq;refine Hp.sA H1 hagg (cs':=[.int .i64 0,.int .i64 0]) fun w4 H2=>?_;clear H H1 bq
 have H3:Hp B w0 w4.drew (pgsA pf pa pc f::.blk yb C 55::.blk xb (ldC z.ub st.next t st.V.length u p aa an ac) 128::.blk z.ub (tbC z pa f.length pc) 86::.own 9 1 t st.V.length u (BI st.V)::pcsA cf p st.C::.smap z.qb (gC Ag st.Q)::L):=H2.drew.drop.perm (by
  refine AL fun ff gg h0 hc ha am=>?_
  simp only[ldL,ha,hc,h0,append_eq,nil_append,cons_append];omega)
 clear H2;obtain⟨b,g,A,ad,bv,bb,aq,K,O⟩:=Tz H3 hR;have mY:∀{x:Asn}{M:List Asn},x∈M->x∈Sl.pgA b g::A::M:=fun h=>.tail _ (.tail _ h);refine AA rfl ⟨_,a K (mY m1) EQ4,AA rfl ⟨pa,f.length,pc,Y K (mY m2) EQ4,n,K.ld (o:=0) (cs:=C) EQ4 yInt (mY (.head _)) c0,AA bv ⟨⟨by omega,by omega⟩,_,by rw[Int.toNat_natCast];exact bb _ (K.ok _ m1),sl,K.ld (o:=1) (cs:=C) EQ4 yInt (mY (.head _)) c1,?_⟩⟩⟩;refine AC (Sl.get_any aq (K.blk (.head _)) sl) ?_;rintro _ w5 ⟨rfl,H5⟩;rw[cb];have H6:=(K.ext0 H5).drew;clear H3 K H5;refine⟨_,_,rfl,BA (x:=_) (BA (x:=_) ?_)⟩;have ar:Ld Tryz.prog 95 w5.drew (ad.add (n*1)) (.pointer (some ⟨b,0,none⟩)):=bb _ (H6.ok _ m1);refine AA rfl ⟨_,a H6 (mY m1) EQ4,AA rfl ⟨pa,f.length,pc,Y H6 (mY m2) EQ4,n,H6.ld (o:=0) (cs:=C) EQ4 yInt (mY (.head _)) c0,AA bv ⟨⟨by omega,by omega⟩,_,by rw[Int.toNat_natCast];exact ar,sl,H6.ld (o:=1) (cs:=C) EQ4 yInt (mY (.head _)) c1,bts l,H6.ld (o:=2) (cs:=C) EQ4 yStr (mY (.head _)) c2,?_⟩⟩⟩;refine AC (Sl.TM b g R 0 aq sl l _ (H6.blk (.head _))) ?_;rintro _ w6 ⟨rfl,g',bc,H7⟩;obtain⟨U,H8⟩:=O _ _ _ _ bc (H6.Ba H7);clear H6 H7 O bb ar mY;rw[X];refine⟨0,rfl,AV (fun h=>(h rfl).elim) (fun _=>?_)⟩;obtain⟨P3,bw⟩:∃P3,P3=f.set n (Sl.aput R sl l).1:=⟨_,rfl⟩
 have bx:P3.length=f.length:=by rw[bw,length_set]
 rw[<- bw]at H8 ab;refine AA rfl ⟨_,a H8 m2 EQ4,AA rfl ⟨some z.qb,bl H8 m3 EQ4,n,H8.ld (o:=0) (cs:=C) EQ4 yInt m1 c0,sl,H8.ld (o:=1) (cs:=C) EQ4 yInt m1 c1,?_⟩⟩;show∃w1,MUp Tryz.prog _ w6.drew (.map (some z.qb)) (.string y) (Ag ((n:Int),sl)) w1/\_;refine Hp.mupS VK H8.pull6 EQ4 fun w7 H9=>?_;rw[Nl]at H9;obtain⟨Q2,cg⟩:∃Q2,Q2=gput st.Q y ((n:Int),sl):=⟨_,rfl⟩;rw[<- cg]at H9 ab;clear H8;rw[<- bx]at H9;obtain⟨b0,r,D⟩:∃b0 r,l=b0::r:=List.exists_cons_of_ne_nil bi
 have ch:sb (bts l) 0=(b0.toNat:Int):=by
  have:=sb_get l 0 (by rw[D];simp);rw[show((0:Nat):Int)=0 from rfl]at this;rw[show bts l=⟨l.toArray⟩from rfl,this];simp[D]
 have k:Hp B w0 w7 (.blk xb (ldC z.ub st.next t st.V.length u p aa an ac) 128::.own 9 1 t st.V.length u (BI st.V)::pcsA cf p st.C::.blk yb C 55::.blk z.ub (tbC z pa P3.length pc) 86::pgsA U pa pc P3::.smap z.qb (gC Ag Q2)::L):=H9.perm (by
  refine AL fun ff gg h0 hc ha am=>?_
  simp only[ha,hc,h0,append_eq,nil_append,cons_append];omega)
 clear H9;have F:∀{W:World}{M:List Asn},Hp B w0 W M->Asn.blk yb C 55∈M->∀{J:World},Eqw W J->Ld Tryz.prog 9 J ⟨yb,2,none⟩ (.string (bts l)):=fun H m _ e=>H.ld (o:=2) (cs:=C) e yStr m c2;refine⟨bts l,F k m3 EQ4,?_⟩;dsimp only;rw[EU,ch]
 have b1:l.length=r.length+1:=by rw[D];rfl
 refine⟨⟨by omega,by omega⟩,?_⟩;rw[D,Wx.eq_def]at d;dsimp only at d;refine AB (fun h4=>?_) (fun h4=>AB (fun h5=>?_) (fun h5=>AB (fun h6=>?_) (fun h6=>?_)))
 ·rw[if_pos (by omega)]at d
  by_cases ao:r.length=4
  ·rw[if_pos ao]at d
   injection d with d;injection d with e1 d;injection d with e2 e3
   refine⟨bts l,F k m3 EQ4,bts l,F k m3 EQ4,?_⟩;dsimp only;rw[EU,b1,ao];refine⟨⟨by omega,by decide,by decide⟩,?_⟩;rw[RI]
   have ex:(l.take (Int.toNat (min (((4+1:Nat)):Int) 8))).drop (Int.toNat 1)=r:=by
    rw[show Int.toNat (min (((4+1:Nat)):Int) 8)=5 from rfl,show Int.toNat 1=1 from rfl,take_of_length_le (by omega),D];rfl
   rw[ex];refine AC (QV r (by omega) w7) ?_;rintro _ w8 ⟨rfl,Z⟩;refine⟨_,rfl,AA rfl ?_⟩;rw[add_lit];refine Hp.st (o:=0+1) (k.ext0 Z) EQ4 yInt rfl rfl (by simp[ldC]) (cs':=ldC z.ub (valN r) t st.V.length u p aa an ac) rfl fun w9 ae=>?_;refine⟨bts l,F ae m3 EQ4,t,u,cf,U,pa,pc,?_,?_⟩
   ·rw[EU,b1,ao];rfl
   ·have c:=ae.D8.drop
    rw[<- ab,<- e1,<- e2,<- e3];exact c
  ·rw[if_neg ao]at d;cases d
 ·rw[if_neg (by omega),if_pos (by omega)]at d
  obtain⟨V',b2,e⟩:=Option.map_eq_some_iff.1 d
  injection e with e1 e;injection e with e2 e3
  rw[<- D]at b2;refine⟨bts l,F k m3 EQ4,?_⟩;refine AC (nWord_spec xb z.ub st.next t u p aa an ac st.V V' l (by have:=av.V;omega) b2 (by simp only[maxLen];omega) k) ?_;rintro _ w8 ⟨aw,a7,rfl,Z⟩;refine⟨_,rfl,aw,a7,cf,U,pa,pc,rfl,?_⟩;have c:=Z.D8.drop;rw[<- ab,<- e1,<- e2,<- e3];exact c
 ·rw[if_neg (by omega),if_neg (by omega),if_pos (by omega)]at d
  obtain⟨⟨i,kk,mm⟩,hh,e⟩:=Option.map_eq_some_iff.1 d
  injection e with e1 e;injection e with e2 e3
  dsimp only at e3;refine⟨bts l,F k m3 EQ4,?_⟩;dsimp only;rw[EU];refine⟨⟨by omega,by omega⟩,?_⟩
  have ex:(bts l).extract (Int.toNat 1) l.length=bts r:=by
   rw[RI,take_length,D];rfl
  rw[ex];refine AC (Fol.PZ (bts r) w7) ?_;rintro _ w8 ⟨rfl,Z⟩;rw[Uu,hh];have ae:=(k.ext0 Z).drew;clear k Z;obtain⟨ca,cc,al,A2,b3,c,ci,_⟩:=Vq (ae.BD) (i:Int);clear ae;have mZ:∀{x a1 a2 a3:Asn}{M:List Asn},x∈M->x∈a1::a2::a3::M:=fun h=>.tail _ (.tail _ (.tail _ h))
  have af:∀{W:World}{M:List Asn},Hp B w0 W M->Asn.blk xb (ldC z.ub st.next t st.V.length u p aa an ac) 128∈M->∀{J:World},Eqw W J->Ld Tryz.prog 125 J (Addr.add ⟨xb,0,none⟩ 3) (.map (some p)):=fun H m _ e=>by
   rw[add_lit];exact H.ld (o:=3) (cs:=ldC z.ub st.next t st.V.length u p aa an ac) e tMIS m rfl
  refine⟨(i:Int),(kk:Int),(mm:Int),true,rfl,AA rfl ⟨some p,af c (mZ (.head _)) EQ4,AA rfl ⟨some p,af c (mZ (.head _)) EQ4,ca,_,cc,c.lkI aA EQ4 (.head _) b3,bts l,F c (mZ m2) EQ4,?_⟩⟩⟩;dsimp only;rw[EU];refine⟨⟨by omega,by omega⟩,?_⟩;rw[ex];intro ub w9 b4;have ag:=c.nw b4;clear c b4;refine⟨ag.lkI aA EQ4 m1 b3,af ag (.tail _ (mZ (.head _))) EQ4,af ag (.tail _ (mZ (.head _))) EQ4,?_⟩;have cl:=av.C (i:Int);refine Hp.app bH (by omega) ag.BD EQ4 (Blk.src (P:=Tryz.prog) df (ag.blk (.head _)) rfl rfl) (by simp only[maxLen];omega) (by omega) ?_;intro a2 c2 cp b5;refine⟨af b5 (.tail _ (mZ (.head _))) EQ4,?_⟩;refine Hp.mupI aA b5.BD EQ4 fun cq b6=>?_
  have e4:(pcAt st.C (i:Int)).map sv++[.string (bts r)]=(pcAt st.C (i:Int)++[r]).map sv:=by rw[map_append];rfl
  have e5:(pcAt st.C (i:Int)).length+1=(pcAt st.C (i:Int)++[r]).length:=by simp
  rw[e4,e5]at b6;obtain⟨a8,cj⟩:=ci _ _ _ _ _ b6.del2;refine⟨t,u,a8,U,pa,pc,rfl,?_⟩;rw[<- ab,<- e1,<- e2,<- e3]
  exact Hp.BP (R:=[.blk yb C 55]) (cj.perm (by
   refine AL fun ff gg h0 hc ha am=>?_
   simp only[ldL,ha,hc,h0,append_eq,nil_append,cons_append];omega))
 ·rw[if_neg (by omega),if_neg (by omega),if_neg (by omega)]at d;cases d
end
end
end Go.Proofs.YtljenkbpnioipaaGreat
namespace Go.Vc
open Go Go.Sort Go.Proofs
section
variable{α:Type}[Inhabited α]{B:List Nat}{w0 w:World}{L:List Asn}{e:TypeId}{c n g:Nat}{l:List α}
theorem Hp.sorted1(enc:α->Value)(H:Hp B w0 w (.own e 1 (some ⟨g,0,none⟩) n c (l.map enc)::L))(G:n=l.length):
  Holds enc w g 0 l.toArray/\g<w.heap.size/\∀(m:Nat)(b:Array Obj)(l':List α),l'.length=l.length->Hp B w0 (grow (putRow enc (Sort.ahead w m) g 0 l'.toArray) b) (.own e 1 (some ⟨g,0,none⟩) n c (l'.map enc)::L):=by
 have O:Own w 0 e 1 (some ⟨g,0,none⟩) n c (l.map enc):=H.ownA (.head _)
 rcases O.2 with⟨h,_⟩|⟨Y,a,u,x,Z,s,J,K,R,y,M⟩
 ·cases h
 cases x;rw[Nat.mul_one]at y M;have f:=(Array.getElem?_eq_some_iff.1 s).1;have T:n<=a.size:=Nat.le_trans K y;refine⟨fun j z=>?_,f,fun m b l' i=>?_⟩
 ·have o:j<l.length:=by simpa using z
  have A:j<a.size:=by omega
  have N:a.toList[j]? =some (enc l[j]):=by
   have:(a.toList.take n)[j]? =(l.map enc)[j]? :=by rw[M]
   rw[List.getElem?_take_of_lt (by omega),List.getElem?_map,List.getElem?_eq_getElem o]at this;exact this
  have C:=J j A;obtain⟨f1,f2⟩:=u;refine⟨?_,?_⟩
  ·simp only[Nat.zero_add,World.cell?,s]
   simp only[Array.getElem?_toList]at N;simpa [o]using N
  ·simpa [World.frozen?,s,Nat.zero_add]using C
 ·have p:(grow (putRow enc (Sort.ahead w m) g 0 l'.toArray) b).heap[g]? =some (.cells (putCells enc 0 l'.toArray a) e u):=by
   show((w.heap.modify g (onCells (putCells enc 0 l'.toArray)))++b)[g]? =_;rw[Array.getElem?_append_left (by rw[Array.size_modify];exact f),Array.getElem?_modify,if_pos rfl,s];rfl
  have q:Chg [g] w (grow (putRow enc (Sort.ahead w m) g 0 l'.toArray) b):=by
   refine⟨rfl,rfl,rfl,?_,fun j z D=>?_⟩
   ·show w.heap.size<=((w.heap.modify g (onCells (putCells enc 0 l'.toArray)))++b).size
    rw[Array.size_append,Array.size_modify];omega
   ·show((w.heap.modify g (onCells (putCells enc 0 l'.toArray)))++b)[j]? =_
    rw[Array.getElem?_append_left (by rw[Array.size_modify];exact z),Array.getElem?_modify,if_neg (by intro h;exact D (by simp[h]))]
  have r:(putCells enc 0 l'.toArray a).size=a.size:=by simp[putCells]
  refine H.set (a':=.own e 1 (some ⟨g,0,none⟩) n c (l'.map enc)) q ?_ (fun k U=>.inl U);refine⟨by rw[length_map,i,G,Nat.mul_one],.inr ⟨g,_,u,rfl,Nat.zero_le _,p,by rw[r];exact J,K,R,by rw[r,Nat.mul_one];exact y,?_⟩⟩;rw[Nat.mul_one];apply ext_getElem?;intro t;by_cases X:t<n
  ·have d:t<l'.length:=by omega
   have F:t<a.size:=by omega
   rw[List.getElem?_take_of_lt X,List.getElem?_map,List.getElem?_eq_getElem d,putCells];simp only[Array.getElem?_toList,Array.getElem?_mapIdx,Array.getElem?_eq_getElem F,Option.map_some,Nat.zero_add,Nat.zero_le,true_and,Nat.sub_zero,size_toArray];rw[if_pos d];simp[d]
  ·rw[List.getElem?_eq_none (by rw[length_take];omega),List.getElem?_eq_none (by rw[length_map,i,<- G];omega)]
end
end Go.Vc
namespace Go.Proofs.YtljenkbpnioipaaGreat
noncomputable section
open Go Go.Vc Go.Nod Go.Proofs Go.RowKit Go.Sort Go.Shelf
def sortL(l:Pcs):Pcs:=l.mergeSort fun x y=>decide (x<=y)
theorem Us(l:Pcs):(sortL l).Perm l:=List.mergeSort_perm l _
section
variable{B:List Nat}{w0 w:World}{L:List Asn}
theorem VS:(encStr:List UInt8->Value)=sv:=by
 funext x;rfl
theorem lSortS_spec(l:Pcs)(a:Option Addr)(c:Nat)(i:l.length<=1000000)(H:Hp B w0 w (.own 9 1 a l.length c (l.map sv)::L)):
  Calls Tryz.prog 130 #[.slice a l.length c] w fun e w'=>e=.returned (.tuple #[])/\Hp B w0 w' (.own 9 1 a l.length c ((sortL l).map sv)::L):=by
 by_cases d:l=[]
 ·subst d
  have:=AnyM.slices_Sort_string_none (P:=Tryz.prog) XN a c w;change Calls Tryz.prog 130 _ _ _ at this;refine Calls.mono this ?_;rintro e w' ⟨rfl,rfl⟩
  have k:sortL []=[]:=by rw[sortL];simp
  rw[k];exact⟨rfl,H⟩
 have m:Own w 0 9 1 a l.length c (l.map sv):=H.ownA (.head _);obtain⟨g,rfl⟩:=m.CV (by have:=length_pos_iff.2 d;omega);obtain⟨f,h,b⟩:=H.sorted1 sv rfl;have j:=AnyM.slices_Sort_string (P:=Tryz.prog) XN g 0 c l w (by rw[VS];exact f) h (by omega);change Calls Tryz.prog 130 _ _ _ at j;refine Calls.mono j ?_;rintro e w' ⟨rfl,n,o,rfl⟩;refine⟨rfl,?_⟩;have:=b n o (sortL l) ((Us l).length_eq);rw[VS];exact this
abbrev RW:=Fol.Rec×(Option Addr×Nat)
def rwC(p:RW):List Value:=recC p.1 p.2.1 p.1.attrs.length p.2.2
def rwO(p:RW):Asn:=.own 260 2 p.2.1 p.1.attrs.length p.2.2 (Fol.BC p.1.attrs)
def cfR(x y:RW):Int:=if x.1.frm<y.1.frm then-1 else 1
theorem nNodes1_ex(W:World)(x y:RW):Calls Tryz.prog 133 #[.agg (rwC x).toArray,.agg (rwC y).toArray] W fun e w'=>e=.returned (.int .i64 (cfR x y))/\∃q d,w'=grow (W.drewN q) d:=by
 apply nNodes1.ok;unfold nNodes1.vc;intro f i a j k b;have H:=((Hp.start W).new (cs:=rwC x) EQ4 a).new (cs:=rwC y) EQ4 b;refine⟨x.1.frm,H.lo yInt,y.1.frm,H.lo yInt,AB (fun h=>?_) (fun h=>?_)⟩
 ·exact⟨by rw[cfR,if_pos h],0,_,Ob a b⟩
 ·exact⟨by rw[cfR,if_neg h],0,_,Ob a b⟩
theorem vagg8:∀w,(isAgg 204).run Tryz.prog w=.ok true w:=fun w=>Ho Fol.Cj.agg w
theorem vsize8:∀w,(Go.sizeOf 204).run Tryz.prog w=.ok 8 w:=fun w=>Bl Fol.Cj.size w
theorem nSortR_spec(l:List RW)(a:Option Addr)(c:Nat)(J:l.length<=1000000)(H:Hp B w0 w (.own 204 8 a l.length c (l.flatMap rwC)::L)):
  Calls Tryz.prog 132 #[.slice a l.length c,.func (.func 133) #[] #[]] w fun e w'=>e=.returned (.tuple #[])/\∃l':List RW,l'.Perm l/\(l'.Pairwise fun a b=>a.1.frm<=b.1.frm)/\Hp B w0 w' (.own 204 8 a l.length c (l'.flatMap rwC)::L):=by
 by_cases k:l=[]
 ·subst k
  have:=AnyF.slices_SortFunc_none (P:=Tryz.prog) (ρ:=sfRR) {sfRL with} a c (.func (.func 133) #[] #[]) w;change Calls Tryz.prog 132 _ _ _ at this;refine Calls.mono this ?_;rintro e w' ⟨rfl,rfl⟩;exact⟨rfl,[],.refl _,.nil,H⟩
 have T:Own w 0 204 8 a l.length c (l.flatMap rwC):=H.ownA (.head _);obtain⟨g,rfl⟩:=T.CV (by have:=length_pos_iff.2 k;omega);obtain⟨U,r0,X⟩:∃x r,l=x::r:=List.exists_cons_of_ne_nil k
 letI:Inhabited RW:=⟨U⟩
 have K:∀x,(rwC x).length=8:=fun x=>rfl
 have p:∀x,∀v∈rwC x,v.oneCell'=true:=fun x v M=>by
  simp only[rwC,recC,mem_cons,not_mem_nil,or_false]at M;rcases M with rfl|rfl|rfl|rfl|rfl|rfl|rfl|rfl<;>rfl
 obtain⟨q,u,o⟩:=H.sorted rwC K (by omega) rfl
 have d:∀x y,ltOf cfR x y=decide (x.1.frm<y.1.frm):=fun x y=>by
  rw[ltOf,cfR];by_cases h:x.1.frm<y.1.frm
  ·rw[if_pos h];simp[h]
  ·rw[if_neg h];simp[h]
 have Y:SWO (ltOf cfR):=⟨fun x=>by rw[d];simp,fun x y z Z h2=>by rw[d]at*;simp only[decide_eq_true_eq]at*;omega,fun x y z Z h2=>by rw[d]at*;simp only[decide_eq_false_iff_not]at*;omega⟩
 have A:=AnyQ.slices_SortFunc (P:=Tryz.prog) (ρ:=sfRR) sfRL 8 vagg8 vsize8 rwC K p cfR Y 133 #[] g 0 c l.toArray w
  (enters_of Tryz.func133 (by kernel_rfl) rfl)
  (fun m N dk aa x y=>nNodes1_ex _ x y) q u (by simp;omega)
 change Calls Tryz.prog 132 _ _ _ at A;simp only[size_toArray]at A;refine Calls.mono A ?_;rintro e w' ⟨rfl,f,n,N,O,s,rfl⟩
 have t:f.size=l.length:=by have:=O.1;simpa using this
 have C:f.toList.Perm l:=by
  have:=O.2.2
  have e1:f.extract 0 l.length=f:=by rw[<- t];simp
  have e2:l.toArray.extract 0 l.length=l.toArray:=by
   simp only[List.extract_toArray,List.extract_eq_take_drop,drop_zero,Nat.sub_zero];rw[take_of_length_le (Nat.le_refl _)]
  rw[e1,e2]at this;simpa using this
 refine⟨rfl,f.toList,C,?_,?_⟩
 ·rw[pairwise_iff_getElem]
  intro i j hi hj D
  have F:j<f.size:=by simpa using hj
  have G:i<f.size:=by simpa using hi
  have:=s i j (Nat.zero_le _) D (by omega);rw[d,decide_eq_false_iff_not,getElem!_pos f i G,getElem!_pos f j F]at this;simp only[Array.getElem_toList];omega
 ·have R:=o n N f.toList (by rw[Array.length_toList];exact t)
  rw[Array.toArray_toList]at R;exact R
theorem vSR:Scl Tryz.prog 126:=BK (by kernel_rfl)
theorem veltR:Elt Tryz.prog 126 204 8 88:=CW (by kernel_rfl)
theorem vundR:Tryz.prog.underlying 126=some (.slice 204):=by kernel_rfl
theorem nNodes_spec(D F k:Nat)(next:Int)(G:Option Addr)(J N:Nat)(cf:List Nat)(C:CM)(cb:(C.map (·.1)).Nodup)(cc:C.length<=1000000)(bm:∀i,(pcAt C i).length<=1000000)(bo:∀i∈C.map (·.1),-9223372036854775808<=i/\i<=9223372036854775807)
  (K:List Int) (hK:K.Perm (C.map (·.1))) (aw:K.Pairwise fun x y=>x<y) (u:List Fol.Rec) (bp:u.length=K.length) (a0:∀(j:Nat)(i:Int)(r:Fol.Rec),K[j]? =some i->u[j]? =some r->Fol.decR (sortL (pcAt C i)) r)
  (H:Hp B w0 w (.blk D (ldC F next G J N k none 0 0) 128::pcsA cf k C::L)):
  Calls Tryz.prog 67 #[.pointer (some ⟨D,0,none⟩)] w fun e w'=>∃(aa:Option Addr)(ac:Nat)(d:List RW),e=.returned (.bool true)/\(d.map (·.1)).Perm u/\(d.Pairwise fun a b=>a.1.frm<=b.1.frm)/\
   Hp B w0 w' (.blk D (ldC F next G J N k aa d.length ac) 128::.own 204 8 aa d.length ac (d.flatMap rwC)::(d.map rwO++L)):=by
 apply nNodes.ok;unfold nNodes.vc
 have cd:K.length=C.length:=by rw[hK.length_eq,length_map]
 have a1:∀{W:World}{M:List Asn}{aa an ac},Hp B w0 W M->Asn.blk D (ldC F next G J N k aa an ac) 128∈M->∀{W':World},Eqw W W'->Ld Tryz.prog 125 W' (Addr.add ⟨D,0,none⟩ 3) (.map (some k)):=fun{W M aa an ac} H m _ e=>by
  rw[add_lit];exact H.ld (o:=3) (cs:=ldC F next G J N k aa an ac) e tMIS m rfl
 have ag:∀{W:World}{M:List Asn}{aa an ac},Hp B w0 W M->Asn.blk D (ldC F next G J N k aa an ac) 128∈M->∀{W':World},Eqw W W'->Ld Tryz.prog 126 W' (Addr.add ⟨D,0,none⟩ 4) (.slice aa an ac):=fun{W M aa an ac} H m _ e=>by
  rw[add_lit];exact H.ld (o:=4) (cs:=ldC F next G J N k aa an ac) e vSR m rfl
 refine AA rfl ⟨some k,a1 H (.head _) EQ4,AC (keysW_spec (some k) w) ?_⟩;rintro _ w1 ⟨q,rfl,H1⟩;have Z:=H.ext1 H1;clear H H1
 have a3:∃al,MapAt (DF .i64) w1 k al/\al.map (·.1)=C.map (·.1):=by
  obtain⟨M,⟨W,hC,rfl⟩,hs,_⟩:=EP (Z.ok (pcsA cf k C) m2);refine⟨gC pwV W,hs.ok _ (.head _),?_⟩;rw[Q7,<- hC,List.map_map];rfl
 obtain⟨al,bq,a4⟩:=a3
 have b9:al.length=C.length:=by have:=congrArg List.length a4;simpa using this
 refine⟨_,rfl,AC (sortedW_spec q k al w1 (Z.blk (.head _)) bq K (by rw[a4];exact hK) aw (fun x hx=>bo x (hK.mem_iff.1 hx)) (by omega)) ?_⟩;rintro _ w2 ⟨ka,kc,rfl,H3⟩;have H4:=Z.ext1 H3;clear Z H3
 refine⟨_,_,_,rfl,AP.mk (fun m s w'=>∃(j:Nat)(aa:Option Addr)(ac:Nat)(cf:List Nat)(f:CM)(d:List RW)(X:List Asn),m=K.length-j/\j<=K.length/\s=(j:Int)/\d.map (·.1)=u.take j/\(∀i∈K.drop j,gget f i=gget C i)/\
  Hp B w0 w' (.blk D (ldC F next G J N k aa d.length ac) 128::pcsA cf k f::.own 204 8 aa d.length ac (d.flatMap rwC)::.own 3 1 ka K.length kc (K.map (.int .i64))::(d.map rwO++(L++X)))) K.length ⟨0,none,0,cf,C,[],[.blk q [.map (some k)] 125],rfl,by omega,rfl,by simp,fun i _=>rfl,?_⟩ ?_⟩
 ·exact(H4.nilS 204 8).perm (by
   refine AL fun ff gg h0 hc ha O=>?_;have e1:([]:List RW).flatMap rwC=[]:=rfl
   simp only[I,Q,e1,length_nil,map_nil,ha,hc,h0,append_eq,nil_append,cons_append];omega)
 clear H4;rintro m s w3 nx ⟨j,aa,ac,cf,f,d,X,rfl,hj,rfl,ab,a5,H⟩ bv
 have ca:d.length=j:=by
  have:=congrArg List.length ab;rw[length_map,length_take]at this;omega
 refine AB (fun h1=>?_) (fun h1=>?_)
 ·have ae:j<K.length:=by omega
  obtain⟨i,a6⟩:∃i,i=K[j]:=⟨_,rfl⟩
  have hi:K[j]? =some i:=by rw[a6];exact List.getElem?_eq_getElem ae
  obtain⟨r,hr⟩:∃r,u[j]? =some r:=⟨_,List.getElem?_eq_getElem (by omega)⟩
  have ah:K.drop j=i::K.drop (j+1):=by rw[a6];exact drop_eq_getElem_cons ae
  have a7:gget f i=gget C i:=a5 i (by rw[ah];exact .head _)
  have a8:pcAt f i=pcAt C i:=by rw[pcAt,a7];rfl
  obtain⟨v,hv⟩:∃v,gget f i=some v:=by
   rw[a7];exact Option.ne_none_iff_exists'.1 fun e=>Ec.1 e (hK.mem_iff.1 (mem_of_getElem? hi))
  have T:=a0 j i r hi hr;rw[<- a8]at T
  have bw:(pcAt f i).length<=1000000:=by rw[a8];exact bm i
  have bx:(K.map (Value.int .i64))[j]? =some (.int .i64 i):=by rw[List.getElem?_map,hi];rfl
  obtain⟨ad,b0,a9⟩:=H.ldO (w':=w3) (o:=j) EQ4 yInt m3 bx;have Hx:=a1 H (.head _) (W':=w3) EQ4;obtain⟨U,pc,z,A,ba,Z,b1,Y⟩:=Vq H.Ae i;clear H;refine AA b0 ⟨⟨by omega,h1⟩,i,by rw[Int.toNat_natCast,Nat.mul_one];exact a9,AA rfl ⟨some k,Hx,U,_,pc,Z.lkI aA EQ4 (.head _) ba,AC (lSortS_spec (pcAt f i) U pc bw Z.Ae) ?_⟩⟩;rintro _ w4 ⟨rfl,H3⟩;clear Z Hx a9;have ak:(sortL (pcAt f i)).length=(pcAt f i).length:=(Us _).length_eq;have af:Fol.StrS w4 U (pcAt f i).length (sortL (pcAt f i)):=⟨ak.symm,(H3.ownA (.head _):Own w4 0 9 1 U (pcAt f i).length pc ((sortL (pcAt f i)).map sv)).cells⟩;refine⟨rfl,AC (Fol.decode_spec (sortL (pcAt f i)) U _ pc w4 af (by simp only[maxLen];omega)) ?_⟩;rintro _ w5 (⟨r',p,t,am,rfl,H5⟩|⟨b2,_⟩);rotate_left
  ·exact(b2 ⟨r,T⟩).elim
  obtain rfl:=Fol.decR_one T am;have H6:=H3.ext1 H5;clear H3 H5 af;refine⟨_,_,_,_,_,_,_,_,_,_,_,rfl,fun yb w6 bb=>?_⟩;have H7:=H6.new (cs:=recZ) EQ4 bb;refine Hp.stA H7 EQ4 Fol.Cj (vs:=recC r p r.attrs.length t) rfl rfl (by simp[recZ]) (cs':=recC r p r.attrs.length t) rfl fun w7 H8=>?_;clear H6 H7 bb;refine AV (fun h=>(h rfl).elim) (fun _=>?_);have mX:Asn.blk D (ldC F next G J N k aa d.length ac) 128∈Asn.blk yb (recC r p r.attrs.length t) 204::.own 260 2 p r.attrs.length t (Fol.BC r.attrs)::.own 9 1 U (pcAt f i).length pc ((sortL (pcAt f i)).map sv)::.imap k .i64 z::A::.blk D (ldC F next G J N k aa d.length ac) 128::.own 204 8 aa d.length ac (d.flatMap rwC)::.own 3 1 ka K.length kc (K.map (.int .i64))::(d.map rwO++(L++X)):=.tail _ m4;refine AA rfl ⟨aa,d.length,ac,ag H8 mX EQ4,r.id,r.parent,r.kind,r.name,r.frm,r.to,r.text,p,r.attrs.length,t,H8.ldA (o:=0) (cs:=recC r p r.attrs.length t) EQ4 Fol.Cj (.head _) rfl rfl,fun ao w8 bc=>?_⟩;have H9:=H8.drew.new (cs:=recC r p r.attrs.length t) EQ4 bc;clear H8 bc;refine⟨ag H9 (.tail _ mX) EQ4,?_⟩
  have ap:Hp B w0 w8 (.own 204 8 aa d.length ac (d.flatMap rwC)::.blk ao (recC r p r.attrs.length t) 204::.blk D (ldC F next G J N k aa d.length ac) 128::.imap k .i64 z::.own 9 1 U (pcAt f i).length pc ((sortL (pcAt f i)).map sv)::A::.own 260 2 p r.attrs.length t (Fol.BC r.attrs)::.own 3 1 ka K.length kc (K.map (.int .i64))::(d.map rwO++(L++(.blk yb (recC r p r.attrs.length t) 204::X)))):=H9.perm (by
   refine AL fun ff gg h0 hc ha O=>?_
   simp only[ha,hc,h0,append_eq,nil_append,cons_append];omega)
  clear H9 mX;refine Hp.app veltR (by omega) ap EQ4 (Blk.src (P:=Tryz.prog) vundR (ap.blk m1) rfl rfl) (by simp only[maxLen];omega) (by omega) ?_;intro a2 c2 w9 bd;refine AA rfl ?_;rw[add_lit];refine Hp.st (o:=0+4) bd.BD EQ4 vSR rfl rfl (by simp[ldC]) (cs':=ldC F next G J N k a2 (d.length+1) c2) rfl fun b3 bh=>⟨iR,?_⟩;clear ap bd;have aq:aput z i (.slice U (pcAt f i).length pc)=z:=Y v hv
  have bi:aput z i (.slice U (sortL (pcAt f i)).length pc)=z:=by rw[ak];exact Y v hv
  have bj:Hp B w0 b3 (.imap k .i64 (aput z i (.slice U (sortL (pcAt f i)).length pc))::.own 9 1 U (sortL (pcAt f i)).length pc ((sortL (pcAt f i)).map sv)::A::(.blk D (ldC F next G J N k a2 (d.length+1) c2) 128::.own 204 8 a2 (d.length+1) c2 (d.flatMap rwC++recC r p r.attrs.length t)::.blk ao (recC r p r.attrs.length t) 204::.own 260 2 p r.attrs.length t (Fol.BC r.attrs)::.own 3 1 ka K.length kc (K.map (.int .i64))::(d.map rwO++(L++(.blk yb (recC r p r.attrs.length t) 204::X))))):=bh.perm (by
   refine AL fun ff gg h0 hc ha O=>?_
   simp only[bi,aq,ak,ha,hc,h0,append_eq,nil_append,cons_append];omega)
  clear bh;obtain⟨b4,b5⟩:=b1 _ _ _ _ _ bj;clear bj;refine bv (K.length-(j+1)) _ _ (by omega) ⟨j+1,a2,c2,b4,gput f i (sortL (pcAt f i)),d++[(r,p,t)],.blk ao (recC r p r.attrs.length t) 204::.blk yb (recC r p r.attrs.length t) 204::X,rfl,by omega,rfl,?_,fun i2 bk=>?_,b5.perm ?_⟩
  ·rw[map_append,ab,take_succ_eq_append_getElem (by omega),(List.getElem?_eq_some_iff.1 hr).2];rfl
  ·rw[OB,if_neg,a5 i2 (by rw[ah];exact .tail _ bk)]
   intro e;have bl:(K.drop j).Pairwise fun x y=>x<y:=aw.sublist (List.drop_sublist j K);rw[ah]at bl;have:=(pairwise_cons.1 bl).1 i2 bk;omega
  ·have e1:(d++[(r,p,t)]).flatMap rwC=d.flatMap rwC++recC r p r.attrs.length t:=by simp[rwC]
   have e2:(d++[(r,p,t)]).length=d.length+1:=by simp
   have e3:(d++[(r,p,t)]).map rwO=d.map rwO++[.own 260 2 p r.attrs.length t (Fol.BC r.attrs)]:=by simp[rwO]
   refine AL fun ff gg h0 hc ha O=>?_;simp only[I,Q,e1,e2,e3,ha,hc,h0,append_eq,nil_append,cons_append];omega
 ·have ae:j=K.length:=by omega
  rw[ae,<- bp,take_length]at ab;refine AA rfl ⟨aa,d.length,ac,ag H (.head _) EQ4,AC (nSortR_spec d aa ac (by omega) H.BD) ?_⟩;rintro _ w4 ⟨rfl,ar,av,b6,Z⟩;have b7:ar.length=d.length:=av.length_eq;refine⟨rfl,aa,ac,ar,rfl,?_,b6,?_⟩
  ·rw[<- ab];exact av.map _
  ·have b8:(ar.map rwO).Perm (d.map rwO):=av.map _
   rw[b7]
   exact Hp.BP (R:=pcsA cf k f::.own 3 1 ka K.length kc (K.map (.int .i64))::X) (Z.perm (by
    refine AL fun ff gg h0 hc ha O=>?_;have:=O _ _ b8
    simp only[this,ha,hc,h0,append_eq,nil_append,cons_append];omega))
end
end
end Go.Proofs.YtljenkbpnioipaaGreat
namespace Go.Nod
theorem Z5:∀(a b:List UInt8),Go.Lib.compareBytes a b<0↔a<b
 | [],[]=>by simp[Go.Lib.compareBytes]
 | [],y::b=>by simp[Go.Lib.compareBytes]
 |x::a,[]=>by simp[Go.Lib.compareBytes]
 |x::a,y::b=>by
  rw[Go.Lib.compareBytes,List.cons_lt_cons_iff];by_cases c:x<y
  ·rw[if_pos c];simp[c]
  ·rw[if_neg c]
   by_cases d:y<x
   ·rw[if_pos d]
    have:x≠y:=fun e=>by subst e;exact c d
    simp[c,this]
   ·rw[if_neg d,Z5 a b]
    have:x=y:=UInt8.le_antisymm (UInt8.not_lt.1 d) (UInt8.not_lt.1 c);simp[c,this]
end Go.Nod
namespace Go.Proofs.YtljenkbpnioipaaGreat
noncomputable section
open Go Go.Vc Go.Nod Go.Proofs Go.RowKit Go.Sort Go.Shelf
theorem lCmpStr_spec(a b:ByteArray)(w:World):Calls Tryz.prog 259 #[.string a,.string b] w fun e w'=>e=.returned (.int .i64 (Go.Lib.compareBytes a.data.toList b.data.toList))/\w'=w:=by
 apply lCmpStr.ok;unfold lCmpStr.vc;refine⟨⟨.int .i64 (Go.Lib.compareBytes a.data.toList b.data.toList),w,?_,_,rfl,rfl,rfl⟩⟩;rw[run_callFunc_extern Tryz.func298 (by kernel_rfl) (by kernel_rfl) (by kernel_rfl) (e:=Extern.BytealgCompare.compare) (by kernel_rfl),Lib.run_compareString];rfl
theorem lCompare_spec(a b:ByteArray)(w:World):Calls Tryz.prog 201 #[.string a,.string b] w fun e w'=>e=.returned (.int .i64 (Go.Lib.compareBytes a.data.toList b.data.toList))/\w'=w:=by
 apply lCompare.ok;unfold lCompare.vc;refine AC (lCmpStr_spec a b w) ?_;rintro _ _ ⟨rfl,rfl⟩;exact⟨_,rfl,rfl,rfl⟩
def atE(p:At):List Value:=[.string p.1,.string p.2]
def cfA(x y:At):Int:=Go.Lib.compareBytes x.1.data.toList y.1.data.toList
theorem nItem1_ex(W:World)(x y:At):Calls Tryz.prog 200 #[.agg (atE x).toArray,.agg (atE y).toArray] W fun e w'=>e=.returned (.int .i64 (cfA x y))/\∃q c,w'=grow (W.drewN q) c:=by
 apply nItem1.ok;unfold nItem1.vc;intro g h a i d b;have H:=((Hp.start W).new (cs:=atE x) EQ4 a).new (cs:=atE y) EQ4 b;refine⟨x.1,H.lo yStr,y.1,H.lo yStr,AC (lCompare_spec x.1 y.1 d) ?_⟩;rintro _ j ⟨rfl,f⟩;exact⟨_,rfl,rfl,0,_,by rw[f];exact Ob a b⟩
theorem wagg2:∀w,(isAgg 142).run Tryz.prog w=.ok true w:=fun w=>Ho Gs.agg w
theorem wsize2:∀w,(Go.sizeOf 142).run Tryz.prog w=.ok 2 w:=fun w=>Bl Gs.size w
section
variable{B:List Nat}{w0 w:World}{L:List Asn}
theorem nSortA_spec(l:List At)(a:Option Addr)(c:Nat)(ag:l.length<=1000000)(hR:Rs l)(H:Hp B w0 w (.own 142 2 a l.length c (atC l)::L)):
  Calls Tryz.prog 199 #[.slice a l.length c,.func (.func 200) #[] #[]] w fun e w'=>e=.returned (.tuple #[])/\Hp B w0 w' (.own 142 2 a l.length c (atC l)::L):=by
 by_cases p:l=[]
 ·subst p
  have:=AnyF.slices_SortFunc_none (P:=Tryz.prog) (ρ:=sfAR) {sfAL with} a c (.func (.func 200) #[] #[]) w;change Calls Tryz.prog 199 _ _ _ at this;refine Calls.mono this ?_;rintro e w' ⟨rfl,rfl⟩;exact⟨rfl,H⟩
 have ho:Own w 0 142 2 a l.length c (atC l):=H.ownA (.head _);obtain⟨g,rfl⟩:=ho.CV (by have:=length_pos_iff.2 p;omega);obtain⟨x0,r0,ah⟩:∃x r,l=x::r:=List.exists_cons_of_ne_nil p
 letI:Inhabited At:=⟨x0⟩
 have hk:∀x,(atE x).length=2:=fun x=>rfl
 have t:∀x,∀v∈atE x,v.oneCell'=true:=fun x v hv=>by
  simp only[atE,mem_cons,not_mem_nil,or_false]at hv;rcases hv with rfl|rfl<;>rfl
 have X:∀l:List At,atC l=l.flatMap atE:=fun l=>rfl;rw[X]at H⊢;obtain⟨u,Y,q⟩:=H.sorted atE hk (by omega) rfl;have o:∀x y,ltOf cfA x y=dec (ltB x.1 y.1):=fun x y=>KC (Z5 x.1.data.toList y.1.data.toList)
 have d:∀x y,ltOf cfA x y=false↔¬ltB x.1 y.1:=fun x y=>by
  rw[o];constructor
  ·intro h k;rw[EJ.2 k]at h;cases h
  ·intro h;exact(Bf h).symm
 have hO:SWO (ltOf cfA):=by
  refine⟨fun x=>(d x x).2 (EQ _),fun x y z A k=>?_,fun x y z A k=>(d x z).2 fun s=>?_⟩
  ·rw[o,EJ]at*;exact FU A k
  ·have h4:=(d x y).1 A
   have h5:=(d y z).1 k;rcases OI x.1 y.1 with h|h|h
   ·exact h4 h
   ·rw[h]at s;exact h5 s
   ·exact h5 (FU h s)
 have Z:=AnyQ.slices_SortFunc (P:=Tryz.prog) (ρ:=sfAR) sfAL 2 wagg2 wsize2 atE hk t cfA hO 200 #[] g 0 c l.toArray w
  (enters_of Tryz.func200 (by kernel_rfl) rfl)
  (fun m os dk ak x y=>nItem1_ex _ x y) u Y (by simp;omega)
 change Calls Tryz.prog 199 _ _ _ at Z;simp only[size_toArray]at Z;refine Calls.mono Z ?_;rintro e w' ⟨rfl,f,n,os,hp,C,rfl⟩
 have D:f.size=l.length:=by have:=hp.1;simpa using this
 have F:f.toList.Perm l:=by
  have:=hp.2.2
  have e1:f.extract 0 l.length=f:=by rw[<- D];simp
  have e2:l.toArray.extract 0 l.length=l.toArray:=by
   simp only[List.extract_toArray,List.extract_eq_take_drop,drop_zero,Nat.sub_zero];rw[take_of_length_le (Nat.le_refl _)]
  rw[e1,e2]at this;simpa using this
 have aa:f.toList.Pairwise fun a b=>¬ltB b.1 a.1:=by
  rw[pairwise_iff_getElem];intro i j T G ab
  have ac:j<f.size:=by simpa using G
  have ad:i<f.size:=by simpa using T
  have:=C i j (Nat.zero_le _) ab (by omega);rw[d,getElem!_pos f i ad,getElem!_pos f j ac]at this;simpa using this
 have J:l.Pairwise fun a b=>a.1≠b.1:=by
  refine List.Pairwise.imp (R:=fun a b:At=>ltB a.1 b.1) (fun{a b} h e=>?_) hR;rw[e]at h;exact EQ _ h
 have ae:f.toList=l:=by
  refine List.Perm.eq_of_pairwise (le:=fun a b=>¬ltB b.1 a.1) (fun a b ha U A k=>?_) aa (hR.imp fun h k=>VP h k) F
  have s:a.1=b.1:=by
   rcases OI a.1 b.1 with h|h|h
   ·exact(k h).elim
   ·exact h
   ·exact(A h).elim
  have af:=F.mem_iff.1 ha;obtain⟨i,T⟩:=List.getElem?_of_mem af;obtain⟨j,G⟩:=List.getElem?_of_mem U;obtain⟨K,M⟩:=List.getElem?_eq_some_iff.1 T;obtain⟨N,O⟩:=List.getElem?_eq_some_iff.1 G;rcases Nat.lt_trichotomy i j with h|h|h
  ·exact absurd s (by rw[<- M,<- O];exact pairwise_iff_getElem.1 J i j K N h)
  ·subst h
   rw[T]at G;exact Option.some.inj G
  ·exact absurd s.symm (by rw[<- M,<- O];exact pairwise_iff_getElem.1 J j i N K h)
 have U:=q n os f.toList (by rw[Array.length_toList];exact D);rw[Array.toArray_toList,ae]at U;exact⟨rfl,U⟩
end
def WX(W:List ByteArray)(level:Int)(r:Fol.Rec):It:=⟨level,{kind:=r.kind,name:=if r.kind=1 then atW W r.name else none0,text:=r.text,attrs:=r.attrs.map fun a=>(atW W a.1,a.2)}⟩
structure dm(W:List ByteArray)(r:Fol.Rec):Prop where
 name:r.kind=1->r.name<=4000/\atW W r.name≠none0
 at_:∀p∈r.attrs,p.1<=4000/\atW W p.1≠none0
 rs:Rs (r.attrs.map fun a=>(atW W a.1,a.2))
 len:r.attrs.length<=20
def itZ:List Value:=[.int .i64 0,.int .i64 0,.string ⟨#[]⟩,.string ⟨#[]⟩,.slice none 0 0]
theorem fD:Agg Tryz.prog 260 2:=Ci (by kernel_rfl)
theorem nItem_spec{w:World}(xb ub wb:Nat)(U cs:List Value)(Tx Tt:TypeId)(hx:Blk w xb U Tx)(an:U[0]? =some (.pointer (some ⟨ub,0,none⟩)))(ht:Blk w ub cs Tt)(h2:cs[2]? =some (.pointer (some ⟨wb,0,none⟩))){wf:List Nat}{W:List ByteArray}(hW:(Aj wf wb W).ok w)
  (r:Fol.Rec) (R:Option Addr) (Y:Nat) (hA:Cells w R (Fol.BC r.attrs)) (hk:dm W r) (level:Int):
  Calls Tryz.prog 135 #[.pointer (some ⟨xb,0,none⟩),.agg (recC r R r.attrs.length Y).toArray,.int .i64 level] w fun e w'=>∃a c,e=.returned (.tuple #[.agg (itC (WX W level r) (a,r.attrs.length,c)).toArray,.bool true])/\
   Hp [] w w' [.own 142 2 a r.attrs.length c (atC (WX W level r).x.attrs)]:=by
 apply nItem.ok;unfold nItem.vc;have a3:=hk.len;intro nb w1 Z zb w2 aa;have H:=((Hp.start w).new (cs:=recC r R r.attrs.length Y) EQ4 Z).new (cs:=itZ) EQ4 aa;clear Z aa
 have ab:∀{g:World}{j:Nat}{t:TypeId}{v:Value},Chg [] w g->Scl Tryz.prog t->cs[j]? =some v->Ld Tryz.prog t g (Addr.add ⟨ub,0,none⟩ j) v:=fun{g j t v} N S hj=>by
  rw[add_lit,Nat.zero_add];exact(ht.chg N (by simp)).ld S.agg hj
 have ac:∀{g:World},Chg [] w g->Ld Tryz.prog 23 g ⟨xb,0,none⟩ (.pointer (some ⟨ub,0,none⟩)):=fun{g} N=>(hx.chg N (by simp)).ld rPT.agg an
 have ae:∀{g:World}{n:Int},Chg [] w g->n<=4000->atW W n≠none0->Calls Tryz.prog 198 #[.pointer (some ⟨wb,0,none⟩),.int .i64 n] g fun e w'=>e=.returned (.tuple #[.string (atW W n),.bool true])/\Hp [] g w' []:=fun{g n} N hn ao=>by
  have:=xName_spec (ZV hW N) n (by omega);rw[decide_eq_true ao]at this;exact this
 obtain⟨b,h⟩:∃b,b=WX W level r:=⟨_,rfl⟩
 have d:b.x.attrs=r.attrs.map fun a=>(atW W a.1,a.2):=by rw[h];rfl
 have F:b.x.name=if r.kind=1 then atW W r.name else none0:=by rw[h];rfl
 have q:b.level=level/\b.x.kind=r.kind/\b.x.text=r.text:=by rw[h];exact⟨rfl,rfl,rfl⟩
 rw[<- h];clear h;refine⟨r.kind,H.lo yInt,r.text,H.lo yStr,fun ib w3 af=>?_⟩;have H3:=H.new (cs:=itZ) EQ4 af;clear H af;refine Hp.stA H3 EQ4 DZ (vs:=[.int .i64 level,.int .i64 r.kind,.string ⟨#[]⟩,.string r.text,.slice none 0 0]) rfl rfl (by simp[itZ]) (cs':=[.int .i64 level,.int .i64 r.kind,.string none0,.string r.text,.slice none 0 0]) rfl fun w4 G=>?_;clear H3;obtain⟨u,f⟩:∃u:Sl3->List Value,u=fun s=>[.int .i64 level,.int .i64 r.kind,.string b.x.name,.string r.text,.slice s.1 s.2.1 s.2.2]:=⟨_,rfl⟩
 have ag:∀s,u s=itC b s:=fun s=>by rw[f,itC,q.1,q.2.1,q.2.2]
 refine Am.mk (fun t w'=>t=true/\Hp [] w w' (.blk ib (u (none,0,0)) 123::.blk zb itZ 123::.blk nb (recC r R r.attrs.length Y) 204::[])) ?_ ?_;rotate_left
 ·intro J hJ
  refine⟨r.kind,G.lo yInt,AB (fun A=>?_) (fun A=>hJ _ _ ⟨rfl,?_⟩)⟩
  ·obtain⟨n1,n2⟩:=hk.name A
   refine AA rfl ⟨_,ac G.drew.chg,AA rfl ⟨_,ab G.drew.chg rPB h2,r.name,G.lo yInt,AC (ae G.drew.chg n1 n2) ?_⟩⟩;rintro _ w5 ⟨rfl,H5⟩;refine⟨_,_,rfl,Hp.st (o:=2) (G.drew.ext0 H5) EQ4 yStr rfl rfl (by simp) (cs':=u (none,0,0)) ?_ fun w6 H6=>hJ _ _ ⟨rfl,H6⟩⟩;rw[f,F,if_pos A];rfl
  ·have:u (none,0,0)=[.int .i64 level,.int .i64 r.kind,.string none0,.string r.text,.slice none 0 0]:=by rw[f,F,if_neg A]
   rw[this];exact G
 clear G;rintro t w5 ⟨rfl,H5⟩;refine⟨R,r.attrs.length,Y,H5.ld (o:=7) (cs:=recC r R r.attrs.length Y) EQ4 Fol.Gv m2 rfl,?_⟩;have H6:=(H5.nilS 142 2).Ae;clear H5;refine AP.mk (fun m s w'=>∃(i:Nat)(a:Option Addr)(c:Nat)(X:List Asn),m=r.attrs.length-i/\i<=r.attrs.length/\s=(true,(i:Int))/\Hp [] w w' (.blk ib (u (a,i,c)) 123::.own 142 2 a i c (atC (b.x.attrs.take i))::.blk zb itZ 123::X)) r.attrs.length ⟨0,none,0,_,rfl,by omega,rfl,H6⟩ ?_;clear H6;rintro m s w6 nx ⟨i,a,c,X,rfl,hi,rfl,H⟩ ap;dsimp only;refine AB (fun h3=>?_) (fun h3=>?_)
 ·have C:i<r.attrs.length:=by omega
  obtain⟨p,aq⟩:∃p,p=r.attrs[i]:=⟨_,rfl⟩
  have hp:r.attrs[i]? =some p:=by rw[aq];exact List.getElem?_eq_getElem C
  obtain⟨p1,p2⟩:=hk.at_ p (mem_of_getElem? hp);have ah:=hA.chg H.chg (by simp)
  have O:((Fol.BC r.attrs).drop (i*2)).take 2=[.int .i64 p.1,.string p.2]:=by
   apply ext_getElem?;intro k;by_cases ar:k<2
   ·rw[List.getElem?_take_of_lt ar,List.getElem?_drop]
    have e:∀v,(Fol.Gh p)[k]? =some v->(Fol.BC r.attrs)[i*2+k]? =some v:=fun v=>Fol.flat_get r.attrs i k p v hp;rcases(by omega:k=0\/k=1)with rfl|rfl
    ·exact e _ rfl
    ·exact e _ rfl
   ·rw[List.getElem?_eq_none (by rw[length_take];omega),List.getElem?_eq_none (by simp;omega)]
  obtain⟨ad,ak⟩:=ah.some (fun e=>by rw[e]at O;simp at O);refine AA ak ⟨⟨by omega,h3⟩,p.1,p.2,by rw[Int.toNat_natCast];exact ah.ldA fD ak O rfl,fun yb w7 al=>?_⟩;have T:=H.nw al;refine Hp.sA T fD (cs':=[.int .i64 p.1,.string p.2]) fun w8 z=>?_;clear H T al;refine AA rfl ⟨_,ac z.drew.chg,AA rfl ⟨_,ab z.drew.chg rPB h2,p.1,z.lo yInt,AC (ae z.drew.chg p1 p2) ?_⟩⟩;rintro _ w9 ⟨rfl,H9⟩;have D:=z.drew.ext0 H9;clear z H9;refine⟨_,_,rfl,?_⟩;refine Am.mk (fun t w'=>t=true/\w'=w9) ?_ (fun J hJ=>CU (y:=_) (hJ _ _ ⟨rfl,rfl⟩));rintro t a4 ⟨rfl,hw⟩;obtain rfl:=hw.symm;refine⟨a,i,c,D.ld (o:=4) (cs:=u (a,i,c)) EQ4 iSAt m1 (by rw[f];rfl),p.2,D.lo yStr,fun vb a5 K=>?_⟩;have am:=D.nw K;clear D K;refine Hp.app ieltAt (by omega) am.D8 EQ4 (Blk.src (P:=Tryz.prog) iundAt (am.blk (.head _)) rfl rfl) (by simp only[maxLen];omega) (by omega) ?_;intro a2 c2 a6 av;refine Hp.st (o:=4) av.D8 EQ4 iSAt rfl rfl (by rw[f];simp) (cs':=u (a2,i+1,c2)) (by rw[f];rfl) fun a7 aw=>⟨iR,ap (r.attrs.length-(i+1)) _ _ (by omega) ⟨i+1,a2,c2,.blk vb [.string (atW W p.1),.string p.2] 142::.blk yb [.int .i64 p.1,.string p.2] 260::X,rfl,by omega,rfl,aw.perm ?_⟩⟩
  have e1:atC (b.x.attrs.take (i+1))=atC (b.x.attrs.take i)++[.string (atW W p.1),.string p.2]:=by
   have a0:i<b.x.attrs.length:=by rw[d,length_map];exact C
   have a1:b.x.attrs[i]=(atW W p.1,p.2):=by
    have:=congrArg (fun l=>l[i]?) d;simp only[List.getElem?_map,hp,Option.map_some]at this;exact(List.getElem?_eq_some_iff.1 this).2
   rw[take_succ_eq_append_getElem a0,II,a1];rfl
  refine AL fun ff gg h0 N ha a8=>?_;simp only[I,Q,e1,ha,N,h0,append_eq,nil_append,cons_append];omega
 ·have C:i=b.x.attrs.length:=by rw[d,length_map];omega
  have M:b.x.attrs.length=r.attrs.length:=by rw[d,length_map]
  rw[C,take_length]at H;refine⟨a,b.x.attrs.length,c,H.ld (o:=4) (cs:=u (a,b.x.attrs.length,c)) EQ4 iSAt (.head _) (by rw[f];rfl),AC (nSortA_spec b.x.attrs a c (by omega) (by rw[d];exact hk.rs) H.Ae) ?_⟩;rintro _ w7 ⟨rfl,T⟩;rw[ag]at T;refine⟨rfl,b.level,b.x.kind,b.x.name,b.x.text,a,b.x.attrs.length,c,T.loA DZ,?_⟩;refine Hp.stA T.BD EQ4 DZ (vs:=itC b (a,b.x.attrs.length,c)) rfl rfl (by simp[itZ]) (cs':=itC b (a,b.x.attrs.length,c)) rfl fun w8 z=>?_;refine⟨b.level,b.x.kind,b.x.name,b.x.text,a,b.x.attrs.length,c,z.loA DZ,a,c,by rw[<- M];rfl,?_⟩;rw[M]at z;exact Hp.BP (L:=[_]) z.Ae
end
end Go.Proofs.YtljenkbpnioipaaGreat
