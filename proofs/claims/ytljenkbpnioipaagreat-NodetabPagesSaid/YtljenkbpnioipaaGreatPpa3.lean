/- Part 3 of 6 of the proof of nodetabPages_holds: for every input, from every world that may be reached. -/
import Derived.Test.YtljenkbpnioipaaGreatPpa2
set_option linter.unusedVariables false
set_option linter.unusedSimpArgs false
set_option maxRecDepth 100000
set_option maxHeartbeats 4000000
open List(append_assoc append_nil append_of_mem cons_append drop_drop drop_one drop_succ_cons eq_nil_of_length_eq_zero filter_cons getElem_cons_drop getElem_mem length_append length_cons length_drop length_map length_take map_append map_cons map_drop map_map map_take mem_append mem_append_left mem_append_right mem_cons mem_filter mem_map mem_of_getElem? mem_of_mem_drop mem_singleton nil_append nodup_append nodup_cons pairwise_cons perm_append_comm perm_append_comm_assoc perm_middle size_toArray take_append_drop take_length take_of_length_le take_succ_cons take_succ_eq_append_getElem take_take take_zero)
namespace Go.Proofs.YtljenkbpnioipaaGreat
open Go Go.Vc Go.Nod
theorem iSAt:Scl Tryz.prog 69:=BH (by kernel_rfl)
theorem GN:Agg Tryz.prog 142 2:=Cb (by kernel_rfl)
theorem Dh:Agg Tryz.prog 123 5:=Cb (by kernel_rfl)
theorem ieltAt:Elt Tryz.prog 69 142 2 32:=CQ (by kernel_rfl)
theorem Zx:Elt Tryz.prog 34 123 5 72:=CQ (by kernel_rfl)
theorem iundAt:Tryz.prog.underlying 69=some (.slice 142):=by kernel_rfl
theorem aU:Tryz.prog.underlying 34=some (.slice 123):=by kernel_rfl
abbrev Sl3:=Option Addr×Nat×Nat
def atC(l:List At):List Value:=l.flatMap fun p=>[.string p.1,.string p.2]
theorem Ky(l:List At):(atC l).length=l.length*2:=by
 induction l with
 |nil=>rfl
 |cons p r a=>simp only[atC,List.flatMap_cons,length_append,length_cons,List.length_nil]at a⊢;omega
theorem Gz(a b:List At):atC (a++b)=atC a++atC b:=by simp[atC]
theorem Kz(l:List At):∀u∈atC l,u.oneCell'=true:=by
 intro u b;obtain⟨p,_,a⟩:=List.mem_flatMap.1 b;simp at a;rcases a with rfl|rfl<;>rfl
theorem KW:∀{l:List At}{k:Nat}{p:At},l[k]? =some p->((atC l).drop (k*2)).take 2=[.string p.1,.string p.2]
 |q::r,0,p,h=>by cases h;rfl
 |q::r,k+1,p,h=>by
  rw[show(k+1)*2=2+k*2 by omega,<- drop_drop];exact KW (l:=r) (by simpa using h)
theorem XE(l:List At)(k:Nat):(atC l).drop (k*2)=atC (l.drop k):=by
 induction l generalizing k with
 |nil=>simp[atC]
 |cons p r a=>
  cases k with
  |zero=>rfl
  |succ k=>
   rw[show(k+1)*2=2+k*2 by omega,<- drop_drop,drop_succ_cons,<- a];rfl
structure AtR(w:World)(a:Option Addr)(n:Nat)(l:List At):Prop where
 len:n=l.length
 cells:Cells w a (atC l)
theorem AtR.chg{w w':World}{a:Option Addr}{n:Nat}{l:List At}{B:List Nat}(h:AtR w a n l)(hc:Chg B w w')(b:∀k∈blks a,k∉B):AtR w' a n l:=⟨h.len,h.cells.chg hc b⟩
theorem AtR.go{w w':World}{a:Option Addr}{n:Nat}{l:List At}{L:List Asn}(h:AtR w a n l)(H:Hp [] w w' L):AtR w' a n l:=h.chg H.chg (by simp)
def itC(x:It)(s:Sl3):List Value:=[.int .i64 x.level,.int .i64 x.x.kind,.string x.x.name,.string x.x.text,.slice s.1 s.2.1 s.2.2]
def itsC(l:List It)(ss:List Sl3):List Value:=(List.zipWith itC l ss).flatten
theorem Vx:∀{l:List It}{ss:List Sl3}{k:Nat}{x:It}{s:Sl3},l[k]? =some x->ss[k]? =some s->((itsC l ss).drop (k*5)).take 5=itC x s
 |y::l,t::ss,0,x,s,h,h'=>by cases h;cases h';rfl
 |y::l,t::ss,k+1,x,s,h,h'=>by
  rw[show(k+1)*5=5+k*5 by omega,<- drop_drop];exact Vx (l:=l) (ss:=ss) (by simpa using h) (by simpa using h')
 | [],_,k,x,s,h,h'=>by simp at h
 |_::_,[],k,x,s,h,h'=>by simp at h'
theorem itsC_one{l:List It}{ss:List Sl3}{k j:Nat}{x:It}{s:Sl3}{v:Value}(h:l[k]? =some x)(b:ss[k]? =some s)(a:(itC x s)[j]? =some v):(itsC l ss)[k*5+j]? =some v:=by
 have c:=Vx h b
 have d:j<5:=by
  have:=(List.getElem?_eq_some_iff.1 a).1;simpa [itC]using this
 rw[<- c,List.getElem?_take_of_lt d,List.getElem?_drop]at a;exact a
structure ItR(w:World)(a:Option Addr)(n:Nat)(l:List It)(ss:List Sl3):Prop where
 len:n=l.length
 ssl:ss.length=l.length
 cells:Cells w a (itsC l ss)
 attrs:∀(k:Nat)(x:It)(s:Sl3),l[k]? =some x->ss[k]? =some s->AtR w s.1 s.2.1 x.x.attrs
theorem ItR.go{w w':World}{a:Option Addr}{n:Nat}{l:List It}{ss:List Sl3}{L:List Asn}(h:ItR w a n l ss)(H:Hp [] w w' L):ItR w' a n l ss:=
 ⟨h.len,h.ssl,h.cells.chg H.chg (by simp),fun k x s b c=>(h.attrs k x s b c).go H⟩
theorem ItR.at_{w:World}{a:Option Addr}{n:Nat}{l:List It}{ss:List Sl3}(h:ItR w a n l ss){k:Nat}(d:k<n):∃x s,l[k]? =some x/\ss[k]? =some s/\AtR w s.1 s.2.1 x.x.attrs:=by
 have e:=h.len;have f:=h.ssl;have b:l[k]? =some (l[k]'(by omega)):=List.getElem?_eq_getElem (by omega);have c:ss[k]? =some (ss[k]'(by omega)):=List.getElem?_eq_getElem (by omega);exact⟨_,_,b,c,h.attrs k _ _ b c⟩
theorem ItR.some{w:World}{a:Option Addr}{n:Nat}{l:List It}{ss:List Sl3}(h:ItR w a n l ss){k:Nat}{x:It}{s:Sl3}(f:l[k]? =some x)(g:ss[k]? =some s):∃b,a=Option.some b/\Ld Tryz.prog 123 w (b.add (k*5)) (.agg (itC x s).toArray):=by
 have c:=Vx f g;obtain⟨b,d⟩:=h.cells.some (fun e=>by rw[e]at c;simp[itC]at c);exact⟨b,d,h.cells.ldA Dh d c rfl⟩
theorem ItR.ld{w:World}{a:Option Addr}{n:Nat}{l:List It}{ss:List Sl3}(h:ItR w a n l ss){k:Nat}{x:It}{s:Sl3}(c:l[k]? =Option.some x)(d:ss[k]? =Option.some s){b:Addr}(e:a=Option.some b){t:TypeId}(S:Scl Tryz.prog t){j:Nat}{v:Value}(f:(itC x s)[j]? =Option.some v):Ld Tryz.prog t w (b.add (k*5+j)) v:=
 h.cells.ld S e (itsC_one c d f)
theorem QG(s:ByteArray)(d:s.size<=maxLen)(w:World):Calls Tryz.prog 179 #[.string s] w fun e w'=>e=.returned (.int .i64 (BQ s))/\Hp [] w w' []:=by
 apply pChars.ok;unfold pChars.vc;refine AC (QC s d w) ?_;rintro _ f ⟨⟨z,rfl,b⟩,H⟩;refine⟨_,rfl,AB (fun h=>⟨?_,H⟩) (fun h=>?_)⟩
 ·rw[BQ,if_pos (b.1 h)]
 ·have c:¬¬Yv s:=fun a=>h (b.2 a)
  refine AB (fun a=>⟨?_,H⟩) (fun a=>⟨?_,H⟩)
  ·rw[BQ,if_neg c,if_pos (by omega)]
  ·rw[BQ,if_neg c,if_neg (by omega)]
theorem Yx{a b:ByteArray}:(Op.bytesLess a.data.toList b.data.toList||decide (a=b))=true↔¬ltB b a:=by
 rw[Go.Proofs.bytesLess_eq,Bool.or_eq_true,decide_eq_true_eq,decide_eq_true_eq];constructor
 ·rintro(h|rfl)
  ·exact fun c=>Ut h c
  ·exact EH _
 ·intro h
  rcases NE a b with c|c|c
  ·exact .inl c
  ·exact .inr c
  ·exact(h c).elim
def RU(x:NX):Prop:=x.name.size<=maxLen/\x.text.size<=maxLen/\∀a∈x.attrs,a.1.size<=maxLen/\a.2.size<=maxLen
theorem name_ne{s:ByteArray}(h:Dq s):ltB ⟨#[]⟩ s:=by
 have a:s.data.toList≠[]:=fun e=>by
  have:=h.1;rw[<- CU,e]at this;simp at this
 obtain⟨x,t,b⟩:=List.exists_cons_of_ne_nil a;show([]:List UInt8)<s.data.toList;rw[b];exact List.nil_lt_cons _ _
theorem rs_take_succ{l:List At}{k:Nat}{p:At}(f:l[k]? =some p)(h:Rs (l.take k))(i:∀q,(l.take k).getLast? =some q->ltB q.1 p.1):Rs (l.take (k+1)):=by
 have j:=(List.getElem?_eq_some_iff.1 f).1
 have e:l.take (k+1)=l.take k++[p]:=by
  rw[take_succ_eq_append_getElem j,(List.getElem?_eq_some_iff.1 f).2]
 rw[e];refine List.pairwise_append.2 ⟨h,by simp,fun a c b m=>?_⟩;rw[mem_singleton.1 m]
 cases hlast:(l.take k).getLast? with
 |none=>rw[List.getLast?_eq_none_iff.1 hlast]at c;cases c
 |some q=>
  have g:=i q hlast;obtain⟨n,d⟩:=List.getLast?_eq_some_iff.1 hlast;rw[d]at c;rcases mem_append.1 c with c|c
  ·rw[d,Rs,List.pairwise_append]at h
   exact E8 (h.2.2 a c q (by simp)) g
  ·rw[mem_singleton.1 c];exact g
theorem rs_last{l:List At}{k:Nat}{p q:At}(h:Rs l)(c:l[k]? =some p)(d:(l.take k).getLast? =some q):ltB q.1 p.1:=by
 have e:=(List.getElem?_eq_some_iff.1 c).1;have f:=List.mem_of_getLast? d;obtain⟨j,a⟩:=List.getElem?_of_mem f;have b:=(List.getElem?_eq_some_iff.1 a).1;rw[length_take]at b;rw[List.getElem?_take_of_lt (by omega)]at a;have:=List.pairwise_iff_getElem.1 h j k (by omega) e (by omega);rw[(List.getElem?_eq_some_iff.1 a).2,(List.getElem?_eq_some_iff.1 c).2]at this;exact this
theorem pNames_spec(F:Int)(x:NX)(a:Option Addr)(n c:Nat)(w:World)(M:AtR w a n x.attrs)(hn:n<=maxLen):Calls Tryz.prog 180 #[.agg (itC ⟨F,x⟩ (a,n,c)).toArray] w fun e w'=>e=.returned (.int .i64 (DJ x))/\Hp [] w w' []:=by
 apply pNames.ok;unfold pNames.vc;simp only[maxLen]at hn;have N:=M.len;intro b S G;have H:=(Hp.start w).new (cs:=itC ⟨F,x⟩ (a,n,c)) EQ4 G;refine⟨x.name,H.lo yStr,AC (IB x.name S) ?_⟩;rintro _ X ⟨rfl,I⟩;replace H:=H.ext0 I;refine⟨_,rfl,KR (fun h=>⟨?_,H.drop⟩) (fun h=>?_)⟩
 ·rw[DJ,if_pos h]
 refine⟨a,n,c,H.lo iSAt,?_⟩;have j:¬¬Dq x.name:=fun J=>J h;have y:∀w',¬Pz x.attrs->Hp [] w w' []->Ending.returned (.int .i64 63)=.returned (.int .i64 (DJ x))/\Hp [] w w' []:=fun w' g H=>⟨by rw[DJ,if_neg j,if_pos g],H⟩;refine AP.mk (fun m s w'=>∃k:Nat,m=n-k/\k<=n/\s.2=(k:Int)/\(∀p∈x.attrs.take k,Dq p.1)/\Rs (x.attrs.take k)/\s.1=(((x.attrs.take k).getLast?).map (·.1)).getD ⟨#[]⟩/\Hp [] w w' [.blk b (itC ⟨F,x⟩ (a,n,c)) 123]) n ⟨0,rfl,by omega,rfl,by simp,by simp[Rs],rfl,H⟩ ?_;clear H
 rintro m ⟨z,i⟩ Y next ⟨k,rfl,Z,O,l,o,d,H⟩ r
 dsimp only at O d⊢;subst O;refine AB (fun P=>?_) (fun P=>?_)
 ·have A:k<x.attrs.length:=by omega
  obtain⟨p,B⟩:∃p,x.attrs[k]? =some p:=⟨_,List.getElem?_eq_getElem A⟩;have t:=KW B;have C:=M.chg H.chg (by simp);obtain⟨ad,Q⟩:=C.cells.some (fun e=>by rw[e]at t;simp at t);refine AA Q ⟨⟨by omega,P⟩,p.1,p.2,?_,?_⟩
  ·rw[Int.toNat_natCast];exact C.cells.ldA GN Q t rfl
  intro b2 w4 K;replace H:=H.nw K;refine Hp.sA H GN (cs':=[.string p.1,.string p.2]) fun T H=>?_;refine⟨p.1,H.lo yStr,AC (IB p.1 T) ?_⟩;rintro _ w6 ⟨rfl,I⟩;replace H:=H.ext0 I;refine⟨_,rfl,KR (fun u=>y _ (fun g=>u (g.1 p (mem_of_getElem? B))) H.drop.drop) (fun u=>?_)⟩;refine⟨p.1,H.lo yStr,JH (fun E=>?_) (fun E=>?_)⟩
  ·refine y _ (fun g=>Yx.1 E ?_) H.drop.drop
   rw[d]
   cases f:(x.attrs.take k).getLast? with
   |none=>exact name_ne u
   |some q=>exact rs_last g.2 B f
  ·have R:ltB z p.1:=Classical.byContradiction fun U=>by rw[Yx.2 U]at E;cases E
   have D:x.attrs.take (k+1)=x.attrs.take k++[p]:=by
    rw[take_succ_eq_append_getElem A,(List.getElem?_eq_some_iff.1 B).2]
   refine⟨p.1,H.lo yStr,iR,r (n-(k+1)) _ _ (by omega) ⟨k+1,rfl,by omega,by simp,fun q f=>?_,rs_take_succ B o (fun q f=>?_),?_,H.drop⟩⟩
   ·rw[D]at f
    rcases mem_append.1 f with f|f
    ·exact l q f
    ·rw[mem_singleton.1 f];exact u
   ·rw[d,f]at R;exact R
   ·rw[D,List.getLast?_append];rfl
 ·have L:x.attrs.take k=x.attrs:=take_of_length_le (by omega)
  rw[L]at l o;have g:¬¬Pz x.attrs:=fun J=>J ⟨l,o⟩;refine⟨a,n,c,H.lo iSAt,AB (fun u=>⟨?_,H.drop⟩) (fun u=>⟨?_,H.drop⟩)⟩
  ·rw[DJ,if_neg j,if_neg g,if_pos (by omega)]
  ·rw[DJ,if_neg j,if_neg g,if_neg (by omega)]
noncomputable section
theorem PR:∀(a b:List At),valsE (a++b)=if valsE a=0 then valsE b else valsE a
 | [],b=>by simp[valsE]
 |x::a,b=>by
  rw[cons_append,valsE,valsE,PR a b];by_cases h:BQ x.2=0
  ·simp only[if_pos h]
  ·simp only[if_neg h]
theorem Ub{l:List At}{k:Nat}{p:At}(a:l[k]? =some p):valsE (l.take (k+1))=if valsE (l.take k)=0 then BQ p.2 else valsE (l.take k):=by
 have b:=(List.getElem?_eq_some_iff.1 a).1;rw[take_succ_eq_append_getElem b,(List.getElem?_eq_some_iff.1 a).2,PR]
 have:valsE [p]=BQ p.2:=by
  rw[valsE,valsE];by_cases h:BQ p.2=0
  ·rw[if_pos h,h]
  ·rw[if_neg h]
 rw[this]
def KP(x:NX)(k:Nat):Int:=if DJ x=0 then valsE (x.attrs.take k)else DJ x
theorem pParts_spec(o:Int)(x:NX)(a:Option Addr)(n c:Nat)(w:World)(B:AtR w a n x.attrs)(hn:n<=maxLen)(I:RU x):Calls Tryz.prog 121 #[.agg (itC ⟨o,x⟩ (a,n,c)).toArray] w fun e w'=>e=.returned (.int .i64 (Ap x))/\Hp [] w w' []:=by
 apply pParts.ok;unfold pParts.vc;have C:=hn;simp only[maxLen]at hn;have t:=B.len;intro b P D;have H:=(Hp.start w).new (cs:=itC ⟨o,x⟩ (a,n,c)) EQ4 D;refine Am.mk (fun s w'=>s=dec (x.kind=2/\x.name=⟨#[]⟩/\x.attrs=[])/\Hp [] w w' [.blk b (itC ⟨o,x⟩ (a,n,c)) 123]) ?_ ?_
 ·rintro s K ⟨rfl,H⟩
  refine br_d (fun h=>⟨x.text,H.lo yStr,AC (QG x.text I.2.1 K) ?_⟩) (fun h=>⟨x.kind,H.lo yInt,Aa (fun q=>⟨?_,H.drop⟩) (fun q=>?_)⟩)
  ·rintro _ M ⟨rfl,u⟩
   exact⟨_,rfl,by rw[Ap,if_pos h.1,if_pos h.2],H.drop.ext0 u⟩
  ·rw[Ap]
   by_cases d:x.kind=2
   ·rw[if_pos d,if_neg fun f=>h ⟨d,f⟩]
   ·rw[if_neg d,if_neg fun f=>q f.1]
  have y:¬x.kind=2:=by omega
  refine⟨x.text,H.lo yStr,Aa (fun d=>⟨by rw[Ap,if_neg y,if_neg fun f=>d f.2],H.drop⟩) (fun d=>?_)⟩;refine⟨o,x.kind,x.name,x.text,a,n,c,H.ldA (vs:=itC ⟨o,x⟩ (a,n,c)) EQ4 Dh (.head _) rfl rfl,AC (pNames_spec o x a n c K (B.go H) C) ?_⟩;rintro _ M ⟨rfl,u⟩;replace H:=H.ext0 u;refine⟨_,rfl,a,n,c,H.lo iSAt,?_⟩;refine AP.mk (fun m s w'=>∃k:Nat,m=n-k/\k<=n/\s=(KP x k,(k:Int))/\Hp [] w w' []) n ⟨0,rfl,by omega,?_,H.drop⟩ ?_
  ·rw[KP,take_zero,valsE]
   by_cases f:DJ x=0
   ·rw[if_pos f,f];rfl
   ·rw[if_neg f];rfl
  clear H
  rintro m s Q next ⟨k,rfl,R,rfl,H⟩ i
  dsimp only;refine AB (fun f=>?_) (fun f=>⟨?_,H⟩)
  ·have E:k<x.attrs.length:=by omega
   obtain⟨p,A⟩:∃p,x.attrs[k]? =some p:=⟨_,List.getElem?_eq_getElem E⟩;have j:=KW A;have z:=B.go H;obtain⟨S,L⟩:=z.cells.some (fun e=>by rw[e]at j;simp at j);refine Am.mk (fun s w'=>s=KP x (k+1)/\Hp [] w w' []) ?_ ?_
   ·rintro s N ⟨rfl,H⟩
    exact⟨iR,i (n-(k+1)) _ _ (by omega) ⟨k+1,rfl,by omega,rfl,H⟩⟩
   ·intro J r
    refine AA L ⟨⟨by omega,f⟩,p.1,p.2,?_,?_⟩
    ·rw[Int.toNat_natCast];exact z.cells.ldA GN L j rfl
    intro T N F;replace H:=H.nw F;refine Hp.sA H GN (cs':=[.string p.1,.string p.2]) fun O H=>?_;refine AB (fun g=>⟨p.2,H.lo yStr,AC (QG p.2 (I.2.2 p (mem_of_getElem? A)).2 O) ?_⟩) (fun g=>r _ _ ⟨?_,H.drop⟩)
    ·rintro _ U ⟨rfl,u⟩
     refine⟨_,rfl,r _ _ ⟨?_,(H.ext0 u).drop⟩⟩;rw[KP]at g⊢;split at g
     ·rename_i l;rw[if_pos l,Ub A,if_pos g]
     ·exact absurd g (by assumption)
    ·rw[KP]at g
     rw[KP,KP];split at g
     ·rename_i l;rw[if_pos l,if_pos l,Ub A,if_neg g]
     ·rename_i l;rw[if_neg l,if_neg l]
  ·have G:x.attrs.take k=x.attrs:=take_of_length_le (by omega)
   have e:Ap x=if DJ x=0 then valsE x.attrs else DJ x:=by rw[Ap,if_neg y,if_pos ⟨by omega,d⟩]
   rw[KP,G,e]
 ·intro J r
  refine⟨x.kind,H.lo yInt,AB (fun h=>⟨x.name,H.lo yStr,AB (fun q=>⟨a,n,c,H.lo iSAt,r _ _ ⟨?_,H⟩⟩) (fun q=>r _ _ ⟨?_,H⟩)⟩) (fun h=>r _ _ ⟨?_,H⟩)⟩
  ·refine RH ⟨fun d=>⟨h,q,eq_nil_of_length_eq_zero (by omega)⟩,fun d=>?_⟩
   rw[t,d.2.2];rfl
  ·exact CG fun d=>q d.2.1
  ·exact CG fun d=>h d.1
theorem pPlace_spec(a:Option Addr)(n c:Nat)(l:List It)(ss:List Sl3)(k:Nat)(x:It)(L:l[k]? =some x)(w:World)(A:ItR w a n l ss)(hn:n<=maxLen)
  (B:∀y,0<k->l[k-1]? =some y->0<=y.level/\y.level<1000000):Calls Tryz.prog 120 #[.slice a n c,.int .i64 (k:Int)] w fun e w'=>e=.returned (.int .i64 (Cc l k x))/\Hp [] w w' []:=by
 apply pPlace.ok;unfold pPlace.vc;simp only[maxLen]at hn;have Q:=A.len;have T:=(List.getElem?_eq_some_iff.1 L).1;obtain⟨x',s,C,U,X⟩:=A.at_ (k:=k) (by omega);rw[L]at C;cases C;obtain⟨R,u,M⟩:=A.some L U;refine AA u ⟨⟨by omega,by omega⟩,_,_,_,_,_,_,_,by rw[Int.toNat_natCast];exact M,?_⟩;intro b w1 N;have H:=(Hp.start w).nw N;refine Hp.sA H Dh (cs':=itC x s) fun w2 H=>?_
 have D:0<k->∃y K,l[k-1]? =some y/\ss[k-1]? =some K/\0<=y.level/\y.level<1000000/\Int.toNat ((k:Int)-1)=k-1:=fun h=>by
  obtain⟨y,K,g,m,_⟩:=A.at_ (k:=k-1) (by omega);exact⟨y,K,g,m,(B y h g).1,(B y h g).2,by omega⟩
 refine Am.mk (fun O w'=>O=dec (k=0/\(x.level≠0\/x.x.kind≠1))/\Hp [] w w' [.blk b (itC x s) 123]) ?_ ?_
 ·clear H
  rintro _ S ⟨rfl,H⟩;refine br_d (fun h=>⟨by rw[Cc,if_pos h],H.drop⟩) (fun h=>?_);refine Am.mk (fun O w'=>O=dec (0<k/\(x.level<1\/∃y,l[k-1]? =some y/\(y.level+1<x.level\/(y.level<x.level/\y.x.kind=2))))/\Hp [] w w' [.blk b (itC x s) 123]) ?_ ?_
  ·clear H
   rintro _ w4 ⟨rfl,H⟩;refine br_d (fun o=>⟨by rw[Cc,if_neg h,if_pos o],H.drop⟩) (fun o=>?_);refine⟨_,H.lo yInt,AB (fun d=>⟨by rw[Cc,if_neg h,if_neg o,if_pos d],H.drop⟩) (fun d=>AB (fun i=>⟨?_,H.drop⟩) (fun i=>⟨?_,H.drop⟩))⟩
   ·rw[Cc,if_neg h,if_neg o,if_neg d,if_pos (by omega)]
   ·rw[Cc,if_neg h,if_neg o,if_neg d,if_neg (by omega)]
  ·intro J p
   refine AB (fun o=>?_) (fun o=>p _ _ ⟨CG fun d=>by omega,H.drew⟩)
   have q:0<k:=by omega
   obtain⟨y,K,g,m,Y,Z,t⟩:=D q;have E:=(A.go H.drop.drew);have F:Ld Tryz.prog 3 S.drew (R.add ((k-1)*5)) (.int .i64 y.level):=E.ld g m u yInt (j:=0) rfl
   have P:Ld Tryz.prog 3 S.drew ((R.add ((k-1)*5)).add 1) (.int .i64 y.x.kind):=by rw[add_add];exact E.ld g m u yInt (j:=1) rfl
   refine⟨_,H.lo yInt,AB (fun d=>p _ _ ⟨Cf ⟨q,.inl d⟩,H.drew⟩) (fun d=>?_)⟩;refine⟨_,H.lo yInt,iR,AA u ⟨⟨by omega,by omega⟩,y.level,by rw[t];exact F,iR,AB (fun i=>p _ _ ⟨Cf ⟨q,.inr ⟨y,g,.inl i⟩⟩,H.drew⟩) (fun i=>?_)⟩⟩;refine⟨_,H.lo yInt,iR,AA u ⟨⟨by omega,by omega⟩,y.level,by rw[t];exact F,AB (fun G=>?_) (fun G=>p _ _ ⟨CG ?_,H.drew⟩)⟩⟩
   ·refine⟨iR,AA u ⟨⟨by omega,by omega⟩,y.x.kind,by rw[t];exact P,p _ _ ⟨RH ⟨fun f=>⟨q,.inr ⟨y,g,.inr ⟨G,f⟩⟩⟩,?_⟩,H.drew⟩⟩⟩
    rintro⟨_,f|⟨z,r,f|f⟩⟩
    ·exact(d f).elim
    ·rw[g]at r;cases r;exact(i f).elim
    ·rw[g]at r;cases r;exact f.2
   ·rintro⟨_,f|⟨z,r,f|f⟩⟩
    ·exact(d f).elim
    ·rw[g]at r;cases r;exact(i f).elim
    ·rw[g]at r;cases r;exact(G f.1).elim
 ·intro J p
  refine AB (fun o=>?_) (fun o=>p _ _ ⟨CG fun d=>by omega,H⟩)
  have I:k=0:=by omega
  refine⟨_,H.lo yInt,Aa (fun d=>p _ _ ⟨Cf ⟨I,.inl d⟩,H⟩) (fun d=>⟨_,H.lo yInt,p _ _ ⟨not_dec_of ⟨fun i=>⟨I,.inr i⟩,fun i=>i.2.resolve_left (fun G=>G d)⟩,H⟩⟩)⟩
theorem IJ(a:Option Addr)(n c:Nat)(l:List It)(ss:List Sl3)(w:World)(z:ItR w a n l ss)(hn:n<=maxLen)(B:∀s∈ss,s.2.1<=maxLen)(C:∀x∈l,RU x.x):
  Calls Tryz.prog 62 #[.slice a n c] w fun e w'=>e=.returned (.tuple #[.int .i64 ((D5 l).1:Int),.int .i64 (D5 l).2])/\Hp [] w w' []:=by
 apply pCheck.ok;unfold pCheck.vc;have D:=hn;simp only[maxLen]at hn;have q:=z.len;refine AB (fun h=>⟨?_,Hp.start w⟩) (fun h=>?_)
 ·have:l=[]:=eq_nil_of_length_eq_zero (by omega)
  rw[D5,if_pos this];rfl
 have E:l≠[]:=fun e=>h (by rw[q,e];rfl);rw[D5,if_neg E];refine AP.mk (fun m s w'=>∃k:Nat,m=n-k/\k<=n/\s=(k:Int)/\FK l k (l.drop k)=FK l 0 l/\(∀y,0<k->l[k-1]? =some y->0<=y.level/\y.level<1000000)/\Hp [] w w' []) n ⟨0,rfl,by omega,rfl,rfl,by omega,Hp.start w⟩ ?_
 rintro m s Y next ⟨k,rfl,N,rfl,d,F,H⟩ f
 refine AB (fun O=>?_) (fun O=>⟨?_,H⟩)
 ·have G:k<n:=by omega
  have r:=z.go H;obtain⟨x,s,i,I,_⟩:=r.at_ (k:=k) G;obtain⟨Z,Q,J⟩:=r.some i I;have K:=(List.getElem?_eq_some_iff.1 i).1
  have L:l.drop k=x::l.drop (k+1):=by rw[List.drop_eq_getElem_cons K,(List.getElem?_eq_some_iff.1 i).2]
  rw[L,FK]at d;refine AA Q ⟨⟨by omega,O⟩,_,_,_,_,_,_,_,by rw[Int.toNat_natCast];exact J,?_⟩;intro b w2 t;replace H:=H.nw t;refine Hp.sA H Dh (cs':=itC x s) fun R H=>?_;refine AC (pPlace_spec a n c l ss k x i R (z.go H) D F) ?_;rintro _ S ⟨rfl,M⟩;replace H:=H.ext0 M
  have T:∀w',Hp [] w w' []->oneE l k x=0->inR .i64 ((k:Int)+1)/\next ((k:Int)+1) w':=fun w' H p=>by
   rw[if_pos p]at d;refine⟨iR,f (n-(k+1)) _ _ (by omega) ⟨k+1,rfl,by omega,by simp,d,fun y _ P=>?_,H⟩⟩;rw[Nat.add_sub_cancel,i]at P;cases P;rw[oneE]at p;split at p
   ·rename_i j
    rw[Cc]at j;split at j
    ·cases j
    split at j
    ·cases j
    split at j
    ·cases j
    rename_i U X g3;refine⟨?_,by omega⟩;rcases Nat.eq_zero_or_pos k with e|e
    ·exact Classical.byContradiction fun g=>U ⟨e,.inl (by omega)⟩
    ·exact Classical.byContradiction fun g=>X ⟨e,.inl (by omega)⟩
   ·exact absurd p (by assumption)
  have u:∀w',Hp [] w w' []->oneE l k x≠0->Ending.returned (.tuple #[.int .i64 (k:Int),.int .i64 (oneE l k x)])=.returned (.tuple #[.int .i64 ((FK l 0 l).1:Int),.int .i64 (FK l 0 l).2])/\Hp [] w w' []:=fun w' H p=>by
   rw[if_neg p]at d;rw[<- d];exact⟨rfl,H⟩
  refine⟨_,rfl,AB (fun A=>?_) (fun A=>?_)⟩
  ·refine⟨_,_,_,_,_,_,_,H.ldA (vs:=itC x s) EQ4 Dh (.head _) rfl rfl,AC (pParts_spec x.level x.x s.1 s.2.1 s.2.2 S ((z.go H).attrs k x s i I) (B s (mem_of_getElem? I)) (C x (mem_of_getElem? i))) ?_⟩
   rintro _ w5 ⟨rfl,M⟩;replace H:=H.ext0 M
   have e:oneE l k x=Ap x.x:=by rw[oneE,if_pos A]
   rw[<- e];exact⟨_,rfl,Aa (fun o=>u _ H.drop o) (fun o=>T _ H.drop o)⟩
  ·have e:oneE l k x=Cc l k x:=by rw[oneE,if_neg A]
   rw[<- e];exact Aa (fun o=>u _ H.drop o) (fun o=>(A (by rw[<- e];exact o)).elim)
 ·have N:l.drop k=[]:=List.drop_eq_nil_of_le (by omega)
  rw[N,FK]at d;rw[<- d];rfl
end
end Go.Proofs.YtljenkbpnioipaaGreat
namespace Go.Vc
open Go
section
variable{P:Program}{w:World}{e:TypeId}{sz n c:Nat}{a:Option Addr}{xs:List Value}
theorem Own.keep(h:Own w 0 e sz a n c xs){F:Nat}(d:F<=n):Own w 0 e sz a F c (xs.take (F*sz)):=by
 have f:F*sz<=n*sz:=Nat.mul_le_mul_right _ d;refine⟨by rw[length_take,h.1];omega,?_⟩
 rcases h.2 with⟨rfl,rfl,rfl⟩|⟨g,b,i,rfl,j,k,l,q,m,o,p⟩
 ·exact .inl ⟨rfl,by omega,rfl⟩
 ·exact .inr ⟨g,b,i,rfl,j,k,l,by omega,m,o,by rw[<- p,take_take,Nat.min_eq_left f]⟩
theorem Own.full(h:Own w 0 e sz a n c xs)(d:a≠none):∃ys,ys.length=(c-n)*sz/\Own w 0 e sz a c c (xs++ys):=by
 rcases h.2 with⟨rfl,_⟩|⟨g,b,f,rfl,i,j,k,l,m,o,p⟩
 ·exact(d rfl).elim
 ·have q:n*sz<=c*sz:=Nat.mul_le_mul_right _ l
  have r:b.toList.length=b.size:=Array.length_toList;refine⟨(b.toList.take (c*sz)).drop (n*sz),?_,?_,.inr ⟨g,b,f,rfl,i,j,k,Nat.le_refl _,m,o,?_⟩⟩
  ·rw[length_drop,length_take,Nat.sub_mul];omega
  ·rw[length_append,h.1,length_drop,length_take];omega
  ·rw[<- p]
   have:b.toList.take (n*sz)=(b.toList.take (c*sz)).take (n*sz):=by rw[take_take,Nat.min_eq_left q]
   rw[this,take_append_drop]
theorem Own.CE(h:Own w 0 e sz a n c xs)(hn:0<n):∃g,a=some ⟨g,0,none⟩:=by
 rcases h.2 with⟨_,d,_⟩|⟨g,b,f,rfl,_⟩
 ·omega
 ·exact⟨g,rfl⟩
structure Frm(P:Program)(sz:Nat)(x:Value)(lx k:Nat)(news:List Value)(w:World):Prop where
 len:∀w':World,(Builtin.lenOf x).run P w'=.ok lx w'
 cells:(Builtin.firstCells sz k x).run P w=.ok news.toArray w
 newsLen:news.length=k*sz
 one:∀u∈news,u.oneCell'=true
theorem Frm.of{b:Option Addr}{f g k:Nat}{d:List Value}(h:Cells w b d)(i:d.length=k*sz)(h1:∀u∈d,u.oneCell'=true):Frm P sz (.slice b f g) f k d w:=by
 refine⟨fun t=>rfl,?_,i,h1⟩
 cases b with
 |none=>
  have:d=[]:=by
   cases hn:d with
   |nil=>rfl
   |cons v r=>obtain⟨_,l,_⟩:=h 0 v (by rw[hn];rfl);cases l
  subst this;exact run_firstCells_none w sz k f g
 |some m=>
  refine run_firstCells_some w sz k m f g d i fun j v o=>?_;obtain⟨p,q,s⟩:=h j v o;cases q;exact s
theorem Own.cpy{dT tx ty:TypeId}{x:Value}{A i N c' k:Nat}{d:List Value}(h:Own w 0 e sz a n c xs)(H:P.underlying dT=some (.slice e))(O:Dc P e=some sz)(p:Frm P sz x A k d w)(Q:k=min A N)(q:i+k<=n):
  ∃w1,Cpy P #[dT,tx] ty w (.slice (slA a c i sz) N c') x (.int .i64 (k:Int)) w1/\Own w1 0 e sz a n c (over d (i*sz) xs)/\Chg (blks a) w w1:=by
 have I:(sizeOf e).run P w=.ok sz w:=Bh O w;have J:=p.cells;have l:Nat.min A N=k:=Q.symm;have r:=h.1;have B:=p.newsLen;by_cases o:d=[]
 ·subst o
  refine⟨w,?_,by rw[CO];exact h,Chg.refl _ _⟩;simp only[Cpy,Builtin.copy_];cases s:slA a c i sz<;>simp[Ac H,p.len w,l,I,J,storeCells,goInt]
 ·have t:0<k*sz:=by rw[<- B];exact List.length_pos_iff.2 o
  have R:0<k:=Nat.pos_of_mul_pos_right t
  rcases h.2 with⟨rfl,Y,_⟩|⟨g,f,C,rfl,S,K,L,u,D,E,U⟩
  ·omega
  have F:¬c=i:=by omega
  have M:i*sz+k*sz<=n*sz:=by rw[<- Nat.add_mul];exact Nat.mul_le_mul_right _ q
  have G:n*sz<=c*sz:=Nat.mul_le_mul_right _ u;have y:f.toList.length=f.size:=Array.length_toList
  have z:w.heap[g]? =some (.cells f.toList.toArray e C):=by simpa using K
  have m:=Bl (P:=P) (b:=g) (T:=e) (fz:=C) d w f.toList ⟨g,i*sz,none⟩ (i*sz) 0 rfl (fun j=>by simp[add_lit]) z (by omega) (fun X Z h2=>L X (by omega)) p.one;rw[if_neg o]at m
  have s:slA (some ⟨g,0,none⟩) c i sz=some ⟨g,i*sz,none⟩:=by
   unfold slA;rw[if_neg F,Option.map_some,add_lit,Nat.zero_add]
  refine⟨_,?_,⟨by rw[CS _ _ _ (by omega)];exact r,.inr ⟨g,(over d (i*sz) f.toList).toArray,C,rfl,S,DC (Array.getElem?_eq_some_iff.1 K).1,?_,u,D,?_,?_⟩⟩,Ci _ _ _⟩
  ·simp only[Cpy,Builtin.copy_,s]
   simp[Ac H,p.len w,l,I,J,m,goInt]
  ·rw[size_toArray,CS _ _ _ (by omega),y];exact L
  ·rw[size_toArray,CS _ _ _ (by omega),y];exact E
  ·show(over d (i*sz) f.toList).take (n*sz)=_
   rw[NZ _ _ _ _ (by omega) (by omega),U]
theorem Own.bF{t tx ty:TypeId}{s m:Nat}{x:Value}{b:List Value}(T:Elt P t e sz s)(h:Own w 0 e sz a n c xs)(E:a≠none)(r:Src P sz tx x m b w)(d:n+m<=c):
  ∃w1,App P #[t,tx] ty w (.slice a n c) x (.slice a (n+m) c) w1/\Own w1 0 e sz a (n+m) c (xs++b)/\Chg (blks a) w w1:=by
 obtain⟨F,i,z,G,O,rfl,rfl,H⟩:=T
 rcases h.2 with⟨rfl,_⟩|⟨g,f,u,rfl,y,A,C,I,B,o,k⟩
 ·exact(E rfl).elim
 have D:n*i.size+b.length<=f.size:=by rw[r.newsLen,<- Nat.add_mul];exact Nat.le_trans (Nat.mul_le_mul_right _ d) o
 have l:∀j,j<b.length->(w.cell? ⟨g,0+n*i.size+j,none⟩).isSome=true:=by
  intro j J
  have:0+n*i.size+j<f.size:=by omega
  simp[World.cell?,A];omega
 have K:=run_append_room_src (P:=P) w t tx ty e i F G g 0 n c x m b r d l (fun j J=>by
  have:=C (0+n*i.size+j) (by omega);obtain⟨Q,R⟩:=u
  simpa [World.frozen?,A]using this)
 have p:w.heap[g]? =some (.cells f.toList.toArray e u):=by simpa using A
 have q:f.toList.length=f.size:=Array.length_toList;obtain⟨L,M⟩:=Ic b w f.toList (0+n*i.size) p (by omega);refine⟨_,K,⟨by rw[length_append,h.1,r.newsLen,Nat.add_mul],.inr ⟨g,_,u,rfl,y,L,?_,d,B,?_,?_⟩⟩,M⟩
 ·rw[size_toArray,CS _ _ _ (by omega),q];exact C
 ·rw[size_toArray,CS _ _ _ (by omega),q];exact o
 ·rw[Nat.zero_add,List.toList_toArray]at*
  have N:=VH b (n*i.size) f.toList (by omega);rw[Nat.add_mul,<- r.newsLen,N,k]
theorem Own.VK{dT ty:TypeId}{z:Value}{N c':Nat}(h:Own w 0 e sz a n c xs)(I:P.underlying dT=some (.slice e))(O:zeroOf P e=some z)(t:z.cells.size=sz)(i:∀u∈z.cells.toList,u.oneCell'=true)(Q:n+N<=c):
  ∃w1,Clr P #[dT] ty w (.slice (slA a c n sz) N c') w1/\Own w1 0 e sz a n c xs/\Chg (blks a) w w1:=by
 have x:(zeroValue e).run P w=.ok z w:=GK O w;by_cases y:N=0
 ·subst y
  refine⟨w,?_,h,Chg.refl _ _⟩;simp only[Clr,Builtin.clear_];cases l:slA a c n sz<;>simp[Ac I]
 ·rcases h.2 with⟨rfl,Z,rfl⟩|⟨g,d,s,rfl,R,J,K,A,B,C,S⟩
  ·omega
  have D:¬c=n:=by omega
  have l:slA (some ⟨g,0,none⟩) c n sz=some ⟨g,n*sz,none⟩:=by
   unfold slA;rw[if_neg D,Option.map_some,add_lit,Nat.zero_add]
  have m:d.toList.length=d.size:=Array.length_toList
  have U:(Builtin.zeroCells z.cells N).toList.length=N*sz:=by rw[Array.length_toList,size_zeroCells,t]
  have L:n*sz+N*sz<=c*sz:=by rw[<- Nat.add_mul];exact Nat.mul_le_mul_right _ Q
  have o:w.heap[g]? =some (.cells d.toList.toArray e s):=by simpa using J
  have p:=Bl (P:=P) (b:=g) (T:=e) (fz:=s) (Builtin.zeroCells z.cells N).toList w d.toList ⟨g,n*sz,none⟩ (n*sz) 0 rfl (fun j=>by simp[add_lit]) o (by omega) (fun X h1 h2=>K X (by omega)) (fun u M=>by
   have E:∃q∈z.cells.toList,u=q:=by
    simp only[Builtin.zeroCells,Array.toList_map,mem_map]at M;obtain⟨k,F,rfl⟩:=M;have F:=List.mem_range.1 (by simpa using F);refine⟨_,?_,rfl⟩
    have G:0<z.cells.size:=by
     rcases Nat.eq_zero_or_pos z.cells.size with H|H
     ·rw[H,Nat.mul_zero]at F;omega
     ·exact H
    have r:=Nat.mod_lt k G;rw[getElem!_pos z.cells _ r];exact Array.getElem_mem_toList r
   obtain⟨q,Y,rfl⟩:=E
   exact i _ Y)
  obtain⟨w1,f⟩:∃w1,(storeCells ⟨g,n*sz,none⟩ (Builtin.zeroCells z.cells N).toList).run P w=.ok () w1/\(w1=w\/w1=setB w g (.cells (over (Builtin.zeroCells z.cells N).toList (n*sz) d.toList).toArray e s)):=by
   refine⟨_,p,?_⟩;split
   ·exact .inl rfl
   ·exact .inr rfl
  refine⟨w1,?_,?_,?_⟩
  ·simp only[Clr,Builtin.clear_,l]
   have:N=(N-1)+1:=by omega
   rw[this]at f⊢;simp[Ac I,x,f.1]
  ·rcases f.2 with rfl|rfl
   ·exact h
   ·refine⟨h.1,.inr ⟨g,_,s,rfl,R,DC (Array.getElem?_eq_some_iff.1 J).1,?_,A,B,?_,?_⟩⟩
    ·rw[size_toArray,CS _ _ _ (by omega),m];exact K
    ·rw[size_toArray,CS _ _ _ (by omega),m];exact C
    ·rw[<- S]
     apply List.ext_getElem?;intro k;rw[List.getElem?_take,List.getElem?_take];split
     ·rw[List.toList_toArray,He _ _ _ (by omega),if_neg (by omega)]
     ·rfl
  ·rcases f.2 with rfl|rfl
   ·exact Chg.refl _ _
   ·exact Ci _ _ _
theorem Own.appZ{t tn ty:TypeId}{d m:Nat}{kn kq:IntKind}{z:Value}(T:Elt P t e sz d)(s:0<sz)(h:Own w 0 e sz a n c xs)(u:P.underlying tn=some (.int kn))(A:zeroOf P e=some z)(D:0<m)(B:c<n+m)(f:n+m<=maxLen)(x:(n+m)*d<=140737488355328):
  ∃a' c' ys w1,App P #[t,tn] ty w (.slice a n c) (.int kq (m:Int)) (.slice a' (n+m) c') w1/\ys.length=m*sz/\Own w1 0 e sz a' (n+m) c' (xs++ys)/\Chg [] w w1/\∀k∈blks a',w.heap.size<=k:=by
 obtain⟨E,i,q,C,l,rfl,rfl,o⟩:=T
 have y:q=z:=by simp only[zeroOf,C,l,Option.some.injEq]at A;exact A
 subst y
 have p:(Builtin.firstCells i.size n (.slice a n c)).run P w.drew=.ok xs.toArray w.drew:=by
  cases a with
  |none=>
   rcases h.2 with⟨_,rfl,rfl⟩|⟨g,_,_,F,_⟩
   ·have:xs=[]:=eq_nil_of_length_eq_zero (by simpa using h.1)
    subst this;exact run_firstCells_none _ _ _ _ _
   ·cases F
  |some G=>
   refine run_firstCells_some w.drew i.size n G n c xs h.1 fun j v H=>?_;obtain⟨I,J,K⟩:=h.cells j v H;cases J;exact K
 have L:=Go.Lib.run_append_grow_zeros (P:=P) w t tn ty e i q kq kn E u C l a n c xs p m D s B (by simp only[maxLen]at f;omega) (by
  have:m*i.bytes<=(n+m)*i.bytes:=Nat.mul_le_mul_right _ (by omega)
  omega) (growslice_fits B x)
 have b:(Builtin.zeroCells q.cells m).toList.length=m*i.size:=by rw[Array.length_toList,size_zeroCells,o]
 refine⟨_,_,(Builtin.zeroCells q.cells m).toList,_,L,b,⟨by rw[length_append,h.1,b,Nat.add_mul],.inr ⟨w.heap.size,_,_,rfl,Nat.zero_le _,Ez w.drew _,Thaw.zero _,grownCap_ge _ _ _ _,grownCap_le_maxLen _ _ _ _ f,?_,?_⟩⟩,⟨rfl,rfl,rfl,by simp,fun k r _=>alloc_old w.drew _ k r⟩,fun k r=>by simp[blks]at r;subst r;exact Nat.le_refl _⟩
 ·have M:=grownCap_ge w (n+m) c e
  simp only[Array.size_append,size_toArray,size_zeroCells,o,h.1,<- Nat.add_mul];refine Nat.mul_le_mul_right _ ?_;omega
 ·rw[Array.toList_append,Array.toList_append,List.toList_toArray]
  exact List.take_left' (by rw[length_append,h.1,b,Nat.add_mul])
end
theorem Cells.slAz{w:World}{a:Option Addr}{xs:List Value}(h:Cells w a xs){c i d n:Nat}(hn:xs.length=n*d)(hc:n<=c):Cells w (Go.Vc.slA a c i d) (xs.drop (i*d)):=by
 intro j v f;rw[List.getElem?_drop]at f;obtain⟨k,rfl,b⟩:=h _ v f;have g:=(List.getElem?_eq_some_iff.1 f).1;unfold Go.Vc.slA;by_cases e:c=i
 ·subst e
  have:n*d<=c*d:=Nat.mul_le_mul_right _ hc;omega
 ·rw[if_neg e]
  exact⟨_,rfl,by rw[add_add];exact b⟩
theorem VO(A D V ys:List Value)(h:ys.length=V.length+D.length):over D (A.length+V.length) (over V A.length (A++ys))=A++(V++D):=by
 have a:ys=ys.take V.length++ys.drop V.length:=(take_append_drop _ _).symm
 have b:over V A.length (A++ys)=A++(V++ys.drop V.length):=by
  rw[a];have:=FT V A (ys.take V.length) (ys.drop V.length) (by rw[length_take];omega);rw[this,take_append_drop]
 rw[b];have:=FT D (A++V) (ys.drop V.length) [] (by rw[length_drop];omega);rw[append_nil,append_nil,length_append,append_assoc,append_assoc]at this;exact this
theorem Uy(A D V ys:List Value)(h:V.length<=ys.length):(over V A.length (over D (A.length+V.length) ((A++D)++ys))).take (A.length+V.length+D.length)=A++(V++D):=by
 obtain⟨b,c,a,f,d,g⟩:∃b c a:List Value,D++ys=b++(c++a)/\b.length=V.length/\c.length=D.length:=by
  refine⟨(D++ys).take V.length,((D++ys).drop V.length).take D.length,((D++ys).drop V.length).drop D.length,by rw[take_append_drop,take_append_drop],?_,?_⟩
  ·rw[length_take,length_append];omega
  ·rw[length_take,length_drop,length_append];omega
 rw[append_assoc,f];have e:=FT D (A++b) c a g.symm;rw[length_append,d,append_assoc]at e;rw[e,append_assoc];have i:=FT V A b (D++a) d.symm;rw[i]
 have j:A++(V++(D++a))=(A++(V++D))++a:=by simp
 rw[j];exact List.take_left' (by simp;omega)
theorem Hp.PT{w w':World}{B:List Nat}{e:TypeId}{d n c:Nat}{a:Option Addr}{xs:List Value}(h:Own w' 0 e d a n c xs)(hc:Chg B w w')(f:∀k∈blks a,k∈B\/w.heap.size<=k):Hp B w w' [.own e d a n c xs]:=
 ⟨hc,fun q b=>by rw[mem_singleton]at b;subst b;exact h,fun q b k g=>by rw[mem_singleton]at b;subst b;exact f k g,by simp⟩
end Go.Vc
namespace Go.Proofs.YtljenkbpnioipaaGreat
open Go Go.Vc Go.Nod
theorem Fz(a:Option Addr)(n c:Nat)(xs:List Value)(w:World)(h:Cells w a xs)(m:xs.length=n*2)(h1:∀u∈xs,u.oneCell'=true)(i:a=none->n=0)(hn:n*32<=140737488355328):
  Calls Tryz.prog 70 #[.slice a n c] w fun e w'=>∃a' c',e=.returned (.slice a' n c')/\Hp [] w w' [.own 142 2 a' n c' xs]:=by
 apply lCloneAt.ok;unfold lCloneAt.vc
 have d:Tryz.prog.underlying 69=some (.slice 142):=by kernel_rfl
 have f:Elt Tryz.prog 69 142 2 32:=CQ (by kernel_rfl);refine⟨_,Ro d,JH (fun j=>?_) (fun j=>?_)⟩
 ·have o:a=none:=by cases a with
   |none=>rfl
   |some _=>cases j
  have:=i o;subst this;have:xs=[]:=eq_nil_of_length_eq_zero (by omega);subst this;exact⟨none,0,rfl,(Hp.start w).nilS 142 2⟩
 ·intro b l g
  have H:=(Hp.start w).nw g;have p:Hp [] w l [.own 142 2 (some ⟨b,0,none⟩) 0 0 []]:=H.set (Chg.refl _ _) ⟨rfl,.inr ⟨b,#[],(0,0),rfl,Nat.zero_le _,H.blk (.head _),Thaw.zero _,Nat.le_refl _,Nat.zero_le _,by simp,rfl⟩⟩ (fun k q=>.inl q);have r:Cells l a xs:=h.chg H.chg (by simp);refine Hp.app f (by omega) p ⟨rfl,rfl,rfl,rfl⟩ (Cells.src d r m h1 i) (by simp only[maxLen];omega) (by omega) ?_;intro a' c' s H;rw[Nat.zero_add]at H⊢;exact⟨a',c',rfl,H⟩
theorem lCloneI_spec(a:Option Addr)(n c:Nat)(xs:List Value)(w:World)(h:Cells w a xs)(m:xs.length=n*1)(h1:∀u∈xs,u.oneCell'=true)(i:a=none->n=0)(hn:n*8<=140737488355328):
  Calls Tryz.prog 87 #[.slice a n c] w fun e w'=>∃a' c',e=.returned (.slice a' n c')/\Hp [] w w' [.own 3 1 a' n c' xs]:=by
 apply lCloneI.ok;unfold lCloneI.vc
 have d:Tryz.prog.underlying 59=some (.slice 3):=by kernel_rfl
 have f:Elt Tryz.prog 59 3 1 8:=CQ (by kernel_rfl);refine⟨_,Ro d,JH (fun j=>?_) (fun j=>?_)⟩
 ·have o:a=none:=by cases a with
   |none=>rfl
   |some _=>cases j
  have:=i o;subst this;have:xs=[]:=eq_nil_of_length_eq_zero (by omega);subst this;exact⟨none,0,rfl,(Hp.start w).nilS 3 1⟩
 ·intro b l g
  have H:=(Hp.start w).nw g;have p:Hp [] w l [.own 3 1 (some ⟨b,0,none⟩) 0 0 []]:=H.set (Chg.refl _ _) ⟨rfl,.inr ⟨b,#[],(0,0),rfl,Nat.zero_le _,H.blk (.head _),Thaw.zero _,Nat.le_refl _,Nat.zero_le _,by simp,rfl⟩⟩ (fun k q=>.inl q);have r:Cells l a xs:=h.chg H.chg (by simp);refine Hp.app f (by omega) p ⟨rfl,rfl,rfl,rfl⟩ (Cells.src d r m h1 i) (by simp only[maxLen];omega) (by omega) ?_;intro a' c' s H;rw[Nat.zero_add]at H⊢;exact⟨a',c',rfl,H⟩
theorem lCloneW_spec(a:Option Addr)(n c:Nat)(xs:List Value)(w:World)(h:Cells w a xs)(m:xs.length=n*2)(h1:∀u∈xs,u.oneCell'=true)(i:a=none->n=0)(hn:n*24<=140737488355328):
  Calls Tryz.prog 89 #[.slice a n c] w fun e w'=>∃a' c',e=.returned (.slice a' n c')/\Hp [] w w' [.own 167 2 a' n c' xs]:=by
 apply lCloneW.ok;unfold lCloneW.vc
 have d:Tryz.prog.underlying 148=some (.slice 167):=by kernel_rfl
 have f:Elt Tryz.prog 148 167 2 24:=CQ (by kernel_rfl);refine⟨_,Ro d,JH (fun j=>?_) (fun j=>?_)⟩
 ·have o:a=none:=by cases a with
   |none=>rfl
   |some _=>cases j
  have:=i o;subst this;have:xs=[]:=eq_nil_of_length_eq_zero (by omega);subst this;exact⟨none,0,rfl,(Hp.start w).nilS 167 2⟩
 ·intro b l g
  have H:=(Hp.start w).nw g;have p:Hp [] w l [.own 167 2 (some ⟨b,0,none⟩) 0 0 []]:=H.set (Chg.refl _ _) ⟨rfl,.inr ⟨b,#[],(0,0),rfl,Nat.zero_le _,H.blk (.head _),Thaw.zero _,Nat.le_refl _,Nat.zero_le _,by simp,rfl⟩⟩ (fun k q=>.inl q);have r:Cells l a xs:=h.chg H.chg (by simp);refine Hp.app f (by omega) p ⟨rfl,rfl,rfl,rfl⟩ (Cells.src d r m h1 i) (by simp only[maxLen];omega) (by omega) ?_;intro a' c' s H;rw[Nat.zero_add]at H⊢;exact⟨a',c',rfl,H⟩
theorem SQ(a:Option Addr)(n c i b:Nat)(xs vs:List Value)(T:TypeId)(w:World)(h:Own w 0 3 1 a n c xs)(h1:∀u∈xs,u.oneCell'=true)(hi:i<=n)(K:Blk w b vs T)(q:vs.length=1)(L:∀u∈vs,u.oneCell'=true)(hb:b∉blks a)(hn:(n+1)*8<=140737488355328):
  Calls Tryz.prog 122 #[.slice a n c,.int .i64 (i:Int),.slice (some ⟨b,0,none⟩) 1 1] w fun e w'=>∃a' c',e=.returned (.slice a' (n+1) c')/\Hp (blks a) w w' [.own 3 1 a' (n+1) c' (xs.take (i*1)++(vs++xs.drop (i*1)))]:=by
 apply lInsI.ok;unfold lInsI.vc
 have d:Tryz.prog.underlying 59=some (.slice 3):=by kernel_rfl
 have l:Dc Tryz.prog 3=some 1:=by kernel_rfl
 have y:Elt Tryz.prog 59 3 1 8:=CQ (by kernel_rfl);have M:=h.1;have O:=h.le
 have Q:n+1<=maxLen:=by simp only[maxLen];omega
 have R:(xs.take (i*1)).length=i*1:=by rw[length_take];omega
 have r:(xs.drop (i*1)).length=(n-i)*1:=by rw[length_drop,Nat.sub_mul];omega
 have z:∀w',w'.heap[b]? =w.heap[b]? ->Frm Tryz.prog 1 (.slice (some ⟨b,0,none⟩) 1 1) 1 1 vs w':=fun w' hw=>Frm.of (Blk.cells (T:=T) (hw.trans K)) (by omega) L;have S:∀u∈xs.drop (i*1),u.oneCell'=true:=fun u hu=>h1 u (mem_of_mem_drop hu);refine⟨⟨by omega,by omega⟩,AB (fun e=>by omega) (fun _=>AB (fun e=>?_) (fun e=>⟨iR,AB (fun Z=>?_) (fun Z=>?_)⟩))⟩
 ·have aa:i=n:=by omega
  subst aa;obtain⟨a',c',o,r1,r2,r3,U⟩:=WM (P:=Tryz.prog) (ty:=59) y (by omega) h (Cells.src (n:=1) (c:=1) d K.cells (by omega) L (fun e=>by cases e)) Q (by omega) (Nat.zero_le _);refine⟨a',_,c',o,r1,a',c',rfl,?_⟩;rw[take_of_length_le (by omega),List.drop_eq_nil_of_le (by omega),append_nil];exact Hp.PT r2 r3 U
 ·have hK:=h.keep (F:=i) (by omega)
  have hz:zeroOf Tryz.prog 3=some (.int .i64 0):=by kernel_rfl
  have em:((n:Int)+((1:Nat):Int)-(i:Int))=((n+1-i:Nat):Int):=by omega
  obtain⟨a',c',J,o,r1,r2,r3,U,r5⟩:=Own.appZ (P:=Tryz.prog) (t:=59) (tn:=3) (ty:=59) (kn:=.i64) (kq:=.i64) (m:=n+1-i) y (by omega) hK (by kernel_rfl) hz (by omega) (by omega) (by simp only[maxLen];omega) (by omega)
  have en:i+(n+1-i)=n+1:=by omega
  rw[en]at r1 r3;refine⟨⟨by omega,by omega⟩,iR,iR,a',n+1,c',o,?_,⟨by omega,by omega⟩,?_⟩
  ·rw[em,Int.toNat_natCast];exact r1
  have ei:Int.toNat (i:Int)=i:=Int.toNat_natCast i
  have s:Int.toNat ((i:Int)+((1:Nat):Int))=i+1:=by omega
  rw[ei,s];have ab:=K.lt;obtain⟨A,q1,q2,X⟩:=Own.cpy (tx:=59) (ty:=3) (N:=n+1-i) (c':=c'-i) (i:=i) r3 d l (z o (U.2.2.2.2 b ab (by simp))) (by omega) (by omega);refine⟨_,A,q1,iR,⟨by omega,by omega⟩,⟨by omega,by omega⟩,?_⟩
  have ac:∀k,k<w.heap.size->k∉blks a':=fun k j hm=>by have:=r5 k hm;omega
  have ae:Cells A.drew (slA a c i 1) (xs.drop (i*1)):=by
   have h9:Cells o a xs:=h.cells.chg U (by simp);have af:Cells A a xs:=h9.chg X (fun k j hm=>ac k (h.mem k j).2 hm);have D:Cells A.drew a xs:=af;exact D.slAz M O.1
  obtain⟨w3,p1,p2,p3⟩:=Own.cpy (w:=A.drew) (tx:=59) (ty:=3) (N:=n+1-(i+1)) (c':=c'-(i+1)) (i:=i+1) (x:=.slice (slA a c i 1) (n-i) (c-i)) q2 d l (Frm.of (k:=n-i) ae r S) (by omega) (by omega);refine⟨_,w3,p1,a',c',rfl,?_⟩
  have E:Chg (blks a) w w3:=by
   have ag:Chg (blks a) w o:=U.more (by simp);have ah:=ag.trans X (fun k j=>j) (fun k j=>.inr (r5 k j));have ak:Chg (blks a) w A.drew:=ah;exact ak.trans p3 (fun k j=>j) (fun k j=>.inr (r5 k j))
  have f:over (xs.drop (i*1)) ((i+1)*1) (over vs (i*1) (xs.take (i*1)++J))=xs.take (i*1)++(vs++xs.drop (i*1)):=by
   have:=VO (xs.take (i*1)) (xs.drop (i*1)) vs J (by rw[r2,r,q];omega);rw[R,q,show i*1+1=(i+1)*1 by omega]at this;exact this
  rw[f]at p2;exact Hp.PT p2 E (fun k j=>.inr (r5 k j))
 ·have al:n+1<=c:=by omega
  have ha:a≠none:=fun e=>by
   obtain⟨g,Z⟩:=h.CE (by omega);rw[e]at Z;cases Z
  obtain⟨J,am,hF⟩:=h.full ha;have ei:Int.toNat (i:Int)=i:=Int.toNat_natCast i
  have s:Int.toNat ((i:Int)+((1:Nat):Int))=i+1:=by omega
  have Y:Int.toNat ((n:Int)+((1:Nat):Int))=n+1:=by omega
  refine⟨iR,⟨by omega,by omega⟩,iR,⟨by omega,by omega⟩,⟨.bool false,w,?_,?_⟩⟩
  ·rw[run_callFunc_extern Tryz.func181 (by kernel_rfl) (by kernel_rfl) (by kernel_rfl) (e:=Extern.SlicesOverlaps.overlaps #[59,59] #[4]) (by kernel_rfl)]
   have an:∀(B:Addr) lb cb,slA a c (i+1) 1=some B->(Extern.SlicesOverlaps.overlaps #[59,59] #[4] #[.slice (some ⟨b,0,none⟩) 1 1,.slice (some B) lb cb]).run Tryz.prog w=.ok (.bool false) w:=by
    intro B lb cb p
    rcases h.2 with⟨rfl,_⟩|⟨g,G,fz,rfl,a1,H,hf,a2,a3,a4,ht⟩
    ·exact(ha rfl).elim
    have C:B.block=g:=by
     unfold Vc.slA at p;split at p
     ·cases p;rfl
     ·rw[Option.map_some,add_lit]at p;cases p;rfl
    have I:w.heap[b]? =some (.cells vs.toArray T (0,0)):=K
    have ao:0<G.size:=by
     have:0<c*1:=by omega
     omega
    have ap:b≠g:=fun e=>hb (by simp[blks,e])
    have aq:w.shape? B.block=some (3,G.size):=by rw[C];simp[World.shape?,H]
    have ar:w.shape? b=some (T,vs.length):=by simp[World.shape?,I]
    refine Go.Lib.run_overlaps_apart (P:=Tryz.prog) w 59 4 3 d 1 (fun w=>Bh l w) ⟨b,0,none⟩ B 1 1 lb cb (by rw[C];exact ap) T 3 vs.length G.size ar aq (by omega) ?_ ?_
    ·simp[World.frozen?,I]
    ·simp[World.frozen?,I]
   rw[s,Y]
   cases hs:slA a c (i+1) 1 with
   |none=>
    exfalso;obtain⟨g,H⟩:=h.CE (by omega);rw[H]at hs;unfold Vc.slA at hs;split at hs<;>cases hs
   |some B=>
    have:=an B (n+1-(i+1)) (c-(i+1)) hs;rw[this];rfl
  refine⟨false,rfl,DR ⟨iR,⟨by omega,by omega⟩,⟨by omega,by omega⟩,?_⟩⟩;rw[ei,s,Y]
  have av:Cells w.drew (slA a c i 1) (xs.drop (i*1)):=by
   have D:Cells w.drew a xs:=h.cells;exact D.slAz M O.1
  have aw:Own w.drew 0 3 1 a c c (xs++J):=hF;obtain⟨o,q1,q2,X⟩:=Own.cpy (w:=w.drew) (tx:=59) (ty:=3) (N:=n+1-(i+1)) (c':=c-(i+1)) (i:=i+1) (x:=.slice (slA a c i 1) (n+1-i) (c-i)) aw d l (Frm.of (k:=n-i) av r S) (by omega) (by omega);refine⟨_,o,q1,⟨by omega,by omega⟩,?_⟩;have a0:o.heap[b]? =w.heap[b]? :=X.2.2.2.2 b K.lt hb;obtain⟨A,p1,p2,p3⟩:=Own.cpy (tx:=59) (ty:=3) (N:=n+1-i) (c':=c-i) (i:=i) q2 d l (z o a0) (by omega) (by omega);refine⟨_,A,p1,a,c,rfl,?_⟩;have p4:=p2.keep (F:=n+1) (by omega)
  have f:(over vs (i*1) (over (xs.drop (i*1)) ((i+1)*1) (xs++J))).take ((n+1)*1)=xs.take (i*1)++(vs++xs.drop (i*1)):=by
   have:=Uy (xs.take (i*1)) (xs.drop (i*1)) vs J (by rw[am,q];omega);rw[R,q,r,take_append_drop,show i*1+1=(i+1)*1 by omega,show(i+1)*1+(n-i)*1=(n+1)*1 by omega]at this;exact this
  rw[f]at p4;have E:Chg (blks a) w o:=X;exact Hp.PT p4 (E.trans p3 (fun k j=>j) (fun k j=>.inl j)) (fun k j=>.inl j)
theorem lInsAt_spec(a:Option Addr)(n c i b:Nat)(xs vs:List Value)(T:TypeId)(w:World)(h:Own w 0 142 2 a n c xs)(h1:∀u∈xs,u.oneCell'=true)(hi:i<=n)(K:Blk w b vs T)(q:vs.length=2)(L:∀u∈vs,u.oneCell'=true)(hb:b∉blks a)(hn:(n+1)*32<=140737488355328):
  Calls Tryz.prog 153 #[.slice a n c,.int .i64 (i:Int),.slice (some ⟨b,0,none⟩) 1 1] w fun e w'=>∃a' c',e=.returned (.slice a' (n+1) c')/\Hp (blks a) w w' [.own 142 2 a' (n+1) c' (xs.take (i*2)++(vs++xs.drop (i*2)))]:=by
 apply lInsAt.ok;unfold lInsAt.vc
 have d:Tryz.prog.underlying 69=some (.slice 142):=by kernel_rfl
 have l:Dc Tryz.prog 142=some 2:=by kernel_rfl
 have y:Elt Tryz.prog 69 142 2 32:=CQ (by kernel_rfl);have M:=h.1;have O:=h.le
 have Q:n+1<=maxLen:=by simp only[maxLen];omega
 have R:(xs.take (i*2)).length=i*2:=by rw[length_take];omega
 have r:(xs.drop (i*2)).length=(n-i)*2:=by rw[length_drop,Nat.sub_mul];omega
 have z:∀w',w'.heap[b]? =w.heap[b]? ->Frm Tryz.prog 2 (.slice (some ⟨b,0,none⟩) 1 1) 1 1 vs w':=fun w' hw=>Frm.of (Blk.cells (T:=T) (hw.trans K)) (by omega) L;have S:∀u∈xs.drop (i*2),u.oneCell'=true:=fun u hu=>h1 u (mem_of_mem_drop hu);refine⟨⟨by omega,by omega⟩,AB (fun e=>by omega) (fun _=>AB (fun e=>?_) (fun e=>⟨iR,AB (fun Z=>?_) (fun Z=>?_)⟩))⟩
 ·have aa:i=n:=by omega
  subst aa;obtain⟨a',c',o,r1,r2,r3,U⟩:=WM (P:=Tryz.prog) (ty:=69) y (by omega) h (Cells.src (n:=1) (c:=1) d K.cells (by omega) L (fun e=>by cases e)) Q (by omega) (Nat.zero_le _);refine⟨a',_,c',o,r1,a',c',rfl,?_⟩;rw[take_of_length_le (by omega),List.drop_eq_nil_of_le (by omega),append_nil];exact Hp.PT r2 r3 U
 ·have hK:=h.keep (F:=i) (by omega)
  have hz:zeroOf Tryz.prog 142=some (.agg #[.string ⟨#[]⟩,.string ⟨#[]⟩]):=by kernel_rfl
  have em:((n:Int)+((1:Nat):Int)-(i:Int))=((n+1-i:Nat):Int):=by omega
  obtain⟨a',c',J,o,r1,r2,r3,U,r5⟩:=Own.appZ (P:=Tryz.prog) (t:=69) (tn:=3) (ty:=69) (kn:=.i64) (kq:=.i64) (m:=n+1-i) y (by omega) hK (by kernel_rfl) hz (by omega) (by omega) (by simp only[maxLen];omega) (by omega)
  have en:i+(n+1-i)=n+1:=by omega
  rw[en]at r1 r3;refine⟨⟨by omega,by omega⟩,iR,iR,a',n+1,c',o,?_,⟨by omega,by omega⟩,?_⟩
  ·rw[em,Int.toNat_natCast];exact r1
  have ei:Int.toNat (i:Int)=i:=Int.toNat_natCast i
  have s:Int.toNat ((i:Int)+((1:Nat):Int))=i+1:=by omega
  rw[ei,s];have ab:=K.lt;obtain⟨A,q1,q2,X⟩:=Own.cpy (tx:=69) (ty:=3) (N:=n+1-i) (c':=c'-i) (i:=i) r3 d l (z o (U.2.2.2.2 b ab (by simp))) (by omega) (by omega);refine⟨_,A,q1,iR,⟨by omega,by omega⟩,⟨by omega,by omega⟩,?_⟩
  have ac:∀k,k<w.heap.size->k∉blks a':=fun k j hm=>by have:=r5 k hm;omega
  have ae:Cells A.drew (slA a c i 2) (xs.drop (i*2)):=by
   have h9:Cells o a xs:=h.cells.chg U (by simp);have af:Cells A a xs:=h9.chg X (fun k j hm=>ac k (h.mem k j).2 hm);have D:Cells A.drew a xs:=af;exact D.slAz M O.1
  obtain⟨w3,p1,p2,p3⟩:=Own.cpy (w:=A.drew) (tx:=69) (ty:=3) (N:=n+1-(i+1)) (c':=c'-(i+1)) (i:=i+1) (x:=.slice (slA a c i 2) (n-i) (c-i)) q2 d l (Frm.of (k:=n-i) ae r S) (by omega) (by omega);refine⟨_,w3,p1,a',c',rfl,?_⟩
  have E:Chg (blks a) w w3:=by
   have ag:Chg (blks a) w o:=U.more (by simp);have ah:=ag.trans X (fun k j=>j) (fun k j=>.inr (r5 k j));have ak:Chg (blks a) w A.drew:=ah;exact ak.trans p3 (fun k j=>j) (fun k j=>.inr (r5 k j))
  have f:over (xs.drop (i*2)) ((i+1)*2) (over vs (i*2) (xs.take (i*2)++J))=xs.take (i*2)++(vs++xs.drop (i*2)):=by
   have:=VO (xs.take (i*2)) (xs.drop (i*2)) vs J (by rw[r2,r,q];omega);rw[R,q,show i*2+2=(i+1)*2 by omega]at this;exact this
  rw[f]at p2;exact Hp.PT p2 E (fun k j=>.inr (r5 k j))
 ·have al:n+1<=c:=by omega
  have ha:a≠none:=fun e=>by
   obtain⟨g,Z⟩:=h.CE (by omega);rw[e]at Z;cases Z
  obtain⟨J,am,hF⟩:=h.full ha;have ei:Int.toNat (i:Int)=i:=Int.toNat_natCast i
  have s:Int.toNat ((i:Int)+((1:Nat):Int))=i+1:=by omega
  have Y:Int.toNat ((n:Int)+((1:Nat):Int))=n+1:=by omega
  refine⟨iR,⟨by omega,by omega⟩,iR,⟨by omega,by omega⟩,⟨.bool false,w,?_,?_⟩⟩
  ·rw[run_callFunc_extern Tryz.func220 (by kernel_rfl) (by kernel_rfl) (by kernel_rfl) (e:=Extern.SlicesOverlaps.overlaps #[69,69] #[4]) (by kernel_rfl)]
   have an:∀(B:Addr) lb cb,slA a c (i+1) 2=some B->(Extern.SlicesOverlaps.overlaps #[69,69] #[4] #[.slice (some ⟨b,0,none⟩) 1 1,.slice (some B) lb cb]).run Tryz.prog w=.ok (.bool false) w:=by
    intro B lb cb p
    rcases h.2 with⟨rfl,_⟩|⟨g,G,fz,rfl,a1,H,hf,a2,a3,a4,ht⟩
    ·exact(ha rfl).elim
    have C:B.block=g:=by
     unfold Vc.slA at p;split at p
     ·cases p;rfl
     ·rw[Option.map_some,add_lit]at p;cases p;rfl
    have I:w.heap[b]? =some (.cells vs.toArray T (0,0)):=K
    have ao:0<G.size:=by
     have:0<c*2:=by omega
     omega
    have ap:b≠g:=fun e=>hb (by simp[blks,e])
    have aq:w.shape? B.block=some (142,G.size):=by rw[C];simp[World.shape?,H]
    have ar:w.shape? b=some (T,vs.length):=by simp[World.shape?,I]
    refine Go.Lib.run_overlaps_apart (P:=Tryz.prog) w 69 4 142 d 2 (fun w=>Bh l w) ⟨b,0,none⟩ B 1 1 lb cb (by rw[C];exact ap) T 142 vs.length G.size ar aq (by omega) ?_ ?_
    ·simp[World.frozen?,I]
    ·simp[World.frozen?,I]
   rw[s,Y]
   cases hs:slA a c (i+1) 2 with
   |none=>
    exfalso;obtain⟨g,H⟩:=h.CE (by omega);rw[H]at hs;unfold Vc.slA at hs;split at hs<;>cases hs
   |some B=>
    have:=an B (n+1-(i+1)) (c-(i+1)) hs;rw[this];rfl
  refine⟨false,rfl,DR ⟨iR,⟨by omega,by omega⟩,⟨by omega,by omega⟩,?_⟩⟩;rw[ei,s,Y]
  have av:Cells w.drew (slA a c i 2) (xs.drop (i*2)):=by
   have D:Cells w.drew a xs:=h.cells;exact D.slAz M O.1
  have aw:Own w.drew 0 142 2 a c c (xs++J):=hF;obtain⟨o,q1,q2,X⟩:=Own.cpy (w:=w.drew) (tx:=69) (ty:=3) (N:=n+1-(i+1)) (c':=c-(i+1)) (i:=i+1) (x:=.slice (slA a c i 2) (n+1-i) (c-i)) aw d l (Frm.of (k:=n-i) av r S) (by omega) (by omega);refine⟨_,o,q1,⟨by omega,by omega⟩,?_⟩;have a0:o.heap[b]? =w.heap[b]? :=X.2.2.2.2 b K.lt hb;obtain⟨A,p1,p2,p3⟩:=Own.cpy (tx:=69) (ty:=3) (N:=n+1-i) (c':=c-i) (i:=i) q2 d l (z o a0) (by omega) (by omega);refine⟨_,A,p1,a,c,rfl,?_⟩;have p4:=p2.keep (F:=n+1) (by omega)
  have f:(over vs (i*2) (over (xs.drop (i*2)) ((i+1)*2) (xs++J))).take ((n+1)*2)=xs.take (i*2)++(vs++xs.drop (i*2)):=by
   have:=Uy (xs.take (i*2)) (xs.drop (i*2)) vs J (by rw[am,q];omega);rw[R,q,r,take_append_drop,show i*2+2=(i+1)*2 by omega,show(i+1)*2+(n-i)*2=(n+1)*2 by omega]at this;exact this
  rw[f]at p4;have E:Chg (blks a) w o:=X;exact Hp.PT p4 (E.trans p3 (fun k j=>j) (fun k j=>.inl j)) (fun k j=>.inl j)
theorem lDelI_spec(a:Option Addr)(n c i:Nat)(xs:List Value)(w:World)(h:Own w 0 3 1 a n c xs)(h1:∀u∈xs,u.oneCell'=true)(K:i<n):
  Calls Tryz.prog 216 #[.slice a n c,.int .i64 (i:Int),.int .i64 ((i:Int)+1)] w fun e w'=>e=.returned (.slice a (n-1) c)/\Hp (blks a) w w' [.own 3 1 a (n-1) c (xs.take (i*1)++xs.drop ((i+1)*1))]:=by
 apply lDelI.ok;unfold lDelI.vc
 have b:Tryz.prog.underlying 59=some (.slice 3):=by kernel_rfl
 have d:Elt Tryz.prog 59 3 1 8:=CQ (by kernel_rfl);have j:=h.1;have l:=h.le;obtain⟨g,r⟩:=h.CE (by omega);refine⟨⟨by omega,by omega,by omega,by omega⟩,AB (fun e=>by omega) (fun _=>⟨⟨by omega,by omega⟩,⟨by omega,by omega⟩,?_⟩)⟩;have y:Int.toNat (i:Int)=i:=Int.toNat_natCast i
 have m:Int.toNat ((i:Int)+1)=i+1:=by omega
 rw[y,m];have A:Own w.drew 0 3 1 a i c (xs.take (i*1)):=h.keep (F:=i) (by omega)
 have B:Cells w.drew (slA a c (i+1) 1) (xs.drop ((i+1)*1)):=by
  have o:Cells w.drew a xs:=h.cells;exact o.slAz j l.1
 have p:(xs.drop ((i+1)*1)).length=(n-(i+1))*1:=by rw[length_drop,Nat.sub_mul];omega
 obtain⟨s,t,x,C⟩:=Own.bF (ty:=59) d A (by rw[r];simp) (Cells.src (P:=Tryz.prog) (c:=c-(i+1)) b B p (fun u D=>h1 u (mem_of_mem_drop D)) (fun e=>by
  rw[r]at e;unfold Vc.slA at e
  split at e<;>cases e)) (by omega)
 have E:i+(n-(i+1))=n-1:=by omega
 rw[E]at t x;refine⟨a,n-1,c,s,t,⟨by omega,by omega,by omega⟩,?_⟩;rw[Int.toNat_natCast,Int.toNat_natCast];obtain⟨G,H,I,J⟩:=Own.VK (P:=Tryz.prog) (dT:=59) (ty:=0) (N:=n-(n-1)) (c':=c-(n-1)) (z:=.int .i64 0) x b (by kernel_rfl) (by rfl) (by decide) (by omega);refine⟨G,H,rfl,?_⟩;have q:Chg (blks a) w s:=C;exact Hp.PT I (q.trans J (fun k f=>f) (fun k f=>.inl f)) (fun k f=>.inl f)
theorem lDelAt_spec(a:Option Addr)(n c i:Nat)(xs:List Value)(w:World)(h:Own w 0 142 2 a n c xs)(h1:∀u∈xs,u.oneCell'=true)(K:i<n):
  Calls Tryz.prog 154 #[.slice a n c,.int .i64 (i:Int),.int .i64 ((i:Int)+1)] w fun e w'=>e=.returned (.slice a (n-1) c)/\Hp (blks a) w w' [.own 142 2 a (n-1) c (xs.take (i*2)++xs.drop ((i+1)*2))]:=by
 apply lDelAt.ok;unfold lDelAt.vc
 have b:Tryz.prog.underlying 69=some (.slice 142):=by kernel_rfl
 have d:Elt Tryz.prog 69 142 2 32:=CQ (by kernel_rfl);have j:=h.1;have l:=h.le;obtain⟨g,r⟩:=h.CE (by omega);refine⟨⟨by omega,by omega,by omega,by omega⟩,AB (fun e=>by omega) (fun _=>⟨⟨by omega,by omega⟩,⟨by omega,by omega⟩,?_⟩)⟩;have y:Int.toNat (i:Int)=i:=Int.toNat_natCast i
 have m:Int.toNat ((i:Int)+1)=i+1:=by omega
 rw[y,m];have A:Own w.drew 0 142 2 a i c (xs.take (i*2)):=h.keep (F:=i) (by omega)
 have B:Cells w.drew (slA a c (i+1) 2) (xs.drop ((i+1)*2)):=by
  have o:Cells w.drew a xs:=h.cells;exact o.slAz j l.1
 have p:(xs.drop ((i+1)*2)).length=(n-(i+1))*2:=by rw[length_drop,Nat.sub_mul];omega
 obtain⟨s,t,x,C⟩:=Own.bF (ty:=69) d A (by rw[r];simp) (Cells.src (P:=Tryz.prog) (c:=c-(i+1)) b B p (fun u D=>h1 u (mem_of_mem_drop D)) (fun e=>by
  rw[r]at e;unfold Vc.slA at e
  split at e<;>cases e)) (by omega)
 have E:i+(n-(i+1))=n-1:=by omega
 rw[E]at t x;refine⟨a,n-1,c,s,t,⟨by omega,by omega,by omega⟩,?_⟩;rw[Int.toNat_natCast,Int.toNat_natCast];obtain⟨G,H,I,J⟩:=Own.VK (P:=Tryz.prog) (dT:=69) (ty:=0) (N:=n-(n-1)) (c':=c-(n-1)) (z:=.agg #[.string ⟨#[]⟩,.string ⟨#[]⟩]) x b (by kernel_rfl) (by rfl) (by decide) (by omega);refine⟨G,H,rfl,?_⟩;have q:Chg (blks a) w s:=C;exact Hp.PT I (q.trans J (fun k f=>f) (fun k f=>.inl f)) (fun k f=>.inl f)
theorem Po{v:Int}:∀(a:List Int)(k:Nat),a[k]? =some v->(∀j,j<k->a[j]? ≠some v)->a.idxOf v=k
 | [],k,h,_=>by simp at h
 |x::r,0,h,_=>by cases h;exact List.idxOf_cons_self
 |x::r,k+1,h,hno=>by
  have b:x≠v:=fun e=>hno 0 (by omega) (by rw[e];rfl)
  have e:(x==v)=false:=by simpa using b
  rw[List.idxOf_cons,e,cond_false,Po r k (by simpa using h) fun j c=>by simpa using hno (j+1) (by omega)]
theorem lIdxI_spec(a:Option Addr)(n c:Nat)(b:List Int)(v:Int)(w:World)(h:Cells w a (b.map (.int .i64)))(hn:n=b.length)(u:n<=maxLen):
  Calls Tryz.prog 215 #[.slice a n c,.int .i64 v] w fun e w'=>e=.returned (.int .i64 (if v∈b then(b.idxOf v:Int)else-1))/\w'=w:=by
 apply lIdxI.ok;unfold lIdxI.vc;simp only[maxLen]at u;refine AP.mk (fun m s w'=>∃k:Nat,m=n-k/\k<=n/\s=(k:Int)/\w'=w/\∀j,j<k->b[j]? ≠some v) n ⟨0,rfl,by omega,rfl,rfl,by omega⟩ ?_
 rintro m s x next ⟨k,rfl,y,rfl,rfl,f⟩ g
 refine AB (fun r=>?_) (fun r=>⟨?_,rfl⟩)
 ·have d:k<b.length:=by omega
  have i:(b.map (Value.int IntKind.i64))[k]? =some (.int .i64 b[k]):=by simp[d]
  obtain⟨z,t,_⟩:=h k _ i;refine AA t ⟨⟨by omega,r⟩,b[k],?_,AB (fun o=>⟨?_,rfl⟩) (fun o=>⟨iR,g (n-(k+1)) _ _ (by omega) ⟨k+1,rfl,by omega,by simp,rfl,fun j p=>?_⟩⟩)⟩
  ·rw[Int.toNat_natCast,Nat.mul_one];exact h.ld yInt t i
  ·have q:v∈b:=o▸getElem_mem d
   have l:b.idxOf v=k:=Po b k (by rw[List.getElem?_eq_getElem d,<- o]) f;rw[if_pos q,l]
  ·by_cases e:j=k
   ·subst e
    rw[List.getElem?_eq_getElem d];exact fun e=>o (Option.some.inj e).symm
   ·exact f j (by omega)
 ·rw[if_neg]
  intro q;obtain⟨j,p⟩:=List.getElem?_of_mem q;exact f j (by have:=(List.getElem?_eq_some_iff.1 p).1;omega) p
theorem KJ{K:Type}[DecidableEq K]{f:KeyT K}(b:Nat)(al:List (K×Value))(w:World)(h:MapAt f w b al):
  Calls Tryz.prog 50 #[.map (some b)] w fun e w'=>∃d,e=.returned (.map (some d))/\d=w.heap.size/\MapAt f w' d al/\Chg [] w w':=by
 apply lMCloneSp.ok;unfold lMCloneSp.vc;obtain⟨g,a,i,j⟩:=h
 have c:Tryz.prog.underlying 80=some (.map 3 62):=by kernel_rfl
 refine⟨false,?_,BG (x:=_) ⟨⟨.iface 80 (.map (some w.heap.size)),w.alloc (.map g a),?_,?_⟩⟩⟩
 ·have:=run_eql_map_nil_sl (P:=Tryz.prog) w 80 _ _ (some b) c
  simp only[Eqv,Sem.run_bind,eqGuard];simp[this]
 ·rw[run_callFunc_extern Tryz.func88 (by kernel_rfl) (by kernel_rfl) (by kernel_rfl) (e:=Extern.MapsClone.clone) (by kernel_rfl),run_maps_clone_sl w 80 i]
  rfl
 ·refine⟨_,rfl,some w.heap.size,run_typeAssert_map_sl _ 80 20 _ _ _ c,w.heap.size,rfl,rfl,⟨g,a,Ez w _,j⟩,⟨rfl,rfl,rfl,by simp,fun k l _=>alloc_old w _ k l⟩⟩
theorem lMClonePl_spec{K:Type}[DecidableEq K]{f:KeyT K}(b:Nat)(al:List (K×Value))(w:World)(h:MapAt f w b al):
  Calls Tryz.prog 52 #[.map (some b)] w fun e w'=>∃d,e=.returned (.map (some d))/\d=w.heap.size/\MapAt f w' d al/\Chg [] w w':=by
 apply lMClonePl.ok;unfold lMClonePl.vc;obtain⟨g,a,i,j⟩:=h
 have c:Tryz.prog.underlying 83=some (.map 9 101):=by kernel_rfl
 refine⟨false,?_,BG (x:=_) ⟨⟨.iface 83 (.map (some w.heap.size)),w.alloc (.map g a),?_,?_⟩⟩⟩
 ·have:=run_eql_map_nil_sl (P:=Tryz.prog) w 83 _ _ (some b) c
  simp only[Eqv,Sem.run_bind,eqGuard];simp[this]
 ·rw[run_callFunc_extern Tryz.func88 (by kernel_rfl) (by kernel_rfl) (by kernel_rfl) (e:=Extern.MapsClone.clone) (by kernel_rfl),run_maps_clone_sl w 83 i]
  rfl
 ·refine⟨_,rfl,some w.heap.size,run_typeAssert_map_sl _ 83 20 _ _ _ c,w.heap.size,rfl,rfl,⟨g,a,Ez w _,j⟩,⟨rfl,rfl,rfl,by simp,fun k l _=>alloc_old w _ k l⟩⟩
theorem lMCloneSI_spec{K:Type}[DecidableEq K]{f:KeyT K}(b:Nat)(al:List (K×Value))(w:World)(h:MapAt f w b al):
  Calls Tryz.prog 90 #[.map (some b)] w fun e w'=>∃d,e=.returned (.map (some d))/\d=w.heap.size/\MapAt f w' d al/\Chg [] w w':=by
 apply lMCloneSI.ok;unfold lMCloneSI.vc;obtain⟨g,a,i,j⟩:=h
 have c:Tryz.prog.underlying 147=some (.map 9 3):=by kernel_rfl
 refine⟨false,?_,BG (x:=_) ⟨⟨.iface 147 (.map (some w.heap.size)),w.alloc (.map g a),?_,?_⟩⟩⟩
 ·have:=run_eql_map_nil_sl (P:=Tryz.prog) w 147 _ _ (some b) c
  simp only[Eqv,Sem.run_bind,eqGuard];simp[this]
 ·rw[run_callFunc_extern Tryz.func88 (by kernel_rfl) (by kernel_rfl) (by kernel_rfl) (e:=Extern.MapsClone.clone) (by kernel_rfl),run_maps_clone_sl w 147 i]
  rfl
 ·refine⟨_,rfl,some w.heap.size,run_typeAssert_map_sl _ 147 20 _ _ _ c,w.heap.size,rfl,rfl,⟨g,a,Ez w _,j⟩,⟨rfl,rfl,rfl,by simp,fun k l _=>alloc_old w _ k l⟩⟩
noncomputable section
theorem nPT:Scl Tryz.prog 49:=BH (by kernel_rfl)
theorem nMN:Scl Tryz.prog 117:=BH (by kernel_rfl)
theorem nSI:Scl Tryz.prog 59:=BH (by kernel_rfl)
theorem nSIt:Scl Tryz.prog 34:=BH (by kernel_rfl)
theorem bK:Scl Tryz.prog 104:=BH (by kernel_rfl)
theorem Jo:Agg Tryz.prog 71 7:=Cb (by kernel_rfl)
theorem aZ:Agg Tryz.prog 139 8:=Cb (by kernel_rfl)
theorem Ll:Elt Tryz.prog 59 3 1 8:=CQ (by kernel_rfl)
theorem LZ:Tryz.prog.underlying 59=some (.slice 3):=by kernel_rfl
theorem Dy:MapT Tryz.prog (CZ .i64) 117 3 136 (.pointer none):=⟨by kernel_rfl,by kernel_rfl,by kernel_rfl⟩
structure NW where
 b:Nat
 aa:Option Addr
 ac:Nat
 ka:Option Addr
 kc:Nat
def AO(l:List Int):List Value:=l.map (.int .i64)
def nodC(y:NW)(e:En):List Value:=[.int .i64 e.id,.int .i64 e.par,.int .i64 e.x.kind,.int .i64 0,.string e.x.name,.string e.x.text,.slice y.aa e.x.attrs.length y.ac,.slice y.ka e.kids.length y.kc]
def nodL(p:NW×En):List Asn:=[.blk p.1.b (nodC p.1 p.2) 139,.own 142 2 p.1.aa p.2.x.attrs.length p.1.ac (atC p.2.x.attrs),.own 3 1 p.1.ka p.2.kids.length p.1.kc (AO p.2.kids)]
def BR(ws:List (NW×En)):List Asn:=ws.flatMap nodL
def nodM(ws:List (NW×En)):List (Int×Value):=ws.map fun p=>(p.2.id,.pointer (some ⟨p.1.b,0,none⟩))
def treC(mb:Nat)(root next:Int):List Value:=[.map (some mb),.int .i64 root,.int .i64 next]
def treL(b mb:Nat)(root next:Int)(ws:List (NW×En)):List Asn:=.blk b (treC mb root next) 119::.imap mb .i64 (nodM ws)::BR ws
def AZ:Fo->Int
 |.nil=>0
 |.cons i _ _ _=>i
def CY(F:Fo)(ws:List (NW×En)):Prop:=(ws.map (·.2)).Perm (ents F 0)
def treeF(b:Nat)(F:Fo)(next:Int)(L:List Asn):Prop:=∃mb ws,CY F ws/\L=treL b mb (AZ F) next ws
def Jn(b:Nat)(T:Tr)(L:List Asn):Prop:=∃F,BM F T/\treeF b F T.next L
def AU(f:List Nat)(b:Nat)(T:Tr):Asn:=pkA f (Jn b T)
theorem X9{F:Fo}{p i q:Int}{x:NX}{k:Fo}(hn:(ids F).Nodup)(h:AX F p i=some (q,x,k)):(⟨i,q,x,tops k⟩:En)∈ents F p:=by
 obtain⟨R,a,_⟩:=Dn F p i hn h;exact a.mem_iff.2 (.head _)
section
variable{F:Fo}{ws:List (NW×En)}
theorem CY.ids(h:CY F ws):((nodM ws).map (·.1)).Perm (Nod.ids F):=by
 have:=h.map (·.id);rw[Bi,map_map]at this;rw[nodM,map_map];exact this
theorem CY.apart(h:CY F ws)(hn:(Nod.ids F).Nodup):EZ (nodM ws):=h.ids.nodup_iff.2 hn
theorem CY.at_(h:CY F ws)(hn:(Nod.ids F).Nodup){i q:Int}{x:NX}{k:Fo}(g:AX F 0 i=some (q,x,k)):
  ∃A y B,ws=A++(y,⟨i,q,x,tops k⟩)::B/\aget (nodM ws) i=some (.pointer (some ⟨y.b,0,none⟩)):=by
 have j:=h.mem_iff.2 (X9 hn g);obtain⟨⟨y,e⟩,c,d⟩:=mem_map.1 j;dsimp only at d;subst d;obtain⟨A,B,a⟩:=append_of_mem c;exact⟨A,y,B,a,(Ea (h.apart hn)).2 (mem_map.2 ⟨_,c,rfl⟩)⟩
theorem CY.none(h:CY F ws){i:Int}(a:AX F 0 i=none):aget (nodM ws) i=none:=by
 rw[JR];intro c;exact(Au F 0 i).2 (h.ids.mem_iff.1 c) a
structure Nu(F:Fo)(ws:List (NW×En)):Prop where
 at_:∀{i q:Int}{x:NX}{k:Fo},AX F 0 i=some (q,x,k)->∃A y q' B,ws=A++(y,(⟨i,q',x,tops k⟩:En))::B/\aget (nodM ws) i=some (.pointer (some ⟨y.b,0,none⟩))
 none:∀{i:Int},AX F 0 i=none->aget (nodM ws) i=none
def KN(e:En):En:= {e with par:=0}
theorem Nu.of(hn:(Nod.ids F).Nodup)(h:(ws.map fun p=>KN p.2).Perm ((ents F 0).map KN)):Nu F ws:=by
 have m:((nodM ws).map (·.1)).Perm (Nod.ids F):=by
  have a:=h.map (·.id);rw[map_map,map_map]at a
  have o:(ents F 0).map ((fun x=>x.id)∘KN)=Nod.ids F:=by rw[<- Bi F 0];rfl
  rw[o]at a;rw[nodM,map_map];exact a
 have c:EZ (nodM ws):=m.nodup_iff.2 hn;refine⟨fun{i q x k} d=>?_,fun{i} d=>?_⟩
 ·have g:=h.mem_iff.2 (mem_map.2 ⟨_,X9 hn d,rfl⟩)
  obtain⟨⟨y,e⟩,n,j⟩:=mem_map.1 g;dsimp only at j;obtain⟨s,r,t,u⟩:=e;simp only[KN,En.mk.injEq]at j;obtain⟨rfl,_,rfl,rfl⟩:=j;obtain⟨A,B,l⟩:=append_of_mem n;exact⟨A,y,r,B,l,(Ea c).2 (mem_map.2 ⟨_,n,rfl⟩)⟩
 ·rw[JR]
  intro g;exact(Au F 0 i).2 (m.mem_iff.1 g) d
theorem CY.v(h:CY F ws)(hn:(Nod.ids F).Nodup):Nu F ws:=Nu.of hn (by
 have:=h.map KN
 rwa [map_map]at this)
theorem nods_split(A:List (NW×En))(p:NW×En)(B:List (NW×En)):(BR (A++p::B)).Perm (nodL p++BR (A++B)):=by
 rw[BR,BR,List.flatMap_append,List.flatMap_cons,List.flatMap_append,<- append_assoc,<- append_assoc];exact List.perm_append_comm.append_right _
theorem Xu{p:NW×En}(h:p∈ws):∀a∈nodL p,a∈BR ws:=fun a c=>List.mem_flatMap.2 ⟨p,h,c⟩
theorem Di{b mb:Nat}{root next:Int}{p:NW×En}(h:p∈ws){a:Asn}(c:a∈nodL p):a∈treL b mb root next ws:=.tail _ (.tail _ (Xu h a c))
theorem CY.len(h:CY F ws):ws.length=(Nod.ids F).length:=by
 have:=h.length_eq;rw[length_map]at this;rw[this,<- Bi F 0,length_map]
end
theorem Kt(l:List Int):∀u∈AO l,u.oneCell'=true:=by
 intro u a;obtain⟨_,_,rfl⟩:=mem_map.1 a;rfl
theorem UI(l:List Int):(AO l).length=l.length:=length_map _
theorem Yr{F:Fo}{T:Tr}(G:BM F T):AZ F=(T.L.head?.map (·.id)).getD 0:=by
 rw[<- G.fl]
 cases F with
 |nil=>rfl
 |cons i x k s=>rfl
def aN(T:Tr):Int:=(T.L.head?.map (·.id)).getD 0
section
variable{b mb:Nat}{root next:Int}{F:Fo}{ws:List (NW×En)}{w:World}
theorem gRoot_w(h:Blk w b (treC mb root next) 119):Calls Tryz.prog 33 #[.pointer (some ⟨b,0,none⟩)] w fun e w'=>e=.returned (.int .i64 root)/\w'=w:=by
 apply gRoot.ok;unfold gRoot.vc;exact AA rfl ⟨root,h.ld (o:=1) yInt.agg rfl,rfl,rfl⟩
theorem gNext_w(h:Blk w b (treC mb root next) 119):Calls Tryz.prog 39 #[.pointer (some ⟨b,0,none⟩)] w fun e w'=>e=.returned (.int .i64 next)/\w'=w:=by
 apply gNext.ok;unfold gNext.vc;exact AA rfl ⟨next,h.ld (o:=2) yInt.agg rfl,rfl,rfl⟩
end
theorem run_len_map{P:Program}{w:World}{t c d ty:TypeId}{K:Type}[DecidableEq K]{e:KeyT K}{b:Nat}{al:List (K×Value)}(g:P.underlying t=some (.map c d))(h:MapAt e w b al):LenM P #[t] ty w (.map (some b)) (.int .i64 (al.length:Int)):=by
 obtain⟨i,a,j,k,_⟩:=h
 have l:i.size=al.length:=by
  have:=congrArg List.length k;simpa using this
 simp[LenM,Builtin.len_,Builtin.lenOf,Go.Vc.run_getObj_map j,Ac g,goInt,l]
section
variable{f:List Nat}{b:Nat}{T:Tr}{w:World}
theorem Fq(h:(AU f b T).ok w):∃F mb ws,BM F T/\CY F ws/\Std w (treL b mb (AZ F) T.next ws)/\∀k∈feet (treL b mb (AZ F) T.next ws),k∈f:=by
 obtain⟨L,⟨F,a,mb,ws,c,rfl⟩,d,e⟩:=EJ h;exact⟨F,mb,ws,a,c,d,e⟩
theorem Qq(h:(AU f b T).ok w):Calls Tryz.prog 33 #[.pointer (some ⟨b,0,none⟩)] w fun e w'=>e=.returned (.int .i64 (aN T))/\w'=w:=by
 obtain⟨F,mb,ws,a,d,c,_⟩:=Fq h;have:=gRoot_w (c.ok _ (.head _));rw[Yr a]at this;exact this
theorem Tv(h:(AU f b T).ok w):Calls Tryz.prog 39 #[.pointer (some ⟨b,0,none⟩)] w fun e w'=>e=.returned (.int .i64 T.next)/\w'=w:=by
 obtain⟨F,mb,ws,c,d,a,_⟩:=Fq h;exact gNext_w (a.ok _ (.head _))
theorem gLen_spec(h:(AU f b T).ok w):Calls Tryz.prog 30 #[.pointer (some ⟨b,0,none⟩)] w fun e w'=>e=.returned (.int .i64 (T.L.length:Int))/\w'=w:=by
 obtain⟨F,mb,ws,c,d,a,_⟩:=Fq h;apply gLen.ok;unfold gLen.vc;have g:MapAt (CZ .i64) w mb (nodM ws):=a.ok _ m1;have i:Blk w b (treC mb (AZ F) T.next) 119:=a.ok _ (.head _);refine AA rfl ⟨some mb,i.ld (o:=0) nMN.agg rfl,_,run_len_map Dy.und g,?_,rfl⟩
 have e:(nodM ws).length=T.L.length:=by rw[nodM,length_map,d.len,BP c]
 rw[e]
end
section
variable{b mb:Nat}{root next:Int}{F:Fo}{ws:List (NW×En)}{w:World}
theorem row_one:∀(L:List Rw),(L.map (·.id)).Nodup->∀a∈L,∀c∈L,a.id=c.id->a=c:=by
 intro L
 induction L with
 |nil=>intro _ a i;cases i
 |cons r t m=>
  intro h a i b k e;rw[map_cons,nodup_cons]at h;rcases mem_cons.1 i with l|g
  ·rcases mem_cons.1 k with j|d
   ·rw[l,j]
   ·exact(h.1 (mem_map.2 ⟨b,d,by rw[<- e,l]⟩)).elim
  ·rcases mem_cons.1 k with j|d
   ·exact(h.1 (mem_map.2 ⟨a,g,by rw[e,j]⟩)).elim
   ·exact m h.2 a g b d e
theorem MJ(hn:(ids F).Nodup)(d:CY F ws)(g:Std w (treL b mb root next ws))(i:Int):
  Calls Tryz.prog 147 #[.pointer (some ⟨b,0,none⟩),.int .i64 i] w fun e w'=>w'=w/\
   ((AX F 0 i=none/\e=.returned (.tuple #[.pointer none,.int .i64 60]))\/
    (∃q x k,AX F 0 i=some (q,x,k)/\x.kind≠1/\e=.returned (.tuple #[.pointer none,.int .i64 68]))\/
    (∃q x k A y B,AX F 0 i=some (q,x,k)/\x.kind=1/\ws=A++(y,⟨i,q,x,tops k⟩)::B/\e=.returned (.tuple #[.pointer (some ⟨y.b,0,none⟩),.int .i64 0]))):=by
 apply gElement.ok;unfold gElement.vc;have H:=Hp.Bv g;refine AA rfl ⟨some mb,H.lo nMN,?_⟩
 cases hl:AX F 0 i with
 |none=>
  have a:=d.none hl;exact⟨none,false,H.Lm Dy EQ4 m1 (by rw[a];rfl) (by rw[a];rfl),DR (x:=_) ⟨rfl,.inl ⟨rfl,rfl⟩⟩⟩
 |some z=>
  obtain⟨q,x,k⟩:=z;obtain⟨A,y,B,c,a⟩:=d.at_ hn hl
  have j:Asn.blk y.b (nodC y ⟨i,q,x,tops k⟩) 139∈treL b mb root next ws:=Di (p:=(y,⟨i,q,x,tops k⟩)) (by rw[c];simp) (.head _)
  refine⟨some ⟨y.b,0,none⟩,true,H.Lm Dy EQ4 m1 (by rw[a];rfl) (by rw[a];rfl),BG (x:=_) (AA rfl ⟨x.kind,H.ld (o:=2) (cs:=nodC y ⟨i,q,x,tops k⟩) EQ4 yInt j rfl,Aa (fun h=>⟨rfl,.inr (.inl ⟨q,x,k,rfl,h,rfl⟩)⟩) (fun h=>⟨rfl,.inr (.inr ⟨q,x,k,A,y,B,rfl,h,c,rfl⟩)⟩)⟩)⟩
theorem XU(hn:(ids F).Nodup)(m:∀j∈ids F,j≠0)(X:∃j z kk,F=.cons j z kk .nil)(hw:CY F ws)(hs:Std w (treL b mb root next ws)){i q:Int}{x:NX}{k:Fo}{A B:List Rw}{v:Int}(hl:AX F 0 i=some (q,x,k))(Y:Mid F 0 i 0 q x k A B v)(hv:v<=1000000):
  Calls Tryz.prog 149 #[.pointer (some ⟨b,0,none⟩),.int .i64 i] w fun e w'=>e=.returned (.int .i64 v)/\w'=w:=by
 apply gLevel.ok;unfold gLevel.vc;have H:=Hp.Bv hs;have K:=Y.le;refine AP.mk (fun n s w'=>∃q x k A B u,n=u.toNat/\w'=w/\AX F 0 s.1=some (q,x,k)/\Mid F 0 s.1 0 q x k A B u/\s.2=v-u/\0<=u/\u<=v) v.toNat ⟨q,x,k,A,B,v,rfl,rfl,hl,Y,(Int.sub_self v).symm,K,Int.le_refl _⟩ ?_;rintro n ⟨j,c⟩ L nx ⟨a,M,N,A1,B1,u,rfl,rfl,t,d,Z,aa,ab⟩ O;dsimp only at t d Z⊢;obtain⟨A2,y,B2,P,ha⟩:=hw.at_ hn t
 have C:Asn.blk y.b (nodC y ⟨j,a,M,tops N⟩) 139∈treL b mb root next ws:=Di (p:=(y,⟨j,a,M,tops N⟩)) (by rw[P];simp) (.head _)
 have D:Ld Tryz.prog 117 L ⟨b,0,none⟩ (.map (some mb)):=H.lo nMN;have E:Lk Tryz.prog 117 false L (.map (some mb)) (.int .i64 j) (.pointer (some ⟨y.b,0,none⟩)):=H.lkI Dy EQ4 m1 (by rw[ha];rfl);have G:Ld Tryz.prog 3 L ⟨y.b,1,none⟩ (.int .i64 a):=H.ld (o:=1) (cs:=nodC y ⟨j,a,M,tops N⟩) EQ4 yInt C rfl;refine AA rfl ⟨_,D,_,E,AA rfl ⟨a,by rw[add_lit];exact G,Aa (fun h=>AA rfl ⟨_,D,_,E,AA rfl ⟨a,by rw[add_lit];exact G,iR,?_⟩⟩) (fun h=>⟨?_,rfl⟩)⟩⟩
 ·rcases d.up with⟨I,_⟩|⟨I,A3,z,A4,Q,_⟩
  ·exact(h I).elim
  ·have g:(⟨a,u-1,z⟩:Rw)∈flat F 0:=by rw[d.fl,Q];simp
   have R:a∈ids F:=by rw[<- BD F 0];exact mem_map.2 ⟨_,g,rfl⟩
   have S:=(Au F 0 a).2 R
   cases hlq:AX F 0 a with
   |none=>exact(S hlq).elim
   |some r=>
    obtain⟨q2,x2,k2⟩:=r;obtain⟨A5,B5,U,l⟩:=Bg F 0 a 0 hn hlq;have J:=l.level;have:=row_one (flat F 0) (by rw[BD];exact hn) _ g _ J rfl
    injection this with _ e2 _
    have ac:U=u-1:=e2.symm;have:=l.le;refine O U.toNat _ _ (by omega) ⟨q2,x2,k2,A5,B5,U,rfl,rfl,hlq,l,by dsimp only;omega,by omega,by omega⟩
 ·rcases d.up with⟨_,I⟩|⟨I,A3,z,A4,Q,_⟩
  ·rw[Z,I,Int.sub_zero]
  ·have g:(⟨a,u-1,z⟩:Rw)∈flat F 0:=by rw[d.fl,Q];simp
   have R:a∈ids F:=by rw[<- BD F 0];exact mem_map.2 ⟨_,g,rfl⟩
   exact(m a R h).elim
end
end
end Go.Proofs.YtljenkbpnioipaaGreat
namespace Go.Nod
theorem LX:∀(F G:Fo),ids (app F G)=ids F++ids G
 |.nil,G=>rfl
 |.cons i x k s,G=>by rw[app,ids,ids,LX s G];simp
theorem Uj:∀(F G H:Fo),app (app F G) H=app F (app G H)
 |.nil,G,H=>rfl
 |.cons i x k s,G,H=>by rw[app,app,app,Uj s G H]
theorem Iy:∀(F:Fo),(tops F).length<=(ids F).length
 |.nil=>Nat.le_refl _
 |.cons i x k s=>by
  have:=Iy s;rw[tops,ids,length_cons,length_cons,length_append];omega
theorem look_in:∀(F:Fo)(p i c:Int){q:Int}{x:NX}{k:Fo}{r:Int×NX×Fo},(ids F).Nodup->AX F p i=some (q,x,k)->AX k i c=some r->AX F p c=some r
 |.nil,p,i,c,q,x,k,r,_,h,_=>by cases h
 |.cons j y kk s,p,i,c,q,x,k,r,hn,h,hc=>by
  rw[ids,nodup_cons,nodup_append]at hn;obtain⟨d,l,m,n⟩:=hn;rw[AX]at h⊢;split at h
  ·rename_i e
   cases h;subst e;have f:c∈ids kk:=(Au kk j c).1 (by rw[hc];simp);have a:¬j=c:=fun e=>d (mem_append_left _ (e▸f));rw[if_neg a,hc]
  ·rename_i e
   split at h
   ·rename_i u o
    cases h;have g:=look_in kk j i c l o hc;have f:c∈ids kk:=(Au kk j c).1 (by rw[g];simp);have a:¬j=c:=fun e=>d (mem_append_left _ (e▸f));rw[if_neg a,g]
   ·rename_i o
    have g:=look_in s p i c m h hc;have f:c∈ids s:=(Au s p c).1 (by rw[g];simp);have a:¬j=c:=fun e=>d (mem_append_right _ (e▸f))
    have t:AX kk j c=none:=by
     cases h9:AX kk j c with
     |none=>rfl
     |some w=>exact(n c ((Au kk j c).1 (by rw[h9];simp)) c f rfl).elim
    rw[if_neg a,t];exact g
theorem Wl:∀(K:Fo)(i c:Int)(y:NX)(d s:Fo),(ids (app K (.cons c y d s))).Nodup->AX (app K (.cons c y d s)) i c=some (i,y,d)
 |.nil,i,c,y,d,s,_=>by rw[app,AX,if_pos rfl]
 |.cons j z a t,i,c,y,d,s,h=>by
  rw[app,ids,nodup_cons,nodup_append]at h
  have g:c∈ids (app t (.cons c y d s)):=by rw[LX,ids];simp
  have f:¬j=c:=fun e=>h.1 (mem_append_right _ (e▸g))
  have k:AX a j c=none:=by
   cases h9:AX a j c with
   |none=>rfl
   |some l=>exact(h.2.2.2 c ((Au a j c).1 (by rw[h9];simp)) c g rfl).elim
  rw[app,AX,if_neg f,k];exact Wl t i c y d s h.2.2.1
theorem row_in{i c:Int}{x y:NX}{K d s:Fo}{a:Int}{j:Nat}{r:Rw}(h:(flat (.cons c y d .nil) (a+1))[j]? =some r):(flat (.cons i x (app K (.cons c y d s)) .nil) a)[1+(ids K).length+j]? =some r:=by
 have e:flat (.cons i x (app K (.cons c y d s)) .nil) a=(⟨i,a,x⟩::flat K (a+1))++(flat (.cons c y d .nil) (a+1)++flat s (a+1)):=by
  simp[flat,SE]
 have f:(⟨i,a,x⟩::flat K (a+1):List Rw).length=1+(ids K).length:=by rw[length_cons,BI];omega
 have g:=(List.getElem?_eq_some_iff.1 h).1;rw[e,List.getElem?_append_right (by omega),f,Nat.add_sub_cancel_left,List.getElem?_append_left g];exact h
end Go.Nod
namespace Go.Proofs.YtljenkbpnioipaaGreat
noncomputable section
open Go Go.Vc Go.Nod
def dA(D:Nat):Asn:=objA D (.deferred (some []))
theorem shutAll{B:List Nat}{w0:World}:∀(a:List Nat)(w:World)(L:List Asn),Hp B w0 w (a.map dA++L)->∃w1,Gi a w w1/\Hp B w0 w1 L
 | [],w,L,H=>⟨w,rfl,H⟩
 |D::a,w,L,H=>by
  have H:Hp B w0 w (dA D::(a.map dA++L)):=H;obtain⟨w1,c,d⟩:=shutAll a _ L ((H.putO (o':=.deferred none)).drop);exact⟨w1,⟨_,⟨H.obj (.head _),rfl⟩,c⟩,d⟩
theorem GI(b:Nat)(i a:Int)(w:World):Calls Tryz.prog 69 #[.pointer (some ⟨b,0,none⟩),.int .i64 i,.int .i64 a] w fun e w'=>
  ∃c d f,e=.returned (.func (.func 137) #[] #[.pointer (some ⟨c,0,none⟩),.pointer (some ⟨d,0,none⟩),.pointer (some ⟨f,0,none⟩)])/\
   Hp [] w w' [.blk f [.int .i64 a] 3,.blk d [.int .i64 i] 3,.blk c [.pointer (some ⟨b,0,none⟩)] 49]:=by
 apply gBelow.ok;unfold gBelow.vc;intro c k g;have H:=(Hp.start w).nw g;intro d l h;replace H:=H.nw h;intro f m j;replace H:=H.nw j;exact⟨c,d,f,rfl,H⟩
theorem au{B:List Nat}{w0 w:World}{L R:List Asn}{x:Asn}(H:Hp B w0 w (x::(L++R))):Hp B w0 w (L++x::R):=H.perm List.perm_middle.symm
theorem MG{B:List Nat}{w0 w:World}{L R:List Asn}{x:Asn}(H:Hp B w0 w (L++x::R)):Hp B w0 w (x::(L++R)):=H.perm perm_middle
def Yld(B:List Nat)(w0:World)(G' J:List Asn->Prop)(Fr:List Asn)(e:Ending)(w':World):Prop:=
 (e=.returned (.bool true)/\∃L',G' L'/\Hp B w0 w' (L'++Fr))\/(e=.returned (.bool false)/\∃L',J L'/\Hp B w0 w' (L'++Fr))
section
variable{B:List Nat}{w0:World}(b mb:Nat)(root next:Int)(ws:List (NW×En))(F:Fo)
theorem below1(ab:(ids F).Nodup)(hw:Nu F ws):∀(n:Nat)(i q:Int)(x:NX)(k:Fo)(d:Int)(m l:Nat)(G:Nat->List Asn->Prop)(J:List Asn->Prop)(f0 f1 f2:Nat)(Fr L:List Asn)(w:World),
  (ids k).length<n->AX F 0 i=some (q,x,k)->0<=d->d+(ids k).length<=1000000->
  (∀j L,G j L->∀a∈treL b mb root next ws,a∈L)->
  (∀(j:Nat)(r:Rw),(flat (.cons i x k .nil) d)[j]? =some r->∀(Fr L:List Asn)(w:World),G (m+j) L->Hp B w0 w (L++Fr)->
   EX Tryz.prog (.func (.yield l) #[] #[]) [.int .i64 r.id,.int .i64 r.level] w fun e w'=>Yld B w0 (G (m+j+1)) J Fr e w')->
  Asn.blk f0 [.pointer (some ⟨b,0,none⟩)] 49∈Fr->Asn.blk f1 [.int .i64 i] 3∈Fr->Asn.blk f2 [.int .i64 d] 3∈Fr->
  G m L->Hp B w0 w (L++Fr)->
  Calls Tryz.prog 137 #[.func (.yield l) #[] #[],.pointer (some ⟨f0,0,none⟩),.pointer (some ⟨f1,0,none⟩),.pointer (some ⟨f2,0,none⟩)] w fun e w'=>
   e=.returned (.tuple #[])/\((∃L',G (m+1+(ids k).length) L'/\Hp B w0 w' (L'++Fr))\/∃L',J L'/\Hp B w0 w' (L'++Fr)):=by
 intro n
 induction n with
 |zero=>intro i q x k d m l G J f0 f1 f2 Fr L w hn;omega
 |succ n ih=>
 intro i q x k d m l G J f0 f1 f2 Fr L w hn ac a0 a1 hT hy m0 m1 m2 hG H
 apply gBelow1.ok;unfold gBelow1.vc
 intro C w1 ah
 have E:=au (H.nw ah)
 clear H ah
 obtain⟨A,y,q',Bw,ao,ha⟩:=hw.at_ ac
 have Z:∀a∈nodL (y,⟨i,q',x,tops k⟩),a∈treL b mb root next ws:=fun a ha=>Di (p:=(y,⟨i,q',x,tops k⟩)) (by rw[ao];simp) ha
 have I:∀{a:Asn}{L Fr:List Asn},a∈Fr->a∈L++Fr:=fun h=>mem_append_right _ h
 have S:∀{a:Asn}{j:Nat}{L Fr:List Asn},G j L->a∈treL b mb root next ws->a∈L++Fr:=fun hg h=>mem_append_left _ (hT _ _ hg _ h)
 refine⟨_,AA rfl (E.ld (o:=0) (cs:=[.pointer (some ⟨b,0,none⟩)]) EQ4 nPT (I (.tail _ m0)) rfl),AA rfl ⟨some mb,E.ld (o:=0) (cs:=treC mb root next) EQ4 nMN (S hG (.head _)) rfl,i,AA rfl (E.ld (o:=0) (cs:=[.int .i64 i]) EQ4 yInt (I (.tail _ m1)) rfl),?_⟩⟩
 refine⟨some ⟨y.b,0,none⟩,true,E.Lm Dy EQ4 (S hG (.tail _ (.head _))) (by rw[ha];rfl) (by rw[ha];rfl),BG (x:=_) ?_⟩
 refine⟨.func (.yield l) #[] #[],E.ld (o:=0) (cs:=[.func (.yield l) #[] #[]]) EQ4 bK (I (.head _)) rfl,i,AA rfl (E.ld (o:=0) (cs:=[.int .i64 i]) EQ4 yInt (I (.tail _ m1)) rfl),d,AA rfl (E.ld (o:=0) (cs:=[.int .i64 d]) EQ4 yInt (I (.tail _ m2)) rfl),?_⟩
 refine ZY (hy 0 ⟨i,d,x⟩ rfl (.blk C [.func (.yield l) #[] #[]] 104::Fr) L w1.drew hG (E.go EQ4)) ?_
 clear E
 rintro e w2 (⟨rfl,L1,ae,E⟩|⟨rfl,L1,hJ,E⟩)
 rotate_left
 ·exact⟨false,rfl,DR (x:=_) ⟨w2,rfl,rfl,.inr ⟨L1,hJ,(MG E).drop⟩⟩⟩
 refine⟨true,rfl,BG (x:=_) (AA rfl ⟨y.ka,(tops k).length,y.kc,by rw[add_lit];exact E.ld (o:=7) (cs:=nodC y ⟨i,q',x,tops k⟩) EQ4 nSI (S ae (Z _ (.head _))) rfl,?_⟩)⟩
 clear hG
 obtain⟨Aq,Bq,vq,ak⟩:=Bg F 0 i 0 ab ac
 have al:(ids k).Nodup:=by
  have:=ab
  rw[ak.ids,nodup_append,nodup_cons,nodup_append]at this
  exact this.2.1.2.1
 refine AP.mk (fun m' s w'=>∃(f K:Fo)(L:List Asn),k=app f K/\m'=(tops K).length/\s.1=((tops f).length:Int)/\G (m+1+(ids f).length) L/\Hp B w0 w' (L++(s.2.map dA++(.blk C [.func (.yield l) #[] #[]] 104::Fr)))) (tops k).length ⟨.nil,k,L1,rfl,rfl,rfl,ae,E⟩ ?_
 clear ae E
 rintro m' ⟨s,t⟩ w3 nx ⟨f,K,L2,rfl,rfl,hs,af,H2⟩ ap
 dsimp only at hs⊢
 subst hs
 have am:∀(t:List Nat)(w4:World)(L4:List Asn),Hp B w0 w4 (L4++(t.map dA++(.blk C [.func (.yield l) #[] #[]] 104::Fr)))->∃Q,Gi t w4 Q/\Hp B w0 Q (L4++Fr):=fun t w4 L4 h=>by
  have h1:=h.perm (perm_append_comm_assoc _ _ _)
  obtain⟨Q,h2,h3⟩:=shutAll t w4 _ h1
  exact⟨Q,h2,(MG h3).drop⟩
 refine AB (fun h3=>?_) (fun h3=>?_)
 rotate_left
 ·have hK:K=.nil:=by
   cases K with
   |nil=>rfl
   |cons c z N s=>
    exfalso
    rw[IC,tops,length_append,length_cons]at h3
    omega
  subst hK
  obtain⟨Q,h4,h5⟩:=am t w3 L2 H2
  refine⟨Q,h4,rfl,.inl ⟨L2,?_,h5⟩⟩
  rw[LX,ids,append_nil];exact af
 cases K with
 |nil=>rw[IC,tops,append_nil]at h3;omega
 |cons c z N s=>
 have a2:=Iy (app f (.cons c z N s))
 have a3:(tops f).length<(tops (app f (.cons c z N s))).length:=by rw[IC,tops,length_append,length_cons];omega
 have aq:(AO (tops (app f (.cons c z N s))))[(tops f).length]? =some (.int .i64 c):=by
  rw[AO,List.getElem?_map,IC,List.getElem?_append_right (Nat.le_refl _),Nat.sub_self];rfl
 obtain⟨ad,ar,av⟩:=H2.ldO (w':=w3) (o:=(tops f).length) EQ4 yInt (S af (Z _ (.tail _ (.tail _ (.head _))))) aq
 have aw:AX F 0 c=some (i,z,N):=look_in F 0 i c ab ac (Wl f i c z N s al)
 have a4:(ids N).length+1+(ids f).length<=(ids (app f (.cons c z N s))).length:=by
  rw[LX,ids,length_append,length_cons,length_append];omega
 refine AA ar ⟨⟨by omega,h3⟩,c,by rw[Int.toNat_natCast,Nat.mul_one];exact av,_,AA rfl (H2.ld (o:=0) (cs:=[.pointer (some ⟨b,0,none⟩)]) EQ4 nPT (I (mem_append_right _ (.tail _ m0))) rfl),d,AA rfl (H2.ld (o:=0) (cs:=[.int .i64 d]) EQ4 yInt (I (mem_append_right _ (.tail _ m2))) rfl),CX.2 (by omega),?_⟩
 refine AC (GI b c (d+1) w3) ?_
 rintro _ w4 ⟨T,U,X,rfl,Hb⟩
 replace H2:=H2.ext Hb
 refine⟨_,rfl,137,#[],_,rfl,⟨_,_,Tryz.func137,rfl⟩,⟨fun D R wa wb g hD hl Y=>?_⟩⟩
 have H3:=(H2.newO EQ4 hD).newO EQ4 hl
 clear H2 hD hl
 have H4:Hp B w0 wb ((objA R (g .ready none)::.blk C [.func (.yield l) #[] #[]] 104::L2)++(.blk X [.int .i64 (d+1)] 3::.blk U [.int .i64 c] 3::.blk T [.pointer (some ⟨b,0,none⟩)] 49::dA D::(t.map dA++Fr))):=by
  refine H3.perm ?_
  refine List.Perm.cons _ ?_
  have e1:(L2++(t.map dA++.blk C [.func (.yield l) #[] #[]] 104::Fr)).Perm (.blk C [.func (.yield l) #[] #[]] 104::(L2++(t.map dA++Fr))):=by
   refine((perm_middle (l₁:=t.map dA)).append_left L2).trans ?_
   exact perm_middle
  refine(e1.append_left [dA D,.blk X [.int .i64 (d+1)] 3,.blk U [.int .i64 c] 3,.blk T [.pointer (some ⟨b,0,none⟩)] 49]).trans ?_
  refine(perm_middle (l₁:=[dA D,.blk X [.int .i64 (d+1)] 3,.blk U [.int .i64 c] 3,.blk T [.pointer (some ⟨b,0,none⟩)] 49])).trans ?_
  refine List.Perm.cons _ ?_
  refine(perm_append_comm_assoc _ _ _).trans ?_
  refine List.Perm.append_left L2 ?_
  exact(perm_middle (l₁:=[.blk X [.int .i64 (d+1)] 3,.blk U [.int .i64 c] 3,.blk T [.pointer (some ⟨b,0,none⟩)] 49]) (l₂:=t.map dA++Fr)).symm
 clear H3
 refine AC (ih c i z N (d+1) (m+1+(ids f).length) R (fun j L=>∃O,G j O/\L=objA R (g .ready none)::.blk C [.func (.yield l) #[] #[]] 104::O) (fun L=>∃O,J O/\L=objA R (g .done (some .ret))::.blk C [.func (.yield l) #[] #[]] 104::O) T U X _ _ wb (by omega) aw (by omega) (by omega) ?_ ?_ (.tail _ (.tail _ (.head _))) (.tail _ (.head _)) (.head _) ⟨L2,af,rfl⟩ H4) ?_
 ·rintro j _ ⟨O,h0,rfl⟩ a ha
  exact .tail _ (.tail _ (hT j O h0 a ha))
 ·rintro j r hr an _ Q ⟨O,h0,rfl⟩ H5
  have M:Q.heap[R]? =some (g .ready none):=H5.obj (.head _)
  refine Y (r.id,r.level) Q _ ⟨M,?_⟩ M
  have H6:=H5.putO (o':=g .busy none)
  refine⟨.func (.yield l) #[] #[],H6.ld (o:=0) (cs:=[.func (.yield l) #[] #[]]) EQ4 bK (.tail _ (.head _)) rfl,?_⟩
  have H7:Hp B w0 (Q.putObj R (g .busy none)) (O++(objA R (g .busy none)::.blk C [.func (.yield l) #[] #[]] 104::an)):=by
   refine H6.perm ?_
   exact perm_append_comm_assoc [objA R (g .busy none),.blk C [.func (.yield l) #[] #[]] 104] O an
  refine ZY (hy (1+(ids f).length+j) r (row_in hr) _ O _ ?_ H7) ?_
  ·rw[show m+(1+(ids f).length+j)=m+1+(ids f).length+j by omega];exact h0
  rintro e w6 (⟨rfl,u,h8,P⟩|⟨rfl,u,h8,P⟩)
  ·have H9:=MG P
   refine⟨true,rfl,BG (x:=_) ⟨H9.obj (.head _),.inl ⟨rfl,_,⟨u,?_,rfl⟩,?_⟩⟩⟩
   ·rw[show m+1+(ids f).length+j+1=m+(1+(ids f).length+j)+1 by omega];exact h8
   ·have ag:=H9.putO (o':=g .ready none)
    exact ag.perm (List.Perm.cons _ perm_middle)
  ·have H9:=MG P
   refine⟨false,rfl,DR (x:=_) ⟨H9.obj (.head _),.inr ⟨rfl,_,⟨u,h8,rfl⟩,?_⟩⟩⟩
   have ag:=H9.putO (o':=g .done (some .ret))
   exact ag.perm (List.Perm.cons _ perm_middle)
 ·--behind the inner range
  have aa:∀{o:Obj}{w6:World}{u:List Asn}(o':Obj),Hp B w0 w6 ((objA R o::.blk C [.func (.yield l) #[] #[]] 104::u)++(.blk X [.int .i64 (d+1)] 3::.blk U [.int .i64 c] 3::.blk T [.pointer (some ⟨b,0,none⟩)] 49::dA D::(t.map dA++Fr)))->
    Hp B w0 (w6.putObj R o') (u++((D::t).map dA++(.blk C [.func (.yield l) #[] #[]] 104::Fr))):=by
   intro o w6 u o' P
   have H9:=(P.putO (o':=o')).drop
   have e2:((.blk C [.func (.yield l) #[] #[]] 104::u)++(.blk X [.int .i64 (d+1)] 3::.blk U [.int .i64 c] 3::.blk T [.pointer (some ⟨b,0,none⟩)] 49::dA D::(t.map dA++Fr)):List Asn).Perm ([.blk X [.int .i64 (d+1)] 3,.blk U [.int .i64 c] 3,.blk T [.pointer (some ⟨b,0,none⟩)] 49]++(u++((D::t).map dA++(.blk C [.func (.yield l) #[] #[]] 104::Fr)))):=by
    refine(perm_append_comm_assoc (.blk C [.func (.yield l) #[] #[]] 104::u) [.blk X [.int .i64 (d+1)] 3,.blk U [.int .i64 c] 3,.blk T [.pointer (some ⟨b,0,none⟩)] 49] (dA D::(t.map dA++Fr))).trans ?_
    refine List.Perm.append_left _ ?_
    have e3:(u++((D::t).map dA++(.blk C [.func (.yield l) #[] #[]] 104::Fr))).Perm (.blk C [.func (.yield l) #[] #[]] 104::(u++((D::t).map dA++Fr))):=by
     refine((perm_middle (l₁:=(D::t).map dA)).append_left u).trans ?_
     exact perm_middle
    exact e3.symm
   exact(H9.perm e2).drop.drop.drop
  rintro e w6 ⟨rfl,⟨_,⟨u,h8,rfl⟩,P⟩|⟨_,⟨u,h8,rfl⟩,P⟩⟩
  ·refine⟨_,rfl,.inl ⟨P.obj (.head _),CX.2 (by omega),?_⟩⟩
   refine ap (tops s).length _ _ (by rw[tops,length_cons];omega) ⟨app f (.cons c z N .nil),s,u,?_,rfl,?_,?_,aa _ P⟩
   ·rw[Uj];rfl
   ·show((tops f).length:Int)+1=_
    rw[IC,length_append];rfl
   ·rw[LX,length_append,ids,ids,append_nil,length_cons]
    rw[show m+1+((ids f).length+((ids N).length+1))=m+1+(ids f).length+1+(ids N).length by omega]
    exact h8
  ·refine⟨_,rfl,.inr (.inl ⟨P.obj (.head _),?_⟩)⟩
   obtain⟨w7,h7,H7⟩:=am (D::t) _ u (aa (g .exhausted (some .ret)) P)
   exact⟨w7,h7,rfl,.inr ⟨u,h8,H7⟩⟩
end
end
noncomputable section
open Go Go.Vc Go.Nod
def BJ(F:Fo)(i:Int):List Rw:=match AX F 0 i with
 |some (_,x,k)=>flat (.cons i x k .nil) 0
 |none=>[]
section
variable{B:List Nat}{w0:World}(b mb:Nat)(root next:Int)(ws:List (NW×En))(F:Fo)
theorem below1_none(p:Nu F ws)(i q:Int)(l k m r:Nat)(Fr L:List Asn)(w:World)(g:AX F 0 i=none)
  (s:∀a∈treL b mb root next ws,a∈L) (t:Asn.blk k [.pointer (some ⟨b,0,none⟩)] 49∈Fr) (u:Asn.blk m [.int .i64 i] 3∈Fr) (H:Hp B w0 w (L++Fr)):
  Calls Tryz.prog 137 #[.func (.yield l) #[] #[],.pointer (some ⟨k,0,none⟩),.pointer (some ⟨m,0,none⟩),.pointer (some ⟨r,0,none⟩)] w fun e w'=>e=.returned (.tuple #[])/\Hp B w0 w' (L++Fr):=by
 apply gBelow1.ok;unfold gBelow1.vc
 intro y z j
 have c:=au (H.nw j)
 have n:=p.none g
 have d:∀{a:Asn}{L Fr:List Asn},a∈Fr->a∈L++Fr:=fun h=>mem_append_right _ h
 have f:∀{a:Asn}{Fr:List Asn},a∈treL b mb root next ws->a∈L++Fr:=fun h=>mem_append_left _ (s _ h)
 refine⟨_,AA rfl (c.ld (o:=0) (cs:=[.pointer (some ⟨b,0,none⟩)]) EQ4 nPT (d (.tail _ t)) rfl),AA rfl ⟨some mb,c.ld (o:=0) (cs:=treC mb root next) EQ4 nMN (f (.head _)) rfl,i,AA rfl (c.ld (o:=0) (cs:=[.int .i64 i]) EQ4 yInt (d (.tail _ u)) rfl),?_⟩⟩
 refine⟨none,false,c.Lm Dy EQ4 (f (.tail _ (.head _))) (by rw[n];rfl) (by rw[n];rfl),DR (x:=_) ⟨_,rfl,rfl,?_⟩⟩
 exact(MG c).drop.go EQ4
theorem IL{g:Int×Int->World->(World->(World->Prop)->Prop)->(World->Prop)->(World->Prop)->(Nat->World->Prop)->Prop}{Qn Qr:Nat->World->Prop}{Qx:Nat->Nat->World->Prop}
  (M:(ids F).Nodup) (hw:Nu F ws) (ad:(ids F).length<=1000) (i:Int) (Q R S:Nat) (G:Nat->List Asn->Prop) (J:List Asn->Prop) (d Fr:List Asn) (w:World)
  (hT:∀j L,G j L->∀a∈treL b mb root next ws,a∈L)
  (m0:Asn.blk Q [.pointer (some ⟨b,0,none⟩)] 49∈Fr) (m1:Asn.blk R [.int .i64 i] 3∈Fr) (m2:Asn.blk S [.int .i64 0] 3∈Fr)
  (X:G 0 d) (H:Hp B w0 w (d++Fr))
  (p:∀(j:Nat)(r:Rw),(BJ F i)[j]? =some r->∀(w':World)(T0 Y L:List Asn)(m:World->(World->Prop)->Prop)(kn kr:World->Prop)(kx:Nat->World->Prop),G j L->Hp B w0 w' (L++T0)->
   (∀Z:World->Prop,(∀w2,Hp B w0 w2 (L++Y)->Z w2)->m w' Z)->(∀A t,G (j+1) t->Hp B w0 A (t++Y)->kn A)->(∀A t,J t->Hp B w0 A (t++Y)->kr A)->g (r.id,r.level) w' m kn kr kx)
  (y:∀D w' L,G (BJ F i).length L->Hp B w0 w' (dA D::(L++Fr))->Qn D w')
  (N:∀D w' L,J L->Hp B w0 w' (dA D::(L++Fr))->Qr D w'):
  Ej Tryz.prog 137 [] [.pointer (some ⟨Q,0,none⟩),.pointer (some ⟨R,0,none⟩),.pointer (some ⟨S,0,none⟩)] (fun s:Int×Int=>[.int .i64 s.1,.int .i64 s.2]) g w Qn Qr Qx:=by
 refine⟨fun D l wa wb f hD hl aa=>?_⟩;have H2:=(H.newO EQ4 hD).newO EQ4 hl
 have H3:Hp B w0 wb ((objA l (f .ready none)::d)++(dA D::Fr)):=by
  refine H2.perm (List.Perm.cons _ ?_);exact List.perm_middle.symm
 have out:∀{o:Obj}{T:World}{C:List Asn}(o':Obj),Hp B w0 T ((objA l o::C)++(dA D::Fr))->Hp B w0 (T.putObj l o') (dA D::(C++Fr)):=by
  intro o T C o' n;have E:=(n.putO (o':=o')).drop;exact E.perm perm_middle
 cases hlk:AX F 0 i with
 |none=>
  have u:BJ F i=[]:=by rw[BJ,hlk]
  refine AC (below1_none b mb root next ws F hw i 0 l Q R S (dA D::Fr) (objA l (f .ready none)::d) wb hlk (fun a ha=>.tail _ (hT 0 d X a ha)) (.tail _ m0) (.tail _ m1) H3) ?_;rintro e w2 ⟨rfl,H4⟩;exact⟨_,rfl,.inl ⟨H4.obj (.head _),y D _ d (by rw[u];exact X) (out _ H4)⟩⟩
 |some z=>
  obtain⟨q,x,k⟩:=z
  have u:BJ F i=flat (.cons i x k .nil) 0:=by rw[BJ,hlk]
  have ab:(BJ F i).length=0+1+(ids k).length:=by rw[u,flat,flat,append_nil,length_cons,BI];omega
  obtain⟨Aq,Bq,vq,O⟩:=Bg F 0 i 0 M hlk
  have ae:(ids k).length<=(ids F).length:=by rw[O.ids];simp;omega
  refine AC (below1 b mb root next ws F M hw ((ids k).length+1) i q x k 0 0 l (fun j L=>∃d,G j d/\L=objA l (f .ready none)::d) (fun L=>∃d,J d/\L=objA l (f .done (some .ret))::d) Q R S (dA D::Fr) _ wb (by omega) hlk (by omega) (by omega) ?_ ?_ (.tail _ m0) (.tail _ m1) (.tail _ m2) ⟨d,X,rfl⟩ H3) ?_
  ·rintro j _ ⟨L1,U,rfl⟩ a ha
   exact .tail _ (hT j L1 U a ha)
  ·rintro j r hr I _ w5 ⟨L1,U,rfl⟩ H5
   rw[Nat.zero_add]at U⊢;have c:w5.heap[l]? =some (f .ready none):=H5.obj (.head _);refine aa (r.id,r.level) w5 _ ?_ c;have P:∀{o:Obj}{W:World}{L:List Asn},Hp B w0 W ((objA l o::L)++I)->Hp B w0 W (L++(objA l o::I)):=fun h=>h.perm List.perm_middle.symm;refine p j r (by rw[u];exact hr) w5 _ (objA l (f .busy none)::I) L1 _ _ _ _ U (P H5) ?_ ?_ ?_
   ·intro Z ac
    exact⟨c,ac _ (P H5.putO)⟩
   ·intro A t K n
    have E:=MG n;exact⟨E.obj (.head _),.inl ⟨rfl,_,⟨t,K,rfl⟩,E.putO⟩⟩
   ·intro A t K n
    have E:=MG n;exact⟨E.obj (.head _),.inr ⟨rfl,_,⟨t,K,rfl⟩,E.putO⟩⟩
  ·rintro e T ⟨rfl,⟨_,⟨C,K,rfl⟩,n⟩|⟨_,⟨C,K,rfl⟩,n⟩⟩
   ·exact⟨_,rfl,.inl ⟨n.obj (.head _),y D _ C (by rw[ab];exact K) (out _ n)⟩⟩
   ·exact⟨_,rfl,.inr (.inl ⟨n.obj (.head _),N D _ C K (out _ n)⟩)⟩
end
theorem U0{F:Fo}{T:Tr}(G:BM F T):BJ F (AZ F)=T.L:=by
 rw[<- G.fl];rcases G.one with rfl|⟨i,x,k,rfl,_⟩
 ·rfl
 ·rw[AZ,BJ,AX,if_pos rfl]
section
variable{b mb:Nat}{root next:Int}{F:Fo}{ws:List (NW×En)}{w:World}
theorem gOrder_w(d:(ids F).Nodup)(f:(ids F).length<=1000)(K:CY F ws)(M:Std w (treL b mb root next ws)):
  Calls Tryz.prog 28 #[.pointer (some ⟨b,0,none⟩)] w fun e w'=>∃a c,e=.returned (.slice a (BJ F root).length c)/\Hp (feet (treL b mb root next ws)) w w' (.own 3 1 a (BJ F root).length c (AO ((BJ F root).map (·.id)))::treL b mb root next ws):=by
 apply gOrder.ok;unfold gOrder.vc;intro l N m;have H:=(Hp.Bv M).nw m;refine AA rfl ⟨root,by rw[add_lit];exact H.lo yInt,AC (GI b root 0 N) ?_⟩;rintro _ O ⟨n,o,p,rfl,Q⟩;replace H:=H.ext Q;refine⟨_,rfl,137,#[],_,rfl,⟨_,_,Tryz.func137,rfl⟩,?_⟩
 refine IL (B:=feet (treL b mb root next ws)) (w0:=w) b mb root next ws F d (K.v d) f root n o p
  (fun j L=>∃a c,L=.blk l [.slice a j c] 59::.own 3 1 a j c (AO (((BJ F root).take j).map (·.id)))::treL b mb root next ws) (fun _=>False)
  (.blk l [.slice none 0 0] 59::.own 3 1 none 0 0 []::treL b mb root next ws) [.blk p [.int .i64 0] 3,.blk o [.int .i64 root] 3,.blk n [.pointer (some ⟨b,0,none⟩)] 49] O
  ?_ m2 m1 (.head _) ⟨none,0,rfl⟩ ?_ ?_ ?_ (fun _ _ _ h=>h.elim)
 ·rintro j _ ⟨a,c,rfl⟩ x R
  exact .tail _ (.tail _ R)
 ·have S:=H.nilS 3 1
  refine S.perm ?_;refine List.Perm.trans ?_ perm_append_comm;exact(perm_middle (l₁:=[Asn.blk p [.int .i64 0] 3,Asn.blk o [.int .i64 root] 3,Asn.blk n [.pointer (some ⟨b,0,none⟩)] 49,Asn.blk l [.slice none 0 0] 59])).symm
 ·rintro j r E T T0 T1 _ s kn kr kx ⟨a,c,rfl⟩ t U u _
  refine U _ fun X g=>?_;have y:=(List.getElem?_eq_some_iff.1 E).1
  have z:(BJ F root).length<=1000:=by
   have:((BJ F root).map (·.id)).length<=(ids F).length:=by
    rw[BJ];split
    ·rename_i q x k A
     obtain⟨Aq,Bq,vq,i⟩:=Bg F 0 root 0 d A;rw[BD,i.ids,ids,ids];simp;omega
    ·simp
   rw[length_map]at this;omega
  refine⟨a,j,c,g.lo nSI,?_⟩;intro b2 w5 C;have G:=g.nw C;have Y:=G.BA;refine Hp.app Ll (by omega) Y EQ4 (Blk.src (P:=Tryz.prog) LZ (G.blk (.head _)) rfl rfl) (by simp only[maxLen];omega) (by omega) ?_;intro I J w6 Z;have H8:=Z.BA;refine Hp.s1 H8 nSI (cs':=[.slice I (j+1) J]) fun w7 H9=>?_;refine u w7 _ ⟨I,J,rfl⟩ ?_
  have e:AO (((BJ F root).take (j+1)).map (·.id))=AO (((BJ F root).take j).map (·.id))++[.int .i64 r.id]:=by
   rw[take_succ_eq_append_getElem y,(List.getElem?_eq_some_iff.1 E).2];simp[AO]
  rw[e];exact H9.del2
 ·rintro D T _ ⟨a,c,rfl⟩ t
  refine⟨a,_,c,t.lo nSI,t.shut fun X g=>⟨a,c,rfl,?_⟩⟩;rw[take_length]at g;exact g.drop.BN
end
end
end Go.Proofs.YtljenkbpnioipaaGreat
namespace Go.Nod
theorem Rt:∀(F:Fo)(p l:Int)(r:Rw),(ids F).Nodup->r∈flat F l->∃q k,AX F p r.id=some (q,r.x,k)
 |.nil,p,l,r,_,h=>by cases h
 |.cons j y kk s,p,l,r,hn,h=>by
  rw[ids,nodup_cons,nodup_append]at hn;obtain⟨c,f,g,i⟩:=hn;rw[flat]at h;rw[AX];rcases mem_cons.1 h with rfl|h
  ·exact⟨p,kk,by rw[if_pos rfl]⟩
  ·rcases mem_append.1 h with h|h
   ·obtain⟨q,k,m⟩:=Rt kk j (l+1) r f h
    have d:r.id∈ids kk:=by rw[<- BD kk (l+1)];exact mem_map.2 ⟨r,h,rfl⟩
    have a:¬j=r.id:=fun e=>c (mem_append_left _ (e▸d));exact⟨q,k,by rw[if_neg a,m]⟩
   ·obtain⟨q,k,m⟩:=Rt s p l r g h
    have d:r.id∈ids s:=by rw[<- BD s l];exact mem_map.2 ⟨r,h,rfl⟩
    have a:¬j=r.id:=fun e=>c (mem_append_right _ (e▸d))
    have n:AX kk j r.id=none:=by
     cases h9:AX kk j r.id with
     |none=>rfl
     |some o=>exact(i _ ((Au kk j r.id).1 (by rw[h9];simp)) _ d rfl).elim
    exact⟨q,k,by rw[if_neg a,n];exact m⟩
end Go.Nod
namespace Go.Proofs.YtljenkbpnioipaaGreat
noncomputable section
open Go Go.Vc Go.Nod
def Be(l:List It)(ss:List Sl3):List Asn:=List.zipWith (fun x s=>Asn.own 142 2 s.1 x.x.attrs.length s.2.2 (atC x.x.attrs)) l ss
structure SlOk(l:List It)(ss:List Sl3):Prop where
 len:ss.length=l.length
 att:∀(k:Nat)(x:It)(s:Sl3),l[k]? =some x->ss[k]? =some s->s.2.1=x.x.attrs.length
theorem SlOk.snoc{l:List It}{ss:List Sl3}(h:SlOk l ss){x:It}{s:Sl3}(g:s.2.1=x.x.attrs.length):SlOk (l++[x]) (ss++[s]):=by
 have d:=h.len;refine⟨by simp[d],fun k y t a c=>?_⟩;by_cases e:k<l.length
 ·rw[List.getElem?_append_left e]at a
  rw[List.getElem?_append_left (by omega)]at c;exact h.att k y t a c
 ·rw[List.getElem?_append_right (by omega)]at a c
  have f:k-l.length=0:=by
   have:=(List.getElem?_eq_some_iff.1 a).1;simp at this;omega
  rw[f]at a;rw[d,f]at c;cases a;cases c;exact g
theorem UT{l:List It}{ss:List Sl3}(h:ss.length=l.length)(x:It)(s:Sl3):itsC (l++[x]) (ss++[s])=itsC l ss++itC x s:=by
 rw[itsC,itsC,List.zipWith_append h.symm];simp
theorem Tf{l:List It}{ss:List Sl3}(h:ss.length=l.length)(x:It)(s:Sl3):Be (l++[x]) (ss++[s])=Be l ss++[.own 142 2 s.1 x.x.attrs.length s.2.2 (atC x.x.attrs)]:=by
 rw[Be,Be,List.zipWith_append h.symm];rfl
theorem Ze{w:World}{a:Option Addr}{n c:Nat}{l:List It}{ss:List Sl3}(ho:Own w 0 123 5 a n c (itsC l ss))(d:SlOk l ss)(hn:n=l.length)(g:∀x∈Be l ss,x.ok w):ItR w a n l ss:=by
 refine⟨hn,d.len,ho.cells,fun k x s e f=>⟨d.att k x s e f,?_⟩⟩
 have h:Asn.own 142 2 s.1 x.x.attrs.length s.2.2 (atC x.x.attrs)∈Be l ss:=by
  refine mem_of_getElem? (i:=k) ?_;rw[Be,List.getElem?_zipWith,e,f]
 exact Own.cells (show Own w 0 _ _ _ _ _ _ from g _ h)
section
variable{b mb:Nat}{root next:Int}{F:Fo}{ws:List (NW×En)}{w:World}
theorem PE(c:(ids F).Nodup)(i:Int):(BJ F i).length<=(ids F).length:=by
 have:((BJ F i).map (·.id)).length<=(ids F).length:=by
  rw[BJ];split
  ·rename_i q x k d
   obtain⟨e,f,g,a⟩:=Bg F 0 i 0 c d;rw[BD,a.ids,ids,ids];simp;omega
  ·simp
 rwa [length_map]at this
theorem rowsB_look(a:(ids F).Nodup)(i:Int){r:Rw}(c:r∈BJ F i):∃q k,AX F 0 r.id=some (q,r.x,k):=by
 rw[BJ]at c;split at c
 ·rename_i q x k d
  rw[flat,flat,append_nil]at c;rcases mem_cons.1 c with rfl|c
  ·exact⟨q,k,d⟩
  ·obtain⟨l,m,n,e⟩:=Bg F 0 i 0 a d
   have f:(ids k).Nodup:=by
    have:=a;rw[e.ids,nodup_append,nodup_cons,nodup_append]at this;exact this.2.1.2.1
   obtain⟨g,h,j⟩:=Rt k i 1 r f c;exact⟨g,h,look_in F 0 i r.id a d j⟩
 ·cases c
def AY(r:Rw):It:=⟨r.level,r.x⟩
theorem gItems_w(f:(ids F).Nodup)(I:(ids F).length<=1000)(J:∀p∈ws,p.2.x.attrs.length<=1000)(hw:CY F ws)(i:Int)(hs:Std w (treL b mb root next ws)):
  Calls Tryz.prog 32 #[.pointer (some ⟨b,0,none⟩),.int .i64 i] w fun e w'=>∃a c ss,e=.returned (.slice a (BJ F i).length c)/\SlOk ((BJ F i).map AY) ss/\
   Hp (feet (treL b mb root next ws)) w w' (.own 123 5 a (BJ F i).length c (itsC ((BJ F i).map AY) ss)::(Be ((BJ F i).map AY) ss++treL b mb root next ws)):=by
 apply gItems.ok;unfold gItems.vc;intro X an K;have H0:=(Hp.Bv hs).nw K;intro T w1 M;have H:=H0.nw M;clear H0 K M;refine⟨_,H.lo nPT,AC (GI b i 0 w1) ?_⟩;rintro _ w2 ⟨Y,Z,f2,rfl,Hb⟩;replace H:=H.ext Hb;have ao:=PE f i;refine⟨_,rfl,137,#[],_,rfl,⟨_,_,Tryz.func137,rfl⟩,?_⟩
 refine IL (B:=feet (treL b mb root next ws)) (w0:=w) b mb root next ws F f (hw.v f) I i Y Z f2
  (fun j L=>∃a c ss,SlOk (((BJ F i).map AY).take j) ss/\L=.blk T [.slice a j c] 34::.own 123 5 a j c (itsC (((BJ F i).map AY).take j) ss)::.blk X [.pointer (some ⟨b,0,none⟩)] 49::(Be (((BJ F i).map AY).take j) ss++treL b mb root next ws)) (fun _=>False)
  (.blk T [.slice none 0 0] 34::.own 123 5 none 0 0 []::.blk X [.pointer (some ⟨b,0,none⟩)] 49::treL b mb root next ws) [.blk f2 [.int .i64 0] 3,.blk Z [.int .i64 i] 3,.blk Y [.pointer (some ⟨b,0,none⟩)] 49] w2
  ?_ m2 m1 (.head _) ⟨none,0,[],⟨rfl,by simp⟩,rfl⟩ ?_ ?_ ?_ (fun _ _ _ h=>h.elim)
 ·rintro j _ ⟨a,c,ss,_,rfl⟩ x hx
  exact .tail _ (.tail _ (.tail _ (mem_append_right _ hx)))
 ·have H2:=H.nilS 123 5
  refine H2.perm ?_;refine List.Perm.trans ?_ perm_append_comm;exact(perm_middle (l₁:=[Asn.blk f2 [.int .i64 0] 3,Asn.blk Z [.int .i64 i] 3,Asn.blk Y [.pointer (some ⟨b,0,none⟩)] 49,Asn.blk T [.slice none 0 0] 34])).symm
 ·rintro j r hr w3 T0 T1 _ ab kn kr kx ⟨a,c,ss,d,rfl⟩ U hb ad _
  refine hb _ fun N u=>?_;have ae:=(List.getElem?_eq_some_iff.1 hr).1;obtain⟨q,k,af⟩:=rowsB_look f i (mem_of_getElem? hr);obtain⟨A,y,Bw,ag,ha⟩:=hw.at_ f af
  have O:(y,(⟨r.id,q,r.x,tops k⟩:En))∈ws:=by rw[ag];simp
  have ah:=J _ O
  have l:∀{x:Asn},x∈treL b mb root next ws->x∈(Asn.blk T [.slice a j c] 34::.own 123 5 a j c (itsC (((BJ F i).map AY).take j) ss)::.blk X [.pointer (some ⟨b,0,none⟩)] 49::(Be (((BJ F i).map AY).take j) ss++treL b mb root next ws))++T1:=fun h=>mem_append_left _ (.tail _ (.tail _ (.tail _ (mem_append_right _ h))))
  have m:∀x∈nodL (y,(⟨r.id,q,r.x,tops k⟩:En)),x∈treL b mb root next ws:=fun x hx=>Di O hx
  have z:∀{W:World}{o:Nat}{v:Value}{t:TypeId},Eqw N W->Scl Tryz.prog t->(nodC y ⟨r.id,q,r.x,tops k⟩)[o]? =some v->Ld Tryz.prog t W ⟨y.b,o,none⟩ v:=fun he S hv=>u.ld (cs:=nodC y ⟨r.id,q,r.x,tops k⟩) he S (l (m _ (.head _))) hv;refine⟨_,u.lo nPT,AA rfl ⟨some mb,u.ld (o:=0) (cs:=treC mb root next) EQ4 nMN (l (.head _)) rfl,some ⟨y.b,0,none⟩,u.lkI Dy EQ4 (l m1) (by rw[ha];rfl),a,j,c,u.lo nSIt,?_⟩⟩;refine AA rfl ⟨r.x.kind,by rw[add_lit];exact z EQ4 yInt rfl,AA rfl ⟨r.x.name,by rw[add_lit];exact z EQ4 yStr rfl,AA rfl ⟨r.x.text,by rw[add_lit];exact z EQ4 yStr rfl,AA rfl ⟨y.aa,r.x.attrs.length,y.ac,by rw[add_lit];exact z EQ4 iSAt rfl,?_⟩⟩⟩⟩;have E:=u.ownA (a:=y.aa) (n:=r.x.attrs.length) (c:=y.ac) (xs:=atC r.x.attrs) (l (m _ m1));have G:Cells N.drew y.aa (atC r.x.attrs):=E.cells
  refine AC (Fz y.aa r.x.attrs.length y.ac (atC r.x.attrs) N.drew G (Ky _) (Kz _) (fun e=>by
   rcases E.2 with⟨_,h0,_⟩|⟨g,_,_,hg,_⟩
   ·exact h0
   ·rw[e]at hg;cases hg) (by dsimp only at ah;omega)) ?_
  rintro _ w5 ⟨Q,R,rfl,Hc⟩;have H5:=(u.go (w':=N.drew) EQ4).ext1 Hc;have s:∀{o:Nat}{v:Value}{t:TypeId},Scl Tryz.prog t->(nodC y ⟨r.id,q,r.x,tops k⟩)[o]? =some v->Ld Tryz.prog t w5 ⟨y.b,o,none⟩ v:=fun S hv=>H5.ld (cs:=nodC y ⟨r.id,q,r.x,tops k⟩) EQ4 S (.tail _ (l (m _ (.head _)))) hv;refine⟨Q,_,R,rfl,by rw[add_lit];exact s yStr rfl,by rw[add_lit];exact s yStr rfl,by rw[add_lit];exact s yInt rfl,H5.lo nSIt,?_⟩;intro b2 w6 ak;have H6:=H5.new (cs:=itC (AY r) (Q,r.x.attrs.length,R)) EQ4 ak;refine⟨H6.lo nSIt,?_⟩
  have al:(((BJ F i).map AY).take j).length=j:=by rw[length_take,length_map];omega
  have H7:=H6.D7;refine Hp.app Zx (by omega) H7 EQ4 (Blk.src (P:=Tryz.prog) aU (H6.blk (.head _)) rfl rfl) (by simp only[maxLen];omega) (by omega) ?_;intro a2 c2 w7 H8;have H9:=H8.D7;refine Hp.s1 H9 nSIt (cs':=[.slice a2 (j+1) c2]) fun w8 am=>?_
  have C:((BJ F i).map AY).take (j+1)=((BJ F i).map AY).take j++[AY r]:=by
   rw[take_succ_eq_append_getElem (by rw[length_map];exact ae),List.getElem_map,(List.getElem?_eq_some_iff.1 hr).2]
  refine ad w8 _ ⟨a2,c2,ss++[(Q,r.x.attrs.length,R)],?_,rfl⟩ ?_
  ·rw[C];exact d.snoc rfl
  ·rw[C,UT d.len,Tf d.len]
   refine am.del2.perm (List.Perm.cons _ (List.Perm.cons _ ?_));refine(List.Perm.swap _ _ _).trans (List.Perm.cons _ ?_);show(Asn.own 142 2 Q r.x.attrs.length R (atC r.x.attrs)::((Be (((BJ F i).map AY).take j) ss++treL b mb root next ws)++T1)).Perm (((Be (((BJ F i).map AY).take j) ss++[Asn.own 142 2 Q r.x.attrs.length R (atC r.x.attrs)])++treL b mb root next ws)++T1);rw[append_assoc,append_assoc,append_assoc];exact List.perm_middle.symm
 ·rintro D w3 _ ⟨a,c,ss,d,rfl⟩ U
  have C:((BJ F i).map AY).take (BJ F i).length=(BJ F i).map AY:=take_of_length_le (by rw[length_map];exact Nat.le_refl _);rw[C]at d U;refine⟨a,_,c,U.lo nSIt,U.shut fun N u=>⟨a,c,ss,rfl,d,?_⟩⟩;exact(u.BN).drop.drop1
end
end
end Go.Proofs.YtljenkbpnioipaaGreat
namespace Go.Nod
def Ae:Fo->List Int
 |.nil=>[]
 |.cons i _ k .nil=>i::Ae k
 |.cons _ _ _ (.cons j y k s)=>Ae (.cons j y k s)
def snoc:Nat->Int->NX->Fo->Fo
 |_,i,x,.nil=>.cons i x .nil .nil
 |0,i,x,.cons j y k .nil=>.cons j y k (.cons i x .nil .nil)
 |d+1,i,x,.cons j y k .nil=>.cons j y (snoc d i x k) .nil
 |d,i,x,.cons j y k (.cons j2 y2 k2 s2)=>.cons j y k (snoc d i x (.cons j2 y2 k2 s2))
theorem LU:∀(d:Nat)(i:Int)(x:NX)(F:Fo)(l:Int),d<=(Ae F).length->flat (snoc d i x F) l=flat F l++[⟨i,l+d,x⟩]
 |d,i,x,.nil,l,h=>by
  have:d=0:=by simpa [Ae]using h
  subst this;simp[snoc,flat]
 |0,i,x,.cons j y k .nil,l,h=>by simp[snoc,flat]
 |d+1,i,x,.cons j y k .nil,l,h=>by
  have a:=LU d i x k (l+1) (by simpa [Ae]using h)
  have:l+1+(d:Int)=l+((d+1:Nat):Int):=by omega
  rw[this]at a
  have c:∀(b:Fo),flat (.cons j y b .nil) l=⟨j,l,y⟩::flat b (l+1):=fun b=>by simp[flat]
  rw[snoc,c,c,a];rfl
 |0,i,x,.cons j y k (.cons j2 y2 k2 s2),l,h=>by
  have a:=LU 0 i x (.cons j2 y2 k2 s2) l (Nat.zero_le _);rw[snoc];show(⟨j,l,y⟩::flat k (l+1))++flat (snoc 0 i x (.cons j2 y2 k2 s2)) l=((⟨j,l,y⟩::flat k (l+1))++flat (.cons j2 y2 k2 s2) l)++_;rw[a,append_assoc]
 |d+1,i,x,.cons j y k (.cons j2 y2 k2 s2),l,h=>by
  have a:=LU (d+1) i x (.cons j2 y2 k2 s2) l (by simpa [Ae]using h);rw[snoc];show(⟨j,l,y⟩::flat k (l+1))++flat (snoc (d+1) i x (.cons j2 y2 k2 s2)) l=((⟨j,l,y⟩::flat k (l+1))++flat (.cons j2 y2 k2 s2) l)++_;rw[a,append_assoc]
theorem Yl(d:Nat)(i:Int)(x:NX)(F:Fo):∃j y k s,snoc d i x F=.cons j y k s:=by
 cases F with
 |nil=>exact⟨_,_,_,_,by rw[snoc]⟩
 |cons j y k s=>
  cases s with
  |nil=>cases d with
   |zero=>exact⟨_,_,_,_,by rw[snoc]⟩
   |succ d=>exact⟨_,_,_,_,by rw[snoc]⟩
  |cons a b c e=>cases d with
   |zero=>exact⟨_,_,_,_,by rw[snoc]⟩
   |succ d=>exact⟨_,_,_,_,by rw[snoc]⟩
theorem PU{j:Int}{y:NX}{k s:Fo}(h:∃j y k t,s=.cons j y k t):Ae (.cons j y k s)=Ae s:=by
 obtain⟨_,_,_,_,rfl⟩:=h;rw[Ae]
theorem Eo:∀(d:Nat)(i:Int)(x:NX)(F:Fo),d<=(Ae F).length->Ae (snoc d i x F)=(Ae F).take d++[i]
 |d,i,x,.nil,h=>by
  have:d=0:=by simpa [Ae]using h
  subst this;simp[snoc,Ae]
 |0,i,x,.cons j y k .nil,h=>by simp[snoc,Ae]
 |d+1,i,x,.cons j y k .nil,h=>by
  have a:=Eo d i x k (by simpa [Ae]using h);rw[snoc,Ae,a,Ae,take_succ_cons,cons_append]
 |0,i,x,.cons j y k (.cons j2 y2 k2 s2),h=>by
  have a:=Eo 0 i x (.cons j2 y2 k2 s2) (Nat.zero_le _);rw[snoc,PU (Yl ..),a,Ae]
 |d+1,i,x,.cons j y k (.cons j2 y2 k2 s2),h=>by
  have a:=Eo (d+1) i x (.cons j2 y2 k2 s2) (by simpa [Ae]using h);rw[snoc,PU (Yl ..),a,Ae]
theorem JU:∀(i:Int)(x:NX)(F:Fo),tops (snoc 0 i x F)=tops F++[i]
 |i,x,.nil=>by simp[snoc,tops]
 |i,x,.cons j y k .nil=>by simp[snoc,tops]
 |i,x,.cons j y k (.cons j2 y2 k2 s2)=>by
  have a:=JU i x (.cons j2 y2 k2 s2);rw[snoc,tops,a,tops];rfl
theorem Jc:∀(d:Nat)(i:Int)(x:NX)(F:Fo),d+1<=(Ae F).length->tops (snoc (d+1) i x F)=tops F
 |d,i,x,.nil,h=>by simp[Ae]at h
 |d,i,x,.cons j y k .nil,h=>by simp[snoc,tops]
 |d,i,x,.cons j y k (.cons j2 y2 k2 s2),h=>by
  have a:=Jc d i x (.cons j2 y2 k2 s2) (by simpa [Ae]using h);rw[snoc,tops,a];simp[tops]
theorem MS:∀(i:Int)(x:NX)(F:Fo)(p:Int),(ents (snoc 0 i x F) p).Perm (⟨i,p,x,[]⟩::ents F p)
 |i,x,.nil,p=>by simp[snoc,ents,tops]
 |i,x,.cons j y k .nil,p=>by
  have a:ents (snoc 0 i x (.cons j y k .nil)) p=(⟨j,p,y,tops k⟩::ents k j)++[⟨i,p,x,[]⟩]:=by simp[snoc,ents,tops]
  have b:ents (.cons j y k .nil) p=(⟨j,p,y,tops k⟩::ents k j):=by simp[ents]
  rw[a,b];exact perm_append_comm
 |i,x,.cons j y k (.cons j2 y2 k2 s2),p=>by
  have c:=MS i x (.cons j2 y2 k2 s2) p
  have a:ents (snoc 0 i x (.cons j y k (.cons j2 y2 k2 s2))) p=(⟨j,p,y,tops k⟩::ents k j)++ents (snoc 0 i x (.cons j2 y2 k2 s2)) p:=by rw[snoc,ents];rfl
  have b:ents (.cons j y k (.cons j2 y2 k2 s2)) p=(⟨j,p,y,tops k⟩::ents k j)++ents (.cons j2 y2 k2 s2) p:=by rw[ents];rfl
  rw[a,b];exact(c.append_left _).trans perm_middle
theorem MK:∀(d:Nat)(i:Int)(x:NX)(F:Fo)(p:Int),d+1<=(Ae F).length->
  ∃(e:En)(R:List En),(Ae F)[d]? =some e.id/\(ents F p).Perm (e::R)/\(ents (snoc (d+1) i x F) p).Perm (⟨i,e.id,x,[]⟩:: {e with kids:=e.kids++[i]}::R)
 |d,i,x,.nil,p,h=>by simp[Ae]at h
 |0,i,x,.cons j y k .nil,p,h=>by
  refine⟨⟨j,p,y,tops k⟩,ents k j,by simp[Ae],by simp[ents],?_⟩
  have a:ents (snoc (0+1) i x (.cons j y k .nil)) p=⟨j,p,y,tops k++[i]⟩::ents (snoc 0 i x k) j:=by
   rw[snoc,ents,JU,ents,append_nil]
  rw[a];exact((MS i x k j).cons _).trans (.swap _ _ _)
 |d+1,i,x,.cons j y k .nil,p,h=>by
  obtain⟨e,R,b,c,f⟩:=MK d i x k j (by simpa [Ae]using h);refine⟨e,⟨j,p,y,tops k⟩::R,by simpa [Ae]using b,?_,?_⟩
  ·have g:ents (.cons j y k .nil) p=⟨j,p,y,tops k⟩::ents k j:=by rw[ents,ents,append_nil]
   rw[g];exact(c.cons _).trans (.swap _ _ _)
  ·have a:ents (snoc (d+1+1) i x (.cons j y k .nil)) p=⟨j,p,y,tops k⟩::ents (snoc (d+1) i x k) j:=by
    rw[snoc,ents,Jc d i x k (by simpa [Ae]using h),ents,append_nil]
   rw[a];refine(f.cons _).trans ((List.Perm.swap _ _ _).trans (List.Perm.cons _ (.swap _ _ _)))
 |d,i,x,.cons j y k (.cons j2 y2 k2 s2),p,h=>by
  obtain⟨e,R,b,c,f⟩:=MK d i x (.cons j2 y2 k2 s2) p (by simpa [Ae]using h);refine⟨e,(⟨j,p,y,tops k⟩::ents k j)++R,by simpa [Ae]using b,?_,?_⟩
  ·have g:ents (.cons j y k (.cons j2 y2 k2 s2)) p=(⟨j,p,y,tops k⟩::ents k j)++ents (.cons j2 y2 k2 s2) p:=by rw[ents];rfl
   rw[g];exact(c.append_left _).trans perm_middle
  ·have a:ents (snoc (d+1) i x (.cons j y k (.cons j2 y2 k2 s2))) p=(⟨j,p,y,tops k⟩::ents k j)++ents (snoc (d+1) i x (.cons j2 y2 k2 s2)) p:=by rw[snoc,ents];rfl
   rw[a];refine(f.append_left _).trans ?_;refine List.perm_middle.trans (List.Perm.cons _ perm_middle)
def Jm(zs:List Int)(l:List It):List Rw:=List.zipWith (fun z x=>⟨z,x.level,x.x⟩) zs l
theorem rowsZ_snoc{a:List Int}{l:List It}{k:Nat}{z:Int}{x:It}(b:a[k]? =some z)(c:l[k]? =some x):Jm (a.take (k+1)) (l.take (k+1))=Jm (a.take k) (l.take k)++[⟨z,x.level,x.x⟩]:=by
 have d:=(List.getElem?_eq_some_iff.1 b).1;have e:=(List.getElem?_eq_some_iff.1 c).1;rw[take_succ_eq_append_getElem d,take_succ_eq_append_getElem e,(List.getElem?_eq_some_iff.1 b).2,(List.getElem?_eq_some_iff.1 c).2,Jm,Jm,List.zipWith_append (by rw[length_take,length_take];omega)];rfl
theorem UX{a:List Int}{l:List It}(h:a.length=l.length):(Jm a l).map (·.id)=a:=by
 induction a generalizing l with
 |nil=>rfl
 |cons z a b=>
  cases l with
  |nil=>cases h
  |cons x l=>
   have:=b (l:=l) (by simpa using h);simp only[Jm,List.zipWith_cons_cons,map_cons]at this⊢;rw[this]
theorem named_rowsZ(n:Int):∀(l:List It)(m:Int),Ar m 0 l=Jm ((List.range l.length).map fun(k:Nat)=>m+(k:Int)) l:=by
 intro l m;apply List.ext_getElem?;intro k;rw[EW,Jm,List.getElem?_zipWith,List.getElem?_map];by_cases h:k<l.length
 ·rw[List.getElem?_range h,List.getElem?_eq_getElem h]
  simp
 ·rw[List.getElem?_eq_none (by omega:l.length<=k),List.getElem?_eq_none (by rw[List.length_range];omega)]
  rfl
def YA(l:List It):Prop:=∀(k:Nat)(x:It),l[k]? =some x->0<=x.level/\(k=0->x.level=0)/\∀y,0<k->l[k-1]? =some y->x.level<=y.level+1
theorem YA.le{l:List It}(h:YA l):∀(k:Nat)(x:It),l[k]? =some x->x.level<=k:=by
 intro k
 induction k with
 |zero=>
  intro x a;have:=(h 0 x a).2.1 rfl;omega
 |succ k b=>
  intro x a;have d:=(List.getElem?_eq_some_iff.1 a).1;have c:=(h (k+1) x a).2.2 _ (by omega) (List.getElem?_eq_getElem (by omega:k+1-1<l.length));have e:=b _ (List.getElem?_eq_getElem (by omega));simp only[Nat.add_sub_cancel]at c;omega
def Dx(ks:List Int)(n:Nat)(ts:List Int):List Int:=ks.take n++(ts++ks.drop n)
theorem insAt_nil(a:List Int)(n:Nat):Dx a n []=a:=by rw[Dx,nil_append,take_append_drop]
theorem OZ(a:List Int)(n:Nat)(b:List Int):(Dx a n b).length=a.length+b.length:=by
 rw[Dx,length_append,length_append,length_take,length_drop];omega
theorem insAt_snoc(a:List Int)(n:Nat)(b:List Int)(z:Int)(hn:n<=a.length):(Dx a n b).take (n+b.length)++([z]++(Dx a n b).drop (n+b.length))=Dx a n (b++[z]):=by
 have c:(a.take n).length=n:=by rw[length_take];omega
 have e:Dx a n b=(a.take n++b)++a.drop n:=by rw[Dx];simp
 have d:(a.take n++b).length=n+b.length:=by rw[length_append,c]
 rw[e,<- d,List.take_left,List.drop_left,Dx];simp
theorem SH{n:Nat}{N k:Fo}(h:n<=(tops k).length):tops (putAt n N k)=Dx (tops k) n (tops N):=by
 rw[Xx n N k h,Dx];simp
end Go.Nod
namespace Go.Proofs.YtljenkbpnioipaaGreat
noncomputable section
open Go Go.Vc Go.Nod
theorem UW(w:World):Calls Tryz.prog 37 #[] w fun e w'=>∃b f,e=.returned (.pointer (some ⟨b,0,none⟩))/\Hp [] w w' [AU f b ⟨[],1⟩]:=by
 apply gNew.ok;unfold gNew.vc;intro mb i a;have H:=(Hp.start w).newI EQ4 .i64 a;intro b c d;replace H:=H.new (cs:=treC mb 0 1) EQ4 d;have g:Hp [] w c (treL b mb 0 1 []++[]):=H;obtain⟨f,h⟩:=g.Cm (Q:=Jn b ⟨[],1⟩) ⟨.nil,good_new,mb,[],List.Perm.refl _,rfl⟩;exact⟨b,f,rfl,h⟩
theorem KH{K:Type}[DecidableEq K]:∀(al:List (K×Value))(k:K)(v:Value),k∉al.map (·.1)->aput al k v=al++[(k,v)]
 | [],k,v,_=>rfl
 |(x,u)::r,k,v,h=>by
  rw[map_cons,mem_cons,not_or]at h;rw[aput,if_neg h.1,KH r k v h.2];rfl
section
variable{b mb:Nat}{root next:Int}{ws:List (NW×En)}{w:World}
theorem YK(l:Std w (treL b mb root next ws))(n:Nat)(hn:n<=2000)(u:0<=next)(h1:next+n<=2147483647):
  Calls Tryz.prog 64 #[.pointer (some ⟨b,0,none⟩),.int .i64 (n:Int)] w fun e w'=>∃a c,e=.returned (.slice a n c)/\
   Hp (feet (treL b mb root next ws)) w w' (.own 3 1 a n c (AO ((List.range n).map fun(k:Nat)=>next+(k:Int)))::treL b mb root (next+n) ws):=by
 apply gGiven.ok;unfold gGiven.vc;refine AP.mk (fun m s w'=>∃(k:Nat)(a:Option Addr)(c:Nat),m=n-k/\k<=n/\s=((a,k,c),(k:Int))/\Hp (feet (treL b mb root next ws)) w w' (.own 3 1 a k c (AO ((List.range k).map fun(j:Nat)=>next+(j:Int)))::treL b mb root (next+k) ws)) n ⟨0,none,0,rfl,by omega,rfl,?_⟩ ?_
 ·have H:=(Hp.Bv l).nilS 3 1
  rw[show next+((0:Nat):Int)=next by omega];exact H
 rintro m s x y ⟨k,a,c,rfl,z,rfl,H⟩ d;dsimp only;refine AB (fun h=>?_) (fun h=>?_)
 ·refine AA rfl ⟨next+k,by rw[add_lit];exact H.lo yInt,?_⟩
  intro A B f;have g:=H.nw f;refine Hp.app Ll (by omega) g.Af EQ4 (Blk.src (P:=Tryz.prog) LZ (g.blk (.head _)) rfl rfl) (by simp only[maxLen];omega) (by omega) ?_;intro p q C r;have i:=r.BA;refine AA rfl ⟨next+k,by rw[add_lit];exact i.lo yInt,iR,AA rfl ?_⟩;rw[add_lit];refine Hp.st (o:=2) i EQ4 yInt rfl rfl (by simp[treC]) (cs':=treC mb root (next+k+1)) rfl fun D t=>⟨iR,?_⟩;refine d (n-(k+1)) _ _ (by omega) ⟨k+1,p,q,rfl,by omega,rfl,?_⟩
  have e:AO ((List.range (k+1)).map fun(j:Nat)=>next+(j:Int))=AO ((List.range k).map fun(j:Nat)=>next+(j:Int))++[.int .i64 (next+(k:Int))]:=by
   rw[List.range_succ];simp[AO]
  rw[e,show next+((k+1:Nat):Int)=next+(k:Int)+1 by omega];exact(t.del2).Af
 ·have:k=n:=by omega
  subst this;exact⟨a,c,rfl,H⟩
end
theorem YH{A Bw:List (NW×En)}{y y' yn:NW}{e e' en:En}{R:List En}(h:((A++(y,e)::Bw).map (·.2)).Perm (e::R)):
  ((A++(y',e')::(Bw++[(yn,en)])).map (·.2)).Perm (en::e'::R):=by
 rw[map_append,map_cons]at h;have a:(A.map (·.2)++Bw.map (·.2)).Perm R:=(List.perm_middle.symm.trans h).cons_inv;rw[map_append,map_cons,map_append];refine List.perm_middle.trans ?_;refine(List.Perm.cons e' ?_).trans (.swap _ _ _);rw[<- append_assoc];refine List.perm_append_comm.trans ?_;exact List.Perm.cons en a
theorem JE(b mb:Nat)(root next:Int)(A:List (NW×En))(p:NW×En)(Bw:List (NW×En)):(treL b mb root next (A++p::Bw)).Perm (nodL p++(.blk b (treC mb root next) 119::.imap mb .i64 (nodM (A++p::Bw))::BR (A++Bw))):=by
 refine(List.Perm.cons _ (List.Perm.cons _ (nods_split A p Bw))).trans ?_;exact(perm_append_comm_assoc [_,_] (nodL p) (BR (A++Bw)))
theorem Ob:∀(F:Fo),∀i∈Ae F,i∈ids F
 |.nil,i,h=>by simp[Ae]at h
 |.cons j y k .nil,i,h=>by
  rw[Ae]at h;rw[ids];rcases mem_cons.1 h with rfl|h
  ·exact .head _
  ·exact .tail _ (mem_append_left _ (Ob k i h))
 |.cons j y k (.cons j2 y2 k2 s2),i,h=>by
  rw[Ae]at h;rw[ids];exact .tail _ (mem_append_right _ (Ob _ i h))
def VP(parent at0 root0:Int)(e0:En)(R0:List En)(N:Fo)(E:List En)(root:Int):Prop:=
 (parent=0/\E.Perm (ents N parent)/\root=AZ N)\/
 (parent≠0/\e0.id=parent/\root=root0/\E.Perm (ents N parent++ {e0 with kids:=Dx e0.kids at0.toNat (tops N)}::R0))
def IU(parent:Int)(e0:En)(R0:List En):List Int:=if parent=0 then []else e0.id::R0.map (·.id)
theorem VP.ids{parent c a:Int}{f:En}{g:List En}{N:Fo}{E:List En}{root:Int}(h:VP parent c a f g N E root):(E.map (·.id)).Perm (Nod.ids N++IU parent f g):=by
 rcases h with⟨d,e,_⟩|⟨d,_,_,e⟩
 ·rw[IU,if_pos d,append_nil]
  have:=e.map (·.id)
  rwa [Bi]at this
 ·rw[IU,if_neg d]
  have:=e.map (·.id);rw[map_append,Bi,map_cons]at this;exact this
structure W9(parent at0 root0:Int)(e0:En)(R0:List En)(zs:List Int)(l:List It)(k:Nat)(at':Int)(N:Fo)(E:List En)(root:Int):Prop where
 fl:flat N 0=Jm (zs.take k) (l.take k)
 nil:k=0->N=.nil
 deep:∀y,0<k->l[k-1]? =some y->((Ae N).length:Int)=y.level+1
 at_:at'=at0+(if parent=0 then 0 else((tops N).length:Int))
 ents:VP parent at0 root0 e0 R0 N E root
end
noncomputable section
open Go Go.Vc Go.Nod
theorem OG(A B:List (NW×En)):BR (A++B)=BR A++BR B:=by rw[BR,List.flatMap_append];rfl
theorem nodM_append(A B:List (NW×En)):nodM (A++B)=nodM A++nodM B:=by rw[nodM,map_append];rfl
theorem Ju{A Bw:List (NW×En)}{y y':NW}{e e':En}(a:y'.b=y.b)(c:e'.id=e.id):nodM (A++(y',e')::Bw)=nodM (A++(y,e)::Bw):=by
 simp[nodM,a,c]
theorem grow_step{parent c a:Int}{g:En}{i:List En}{j:List Int}{l:List It}{k:Nat}{m:Int}{N:Fo}{E:List En}{root:Int}(h:W9 parent c a g i j l k m N E root)
  {z:Int} {x:It} {d:Nat} (r:j[k]? =some z) (n:l[k]? =some x) (o:x.level=d) (e:d<=(Ae N).length) {f:Int} {p:List En} {b:Int}
  (s:f=c+(if parent=0 then 0 else((tops (snoc d z x.x N)).length:Int))) (t:VP parent c a g i (snoc d z x.x N) p b):W9 parent c a g i j l (k+1) f (snoc d z x.x N) p b:=by
 refine⟨?_,by omega,fun y _ q=>?_,s,t⟩
 ·rw[LU d z x.x N 0 e,h.fl,rowsZ_snoc r n,o,Int.zero_add]
 ·rw[Nat.add_sub_cancel,n]at q;cases q
  rw[Eo d z x.x N e,length_append,length_take,o,Nat.min_eq_left e]
  simp
theorem Gs:∀(F:Fo)(p:Int),∀e∈ents F p,e.kids.length<=(ids F).length
 |.nil,p,e,h=>by cases h
 |.cons i x k s,p,e,h=>by
  rw[ents]at h;rw[ids,length_cons,length_append];rcases mem_cons.1 h with rfl|h
  ·have:=Iy k
   show(tops k).length<=_;omega
  ·rcases mem_append.1 h with h|h
   ·have:=Gs k i e h;omega
   ·have:=Gs s p e h;omega
theorem WY{b mb:Nat}{i next:Int}{ap:List (NW×En)}{w:World}(hs:Std w (treL b mb i next ap))(parent I:Int)(la:Option Addr)(n lc:Nat)(l:List It)(ss:List Sl3)(za:Option Addr)(zc:Nat)(zs:List Int)
  (a6:∀W,Chg (feet (treL b mb i next ap)) w W->ItR W la n l ss) (cf:∀W,Chg (feet (treL b mb i next ap)) w W->Cells W za (AO zs)) (dw:zs.length=l.length) (c3:l≠[]) (hn:n<=2000) (c4:∀s∈ss,s.2.1<=1000)
  (a7:YA l) (cg:parent=0->∀(k:Nat)(x:It),0<k->l[k]? =some x->1<=x.level) (e0:En) (R0:List En)
  (hB:VP parent I i e0 R0 .nil (ap.map (·.2)) i) (K:(zs++IU parent e0 R0).Nodup) (c6:∀z∈zs,z≠0) (dx:0<=I/\I<=e0.kids.length) (dy:e0.kids.length<=2000):
  Calls Tryz.prog 63 #[.pointer (some ⟨b,0,none⟩),.int .i64 parent,.int .i64 I,.slice la n lc,.slice za n zc] w fun e w'=>
   ∃G N root a8,e=.returned (.int .i64 (zs.headD 0))/\W9 parent I i e0 R0 zs l n a8 N (G.map (·.2)) root/\Hp (feet (treL b mb i next ap)) w w' (treL b mb root next G):=by
 apply gGrow.ok;unfold gGrow.vc
 generalize c7:feet (treL b mb i next ap)=BB at*
 have ch:Hp BB w w (treL b mb i next ap):=c7▸Hp.Bv hs
 have dz:n=l.length:=(a6 w (Chg.refl _ _)).len
 have ds:ss.length=l.length:=(a6 w (Chg.refl _ _)).ssl
 have ci:zs.length=n:=by omega
 have d0:0<l.length:=List.length_pos_iff.2 c3
 intro pb w1 cj
 have H:=(ch.nw cj).ay 1 1 rfl (by simp[maxLen])
 refine AP.mk (fun m s w'=>∃(k:Nat)(oa:Option Addr)(oc:Nat)(G:List (NW×En))(N:Fo)(root:Int),m=n-k/\k<=n/\s.2.1=(oa,(Ae N).length+1,oc)/\s.2.2=(k:Int)/\W9 parent I i e0 R0 zs l k s.1 N (G.map (·.2)) root/\
  Hp BB w w' (.own 3 1 oa ((Ae N).length+1) oc (AO (parent::Ae N))::treL b mb root next G)) n ⟨0,some ⟨pb,0,none⟩,1,ap,.nil,i,rfl,by omega,rfl,rfl,⟨rfl,fun _=>rfl,by omega,?_,hB⟩,H⟩ ?_
 ·dsimp only;split<;>simp[tops]
 clear H ch cj
 rintro m ⟨a8,⟨oa,on,oc⟩,k'⟩ w2 nx ⟨k,d1,d2,G,N,root,rfl,d3,ho,hk,hI,H⟩ c8
 dsimp only at ho hk hI⊢
 cases ho;subst hk
 refine AB (fun h=>?_) (fun h=>?_)
 rotate_left
 ·have ck:k=n:=by omega
  subst ck
  have a9:=cf w2 H.chg
  obtain⟨z,zr,cl⟩:=List.exists_cons_of_ne_nil (l:=zs) (fun e=>by rw[e]at ci;simp at ci;omega)
  have h0:(AO zs)[0]? =some (.int .i64 z):=by rw[cl];rfl
  obtain⟨ad,bp,_⟩:=a9 0 _ h0
  have bq:=a9.ld yInt bp h0
  rw[addr0]at bq
  refine AA bp ⟨⟨by omega,by omega⟩,z,bq,G,N,root,a8,by rw[cl];rfl,hI,H.drop⟩
 have hk:k<n:=by omega
 obtain⟨x,s,hx,b1,_⟩:=(a6 w2 H.chg).at_ (k:=k) hk
 obtain⟨z,hz⟩:∃z,zs[k]? =some z:=⟨_,List.getElem?_eq_getElem (by omega)⟩
 have cm:=a7 k x hx
 have d4:=a7.le k x hx
 obtain⟨d,hd⟩:∃d:Nat,x.level=d:=⟨x.level.toNat,by omega⟩
 have Z:d<=(Ae N).length:=by
  rcases Nat.eq_zero_or_pos k with e|e
  ·have:=cm.2.1 e;omega
  ·have hy:l[k-1]? =some (l[k-1]'(by omega)):=List.getElem?_eq_getElem (by omega)
   have L:=hI.deep _ e hy
   have h2:=cm.2.2 _ e hy
   omega
 have dt:(Ae N).length<=k:=by
  rcases Nat.eq_zero_or_pos k with e|e
  ·rw[hI.nil e];simp[Ae]
  ·have hy:l[k-1]? =some (l[k-1]'(by omega)):=List.getElem?_eq_getElem (by omega)
   have L:=hI.deep _ e hy
   have h2:=a7.le _ _ hy
   omega
 refine Am.mk (fun s1 w'=>∃(oa:Option Addr)(oc:Nat)(G:List (NW×En))(N:Fo)(root:Int),s1.2=(oa,(Ae N).length+1,oc)/\W9 parent I i e0 R0 zs l (k+1) s1.1 N (G.map (·.2)) root/\
  Hp BB w w' (.own 3 1 oa ((Ae N).length+1) oc (AO (parent::Ae N))::treL b mb root next G)) ?_ ?_
 ·rintro⟨d5,D,d6,E⟩ w' ⟨d7,d8,c9,N3,b2,L,h2,h3⟩
  dsimp only at L h2⊢
  cases L
  exact⟨CX.2 (by omega),c8 (n-(k+1)) _ _ (by omega) ⟨k+1,D,E,c9,N3,b2,rfl,by omega,rfl,rfl,h2,h3⟩⟩
 intro J hJ
 have da:=a6 w2 H.chg
 obtain⟨ad,bp,bq⟩:=da.some hx b1
 refine AA bp ⟨⟨by omega,h⟩,_,_,_,_,_,_,_,by rw[Int.toNat_natCast];exact bq,?_⟩
 intro xb w3 cn
 have H3:=H.nw cn
 refine Hp.sA H3 Dh (cs':=itC x s) fun w4 H4=>?_
 clear H3 cn H
 have a9:=cf w4 H4.chg
 have bw:(AO zs)[k]? =some (.int .i64 z):=by rw[AO,List.getElem?_map,hz];rfl
 obtain⟨d9,bx,_⟩:=a9 k _ bw
 have ba:=H4.ownA (a:=oa) (n:=(Ae N).length+1) (c:=oc) (xs:=AO (parent::Ae N)) (.tail _ (.head _))
 have ea:=ba.le
 have db:Int.toNat (x.level+1)=d+1:=by omega
 refine AA bx ⟨⟨by omega,by omega⟩,z,by rw[Int.toNat_natCast,Nat.mul_one];exact a9.ld yInt bx bw,x.level,H4.lo yInt,CX.2 (by omega),x.level,H4.lo yInt,CX.2 (by omega),⟨by omega,by omega,by omega⟩,?_⟩
 intro bi w5 co
 have H5:=H4.nw co
 rw[db]
 have H6:=(H5.BA).front (F:=d+1) (by omega)
 have bb:Src Tryz.prog 1 59 (.slice (some ⟨bi,0,none⟩) 1 1) 1 [.int .i64 z] w5:=Blk.src (P:=Tryz.prog) LZ (H5.blk (.head _)) rfl rfl
 refine Hp.app Ll (by omega) H6 EQ4 bb (by simp only[maxLen];omega) (by omega) ?_
 intro D E w6 H7
 clear H6 H5 co ba
 have dc:(AO (parent::Ae N)).take ((d+1)*1)++[.int .i64 z]=AO (parent::Ae (snoc d z x.x N)):=by
  rw[Eo d z x.x N Z,Nat.mul_one]
  simp[AO,map_take]
 have ae:(Ae (snoc d z x.x N)).length+1=d+1+1:=by
  rw[Eo d z x.x N Z,length_append,length_take,Nat.min_eq_left Z];rfl
 rw[dc]at H7
 have H8:=H7.del1
 clear H7
 obtain⟨q,hq⟩:∃q,(parent::Ae N)[d]? =some q:=⟨_,List.getElem?_eq_getElem (by rw[length_cons];omega)⟩
 have dd:(AO (parent::Ae (snoc d z x.x N)))[d]? =some (.int .i64 q):=by
  rw[AO,List.getElem?_map,Eo d z x.x N Z]
  have:(parent::((Ae N).take d++[z]))[d]? =some q:=by
   rw[<- cons_append,<- take_succ_cons,List.getElem?_append_left (by rw[length_take,length_cons];omega),List.getElem?_take_of_lt (by omega)]
   exact hq
  rw[this];rfl
 obtain⟨eb,cp,bz⟩:=H8.ldO (w':=w6) (o:=d) EQ4 yInt (.head _) dd
 refine⟨x.level,H8.ld (o:=0) (cs:=itC x s) EQ4 yInt (.tail _ (.head _)) rfl,AA cp ⟨⟨by omega,by omega⟩,q,?_,?_⟩⟩
 ·have:Int.toNat x.level*1=d:=by omega
  rw[this];exact bz
 have bc:=((a6 w6.drew (H8.drew).chg).attrs k x s hx b1)
 have du:=c4 s (mem_of_getElem? b1)
 have aw:=bc.len
 refine AA rfl ⟨some mb,H8.ld (o:=0) (cs:=treC mb root next) EQ4 nMN (.tail _ (.tail _ (.head _))) rfl,x.x.kind,H8.ld (o:=1) (cs:=itC x s) EQ4 yInt (.tail _ (.head _)) rfl,x.x.name,H8.ld (o:=2) (cs:=itC x s) EQ4 yStr (.tail _ (.head _)) rfl,x.x.text,H8.ld (o:=3) (cs:=itC x s) EQ4 yStr (.tail _ (.head _)) rfl,s.1,s.2.1,s.2.2,H8.ld (o:=4) (cs:=itC x s) EQ4 iSAt (.tail _ (.head _)) rfl,?_⟩
 refine AC (Fz s.1 s.2.1 s.2.2 (atC x.x.attrs) w6.drew bc.cells (by rw[Ky,aw]) (Kz _) (fun e=>by
  rw[aw]
  cases hatt:x.x.attrs with
  |nil=>rfl
  |cons p r=>
   have hc:=bc.cells
   rw[hatt,e]at hc
   obtain⟨_,h9,_⟩:=hc 0 (.string p.1) rfl
   cases h9) (by omega)) ?_
 rintro _ w7 ⟨a5,c5,rfl,Hc⟩
 have H9:=(H8.drew).ext1 Hc
 clear H8 Hc bz
 refine⟨a5,s.2.1,c5,rfl,H9.ld (o:=3) (cs:=itC x s) EQ4 yStr (.tail _ (.tail _ (.head _))) rfl,H9.ld (o:=2) (cs:=itC x s) EQ4 yStr (.tail _ (.tail _ (.head _))) rfl,H9.ld (o:=1) (cs:=itC x s) EQ4 yInt (.tail _ (.tail _ (.head _))) rfl,H9.ld (o:=0) (cs:=treC mb root next) EQ4 nMN (.tail _ (.tail _ (.tail _ (.head _)))) rfl,?_⟩
 intro nb w8 b4
 obtain⟨B,a4⟩:∃B:En,B=⟨z,q,x.x,[]⟩:=⟨_,rfl⟩
 obtain⟨C,b5⟩:∃C:NW,C=⟨nb,a5,c5,none,0⟩:=⟨_,rfl⟩
 have de:nodC C B=[.int .i64 z,.int .i64 q,.int .i64 x.x.kind,.int .i64 0,.string x.x.name,.string x.x.text,.slice a5 s.2.1 c5,.slice none 0 0]:=by
  rw[b5,a4,aw];rfl
 rw[<- de]at b4
 have b6:=(H9.new (cs:=nodC C B) EQ4 b4).nilS 3 1
 clear H9 b4
 have b0:=hI.ents.ids
 have af:ids N=zs.take k:=by
  rw[<- BD N 0,hI.fl,UX (by rw[length_take,length_take];omega)]
 rw[af]at b0
 have bd:((nodM G).map (·.1)).Perm (zs.take k++IU parent e0 R0):=by
  have e:(nodM G).map (·.1)=(G.map (·.2)).map (·.id):=by rw[nodM,map_map,map_map];rfl
  rw[e];exact b0
 have cq:zs=zs.take k++z::zs.drop (k+1):=by
  have L:=(List.getElem?_eq_some_iff.1 hz)
  rw[<- L.2,<- List.drop_eq_getElem_cons L.1,take_append_drop]
 have bf:z∉(nodM G).map (·.1):=fun hm=>by
  have hm:=bd.mem_iff.1 hm
  rw[cq,append_assoc,nodup_append]at K
  rcases mem_append.1 hm with hm|hm
  ·exact K.2.2 z hm z (.head _) rfl
  ·have h3:=K.2.1
   rw[cons_append,nodup_cons]at h3
   exact h3.1 (mem_append_right _ hm)
 have a3:EZ (nodM G++[(z,Value.pointer (some ⟨nb,0,none⟩))]):=by
  rw[EZ,map_append,nodup_append]
  refine⟨?_,by simp,fun a ha c hc e=>bf ?_⟩
  ·refine bd.nodup_iff.2 ?_
   rw[cq,append_assoc,nodup_append]at K
   obtain⟨g1,g2,g3⟩:=K
   rw[cons_append,nodup_cons,nodup_append]at g2
   exact nodup_append.2 ⟨g1,g2.2.2.1,fun a ha c hc=>g3 a ha c (.tail _ (mem_append_right _ hc))⟩
  ·simp at hc;rw[<- hc,<- e];exact ha
 refine⟨b6.ld (o:=0) (cs:=treC mb root next) EQ4 nMN (.tail _ (.tail _ (.tail _ (.tail _ (.tail _ (.head _)))))) rfl,?_⟩
 have cr:=b6.perm (Fp [_,_,_,_,_,_] _ _)
 clear b6
 refine Hp.mupI Dy cr EQ4 ?_
 intro w9 bu
 clear cr
 rw[KH _ _ _ bf]at bu
 have df:nodM G++[(z,Value.pointer (some ⟨nb,0,none⟩))]=nodM (G++[(C,B)]):=by rw[nodM_append,b5,a4];rfl
 rw[df]at bu a3
 have O:Hp BB w w9 (.own 3 1 D (d+1+1) E (AO (parent::Ae (snoc d z x.x N)))::.blk xb (itC x s) 123::treL b mb root next (G++[(C,B)])):=by
  have e1:nodL (C,B)=[.blk nb (nodC C B) 139,.own 142 2 a5 s.2.1 c5 (atC x.x.attrs),.own 3 1 none 0 0 []]:=by
   rw[aw];subst b5;subst a4;rfl
  have X:treL b mb root next (G++[(C,B)])=.blk b (treC mb root next) 119::.imap mb .i64 (nodM (G++[(C,B)]))::(BR G++nodL (C,B)):=by
   rw[treL,OG];simp[BR]
  rw[X,e1]
  refine bu.perm ?_
  refine AL fun ff gg h0 hc ha ag=>?_
  simp only[ha,hc,h0];omega
 clear bu
 have ah:(d=0/\q=parent)\/(0<d/\(Ae N)[d-1]? =some q/\q≠0):=by
  cases d with
  |zero=>exact .inl ⟨rfl,by simpa using hq.symm⟩
  |succ d=>
   rw[List.getElem?_cons_succ]at hq
   refine .inr ⟨by omega,by simpa using hq,?_⟩
   have hm:q∈zs.take k:=by rw[<- af];exact Ob N q (mem_of_getElem? hq)
   exact c6 q (List.mem_of_mem_take hm)
 have dg:((G++[(C,B)]).map (·.2)).Perm (B::G.map (·.2)):=by
  rw[map_append]
  exact perm_append_comm
 refine AB (fun bg=>?_) (fun bg=>⟨x.level,O.ld (o:=0) (cs:=itC x s) EQ4 yInt (.tail _ (.head _)) rfl,?_⟩)
 ·--the root
  obtain⟨bv,a0⟩:d=0/\q=parent:=by
   rcases ah with L|⟨_,_,L⟩
   ·exact L
   ·exact(L bg).elim
  have ak:parent=0:=by rw[<- a0];exact bg
  have ct:k=0:=by
   rcases Nat.eq_zero_or_pos k with e|e
   ·exact e
   ·have:=cg ak k x e hx;omega
  have hN:=hI.nil ct
  subst hN
  subst bv
  refine AA rfl ?_
  rw[add_lit]
  refine Hp.st (o:=1) O.BA EQ4 yInt rfl rfl (by simp[treC]) (cs':=treC mb z next) rfl fun ab T=>hJ _ _ ⟨D,E,G++[(C,B)],snoc 0 z x.x .nil,z,?_,grow_step hI hz hx hd Z ?_ ?_,?_⟩
  ·show(D,0+1+1,E)=_
   rw[<- ae]
  ·have:=hI.at_
   rw[if_pos ak]at this⊢
   exact this
  ·rcases hI.ents with⟨L,h2,h3⟩|⟨L,_⟩
   ·refine .inl ⟨L,?_,rfl⟩
    rw[ents]at h2
    refine dg.trans ?_
    rw[h2.eq_nil,a4,bg,snoc,ents,ents,ents,ak]
    exact .refl _
   ·exact(L ak).elim
  ·refine Hp.drop (a:=.blk xb (itC x s) 123) (T.perm (M:=.blk xb (itC x s) 123::.own 3 1 D ((Ae (snoc 0 z x.x .nil)).length+1) E (AO (parent::Ae (snoc 0 z x.x .nil)))::treL b mb z next (G++[(C,B)])) ?_)
   rw[ae]
   refine AL fun ff gg h0 hc ha ag=>?_
   simp only[treL,ha,hc,h0];omega
 ·--below a node that is there
  have cu:∀{e:En}{R:List En},(G.map (·.2)).Perm (e::R)->e.id=q->∃A f Y,G=A++(f,e)::Y/\aget (nodM (G++[(C,B)])) q=some (.pointer (some ⟨f.b,0,none⟩)):=by
   intro e R hp hi
   have hm:=hp.mem_iff.2 (.head _)
   obtain⟨⟨f,g⟩,cv,he⟩:=mem_map.1 hm
   dsimp only at he;subst he
   obtain⟨A,Y,dh⟩:=append_of_mem cv
   refine⟨A,f,Y,dh,(Ea a3).2 (mem_map.2 ⟨(f,g),mem_append_left _ cv,?_⟩)⟩
   rw[hi]
  refine AB (fun di=>?_) (fun di=>?_)
  ·--at a place among its kids
   obtain⟨bv,a0⟩:d=0/\q=parent:=by
    rcases ah with L|⟨L,_⟩
    ·exact L
    ·omega
   subst bv
   have ak:parent≠0:=by rw[<- a0];exact bg
   rcases hI.ents with⟨L,_⟩|⟨_,cw,b7,hE⟩
   ·exact(ak L).elim
   obtain⟨g,a1⟩:∃g:En,g= {e0 with kids:=Dx e0.kids I.toNat (tops N)}:=⟨_,rfl⟩
   rw[<- a1]at hE
   have a2:(G.map (·.2)).Perm (g::(ents N parent++R0)):=hE.trans perm_middle
   obtain⟨A,f,Y,bh,al⟩:=cu a2 (by rw[a1,a0];exact cw)
   have bj:G++[(C,B)]=A++(f,g)::(Y++[(C,B)]):=by rw[bh];simp
   rw[bj]at O al
   have bk:∀{W:World},Eqw w9 W->Ld Tryz.prog 117 W ⟨b,0,none⟩ (.map (some mb)):=fun he=>O.ld (o:=0) (cs:=treC mb root next) he nMN (.tail _ (.tail _ (.head _))) rfl
   have bl:∀{W:World},Eqw w9 W->Lk Tryz.prog 117 false W (.map (some mb)) (.int .i64 q) (.pointer (some ⟨f.b,0,none⟩)):=fun he=>O.lkI Dy he (.tail _ (.tail _ (.tail _ (.head _)))) (by rw[al];rfl)
   have aq:∀a∈nodL (f,g),a∈(Asn.own 3 1 D (0+1+1) E (AO (parent::Ae (snoc 0 z x.x N))))::.blk xb (itC x s) 123::treL b mb root next (A++(f,g)::(Y++[(C,B)])):=fun a ha=>.tail _ (.tail _ (Di (p:=(f,g)) (by simp) ha))
   have b8:∀{W:World},Eqw w9 W->Ld Tryz.prog 59 W ⟨f.b,7,none⟩ (.slice f.ka g.kids.length f.kc):=fun he=>O.ld (o:=7) (cs:=nodC f g) he nSI (aq _ (.head _)) rfl
   refine AA rfl ⟨_,bk EQ4,_,bl EQ4,AA rfl ⟨_,bk EQ4,_,bl EQ4,AA rfl ⟨_,_,_,by rw[add_lit];exact b8 EQ4,?_⟩⟩⟩
   intro b3 ab bm
   have T:=O.nw bm
   have ar:Ld Tryz.prog 117 ab ⟨b,0,none⟩ (.map (some mb)):=T.ld (o:=0) (cs:=treC mb root next) EQ4 nMN (.tail _ (.tail _ (.tail _ (.head _)))) rfl
   have av:Lk Tryz.prog 117 false ab (.map (some mb)) (.int .i64 q) (.pointer (some ⟨f.b,0,none⟩)):=T.lkI Dy EQ4 (.tail _ (.tail _ (.tail _ (.tail _ (.head _))))) (by rw[al];rfl)
   have bn:Ld Tryz.prog 59 ab ⟨f.b,7,none⟩ (.slice f.ka g.kids.length f.kc):=T.ld (o:=7) (cs:=nodC f g) EQ4 nSI (.tail _ (aq _ (.head _))) rfl
   refine⟨by rw[add_lit];exact bn,av,ar,av,ar,?_⟩
   have am:=T.perm (M:=.own 3 1 f.ka g.kids.length f.kc (AO g.kids)::.blk f.b (nodC f g) 139::.own 142 2 f.aa g.x.attrs.length f.ac (atC g.x.attrs)::.blk b3 [.int .i64 z] 3::.own 3 1 D (0+1+1) E (AO (parent::Ae (snoc 0 z x.x N)))::.blk xb (itC x s) 123::.blk b (treC mb root next) 119::.imap mb .i64 (nodM (A++(f,g)::(Y++[(C,B)])))::BR (A++(Y++[(C,B)]))) (by
    have e1:=JE b mb root next A (f,g) (Y++[(C,B)])
    refine AL fun ff gg h0 hc ha ag=>?_
    have:=ag _ _ e1
    simp only[nodL,ha,hc,h0]at this⊢
    omega)
   clear T O
   have b9:Own ab 0 3 1 f.ka g.kids.length f.kc (AO g.kids):=am.ownA (.head _)
   have dj:b3∉blks f.ka:=fun hm=>(pairwise_cons.1 am.sep).1 (.blk b3 [.int .i64 z] 3) (.tail _ (.tail _ (.head _))) b3 hm (.head _)
   have cx:g.kids.length=e0.kids.length+(tops N).length:=by rw[a1];exact OZ _ _ _
   have ec:=Iy N
   have dv:(ids N).length<=2000:=by rw[af,length_take];omega
   have cy:=hI.at_
   rw[if_neg ak]at cy
   obtain⟨ix,dk⟩:∃ix:Nat,ix=I.toNat+(tops N).length:=⟨_,rfl⟩
   have cz:a8=(ix:Int):=by omega
   rw[cz]
   refine AC (SQ f.ka g.kids.length f.kc ix b3 (AO g.kids) [.int .i64 z] 3 ab b9 (Kt _) (by omega) (am.blk (.tail _ (.tail _ (.tail _ (.head _))))) rfl (by intro u hu;rw[mem_singleton.1 hu];rfl) dj (by omega)) ?_
   rintro _ dl ⟨Q,S,rfl,an⟩
   replace an:=am.BX an
   clear am
   have ca:(AO g.kids).take (ix*1)++([Value.int .i64 z]++(AO g.kids).drop (ix*1))=AO (Dx e0.kids I.toNat (tops N++[z])):=by
    have h9:=insAt_snoc e0.kids I.toNat (tops N) z (by omega)
    rw[<- h9,dk,a1,Nat.mul_one]
    simp[AO,map_take,map_drop]
   rw[ca]at an
   have ao:=an.Af
   clear an
   obtain⟨X,U⟩:∃X:En,X= {e0 with kids:=Dx e0.kids I.toNat (tops N++[z])}:=⟨_,rfl⟩
   have bo:g.kids.length+1=X.kids.length:=by rw[cx,U];show _=(Dx _ _ _).length;rw[OZ,length_append];rfl
   refine⟨Q,g.kids.length+1,S,rfl,ao.lkI Dy EQ4 (.tail _ (.tail _ (.tail _ (.tail _ (.tail _ (.tail _ (.tail _ (.head _)))))))) (by rw[al];rfl),ao.ld (o:=0) (cs:=treC mb root next) EQ4 nMN (.tail _ (.tail _ (.tail _ (.tail _ (.tail _ (.tail _ (.head _))))))) rfl,AA rfl ?_⟩
   rw[add_lit]
   refine Hp.st (o:=7) ao EQ4 nSI rfl rfl (by simp[nodC]) (cs':=nodC {f with ka:=Q,kc:=S} X) (by rw[bo,U,a1];rfl) fun dm cb=>⟨CX.2 (by omega),?_⟩
   clear ao
   refine hJ _ _ ⟨D,E,A++({f with ka:=Q,kc:=S},X)::(Y++[(C,B)]),snoc 0 z x.x N,root,?_,grow_step hI hz hx hd Z ?_ ?_,?_⟩
   ·show(D,0+1+1,E)=_
    rw[<- ae]
   ·show(ix:Int)+1=_
    rw[if_neg ak,JU,length_append,List.length_singleton]
    omega
   ·refine .inr ⟨ak,cw,b7,?_⟩
    rw[bh]at a2
    have h9:=YH (y':= {f with ka:=Q,kc:=S}) (yn:=C) (e':=X) (en:=B) a2
    refine h9.trans ?_
    rw[JU,<- U]
    have c0:=MS z x.x N parent
    rw[<- a0]at c0
    rw[a4]
    refine List.Perm.trans ?_ ((c0.symm.append_right _).trans (by rw[<- a0]))
    rw[cons_append]
    refine List.Perm.cons _ ?_
    rw[a0]
    exact List.perm_middle.symm
   ·have e1:=JE b mb root next A ({f with ka:=Q,kc:=S},X) (Y++[(C,B)])
    have hM:nodM (A++(({f with ka:=Q,kc:=S}:NW),X)::(Y++[(C,B)]))=nodM (A++(f,g)::(Y++[(C,B)])):=Ju rfl (by rw[U,a1])
    rw[hM]at e1
    have cc:X.x=g.x:=by rw[U,a1]
    refine Hp.drop (Hp.drop (a:=.blk b3 [.int .i64 z] 3) (cb.perm (M:=.blk b3 [.int .i64 z] 3::.blk xb (itC x s) 123::.own 3 1 D ((Ae (snoc 0 z x.x N)).length+1) E (AO (parent::Ae (snoc 0 z x.x N)))::treL b mb root next (A++({f with ka:=Q,kc:=S},X)::(Y++[(C,B)]))) ?_))
    rw[ae]
    refine AL fun ff gg h0 hc ha ag=>?_
    have:=ag _ _ e1
    simp only[nodL,ha,hc,h0,cc,<- bo]at this⊢
    have cd:Dx e0.kids I.toNat (tops N++[z])=X.kids:=by rw[U]
    rw[cd]
    omega
  ·--behind its kids
   obtain⟨bv,c1,ed⟩:0<d/\(Ae N)[d-1]? =some q/\q≠0:=by
    rcases ah with⟨L,_⟩|L
    ·omega
    ·exact L
   obtain⟨d',rfl⟩:∃d',d=d'+1:=⟨d-1,by omega⟩
   obtain⟨g,R,dn,ce,dp⟩:=MK d' z x.x N parent Z
   rw[Nat.add_sub_cancel,dn]at c1
   have c2:g.id=q:=Option.some.inj c1
   obtain⟨R2,a2,dq⟩:∃R2,(G.map (·.2)).Perm (g::R2)/\∀(E2:List En),E2.Perm (B:: {g with kids:=g.kids++[z]}::R2)->VP parent I i e0 R0 (snoc (d'+1) z x.x N) E2 root:=by
    have aw:(ents (snoc (d'+1) z x.x N) parent).Perm (B:: {g with kids:=g.kids++[z]}::R):=by
     have:B=⟨z,g.id,x.x,[]⟩:=by rw[a4,c2]
     rw[this];exact dp
    rcases hI.ents with⟨L,h2,h3⟩|⟨L,h2,h3,h4⟩
    ·refine⟨R,h2.trans ce,fun E2 h5=>.inl ⟨L,h5.trans aw.symm,?_⟩⟩
     rw[h3]
     cases N with
     |nil=>simp[Ae]at Z
     |cons j y kk t=>
      cases t with
      |nil=>rfl
      |cons _ _ _ _=>rfl
    ·refine⟨R++({e0 with kids:=Dx e0.kids I.toNat (tops N)}::R0),?_,fun E2 h5=>.inr ⟨L,h2,h3,?_⟩⟩
     ·exact h4.trans (ce.append_right _)
     ·rw[Jc d' z x.x N Z]
      exact h5.trans (aw.append_right _).symm
   obtain⟨A,f,Y,bh,al⟩:=cu a2 c2
   have bj:G++[(C,B)]=A++(f,g)::(Y++[(C,B)]):=by rw[bh];simp
   rw[bj]at O al
   have bk:∀{W:World},Eqw w9 W->Ld Tryz.prog 117 W ⟨b,0,none⟩ (.map (some mb)):=fun he=>O.ld (o:=0) (cs:=treC mb root next) he nMN (.tail _ (.tail _ (.head _))) rfl
   have bl:∀{W:World},Eqw w9 W->Lk Tryz.prog 117 false W (.map (some mb)) (.int .i64 q) (.pointer (some ⟨f.b,0,none⟩)):=fun he=>O.lkI Dy he (.tail _ (.tail _ (.tail _ (.head _)))) (by rw[al];rfl)
   have aq:∀a∈nodL (f,g),a∈(Asn.own 3 1 D (d'+1+1+1) E (AO (parent::Ae (snoc (d'+1) z x.x N))))::.blk xb (itC x s) 123::treL b mb root next (A++(f,g)::(Y++[(C,B)])):=fun a ha=>.tail _ (.tail _ (Di (p:=(f,g)) (by simp) ha))
   have b8:∀{W:World},Eqw w9 W->Ld Tryz.prog 59 W ⟨f.b,7,none⟩ (.slice f.ka g.kids.length f.kc):=fun he=>O.ld (o:=7) (cs:=nodC f g) he nSI (aq _ (.head _)) rfl
   refine AA rfl ⟨_,bk EQ4,_,bl EQ4,AA rfl ⟨_,bk EQ4,_,bl EQ4,AA rfl ⟨_,_,_,by rw[add_lit];exact b8 EQ4,?_⟩⟩⟩
   intro b3 ab bm
   have T:=O.nw bm
   have ar:Ld Tryz.prog 117 ab ⟨b,0,none⟩ (.map (some mb)):=T.ld (o:=0) (cs:=treC mb root next) EQ4 nMN (.tail _ (.tail _ (.tail _ (.head _)))) rfl
   have av:Lk Tryz.prog 117 false ab (.map (some mb)) (.int .i64 q) (.pointer (some ⟨f.b,0,none⟩)):=T.lkI Dy EQ4 (.tail _ (.tail _ (.tail _ (.tail _ (.head _))))) (by rw[al];rfl)
   have bn:Ld Tryz.prog 59 ab ⟨f.b,7,none⟩ (.slice f.ka g.kids.length f.kc):=T.ld (o:=7) (cs:=nodC f g) EQ4 nSI (.tail _ (aq _ (.head _))) rfl
   refine⟨by rw[add_lit];exact bn,av,ar,av,ar,?_⟩
   have am:=T.perm (M:=.own 3 1 f.ka g.kids.length f.kc (AO g.kids)::.blk f.b (nodC f g) 139::.own 142 2 f.aa g.x.attrs.length f.ac (atC g.x.attrs)::.blk b3 [.int .i64 z] 3::.own 3 1 D (d'+1+1+1) E (AO (parent::Ae (snoc (d'+1) z x.x N)))::.blk xb (itC x s) 123::.blk b (treC mb root next) 119::.imap mb .i64 (nodM (A++(f,g)::(Y++[(C,B)])))::BR (A++(Y++[(C,B)]))) (by
    have e1:=JE b mb root next A (f,g) (Y++[(C,B)])
    refine AL fun ff gg h0 hc ha ag=>?_
    have:=ag _ _ e1
    simp only[nodL,ha,hc,h0]at this⊢
    omega)
   clear T O
   have cx:g.kids.length<=10000:=by
    have L:=Gs N parent g (ce.mem_iff.2 (.head _))
    rw[af,length_take]at L
    omega
   have bb:Src Tryz.prog 1 59 (.slice (some ⟨b3,0,none⟩) 1 1) 1 [.int .i64 z] ab:=Blk.src (P:=Tryz.prog) LZ (am.blk (.tail _ (.tail _ (.tail _ (.head _))))) rfl rfl
   refine Hp.app Ll (by omega) am EQ4 bb (by simp only[maxLen];omega) (by omega) ?_
   intro Q S dl an
   clear am
   have ca:AO g.kids++[Value.int .i64 z]=AO (g.kids++[z]):=by simp[AO]
   rw[ca]at an
   have ao:=an.Af
   clear an
   obtain⟨X,U⟩:∃X:En,X= {g with kids:=g.kids++[z]}:=⟨_,rfl⟩
   have bo:g.kids.length+1=X.kids.length:=by rw[U];simp
   refine⟨ao.lkI Dy EQ4 (.tail _ (.tail _ (.tail _ (.tail _ (.tail _ (.tail _ (.tail _ (.head _)))))))) (by rw[al];rfl),ao.ld (o:=0) (cs:=treC mb root next) EQ4 nMN (.tail _ (.tail _ (.tail _ (.tail _ (.tail _ (.tail _ (.head _))))))) rfl,AA rfl ?_⟩
   rw[add_lit]
   refine Hp.st (o:=7) ao EQ4 nSI rfl rfl (by simp[nodC]) (cs':=nodC {f with ka:=Q,kc:=S} X) (by rw[bo,U];rfl) fun dm cb=>?_
   clear ao
   refine hJ _ _ ⟨D,E,A++({f with ka:=Q,kc:=S},X)::(Y++[(C,B)]),snoc (d'+1) z x.x N,root,?_,grow_step hI hz hx hd Z ?_ ?_,?_⟩
   ·show(D,d'+1+1+1,E)=_
    rw[<- ae]
   ·show a8=_
    rw[Jc d' z x.x N Z];exact hI.at_
   ·rw[bh]at a2
    have h9:=YH (y':= {f with ka:=Q,kc:=S}) (yn:=C) (e':=X) (en:=B) a2
    rw[U]at h9⊢
    exact dq _ h9
   ·have e1:=JE b mb root next A ({f with ka:=Q,kc:=S},X) (Y++[(C,B)])
    have hM:nodM (A++(({f with ka:=Q,kc:=S}:NW),X)::(Y++[(C,B)]))=nodM (A++(f,g)::(Y++[(C,B)])):=Ju rfl (by rw[U])
    rw[hM]at e1
    have cc:X.x=g.x:=by rw[U]
    refine Hp.drop (Hp.drop (a:=.blk b3 [.int .i64 z] 3) (cb.perm (M:=.blk b3 [.int .i64 z] 3::.blk xb (itC x s) 123::.own 3 1 D ((Ae (snoc (d'+1) z x.x N)).length+1) E (AO (parent::Ae (snoc (d'+1) z x.x N)))::treL b mb root next (A++({f with ka:=Q,kc:=S},X)::(Y++[(C,B)]))) ?_))
    rw[ae]
    refine AL fun ff gg h0 hc ha ag=>?_
    have:=ag _ _ e1
    simp only[nodL,ha,hc,h0,cc,<- bo]at this⊢
    have cd:g.kids++[z]=X.kids:=by rw[U]
    rw[cd]
    omega
end
end Go.Proofs.YtljenkbpnioipaaGreat
namespace Go.Nod
theorem PH{l:Int}:∀(X Y:List Rw),(∀r∈X,l<r.level)->(∀r,Y.head? =some r->r.level<=l)->(X++Y).takeWhile (fun r=>decide (l<r.level))=X
 | [],[],_,_=>rfl
 | [],y::Y,_,h=>by
  have:=h y rfl
  have:¬l<y.level:=by omega
  rw[nil_append,List.takeWhile_cons,decide_eq_false this];rfl
 |x::X,Y,h,h'=>by
  have:=h x (.head _);rw[cons_append,List.takeWhile_cons,decide_eq_true this];simp only[if_true];rw[PH X Y (fun r a=>h r (.tail _ a)) h']
theorem Jz:∀(F G:Fo)(l:Int),flat F l=flat G l->F=G
 |.nil,.nil,_,_=>rfl
 |.nil,.cons i x k s,l,h=>by rw[flat,flat]at h;cases h
 |.cons i x k s,.nil,l,h=>by rw[flat,flat]at h;cases h
 |.cons i x k s,.cons i' x' k' s',l,h=>by
  rw[flat,flat,List.cons.injEq]at h;obtain⟨d,b⟩:=h;have e:=PH (l:=l) (flat k (l+1)) (flat s l) (fun r a=>by have:=Bo k _ r a;omega) (fun r a=>Int.le_of_eq (FI s l r a));have f:=PH (l:=l) (flat k' (l+1)) (flat s' l) (fun r a=>by have:=Bo k' _ r a;omega) (fun r a=>Int.le_of_eq (FI s' l r a))
  have c:flat k (l+1)=flat k' (l+1):=by rw[<- e,<- f,b]
  have g:flat s l=flat s' l:=by rw[c]at b;exact List.append_cancel_left b
  have j:=Jz k k' (l+1) c;have m:=Jz s s' l g
  injection d with a1 a2 a3
  rw[j,m,a1,a3]
theorem QZ:∀(L:List Rw)(k:Nat)(p r:Rw),Adj L->L[k]? =some p->L[k+1]? =some r->Nxt1 p r
 | [],k,p,r,_,h,_=>by simp at h
 | [x],k,p,r,_,_,h=>by simp at h
 |x::y::t,0,p,r,h,h1,h2=>by cases h1;cases h2;exact h.1
 |x::y::t,k+1,p,r,h,h1,h2=>QZ (y::t) k p r h.2 (by simpa using h1) (by simpa using h2)
theorem Xd{F:Fo}{l:List It}{n b:Int}(h:flat F b=Ar n b l)(f:FOk F):YA l:=by
 intro k x c
 have a:∀{k:Nat}{x:It},l[k]? =some x->(flat F b)[k]? =some ⟨n+k,x.level+b,x.x⟩:=fun c=>by rw[h,EW,c];rfl
 refine⟨?_,fun e=>?_,fun y m g=>?_⟩
 ·have:=Bo F b _ (mem_of_getElem? (a c))
  dsimp only at this;omega
 ·subst e
  have:=FI F b _ (by rw[List.head?_eq_getElem?];exact a c);dsimp only at this;omega
 ·have i:=a g
  have j:=a c;obtain⟨d,rfl⟩:∃d,k=d+1:=⟨k-1,by omega⟩;have:=(QZ _ d _ _ (J7 F b f) i j).1;dsimp only at this;omega
theorem one_lev{F:Fo}{i:Int}{x:NX}{k:Fo}(e:F=.cons i x k .nil){l:List It}{n:Int}(h:flat F 0=Ar n 0 l):∀(k:Nat)(x:It),0<k->l[k]? =some x->1<=x.level:=by
 intro j y d c
 have a:(flat F 0)[j]? =some ⟨n+j,y.level+0,y.x⟩:=by rw[h,EW,c];rfl
 rw[e,flat,flat,append_nil]at a;obtain⟨b,rfl⟩:∃b,j=b+1:=⟨j-1,by omega⟩;rw[List.getElem?_cons_succ]at a;have:=Bo k (0+1) _ (mem_of_getElem? a);dsimp only at this;omega
theorem Fg{x:NX}(h:Ap x=0):x.attrs.length<=20/\(x.kind=1->Dq x.name/\Pz x.attrs/\x.text=⟨#[]⟩/\valsE x.attrs=0)/\(x.kind=2->x.attrs=[]/\BQ x.text=0/\x.name=⟨#[]⟩):=by
 rw[Ap]at h;split at h
 ·rename_i c
  split at h
  ·rename_i b
   exact⟨by rw[b.2];simp,fun e=>by omega,fun _=>⟨b.2,h,b.1⟩⟩
  ·cases h
 ·rename_i c
  split at h
  ·rename_i b
   split at h
   ·rename_i a
    rw[DJ]at a;split at a
    ·cases a
    rename_i d;split at a
    ·cases a
    rename_i f;split at a
    ·cases a
    rename_i g;exact⟨by omega,fun _=>⟨Classical.not_not.1 d,Classical.not_not.1 f,b.2,h⟩,fun e=>(c e).elim⟩
   ·rename_i a;exact(a h).elim
  ·cases h
end Go.Nod
namespace Go.Vc
theorem Hp.stays{B:List Nat}{w0 w W:World}{L1:List Asn}{a:Asn}(H:Hp B w0 w (a::L1))(h:Chg (feet L1) w W):a.ok W:=by
 have b:=H.ok a (.head _);refine Asn.XV b fun k d=>h.2.2.2.2 k (Asn.U1 b k d) fun e=>?_;obtain⟨x,f,c⟩:=DY.1 e;exact(pairwise_cons.1 H.sep).1 x f k d c
theorem Hp.chgT{B:List Nat}{w0 w W:World}{L:List Asn}(H:Hp B w0 w L)(h:Chg (feet L) w W):Chg B w0 W:=
 H.chg.trans h (fun k a=>a) fun k a=>by
  obtain⟨x,c,b⟩:=DY.1 a;exact H.own x c k b
end Go.Vc
namespace Go.Proofs.YtljenkbpnioipaaGreat
noncomputable section
open Go Go.Vc Go.Nod
structure DX(S:List Nat)(w:World)(a:Option Addr)(n:Nat)(l:List It)(ss:List Sl3):Prop where
 rd:∀W,Chg S w W->ItR W a n l ss
 len:n<=maxLen
 sls:∀s∈ss,s.2.1<=maxLen
 small:∀x∈l,RU x.x
theorem DX.now{S:List Nat}{w:World}{a:Option Addr}{n:Nat}{l:List It}{ss:List Sl3}(h:DX S w a n l ss):ItR w a n l ss:=h.rd w (Chg.refl _ _)
theorem DX.att{S:List Nat}{w:World}{a:Option Addr}{n:Nat}{l:List It}{ss:List Sl3}(h:DX S w a n l ss)(f:∀x∈l,Ap x.x=0):∀s∈ss,s.2.1<=1000:=by
 intro s g;obtain⟨k,c⟩:=List.getElem?_of_mem g;have d:=h.now;have b:=(List.getElem?_eq_some_iff.1 c).1;have e:l[k]? =some (l[k]'(by rw[<- d.ssl];exact b)):=List.getElem?_eq_getElem _;have i:=(d.attrs k _ s e c).len;have j:=(Fg (f _ (mem_of_getElem? e))).1;omega
theorem XN(n:Int)(l:List It)(a:List Int)(h:a=(List.range l.length).map fun(k:Nat)=>n+(k:Int)):Jm (a.take l.length) (l.take l.length)=Ar n 0 l:=by
 have b:a.length=l.length:=by rw[h];simp
 rw[take_of_length_le (by omega),take_of_length_le (Nat.le_refl _),h,<- named_rowsZ 0]
theorem Tq(n:Int)(m:Nat):((List.range m).map fun(k:Nat)=>n+(k:Int)).Nodup:=by
 refine List.pairwise_map.2 (List.nodup_range.imp fun h e=>h ?_);omega
theorem gLoad_spec{f:List Nat}{b:Nat}{T:Tr}{w:World}(h:(AU f b T).ok w)(G:Option Addr)(n K:Nat)(l:List It)(ss:List Sl3)(j:DX f w G n l ss):
  Calls Tryz.prog 23 #[.pointer (some ⟨b,0,none⟩),.slice G n K] w fun e w'=>∃L,e=.returned (.tuple #[.int .i64 (T.load l).2.1,.int .i64 (T.load l).2.2])/\Hp f w w' [AU L b (T.load l).1]:=by
 apply gLoad.ok;unfold gLoad.vc;have A:Hp f w w [AU f b T]:=BZ h;have d:=j.now.len;refine AC (IJ G n K l ss w j.now j.len j.sls j.small) ?_;rintro _ w1 ⟨rfl,H'⟩;replace A:=A.ext0 H';refine⟨_,_,rfl,Aa (fun m=>⟨f,by rw[Tr.load,if_pos m],by rw[Tr.load,if_pos m];exact A⟩) (fun m=>?_)⟩;have p:¬(D5 l).2≠0:=fun q=>q m;obtain⟨M,⟨F,hG,O,I,hw,rfl⟩,H,hf⟩:=A.unpack;have P:=hG.next;refine AA rfl ⟨T.next,by rw[add_lit];exact H.lo yInt,iR,AB (fun q=>?_) (fun q=>?_)⟩
 ·have:2147483647<T.next+l.length:=by omega
  refine⟨f,by rw[Tr.load,if_neg p,if_pos this],by rw[Tr.load,if_neg p,if_pos this];exact A⟩
 have s:¬2147483647<T.next+l.length:=by omega
 obtain⟨J,a,R⟩:=RD m P.1 (by omega)
 have af:l.length<=1000:=by
  have:=a.len;dsimp only at this;rw[LJ]at this;exact this
 have B:l≠[]:=fun e=>by rw[D5,if_pos e]at m;cases m
 intro c w2 S;have H2:=H.newI EQ4 .i64 S
 have H3:Hp f w w2 (.blk b (treC O (AZ F) T.next) 119::.imap c .i64 []::(.imap O .i64 (nodM I)::BR I)):=H2.perm (by
  refine AL fun ff gg h0 hc ha ag=>?_
  simp only[treL,ha,hc,h0];omega)
 refine AA rfl (Hp.st (o:=0) H3 EQ4 nMN rfl rfl (by simp[treC]) (cs':=treC c (AZ F) T.next) rfl fun w3 H4=>AA rfl ?_);rw[add_lit];refine Hp.st (o:=1) H4 EQ4 yInt rfl rfl (by simp[treC]) (cs':=treC c 0 T.next) rfl fun w4 H5=>?_
 have H6:Hp f w w4 (treL b c 0 T.next []):=by
  have:Hp f w w4 (treL b c 0 T.next []++(.imap O .i64 (nodM I)::BR I)):=H5;exact this.BN
 clear H2 H3 H4 H5 H A;refine AC (YK H6.std n (by omega) (by omega) (by omega)) ?_;rintro _ w5 ⟨U,X,rfl,H7⟩;have C:=H6.WO H7;refine⟨U,n,X,rfl,?_⟩;obtain⟨t,g⟩:∃t:List Int,t=(List.range n).map fun(k:Nat)=>T.next+(k:Int):=⟨_,rfl⟩;rw[<- g]at C
 have Y:t.length=l.length:=by rw[g];simp;omega
 have i:∀x∈l,Ap x.x=0:=fun x hx=>by
  obtain⟨k,hk⟩:=List.getElem?_of_mem hx
  have h9:(flat J 0)[k]? =some ⟨T.next+k,x.level+0,x.x⟩:=by rw[a.fl];dsimp only;rw[EW,hk];rfl
  exact Hq J 0 a.ok _ (mem_of_getElem? h9)
 obtain⟨i1,x1,k1,Z,_⟩:=a.one.resolve_left R;refine AC (WY (w:=w5) (C.drop).std 0 0 G n K l ss U X t (fun W hW=>j.rd W ((C.drop).chgT hW)) (fun W hW=>?_) Y B (by omega) (j.att i) (Xd a.fl a.ok) (fun _=>one_lev Z a.fl) ⟨0,0,⟨0,⟨#[]⟩,⟨#[]⟩,[]⟩,[]⟩ [] ?_ ?_ (fun z hz=>?_) ⟨by omega,by simp⟩ (by simp)) ?_
 ·exact Own.cells (show Own W 0 3 1 U n X (AO t)from Hp.stays C hW)
 ·exact .inl ⟨rfl,.refl _,rfl⟩
 ·rw[IU,if_pos rfl,append_nil,g];exact Tq _ _
 ·rw[g]at hz
  obtain⟨k,_,rfl⟩:=mem_map.1 hz;omega
 rintro _ w6 ⟨u,N,D,ah,rfl,hI,H9⟩;have E:=(C.drop).WO H9
 have aa:flat N 0=Ar T.next 0 l:=by
  rw[hI.fl,d];exact XN T.next l t (by rw[g,d])
 have ab:N=J:=Jz N J 0 (by rw[aa];exact a.fl.symm);subst ab
 have ac:T.load l=(⟨Ar T.next 0 l,T.next+l.length⟩,T.next,0):=by rw[Tr.load,if_neg p,if_neg s]
 rw[ac]
 obtain⟨hE,y⟩:(u.map (·.2)).Perm (ents N 0)/\D=AZ N:=by
  rcases hI.ents with⟨_,q,h3⟩|⟨q,_⟩
  ·exact⟨q,h3⟩
  ·exact(q rfl).elim
 rw[y,d]at E
 have ad:Hp f w w6 (treL b c (AZ N) (T.next+l.length) u++[]):=by rw[append_nil];exact E
 obtain⟨L,ae⟩:=ad.Cm (Q:=Jn b ⟨Ar T.next 0 l,T.next+l.length⟩) ⟨N,a,c,u,hE,rfl⟩;refine⟨_,rfl,L,?_,ae⟩
 have:t.headD 0=T.next:=by
  obtain⟨x,r,e⟩:=List.exists_cons_of_ne_nil B;rw[g,d,e,length_cons,List.range_succ_eq_map];simp
 rw[this]
end
end Go.Proofs.YtljenkbpnioipaaGreat
namespace Go.Nod
theorem Q5:∀(l:List It)(d:Int)(x:It),KZ d (l++[x])=max (KZ d l) x.level
 | [],d,x=>rfl
 |y::l,d,x=>by rw[cons_append,KZ,Q5 l,KZ]
def xName:ByteArray:=⟨#[120]⟩
theorem xName_ok:Dq xName:=by
 refine⟨by decide,by decide,[120],⟨fun c a=>?_,by decide⟩,fun c a=>?_,fun c a=>?_⟩
 ·rw[mem_singleton.1 a];decide
 ·rw[mem_singleton.1 a];decide
 ·cases a;decide
def xIt:It:=⟨0,⟨1,xName,⟨#[]⟩,[]⟩⟩
theorem xIt_parts:Ap xIt.x=0:=by
 have a:¬¬Dq xIt.x.name:=fun h=>h xName_ok;have b:¬¬Pz xIt.x.attrs:=fun h=>h ⟨by simp[xIt],by simp[xIt,Rs]⟩
 have c:DJ xIt.x=0:=by rw[DJ,if_neg a,if_neg b,if_neg (by simp[xIt])]
 rw[Ap,if_neg (by decide),if_pos ⟨rfl,rfl⟩,if_pos c];rfl
theorem check_two(x:NX):(D5 [xIt,⟨1,x⟩]).2=Ap x:=by
 have c:oneE [xIt,⟨1,x⟩] 0 xIt=0:=by
  have:Cc [xIt,⟨1,x⟩] 0 xIt=0:=by
   rw[Cc,if_neg,if_neg,if_neg,if_neg]
   ·omega
   ·show¬(40:Int)<=0;omega
   ·rintro⟨h,_⟩;omega
   ·rintro⟨_,h|h⟩
    ·exact h rfl
    ·exact h rfl
  rw[oneE,if_pos this,xIt_parts]
 have a:Cc [xIt,⟨1,x⟩] 1 ⟨1,x⟩=0:=by
  rw[Cc,if_neg,if_neg,if_neg,if_neg]
  ·omega
  ·show¬(40:Int)<=1;omega
  ·rintro⟨_,h|⟨y,b,h|h⟩⟩
   ·exact absurd h (by show¬(1:Int)<1;omega)
   ·cases b;exact absurd h (by show¬(0:Int)+1<1;omega)
   ·cases b;exact absurd h.2 (by decide)
  ·rintro⟨h,_⟩;omega
 rw[D5,if_neg (by simp),FK,if_pos c,FK];by_cases h:Ap x=0
 ·have:oneE [xIt,⟨1,x⟩] (0+1) ⟨1,x⟩=0:=by rw[oneE,if_pos a];exact h
  rw[if_pos this,FK,h]
 ·have:oneE [xIt,⟨1,x⟩] (0+1) ⟨1,x⟩=Ap x:=by rw[oneE,if_pos a]
  rw[this,if_neg h]
end Go.Nod
namespace Go.Proofs.YtljenkbpnioipaaGreat
noncomputable section
open Go Go.Vc Go.Nod
theorem NI:∀(l:List It)(p:Option It)(m:Int),EU p l=0->IK p<=m->∀x∈l,0<=x.level/\x.level<=m+l.length
 | [],p,m,_,_,x,a=>by cases a
 |y::r,p,m,h,hm,x,a=>by
  rw[EU]at h;split at h
  ·cases h
  rename_i b;have f:0<=y.level/\y.level<=IK p:=⟨Int.not_lt.1 fun e=>b (.inl e),Int.not_lt.1 fun e=>b (.inr e)⟩;split at h
  ·rw[length_cons]
   rcases mem_cons.1 a with rfl|a
   ·omega
   ·have c:IK (some y)<=m+1:=by
     show(if y.x.kind=2 then y.level else y.level+1)<=m+1;split<;>omega
    have:=NI r (some y) (m+1) h c x a;omega
  ·rename_i d;exact(d h).elim
theorem gForest_spec(a:Option Addr)(n c:Nat)(l:List It)(ss:List Sl3)(w:World)(C:DX [] w a n l ss)(hn:n<=140737488355328):
  Calls Tryz.prog 148 #[.slice a n c] w fun e w'=>(∃d,e=.returned (.tuple #[.int .i64 d,.int .i64 (ED l)])/\(ED l=0->d=deepest l))/\Hp [] w w' []:=by
 apply gForest.ok;unfold gForest.vc;have L:=C.now.len;refine AB (fun h=>⟨⟨0,?_,fun g=>?_⟩,Hp.start w⟩) (fun h=>?_)
 ·have:l=[]:=eq_nil_of_length_eq_zero (by omega)
  rw[ED,if_pos this]
 ·have:l=[]:=eq_nil_of_length_eq_zero (by omega)
  rw[ED,if_pos this]at g;cases g
 have X:l≠[]:=fun e=>h (by rw[L,e];rfl);rw[ED,if_neg X]
 refine AP.mk (fun m s w'=>∃k:Nat,m=n-k/\k<=n/\s=(deepest (l.take k),(k:Int))/\(∃p,EU p (l.drop k)=EU none l/\(k=0->p=none)/\(0<k->p=l[k-1]?))/\(∀(j:Nat)(y:It),j<k->l[j]? =some y->0<=y.level/\y.level<=j)/\Hp [] w w' []) n
  ⟨0,rfl,by omega,rfl,⟨none,rfl,fun _=>rfl,by omega⟩,by omega,Hp.start w⟩ ?_
 rintro m s w1 next ⟨k,rfl,hk,rfl,⟨p,q,Y,M⟩,i,H⟩ D
 dsimp only;refine AB (fun Z=>?_) (fun Z=>?_);rotate_left
 ·have r:k=l.length:=by omega
  rw[r,List.drop_length,EU]at q;rw[r,take_length,<- q];exact⟨⟨_,rfl,fun _=>rfl⟩,H⟩
 have r:k<n:=by omega
 have E:=C.now.go H;obtain⟨x,s,u,T,_⟩:=E.at_ (k:=k) r;obtain⟨ad,F,aa⟩:=E.some u T;have N:=(List.getElem?_eq_some_iff.1 u).1
 have ab:l.drop k=x::l.drop (k+1):=by rw[List.drop_eq_getElem_cons N,(List.getElem?_eq_some_iff.1 u).2]
 rw[ab,EU]at q;refine AA F ⟨⟨by omega,Z⟩,_,_,_,_,_,_,_,by rw[Int.toNat_natCast];exact aa,?_⟩;intro xb w2 ac;replace H:=H.nw ac;refine Hp.sA H Dh (cs':=itC x s) fun w3 H=>?_;refine Am.mk (fun t w'=>((k=0/\t=(0,false))\/∃y,0<k/\l[k-1]? =some y/\t=(y.level+1,decide (y.x.kind=2)))/\Hp [] w w' [.blk xb (itC x s) 123]) ?_ ?_
 ·rintro⟨O,P⟩ w4 ⟨z,Q⟩
  dsimp only;clear H
  have f:(k=0/\p=none/\O=0/\P=false)\/∃y,0<k/\p=some y/\O=y.level+1/\P=decide (y.x.kind=2):=by
   rcases z with⟨g,G⟩|⟨y,g,G,A⟩
   ·cases G;exact .inl ⟨g,Y g,rfl,rfl⟩
   ·cases A;exact .inr ⟨y,g,by rw[M g,G],rfl,rfl⟩
  have I:(x.level<0\/IK p<x.level)->(∃d,Ending.returned (.tuple #[.int .i64 0,.int .i64 69])=.returned (.tuple #[.int .i64 d,.int .i64 (EU none l)])/\(EU none l=0->d=deepest l))/\Hp [] w w4 []:=fun hb=>by
   rw[if_pos hb]at q;exact⟨⟨0,by rw[<- q],fun h9=>by omega⟩,Q.drop⟩
  refine⟨x.level,Q.lo yInt,AB (fun g=>I (.inl g)) (fun g=>⟨x.level,Q.lo yInt,AB (fun G=>I (.inr ?_)) (fun G=>?_)⟩)⟩
  ·rcases f with⟨_,rfl,rfl,_⟩|⟨y,_,rfl,rfl,_⟩
   ·exact G
   ·show(if y.x.kind=2 then y.level else y.level+1)<x.level
    split<;>omega
  refine(fun(kk:¬(x.level<0\/IK p<x.level)->_)=>JH (fun A=>⟨x.level,Q.lo yInt,AB (fun h5=>I (.inr ?b1)) (fun h5=>kk (?c1:¬(x.level<0\/IK p<x.level)))⟩) (fun A=>kk (?c2:¬(x.level<0\/IK p<x.level)))) ?_
  case b1=>
   rcases f with⟨_,_,_,rfl⟩|⟨y,_,rfl,rfl,rfl⟩
   ·cases A
   ·have:=of_decide_eq_true A
    show(if y.x.kind=2 then y.level else y.level+1)<x.level;rw[if_pos this];omega
  case c1=>
   rintro(B|B)
   ·exact g B
   ·rcases f with⟨_,_,_,rfl⟩|⟨y,_,rfl,rfl,rfl⟩
    ·cases A
    ·have:=of_decide_eq_true A
     have h7:(if y.x.kind=2 then y.level else y.level+1)<x.level:=B;rw[if_pos this]at h7;omega
  case c2=>
   rintro(B|B)
   ·exact g B
   ·rcases f with⟨_,rfl,rfl,_⟩|⟨y,_,rfl,rfl,rfl⟩
    ·exact G B
    ·have:=of_decide_eq_false A
     have h7:(if y.x.kind=2 then y.level else y.level+1)<x.level:=B;rw[if_neg this]at h7;omega
  intro K;rw[if_neg K]at q;have ae:0<=x.level:=Int.not_lt.1 fun e=>K (.inl e);have af:x.level<=IK p:=Int.not_lt.1 fun e=>K (.inr e)
  have ag:x.level<=k:=by
   rcases f with⟨_,rfl,_⟩|⟨y,h0,rfl,_⟩
   ·have:IK none=0:=rfl
    omega
   ·have b:l[k-1]? =some y:=by rw[<- M h0]
    have U:=(i (k-1) y (by omega) b).2;have h9:x.level<=(if y.x.kind=2 then y.level else y.level+1):=af;split at h9<;>omega
  refine Hp.st (o:=0) Q EQ4 yInt rfl rfl (by simp[itC]) (cs':=itC ⟨1,x.x⟩ s) rfl fun w5 H5=>?_;refine⟨_,_,_,_,_,_,_,H5.ldA (vs:=itC ⟨1,x.x⟩ s) EQ4 Dh (.head _) rfl rfl,?_⟩;intro b2 w6 ah;have H6:=H5.new (cs:=itsC [xIt,⟨1,x.x⟩] [(none,0,0),s]) EQ4 ah;have ak:=((C.now.go H6.drop.drop).attrs k x s u T)
  have al:ItR w6 (some ⟨b2,0,none⟩) 2 [xIt,⟨1,x.x⟩] [(none,0,0),s]:=⟨rfl,rfl,(H6.blk (.head _)).cells,fun j y t b z=>by
   cases j with
   |zero=>cases b;cases z;exact⟨rfl,fun j v hv=>by simp[xIt,atC]at hv⟩
   |succ j=>cases j with
    |zero=>cases b;cases z;exact ak
    |succ j=>simp at b⟩
  refine AC (IJ _ 2 2 _ _ w6 al (by simp[maxLen]) (fun t z=>?_) (fun y b=>?_)) ?_
  ·rcases mem_cons.1 z with rfl|z
   ·exact Nat.zero_le _
   ·rw[mem_singleton.1 z];exact C.sls s (mem_of_getElem? T)
  ·rcases mem_cons.1 b with rfl|b
   ·exact⟨by simp[xIt,xName,maxLen,ByteArray.size],by simp[xIt,maxLen,ByteArray.size],by simp[xIt]⟩
   ·rw[mem_singleton.1 b];exact C.small x (mem_of_getElem? u)
  rintro _ w7 ⟨rfl,H'⟩;have H7:=H6.ext0 H';rw[check_two];refine⟨_,_,rfl,Aa (fun U=>?_) (fun U=>?_)⟩
  ·rw[if_neg U]at q
   exact⟨⟨0,by rw[<- q],fun h9=>by omega⟩,H7.drop.drop⟩
  ·rw[if_pos U]at q
   have am:=C.now.go H7.drop.drop;refine AA F ⟨⟨by omega,Z⟩,x.level,?_,iR,D (n-(k+1)) _ _ (by omega) ⟨k+1,rfl,by omega,?_,⟨some x,q,by omega,fun _=>by rw[Nat.add_sub_cancel];exact u.symm⟩,fun j y hj b=>?_,H7.drop.drop⟩⟩
   ·have:=am.ld u T F yInt (j:=0) rfl
    rw[Int.toNat_natCast];exact this
   ·have e:l.take (k+1)=l.take k++[x]:=by rw[take_succ_eq_append_getElem N,(List.getElem?_eq_some_iff.1 u).2]
    have e2:deepest (l.take k++[x])=max (KZ 0 (l.take k)) x.level:=Q5 _ 0 x;rw[e,e2];rfl
   ·by_cases e:j=k
    ·subst e;rw[u]at b;cases b;exact⟨ae,ag⟩
    ·exact i j y (by omega) b
 ·intro J hJ
  refine AB (fun g=>?_) (fun g=>hJ _ _ ⟨.inl ⟨by omega,rfl⟩,H⟩)
  have an:0<k:=by omega
  obtain⟨y,sy,b,R,_⟩:=E.at_ (k:=k-1) (by omega);have S:=C.now.go H.drop.drew
  have ek:Int.toNat ((k:Int)-1)=k-1:=by omega
  have ao:=i (k-1) y (by omega) b;refine⟨iR,AA F ⟨⟨by omega,by omega⟩,y.level,?_,iR,iR,AA F ⟨⟨by omega,by omega⟩,y.x.kind,?_,hJ _ _ ⟨.inr ⟨y,an,b,rfl⟩,H.drew⟩⟩⟩⟩
  ·rw[ek];exact S.ld b R F yInt (j:=0) rfl
  ·rw[ek,add_add];exact S.ld b R F yInt (j:=1) rfl
end
end Go.Proofs.YtljenkbpnioipaaGreat
namespace Go.Nod
theorem named_shift(l:List It)(b:Int):∀(n:Int),KI (Ar n b l) b=Ar n 0 l:=by
 induction l with
 |nil=>intro n;rfl
 |cons x l a=>
  intro n;have:=a (n+1);rw[KI]at this⊢;rw[Ar,Ar,map_cons,this];congr 2;show x.level+b-b=x.level+0;omega
section
variable{F:Fo}{p i l q:Int}{x:NX}{k:Fo}{A B:List Rw}{v:Int}
theorem Mid.Y8(h:Mid F p i l q x k A B v):(Lp (flat F l) A.length).length=(tops k).length:=by rw[h.kids,TU]
end
theorem BM.rows{F:Fo}{T:Tr}(G:BM F T){i q:Int}{x:NX}{k:Fo}(h:AX F 0 i=some (q,x,k)):∃A B v,Mid F 0 i 0 q x k A B v/\FW T.L i=some A.length/\atR T.L i=some (A.length,⟨i,v,x⟩)/\v<40/\0<=v:=by
 rcases G.at_ i with⟨a,_⟩|⟨e,f,g,A,B,v,a,b,c,d⟩
 ·rw[h]at a;cases a
 ·rw[h]at a;cases a
  refine⟨A,B,v,b,c,d,?_,b.le⟩;have:=b.level;rw[G.fl]at this;exact G.deep _ this
theorem BM.noRow{F:Fo}{T:Tr}(G:BM F T){i:Int}(h:AX F 0 i=none):FW T.L i=none/\atR T.L i=none:=by
 rcases G.at_ i with⟨_,b,c⟩|⟨d,e,f,A,B,v,a,_⟩
 ·exact⟨c,b⟩
 ·rw[h]at a;cases a
end Go.Nod
namespace Go.Proofs.YtljenkbpnioipaaGreat
noncomputable section
open Go Go.Vc Go.Nod
theorem Fv(F:Fo):AZ F=(tops F).headD 0:=by cases F<;>rfl
theorem Sv(i:Int)(f:Fo->Fo)(F:Fo):AZ (under i f F)=AZ F:=by rw[Fv,Fv,MF]
theorem gInsert_spec{f:List Nat}{b:Nat}{T:Tr}{w:World}(h:(AU f b T).ok w)(id at_:Int)(la:Option Addr)(n lc:Nat)(l:List It)(ss:List Sl3)(hA:DX f w la n l ss)(ap:n<=140737488355328):
  Calls Tryz.prog 91 #[.pointer (some ⟨b,0,none⟩),.int .i64 id,.int .i64 at_,.slice la n lc] w fun e w'=>∃f',e=.returned (.tuple #[.int .i64 (T.insert id at_ l).2.1,.int .i64 (T.insert id at_ l).2.2])/\Hp f w w' [AU f' b (T.insert id at_ l).1]:=by
 apply gInsert.ok;unfold gInsert.vc;have H0:Hp f w w [AU f b T]:=BZ h;have O:=hA.now.len;obtain⟨M,⟨F,D,mb,ws,hw,rfl⟩,H,hf⟩:=H0.unpack;have bm:=D.next
 have s:∀(w':World)(c:Int),Hp f w w' [AU f b T]->T.insert id at_ l=(T,0,c)->∃f',Ending.returned (.tuple #[.int .i64 0,.int .i64 c])=.returned (.tuple #[.int .i64 (T.insert id at_ l).2.1,.int .i64 (T.insert id at_ l).2.2])/\Hp f w w' [AU f' b (T.insert id at_ l).1]:=fun w' c H9 e=>⟨f,by rw[e],by rw[e];exact H9⟩
 refine AC (MJ D.nodup hw H.std1 id) ?_;rintro e w1 ⟨rfl,⟨t,rfl⟩|⟨q,x,k,t,Z,rfl⟩|⟨q,x,k,Aw,y,Bw,t,Z,a7,rfl⟩⟩
 ·refine⟨_,_,rfl,Aa (fun _=>s _ _ H0 (by rw[Tr.insert,(D.noRow t).2])) (fun e=>by omega)⟩
 ·obtain⟨A,B,v,hm,a8,u,hv,a9⟩:=D.rows t
  refine⟨_,_,rfl,Aa (fun _=>s _ _ H0 (by rw[Tr.insert,u];dsimp only;rw[if_pos Z])) (fun e=>by omega)⟩
 obtain⟨A,B,v,hm,a8,u,hv,a9⟩:=D.rows t;have I:¬x.kind≠1:=fun h=>h Z
 have aq:(Lp T.L A.length).length=(tops k).length:=by rw[<- D.fl];exact hm.Y8
 refine⟨_,_,rfl,Aa (fun e=>by omega) (fun _=>AB (fun h1=>?_) (fun h1=>?_))⟩
 ·refine s _ _ H0 ?_
  rw[Tr.insert,u];dsimp only;rw[if_neg I,if_pos (.inl h1)]
 have ar:Asn.blk y.b (nodC y ⟨id,q,x,tops k⟩) 139∈treL b mb (AZ F) T.next ws++[]:=mem_append_left _ (Di (p:=(y,⟨id,q,x,tops k⟩)) (by rw[a7];simp) (.head _));refine AA rfl ⟨_,_,_,by rw[add_lit];exact H.ld (o:=7) (cs:=nodC y ⟨id,q,x,tops k⟩) EQ4 nSI ar rfl,AB (fun h2=>?_) (fun h2=>?_)⟩
 ·refine s _ _ H0 ?_
  have:((tops k).length:Int)<at_:=h2
  rw[Tr.insert,u];dsimp only;rw[if_neg I,if_pos (.inr (by rw[aq];exact this))]
 have bn:at_<=((tops k).length:Int):=Int.not_lt.1 h2
 have g:¬(at_<0\/((Lp T.L A.length).length:Int)<at_):=by rw[aq];omega
 refine AC (gForest_spec la n lc l ss w1 ⟨fun W hW=>hA.rd W (hW.more (by simp)),hA.len,hA.sls,hA.small⟩ ap) ?_;rintro _ w2 ⟨⟨d,rfl,hd⟩,Hf⟩;have aa:=H0.ext0 Hf;have H':=H.ext0 Hf;refine⟨_,_,rfl,Aa (fun h3=>s _ _ aa ?_) (fun h3=>?_)⟩
 ·rw[Tr.insert,u];dsimp only;rw[if_neg I,if_neg g,if_pos h3]
 have J:ED l=0:=h3;have ab:¬ED l≠0:=fun h=>h J;have hd:=hd J;subst hd;obtain⟨N,ac,ag,bo,ba⟩:=forest_good J (v+1) T.next
 have ah:l≠[]:=fun e=>by rw[ED,if_pos e]at J;cases J
 obtain⟨i1,x1,k1,bb⟩:∃i1 x1 k1,F=.cons i1 x1 k1 .nil:=by
  rcases D.one with e|⟨i1,x1,k1,e,_⟩
  ·rw[e]at t;cases t
  ·exact⟨i1,x1,k1,e⟩
 have E:∀j∈ids F,j≠0:=fun j hj=>by have:=D.pos j hj;omega
 have C:id∈ids F:=(Au F 0 id).1 (by rw[t];simp);refine AC (XU D.nodup E ⟨i1,x1,k1,bb⟩ hw H'.std1 t hm (by omega)) ?_;rintro _ w3 ⟨rfl,rfl⟩
 have bp:0<=deepest l/\deepest l<=l.length:=by
  refine⟨(TG l 0).1,?_⟩
  have av:∀x∈l,x.level<=l.length:=fun x hx=>by
   have h9:EU none l=0:=by rw[ED,if_neg ah]at J;exact J
   have:=NI l none 0 h9 (Int.le_refl _) x hx;omega
  have bc:∀(l':List It)(d m:Int),d<=m->(∀x∈l',x.level<=m)->KZ d l'<=m:=by
   intro l'
   induction l' with
   |nil=>intro d m hd _;exact hd
   |cons y r ih=>
    intro d m hd hx;have:=hx y (.head _);exact ih (max d y.level) m (by omega) fun x bd=>hx x (.tail _ bd)
  exact bc l 0 _ (by omega) av
 refine⟨_,rfl,iR,iR,AB (fun h4=>s _ _ aa ?_) (fun h4=>?_)⟩
 ·rw[Tr.insert,u];dsimp only;rw[if_neg I,if_neg g,if_neg ab,if_pos h4]
 have aw:MapAt (CZ .i64) w3 mb (nodM ws):=H'.ok _ m1
 have ak:(nodM ws).length=T.L.length:=by rw[nodM,length_map,hw.len,BP D]
 have bq:=D.len;refine AA rfl ⟨some mb,H'.lo nMN,_,run_len_map Dy.und aw,CX.2 (by rw[ak];omega),AB (fun h5=>s _ _ aa ?_) (fun h5=>?_)⟩
 ·rw[ak]at h5
  rw[Tr.insert,u];dsimp only;rw[if_neg I,if_neg g,if_neg ab,if_neg h4,if_pos (.inl (by omega))]
 rw[ak]at h5;refine AA rfl ⟨T.next,by rw[add_lit];exact H'.lo yInt,iR,AB (fun h6=>s _ _ aa ?_) (fun h6=>?_)⟩
 ·rw[Tr.insert,u];dsimp only;rw[if_neg I,if_neg g,if_neg ab,if_neg h4,if_pos (.inr (by omega))]
 have al:¬(1000<T.L.length+l.length\/2147483647<T.next+l.length):=by omega
 refine AC (YK H'.std1 n (by omega) (by omega) (by omega)) ?_;rintro _ w5 ⟨za,zc,rfl,H7⟩;have H8:=H'.useL H7;rw[append_nil]at H8;refine⟨za,n,zc,rfl,?_⟩;obtain⟨zs,K⟩:∃zs:List Int,zs=(List.range n).map fun(k:Nat)=>T.next+(k:Int):=⟨_,rfl⟩;rw[<- K]at H8
 have a0:zs.length=l.length:=by rw[K];simp;omega
 have ad:∀z∈zs,T.next<=z/\z<T.next+n:=fun z hz=>by
  rw[K]at hz;obtain⟨k,hk,rfl⟩:=mem_map.1 hz;have:=List.mem_range.1 hk;omega
 have ae:∀x∈l,Ap x.x=0:=fun x hx=>by
  obtain⟨k,hk⟩:=List.getElem?_of_mem hx
  have h9:(flat N (v+1))[k]? =some ⟨T.next+k,x.level+(v+1),x.x⟩:=by rw[ac,EW,hk];rfl
  exact Hq N _ ag _ (mem_of_getElem? h9)
 obtain⟨R,a1,bf,_⟩:=Dn F 0 id D.nodup t
 obtain⟨U,a2⟩:∃U:Nat,at_=U:=⟨at_.toNat,by omega⟩
 have P:U<=(tops k).length:=by omega
 have a3:(ents F 0).map (·.id)=ids F:=Bi F 0
 have X:(ids F).Perm (id::(ents k id++R).map (·.id)):=by
  have:=a1.map (·.id)
  rwa [a3]at this
 have bu:=Iy k
 have bv:(ids k).length<=(ids F).length:=by rw[hm.ids];simp;omega
 have bw:=BP D;refine AC (WY (w:=w5) (H8.drop).std id at_ la n lc l ss za zc zs (fun W hW=>hA.rd W ((H8.drop).chgT hW)) (fun W hW=>?_) a0 ah (by omega) (hA.att ae) (Xd ac ag) (fun e=>(E id C e).elim) ⟨id,q,x,tops k⟩ (ents k id++R) ?_ ?_ (fun z hz=>by have:=ad z hz;omega) ⟨by omega,by dsimp only;omega⟩ (by dsimp only;omega)) ?_
 ·exact Own.cells (show Own W 0 3 1 za n zc (AO zs)from Hp.stays H8 hW)
 ·refine .inr ⟨E id C,rfl,rfl,?_⟩
  rw[tops,insAt_nil,ents,nil_append];exact hw.trans a1
 ·rw[IU,if_neg (E id C)]
  refine nodup_append.2 ⟨by rw[K];exact Tq _ _,X.nodup_iff.1 D.nodup,fun a ha c hc e=>?_⟩;have h1:=ad a ha;have h2:=D.pos c (X.mem_iff.2 hc);omega
 rintro _ w6 ⟨af,G,a4,bx,rfl,hI,H9⟩;have a5:=(H8.drop).WO H9
 have bg:flat G 0=Ar T.next 0 l:=by
  rw[hI.fl,O];exact XN T.next l zs (by rw[K,O])
 have bh:G=N:=Jz G N 0 (by
  have:=Fe N (v+1) (v+1);rw[ac,named_shift,Int.sub_self]at this
  rw[bg,this])
 subst bh
 have S:ids G=zs:=by
  rw[<- BD G 0,hI.fl,UX (by rw[length_take,length_take];omega),take_of_length_le (by omega)]
 obtain⟨hE,am⟩:(af.map (·.2)).Perm (ents G id++ {(⟨id,q,x,tops k⟩:En)with kids:=Dx (tops k) at_.toNat (tops G)}::(ents k id++R))/\a4=AZ F:=by
  rcases hI.ents with⟨h2,_⟩|⟨_,_,h3,h4⟩
  ·exact(E id C h2).elim
  ·exact⟨h4,h3⟩
 have ao:=D.put (n:=U) (N:=G) (next:=T.next+l.length) t hm Z P ag (by rw[S,K];exact Tq _ _) (fun j hj bi=>by
  have h1:=ad j (by rw[<- S];exact hj);have h2:=D.pos j bi
  omega) (fun r hr=>by have:=ba r hr;omega) (by rw[S,a0];omega) (fun j hj=>by
  have:=ad j (by rw[<- S];exact hj)
  omega) (by omega)
 have Y:=hm.laid P G;rw[ac,D.fl]at Y
 have a6:T.insert id at_ l=(⟨flat (under id (putAt U G) F) 0,T.next+l.length⟩,T.next,0):=by
  rw[Tr.insert,u];dsimp only;rw[if_neg I,if_neg g,if_neg ab,if_neg h4,if_neg al,<- Y,a2,Int.toNat_natCast]
 have bj:CY (under id (putAt U G) F) af:=by
  refine hE.trans (List.Perm.trans ?_ (bf (putAt U G)).symm);rw[SH P,a2,Int.toNat_natCast];have h7:=OI U G k id P;refine List.Perm.trans ?_ ((h7.append_right R).cons _).symm;rw[append_assoc];exact perm_middle
 rw[a6];rw[am,O,<- Sv id (putAt U G) F]at a5
 have bk:Hp f w1 w6 (treL b mb (AZ (under id (putAt U G) F)) (T.next+l.length) af++[]):=by rw[append_nil];exact a5
 obtain⟨f',bl⟩:=bk.Cm (Q:=Jn b ⟨flat (under id (putAt U G) F) 0,T.next+l.length⟩) ⟨_,ao,mb,af,bj,rfl⟩;refine⟨_,rfl,f',?_,bl⟩
 have:zs.headD 0=T.next:=by
  obtain⟨x,r,e⟩:=List.exists_cons_of_ne_nil ah;rw[K,O,e,length_cons,List.range_succ_eq_map];simp
 rw[this]
end
end Go.Proofs.YtljenkbpnioipaaGreat
namespace Go.Vc
theorem Hp.delI{P:Program}{B:List Nat}{w0 w w':World}{L:List Asn}{t d f:TypeId}{z:Value}{b:Nat}{k:IntKind}{al:List (Int×Value)}(T:MapT P (CZ k) t d f z){c:Array TypeId}{ty:TypeId}(a:c[0]? =some t)(H:Hp B w0 w (.imap b k al::L))(e:Eqw w w'){x:Int}{G:World->Prop}
  (g:∀w1,Hp B w0 w1 (.imap b k (adel al x)::L)->G w1):∃w1,Del P c ty w' (.map (some b)) (.int k x) w1/\G w1:=by
 obtain⟨w1,h,i,j⟩:=Yu (ty:=ty) T a ((H.go e).ok _ (.head _)) x;exact⟨w1,h,g w1 ((H.go e).set j i fun k l=>.inl l)⟩
end Go.Vc
namespace Go.Nod
theorem VZ:∀(l:List Int)(v:Int),v∈l->l.erase v=l.take (l.idxOf v)++l.drop (l.idxOf v+1)
 | [],v,h=>by cases h
 |x::r,v,h=>by
  by_cases e:x=v
  ·subst e;simp
  ·have a:(x==v)=false:=by simpa using e
   have c:v∈r:=(mem_cons.1 h).resolve_left fun h=>e h.symm;rw[List.erase_cons,a,List.idxOf_cons,a,cond_false,take_succ_cons,drop_succ_cons,if_neg (by simp),VZ r v c];rfl
theorem UU:∀(F G:Fo)(p i:Int),i∉ids F->AX (app F G) p i=AX G p i
 |.nil,G,p,i,_=>rfl
 |.cons j x k s,G,p,i,h=>by
  rw[ids,mem_cons,mem_append,not_or,not_or]at h
  have a:AX k j i=none:=by
   cases h9:AX k j i with
   |none=>rfl
   |some c=>exact(h.2.1 ((Au k j i).1 (by rw[h9];simp))).elim
  rw[app,AX,if_neg (fun e=>h.1 e.symm),a];exact UU s G p i h.2.2
end Go.Nod
namespace Go.Proofs.YtljenkbpnioipaaGreat
noncomputable section
open Go Go.Vc Go.Nod
theorem V6{ws:List (NW×En)}{e:En}{R:List En}(c:(ws.map (·.2)).Perm (e::R)):∃A y Bw,ws=A++(y,e)::Bw:=by
 obtain⟨⟨y,f⟩,d,a⟩:=mem_map.1 (c.mem_iff.2 (.head _));dsimp only at a;subst a;obtain⟨A,B,h⟩:=append_of_mem d;exact⟨A,y,B,h⟩
theorem LC{A Bw:List (NW×En)}{y y':NW}{e e':En}{R:List En}(h:((A++(y,e)::Bw).map (·.2)).Perm (e::R)):((A++(y',e')::Bw).map (·.2)).Perm (e'::R):=by
 rw[map_append,map_cons]at h⊢;exact List.perm_middle.trans (List.Perm.cons e' (List.perm_middle.symm.trans h).cons_inv)
theorem IG{B:List Nat}{w0 w:World}{b mb:Nat}{root next:Int}{A Bw:List (NW×En)}{p:NW×En}{X:List Asn}(H:Hp B w0 w (treL b mb root next (A++p::Bw)++X)):
  Hp B w0 w (nodL p++(.blk b (treC mb root next) 119::.imap mb .i64 (nodM (A++p::Bw))::(BR (A++Bw)++X))):=by
 have:=H.perm ((JE b mb root next A p Bw).append_right X);rw[append_assoc]at this;exact this
theorem Jk{B:List Nat}{w0 w:World}{b mb:Nat}{root next:Int}{A Bw:List (NW×En)}{y y':NW}{e e':En}{X:List Asn}(c:y'.b=y.b)(d:e'.id=e.id)
  (H:Hp B w0 w (nodL (y',e')++(.blk b (treC mb root next) 119::.imap mb .i64 (nodM (A++(y,e)::Bw))::(BR (A++Bw)++X)))):Hp B w0 w (treL b mb root next (A++(y',e')::Bw)++X):=by
 have a:=(JE b mb root next A (y',e') Bw).append_right X;rw[Ju c d,append_assoc]at a;exact H.perm a.symm
section
variable{b mb:Nat}{root next:Int}{F:Fo}{ws:List (NW×En)}{w:World}
theorem Zr(hn:(ids F).Nodup)(B:CY F ws)(Q:Std w (treL b mb root next ws)){i q:Int}{x:NX}{k:Fo}(C:AX F 0 i=some (q,x,k)){r:En}{R:List En}(S:r.id=q)(s:i∈r.kids)(T:(ents F 0).Perm (⟨i,q,x,tops k⟩::(ents k i++r::R)))(U:r.kids.length<=100000):
  Calls Tryz.prog 150 #[.pointer (some ⟨b,0,none⟩),.int .i64 i] w fun e w'=>∃ws',e=.returned (.tuple #[])/\(ws'.map (·.2)).Perm (⟨i,q,x,tops k⟩::(ents k i++ {r with kids:=r.kids.erase i}::R))/\nodM ws'=nodM ws/\Hp (feet (treL b mb root next ws)) w w' (treL b mb root next ws'):=by
 apply gCut.ok;unfold gCut.vc
 have H:Hp (feet (treL b mb root next ws)) w w.drew (treL b mb root next ws):=(Hp.Bv Q).drew
 generalize feet (treL b mb root next ws)=BB at*
 have f:(ws.map (·.2)).Perm (r::(⟨i,q,x,tops k⟩::(ents k i++R))):=by
  refine(B.trans T).trans ?_
  have:(⟨i,q,x,tops k⟩::(ents k i++r::R):List En)=(⟨i,q,x,tops k⟩::ents k i)++r::R:=rfl
  rw[this]
  exact perm_middle
 obtain⟨A1,t,B1,g,D⟩:=B.at_ hn C
 obtain⟨A,y,u,d⟩:=V6 f
 have j:aget (nodM ws) q=some (.pointer (some ⟨y.b,0,none⟩)):=(Ea (B.apart hn)).2 (mem_map.2 ⟨(y,r),by rw[d];simp,by rw[S]⟩)
 have Y:Asn.blk t.b (nodC t ⟨i,q,x,tops k⟩) 139∈treL b mb root next ws:=Di (p:=(t,⟨i,q,x,tops k⟩)) (by rw[g];simp) (.head _)
 have E:∀a∈nodL (y,r),a∈treL b mb root next ws:=fun a h=>Di (p:=(y,r)) (by rw[d];simp) h
 refine AA rfl ⟨some mb,H.ld (o:=0) (cs:=treC mb root next) EQ4 nMN (.head _) rfl,AA rfl ⟨some mb,H.ld (o:=0) (cs:=treC mb root next) EQ4 nMN (.head _) rfl,_,H.lkI Dy EQ4 (.tail _ (.head _)) (by rw[D];rfl),AA rfl ⟨q,by rw[add_lit];exact H.ld (o:=1) (cs:=nodC t ⟨i,q,x,tops k⟩) EQ4 yInt Y rfl,_,H.lkI Dy EQ4 (.tail _ (.head _)) (by rw[j];rfl),?_⟩⟩⟩
 have l:=H.ownA (a:=y.ka) (n:=r.kids.length) (c:=y.kc) (xs:=AO r.kids) (E _ (.tail _ (.tail _ (.head _))))
 have Z:(AO r.kids).length=r.kids.length:=UI _
 refine AA rfl ⟨_,_,_,by rw[add_lit];exact H.ld (o:=7) (cs:=nodC y r) EQ4 nSI (E _ (.head _)) rfl,?_⟩
 refine AC (lIdxI_spec y.ka r.kids.length y.kc r.kids i w.drew l.cells rfl (by simp only[maxLen];omega)) ?_
 rintro _ w2 ⟨rfl,rfl⟩
 rw[if_pos s]
 have G:r.kids.idxOf i<r.kids.length:=List.idxOf_lt_length_of_mem s
 refine⟨_,rfl,AA rfl ⟨_,_,_,by rw[add_lit];exact H.ld (o:=7) (cs:=nodC y r) EQ4 nSI (E _ (.head _)) rfl,CX.2 (by omega),?_⟩⟩
 rw[d]at H
 have H1:=IG (X:=[]) (by rw[append_nil];exact H)
 have N:=H1.perm (M:=.own 3 1 y.ka r.kids.length y.kc (AO r.kids)::.blk y.b (nodC y r) 139::.own 142 2 y.aa r.x.attrs.length y.ac (atC r.x.attrs)::(.blk b (treC mb root next) 119::.imap mb .i64 (nodM (A++(y,r)::u))::(BR (A++u)++[]))) (by
  refine AL fun ff gg I J j K=>?_
  simp only[nodL,j,J,I];omega)
 refine AC (lDelI_spec y.ka r.kids.length y.kc (r.kids.idxOf i) (AO r.kids) _ (N.ownA (.head _)) (Kt _) G) ?_
 rintro _ w3 ⟨rfl,z⟩
 replace z:=N.BX z
 have L:(AO r.kids).take (r.kids.idxOf i*1)++(AO r.kids).drop ((r.kids.idxOf i+1)*1)=AO (r.kids.erase i):=by
  rw[VZ _ _ s,Nat.mul_one,Nat.mul_one]
  simp[AO,map_take,map_drop]
 have m:r.kids.length-1=(r.kids.erase i).length:=by rw[List.length_erase_of_mem s]
 rw[L]at z
 refine⟨_,_,_,rfl,AA rfl ?_⟩
 rw[add_lit]
 refine Hp.st (o:=7) z.Af EQ4 nSI rfl rfl (by simp[nodC]) (cs':=nodC y {r with kids:=r.kids.erase i}) (by rw[m];rfl) fun w4 O=>?_
 refine⟨A++(y,{r with kids:=r.kids.erase i})::u,rfl,?_,?_,?_⟩
 ·rw[d]at f
  refine(LC (y':=y) f).trans ?_
  have:(⟨i,q,x,tops k⟩::(ents k i++ {r with kids:=r.kids.erase i}::R):List En)=(⟨i,q,x,tops k⟩::ents k i)++ {r with kids:=r.kids.erase i}::R:=rfl
  rw[this]
  exact(perm_middle (l₁:=(⟨i,q,x,tops k⟩:En)::ents k i)).symm
 ·rw[d];exact Ju rfl rfl
 ·rw[m]at O
  have P:=Jk (b:=b) (mb:=mb) (root:=root) (next:=next) (A:=A) (Bw:=u) (y:=y) (e:=r) (y':=y) (e':= {r with kids:=r.kids.erase i}) (X:=[]) rfl rfl (O.perm (by
   refine AL fun ff gg I J j K=>?_
   simp only[nodL,j,J,I];omega))
  rw[append_nil]at P
  exact P
end
end
noncomputable section
open Go Go.Vc Go.Nod
theorem Gf{F:Fo}{T:Tr}(G:BM F T){i q:Int}{x:NX}{k:Fo}{A B:List Rw}{v:Int}(a:AX F 0 i=some (q,x,k))(m:Mid F 0 i 0 q x k A B v):i=AZ F↔A.length=0:=by
 rw[G.top0 m a];rcases G.one with e|⟨j,y,b,e,_⟩
 ·rw[e]at a;cases a
 ·rw[e,AZ,tops,tops,mem_singleton]
def FZ(ws:List (NW×En))(zs:List Int):List (NW×En):=ws.filter fun p=> !decide (p.2.id∈zs)
theorem leftW_nil(a:List (NW×En)):FZ a []=a:=by simp[FZ]
theorem leftW_snoc(a:List (NW×En))(b:List Int)(z:Int):nodM (FZ a (b++[z]))=acut (nodM (FZ a b)) z:=by
 have e:FZ a (b++[z])=(FZ a b).filter fun p=> !decide (p.2.id=z):=by
  rw[FZ,FZ,List.filter_filter];congr 1;funext p;rw[Bool.eq_iff_iff];simp only[mem_append,mem_singleton,Bool.not_eq_true',Bool.and_eq_true,decide_eq_false_iff_not,not_or];exact⟨fun h=>⟨h.2,h.1⟩,fun h=>⟨h.2,h.1⟩⟩
 rw[e,nodM,nodM,acut,List.filter_map];rfl
theorem leftW_apart{a:List (NW×En)}(h:EZ (nodM a))(b:List Int):EZ (nodM (FZ a b)):=by
 have:(nodM (FZ a b)).Sublist (nodM a):=by
  rw[nodM,nodM];exact List.filter_sublist.map _
 exact h.sublist (this.map _)
theorem leftW_nods(a:List (NW×En))(b:List Int):∃X,(BR a).Perm (BR (FZ a b)++X):=by
 refine⟨BR (a.filter fun p=> !(!decide (p.2.id∈b))),?_⟩;rw[<- OG];exact(List.filter_append_perm (fun p:NW×En=> !decide (p.2.id∈b)) a).symm.flatMap_right _
theorem gDelete_spec{f:List Nat}{b:Nat}{T:Tr}{w:World}(h:(AU f b T).ok w)(id:Int):
  Calls Tryz.prog 92 #[.pointer (some ⟨b,0,none⟩),.int .i64 id] w fun e w'=>∃f',e=.returned (.int .i64 (T.delete id).2)/\Hp f w w' [AU f' b (T.delete id).1]:=by
 apply gDelete.ok;unfold gDelete.vc;have H0:Hp f w w [AU f b T]:=BZ h;obtain⟨M,⟨F,l,n,ws,hw,rfl⟩,H,hf⟩:=H0.unpack;have O:∀(c:Int),T.delete id=(T,c)->∃f',Ending.returned (.int .i64 c)=.returned (.int .i64 (T.delete id).2)/\Hp f w w [AU f' b (T.delete id).1]:=fun c e=>⟨f,by rw[e],by rw[e];exact H0⟩;refine AA rfl ⟨some n,H.lo nMN,?_⟩
 cases i:AX F 0 id with
 |none=>
  have p:=hw.none i;exact⟨none,false,H.Lm Dy EQ4 m1 (by rw[p];rfl) (by rw[p];rfl),DR (x:=_) (O _ (by rw[Tr.delete,(l.noRow i).2]))⟩
 |some z=>
 obtain⟨q,x,k⟩:=z;obtain⟨Aw,y,Bw,bb,p⟩:=hw.at_ l.nodup i;obtain⟨A,B,v,J,bc,ak,hv,bd⟩:=l.rows i;refine⟨some ⟨y.b,0,none⟩,true,H.Lm Dy EQ4 m1 (by rw[p];rfl) (by rw[p];rfl),BG (x:=_) (AA rfl ⟨AZ F,by rw[add_lit];exact H.lo yInt,AB (fun h1=>O _ ?_) (fun h1=>?_)⟩)⟩
 ·rw[Tr.delete,ak];dsimp only;rw[if_pos ((Gf l i J).1 h1)]
 have al:¬A.length=0:=fun e=>h1 ((Gf l i J).2 e);have t:id∉tops F:=fun hh=>al ((l.top0 J i).2 hh)
 have S:T.delete id=(⟨flat (cutF id F) 0,T.next⟩,0):=by
  rw[Tr.delete,ak];dsimp only;rw[if_neg al,<- J.cutE,l.fl]
 rcases Nh F 0 id l.nodup i with⟨ht,_⟩|⟨_,r,R,ap,aq,hE,Z⟩
 ·exact(t ht).elim
 have bf:=BP l;have ba:=l.len;have bg:r.kids.length<=(ids F).length:=Gs F 0 r (hE.mem_iff.2 (.tail _ (mem_append_right _ (.head _))));refine AC (Zr l.nodup hw H.std1 i ap aq hE (by omega)) ?_;rintro _ w1 ⟨g,rfl,U,hM,H1⟩;have H2:=H.useL H1;rw[append_nil]at H2;clear H1;refine⟨rfl,fun lb w2 ar=>?_⟩;have H3:=H2.nw ar;refine AC (GI b id 0 w2) ?_;rintro _ w3 ⟨f0,f1,f2,rfl,Hb⟩;have H4:=H3.ext Hb;obtain⟨I,aa⟩:∃I,I=app (cutF id F) (.cons id x k .nil):=⟨_,rfl⟩
 have C:(ids I).Perm (ids F):=by
  rw[aa,LX,J.V9,J.ids,ids,ids,append_nil];refine List.Perm.trans ?_ (perm_middle (l₁:=A.map (·.id))).symm;refine(perm_append_comm).trans (List.Perm.cons _ ?_);rw[<- append_assoc];have:(Nod.ids k++(A.map (·.id)++B.map (·.id))).Perm (A.map (·.id)++(Nod.ids k++B.map (·.id))):=perm_append_comm_assoc _ _ _;rw[append_assoc];exact this
 have E:(ids I).Nodup:=C.nodup_iff.2 l.nodup
 have hV:Nu I g:=by
  refine Nu.of E ?_;have h7:=U.map KN;rw[map_map]at h7;refine h7.trans ?_;rw[aa,RJ,map_append,ents,ents,append_nil];have h8:=Z.map KN
  have e1:((⟨id,q,x,tops k⟩::(ents k id++ {r with kids:=r.kids.erase id}::R):List En).map KN)=((⟨id,0,x,tops k⟩::ents k id:List En).map KN)++(({r with kids:=r.kids.erase id}::R:List En).map KN):=by simp[KN]
  rw[e1];exact(h8.symm.append_left _).trans perm_append_comm
 have am:id∉ids (cutF id F):=fun hh=>((J.Qe l.nodup id).1 hh).2.1 rfl
 have ab:BJ I id=flat (.cons id x k .nil) 0:=by
  rw[BJ,aa,UU _ _ _ _ am,AX,if_pos rfl]
 obtain⟨d,ac⟩:∃d,d=(BJ I id).map (·.id):=⟨_,rfl⟩
 have G:d=id::ids k:=by rw[ac,ab,BD,ids,ids,append_nil]
 have av:d.length=(BJ I id).length:=by rw[ac,length_map]
 have bh:=PE E id
 have aw:(ids I).length<=1000:=by rw[C.length_eq];omega
 refine⟨_,rfl,137,#[],_,rfl,⟨_,_,Tryz.func137,rfl⟩,?_⟩
 refine IL (B:=f) (w0:=w) b n (AZ F) T.next g I E hV aw id f0 f1 f2
  (fun j L=>∃a c,L=.blk lb [.slice a j c] 59::.own 3 1 a j c (AO (d.take j))::treL b n (AZ F) T.next g) (fun _=>False)
  (.blk lb [.slice none 0 0] 59::.own 3 1 none 0 0 []::treL b n (AZ F) T.next g) [.blk f2 [.int .i64 0] 3,.blk f1 [.int .i64 id] 3,.blk f0 [.pointer (some ⟨b,0,none⟩)] 49] w3
  ?_ m2 m1 (.head _) ⟨none,0,rfl⟩ ?_ ?_ ?_ (fun _ _ _ h=>h.elim)
 ·rintro j _ ⟨a,c,rfl⟩ u hu
  exact .tail _ (.tail _ hu)
 ·have H5:=H4.nilS 3 1
  refine H5.perm ?_;refine AL fun ff gg h0 hc p ae=>?_;simp only[p,hc,h0];omega
 ·rintro j r0 an w4 T0 T1 _ a0 kn kr kx ⟨a,c,rfl⟩ H5 hb a1 _
  refine hb _ fun w5 H6=>?_;have af:=(List.getElem?_eq_some_iff.1 an).1;refine⟨a,j,c,H6.lo nSI,?_⟩;intro b2 w6 a2;have Y:=H6.nw a2;refine Hp.app Ll (by omega) Y.BA EQ4 (Blk.src (P:=Tryz.prog) LZ (Y.blk (.head _)) rfl rfl) (by simp only[maxLen];omega) (by omega) ?_;intro a' c' w7 H8;refine Hp.s1 H8.BA nSI (cs':=[.slice a' (j+1) c']) fun w8 H9=>?_;refine a1 w8 _ ⟨a',c',rfl⟩ ?_
  have K:d[j]? =some r0.id:=by rw[ac,List.getElem?_map,an];rfl
  have e:AO (d.take (j+1))=AO (d.take j)++[.int .i64 r0.id]:=by
   rw[take_succ_eq_append_getElem (List.getElem?_eq_some_iff.1 K).1,(List.getElem?_eq_some_iff.1 K).2];simp[AO]
  rw[e];exact H9.del2
 ·rintro D w4 _ ⟨a,c,rfl⟩ H5
  rw[<- av,take_length]at H5;refine⟨a,d.length,c,H5.lo nSI,?_⟩
  have H6:Hp f w w4 (.imap n .i64 (nodM (FZ g (d.take 0)))::.own 3 1 a d.length c (AO d)::dA D::.blk b (treC n (AZ F) T.next) 119::BR g):=by
   rw[take_zero,leftW_nil];refine Hp.BN (R:=[.blk lb [.slice a d.length c] 59,.blk f2 [.int .i64 0] 3,.blk f1 [.int .i64 id] 3,.blk f0 [.pointer (some ⟨b,0,none⟩)] 49]) (H5.perm ?_);refine AL fun ff gg h0 hc p ae=>?_;simp only[treL,p,hc,h0];omega
  have a3:EZ (nodM g):=by rw[hM];exact hw.apart l.nodup
  refine AP.mk (fun m s w'=>∃j:Nat,m=d.length-j/\j<=d.length/\s=(j:Int)/\Hp f w w' (.imap n .i64 (nodM (FZ g (d.take j)))::.own 3 1 a d.length c (AO d)::dA D::.blk b (treC n (AZ F) T.next) 119::BR g)) d.length ⟨0,rfl,by omega,rfl,H6⟩ ?_;clear H5 H6;rintro m s w5 nx ⟨j,rfl,hj,rfl,Y⟩ a4;refine AB (fun h2=>?_) (fun h2=>?_)
  ·have af:j<d.length:=by omega
   have K:(AO d)[j]? =some (.int .i64 d[j]):=by simp[AO,af]
   obtain⟨ad,a5,a6⟩:=Y.ldO (w':=w5) (o:=j) EQ4 yInt m1 K;refine AA a5 ⟨⟨by omega,h2⟩,d[j],by rw[Int.toNat_natCast,Nat.mul_one];exact a6,AA rfl ⟨some n,Y.lo nMN,?_⟩⟩;refine Hp.delI Dy rfl Y EQ4 fun w6 H8=>⟨iR,a4 (d.length-(j+1)) _ _ (by omega) ⟨j+1,rfl,by omega,rfl,?_⟩⟩;rw[TZ (leftW_apart a3 _),<- leftW_snoc,<- take_succ_eq_append_getElem af]at H8;exact H8
  ·have a7:j=d.length:=by omega
   subst a7;rw[take_length]at Y;have H8:=Y.BA;refine Hp.shut H8 fun w6 H9=>?_;obtain⟨X,hX⟩:=leftW_nods g d
   have ao:Hp f w w6 (treL b n (AZ F) T.next (FZ g d)++[]):=by
    rw[append_nil];refine Hp.BN (R:=.own 3 1 a d.length c (AO d)::X) (H9.perm ?_);refine AL fun ff gg h0 hc p ae=>?_;have:=ae _ _ hX;simp only[treL,p,hc,h0]at this⊢;omega
   have ag:AZ F=AZ (cutF id F):=by
    rcases l.one with e|⟨j,yy,kk,e,_⟩
    ·rw[e]at i;cases i
    ·rw[e]at t⊢
     rw[tops,tops,mem_singleton]at t;rw[cutF,if_neg (fun e=>t e.symm)];rfl
   rw[ag]at ao
   have a8:CY (cutF id F) (FZ g d):=by
    have e1:(FZ g d).map (·.2)=(g.map (·.2)).filter fun e=> !decide (e.id∈d):=by rw[FZ,List.filter_map];rfl
    have h7:=U.filter fun e=> !decide (e.id∈d);show((FZ g d).map (·.2)).Perm _;rw[e1];refine h7.trans (List.Perm.trans (List.Perm.of_eq ?_) Z.symm)
    have N:∀e∈({r with kids:=r.kids.erase id}::R:List En),e.id∈ids (cutF id F):=fun e he=>by
     rw[<- Bi (cutF id F) 0];exact mem_map.2 ⟨e,Z.mem_iff.2 he,rfl⟩
    rw[filter_cons,if_neg (by rw[G];simp),List.filter_append]
    have h8:(ents k id).filter (fun e=> !decide (e.id∈d))=[]:=by
     rw[List.filter_eq_nil_iff];intro e he
     have:e.id∈ids k:=by rw[<- Bi k id];exact mem_map.2 ⟨e,he,rfl⟩
     rw[G];simp[this]
    rw[h8,nil_append,List.filter_eq_self];intro e he;have h9:=(J.Qe l.nodup e.id).1 (N e he);rw[G];simp[h9.2.1,h9.2.2]
   have ah:=l.cut i J t;obtain⟨f',a9⟩:=ao.Cm (Q:=Jn b ⟨flat (cutF id F) 0,T.next⟩) ⟨_,ah,n,_,a8,rfl⟩;exact⟨f',by rw[S],by rw[S];exact a9⟩
end
end Go.Proofs.YtljenkbpnioipaaGreat
namespace Go.Nod
theorem Qz:∀(F:Fo)(p i j:Int){q t:Int}{x u:NX}{k f:Fo},(ids F).Nodup->AX F p i=some (q,x,k)->AX F p j=some (t,u,f)->j≠i->j∉ids k->AX (cutF i F) p j=some (t,u,cutF i f)
 |.nil,p,i,j,q,t,x,u,k,f,_,h,_,_,_=>by cases h
 |.cons a y kk s,p,i,j,q,t,x,u,k,f,hn,h,hj,hji,hjk=>by
  rw[ids,nodup_cons,nodup_append]at hn;obtain⟨w,g,m,z⟩:=hn;rw[AX]at h;rw[cutF];split at h
  ·rename_i e
   cases h;rw[if_pos e];subst e;rw[AX,if_neg (fun e=>hji e.symm)]at hj
   have G:AX kk a j=none:=by
    cases h9:AX kk a j with
    |none=>rfl
    |some H=>exact(hjk ((Au kk a j).1 (by rw[h9];simp))).elim
   rw[G]at hj;dsimp only at hj;have C:j∈ids s:=(Au s p j).1 (by rw[hj];simp)
   have c:a∉ids f:=fun l=>by
    obtain⟨A,B,v,b⟩:=Bg s p j 0 m hj
    have:a∈ids s:=by rw[b.ids];simp[l]
    exact w (mem_append_right _ this)
   rw[hj,FP f c]
  ·rename_i e
   rw[if_neg e];rw[AX]at hj⊢;split at hj
   ·rename_i D
    cases hj;rw[if_pos D]
   ·rename_i D
    rw[if_neg D];split at h
    ·rename_i K o
     cases h;have I:i∈ids kk:=(Au kk a i).1 (by rw[o];simp);split at hj
     ·rename_i J d
      cases hj;rw[Qz kk a i j g o d hji hjk]
     ·rename_i d
      have E:AX (cutF i kk) a j=none:=by
       cases h9:AX (cutF i kk) a j with
       |none=>rfl
       |some H=>
        obtain⟨A,B,v,b⟩:=Bg kk a i 0 g o;have:=(b.Qe g j).1 ((Au (cutF i kk) a j).1 (by rw[h9];simp));exact((Au kk a j).2 this.1 d).elim
      have C:j∈ids s:=(Au s p j).1 (by rw[hj];simp);have r:i∉ids s:=fun l=>z i I i l rfl
      have c:i∉ids f:=fun l=>by
       obtain⟨A,B,v,b⟩:=Bg s p j 0 m hj;exact r (by rw[b.ids];simp[l])
      rw[E,FP s r,hj,FP f c]
    ·rename_i o
     have n:i∉ids kk:=fun l=>(Au kk a i).2 l o;split at hj
     ·rename_i J d
      cases hj
      have c:i∉ids f:=fun l=>by
       obtain⟨A,B,v,b⟩:=Bg kk a j 0 g d;exact n (by rw[b.ids];simp[l])
      rw[FP kk n,d,FP f c]
     ·rename_i d
      rw[FP kk n,d];exact Qz s p i j m h hj hji hjk
theorem XP:∀(F:Fo)(p i:Int),(ids F).Nodup->i∈tops F->∃x k,AX F p i=some (p,x,k)
 |.cons j y k s,p,i,hn,h=>by
  rw[ids,nodup_cons,nodup_append]at hn;rw[tops]at h;rw[AX];by_cases e:j=i
  ·exact⟨y,k,by rw[if_pos e]⟩
  ·have a:=(mem_cons.1 h).resolve_left fun b=>e b.symm
   have c:AX k j i=none:=by
    cases h9:AX k j i with
    |none=>rfl
    |some d=>exact(hn.2.2.2 i ((Au k j i).1 (by rw[h9];simp)) i (Q4 s i a) rfl).elim
   rw[if_neg e,c];exact XP s p i hn.2.2.1 a
theorem kid_par{F:Fo}{p i j q e:Int}{x f:NX}{k b:Fo}(hn:(ids F).Nodup)(g:AX F p i=some (q,x,k))(d:AX F p j=some (e,f,b))(h:i∈tops b):q=j:=by
 obtain⟨A,B,v,a⟩:=Bg F p j 0 hn d
 have c:(ids b).Nodup:=by
  have:=hn;rw[a.ids,nodup_append,nodup_cons,nodup_append]at this;exact this.2.1.2.1
 obtain⟨m,n,l⟩:=XP b j i c h;have:=look_in F p j i hn d l;rw[g]at this;cases this;rfl
theorem seg_mem{A S B:List Rw}{p:Nat}{r:Rw}(hn:((A++(S++B)).map (·.id)).Nodup)(h:(A++(S++B))[p]? =some r):(A.length<=p/\p<A.length+S.length)↔r.id∈S.map (·.id):=by
 constructor
 ·rintro⟨c,f⟩
  rw[List.getElem?_append_right c,List.getElem?_append_left (by omega)]at h;exact mem_map.2 ⟨r,mem_of_getElem? h,rfl⟩
 ·intro a
  rw[map_append,map_append,nodup_append,nodup_append]at hn;obtain⟨_,⟨_,_,d⟩,e⟩:=hn;refine⟨Nat.not_lt.1 fun b=>?_,Nat.not_le.1 fun b=>?_⟩
  ·rw[List.getElem?_append_left b]at h
   exact e r.id (mem_map.2 ⟨r,mem_of_getElem? h,rfl⟩) r.id (mem_append_left _ a) rfl
  ·rw[List.getElem?_append_right (by omega),List.getElem?_append_right (by omega)]at h
   exact d r.id a r.id (mem_map.2 ⟨r,mem_of_getElem? h,rfl⟩) rfl
def DK(d:Int)(l:List Rw):Int:=l.foldl (fun d r=>max d r.level) d
theorem topLev_snoc(l:List Rw)(d:Int)(r:Rw):DK d (l++[r])=max (DK d l) r.level:=by simp[DK]
theorem OY:∀(l:List Rw)(d m:Int),m<=DK d l↔m<=d\/∃r∈l,m<=r.level
 | [],d,m=>by simp[DK]
 |x::l,d,m=>by
  have a:=OY l (max d x.level) m;have e:DK d (x::l)=DK (max d x.level) l:=rfl;rw[e,a];simp only[mem_cons,exists_eq_or_imp];constructor
  ·rintro(h|h)
   ·by_cases b:m<=d
    ·exact .inl b
    ·exact .inr (.inl (by omega))
   ·exact .inr (.inr h)
  ·rintro(h|h|h)
   ·exact .inl (by omega)
   ·exact .inl (by omega)
   ·exact .inr h
theorem flat_up(F:Fo)(d:Int):flat F d=(flat F 0).map fun r=> {r with level:=r.level+d}:=by
 have:=Fe F 0 (-d);rw[show(0:Int)- -d=d by omega]at this;rw[<- this,KI];refine List.map_congr_left fun r _=>?_;rw[show r.level- -d=r.level+d by omega]
theorem YD(i:Int)(x:NX)(k s:Fo)(d m:Int):(∃r∈flat (.cons i x k s) d,m<=r.level)↔m<=d+DK 0 (flat (.cons i x k s) 0):=by
 have h:=OY (flat (.cons i x k s) 0) 0 (m-d);rw[flat_up _ d];constructor
 ·rintro⟨r,e,c⟩
  obtain⟨a,b,rfl⟩:=mem_map.1 e;dsimp only at c;have:=h.2 (.inr ⟨a,b,by omega⟩);omega
 ·intro c
  rcases h.1 (by omega)with f|⟨a,b,f⟩
  ·exact⟨_,mem_map.2 ⟨⟨i,0,x⟩,by rw[flat];exact .head _,rfl⟩,by dsimp only;omega⟩
  ·exact⟨_,mem_map.2 ⟨a,b,rfl⟩,by dsimp only;omega⟩
end Go.Nod
namespace Go.Proofs.YtljenkbpnioipaaGreat
noncomputable section
open Go Go.Vc Go.Nod
theorem nErr:Scl Tryz.prog 41:=BH (by kernel_rfl)
theorem Yd{f:List Nat}{b mb:Nat}{F:Fo}{T:Tr}{a:List (NW×En)}{w w':World}{X:List Asn}(c:BM F T)(d:CY F a)(H:Hp f w w' (treL b mb (AZ F) T.next a++X)):∃e,Hp f w w' [AU e b T]:=by
 have g:Hp f w w' (treL b mb (AZ F) T.next a++[]):=by rw[append_nil];exact H.BN
 exact g.Cm (Q:=Jn b T) ⟨F,c,mb,a,d,rfl⟩
theorem WP{F:Fo}{a:List (NW×En)}(hn:(ids F).Nodup)(d:CY F a)(i:Int):∃e:Option Addr,(aget (nodM a) i).getD (.pointer none)=.pointer e/\((aget (nodM a) i).isSome=true↔AX F 0 i≠none)/\
  ∀{q:Int}{x:NX}{k:Fo},AX F 0 i=some (q,x,k)->∃A y B,a=A++(y,⟨i,q,x,tops k⟩)::B/\e=some ⟨y.b,0,none⟩/\aget (nodM a) i=some (.pointer (some ⟨y.b,0,none⟩)):=by
 cases hl:AX F 0 i with
 |none=>
  have:=d.none hl;exact⟨none,by rw[this];rfl,by rw[this];simp,fun h=>by cases h⟩
 |some z=>
  obtain⟨q,x,k⟩:=z;obtain⟨A,y,B,f,c⟩:=d.at_ hn hl;refine⟨some ⟨y.b,0,none⟩,by rw[c];rfl,by rw[c];simp,fun h=>?_⟩;cases h;exact⟨A,y,B,f,rfl,c⟩
theorem ents_same{F:Fo}(hn:(ids F).Nodup){a c:En}(d:a∈ents F 0)(hc:c∈ents F 0)(e:a.id=c.id):a=c:=by
 have h:((ents F 0).map (·.id)).Nodup:=by rw[Bi];exact hn
 obtain⟨A,B,b⟩:=append_of_mem d;rw[b,map_append,map_cons,nodup_append,nodup_cons]at h;rw[b]at hc;rcases mem_append.1 hc with hc|hc
 ·exact(h.2.2 _ (mem_map.2 ⟨c,hc,rfl⟩) _ (.head _) e.symm).elim
 ·rcases mem_cons.1 hc with hc|hc
  ·exact hc.symm
  ·exact(h.2.1.1 (mem_map.2 ⟨c,hc,e.symm⟩)).elim
theorem Z5{T:Tr}{id to at_:Int}(h:atR T.L id=none\/atR T.L to=none):T.move id to at_=(T,60):=by
 unfold Tr.move;split
 ·rename_i a b
  rcases h with h|h
  ·rw[h]at a;cases a
  ·rw[h]at b;cases b
 ·rfl
theorem gMove_spec{f:List Nat}{b:Nat}{T:Tr}{w:World}(h:(AU f b T).ok w)(id to at_:Int):
  Calls Tryz.prog 93 #[.pointer (some ⟨b,0,none⟩),.int .i64 id,.int .i64 to,.int .i64 at_] w fun e w'=>∃f',e=.returned (.int .i64 (T.move id to at_).2)/\Hp f w w' [AU f' b (T.move id to at_).1]:=by
 apply gMove.ok;unfold gMove.vc;have H0:Hp f w w [AU f b T]:=BZ h;obtain⟨M,⟨F,l,C,S,hw,rfl⟩,H,hf⟩:=H0.unpack;rw[append_nil]at H;have N:=l.nodup;intro pb w1 bq;have H1:=H.nw bq;intro O w2 bu;have H2:=H1.nw bu;clear H H1 bq bu H0
 have bd:∀{T':Tr}{Y:Fo}{P:List (NW×En)}{X:List Asn}{w':World}{c c0:Int}{G:World->Prop},BM Y T'->CY Y P->T.move id to at_=(T',c)->Hp f w w' (.blk O [.int .i64 c0] 41::(X++treL b C (AZ Y) T'.next P))->
   (∀w3,Hp f w w3 (.blk O [.int .i64 c] 41::(X++treL b C (AZ Y) T'.next P))->G w3)->∃w3,St Tryz.prog 41 w' ⟨O,0,none⟩ (.int .i64 c) w3/\G w3:=fun _ _ _ H3 kk=>Hp.st (o:=0) H3 EQ4 nErr rfl rfl (by simp) rfl kk
 have ah:∀{T':Tr}{Y:Fo}{P:List (NW×En)}{X:List Asn}{w':World}{c:Int},BM Y T'->CY Y P->T.move id to at_=(T',c)->Hp f w w' (.blk O [.int .i64 c] 41::(X++treL b C (AZ Y) T'.next P))->
   ∃i,Ld Tryz.prog 41 w' ⟨O,0,none⟩ (.int .i64 i)/\∃f',Ending.returned (.int .i64 i)=.returned (.int .i64 (T.move id to at_).2)/\Hp f w w' [AU f' b (T.move id to at_).1]:=fun{T' Y P X w' c} c4 c5 e H3=>by
  refine⟨c,H3.lo nErr,?_⟩;obtain⟨f',H4⟩:=Yd (X:=X) c4 c5 (H3.drop.perm perm_append_comm);exact⟨f',by rw[e],by rw[e];exact H4⟩
 obtain⟨pv,c6,bv,c7⟩:=WP N hw id;obtain⟨qv,c8,bw,c9⟩:=WP N hw to;have bf:∀{W:World},Eqw w2 W->Ld Tryz.prog 117 W ⟨b,0,none⟩ (.map (some C)):=fun he=>H2.ld (o:=0) (cs:=treC C (AZ F) T.next) he nMN m2 rfl;refine AA rfl ⟨_,bf EQ4,pv,(aget (nodM S) id).isSome,H2.Lm Dy EQ4 m3 c6 rfl,AA rfl ⟨_,bf EQ4,to,H2.lo yInt,qv,(aget (nodM S) to).isSome,H2.Lm Dy EQ4 m3 c8 rfl,?_⟩⟩;refine Am.mk (fun s w'=>s=dec (AX F 0 id=none\/AX F 0 to=none)/\Hp f w w' (.blk O [.int .i64 0] 41::([.blk pb [.int .i64 to] 3]++treL b C (AZ F) T.next S))) ?_ ?_;rotate_left
 ·intro J hJ
  refine Fh (fun h1=>hJ _ _ ⟨Cf (.inl ?_),H2.drew⟩) (fun h1=>hJ _ _ ⟨?_,H2.drew⟩)
  ·exact Classical.byContradiction fun h2=>by rw[bv.2 h2]at h1;cases h1
  ·have h2:=bv.1 h1
   cases hq:(aget (nodM S) to).isSome with
   |true=>exact CG fun h3=>h3.elim h2 (bw.1 hq)
   |false=>exact Cf (.inr (Classical.byContradiction fun h3=>by rw[bw.2 h3]at hq;cases hq))
 clear H2 bf;rintro _ w3 ⟨rfl,H3⟩;refine br_d (fun h1=>bd l hw ?_ H3 fun w4 H4=>ah l hw ?_ H4) (fun h1=>?_)
 ·exact Z5 (h1.imp (fun h=>(l.noRow h).2) fun h=>(l.noRow h).2)
 ·exact Z5 (h1.imp (fun h=>(l.noRow h).2) fun h=>(l.noRow h).2)
 obtain⟨⟨q,x,k⟩,t⟩:∃z,AX F 0 id=some z:=Option.ne_none_iff_exists'.1 fun e=>h1 (.inl e);obtain⟨⟨q2,I,k2⟩,K⟩:∃z,AX F 0 to=some z:=Option.ne_none_iff_exists'.1 fun e=>h1 (.inr e);obtain⟨Aw,y,Bw,da,rfl,dc⟩:=c7 t;obtain⟨ed,y2,ee,bx,rfl,bz⟩:=c9 K;obtain⟨A,B,v,Z,ef,dd,hv,eg⟩:=l.rows t;obtain⟨A2,B2,v2,al,d5,b0,eh,d6⟩:=l.rows K;have my:∀a∈nodL (y,(⟨id,q,x,tops k⟩:En)),a∈treL b C (AZ F) T.next S:=fun a ha=>Di (p:=(y,⟨id,q,x,tops k⟩)) (by rw[da];simp) ha;have bg:∀a∈nodL (y2,(⟨to,q2,I,tops k2⟩:En)),a∈treL b C (AZ F) T.next S:=fun a ha=>Di (p:=(y2,⟨to,q2,I,tops k2⟩)) (by rw[bx];simp) ha;have mt:∀{a:Asn},a∈treL b C (AZ F) T.next S->a∈(Asn.blk O [.int .i64 0] 41::([.blk pb [.int .i64 to] 3]++treL b C (AZ F) T.next S)):=fun h=>.tail _ (.tail _ h)
 have g:T.move id to at_=if A.length=0 then((T,62):Tr×Int)else if I.kind≠1 then(T,68)else if A.length<=A2.length/\A2.length<endR T.L A.length then(T,61)
  else match FW (CJ T.L A.length) to with
   |none=>(T,60)
   |some p'=>
    if at_<0\/((Lp (CJ T.L A.length) p').length:Int)<at_ then(T,69)
    else if∃x∈KI (segR T.L A.length) (v-v2-1),40<=x.level then(T,65)
    else(⟨Um (CJ T.L A.length) (TA (CJ T.L A.length) p' at_.toNat) (KI (segR T.L A.length) (v-v2-1)),T.next⟩,0):=by
  simp only[Tr.move,dd,b0];rfl
 refine AA rfl ⟨AZ F,by rw[add_lit];exact H3.ld (o:=1) (cs:=treC C (AZ F) T.next) EQ4 yInt (mt (.head _)) rfl,AB (fun h2=>?_) (fun h2=>?_)⟩
 ·have hA:=(Gf l t Z).1 h2
  rw[if_pos hA]at g;exact bd l hw g H3 fun w4 H4=>ah l hw g H4
 have b1:¬A.length=0:=fun e=>h2 ((Gf l t Z).2 e);rw[if_neg b1]at g;refine AA rfl ⟨I.kind,by rw[add_lit];exact H3.ld (o:=2) (cs:=nodC y2 ⟨to,q2,I,tops k2⟩) EQ4 yInt (mt (bg _ (.head _))) rfl,Aa (fun h3=>?_) (fun h3=>?_)⟩
 ·rw[if_pos h3]at g
  exact bd l hw g H3 fun w4 H4=>ah l hw g H4
 have de:¬I.kind≠1:=fun h=>h h3;rw[if_neg de]at g;have bh:id∉tops F:=fun hh=>b1 ((l.top0 Z t).2 hh);have df:=BP l;have b2:=l.len;obtain⟨rows,ab⟩:∃rows,rows=BJ F id:=⟨_,rfl⟩
 have Q:rows=flat (.cons id x k .nil) 0:=by rw[ab,BJ,t]
 have a9:rows.map (·.id)=id::ids k:=by rw[Q,BD,ids,ids,append_nil]
 have ba:(A.length<=A2.length/\A2.length<endR T.L A.length)↔to∈rows.map (·.id):=by
  have e1:T.L=A++(flat (.cons id x k .nil) v++B):=by rw[<- l.fl,Z.fl,flat,flat,append_nil,cons_append]
  have dg:((A++(flat (.cons id x k .nil) v++B)).map (·.id)).Nodup:=by rw[<- e1,<- l.fl,BD];exact N
  have b3:(A++(flat (.cons id x k .nil) v++B))[A2.length]? =some ⟨to,v2,I⟩:=by rw[<- e1,<- l.fl];exact al.here
  have b4:endR T.L A.length=A.length+(flat (.cons id x k .nil) v).length:=by
   rw[<- l.fl,Z.endN,BI,ids,ids,append_nil,length_cons];omega
  rw[b4,seg_mem dg b3,BD,Q,BD]
 intro db w4 b6;have H4:=H3.nw b6;refine Hp.s1 H4 yInt (cs':=[.int .i64 0]) fun w5 H5=>?_;clear H3 H4 b6;refine AC (GI b id 0 w5) ?_;rintro _ w6 ⟨f0,f1,f2,rfl,Hb⟩;replace H5:=H5.ext Hb;have ei:=PE N id;refine⟨_,rfl,137,#[],_,rfl,⟨_,_,Tryz.func137,rfl⟩,?_⟩
 refine IL (B:=f) (w0:=w) b C (AZ F) T.next S F N (hw.v N) (by omega) id f0 f1 f2
  (fun j L=>(∀r∈rows.take j,r.id≠to)/\L=.blk db [.int .i64 (DK 0 (rows.take j))] 3::.blk O [.int .i64 0] 41::.blk pb [.int .i64 to] 3::treL b C (AZ F) T.next S)
  (fun L=>to∈rows.map (·.id)/\∃d,L=.blk db [.int .i64 d] 3::.blk O [.int .i64 61] 41::.blk pb [.int .i64 to] 3::treL b C (AZ F) T.next S)
  (.blk db [.int .i64 0] 3::.blk O [.int .i64 0] 41::.blk pb [.int .i64 to] 3::treL b C (AZ F) T.next S) [.blk f2 [.int .i64 0] 3,.blk f1 [.int .i64 id] 3,.blk f0 [.pointer (some ⟨b,0,none⟩)] 49] w6
  ?_ m2 m1 (.head _) ⟨by simp,rfl⟩ ?_ ?_ ?_ ?_
 ·rintro j _ ⟨_,rfl⟩ u hu
  exact .tail _ (.tail _ (.tail _ hu))
 ·exact H5.perm perm_append_comm
 ·rintro j r hr w7 T0 T1 _ dh kn kr kx ⟨a3,rfl⟩ H6 hb di dj
  rw[<- ab]at hr;have b7:=(List.getElem?_eq_some_iff.1 hr).1;refine hb _ fun w8 H7=>⟨to,H7.lo yInt,AB (fun h4=>?_) (fun h4=>?_)⟩
  ·refine Hp.s1 H7.Af nErr (cs':=[.int .i64 61]) fun w9 H8=>dj w9 _ ⟨mem_map.2 ⟨r,mem_of_getElem? hr,h4⟩,_,rfl⟩ H8.Af
  ·refine⟨_,H7.lo yInt,Hp.st (o:=0) H7 EQ4 yInt rfl rfl (by simp) (cs':=[.int .i64 (DK 0 (rows.take (j+1)))]) ?_ fun w9 H8=>di w9 _ ⟨fun r2 ad=>?_,rfl⟩ H8⟩
   ·rw[take_succ_eq_append_getElem b7,(List.getElem?_eq_some_iff.1 hr).2,topLev_snoc];rfl
   ·rw[take_succ_eq_append_getElem b7,(List.getElem?_eq_some_iff.1 hr).2]at ad
    rcases mem_append.1 ad with ad|ad
    ·exact a3 r2 ad
    ·rw[mem_singleton.1 ad];exact h4
 rotate_left
 ·rintro D w7 _ ⟨dk,d,rfl⟩ H6
  rw[if_pos (ba.2 dk)]at g;refine Hp.shut H6 fun w8 H7=>?_
  have H8:Hp f w w8 (.blk O [.int .i64 61] 41::(([.blk db [.int .i64 d] 3,.blk pb [.int .i64 to] 3,.blk f2 [.int .i64 0] 3,.blk f1 [.int .i64 id] 3,.blk f0 [.pointer (some ⟨b,0,none⟩)] 49]:List Asn)++treL b C (AZ F) T.next S)):=H7.perm (by
   refine AL fun ff gg h0 hc ha am=>?_
   simp only[ha,hc,h0];omega)
  exact ah l hw g H8
 ·rintro D w7 _ ⟨a3,rfl⟩ H6
  have dl:(BJ F id).length=rows.length:=by rw[ab]
  rw[dl,take_length]at a3 H6
  have ao:to∉rows.map (·.id):=fun hh=>by
   obtain⟨r,hr,e⟩:=mem_map.1 hh;exact a3 r hr e
  rw[if_neg (fun h=>ao (ba.1 h))]at g;have dm:to≠id:=fun e=>ao (by rw[a9,e];exact .head _);have dn:to∉Nod.ids k:=fun e=>ao (by rw[a9];exact .tail _ e);have ae:=Qz F 0 id to N t K dm dn;have bi:=l.cut t Z bh;obtain⟨A3,B3,v3,ap,b8,d7,ej,d8⟩:=bi.rows ae;obtain⟨rfl,_⟩:=Z.XJ N al ap
  have b9:CJ T.L A.length=flat (cutF id F) 0:=by rw[<- l.fl];exact Z.cutE
  have bj:FW (CJ T.L A.length) to=some A3.length:=by rw[b9];exact b8
  rw[bj]at g;dsimp only at g;obtain⟨n,ca⟩:∃n,n=cutF id k2:=⟨_,rfl⟩;rw[<- ca]at ae ap
  have bk:tops n=(tops k2).erase id:=by rw[ca,J9]
  have cb:(Lp (CJ T.L A.length) A3.length).length=(tops n).length:=by rw[b9];exact ap.Y8
  rw[cb]at g
  rcases Nh F 0 id N t with⟨ht,_⟩|⟨_,r,R,cc,bl,hE,dp⟩
  ·exact(bh ht).elim
  have ek:r.kids.length<=(Nod.ids F).length:=Gs F 0 r (hE.mem_iff.2 (.tail _ (mem_append_right _ (.head _))))
  have d9:(tops k2).length<=(Nod.ids F).length:=by
   have h1:=Iy k2
   have h2:(Nod.ids k2).length<=(Nod.ids F).length:=by rw[al.ids];simp;omega
   omega
  have bb:q=to↔id∈tops k2:=by
   constructor
   ·intro e
    obtain⟨R2,dq,_⟩:=Dn F 0 to N K;have m1:r∈ents F 0:=hE.mem_iff.2 (.tail _ (mem_append_right _ (.head _)));have m2:(⟨to,q2,I,tops k2⟩:En)∈ents F 0:=dq.mem_iff.2 (.head _);have:=ents_same N m1 m2 (by rw[cc,e]);rw[this]at bl;exact bl
   ·exact kid_par N t K
  have H7:=H6.perm (M:=treL b C (AZ F) T.next S++[dA D,.blk db [.int .i64 (DK 0 rows)] 3,.blk O [.int .i64 0] 41,.blk pb [.int .i64 to] 3,.blk f2 [.int .i64 0] 3,.blk f1 [.int .i64 id] 3,.blk f0 [.pointer (some ⟨b,0,none⟩)] 49]) (by
   refine AL fun ff gg h0 hc ha am=>?_
   simp only[ha,hc,h0];omega)
  clear H6;have cd:∀{W:World},Eqw w7 W->Ld Tryz.prog 59 W ⟨y2.b,7,none⟩ (.slice y2.ka (tops k2).length y2.kc):=fun he=>H7.ld (o:=7) (cs:=nodC y2 ⟨to,q2,I,tops k2⟩) he nSI (mem_append_left _ (bg _ (.head _))) rfl;refine AA rfl ⟨_,_,_,by rw[add_lit];exact cd EQ4,?_⟩
  have aq:∀{c:Int}{w8:World},T.move id to at_=(T,c)->Hp f w w8 (treL b C (AZ F) T.next S++[dA D,.blk db [.int .i64 (DK 0 rows)] 3,.blk O [.int .i64 0] 41,.blk pb [.int .i64 to] 3,.blk f2 [.int .i64 0] 3,.blk f1 [.int .i64 id] 3,.blk f0 [.pointer (some ⟨b,0,none⟩)] 49])->
    ∃w9,St Tryz.prog 41 w8 ⟨O,0,none⟩ (.int .i64 c) w9/\∃ar,FU w9 D ar/\∃i,Ld Tryz.prog 41 ar ⟨O,0,none⟩ (.int .i64 i)/\∃f',Ending.returned (.int .i64 i)=.returned (.int .i64 (T.move id to at_).2)/\Hp f w ar [AU f' b (T.move id to at_).1]:=fun{c w8} e H8=>by
   have H9:Hp f w w8 (.blk O [.int .i64 0] 41::(dA D::([.blk db [.int .i64 (DK 0 rows)] 3,.blk pb [.int .i64 to] 3,.blk f2 [.int .i64 0] 3,.blk f1 [.int .i64 id] 3,.blk f0 [.pointer (some ⟨b,0,none⟩)] 49]++treL b C (AZ F) T.next S))):=H8.perm (by
    refine AL fun ff gg h0 hc ha am=>?_
    simp only[ha,hc,h0];omega)
   refine Hp.s1 H9 nErr (cs':=[.int .i64 c]) fun w9 a4=>?_;refine Hp.shut a4.Af fun ar a5=>?_;exact ah l hw e a5
  refine Am.mk (fun s w'=>s=((tops n).length:Int)/\w'=w7.drew) ?_ ?_;rotate_left
  ·intro J hJ
   refine AA rfl ⟨q,by rw[add_lit];exact H7.ld (o:=1) (cs:=nodC y ⟨id,q,x,tops k⟩) EQ4 yInt (mem_append_left _ (my _ (.head _))) rfl,to,H7.ld (o:=0) (cs:=[.int .i64 to]) EQ4 yInt (mem_append_right _ m3) rfl,AB (fun h4=>?_) (fun h4=>?_)⟩
   ·have af:=bb.1 h4
    have:0<(tops k2).length:=List.length_pos_of_mem af;refine⟨iR,hJ _ _ ⟨?_,rfl⟩⟩;rw[bk,List.length_erase_of_mem af];omega
   ·have af:id∉tops k2:=fun h=>h4 (bb.2 h)
    refine hJ _ _ ⟨?_,rfl⟩;rw[bk,List.erase_of_not_mem af]
  rintro _ w8 ⟨rfl,rfl⟩;refine Am.mk (fun s w'=>s=dec (at_<0\/((tops n).length:Int)<at_)/\w'=w7.drew) ?_ ?_;rotate_left
  ·intro J hJ
   refine AB (fun h4=>hJ _ _ ⟨Cf (.inl h4),rfl⟩) (fun h4=>hJ _ _ ⟨?_,rfl⟩)
   by_cases h5:((tops n).length:Int)<at_
   ·exact(decide_eq_true h5).trans (Cf (.inr h5))
   ·exact(decide_eq_false h5).trans (CG (fun h=>h.elim h4 h5))
  rintro _ w8 ⟨rfl,rfl⟩;refine br_d (fun h4=>?_) (fun h4=>?_)
  ·rw[if_pos h4]at g
   exact aq g H7.drew
  rw[if_neg h4]at g;have H8:=H7.drew.drew;refine⟨to,H8.ld (o:=0) (cs:=[.int .i64 to]) EQ4 yInt (mem_append_right _ m3) rfl,DK 0 rows,H8.ld (o:=0) (cs:=[.int .i64 (DK 0 rows)]) EQ4 yInt (mem_append_right _ m1) rfl,?_⟩
  have ce:∀j∈Nod.ids F,j≠0:=fun j hj=>by have:=l.pos j hj;omega
  have cf:∃i1 x1 k1,F=.cons i1 x1 k1 .nil:=by
   rcases l.one with e|⟨i1,x1,k1,e,_⟩
   ·rw[e]at t;cases t
   ·exact⟨i1,x1,k1,e⟩
  refine AC (XU N ce cf hw H8.std1 K al (by omega)) ?_;rintro _ w9 ⟨rfl,rfl⟩
  have ds:segR T.L A.length=flat (.cons id x k .nil) v:=by rw[<- l.fl];exact Z.seg
  have cg:∀r∈flat (.cons id x k .nil) v,r.level<40:=fun r hr=>by
   refine l.deep r ?_;rw[<- l.fl,Z.fl];rw[flat,flat,append_nil]at hr;refine mem_append_right _ ?_;rcases mem_cons.1 hr with rfl|hr
   ·exact .head _
   ·exact .tail _ (mem_append_left _ hr)
  have ea:0<=DK 0 rows/\DK 0 rows<40:=by
   refine⟨(OY _ 0 0).2 (.inl (by omega)),?_⟩;have m:=(YD id x k .nil v 40).2;rw[<- Q]at m;refine Int.not_le.1 fun h8=>?_;obtain⟨r,hr,ad⟩:=m (by omega);have:=cg r hr;omega
  have ch:KI (segR T.L A.length) (v-v3-1)=flat (.cons id x k .nil) (v3+1):=by
   rw[ds,Fe];congr 1;omega
  have a6:=YD id x k .nil (v3+1) 40;rw[<- Q,<- ch]at a6;refine⟨_,rfl,H8.ld (o:=0) (cs:=[.int .i64 (DK 0 rows)]) EQ4 yInt (mem_append_right _ m1) rfl,iR,iR,AB (fun h5=>?_) (fun h5=>?_)⟩
  ·rw[if_pos (a6.2 h5)]at g
   exact aq g H8
  rw[if_neg (fun h=>h5 (a6.1 h))]at g;refine AC (Zr N hw H8.std1 t cc bl hE (by omega)) ?_;rintro _ ar ⟨P,rfl,ci,hM,H9⟩;have a4:=H8.useL H9;clear H9 H8 H7 aq cd my bg;refine⟨rfl,?_⟩;obtain⟨R3,dt,cj,_⟩:=Dn (cutF id F) 0 to bi.nodup ae
  have ck:(P.map (·.2)).Perm (⟨to,q2,I,tops n⟩::⟨id,q,x,tops k⟩::(ents k id++(ents n to++R3))):=by
   refine ci.trans (List.Perm.trans (List.Perm.cons _ ?_) (.swap _ _ _));refine((dp.symm.trans dt).append_left (ents k id)).trans ?_;exact perm_middle
  obtain⟨A4,E,B4,rfl⟩:=V6 ck
  have cl:EZ (nodM (A4++(E,(⟨to,q2,I,tops n⟩:En))::B4)):=by rw[hM];exact hw.apart N
  have du:y2.b=E.b:=by
   have m:aget (nodM (A4++(E,(⟨to,q2,I,tops n⟩:En))::B4)) to=some (.pointer (some ⟨E.b,0,none⟩)):=(Ea cl).2 (mem_map.2 ⟨(E,(⟨to,q2,I,tops n⟩:En)),by simp,rfl⟩);rw[hM,bz]at m
   injection m with m;injection m with m;injection m with m;injection m
  rw[du];have a5:=IG a4
  have bm:=a5.perm (M:=.own 3 1 E.ka (tops n).length E.kc (AO (tops n))::.blk E.b (nodC E ⟨to,q2,I,tops n⟩) 139::.own 142 2 E.aa I.attrs.length E.ac (atC I.attrs)::(.blk b (treC C (AZ F) T.next) 119::.imap C .i64 (nodM (A4++(E,(⟨to,q2,I,tops n⟩:En))::B4))::(BR (A4++B4)++[dA D,.blk db [.int .i64 (DK 0 rows)] 3,.blk O [.int .i64 0] 41,.blk pb [.int .i64 to] 3,.blk f2 [.int .i64 0] 3,.blk f1 [.int .i64 id] 3,.blk f0 [.pointer (some ⟨b,0,none⟩)] 49]))) (by
   refine AL fun ff gg h0 hc ha am=>?_
   simp only[nodL,ha,hc,h0];omega)
  clear a4 a5;refine AA rfl ⟨_,_,_,by rw[add_lit];exact bm.lo nSI,fun b5 dv dw=>?_⟩;have av:=bm.nw dw;clear bm
  obtain⟨an,cm⟩:∃an:Nat,at_=an:=⟨at_.toNat,by omega⟩
  have U:an<=(tops n).length:=by omega
  have dx:b5∉blks E.ka:=fun hh=>(pairwise_cons.1 av.sep).1 _ (.head _) b5 (.head _) hh
  have ec:(tops n).length<=(tops k2).length:=by rw[bk];exact List.length_erase_le
  have df:=BP l;have b2:=l.len;rw[cm];refine AC (SQ E.ka (tops n).length E.kc an b5 (AO (tops n)) [.int .i64 id] 3 dv (av.ownA m1) (Kt _) U (av.blk (.head _)) rfl (by intro u hu;rw[mem_singleton.1 hu];rfl) dx (by omega)) ?_;rintro _ el ⟨aw,a0,rfl,a1⟩;replace a1:=av.Af.BX a1;clear av
  have dy:(AO (tops n)).take (an*1)++([Value.int .i64 id]++(AO (tops n)).drop (an*1))=AO (Dx (tops n) an [id]):=by
   rw[Dx,Nat.mul_one];simp[AO,map_take,map_drop]
  have cn:(tops n).length+1=(Dx (tops n) an [id]).length:=by rw[OZ];rfl
  rw[dy]at a1;obtain⟨e5,ak⟩:∃e5:En,e5=⟨to,q2,I,Dx (tops n) an [id]⟩:=⟨_,rfl⟩;refine⟨_,_,_,rfl,AA rfl ?_⟩;rw[add_lit];refine Hp.st (o:=7) a1.BA EQ4 nSI rfl rfl (by simp[nodC]) (cs':=nodC {E with ka:=aw,kc:=a0} e5) (by rw[ak,cn];rfl) fun dz co=>?_;clear a1
  have a7:=Jk (b:=b) (mb:=C) (root:=AZ F) (next:=T.next) (A:=A4) (Bw:=B4) (y:=E) (e:=⟨to,q2,I,tops n⟩) (y':= {E with ka:=aw,kc:=a0}) (e':=e5) (X:=.blk b5 [.int .i64 id] 3::[dA D,.blk db [.int .i64 (DK 0 rows)] 3,.blk O [.int .i64 0] 41,.blk pb [.int .i64 to] 3,.blk f2 [.int .i64 0] 3,.blk f1 [.int .i64 id] 3,.blk f0 [.pointer (some ⟨b,0,none⟩)] 49]) (B:=f) (w0:=w) (w:=dz) rfl (by rw[ak]) (co.perm (by
   have e9:e5.kids=Dx (tops n) an [id]:=by rw[ak]
   have e8:e5.x=I:=by rw[ak]
   refine AL fun ff gg h0 hc ha am=>?_
   simp only[nodL,ha,hc,h0,e8,e9,cn];omega))
  clear co;refine⟨to,a7.ld (o:=0) (cs:=[.int .i64 to]) EQ4 yInt (mem_append_right _ m4) rfl,?_⟩;have bn:((A4++({E with ka:=aw,kc:=a0},e5)::B4).map (·.2)).Perm (⟨id,q,x,tops k⟩::e5::(ents k id++(ents n to++R3))):=(LC ck).trans (.swap _ _ _)
  have bo:nodM (A4++({E with ka:=aw,kc:=a0},e5)::B4)=nodM S:=by rw[<- hM];exact Ju rfl (by rw[ak])
  obtain⟨cp,cq⟩:∃cp,cp=A4++({E with ka:=aw,kc:=a0},e5)::B4:=⟨_,rfl⟩;rw[<- cq]at bn bo a7;obtain⟨A6,y6,B6,rfl⟩:=V6 bn
  have d0:y.b=y6.b:=by
   have m:aget (nodM (A6++(y6,(⟨id,q,x,tops k⟩:En))::B6)) id=some (.pointer (some ⟨y6.b,0,none⟩)):=(Ea (by rw[bo];exact hw.apart N)).2 (mem_map.2 ⟨(y6,(⟨id,q,x,tops k⟩:En)),by simp,rfl⟩);rw[bo,dc]at m
   injection m with m;injection m with m;injection m with m;injection m
  rw[d0];have cr:=IG a7;clear a7;refine AA rfl ?_;rw[add_lit];refine Hp.st (o:=1) cr EQ4 yInt rfl rfl (by simp[nodC]) (cs':=nodC y6 ⟨id,to,x,tops k⟩) rfl fun ct cu=>?_;clear cr;have cv:=Jk (b:=b) (mb:=C) (root:=AZ F) (next:=T.next) (A:=A6) (Bw:=B6) (y:=y6) (e:=⟨id,q,x,tops k⟩) (y':=y6) (e':=⟨id,to,x,tops k⟩) (B:=f) (w0:=w) (w:=ct) rfl rfl cu;clear cu;have d1:=LC (y':=y6) (e':=(⟨id,to,x,tops k⟩:En)) bn
  have cw:Hp f w ct (.blk O [.int .i64 0] 41::(dA D::([.blk b5 [.int .i64 id] 3,.blk db [.int .i64 (DK 0 rows)] 3,.blk pb [.int .i64 to] 3,.blk f2 [.int .i64 0] 3,.blk f1 [.int .i64 id] 3,.blk f0 [.pointer (some ⟨b,0,none⟩)] 49]++treL b C (AZ F) T.next (A6++(y6,(⟨id,to,x,tops k⟩:En))::B6)))):=cv.perm (by
   refine AL fun ff gg h0 hc ha am=>?_
   simp only[ha,hc,h0];omega)
  clear cv;refine Hp.s1 cw nErr (cs':=[.int .i64 0]) fun em cx=>?_;refine Hp.shut cx.Af fun en cy=>?_;clear cw cx;obtain⟨Y,a8⟩:∃Y,Y=under to (putAt an (.cons id x k .nil)) (cutF id F):=⟨_,rfl⟩;have bc:=Z.move N al ap U;rw[l.fl]at bc
  have cz:at_.toNat=an:=by omega
  rw[cz,bc,<- a8]at g;have a2:=KD F 0 id l.ok t
  have ag:(Nod.ids (.cons id x k .nil))=id::Nod.ids k:=by rw[Nod.ids,Nod.ids,append_nil]
  have c1:(id::Nod.ids k).Nodup:=by
   have m:=N;rw[Z.ids,nodup_append,nodup_cons,nodup_append]at m;exact nodup_cons.2 ⟨fun hh=>m.2.1.1 (mem_append_left _ hh),m.2.1.2.1⟩
  have c2:∀j∈id::Nod.ids k,j∈Nod.ids F:=fun j hj=>by
   rw[Z.ids];rcases mem_cons.1 hj with rfl|hj
   ·simp
   ·simp[hj]
  have d2:BM Y ⟨flat Y 0,T.next⟩:=by
   rw[a8];refine bi.put ae ap h3 U (show FOk (.cons id x k .nil)from⟨a2.1,a2.2.1,a2.2.2,trivial⟩) (by rw[ag];exact c1) (fun j hj d3=>?_) (fun r hr=>?_) ?_ (fun j hj=>?_) ⟨Int.le_refl _,l.next.2⟩
   ·have m:=(Z.Qe N j).1 d3
    rw[ag]at hj;rcases mem_cons.1 hj with e|hj
    ·exact m.2.1 e
    ·exact m.2.2 hj
   ·refine Int.not_le.1 fun m=>h5 (a6.1 ⟨r,?_,m⟩)
    rw[ch];exact hr
   ·show(Nod.ids (.cons id x k .nil)).length+(flat (cutF id F) 0).length<=1000
    rw[BI,Z.V9,ag];have m:=Z.ids;have h8:=congrArg List.length m;simp only[length_append,length_cons,length_map]at h8⊢;omega
   ·rw[ag]at hj
    exact l.pos j (c2 j hj)
  have d4:CY Y (A6++(y6,(⟨id,to,x,tops k⟩:En))::B6):=by
   have c3:=cj (putAt an (.cons id x k .nil));rw[<- a8,SH U,tops,tops]at c3;refine d1.trans (List.Perm.trans ?_ c3.symm);have h7:=OI an (.cons id x k .nil) n to U
   have h8:ents (.cons id x k .nil) to=⟨id,to,x,tops k⟩::ents k id:=by rw[ents,ents,append_nil]
   rw[h8]at h7;refine List.Perm.trans ?_ ((h7.append_right R3).cons _).symm;rw[ak];refine(List.Perm.swap _ _ _).trans (List.Perm.cons _ ?_);rw[cons_append,cons_append,append_assoc]
  have bp:AZ Y=AZ F:=by
   rw[a8,Sv,Fv,Fv,J9,List.erase_of_not_mem bh]
  rw[<- bp]at cy;rw[<- cm];exact ah d2 d4 g cy
end
end Go.Proofs.YtljenkbpnioipaaGreat
namespace Go.Nod
noncomputable section
open Classical
def cutA:List At->ByteArray->Nat
 | [],_=>0
 |x::r,n=>if ltB x.1 n then cutA r n+1 else 0
theorem Kv:∀(l:List At)(n:ByteArray),cutA l n<=l.length
 | [],_=>Nat.le_refl _
 |x::r,n=>by
  have:=Kv r n;rw[cutA];split<;>simp<;>omega
theorem rs_lt{l:List At}(h:Rs l){j k:Nat}{p q:At}(d:l[j]? =some p)(e:l[k]? =some q)(a:j<k):ltB p.1 q.1:=by
 have b:=(List.getElem?_eq_some_iff.1 d).1;have c:=(List.getElem?_eq_some_iff.1 e).1;have:=List.pairwise_iff_getElem.1 h j k b c a;rw[(List.getElem?_eq_some_iff.1 d).2,(List.getElem?_eq_some_iff.1 e).2]at this;exact this
theorem Ny:∀(l:List At)(n:ByteArray),Rs l->∀(j:Nat)(p:At),l[j]? =some p->(ltB p.1 n↔j<cutA l n)
 | [],n,_,j,p,h=>by simp at h
 |x::r,n,hR,j,p,h=>by
  have a:Rs r:=(pairwise_cons.1 hR).2
  cases j with
  |zero=>
   rw[List.getElem?_cons_zero]at h;cases h;rw[cutA];by_cases e:ltB x.1 n
   ·rw[if_pos e];exact⟨fun _=>by omega,fun _=>e⟩
   ·rw[if_neg e];exact⟨fun h=>(e h).elim,fun h=>by omega⟩
  |succ j=>
   rw[List.getElem?_cons_succ]at h;have b:=Ny r n a j p h;rw[cutA];by_cases e:ltB x.1 n
   ·rw[if_pos e,b];omega
   ·rw[if_neg e]
    refine⟨fun c=>(e ?_).elim,fun h=>by omega⟩;exact E8 (rs_lt (l:=x::r) hR (j:=0) (k:=j+1) rfl (by rw[List.getElem?_cons_succ];exact h) (by omega)) c
def hasA(l:List At)(n:ByteArray):Prop:=∃v,l[cutA l n]? =some (n,v)
theorem O0{a b:ByteArray}(h:¬ltB a b)(d:a≠b):ltB b a:=by
 rcases NE a b with c|c|c
 ·exact(h c).elim
 ·exact(d c).elim
 ·exact c
theorem filter_all{l:List At}{n:ByteArray}(h:∀x∈l,ltB n x.1):(l.filter fun y=> !decide (y.1=n))=l:=by
 rw[List.filter_eq_self];intro x a;have:x.1≠n:=fun e=>EH n (by have:=h x a;rwa [e]at this);simp[this]
theorem Xv:∀(l:List At)(a:At),Rs l->EI l a=l.take (cutA l a.1)++a::(if hasA l a.1 then l.drop (cutA l a.1+1)else l.drop (cutA l a.1))
 | [],a,_=>by
  have:¬hasA [] a.1:=fun⟨v,h⟩=>by simp at h
  rw[if_neg this];rfl
 |x::r,a,hR=>by
  have j:Rs r:=(pairwise_cons.1 hR).2;rw[EI];by_cases e:ltB x.1 a.1
  ·have c:cutA (x::r) a.1=cutA r a.1+1:=by rw[cutA,if_pos e]
   have k:hasA (x::r) a.1↔hasA r a.1:=by rw[hasA,hasA,c,List.getElem?_cons_succ]
   rw[if_pos e,Xv r a j,c,take_succ_cons,drop_succ_cons,drop_succ_cons];by_cases i:hasA r a.1
   ·rw[if_pos i,if_pos (k.2 i)];rfl
   ·rw[if_neg i,if_neg (fun h=>i (k.1 h))];rfl
  ·have c:cutA (x::r) a.1=0:=by rw[cutA,if_neg e]
   rw[if_neg e,c,take_zero,List.drop_zero,nil_append,Nat.zero_add,drop_one,List.tail_cons];congr 1;have b:=pairwise_cons.1 hR;by_cases d:x.1=a.1
   ·rw[if_pos ⟨x.2,by rw[c,<- d];rfl⟩,filter_cons,if_neg (by simp[d])]
    exact filter_all fun y f=>by rw[<- d];exact b.1 y f
   ·have m:¬hasA (x::r) a.1:=fun⟨v,h⟩=>by rw[c,List.getElem?_cons_zero]at h;cases h;exact d rfl
    rw[if_neg m];have g:=O0 e d
    exact filter_all fun y f=>by
     rcases mem_cons.1 f with rfl|f
     ·exact g
     ·exact E8 g (b.1 y f)
theorem YJ:∀(l:List At)(n:ByteArray),Rs l->IP l n=(if hasA l n then l.take (cutA l n)++l.drop (cutA l n+1)else l)
 | [],n,_=>by
  have:¬hasA [] n:=fun⟨v,h⟩=>by simp at h
  rw[if_neg this];rfl
 |x::r,n,hR=>by
  have a:=pairwise_cons.1 hR;have j:=YJ r n a.2;rw[IP]at j;rw[IP];by_cases e:ltB x.1 n
  ·have b:cutA (x::r) n=cutA r n+1:=by rw[cutA,if_pos e]
   have k:hasA (x::r) n↔hasA r n:=by rw[hasA,hasA,b,List.getElem?_cons_succ]
   have i:x.1≠n:=fun h=>EH n (by rwa [h]at e);rw[filter_cons,if_pos (by simp[i]),j,b,take_succ_cons,drop_succ_cons];by_cases g:hasA r n
   ·rw[if_pos g,if_pos (k.2 g)];rfl
   ·rw[if_neg g,if_neg (fun h=>g (k.1 h))]
  ·have b:cutA (x::r) n=0:=by rw[cutA,if_neg e]
   rw[b,take_zero,nil_append,Nat.zero_add,drop_one,List.tail_cons];by_cases c:x.1=n
   ·rw[if_pos ⟨x.2,by rw[b,<- c];rfl⟩,filter_cons,if_neg (by simp[c])]
    exact filter_all fun y d=>by rw[<- c];exact a.1 y d
   ·have m:¬hasA (x::r) n:=fun⟨v,h⟩=>by rw[b,List.getElem?_cons_zero]at h;cases h;exact c rfl
    rw[if_neg m];have f:=O0 e c
    exact filter_all fun y d=>by
     rcases mem_cons.1 d with rfl|d
     ·exact f
     ·exact E8 f (a.1 y d)
end
end Go.Nod
namespace Go.Proofs.YtljenkbpnioipaaGreat
noncomputable section
open Go Go.Vc Go.Nod
theorem JY(s:ByteArray)(d:s.size<=maxLen)(w:World):Calls Tryz.prog 151 #[.string s] w fun e w'=>e=.returned (.int .i64 (BQ s))/\Hp [] w w' []:=by
 apply gText.ok;unfold gText.vc;refine AC (QC s d w) ?_;rintro _ f ⟨⟨z,rfl,b⟩,H⟩;refine⟨_,rfl,AB (fun h=>⟨?_,H⟩) (fun h=>?_)⟩
 ·rw[BQ,if_pos (b.1 h)]
 ·have c:¬¬Yv s:=fun a=>h (b.2 a)
  refine AB (fun a=>⟨?_,H⟩) (fun a=>⟨?_,H⟩)
  ·rw[BQ,if_neg c,if_pos (by omega)]
  ·rw[BQ,if_neg c,if_neg (by omega)]
theorem inRu64{z:Int}:inR .u64 z↔0<=z/\z<=18446744073709551615:=by
 simp[inR,IntKind.min,IntKind.max,IntKind.signed,IntKind.bits]
theorem ZU(i j n:Nat)(hn:i+j<2^62):IntKind.i64.wrap (Int.fdiv (IntKind.u64.wrap ((i:Int)+j)) (2^min (Int.toNat 1) (IntKind.bits .u64)))=(((i+j)/2:Nat):Int):=by
 have a:IntKind.u64.wrap ((i:Int)+j)=((i+j:Nat):Int):=by
  have:=J3 (k:=.u64) (z:=((i+j:Nat):Int)) (inRu64.2 (by omega));rw[<- Int.natCast_add];exact this
 have b:min (Int.toNat 1) (IntKind.bits .u64)=1:=by decide
 rw[a,b,Int.fdiv_eq_ediv_of_nonneg _ (by omega)]
 have c:((i+j:Nat):Int)/2^1=(((i+j)/2:Nat):Int):=by omega
 rw[c];exact J3 (iR)
theorem ltD(a b:ByteArray):Op.bytesLess a.data.toList b.data.toList=dec (ltB a b):=by
 rw[Go.Proofs.bytesLess_eq];by_cases h:ltB a b
 ·rw[<- Cf h];exact decide_eq_true h
 ·rw[<- CG h];exact decide_eq_false h
def cmpB(a b:ByteArray)(z:Int):Prop:=(z<0↔ltB a b)/\(z=0↔a=b)
theorem Pn(p:At)(n:ByteArray)(w:World):Calls Tryz.prog 219 #[.agg #[.string p.1,.string p.2],.string n] w fun e w'=>∃z,e=.returned (.int .i64 z)/\cmpB p.1 n z/\Hp [] w w' []:=by
 apply gFind1.ok;unfold gFind1.vc;intro b d f;have H:=(Hp.start w).nw f;have ld:Ld Tryz.prog 9 d ⟨b,0,none⟩ (.string p.1):=H.lo yStr;refine⟨p.1,ld,?_⟩;dsimp only;rw[ltD];refine br_d (fun h=>⟨-1,rfl,⟨⟨fun _=>h,fun _=>by omega⟩,⟨fun c=>by omega,fun c=>by rw[c]at h;exact(EH _ h).elim⟩⟩,H.drop⟩) (fun h=>⟨p.1,ld,?_⟩);dsimp only;rw[ltD];rw[<- CG h,Bool.false_or];refine Aa (fun c=>⟨1,rfl,⟨⟨fun a=>by omega,fun a=>(h a).elim⟩,⟨fun a=>by omega,fun a=>(c a).elim⟩⟩,H.drop⟩) (fun c=>⟨0,rfl,⟨⟨fun a=>by omega,fun a=>(h a).elim⟩,⟨fun _=>c,fun _=>rfl⟩⟩,H.drop⟩)
theorem lBSrAt_spec(a:Option Addr)(n c:Nat)(l:List At)(t:ByteArray)(w:World)(F:AtR w a n l)(J:Rs l)(hn:n<=1000000):
  Calls Tryz.prog 218 #[.slice a n c,.string t,.func (.func 219) #[] #[]] w fun e w'=>e=.returned (.tuple #[.int .i64 (cutA l t),.bool (dec (hasA l t))])/\Hp [] w w' []:=by
 apply lBSrAt.ok;unfold lBSrAt.vc;have G:=F.len;have K:=Kv l t;refine AP.mk (fun m s w'=>∃i j:Nat,m=j-i/\s=((i:Int),(j:Int))/\i<=cutA l t/\cutA l t<=j/\j<=n/\Hp [] w w' []) n ⟨0,n,rfl,rfl,by omega,by omega,Nat.le_refl _,Hp.start w⟩ ?_;rintro m s A S ⟨i,j,rfl,rfl,L,M,B,H⟩ r;dsimp only;have f:AtR A a n l:=F.go H;refine AB (fun h=>?_) (fun h=>?_)
 ·rw[ZU i j n (by omega)]
  obtain⟨d,N⟩:∃d,d=(i+j)/2:=⟨_,rfl⟩;rw[<- N]
  have g:d<l.length:=by omega
  have p:l[d]? =some l[d]:=List.getElem?_eq_getElem g;have b:=KW p;obtain⟨O,u⟩:=f.cells.some (fun e=>by rw[e]at b;simp at b);refine⟨iR,by omega,AA u ⟨⟨by omega,by omega⟩,l[d].1,l[d].2,by rw[Int.toNat_natCast];exact f.cells.ldA GN u b rfl,SY Tryz.func219 rfl (AC (Pn l[d] t A) ?_)⟩⟩;rintro _ P ⟨z,rfl,⟨k,o⟩,C⟩;have I:=H.ext0 C;have x:=Ny l t J d _ p;refine⟨z,rfl,AB (fun D=>⟨iR,?_⟩) (fun D=>?_)⟩
  ·have:=x.1 (k.1 D)
   exact r (j-(d+1)) _ _ (by omega) ⟨d+1,j,rfl,by simp,by omega,M,B,I⟩
  ·have:¬d<cutA l t:=fun Q=>D (k.2 (x.2 Q))
   exact r (d-i) _ _ (by omega) ⟨i,d,rfl,rfl,L,by omega,by omega,I⟩
 ·have E:i=cutA l t:=by omega
  subst E;refine AB (fun R=>?_) (fun R=>?_)
  ·have g:cutA l t<l.length:=by omega
   have p:l[cutA l t]? =some l[cutA l t]:=List.getElem?_eq_getElem g;have b:=KW p;obtain⟨O,u⟩:=f.cells.some (fun e=>by rw[e]at b;simp at b);refine AA u ⟨⟨by omega,by omega⟩,l[cutA l t].1,l[cutA l t].2,by rw[Int.toNat_natCast];exact f.cells.ldA GN u b rfl,SY Tryz.func219 rfl (AC (Pn l[cutA l t] t A) ?_)⟩;rintro _ P ⟨z,rfl,⟨k,o⟩,C⟩;refine⟨z,rfl,?_,H.ext0 C⟩
   have:(decide (z=0))=dec (hasA l t):=by
    by_cases y:z=0
    ·rw[<- Cf (show hasA l t from⟨l[cutA l t].2,p.trans (congrArg some (Prod.ext (o.1 y) rfl))⟩)];exact decide_eq_true y
    ·rw[<- CG (show¬hasA l t from fun⟨v,q⟩=>y (o.2 (by rw[p]at q;injection q with q;rw[q])))];exact decide_eq_false y
   rw[this]
  ·have:¬hasA l t:=fun⟨v,q⟩=>by
    have:=(List.getElem?_eq_some_iff.1 q).1;omega
   exact⟨by rw[<- CG this],H⟩
end
end Go.Proofs.YtljenkbpnioipaaGreat
namespace Go.Nod
noncomputable section
open Classical
theorem LQ:∀(l:List At),valsE l=0↔∀a∈l,BQ a.2=0
 | []=>by simp[valsE]
 |a::r=>by
  rw[valsE];split
  ·rename_i h
   rw[LQ r];exact⟨fun b x c=>by rcases mem_cons.1 c with rfl|c;exact h;exact b x c,fun b x c=>b x (.tail _ c)⟩
  ·rename_i h
   exact⟨fun b=>(h b).elim,fun b=>(h (b a (.head _))).elim⟩
theorem LH:∀(l:List At)(a:At),∀y∈EI l a,y=a\/y∈l
 | [],a,y,h=>.inl (mem_singleton.1 h)
 |x::r,a,y,h=>by
  rw[EI]at h;split at h
  ·rcases mem_cons.1 h with rfl|h
   ·exact .inr (.head _)
   ·exact(LH r a y h).imp_right (.tail _)
  ·rcases mem_cons.1 h with rfl|h
   ·exact .inl rfl
   ·exact .inr (mem_filter.1 h).1
theorem Xf:∀(l:List At)(a:At),Rs l->Rs (EI l a)
 | [],a,_=>List.pairwise_singleton _ _
 |x::r,a,h=>by
  have f:=pairwise_cons.1 h;rw[EI];split
  ·rename_i e
   refine pairwise_cons.2 ⟨fun y b=>?_,Xf r a f.2⟩;rcases LH r a y b with rfl|b
   ·exact e
   ·exact f.1 y b
  ·rename_i e
   refine pairwise_cons.2 ⟨fun y b=>?_,h.filter _⟩;obtain⟨b,c⟩:=mem_filter.1 b
   have c:¬y.1=a.1:=by simpa using c
   rcases mem_cons.1 b with rfl|b
   ·exact O0 e c
   ·rcases NE a.1 y.1 with d|d|d
    ·exact d
    ·exact(c d.symm).elim
    ·exact(e (E8 (f.1 y b) d)).elim
theorem lessA_rs{l:List At}(h:Rs l)(n:ByteArray):Rs (IP l n):=h.filter _
theorem RZ{x:NX}(h:Ap x=0)(f:x.kind=1):x.text=⟨#[]⟩/\Dq x.name/\Pz x.attrs/\x.attrs.length<=20/\∀a∈x.attrs,BQ a.2=0:=by
 rw[Ap,if_neg (by omega)]at h;split at h
 ·rename_i e
  split at h
  ·rename_i d
   rw[DJ]at d;split at d
   ·cases d
   ·split at d
    ·cases d
    ·split at d
     ·cases d
     ·rename_i a b c
      exact⟨e.2,Classical.not_not.1 a,Classical.not_not.1 b,by omega,(LQ _).1 h⟩
  ·rename_i d
   exact(d h).elim
 ·cases h
theorem TL{x:NX}(b:x.kind=1)(h1:x.text=⟨#[]⟩)(c:Dq x.name)(d:Pz x.attrs)(g:x.attrs.length<=20)(f:∀a∈x.attrs,BQ a.2=0):Ap x=0:=by
 have e:DJ x=0:=by rw[DJ,if_neg (fun h=>h c),if_neg (fun h=>h d),if_neg (by omega)]
 rw[Ap,if_neg (by omega),if_pos ⟨b,h1⟩,if_pos e];exact(LQ _).2 f
theorem parts_text{x:NX}(h:Ap x=0)(a:x.kind=2):x.name=⟨#[]⟩/\x.attrs=[]:=by
 rw[Ap,if_pos a]at h;split at h
 ·assumption
 ·cases h
theorem text_parts{x:NX}(a:x.kind=2)(h:x.name=⟨#[]⟩/\x.attrs=[]):Ap x=BQ x.text:=by rw[Ap,if_pos a,if_pos h]
theorem setAttr_eq{T:Tr}{id v:Int}{x:NX}{n:Nat}{a:At}(c:atR T.L id=some (n,⟨id,v,x⟩))(f:x.kind=1):
  (¬Dq a.1->T.Dj id a=(T,63))/\(Dq a.1->BQ a.2≠0->T.Dj id a=(T,BQ a.2))/\
  (Dq a.1->BQ a.2=0->T.Dj id a=if 20<(EI x.attrs a).length then((T,67):Tr×Int)else(⟨setR T.L n ⟨id,v,x⟩ {x with attrs:=EI x.attrs a},T.next⟩,0)):=by
 have d:¬x.kind≠1:=fun h=>h f;rw[Tr.Dj,c];dsimp only;rw[if_neg d];exact⟨fun h=>by rw[if_pos h],fun h e=>by rw[if_neg (fun b=>b h),if_pos e],fun h e=>by rw[if_neg (fun b=>b h),if_neg (fun b=>b e)]⟩
end
end Go.Nod
namespace Go.Proofs.YtljenkbpnioipaaGreat
noncomputable section
open Go Go.Vc Go.Nod
theorem Nq{f:List Nat}{b mb:Nat}{F:Fo}{T:Tr}{w w':World}{X:List Asn}(c:BM F T){id q v:Int}{x x':NX}{k:Fo}{A B:List Rw}(a:AX F 0 id=some (q,x,k))(g:Mid F 0 id 0 q x k A B v)
  {h Bw:List (NW×En)} {y y':NW} (i:CY F (h++(y,⟨id,q,x,tops k⟩)::Bw)) (j:x'.kind=x.kind) (l:Ap x'=0) (H:Hp f w w' (treL b mb (AZ F) T.next (h++(y',⟨id,q,x',tops k⟩)::Bw)++X)):
  ∃m,Hp f w w' [AU m b ⟨setR T.L A.length ⟨id,v,x⟩ x',T.next⟩]:=by
 obtain⟨R,n,_,o⟩:=Dn F 0 id c.nodup a;have d:=c.turn a g (f:=fun _=>x') j l
 have e:setR T.L A.length ⟨id,v,x⟩ x'=flat (Dv id (fun _=>x') F) 0:=by rw[<- c.fl];exact g.setR fun _=>x'
 have p:AZ F=AZ (Dv id (fun _=>x') F):=by rw[Fv,Fv,O7]
 rw[p]at H;rw[e];refine Yd d ?_ H;exact(LC (i.trans n)).trans (o fun _=>x').symm
theorem Y0{y:NW}{e:En}{L:List Asn}{w:World}(f:Std w L)(d:∀a∈nodL (y,e),a∈L)(g:Rs e.x.attrs)(hn:e.x.attrs.length<=1000000)(t:ByteArray):
  Calls Tryz.prog 152 #[.pointer (some ⟨y.b,0,none⟩),.string t] w fun en w'=>en=.returned (.tuple #[.int .i64 (cutA e.x.attrs t),.bool (dec (hasA e.x.attrs t))])/\Hp [] w w' []:=by
 apply gFind.ok;unfold gFind.vc;have H:=Hp.Bv f;have c:Own w 0 142 2 y.aa e.x.attrs.length y.ac (atC e.x.attrs):=H.ownA (d _ m1);refine AA rfl ⟨y.aa,e.x.attrs.length,y.ac,by rw[add_lit];exact H.ld (o:=6) (cs:=nodC y e) EQ4 iSAt (d _ (.head _)) rfl,?_⟩;refine AC (lBSrAt_spec y.aa e.x.attrs.length y.ac e.x.attrs t w ⟨rfl,c.cells⟩ g hn) ?_;rintro _ i ⟨rfl,h⟩;exact⟨_,_,rfl,rfl,h⟩
theorem XI(l:List At)(k:Nat):(atC l).take (k*2)=atC (l.take k):=by
 induction l generalizing k with
 |nil=>simp[atC]
 |cons p r a=>
  cases k with
  |zero=>simp[atC]
  |succ k=>
   have e:atC (p::r)=Value.string p.1::.string p.2::atC r:=rfl;rw[e,Nat.succ_mul,take_succ_cons,take_succ_cons,a k];rfl
theorem QO{F:Fo}{T:Tr}{id q:Int}{x:NX}{k:Fo}(b:BM F T)(a:AX F 0 id=some (q,x,k)):Ap x=0:=(KD F 0 id b.ok a).1
theorem gSetAttr_spec{f:List Nat}{b:Nat}{T:Tr}{w:World}(h:(AU f b T).ok w)(id:Int)(name d:ByteArray)(hv:d.size<=maxLen):
  Calls Tryz.prog 94 #[.pointer (some ⟨b,0,none⟩),.int .i64 id,.string name,.string d] w fun e w'=>∃E,e=.returned (.int .i64 (T.Dj id (name,d)).2)/\Hp f w w' [AU E b (T.Dj id (name,d)).1]:=by
 apply gSetAttr.ok;unfold gSetAttr.vc;have s:Hp f w w [AU f b T]:=BZ h;obtain⟨M,⟨F,G,I,ws,hw,rfl⟩,H,hf⟩:=s.unpack;have j:∀(w':World)(c:Int),Hp f w w' [AU f b T]->T.Dj id (name,d)=(T,c)->∃E,Ending.returned (.int .i64 c)=.returned (.int .i64 (T.Dj id (name,d)).2)/\Hp f w w' [AU E b (T.Dj id (name,d)).1]:=fun w' c H9 e=>⟨f,by rw[e],by rw[e];exact H9⟩;refine AC (MJ G.nodup hw H.std1 id) ?_;rintro e w1 ⟨rfl,⟨l,rfl⟩|⟨q,x,k,l,r,rfl⟩|⟨q,x,k,R,y,S,l,r,Z,rfl⟩⟩
 ·refine⟨_,_,rfl,Aa (fun _=>j _ _ s (by rw[Tr.Dj,(G.noRow l).2])) (fun e=>by omega)⟩
 ·obtain⟨A,B,v,hm,ak,J,_⟩:=G.rows l
  refine⟨_,_,rfl,Aa (fun _=>j _ _ s (by rw[Tr.Dj,J];dsimp only;rw[if_pos r])) (fun e=>by omega)⟩
 obtain⟨A,B,v,hm,ak,J,_⟩:=G.rows l;have a1:¬x.kind≠1:=fun h=>h r;obtain⟨al,am,g⟩:=setAttr_eq (a:=(name,d)) J r;obtain⟨an,ao,C,ap,aq⟩:=RZ (QO G l) r;refine⟨_,_,rfl,Aa (fun e=>by omega) (fun _=>?_)⟩;refine AC (IB name w1) ?_;rintro _ w2 ⟨rfl,z⟩;replace s:=s.ext0 z;replace H:=H.ext0 z;refine⟨_,rfl,KR (fun h1=>j _ _ s (al h1)) (fun h1=>?_)⟩;refine AC (JY d hv w2) ?_;rintro _ w3 ⟨rfl,z⟩;replace s:=s.ext0 z;replace H:=H.ext0 z;refine⟨_,rfl,Aa (fun h2=>?_) (fun h2=>?_)⟩
 ·refine AC (JY d hv w3) ?_
  rintro _ w4 ⟨rfl,z⟩;exact⟨_,rfl,j _ _ (s.ext0 z) (am h1 h2)⟩
 replace g:=g h1 h2;have hL:∀a∈nodL (y,(⟨id,q,x,tops k⟩:En)),a∈treL b I (AZ F) T.next ws++[]:=fun a m=>mem_append_left _ (Di (p:=(y,⟨id,q,x,tops k⟩)) (by rw[Z];simp) m);refine AC (Y0 H.std hL C.2 (by dsimp only;omega) name) ?_;rintro _ w4 ⟨rfl,z⟩;replace s:=s.ext0 z;replace H:=H.ext0 z;dsimp only;have K:=Xv x.attrs (name,d) C.2;dsimp only at K;have ab:Own w4 0 142 2 y.aa x.attrs.length y.ac (atC x.attrs):=H.ownA (hL _ m1);have ar:=Kv x.attrs name
 have t:∀{n:Nat},(EI x.attrs (name,d)).length=n->n<=20->Ap {x with attrs:=EI x.attrs (name,d)}=0:=fun e hn=>TL r an ao ⟨fun a m=>by
  rcases LH _ _ a m with rfl|m
  ·exact h1
  ·exact C.1 a m,Xf _ _ C.2⟩ (by show(EI x.attrs (name,d)).length<=20;omega) (fun a m=>by
  rcases LH _ _ a m with rfl|m
  ·exact h2
  ·exact aq a m)
 have L:Ld Tryz.prog 69 w4 ⟨y.b,6,none⟩ (.slice y.aa x.attrs.length y.ac):=H.ld (o:=6) (cs:=nodC y ⟨id,q,x,tops k⟩) EQ4 iSAt (hL _ (.head _)) rfl;subst Z;refine⟨_,_,rfl,br_d (fun h3=>?_) (fun h3=>?_)⟩
 ·rw[if_pos h3]at K
  obtain⟨v0,N⟩:=h3;have a2:=(List.getElem?_eq_some_iff.1 N).1
  have i:(EI x.attrs (name,d)).length=x.attrs.length:=by rw[K];simp;omega
  rw[if_neg (by omega)]at g
  have ae:atC (EI x.attrs (name,d))=over [.string d] (cutA x.attrs name*2+1) (atC x.attrs):=by
   have e1:atC x.attrs=atC (x.attrs.take (cutA x.attrs name))++([.string name]++([.string v0]++atC (x.attrs.drop (cutA x.attrs name+1)))):=by
    have e2:x.attrs=x.attrs.take (cutA x.attrs name)++(name,v0)::x.attrs.drop (cutA x.attrs name+1):=by
     have:=(List.getElem?_eq_some_iff.1 N).2;rw[<- this,getElem_cons_drop,take_append_drop]
    conv=>lhs;rw[e2]
    rw[Gz];rfl
   rw[K,Gz,e1]
   have hl:cutA x.attrs name*2+1=(atC (x.attrs.take (cutA x.attrs name))++[Value.string name]).length:=by rw[length_append,Ky,length_take];simp;omega
   rw[hl,<- append_assoc,FT [.string d] _ [.string v0] _ rfl,append_assoc];rfl
  have H1:=IG H
  have H2:=H1.perm (M:=.own 142 2 y.aa x.attrs.length y.ac (atC x.attrs)::.blk y.b (nodC y ⟨id,q,x,tops k⟩) 139::.own 3 1 y.ka (tops k).length y.kc (AO (tops k))::(.blk b (treC I (AZ F) T.next) 119::.imap I .i64 (nodM (R++(y,(⟨id,q,x,tops k⟩:En))::S))::(BR (R++S)++[]))) (by
   refine AL fun ff gg O P m Q=>?_
   simp only[nodL,m,P,O];omega)
  have D:=KW N;obtain⟨ad,af⟩:=ab.cells.some (fun e=>by rw[e]at D;simp at D);refine AA rfl ⟨y.aa,x.attrs.length,y.ac,by rw[add_lit];exact L,AA af ⟨⟨by omega,by omega⟩,?_⟩⟩;rw[Int.toNat_natCast,add_add];refine Hp.stO H2 (v:=.string d) (o:=cutA x.attrs name*2+1) EQ4 af rfl rfl (by rw[Ky];simp[Value.cells];omega) ae.symm fun w5 U=>?_
  have Y:=Jk (b:=b) (mb:=I) (root:=AZ F) (next:=T.next) (A:=R) (Bw:=S) (y:=y) (e:=⟨id,q,x,tops k⟩) (y':=y) (e':=⟨id,q,{x with attrs:=EI x.attrs (name,d)},tops k⟩) (X:=[]) (B:=f) (w0:=_) (w:=w5) rfl rfl (U.perm (by
   refine AL fun ff gg O P m Q=>?_
   simp only[nodL,nodC,m,P,O,i];omega))
  obtain⟨E,H5⟩:=Nq G l hm hw (x':= {x with attrs:=EI x.attrs (name,d)}) rfl (t i ap) Y;exact⟨E,by rw[g],by rw[g];exact H5⟩
 ·rw[if_neg h3]at K
  have i:(EI x.attrs (name,d)).length=x.attrs.length+1:=by rw[K];simp;omega
  refine AA rfl ⟨y.aa,x.attrs.length,y.ac,by rw[add_lit];exact L,AB (fun h4=>j _ _ s ?_) (fun h4=>?_)⟩
  ·rw[g,if_pos (by omega)]
  rw[if_neg (by omega)]at g;refine AA rfl ⟨y.aa,x.attrs.length,y.ac,by rw[add_lit];exact L,fun b5 w5 av=>?_⟩;have H1:=IG H
  have H2:=H1.perm (M:=.own 142 2 y.aa x.attrs.length y.ac (atC x.attrs)::.blk y.b (nodC y ⟨id,q,x,tops k⟩) 139::.own 3 1 y.ka (tops k).length y.kc (AO (tops k))::(.blk b (treC I (AZ F) T.next) 119::.imap I .i64 (nodM (R++(y,(⟨id,q,x,tops k⟩:En))::S))::(BR (R++S)++[]))) (by
   refine AL fun ff gg O P m Q=>?_
   simp only[nodL,m,P,O];omega)
  have U:=H2.nw av;have aw:b5∉blks y.aa:=fun hh=>(pairwise_cons.1 U.sep).1 _ (.head _) b5 (.head _) hh;refine AC (lInsAt_spec y.aa x.attrs.length y.ac (cutA x.attrs name) b5 (atC x.attrs) [.string name,.string d] 142 w5 (U.ownA m1) (Kz _) ar (U.blk (.head _)) rfl (by intro u hu;simp at hu;rcases hu with rfl|rfl<;>rfl) aw (by omega)) ?_;rintro _ w6 ⟨ag,ah,rfl,Y⟩;replace Y:=U.Af.BX Y
  have a0:(atC x.attrs).take (cutA x.attrs name*2)++([Value.string name,.string d]++(atC x.attrs).drop (cutA x.attrs name*2))=atC (EI x.attrs (name,d)):=by
   rw[K,Gz,XI,XE];rfl
  rw[a0]at Y;refine⟨_,_,_,rfl,AA rfl ?_⟩;rw[add_lit];refine Hp.st (o:=6) Y.BA EQ4 iSAt rfl rfl (by simp[nodC]) (cs':=nodC {y with aa:=ag,ac:=ah} ⟨id,q,{x with attrs:=EI x.attrs (name,d)},tops k⟩) (by rw[<- i];rfl) fun w7 H5=>?_
  have H6:=Jk (b:=b) (mb:=I) (root:=AZ F) (next:=T.next) (A:=R) (Bw:=S) (y:=y) (e:=⟨id,q,x,tops k⟩) (y':= {y with aa:=ag,ac:=ah}) (e':=⟨id,q,{x with attrs:=EI x.attrs (name,d)},tops k⟩) (X:=[.blk b5 [.string name,.string d] 142]) (B:=f) (w0:=_) (w:=w7) rfl rfl (H5.perm (by
   refine AL fun ff gg O P m Q=>?_
   simp only[nodL,m,P,O,i];omega))
  obtain⟨E,H7⟩:=Nq G l hm hw (x':= {x with attrs:=EI x.attrs (name,d)}) rfl (t i (by omega)) H6;exact⟨E,by rw[g],by rw[g];exact H7⟩
theorem gDelAttr_spec{f:List Nat}{b:Nat}{T:Tr}{w:World}(h:(AU f b T).ok w)(id:Int)(name:ByteArray):
  Calls Tryz.prog 95 #[.pointer (some ⟨b,0,none⟩),.int .i64 id,.string name] w fun e w'=>∃u,e=.returned (.int .i64 (T.EP id name).2)/\Hp f w w' [AU u b (T.EP id name).1]:=by
 apply gDelAttr.ok;unfold gDelAttr.vc;have s:Hp f w w [AU f b T]:=BZ h;obtain⟨M,⟨F,t,C,ws,hw,rfl⟩,H,hf⟩:=s.unpack;have i:∀(w':World)(c:Int),Hp f w w' [AU f b T]->T.EP id name=(T,c)->∃u,Ending.returned (.int .i64 c)=.returned (.int .i64 (T.EP id name).2)/\Hp f w w' [AU u b (T.EP id name).1]:=fun w' c H9 e=>⟨f,by rw[e],by rw[e];exact H9⟩;refine AC (MJ t.nodup hw H.std1 id) ?_;rintro e w1 ⟨rfl,⟨d,rfl⟩|⟨q,x,k,d,j,rfl⟩|⟨q,x,k,I,y,J,d,j,z,rfl⟩⟩
 ·refine⟨_,_,rfl,Aa (fun _=>i _ _ s (by rw[Tr.EP,(t.noRow d).2])) (fun e=>by omega)⟩
 ·obtain⟨A,B,v,hm,K,r,_⟩:=t.rows d
  refine⟨_,_,rfl,Aa (fun _=>i _ _ s (by rw[Tr.EP,r];dsimp only;rw[if_pos j])) (fun e=>by omega)⟩
 obtain⟨A,B,v,hm,K,r,_⟩:=t.rows d;have N:¬x.kind≠1:=fun h=>h j
 have g:T.EP id name=if(IP x.attrs name).length=x.attrs.length then((T,63):Tr×Int)else(⟨setR T.L A.length ⟨id,v,x⟩ {x with attrs:=IP x.attrs name},T.next⟩,0):=by
  rw[Tr.EP,r];dsimp only;rw[if_neg N]
 obtain⟨O,P,l,ae,Q⟩:=RZ (QO t d) j;refine⟨_,_,rfl,Aa (fun e=>by omega) (fun _=>?_)⟩;have hL:∀a∈nodL (y,(⟨id,q,x,tops k⟩:En)),a∈treL b C (AZ F) T.next ws++[]:=fun a m=>mem_append_left _ (Di (p:=(y,⟨id,q,x,tops k⟩)) (by rw[z];simp) m);refine AC (Y0 H.std hL l.2 (by dsimp only;omega) name) ?_;rintro _ w4 ⟨rfl,Hn⟩;replace s:=s.ext0 Hn;replace H:=H.ext0 Hn;dsimp only;have D:=YJ x.attrs name l.2;have af:=Kv x.attrs name;have R:Ld Tryz.prog 69 w4 ⟨y.b,6,none⟩ (.slice y.aa x.attrs.length y.ac):=H.ld (o:=6) (cs:=nodC y ⟨id,q,x,tops k⟩) EQ4 iSAt (hL _ (.head _)) rfl;subst z;refine⟨_,_,rfl,KR (fun E=>i _ _ s ?_) (fun E=>?_)⟩
 ·rw[g,D,if_neg E,if_pos rfl]
 rw[if_pos E]at D;obtain⟨v0,S⟩:=E;have U:=(List.getElem?_eq_some_iff.1 S).1
 have n:(IP x.attrs name).length=x.attrs.length-1:=by rw[D];simp;omega
 rw[if_neg (by omega)]at g;have H1:=IG H
 have H2:=H1.perm (M:=.own 142 2 y.aa x.attrs.length y.ac (atC x.attrs)::.blk y.b (nodC y ⟨id,q,x,tops k⟩) 139::.own 3 1 y.ka (tops k).length y.kc (AO (tops k))::(.blk b (treC C (AZ F) T.next) 119::.imap C .i64 (nodM (I++(y,(⟨id,q,x,tops k⟩:En))::J))::(BR (I++J)++[]))) (by
  refine AL fun ff gg Y Z m ab=>?_
  simp only[nodL,m,Z,Y];omega)
 refine AA rfl ⟨y.aa,x.attrs.length,y.ac,by rw[add_lit];exact R,iR,?_⟩;refine AC (lDelAt_spec y.aa x.attrs.length y.ac (cutA x.attrs name) (atC x.attrs) w4 (H2.ownA (.head _)) (Kz _) U) ?_;rintro _ w5 ⟨rfl,G⟩;replace G:=H2.BX G
 have ad:(atC x.attrs).take (cutA x.attrs name*2)++(atC x.attrs).drop ((cutA x.attrs name+1)*2)=atC (IP x.attrs name):=by
  rw[D,Gz,XI,XE]
 rw[ad]at G;refine⟨_,_,_,rfl,AA rfl ?_⟩;rw[add_lit];refine Hp.st (o:=6) G.Af EQ4 iSAt rfl rfl (by simp[nodC]) (cs':=nodC y ⟨id,q,{x with attrs:=IP x.attrs name},tops k⟩) (by rw[<- n];rfl) fun w7 H5=>?_
 have H6:=Jk (b:=b) (mb:=C) (root:=AZ F) (next:=T.next) (A:=I) (Bw:=J) (y:=y) (e:=⟨id,q,x,tops k⟩) (y':=y) (e':=⟨id,q,{x with attrs:=IP x.attrs name},tops k⟩) (X:=[]) (B:=f) (w0:=_) (w:=w7) rfl rfl (H5.perm (by
  refine AL fun ff gg Y Z m ab=>?_
  simp only[nodL,m,Z,Y,n];omega))
 obtain⟨u,H7⟩:=Nq t d hm hw (x':= {x with attrs:=IP x.attrs name}) rfl (TL j O P ⟨fun a m=>l.1 a (mem_filter.1 m).1,lessA_rs l.2 _⟩ (by show(IP x.attrs name).length<=20;omega) fun a m=>Q a (mem_filter.1 m).1) H6;exact⟨u,by rw[g],by rw[g];exact H7⟩
theorem gSetText_spec{f:List Nat}{b:Nat}{T:Tr}{w:World}(h:(AU f b T).ok w)(id:Int)(s:ByteArray)(J:s.size<=maxLen):
  Calls Tryz.prog 96 #[.pointer (some ⟨b,0,none⟩),.int .i64 id,.string s] w fun e w'=>∃m,e=.returned (.int .i64 (T.Ee id s).2)/\Hp f w w' [AU m b (T.Ee id s).1]:=by
 apply gSetText.ok;unfold gSetText.vc;have l:Hp f w w [AU f b T]:=BZ h;obtain⟨M,⟨F,n,K,N,O,rfl⟩,H,hf⟩:=l.unpack;have i:∀(w':World)(c:Int),Hp f w w' [AU f b T]->T.Ee id s=(T,c)->∃m,Ending.returned (.int .i64 c)=.returned (.int .i64 (T.Ee id s).2)/\Hp f w w' [AU m b (T.Ee id s).1]:=fun w' c P e=>⟨f,by rw[e],by rw[e];exact P⟩;obtain⟨Q,E,r,G⟩:=WP n.nodup O id;refine AA rfl ⟨_,H.lo nMN,Q,(aget (nodM N) id).isSome,H.Lm Dy EQ4 m1 E rfl,Fh (fun u=>?_) (fun u=>?_)⟩
 ·refine i _ _ l ?_
  have g:AX F 0 id=none:=Classical.byContradiction fun j=>by rw[r.2 j]at u;cases u
  rw[Tr.Ee,(n.noRow g).2]
 obtain⟨⟨q,x,k⟩,g⟩:∃z,AX F 0 id=some z:=Option.ne_none_iff_exists'.1 (r.1 u);obtain⟨R,y,S,t,rfl,U⟩:=G g;obtain⟨A,B,v,Y,Z,I,_⟩:=n.rows g
 have d:T.Ee id s=if x.kind≠2 then((T,68):Tr×Int)else if BQ s≠0 then(T,BQ s)else(⟨setR T.L A.length ⟨id,v,x⟩ {x with text:=s},T.next⟩,0):=by
  rw[Tr.Ee,I]
 have hL:∀a∈nodL (y,(⟨id,q,x,tops k⟩:En)),a∈treL b K (AZ F) T.next N++[]:=fun a ha=>mem_append_left _ (Di (p:=(y,⟨id,q,x,tops k⟩)) (by rw[t];simp) ha);refine AA rfl ⟨x.kind,by rw[add_lit];exact H.ld (o:=2) (cs:=nodC y ⟨id,q,x,tops k⟩) EQ4 yInt (hL _ (.head _)) rfl,Aa (fun j=>i _ _ l (by rw[d,if_pos j])) (fun j=>?_)⟩;rw[if_neg (fun h=>h j)]at d;refine AC (JY s J w) ?_;rintro _ w3 ⟨rfl,C⟩;replace l:=l.ext0 C;replace H:=H.ext0 C;refine⟨_,rfl,Aa (fun D=>?_) (fun D=>?_)⟩
 ·refine AC (JY s J w3) ?_
  rintro _ w4 ⟨rfl,C⟩;exact⟨_,rfl,i _ _ (l.ext0 C) (by rw[d,if_pos D])⟩
 rw[if_neg (fun h=>h D)]at d;subst t;have H1:=IG H;refine AA rfl ?_;rw[add_lit];refine Hp.st (o:=5) H1 EQ4 yStr rfl rfl (by simp[nodC]) (cs':=nodC y ⟨id,q,{x with text:=s},tops k⟩) rfl fun w7 H5=>?_;have H6:=Jk (b:=b) (mb:=K) (root:=AZ F) (next:=T.next) (A:=R) (Bw:=S) (y:=y) (e:=⟨id,q,x,tops k⟩) (y':=y) (e':=⟨id,q,{x with text:=s},tops k⟩) (X:=[]) (B:=f) (w0:=_) (w:=w7) rfl rfl H5;have ht:=parts_text (QO n g) j;obtain⟨m,H7⟩:=Nq n g Y O (x':= {x with text:=s}) rfl ((text_parts (x:= {x with text:=s}) j ht).trans D) H6;exact⟨m,by rw[d],by rw[d];exact H7⟩
end
end Go.Proofs.YtljenkbpnioipaaGreat
namespace Go.Vc
open Go
theorem rest_step{α:Type}{kv:α->Value×Value}{d:Array MapEntry}{c:Array Nat}{e:MapEntry}{l:List α}(i:((D8 d c).map fun e=>(e.key,e.val)).Perm (l.map kv))(m:(D8 d c).Perm (e::D8 d (c.push e.born))):
  ∃g r h,l=g++r::h/\(e.key,e.val)=kv r/\((D8 d (c.push e.born)).map fun e=>(e.key,e.val)).Perm ((g++h).map kv)/\(D8 d (c.push e.born)).length<(D8 d c).length:=by
 have j:(e.key,e.val)∈l.map kv:=i.mem_iff.1 (mem_map.2 ⟨e,m.mem_iff.2 (.head _),rfl⟩);obtain⟨r,n,k⟩:=mem_map.1 j;obtain⟨g,h,rfl⟩:=append_of_mem n;refine⟨g,r,h,rfl,k.symm,?_,by have:=m.length_eq;simp only[length_cons]at this;omega⟩
 have o:((e.key,e.val)::(D8 d (c.push e.born)).map fun e=>(e.key,e.val)).Perm ((e.key,e.val)::((g++h).map kv)):=by
  refine((m.map fun e=>(e.key,e.val)).symm.trans i).trans ?_;rw[<- k];exact(perm_middle (a:=r) (l₁:=g) (l₂:=h)).map _
 exact(List.perm_cons _).1 o
theorem XC{α:Type}{kv:α->Value×Value}{l:List MapEntry}{c:List α}(a:(l.map fun e=>(e.key,e.val)).Perm (c.map kv))(h:l=[]):c=[]:=by
 subst h;have:=a.length_eq;simp at this;exact eq_nil_of_length_eq_zero this.symm
end Go.Vc
namespace Go.Nod
theorem Q7:∀(F:Fo)(p:Int),FOk F->∀e∈ents F p,Ap e.x=0
 |.nil,_,_,e,h=>by rw[ents]at h;cases h
 |.cons i x k s,p,h,e,a=>by
  rw[ents,mem_cons,mem_append]at a;rcases a with rfl|a|a
  ·exact h.1
  ·exact Q7 k i h.2.2.1 e a
  ·exact Q7 s p h.2.2.2 e a
theorem Mid.parent{F:Fo}{i q:Int}{x:NX}{k:Fo}{A B:List Rw}{v:Int}(m:Mid F 0 i 0 q x k A B v):BC (flat F 0) A.length=q:=by
 rcases m.up with⟨a,c⟩|⟨_,A1,y,h,d,e⟩
 ·rw[BC,m.here]
  dsimp only;rw[m.fl,List.take_left,a];refine Ja A 0 fun z g=>?_;rw[c];exact Bo F 0 z (by rw[m.fl];exact mem_append_left _ g)
 ·rw[m.fl]
  subst d;exact parent_mid rfl e
end Go.Nod
namespace Go.Proofs.YtljenkbpnioipaaGreat
noncomputable section
open Go Go.Vc Go.Nod
theorem QR{w:World}{d:Nat}{e:TypeId}{j:Nat}{a:Option Addr}{n c:Nat}{xs:List Value}(h:Own w d e j a n c xs):a=none->n=0:=fun e=>by
 rcases h.2 with⟨_,k,_⟩|⟨g,_,_,i,_⟩
 ·exact k
 ·rw[e]at i;cases i
theorem Z8{F:Fo}{T:Tr}(c:BM F T){a:List (NW×En)}(d:CY F a):∀p∈a,p.2.x.attrs.length<=1000:=fun p e=>by
 have:=(Fg (Q7 F 0 c.ok p.2 (d.mem_iff.1 (mem_map.2 ⟨p,e,rfl⟩)))).1;omega
section
variable{f:List Nat}{b:Nat}{T:Tr}{w:World}
theorem KG(h:(AU f b T).ok w):Calls Tryz.prog 28 #[.pointer (some ⟨b,0,none⟩)] w fun e w'=>∃g a c,e=.returned (.slice a T.L.length c)/\Hp f w w' [AU g b T,.own 3 1 a T.L.length c (AO (T.L.map (·.id)))]:=by
 have n:Hp f w w [AU f b T]:=BZ h;obtain⟨M,⟨F,d,i,j,k,rfl⟩,H,x⟩:=n.unpack;have o:=U0 d;have y:=BP d;have l:=d.len;refine Calls.mono (gOrder_w d.nodup (by omega) k H.std1) ?_;rintro _ z ⟨a,c,rfl,p⟩;have m:=H.useL p;rw[o]at m⊢
 obtain⟨g,q⟩:=(m.perm (M:=treL b i (AZ F) T.next j++[.own 3 1 a T.L.length c (AO (T.L.map (·.id)))]) (by
  refine AL fun ff A r s t u=>?_
  simp only[t,s,r];omega)).Cm (Q:=Jn b T) ⟨F,d,i,j,k,rfl⟩
 exact⟨g,a,c,rfl,q⟩
theorem P7(h:(AU f b T).ok w):Calls Tryz.prog 32 #[.pointer (some ⟨b,0,none⟩),.int .i64 (aN T)] w fun e w'=>∃i a c ss,e=.returned (.slice a T.L.length c)/\SlOk (T.L.map AY) ss/\
  Hp f w w' (AU i b T::.own 123 5 a T.L.length c (itsC (T.L.map AY) ss)::Be (T.L.map AY) ss):=by
 have q:Hp f w w [AU f b T]:=BZ h;obtain⟨M,⟨F,d,l,j,k,rfl⟩,H,B⟩:=q.unpack;have r:=U0 d;have C:=BP d;have m:=d.len;have g:∀p∈j,p.2.x.attrs.length<=1000:=Z8 d k;have:=gItems_w d.nodup (by omega) g k (AZ F) H.std1;rw[show aN T=AZ F from(Yr d).symm];refine Calls.mono this ?_;rintro _ D ⟨a,c,ss,rfl,n,s⟩;have o:=H.useL s;rw[r]at o n⊢
 obtain⟨i,t⟩:=(o.perm (M:=treL b l (AZ F) T.next j++(.own 123 5 a T.L.length c (itsC (T.L.map AY) ss)::Be (T.L.map AY) ss)) (by
  refine AL fun ff E u y z A=>?_
  simp only[z,y,u];omega)).Cm (Q:=Jn b T) ⟨F,d,l,j,k,rfl⟩
 exact⟨i,a,c,ss,rfl,n,t⟩
theorem O9(h:(AU f b T).ok w)(id:Int):Calls Tryz.prog 29 #[.pointer (some ⟨b,0,none⟩),.int .i64 id] w fun e w'=>∃s,
  (atR T.L id=none/\e=.returned (.tuple #[.agg #[.int .i64 0,.int .i64 0,.int .i64 0,.int .i64 0,.string ⟨#[]⟩,.string ⟨#[]⟩,.slice none 0 0],.bool false])/\Hp f w w' [AU s b T])\/
  ∃n r a c kd,atR T.L id=some (n,r)/\e=.returned (.tuple #[.agg #[.int .i64 id,.int .i64 (BC T.L n),.int .i64 r.x.kind,.int .i64 kd,.string r.x.name,.string r.x.text,.slice a r.x.attrs.length c],.bool true])/\r.x.attrs.length<=20/\
   Hp f w w' [AU s b T,.own 142 2 a r.x.attrs.length c (atC r.x.attrs)]:=by
 apply gGet.ok;unfold gGet.vc;have H0:Hp f w w [AU f b T]:=BZ h;obtain⟨M,⟨F,l,N,J,O,rfl⟩,H,hf⟩:=H0.unpack;rw[append_nil]at H;intro zb w1 u;have t:=H.nw u;clear H u;obtain⟨pv,P,C,S⟩:=WP l.nodup O id;refine AA rfl ⟨_,t.lo nMN,pv,(aget (nodM J) id).isSome,t.Lm Dy EQ4 m2 P rfl,Fh (fun K=>?_) (fun K=>?_)⟩
 ·have d:AX F 0 id=none:=Classical.byContradiction fun h2=>by rw[C.2 h2]at K;cases K
  refine Hp.sA t Jo (cs':=[.int .i64 0,.int .i64 0,.int .i64 0,.int .i64 0,.string ⟨#[]⟩,.string ⟨#[]⟩,.slice none 0 0]) fun w2 D=>?_;refine⟨0,0,0,0,⟨#[]⟩,⟨#[]⟩,none,0,0,D.loA Jo,?_⟩;obtain⟨s,m⟩:=Yd (X:=[]) l O (by rw[append_nil];exact D.drop);exact⟨s,.inl ⟨(l.noRow d).2,rfl,m⟩⟩
 obtain⟨⟨q,x,k⟩,d⟩:∃z,AX F 0 id=some z:=Option.ne_none_iff_exists'.1 (C.1 K);obtain⟨Aw,y,Bw,U,rfl,ad⟩:=S d;obtain⟨A,B,v,hm,ae,Y,_⟩:=l.rows d;have E:∀a∈nodL (y,(⟨id,q,x,tops k⟩:En)),a∈treL b N (AZ F) T.next J:=fun a Z=>Di (p:=(y,⟨id,q,x,tops k⟩)) (by rw[U];simp) Z;have ab:=(Fg (QO l d)).1;refine AA rfl ⟨id,q,x.kind,0,x.name,x.text,y.aa,x.attrs.length,y.ac,t.ldA (o:=0) (cs:=nodC y ⟨id,q,x,tops k⟩) EQ4 Jo (.tail _ (E _ (.head _))) rfl rfl,?_⟩;intro b2 w2 G;have D:=t.nw G;clear t G;refine Hp.sA D Jo (cs':=[.int .i64 id,.int .i64 q,.int .i64 x.kind,.int .i64 0,.string x.name,.string x.text,.slice y.aa x.attrs.length y.ac]) fun w3 m=>?_;clear D;have j:Own w3.drew 0 142 2 y.aa x.attrs.length y.ac (atC x.attrs):=(m.drew).ownA (.tail _ (.tail _ (E _ m1)));refine AA rfl ⟨y.ka,(tops k).length,y.kc,by rw[add_lit];exact m.ld (o:=7) (cs:=nodC y ⟨id,q,x,tops k⟩) EQ4 nSI (.tail _ (.tail _ (E _ (.head _)))) rfl,AA rfl ⟨y.aa,x.attrs.length,y.ac,by rw[add_lit];exact m.ld (o:=6) (cs:=nodC y ⟨id,q,x,tops k⟩) EQ4 iSAt (.tail _ (.tail _ (E _ (.head _)))) rfl,?_⟩⟩;refine AC (Fz y.aa x.attrs.length y.ac (atC x.attrs) w3.drew j.cells (Ky _) (Kz _) (QR j) (by omega)) ?_;rintro _ w4 ⟨g,i,rfl,Hc⟩;have H4:=m.drew.ext1 Hc;clear m;refine⟨g,_,i,rfl,by rw[add_lit];exact H4.ld (o:=7) (cs:=nodC y ⟨id,q,x,tops k⟩) EQ4 nSI (.tail _ (.tail _ (.tail _ (E _ (.head _))))) rfl,?_⟩;refine Hp.s1 H4.Af yInt (cs':=[.int .i64 id,.int .i64 q,.int .i64 x.kind,.int .i64 ((tops k).length:Int),.string x.name,.string x.text,.slice y.aa x.attrs.length y.ac]) fun w5 H5=>?_;refine Hp.s1 H5 iSAt (cs':=[.int .i64 id,.int .i64 q,.int .i64 x.kind,.int .i64 ((tops k).length:Int),.string x.name,.string x.text,.slice g x.attrs.length i]) fun w6 H6=>?_;refine⟨id,q,x.kind,((tops k).length:Int),x.name,x.text,g,x.attrs.length,i,H6.loA Jo,?_⟩;refine Hp.sA H6.BA Jo (cs':=[.int .i64 id,.int .i64 q,.int .i64 x.kind,.int .i64 ((tops k).length:Int),.string x.name,.string x.text,.slice g x.attrs.length i]) fun w7 H7=>?_;refine⟨id,q,x.kind,((tops k).length:Int),x.name,x.text,g,x.attrs.length,i,H7.loA Jo,?_⟩
 have H8:Hp f w w7 (treL b N (AZ F) T.next J++[.own 142 2 g x.attrs.length i (atC x.attrs)]):=Hp.BN (R:=[.blk zb [.int .i64 id,.int .i64 q,.int .i64 x.kind,.int .i64 ((tops k).length:Int),.string x.name,.string x.text,.slice g x.attrs.length i] 71,.blk b2 [.int .i64 id,.int .i64 q,.int .i64 x.kind,.int .i64 ((tops k).length:Int),.string x.name,.string x.text,.slice g x.attrs.length i] 71]) (H7.perm (by
  refine AL fun ff gg h0 hc Z af=>?_
  simp only[Z,hc,h0];omega))
 obtain⟨s,H9⟩:=H8.Cm (Q:=Jn b T) ⟨F,l,N,J,O,rfl⟩
 have I:BC T.L A.length=q:=by rw[<- l.fl];exact hm.parent
 exact⟨s,.inr ⟨A.length,⟨id,v,x⟩,g,i,((tops k).length:Int),Y,by rw[I],ab,H9⟩⟩
end
end
noncomputable section
open Go Go.Vc Go.Nod
theorem nundMN:Tryz.prog.underlying 117=some (.map 3 136):=by kernel_rfl
theorem nodM_app(a b:List (NW×En)):nodM (a++b)=nodM a++nodM b:=by simp[nodM]
theorem nodsL_app(a b:List (NW×En)):BR (a++b)=BR a++BR b:=by simp[BR]
theorem PM{f:List Nat}{b:Nat}{T:Tr}{w:World}(h:(AU f b T).ok w):
  Calls Tryz.prog 49 #[.pointer (some ⟨b,0,none⟩)] w fun e w'=>∃f1 f2 b',e=.returned (.pointer (some ⟨b',0,none⟩))/\Hp f w w' [AU f1 b T,AU f2 b' T]:=by
 apply gClone.ok;unfold gClone.vc;have H0:Hp f w w [AU f b T]:=BZ h;obtain⟨M,⟨F,hG,j,l,hw,rfl⟩,H,hf⟩:=H0.unpack;rw[append_nil]at H;have ad:=Z8 hG hw;have hn:=hG.nodup;have a3:=hG.len;have a4:=BP hG
 have ae:∀p∈l,p.2.kids.length<=1000:=fun p hp=>by
  have:=Gs F 0 p.2 (hw.mem_iff.1 (mem_map.2 ⟨p,hp,rfl⟩));omega
 refine AA rfl ⟨AZ F,by rw[add_lit];exact H.lo yInt,AA rfl ⟨T.next,by rw[add_lit];exact H.lo yInt,?_⟩⟩;intro r w1 af;have H1:=H.newI EQ4 .i64 af;refine⟨by rw[add_lit];exact H1.lo yInt,by rw[add_lit];exact H1.lo yInt,?_⟩;intro C w2 ag;have K:=H1.new (cs:=treC r (AZ F) T.next) EQ4 ag;clear H H1 H0 af ag;refine AA rfl ⟨some j,K.lo nMN,?_⟩
 replace K:=K.perm (M:=.imap j .i64 (nodM l)::(.blk C (treC r (AZ F) T.next) 119::.imap r .i64 []::.blk b (treC j (AZ F) T.next) 119::BR l)) (by
  refine AL fun ff gg t D u E=>?_
  simp only[treL,u,D,t];omega)
 obtain⟨G,d,hb,hr,ah,ho⟩:MapAt (CZ .i64) w2 j (nodM l):=K.ok _ (.head _);replace K:Hp f w w2 (objA j (.map G d)::(.blk C (treC r (AZ F) T.next) 119::.imap r .i64 []::.blk b (treC j (AZ F) T.next) 119::BR l)):=K.set (Chg.refl _ _) (QV hb) (fun k hk=>.inl hk);refine K.rng EQ4 nundMN hb ?_;intro it w3 H3;clear K hb
 refine AP.mk (fun(m:Nat)(s:PUnit)(w':World)=>∃(g:Array Nat)(N rs n:List (NW×En)),m=(D8 G g).length/\(N++rs).Perm l/\n.map (·.2)=N.map (·.2)/\
  ((D8 G g).map fun e=>(e.key,e.val)).Perm (rs.map fun p=>(Value.int .i64 p.2.id,Value.pointer (some ⟨p.1.b,0,none⟩)))/\
  Hp f w w' (objA it (.mapIter (some j) d g d)::objA j (.map G d)::.blk b (treC j (AZ F) T.next) 119::(BR l++treL C r (AZ F) T.next n))) (D8 G #[]).length
  ⟨#[],[],l,[],rfl,.refl _,rfl,?_,H3.perm ?_⟩ ?_
 ·rw[Py]
  have ap:G.toList.map (fun e=>(e.key,e.val))=(nodM l).map fun q=>((CZ .i64).enc q.1,q.2):=hr;rw[ap,nodM,map_map];exact .refl _
 ·refine AL fun ff gg t D u E=>?_
  simp only[treL,nodM,BR,List.map_nil,List.flatMap_nil,u,D,t];omega
 clear H3
 rintro m s w4 next ⟨g,N,rs,n,rfl,i,O,ak,H4⟩ P
 refine H4.nxt EQ4 (H4.obj m1) ho ah ?_ ?_
 ·intro t
  have aq:=XC ak t;subst aq;rw[append_nil]at i
  have ar:CY F n:=by
   show(n.map (·.2)).Perm _;rw[O];exact(i.map _).trans hw
  have L:=H4.drop;replace L:Hp f w w4 (.imap j .i64 (nodM l)::(.blk b (treC j (AZ F) T.next) 119::(BR l++treL C r (AZ F) T.next n))):=L.set (Chg.refl _ _) ⟨G,d,L.obj (.head _),hr,ah,ho⟩ (fun k hk=>.inl hk)
  have H6:Hp f w w4 (treL b j (AZ F) T.next l++(treL C r (AZ F) T.next n++[])):=L.perm (by
   refine AL fun ff gg t D u E=>?_
   simp only[treL,u,D,t];omega)
  obtain⟨f1,R⟩:=H6.Cm (Q:=Jn b T) ⟨F,hG,j,l,hw,rfl⟩;obtain⟨f2,H8⟩:=(R.perm List.perm_middle.symm:Hp f w w4 (treL C r (AZ F) T.next n++[AU f1 b T])).Cm (Q:=Jn C T) ⟨F,hG,r,n,ar,rfl⟩;exact⟨f1,f2,C,rfl,H8.Af⟩
 ·intro e w5 he hp L A
  clear H4;obtain⟨l1,⟨y,c⟩,l2,rfl,av,S,aw⟩:=rest_step ak hp
  injection av with hk1 hk2
  rw[hk1,hk2]at A;have U:(y,c)∈l:=i.mem_iff.1 (mem_append_right _ (by simp));have a0:=ad _ U;have a1:=ae _ U;dsimp only at a0 a1 A;have hL:∀a∈nodL (y,c),a∈BR l:=Xu U;refine⟨c.id,some ⟨y.b,0,none⟩,_,A,?_⟩;refine AA rfl ⟨c.id,c.par,c.x.kind,0,c.x.name,c.x.text,y.aa,c.x.attrs.length,y.ac,y.ka,c.kids.length,y.kc,L.ldA (o:=0) (cs:=nodC y c) EQ4 aZ (.tail _ (.tail _ (.tail _ (mem_append_left _ (hL _ (.head _)))))) rfl rfl,?_⟩;intro xb w6 al;have H6:=L.nw al;clear L al;refine Hp.sA H6 aZ (cs':=nodC y c) fun w7 R=>?_;clear H6;have B:∀{a:Asn},a∈nodL (y,c)->a∈(Asn.blk xb (nodC y c) 139::objA it (.mapIter (some j) d (g.push e.born) d)::objA j (.map G d)::.blk b (treC j (AZ F) T.next) 119::(BR l++treL C r (AZ F) T.next n)):=fun u=>.tail _ (.tail _ (.tail _ (.tail _ (mem_append_left _ (hL _ u)))));refine AA rfl ⟨y.ka,c.kids.length,y.kc,by rw[add_lit];exact R.ld (o:=7) (cs:=nodC y c) EQ4 nSI (B (.head _)) rfl,AA rfl ⟨y.aa,c.x.attrs.length,y.ac,by rw[add_lit];exact R.ld (o:=6) (cs:=nodC y c) EQ4 iSAt (B (.head _)) rfl,?_⟩⟩;have X:Own w7.drew 0 3 1 y.ka c.kids.length y.kc (AO c.kids):=(R.drew).ownA (B m2);refine AC (lCloneI_spec y.ka c.kids.length y.kc (AO c.kids) w7.drew X.cells (by rw[UI,Nat.mul_one]) (Kt _) (QR X) (by omega)) ?_;rintro _ w8 ⟨Y,Z,rfl,Hk⟩;have H8:=R.drew.ext1 Hk;clear R Hk X;refine⟨Y,_,Z,rfl,by rw[add_lit];exact H8.ld (o:=6) (cs:=nodC y c) EQ4 iSAt (.tail _ (B (.head _))) rfl,?_⟩;have ab:Own w8 0 142 2 y.aa c.x.attrs.length y.ac (atC c.x.attrs):=H8.ownA (.tail _ (B m1));refine AC (Fz y.aa c.x.attrs.length y.ac (atC c.x.attrs) w8 ab.cells (Ky _) (Kz _) (QR ab) (by omega)) ?_;rintro _ w9 ⟨aa,ac,rfl,Ha⟩;have H9:=H8.ext1 Ha;clear H8 Ha ab;refine⟨aa,_,ac,rfl,?_⟩;refine Hp.st (o:=7) H9.BA EQ4 nSI rfl rfl (by simp[nodC]) (cs':=nodC {y with ka:=Y,kc:=Z} c) rfl fun a5 am=>?_;clear H9;rw[add_lit];refine Hp.st (o:=6) am EQ4 iSAt rfl rfl (by simp[nodC]) (cs':=nodC {y with ka:=Y,kc:=Z,aa:=aa,ac:=ac} c) rfl fun a6 I=>?_;clear am;obtain⟨z,hz⟩:∃z:NW,z=⟨xb,aa,ac,Y,Z⟩:=⟨_,rfl⟩
  have a2:nodC {y with ka:=Y,kc:=Z,aa:=aa,ac:=ac} c=nodC z c:=by rw[hz];rfl
  rw[a2]at I;refine⟨some r,I.ld (o:=0) (cs:=treC r (AZ F) T.next) EQ4 nMN (.tail _ (.tail _ (.tail _ (.tail _ (.tail _ (.tail _ (mem_append_right _ (.head _)))))))) rfl,?_⟩
  have an:=I.perm (M:=.imap r .i64 (nodM n)::(.blk C (treC r (AZ F) T.next) 119::.blk xb (nodC z c) 139::.own 142 2 aa c.x.attrs.length ac (atC c.x.attrs)::.own 3 1 Y c.kids.length Z (AO c.kids)::objA it (.mapIter (some j) d (g.push e.born) d)::objA j (.map G d)::.blk b (treC j (AZ F) T.next) 119::(BR l++BR n))) (by
   refine AL fun ff gg t D u E=>?_
   simp only[treL,u,D,t];omega)
  clear I;refine Hp.mupI Dy an EQ4 fun a7 ao=>?_;clear an
  have J:c.id∉(nodM n).map (·.1):=by
   have h1:((N++(l1++(y,c)::l2)).map fun p=>p.2.id).Nodup:=by
    have h2:=hw.apart hn;rw[EZ,nodM,map_map]at h2;exact((i.map fun p=>p.2.id).nodup_iff).2 h2
   have e1:(nodM n).map (·.1)=N.map fun p=>p.2.id:=by
    have:=congrArg (List.map En.id) O;rw[map_map,map_map]at this;rw[nodM,map_map];exact this
   rw[e1];rw[map_append,nodup_append]at h1;intro hm;exact h1.2.2 c.id hm c.id (mem_map.2 ⟨(y,c),by simp,rfl⟩) rfl
  rw[KH _ _ _ J]at ao;refine P _ _ _ aw ⟨g.push e.born,N++[(y,c)],l1++l2,n++[(z,c)],rfl,?_,?_,S,ao.perm ?_⟩
  ·refine List.Perm.trans ?_ i
   rw[append_assoc];exact(perm_middle (a:=(y,c)) (l₁:=l1) (l₂:=l2)).symm.append_left N
  ·rw[map_append,map_append,O];rfl
  ·have e1:nodM (n++[(z,c)])=nodM n++[(c.id,.pointer (some ⟨xb,0,none⟩))]:=by rw[nodM_app,hz];rfl
   refine AL fun ff gg t D u E=>?_
   have e2:BR [(z,c)]=[.blk xb (nodC z c) 139,.own 142 2 aa c.x.attrs.length ac (atC c.x.attrs),.own 3 1 Y c.kids.length Z (AO c.kids)]:=by rw[hz];rfl
   simp only[treL,e1,e2,nodsL_app,u,D,t];omega
end
end Go.Proofs.YtljenkbpnioipaaGreat
namespace Go.Nod
noncomputable section
open Classical
def rowI(r:Rw):It:=⟨r.level,r.x⟩
theorem rows_row{L:List Rw}{k:Nat}{x:It}(h:(L.map rowI)[k]? =some x):∃i,L[k]? =some ⟨i,x.level,x.x⟩:=by
 rw[List.getElem?_map]at h
 cases hr:L[k]? with
 |none=>rw[hr]at h;cases h
 |some r=>rw[hr]at h;cases h;exact⟨r.id,rfl⟩
theorem Qw:∀(L:List Rw),Jm (L.map (·.id)) (L.map rowI)=L
 | []=>rfl
 |r::L=>by
  have:=Qw L;rw[Jm]at this⊢;rw[map_cons,map_cons,List.zipWith_cons_cons,this];rfl
theorem Qu{F:Fo}{b:Int}(f:FOk F){L:List Rw}(h:flat F 0=L):YA (L.map rowI):=by
 intro k x g;obtain⟨i,a⟩:=rows_row g;rw[<- h]at a;refine⟨?_,fun e=>?_,fun y l j=>?_⟩
 ·have:=Bo F 0 _ (mem_of_getElem? a)
  dsimp only at this;omega
 ·subst e
  have:=FI F 0 _ (by rw[List.head?_eq_getElem?];exact a);exact this
 ·obtain⟨m,d⟩:=rows_row j
  rw[<- h]at d;obtain⟨c,rfl⟩:∃c,k=c+1:=⟨k-1,by omega⟩;have:=(QZ _ c _ _ (J7 F 0 f) d a).1;dsimp only at this;omega
theorem YO{F:Fo}{T:Tr}(b:BM F T):∀(k:Nat)(x:It),0<k->(T.L.map rowI)[k]? =some x->1<=x.level:=by
 intro j y g d;obtain⟨i,a⟩:=rows_row d;rw[<- b.fl]at a;rcases b.one with e|⟨h,l,f,e,_⟩
 ·rw[e]at a;simp[flat]at a
 ·rw[e,flat,flat,append_nil]at a
  obtain⟨c,rfl⟩:∃c,j=c+1:=⟨j-1,by omega⟩;rw[List.getElem?_cons_succ]at a;have:=Bo f (0+1) _ (mem_of_getElem? a);dsimp only at this;omega
theorem Rj{F:Fo}{T:Tr}(a:BM F T)(f:T.L≠[]):(D5 (T.L.map rowI)).2=0:=by
 rw[D5,if_neg (by simpa using f),LG];intro k x g;rw[Nat.zero_add];obtain⟨i,d⟩:=rows_row g;have c:=Qu (b:=0) a.ok a.fl k x g;have n:=a.deep _ (mem_of_getElem? d);have s:=(List.getElem?_eq_some_iff.1 d).1;have o:=a.len;have t:Ap x.x=0:=Hq F 0 a.ok ⟨i,x.level,x.x⟩ (by rw[a.fl];exact mem_of_getElem? d)
 have j:Cc (T.L.map rowI) k x=0:=by
  rw[Cc];by_cases u:k=0
  ·subst u
   have w:x.x.kind=1:=by
    rcases a.one with e|⟨D,z,E,e,p⟩
    ·exact(f (by rw[<- a.fl,e];rfl)).elim
    ·rw[<- a.fl,e,flat,List.getElem?_cons_zero]at d
     have A:z=x.x:=congrArg Rw.x (Option.some.inj d);rw[<- A];exact p
   have G:=c.2.1 rfl;rw[if_neg (by omega),if_neg (by omega),if_neg (by dsimp only at n;omega),if_neg (by omega)]
  ·have p:=YO a k x (by omega) g
   have B:¬∃y,(T.L.map rowI)[k-1]? =some y/\(y.level+1<x.level\/(y.level<x.level/\y.x.kind=2)):=by
    rintro⟨y,q,l⟩;have H:=c.2.2 y (by omega) q;obtain⟨I,C⟩:=rows_row q;obtain⟨m,rfl⟩:∃m,k=m+1:=⟨k-1,by omega⟩;have r:=(QZ T.L m _ _ (by rw[<- a.fl];exact J7 F 0 a.ok) C d).2;dsimp only at r;rcases l with l|⟨l,J⟩
    ·omega
    ·have:=r (by omega);omega
   rw[if_neg (by omega),if_neg (fun h=>h.2.elim (by omega) B),if_neg (by dsimp only at n;omega),if_neg (by omega)]
 rw[oneE,if_pos j,t]
end
end Go.Nod
namespace Go.Proofs.YtljenkbpnioipaaGreat
noncomputable section
open Go Go.Vc Go.Nod
theorem YT:MapT Tryz.prog (CZ .i64) 281 3 3 (.int .i64 0):=⟨by kernel_rfl,by kernel_rfl,by kernel_rfl⟩
theorem Kw(l:List (Int×Value))(k x:Int)(v:Value):aget (aput l k v) x=if x=k then some v else aget l x:=by
 induction l with
 |nil=>simp[aput,aget]
 |cons p r b=>
  obtain⟨y,u⟩:=p;simp only[aput];by_cases h:k=y
  ·subst h
   simp only[if_true,aget];by_cases a:x=k<;>simp[a]
  ·simp only[if_neg h,aget,b]
   by_cases a:x=y
   ·subst a;simp[Ne.symm h]
   ·simp[a]
theorem gRestore_spec{F:Fo}{T:Tr}(hG:BM F T)(la:Option Addr)(n lc:Nat)(ss:List Sl3)(za:Option Addr)(zn zc:Nat)(w:World)(hA:DX [] w la n (T.L.map rowI) ss)(hz:Cells w za (AO (T.L.map (·.id))))(hzn:zn=T.L.length):
  Calls Tryz.prog 136 #[.slice la n lc,.slice za zn zc,.int .i64 T.next] w fun e w'=>∃f b,e=.returned (.tuple #[.pointer (some ⟨b,0,none⟩),.int .i64 0])/\Hp [] w w' [AU f b T]:=by
 apply gRestore.ok;unfold gRestore.vc;have hlen:=hA.now.len;rw[length_map]at hlen
 obtain rfl:zn=n:=by omega
 have hlen2:=hG.len;have hnx:=hG.next;obtain⟨zs,hzs⟩:∃zs,zs=T.L.map (·.id):=⟨_,rfl⟩;rw[<- hzs]at hz
 have hzi:zs=Nod.ids F:=by rw[hzs,<- hG.fl,BD]
 have hzl:zs.length=T.L.length:=by rw[hzs,length_map]
 have hpos:∀z∈zs,1<=z/\z<T.next:=fun z h=>hG.pos z (by rw[<- hzi];exact h)
 have hznd:zs.Nodup:=by rw[hzi];exact hG.nodup
 refine Aa (fun h=>by omega) (fun _=>AB (fun h=>by omega) (fun _=>AB (fun h=>by omega) (fun _=>?_)));refine AC (UW w) ?_;rintro _ w1 ⟨b,f,rfl,H1⟩;obtain⟨M,⟨F0,hG0,mb,ws,hw,rfl⟩,H2,_⟩:=H1.unpack
 have hF0:F0=.nil:=by
  have:=BP hG0
  cases F0 with
  |nil=>rfl
  |cons i x k s=>simp[Nod.ids]at this
 subst hF0
 have hws:ws=[]:=by
  have:=hw.len;exact eq_nil_of_length_eq_zero this
 subst hws;refine⟨_,rfl,AA rfl ?_⟩;rw[add_lit];refine Hp.st (o:=2) H2 EQ4 yInt rfl rfl (by simp[treC]) (cs':=treC mb 0 T.next) rfl fun w2 H3=>?_;have H3':Hp [] w w2 (treL b mb 0 T.next []):=H3;clear H1 H2 H3;intro ub w3 hn3;have H4:=H3'.newI EQ4 .i64 hn3;clear H3';refine AP.mk (fun m s w'=>∃(j:Nat)(al:List (Int×Value)),m=zn-j/\j<=zn/\s=(j:Int)/\(∀z∈zs.drop j,aget al z=none)/\Hp [] w w' (.imap ub .i64 al::treL b mb 0 T.next [])) zn ⟨0,[],rfl,by omega,rfl,fun z _=>rfl,H4⟩ ?_;clear H4;rintro m s w4 nx ⟨j,al,rfl,hj,rfl,hal,H5⟩ hnx2;refine AB (fun h=>?_) (fun h=>?_)
 ·have hjl:j<zs.length:=by omega
  have hzj:(AO zs)[j]? =some (.int .i64 zs[j]):=by simp[AO,hjl]
  have hzc:Cells w4 za (AO zs):=hz.chg H5.chg (by simp);obtain⟨ad,had,_⟩:=hzc j _ hzj;have hp:=hpos zs[j] (getElem_mem hjl);have hno:aget al zs[j]=none:=hal _ (by rw[<- getElem_cons_drop hjl];exact .head _);refine AA had ⟨⟨by omega,h⟩,zs[j],by rw[Int.toNat_natCast,Nat.mul_one];exact hzc.ld yInt had hzj,AB (fun h2=>by omega) (fun _=>AB (fun h2=>by omega) (fun _=>?_))⟩;refine⟨0,H5.lkI YT EQ4 (.head _) (by rw[hno];rfl),AB (fun h2=>by omega) (fun _=>⟨0,H5.lkI YT EQ4 (.head _) (by rw[hno];rfl),iR,?_⟩)⟩;refine Hp.mupI YT H5 EQ4 fun w5 H6=>⟨iR,hnx2 (zn-(j+1)) _ _ (by omega) ⟨j+1,_,rfl,by omega,by simp,fun z hzz=>?_,H6⟩⟩;have hd:(zs.drop j).Nodup:=hznd.sublist (List.drop_sublist _ _);rw[<- getElem_cons_drop hjl,nodup_cons]at hd;have hne:z≠zs[j]:=fun e=>hd.1 (by rw[<- e];exact hzz);rw[Kw,if_neg hne];exact hal z (by rw[<- getElem_cons_drop hjl];exact .tail _ hzz)
 have hres:∀{ws':List (NW×En)}{w':World}{X:List Asn},CY F ws'->Hp [] w w' (treL b mb (AZ F) T.next ws'++X)->∃f b',Ending.returned (.tuple #[.pointer (some ⟨b,0,none⟩),.int .i64 0])=.returned (.tuple #[.pointer (some ⟨b',0,none⟩),.int .i64 0])/\Hp [] w w' [AU f b' T]:=fun{ws' w' X} hw' H=>by
  have H2:Hp [] w w' (treL b mb (AZ F) T.next ws'++[]):=by rw[append_nil];exact H.BN
  obtain⟨f',H3⟩:=H2.Cm (Q:=Jn b T) ⟨F,hG,mb,ws',hw',rfl⟩;exact⟨f',b,rfl,H3⟩
 refine AB (fun h2=>?_) (fun h2=>?_)
 ·have hT:T.L=[]:=eq_nil_of_length_eq_zero (by omega)
  have hF:F=.nil:=by
   have:=BP hG;rw[hT]at this
   cases F with
   |nil=>rfl
   |cons i x k s=>simp[Nod.ids]at this
  subst hF;exact hres (ws':=[]) (X:=[]) (List.Perm.refl _) (by rw[append_nil];exact H5.drop)
 have hne:T.L≠[]:=fun e=>h2 (by rw[hlen,e];rfl);refine AC (IJ la _ lc (T.L.map rowI) ss w4 (hA.now.go H5) hA.len hA.sls hA.small) ?_;rintro _ w6 ⟨rfl,H'⟩;have H6:=H5.ext0 H';clear H5 H';rw[Rj hG hne];refine⟨_,_,rfl,Aa (fun h3=>by omega) (fun _=>?_)⟩;have H7:=H6.drop
 have hparts:∀x∈T.L.map rowI,Ap x.x=0:=fun x hx=>by
  obtain⟨r,hr,rfl⟩:=mem_map.1 hx;exact Hq F 0 hG.ok r (by rw[hG.fl];exact hr)
 refine AC (WY (w:=w6) H7.std 0 0 la _ lc (T.L.map rowI) ss za zc zs (fun W hW=>hA.rd W (H7.chgT hW)) (fun W hW=>hz.chg (H7.chgT hW) (by simp)) (by rw[hzl,length_map]) (by simpa using hne) (by omega) (hA.att hparts) (Qu (b:=0) hG.ok hG.fl) (fun _=>YO hG) ⟨0,0,⟨0,⟨#[]⟩,⟨#[]⟩,[]⟩,[]⟩ [] ?_ ?_ (fun z hz=>by have:=hpos z hz;omega) ⟨by omega,by simp⟩ (by simp)) ?_
 ·exact .inl ⟨rfl,.refl _,rfl⟩
 ·rw[IU,if_pos rfl,append_nil];exact hznd
 rintro _ w7 ⟨ws',N,root,at',rfl,hI,H9⟩;have H10:=H7.WO H9
 have hfl:flat N 0=flat F 0:=by
  rw[hI.fl,hG.fl,take_of_length_le (by omega),take_of_length_le (by rw[length_map];omega),hzs,Qw]
 have hNF:N=F:=Jz N F 0 hfl;subst hNF
 obtain⟨hE,hroot⟩:(ws'.map (·.2)).Perm (ents N 0)/\root=AZ N:=by
  rcases hI.ents with⟨_,h2,h3⟩|⟨h2,_⟩
  ·exact⟨h2,h3⟩
  ·exact(h2 rfl).elim
 rw[hroot]at H10;refine⟨_,rfl,hres (X:=[]) hE (by rw[append_nil];exact H10)⟩
end
end Go.Proofs.YtljenkbpnioipaaGreat
namespace Go.Vc
open Go
theorem Own.only{w:World}{e:TypeId}{b n c:Nat}{a:Option Addr}{xs:List Value}(h:Own w 0 e b a n c xs){F:Nat}(f:F<=n):Own w 0 e b a F F (xs.take (F*b)):=by
 have i:F*b<=n*b:=Nat.mul_le_mul_right _ f;refine⟨by rw[length_take,h.1];omega,?_⟩
 rcases h.2 with⟨rfl,rfl,rfl⟩|⟨g,d,j,rfl,k,l,m,o,r,s,p⟩
 ·exact .inl ⟨rfl,by omega,by omega⟩
 ·have q:n*b<=c*b:=Nat.mul_le_mul_right _ o
  exact .inr ⟨g,d,j,rfl,k,l,m,Nat.le_refl _,by omega,by omega,by rw[<- p,take_take,Nat.min_eq_left i]⟩
end Go.Vc
namespace Go.Nod
noncomputable section
open Classical
def inS(n:Int):Prop:=0<=n/\n<=4611686018427387904
def X5(low wide k n:Int):Int:=low+wide/n*k+wide%n*k/n
def betP(low high n:Int):Option (List Int):=
 if inS low/\inS high/\0<=n/\n<=4096/\n<high-low then some ((List.range n.toNat).map fun(k:Nat)=>X5 low (high-low) ((k:Int)+1) (n+1))else none
theorem part_bound{low wide k n:Int}(h:0<=wide)(f:0<=k)(a:k<=n)(hn:0<n):0<=wide/n/\0<=wide%n/\wide%n<n/\0<=wide/n*k/\wide/n*k<=wide/\0<=wide%n*k/\wide%n*k<=n*n/\0<=wide%n*k/n/\wide%n*k/n<=wide%n/\wide/n*k+wide%n*k/n<=wide:=by
 have b:0<=wide/n:=Int.ediv_nonneg h (by omega);have c:0<=wide%n:=Int.emod_nonneg _ (by omega);have i:wide%n<n:=Int.emod_lt_of_pos _ hn;have j:0<=wide/n*k:=Int.mul_nonneg b f;have m:wide/n*k<=wide/n*n:=Int.mul_le_mul_of_nonneg_left a b
 have o:wide/n*n+wide%n=wide:=by rw[Int.mul_comm];exact Int.mul_ediv_add_emod wide n
 have g:0<=wide%n*k:=Int.mul_nonneg c f;have l:wide%n*k<=wide%n*n:=Int.mul_le_mul_of_nonneg_left a c;have p:wide%n*n<=n*n:=Int.mul_le_mul_of_nonneg_right (by omega) (by omega);have d:0<=wide%n*k/n:=Int.ediv_nonneg g (by omega)
 have e:wide%n*k/n<=wide%n:=by
  have:wide%n*k/n<=wide%n*n/n:=Int.ediv_le_ediv hn l
  rwa [Int.mul_ediv_cancel _ (by omega)]at this
 exact⟨b,c,i,j,by omega,g,by omega,d,e,by omega⟩
end
end Go.Nod
namespace Go.Proofs.YtljenkbpnioipaaGreat
noncomputable section
open Go Go.Vc Go.Nod
theorem NS(a:Option Addr)(n c:Nat)(l:List Int)(w:World)(h:Cells w a (AO l))(t:n=l.length)(hn:n<=maxLen):
  Calls Tryz.prog 196 #[.slice a n c] w fun e w'=>e=.returned (.bool (dec (∀z∈l,inS z)))/\w'=w:=by
 apply sInside.ok;unfold sInside.vc;simp only[maxLen]at hn;refine AP.mk (fun m s w'=>∃j:Nat,m=n-j/\j<=n/\s=(j:Int)/\(∀z∈l.take j,inS z)/\w'=w) n ⟨0,rfl,by omega,rfl,by simp,rfl⟩ ?_;rintro m s _ u ⟨j,rfl,x,rfl,b,rfl⟩ k;refine AB (fun o=>?_) (fun o=>?_)
 ·have d:j<l.length:=by omega
  have g:(AO l)[j]? =some (.int .i64 l[j]):=by simp[AO,d]
  obtain⟨y,i,_⟩:=h j _ g;refine AA i ⟨⟨by omega,o⟩,l[j],by rw[Int.toNat_natCast,Nat.mul_one];exact h.ld yInt i g,AB (fun p=>?_) (fun p=>AB (fun r=>?_) (fun r=>⟨iR,?_⟩))⟩
  ·exact⟨by rw[CG (q:=∀z∈l,inS z) fun h=>by have:=(h _ (getElem_mem d)).1;omega],rfl⟩
  ·exact⟨by rw[CG (q:=∀z∈l,inS z) fun h=>by have:=(h _ (getElem_mem d)).2;omega],rfl⟩
  ·refine k (n-(j+1)) _ _ (by omega) ⟨j+1,rfl,by omega,rfl,fun z f=>?_,rfl⟩
   rw[take_succ_eq_append_getElem d]at f;rcases mem_append.1 f with f|f
   ·exact b z f
   ·rw[mem_singleton.1 f];exact⟨by omega,by omega⟩
 ·have:j=l.length:=by omega
  subst this;rw[take_length]at b;exact⟨by rw[Cf b],rfl⟩
theorem sPart_spec(low wide k n:Int)(w:World)(l:0<=low)(b:0<=wide)(d:low+wide<=4611686018427387904)(f:0<=k)(c:k<=n)(hn:0<n)(a:n<=100000):
  Calls Tryz.prog 224 #[.int .i64 low,.int .i64 wide,.int .i64 k,.int .i64 n] w fun e w'=>e=.returned (.int .i64 (X5 low wide k n))/\w'=w.drew:=by
 apply sPart.ok;unfold sPart.vc;obtain⟨m,o,p,q,r,g,s,t,u,h⟩:=part_bound (low:=low) b f c hn;have i:wide/n<=wide:=Int.ediv_le_self n b;have j:n*n<=100000*100000:=Int.mul_le_mul a a (by omega) (by omega);rw[Int.tdiv_eq_ediv_of_nonneg b,Int.tmod_eq_emod_of_nonneg b,Int.tdiv_eq_ediv_of_nonneg g];exact⟨by omega,iR,iR,iR,by omega,iR,by omega,iR,iR,rfl,rfl⟩
theorem sBetween_spec(low d n:Int)(w:World)(X: -9223372036854775807<=n/\n<=9223372036854775807):
  Calls Tryz.prog 162 #[.int .i64 low,.int .i64 d,.int .i64 n] w fun e w'=>
   (betP low d n=none/\e=.returned (.tuple #[.slice none 0 0,.bool false])/\Hp [] w w' [])\/
   ∃l a c,betP low d n=some l/\l.length=n.toNat/\e=.returned (.tuple #[.slice a n.toNat c,.bool true])/\Hp [] w w' [.own 3 1 a n.toNat c (AO l)]:=by
 apply sBetween.ok;unfold sBetween.vc;refine Am.mk (fun s w'=>s=dec (¬(inS low/\inS d/\0<=n/\n<=4096/\n<d-low))/\Hp [] w w' []) ?_ ?_;rotate_left
 ·intro J x b r B
  have H:=(Hp.start w).nw B;have M:Cells r (some ⟨b,0,none⟩) (AO [low,d]):=fun j v I=>⟨_,rfl,by rw[add_lit,Nat.zero_add];exact(H.blk (.head _)).cell I⟩;refine AC (NS _ 2 2 [low,d] r M rfl (by simp[maxLen])) ?_;rintro _ _ ⟨rfl,rfl⟩
  have g:(∀z∈[low,d],inS z)↔inS low/\inS d:=by simp
  refine⟨_,rfl,KR (fun h=>x _ _ ⟨Cf fun f=>h (g.2 ⟨f.1,f.2.1⟩),H.drop⟩) (fun h=>?_)⟩;obtain⟨i,f⟩:=g.1 h;refine AB (fun C=>x _ _ ⟨Cf fun t=>by omega,H.drop⟩) (fun C=>AB (fun t=>x _ _ ⟨Cf fun t=>by omega,H.drop⟩) (fun t=>⟨CX.2 (by have:=i.1;have:=i.2;have:=f.1;have:=f.2;omega),x _ _ ⟨?_,H.drop⟩⟩));by_cases y:d-low<=n
  ·exact(decide_eq_true y).trans (Cf fun A=>by omega)
  ·exact(decide_eq_false y).trans (CG fun A=>A ⟨i,f,by omega,by omega,by omega⟩)
 rintro _ r ⟨rfl,H⟩;refine br_d (fun h=>.inl ⟨by rw[betP,if_neg h],rfl,H⟩) (fun h=>?_);obtain⟨i,f,C,t,y⟩:=Classical.not_not.1 h;have D:=i.1;have N:=i.2;have O:=f.1;have Q:=f.2;obtain⟨m,rfl⟩:∃m:Nat,n=m:=⟨n.toNat,by omega⟩;obtain⟨L,E⟩:∃L,L=(List.range m).map fun(k:Nat)=>X5 low (d-low) ((k:Int)+1) ((m:Int)+1):=⟨_,rfl⟩
 have o:L.length=m:=by rw[E];simp
 have R:betP low d m=some L:=by rw[betP,if_pos ⟨i,f,C,t,y⟩,E];rfl
 rw[R];refine AP.mk (fun q s w'=>∃(j:Nat)(a:Option Addr)(c:Nat),q=m-j/\j<=m/\s=((a,j,c),(j:Int)+1)/\Hp [] w w' [.own 3 1 a j c (AO (L.take j))]) m ⟨0,none,0,rfl,by omega,rfl,H.nilS 3 1⟩ ?_;clear H r;rintro q s r Y ⟨j,a,c,rfl,I,rfl,H⟩ F;dsimp only;refine AB (fun A=>?_) (fun A=>?_)
 ·have p:j<m:=by omega
  refine⟨iR,iR,?_⟩;refine AC (sPart_spec low (d-low) ((j:Int)+1) ((m:Int)+1) r D (by omega) (by omega) (by omega) (by omega) (by omega) (by omega)) ?_;rintro _ _ ⟨rfl,rfl⟩;refine⟨_,rfl,fun b Z G=>?_⟩;have K:=H.drew.nw G;refine Hp.app Ll (by omega) K.Af EQ4 (Blk.src (P:=Tryz.prog) LZ (K.blk (.head _)) rfl rfl) (by simp only[maxLen];omega) (by omega) ?_;intro S T w3 U;refine⟨iR,F (m-(j+1)) _ _ (by omega) ⟨j+1,S,T,rfl,by omega,by simp,?_⟩⟩
  have u:L[j]? =some (X5 low (d-low) ((j:Int)+1) ((m:Int)+1)):=by rw[E];simp[p]
  have e:AO (L.take (j+1))=AO (L.take j)++[.int .i64 (X5 low (d-low) ((j:Int)+1) ((m:Int)+1))]:=by
   rw[take_succ_eq_append_getElem (List.getElem?_eq_some_iff.1 u).1,(List.getElem?_eq_some_iff.1 u).2];simp[AO]
  rw[e];exact U.Af.drop
 ·have p:j=m:=by omega
  subst p;rw[<- o,take_length,o]at H;exact .inr ⟨L,a,c,rfl,o,rfl,H⟩
theorem sIn_spec(a b c d:Int)(w:World):Calls Tryz.prog 197 #[.agg #[.int .i64 a,.int .i64 b],.agg #[.int .i64 c,.int .i64 d]] w fun e w'=>e=.returned (.bool (dec (c<a/\b<d)))/\Hp [] w w' []:=by
 apply sIn.ok;unfold sIn.vc;intro l m i;have H:=(Hp.start w).nw i;intro n o j;have f:=H.nw j;refine⟨c,f.lo yInt,a,f.lo yInt,AB (fun h=>⟨b,f.lo yInt,d,f.lo yInt,?_,f.drop.drop⟩) (fun h=>⟨by rw[CG (q:=c<a/\b<d) fun g=>h g.1],f.drop.drop⟩)⟩;by_cases g:b<d
 ·rw[<- Cf (show c<a/\b<d from⟨h,g⟩),decide_eq_true g]
 ·rw[<- CG (show¬(c<a/\b<d)from fun k=>g k.2),decide_eq_false g]
theorem sAhead_spec(a b c d:Int)(w:World):Calls Tryz.prog 195 #[.agg #[.int .i64 a,.int .i64 b],.agg #[.int .i64 c,.int .i64 d]] w fun e w'=>e=.returned (.bool (decide (b<c)))/\Hp [] w w' []:=by
 apply sAhead.ok;unfold sAhead.vc;intro i j f;have H:=(Hp.start w).nw f;intro k l g;have h:=H.nw g;exact⟨b,h.lo yInt,c,h.lo yInt,rfl,h.drop.drop⟩
end
end Go.Proofs.YtljenkbpnioipaaGreat
