/- Part 4 of 6 of the proof of nodetabSpans_holds: for every input, from every world that may be reached. -/
import Derived.Test.YtljenkbpnioipaaGreatPsp3
set_option linter.unusedVariables false
set_option linter.unusedSimpArgs false
set_option maxRecDepth 100000
set_option maxHeartbeats 4000000
open List(all_cons append_assoc append_eq append_nil cons_append dropLast_eq_take drop_drop drop_eq_getElem_cons drop_length drop_succ_cons ext_getElem? filter_cons filter_eq_self flatMap_append flatMap_cons getD_eq_getElem?_getD getElem_mem le_antisymm le_of_lt le_total le_trans length_append length_cons length_drop length_map length_nil length_replicate length_set length_take lt_irrefl map_append map_cons map_map map_nil mem_append mem_cons mem_filter mem_map mem_of_getElem? mem_singleton mergeSort_perm nil_append nodup_append pairwise_cons pairwise_map pairwise_mergeSort set_append set_cons_succ set_cons_zero take_append_drop take_length take_of_length_le take_succ_eq_append_getElem take_take take_zero)
namespace Go.Vc
open Go
theorem Own.only{w:World}{e:TypeId}{b n c:Nat}{a:Option Addr}{xs:List Value}(h:Own w 0 e b a n c xs){F:Nat}(f:F<=n):Own w 0 e b a F F (xs.take (F*b)):=by
 have i:F*b<=n*b:=Nat.mul_le_mul_right _ f;refine⟨by rw[length_take,h.1];omega,?_⟩
 rcases h.2 with⟨rfl,rfl,rfl⟩|⟨g,d,j,rfl,k,l,m,o,r,s,p⟩
 ·exact .inl ⟨rfl,by omega,by omega⟩
 ·have q:n*b<=c*b:=Nat.mul_le_mul_right _ o
  exact .inr ⟨g,d,j,rfl,k,l,m,Nat.le_refl _,by omega,by omega,by rw[<- p,take_take,Nat.min_eq_left i]⟩
end Go.Vc
namespace Go.Nod
noncomputable section
open Classical
def inS(n:Int):Prop:=0<=n/\n<=4611686018427387904
def Ff(low wide k n:Int):Int:=low+wide/n*k+wide%n*k/n
def betP(low high n:Int):Option (List Int):=
 if inS low/\inS high/\0<=n/\n<=4096/\n<high-low then some ((List.range n.toNat).map fun(k:Nat)=>Ff low (high-low) ((k:Int)+1) (n+1))else none
theorem part_bound{low wide k n:Int}(h:0<=wide)(f:0<=k)(a:k<=n)(hn:0<n):0<=wide/n/\0<=wide%n/\wide%n<n/\0<=wide/n*k/\wide/n*k<=wide/\0<=wide%n*k/\wide%n*k<=n*n/\0<=wide%n*k/n/\wide%n*k/n<=wide%n/\wide/n*k+wide%n*k/n<=wide:=by
 have b:0<=wide/n:=Int.ediv_nonneg h (by omega);have c:0<=wide%n:=Int.emod_nonneg _ (by omega);have i:wide%n<n:=Int.emod_lt_of_pos _ hn;have j:0<=wide/n*k:=Int.mul_nonneg b f;have m:wide/n*k<=wide/n*n:=Int.mul_le_mul_of_nonneg_left a b
 have o:wide/n*n+wide%n=wide:=by rw[Int.mul_comm];exact Int.mul_ediv_add_emod wide n
 have g:0<=wide%n*k:=Int.mul_nonneg c f;have l:wide%n*k<=wide%n*n:=Int.mul_le_mul_of_nonneg_left a c;have p:wide%n*n<=n*n:=Int.mul_le_mul_of_nonneg_right (by omega) (by omega);have d:0<=wide%n*k/n:=Int.ediv_nonneg g (by omega)
 have e:wide%n*k/n<=wide%n:=by
  have:wide%n*k/n<=wide%n*n/n:=Int.ediv_le_ediv hn l
  rwa [Int.mul_ediv_cancel _ (by omega)]at this
 exact⟨b,c,i,j,by omega,g,by omega,d,e,by omega⟩
end
end Go.Nod
namespace Go.Proofs.YtljenkbpnioipaaGreat
noncomputable section
open Go Go.Vc Go.Nod
theorem Ol(a:Option Addr)(n c:Nat)(l:List Int)(w:World)(h:Cells w a (AO l))(t:n=l.length)(hn:n<=maxLen):
  Calls Tryz.prog 196 #[.slice a n c] w fun e w'=>e=.returned (.bool (dec (∀z∈l,inS z)))/\w'=w:=by
 apply sInside.ok;unfold sInside.vc;simp only[maxLen]at hn;refine AP.mk (fun m s w'=>∃j:Nat,m=n-j/\j<=n/\s=(j:Int)/\(∀z∈l.take j,inS z)/\w'=w) n ⟨0,rfl,by omega,rfl,by simp,rfl⟩ ?_;rintro m s _ u ⟨j,rfl,x,rfl,b,rfl⟩ k;refine AB (fun o=>?_) (fun o=>?_)
 ·have d:j<l.length:=by omega
  have g:(AO l)[j]? =some (.int .i64 l[j]):=by simp[AO,d]
  obtain⟨y,i,_⟩:=h j _ g;refine AA i ⟨⟨by omega,o⟩,l[j],by rw[Int.toNat_natCast,Nat.mul_one];exact h.ld yInt i g,AB (fun p=>?_) (fun p=>AB (fun r=>?_) (fun r=>⟨iR,?_⟩))⟩
  ·exact⟨by rw[Bf (q:=∀z∈l,inS z) fun h=>by have:=(h _ (getElem_mem d)).1;omega],rfl⟩
  ·exact⟨by rw[Bf (q:=∀z∈l,inS z) fun h=>by have:=(h _ (getElem_mem d)).2;omega],rfl⟩
  ·refine k (n-(j+1)) _ _ (by omega) ⟨j+1,rfl,by omega,rfl,fun z f=>?_,rfl⟩
   rw[take_succ_eq_append_getElem d]at f;rcases mem_append.1 f with f|f
   ·exact b z f
   ·rw[mem_singleton.1 f];exact⟨by omega,by omega⟩
 ·have:j=l.length:=by omega
  subst this;rw[take_length]at b;exact⟨by rw[CZ b],rfl⟩
theorem sPart_spec(low wide k n:Int)(w:World)(l:0<=low)(b:0<=wide)(d:low+wide<=4611686018427387904)(f:0<=k)(c:k<=n)(hn:0<n)(a:n<=100000):
  Calls Tryz.prog 224 #[.int .i64 low,.int .i64 wide,.int .i64 k,.int .i64 n] w fun e w'=>e=.returned (.int .i64 (Ff low wide k n))/\w'=w.drew:=by
 apply sPart.ok;unfold sPart.vc;obtain⟨m,o,p,q,r,g,s,t,u,h⟩:=part_bound (low:=low) b f c hn;have i:wide/n<=wide:=Int.ediv_le_self n b;have j:n*n<=100000*100000:=Int.mul_le_mul a a (by omega) (by omega);rw[Int.tdiv_eq_ediv_of_nonneg b,Int.tmod_eq_emod_of_nonneg b,Int.tdiv_eq_ediv_of_nonneg g];exact⟨by omega,iR,iR,iR,by omega,iR,by omega,iR,iR,rfl,rfl⟩
theorem sBetween_spec(low d n:Int)(w:World)(hl: -9223372036854775807<=n/\n<=9223372036854775807):
  Calls Tryz.prog 162 #[.int .i64 low,.int .i64 d,.int .i64 n] w fun e w'=>
   (betP low d n=none/\e=.returned (.tuple #[.slice none 0 0,.bool false])/\Hp [] w w' [])\/
   ∃l a c,betP low d n=some l/\l.length=n.toNat/\e=.returned (.tuple #[.slice a n.toNat c,.bool true])/\Hp [] w w' [.own 3 1 a n.toNat c (AO l)]:=by
 apply sBetween.ok;unfold sBetween.vc;refine Am.mk (fun s w'=>s=dec (¬(inS low/\inS d/\0<=n/\n<=4096/\n<d-low))/\Hp [] w w' []) ?_ ?_;rotate_left
 ·intro J x b r B
  have H:=(Hp.start w).nw B;have O:Cells r (some ⟨b,0,none⟩) (AO [low,d]):=fun j v M=>⟨_,rfl,by rw[add_lit,Nat.zero_add];exact(H.blk (.head _)).cell M⟩;refine AC (Ol _ 2 2 [low,d] r O rfl (by simp[maxLen])) ?_;rintro _ _ ⟨rfl,rfl⟩
  have g:(∀z∈[low,d],inS z)↔inS low/\inS d:=by simp
  refine⟨_,rfl,F5 (fun h=>x _ _ ⟨CZ fun f=>h (g.2 ⟨f.1,f.2.1⟩),H.drop⟩) (fun h=>?_)⟩;obtain⟨i,f⟩:=g.1 h;refine AB (fun C=>x _ _ ⟨CZ fun t=>by omega,H.drop⟩) (fun C=>AB (fun t=>x _ _ ⟨CZ fun t=>by omega,H.drop⟩) (fun t=>⟨DD.2 (by have:=i.1;have:=i.2;have:=f.1;have:=f.2;omega),x _ _ ⟨?_,H.drop⟩⟩));by_cases y:d-low<=n
  ·exact(decide_eq_true y).trans (CZ fun A=>by omega)
  ·exact(decide_eq_false y).trans (Bf fun A=>A ⟨i,f,by omega,by omega,by omega⟩)
 rintro _ r ⟨rfl,H⟩;refine br_d (fun h=>.inl ⟨by rw[betP,if_neg h],rfl,H⟩) (fun h=>?_);obtain⟨i,f,C,t,y⟩:=Classical.not_not.1 h;have D:=i.1;have R:=i.2;have T:=f.1;have U:=f.2;obtain⟨m,rfl⟩:∃m:Nat,n=m:=⟨n.toNat,by omega⟩;obtain⟨L,F⟩:∃L,L=(List.range m).map fun(k:Nat)=>Ff low (d-low) ((k:Int)+1) ((m:Int)+1):=⟨_,rfl⟩
 have o:L.length=m:=by rw[F];simp
 have X:betP low d m=some L:=by rw[betP,if_pos ⟨i,f,C,t,y⟩,F];rfl
 rw[X];refine AP.mk (fun q s w'=>∃(j:Nat)(a:Option Addr)(c:Nat),q=m-j/\j<=m/\s=((a,j,c),(j:Int)+1)/\Hp [] w w' [.own 3 1 a j c (AO (L.take j))]) m ⟨0,none,0,rfl,by omega,rfl,H.nilS 3 1⟩ ?_;clear H r;rintro q s r nx ⟨j,a,c,rfl,M,rfl,H⟩ G;dsimp only;refine AB (fun A=>?_) (fun A=>?_)
 ·have p:j<m:=by omega
  refine⟨iR,iR,?_⟩;refine AC (sPart_spec low (d-low) ((j:Int)+1) ((m:Int)+1) r D (by omega) (by omega) (by omega) (by omega) (by omega) (by omega)) ?_;rintro _ _ ⟨rfl,rfl⟩;refine⟨_,rfl,fun b w2 K=>?_⟩;have N:=H.drew.nw K;refine Hp.app MP (by omega) N.Ae EQ4 (Blk.src (P:=Tryz.prog) NF (N.blk (.head _)) rfl rfl) (by simp only[maxLen];omega) (by omega) ?_;intro Y Z w3 H3;refine⟨iR,G (m-(j+1)) _ _ (by omega) ⟨j+1,Y,Z,rfl,by omega,by simp,?_⟩⟩
  have u:L[j]? =some (Ff low (d-low) ((j:Int)+1) ((m:Int)+1)):=by rw[F];simp[p]
  have e:AO (L.take (j+1))=AO (L.take j)++[.int .i64 (Ff low (d-low) ((j:Int)+1) ((m:Int)+1))]:=by
   rw[take_succ_eq_append_getElem (List.getElem?_eq_some_iff.1 u).1,(List.getElem?_eq_some_iff.1 u).2];simp[AO]
  rw[e];exact H3.Ae.drop
 ·have p:j=m:=by omega
  subst p;rw[<- o,take_length,o]at H;exact .inr ⟨L,a,c,rfl,o,rfl,H⟩
theorem sIn_spec(a b c d:Int)(w:World):Calls Tryz.prog 197 #[.agg #[.int .i64 a,.int .i64 b],.agg #[.int .i64 c,.int .i64 d]] w fun e w'=>e=.returned (.bool (dec (c<a/\b<d)))/\Hp [] w w' []:=by
 apply sIn.ok;unfold sIn.vc;intro l m i;have H:=(Hp.start w).nw i;intro n o j;have f:=H.nw j;refine⟨c,f.lo yInt,a,f.lo yInt,AB (fun h=>⟨b,f.lo yInt,d,f.lo yInt,?_,f.drop.drop⟩) (fun h=>⟨by rw[Bf (q:=c<a/\b<d) fun g=>h g.1],f.drop.drop⟩)⟩;by_cases g:b<d
 ·rw[<- CZ (show c<a/\b<d from⟨h,g⟩),decide_eq_true g]
 ·rw[<- Bf (show¬(c<a/\b<d)from fun k=>g k.2),decide_eq_false g]
theorem sAhead_spec(a b c d:Int)(w:World):Calls Tryz.prog 195 #[.agg #[.int .i64 a,.int .i64 b],.agg #[.int .i64 c,.int .i64 d]] w fun e w'=>e=.returned (.bool (decide (b<c)))/\Hp [] w w' []:=by
 apply sAhead.ok;unfold sAhead.vc;intro i j f;have H:=(Hp.start w).nw f;intro k l g;have h:=H.nw g;exact⟨b,h.lo yInt,c,h.lo yInt,rfl,h.drop.drop⟩
end
end Go.Proofs.YtljenkbpnioipaaGreat
namespace Go.Nod
abbrev Sp:=Int×Int
structure LSt where
 op:List Nat
 at_:Int
 out:List Sp
def KN(out:List Sp)(k:Nat)(z:Int):List Sp:=out.set k ((out[k]?.getD (0,0)).1,z)
def MQ(out:List Sp)(k:Nat)(z:Int):List Sp:=out.set k (z,(out[k]?.getD (0,0)).2)
def popL(s:LSt):LSt:=⟨s.op.dropLast,s.at_+1099511627776,KN s.out (s.op.getLastD 0) (s.at_+1099511627776)⟩
def popN:Nat->LSt->LSt
 |0,s=>s
 |n+1,s=>popN n (popL s)
def DI(d:Int)(s:LSt):LSt:=popN (s.op.length-d.toNat) s
def begL(k:Nat)(s:LSt):LSt:=⟨s.op++[k],s.at_+1099511627776,MQ s.out k (s.at_+1099511627776)⟩
def labF:List It->Nat->LSt->LSt
 | [],_,s=>DI 0 s
 |x::r,k,s=>labF r (k+1) (begL k (DI x.level s))
def Gq(l:List It):List Sp:=(labF l 0 ⟨[],0,List.replicate l.length (0,0)⟩).out
theorem bU(s:LSt):(popL s).op.length=s.op.length-1:=by rw[popL,List.length_dropLast]
theorem pop_out(s:LSt):(popL s).out.length=s.out.length:=by rw[popL,KN,length_set]
theorem P7:∀(j:Nat)(s:LSt),popN (j+1) s=popL (popN j s)
 |0,s=>rfl
 |j+1,s=>by rw[popN,P7 j];rfl
theorem IQ:∀(n:Nat)(s:LSt),n<=s.op.length->(popN n s).op=s.op.take (s.op.length-n)/\(popN n s).at_=s.at_+1099511627776*(n:Int)/\(popN n s).out.length=s.out.length
 |0,s,_=>by simp[popN]
 |n+1,s,h=>by
  obtain⟨a,b,c⟩:=IQ n (popL s) (by rw[bU];omega);rw[popN];refine⟨?_,?_,by rw[c,pop_out]⟩
  ·rw[a,bU]
   show(s.op.dropLast).take _=_;rw[dropLast_eq_take,take_take];congr 1;omega
  ·rw[b]
   show s.at_+1099511627776+_=_;omega
end Go.Nod
namespace Go.Proofs.YtljenkbpnioipaaGreat
noncomputable section
open Go Go.Vc Go.Nod
def Az(l:List Sp):List Value:=l.flatMap fun p=>[.int .i64 p.1,.int .i64 p.2]
theorem PV(l:List Sp):(Az l).length=l.length*2:=by
 induction l with
 |nil=>rfl
 |cons p r a=>simp only[Az,flatMap_cons,length_append,length_cons,length_nil]at a⊢;omega
theorem Ez(p:Sp)(r:List Sp):Az (p::r)=.int .i64 p.1::.int .i64 p.2::Az r:=rfl
theorem VU(a b:List Sp):Az (a++b)=Az a++Az b:=by simp[Az]
theorem Jj:∀{l:List Sp}{k:Nat}{p:Sp},l[k]? =some p->((Az l).drop (k*2)).take 2=[.int .i64 p.1,.int .i64 p.2]
 |x::r,0,p,h=>by simp at h;subst h;rfl
 |x::r,k+1,p,h=>by
  rw[List.getElem?_cons_succ]at h;rw[Ez,Nat.succ_mul,drop_succ_cons,drop_succ_cons];exact Jj h
theorem Rk:∀{l:List Sp}{k:Nat}{p:Sp},l[k]? =some p->(Az l)[k*2]? =some (.int .i64 p.1)
 |x::r,0,p,h=>by simp at h;subst h;rfl
 |x::r,k+1,p,h=>by
  rw[List.getElem?_cons_succ]at h;rw[Ez,Nat.succ_mul,List.getElem?_cons_succ,List.getElem?_cons_succ];exact Rk h
theorem Qi:∀(l:List Sp)(k:Nat)(z:Int),k<l.length->(Az l).set (k*2+1) (.int .i64 z)=Az (KN l k z)
 |x::r,0,z,_=>rfl
 |x::r,k+1,z,h=>by
  have a:=Qi r k z (by simpa using h)
  have e:KN (x::r) (k+1) z=x::KN r k z:=by simp[KN]
  rw[e,Ez,Ez,Nat.succ_mul];show _::_::(Az r).set (k*2+1) _=_;rw[a]
theorem Qc:∀(l:List Sp)(k:Nat)(z:Int),k<l.length->(Az l).set (k*2) (.int .i64 z)=Az (MQ l k z)
 |x::r,0,z,_=>rfl
 |x::r,k+1,z,h=>by
  have a:=Qc r k z (by simpa using h)
  have e:MQ (x::r) (k+1) z=x::MQ r k z:=by simp[MQ]
  rw[e,Ez,Ez,Nat.succ_mul];show _::_::(Az r).set (k*2) _=_;rw[a]
theorem made_sp(n:Nat):(madeCells (Value.agg #[.int .i64 0,.int .i64 0]).cells (n*2)).toList=Az (List.replicate n (0,0)):=by
 apply ext_getElem?;intro k;have c:(Value.agg #[.int .i64 0,.int .i64 0]).cells= #[Value.int .i64 0,.int .i64 0]:=rfl
 have a:∀(m:Nat),Az (List.replicate m (0,0))=List.replicate (m*2) (Value.int .i64 0):=fun m=>by
  induction m with
  |zero=>rfl
  |succ m d=>rw[List.replicate_succ,Ez,d,Nat.succ_mul];rfl
 rw[a,c];by_cases b:k<n*2
 ·have:(madeCells #[Value.int .i64 0,.int .i64 0] (n*2)).toList.length=n*2:=by rw[Array.length_toList,size_madeCells]
  rw[List.getElem?_eq_getElem (by omega),List.getElem?_replicate,if_pos b];rcases Nat.mod_two_eq_zero_or_one k with h|h
  ·simp[madeCells,h]
  ·simp[madeCells,h]
 ·rw[List.getElem?_eq_none (by rw[Array.length_toList,size_madeCells];omega),List.getElem?_replicate,if_neg b]
theorem eX:Elt Tryz.prog 187 62 2 16:=CW (by kernel_rfl)
theorem wSS:Scl Tryz.prog 187:=BK (by kernel_rfl)
theorem EK:Agg Tryz.prog 62 2:=Ci (by kernel_rfl)
theorem wundS:Tryz.prog.underlying 187=some (.slice 62):=by kernel_rfl
def natC(l:List Nat):List Value:=AO (l.map fun(k:Nat)=>(k:Int))
theorem natC_app(a b:List Nat):natC (a++b)=natC a++natC b:=by simp[natC,AO]
theorem natC_take(l:List Nat)(n:Nat):(natC l).take n=natC (l.take n):=by simp[natC,AO,List.map_take]
theorem natC_at{l:List Nat}{k v:Nat}(h:l[k]? =some v):(natC l)[k]? =some (.int .i64 (v:Int)):=by simp[natC,AO,h]
def labL(b0 b1 b2:Nat)(oa:Option Addr)(oc:Nat)(ua:Option Addr)(un:Nat)(s:LSt):List Asn:=
 [.blk b0 [.slice oa s.op.length oc] 59,.own 3 1 oa s.op.length oc (natC s.op),.blk b1 [.int .i64 s.at_] 3,.blk b2 [.slice ua un un] 187,.own 62 2 ua un un (Az s.out)]
theorem OY{B:List Nat}{w0:World}{L:List Asn}(d:Int)(p b1 q:Nat)(a:Option Addr)(Y:Nat)(f:Option Addr)(b:Nat)(s:LSt)(w:World)(r:0<=d)(t:∀k∈s.op,k<s.out.length)(ab:b=s.out.length)(ac:s.op.length<=100000)(ae:0<=s.at_/\s.at_<=1099511627776*1000000)(H:Hp B w0 w (labL p b1 q a Y f b s++L)):
  Calls Tryz.prog 165 #[.int .i64 d,.pointer (some ⟨p,0,none⟩),.pointer (some ⟨b1,0,none⟩),.pointer (some ⟨q,0,none⟩)] w fun e w'=>∃u,e=.returned (.tuple #[])/\Hp B w0 w' (labL p b1 q a u f b (DI d s)++L):=by
 apply sLabel1.ok;unfold sLabel1.vc;refine AP.mk (fun m _ w'=>∃(j:Nat)(c:Nat),m=s.op.length-j/\j<=s.op.length-d.toNat/\Hp B w0 w' (labL p b1 q a c f b (popN j s)++L)) s.op.length ⟨0,Y,rfl,by omega,H⟩ ?_;clear H;rintro m _ w1 nx ⟨j,c,rfl,hj,H⟩ x;obtain⟨y,f2,Z⟩:=IQ j s (by omega);obtain⟨s1,l⟩:∃s1,s1=popN j s:=⟨_,rfl⟩;rw[<- l]at H y f2 Z
 have af:s1.op.length=s.op.length-j:=by rw[y,length_take];omega
 refine⟨a,s1.op.length,c,AA rfl (H.lo nSI),AB (fun h1=>?_) (fun h1=>?_)⟩
 ·have aa:0<s1.op.length:=by omega
  refine⟨s1.at_,AA rfl (H.lo yInt),iR,AA rfl ?_⟩;refine Hp.s1 H.BD yInt (cs':=[.int .i64 (s1.at_+1099511627776)]) fun w2 i=>?_;clear H;refine⟨f,b,b,AA rfl (i.lo wSS),a,s1.op.length,c,AA rfl (i.lo nSI),a,s1.op.length,c,AA rfl (i.lo nSI),iR,?_⟩;obtain⟨z,A⟩:∃z,s1.op[s1.op.length-1]? =some z:=⟨_,List.getElem?_eq_getElem (by omega)⟩
  have C:z=s1.op.getLastD 0:=by
   rw[List.getLastD_eq_getLast?,List.getLast?_eq_getElem?,A];rfl
  have D:z<s1.out.length:=by
   rw[Z];refine t z ?_;have:z∈s1.op:=mem_of_getElem? A;rw[y]at this;exact List.mem_of_mem_take this
  obtain⟨ad,G,J⟩:=i.ldO (w':=w2.drew) (o:=s1.op.length-1) EQ4 yInt m2 (natC_at A)
  have e1:Int.toNat ((s1.op.length:Int)-1)*1=s1.op.length-1:=by omega
  refine AA G ⟨⟨by omega,by omega⟩,(z:Int),by rw[e1];exact J,s1.at_+1099511627776,AA rfl (i.lo yInt),?_⟩;have K:Own w2 0 62 2 f b b (Az s1.out):=i.ownA m4;obtain⟨g,hg⟩:=K.CV (by omega);refine AA hg ⟨⟨by omega,by omega⟩,?_⟩;rw[Int.toNat_natCast,add_add];refine Hp.stO1 (o:=z*2+1) i.drew.Ib EQ4 yInt hg rfl rfl (by rw[PV];omega) fun w3 n=>?_;rw[Qi _ _ _ D]at n;clear i;refine⟨a,s1.op.length,c,AA rfl (n.lo nSI),a,s1.op.length,c,AA rfl (n.lo nSI),iR,a,s1.op.length,c,AA rfl (n.lo nSI),iR,?_⟩;have h:Own w3 0 3 1 a s1.op.length c (natC s1.op):=n.ownA m3;have ag:=h.le
  have e2:Int.toNat ((s1.op.length:Int)-1)=s1.op.length-1:=by omega
  refine⟨⟨by omega,by omega,by omega⟩,AA rfl ?_⟩;rw[e2];refine Hp.s1 n.BD nSI (cs':=[.slice a (s1.op.length-1) (s1.op.length-1)]) fun w4 H4=>?_;clear n h;have h:Own w4 0 3 1 a s1.op.length c (natC s1.op):=H4.ownA m3
  have H5:Hp B w0 w4 (.own 3 1 a (s1.op.length-1) (s1.op.length-1) (natC (s1.op.take (s1.op.length-1)))::(.blk p [.slice a (s1.op.length-1) (s1.op.length-1)] 59::.own 62 2 f b b (Az (KN s1.out z (s1.at_+1099511627776)))::.blk b1 [.int .i64 (s1.at_+1099511627776)] 3::.blk q [.slice f b b] 187::L)):=by
   refine(H4.perm (M:=.own 3 1 a s1.op.length c (natC s1.op)::(.blk p [.slice a (s1.op.length-1) (s1.op.length-1)] 59::.own 62 2 f b b (Az (KN s1.out z (s1.at_+1099511627776)))::.blk b1 [.int .i64 (s1.at_+1099511627776)] 3::.blk q [.slice f b b] 187::L)) ?_).set (Chg.refl _ _) ?_ fun k hk=>.inl hk
   ·refine AL fun ff gg r N O R=>?_
    simp only[labL,O,N,r,append_eq,nil_append];omega
   ·have:=h.only (F:=s1.op.length-1) (by omega)
    rw[Nat.mul_one,natC_take]at this;exact this
  have T:popN (j+1) s=popL s1:=by rw[l,P7]
  have U:popL s1=⟨s1.op.take (s1.op.length-1),s1.at_+1099511627776,KN s1.out z (s1.at_+1099511627776)⟩:=by
   rw[popL,dropLast_eq_take,C]
  refine x (s.op.length-(j+1)) _ _ (by omega) ⟨j+1,s1.op.length-1,rfl,by omega,?_⟩;rw[T,U];refine H5.perm ?_
  have e3:(s1.op.take (s1.op.length-1)).length=s1.op.length-1:=by rw[length_take];omega
  refine AL fun ff gg r N O R=>?_;simp only[labL,e3,O,N,r];omega
 ·have X:j=s.op.length-d.toNat:=by omega
  refine⟨c,rfl,?_⟩;rw[DI,<- X,<- l];exact H
end
end Go.Proofs.YtljenkbpnioipaaGreat
namespace Go.Nod
def labS:List It->Nat->LSt->LSt
 | [],_,s=>s
 |x::r,k,s=>labS r (k+1) (begL k (DI x.level s))
theorem XI:∀(l:List It)(k:Nat)(s:LSt),labF l k s=DI 0 (labS l k s)
 | [],_,_=>rfl
 |x::r,k,s=>by rw[labF,labS,XI r]
theorem VO(x:It):∀(l:List It)(k:Nat)(s:LSt),labS (l++[x]) k s=begL (k+l.length) (DI x.level (labS l k s))
 | [],k,s=>rfl
 |y::r,k,s=>by
  rw[cons_append,labS,labS,VO x r,length_cons];congr 1;omega
structure OH(j n:Nat)(s:LSt):Prop where
 out:s.out.length=n
 op:∀k∈s.op,k<j
 len:s.op.length<=j
 at_:s.at_=1099511627776*(2*(j:Int)-(s.op.length:Int))
theorem OH.shut{j n:Nat}{s:LSt}(h:OH j n s)(d:Int):OH j n (DI d s)/\(DI d s).op=s.op.take d.toNat:=by
 obtain⟨c,e,f⟩:=IQ (s.op.length-d.toNat) s (by omega);have l:=h.len;have g:=h.at_
 have a:(DI d s).op=s.op.take d.toNat:=by
  rw[DI,c];by_cases m:d.toNat<=s.op.length
  ·congr 1;omega
  ·rw[take_of_length_le (by omega),take_of_length_le (by omega)]
 have i:(DI d s).op.length=s.op.length-(s.op.length-d.toNat):=by rw[a,length_take];omega
 refine⟨⟨by rw[DI,f];exact h.out,fun k b=>h.op k ?_,by omega,?_⟩,a⟩
 ·rw[a]at b
  exact List.mem_of_mem_take b
 ·rw[i]
  have:(DI d s).at_=s.at_+1099511627776*((s.op.length-d.toNat:Nat):Int):=e;rw[this,g];omega
theorem OH.beg{j n:Nat}{s:LSt}(h:OH j n s):OH (j+1) n (begL j s):=by
 have b:=h.len;have c:=h.at_;refine⟨by rw[begL,MQ,length_set];exact h.out,fun k a=>?_,by rw[begL];simp;omega,?_⟩
 ·rw[begL]at a
  rcases mem_append.1 a with a|a
  ·have:=h.op k a;omega
  ·rw[mem_singleton.1 a];omega
 ·rw[begL]
  simp only[length_append,List.length_singleton];omega
def lab0(n:Nat):LSt:=⟨[],0,List.replicate n (0,0)⟩
theorem Vp(n:Nat):OH 0 n (lab0 n):=⟨by simp[lab0],by simp[lab0],by simp[lab0],by simp[lab0]⟩
theorem PN(n:Nat):∀(l:List It)(k:Nat)(s:LSt),OH k n s->OH (k+l.length) n (labS l k s)
 | [],k,s,h=>h
 |x::r,k,s,h=>by
  have:=PN n r (k+1) _ (h.shut x.level).1.beg;rw[labS,length_cons,Nat.add_comm r.length,<- Nat.add_assoc];exact this
theorem WE(l:List It):(Gq l).length=l.length:=by
 rw[Gq,XI];exact((PN l.length l 0 _ (Vp l.length)).shut 0).1.out
end Go.Nod
namespace Go.Proofs.YtljenkbpnioipaaGreat
noncomputable section
open Go Go.Vc Go.Nod
theorem sLabel_spec(la:Option Addr)(n lc:Nat)(l:List It)(ss:List Sl3)(w:World)(C:Df [] w la n l ss)(ao:(DC l).2=0)(hn:l.length<=100000)(L:∀x∈l,0<=x.level):
  Calls Tryz.prog 106 #[.slice la n lc] w fun e w'=>∃a,e=.returned (.tuple #[.slice a n n,.int .i64 0])/\Hp [] w w' [.own 62 2 a n n (Az (Gq l))]:=by
 apply sLabel.ok;unfold sLabel.vc;have N:=C.now.len;refine AC (Ia la n lc l ss w C.now C.len C.sls C.small) ?_;rintro _ w1 ⟨rfl,H1⟩;refine⟨_,_,rfl,AV (fun h=>(h ao).elim) (fun _=>?_)⟩;refine H1.mkS eX EQ4 (by omega) (by simp only[maxLen];omega) (by omega) (z:=.agg #[.int .i64 0,.int .i64 0]) rfl fun d w2 H2=>?_;rw[Int.toNat_natCast,made_sp]at H2;clear H1;rw[Int.toNat_natCast];intro G w3 O;have H3:=H2.nw O;refine Hp.s1 H3 wSS (cs':=[.slice d n n]) fun w4 H4=>?_;clear H2 H3 O;intro J w5 T;have H5:=H4.nw T;intro K w6 U;have H6:=H5.nw U;refine Hp.s1 H6 yInt (cs':=[.int .i64 0]) fun w7 H7=>?_;clear H4 H5 H6 T U;have H8:=H7.nilS 3 1;clear H7;refine AP.mk (fun m s w'=>∃(j:Nat)(i:Option Addr)(Y:Nat)(X:List Asn),m=n-j/\j<=n/\s=(j:Int)/\Hp [] w w' (labL J K G i Y d n (labS (l.take j) 0 (lab0 n))++X)) n ⟨0,none,0,[],rfl,by omega,rfl,H8.perm ?_⟩ ?_
 ·refine AL fun ff gg p q r u=>?_
  have Z:natC []=[]:=rfl;simp only[labL,take_zero,labS,Z,length_nil,r,q,p,lab0];omega
 clear H8;rintro m s w8 nx ⟨j,i,Y,X,rfl,hj,rfl,H⟩ ap;have B:=PN n (l.take j) 0 (lab0 n) (Vp n)
 have aa:(l.take j).length=j:=by rw[length_take];omega
 rw[aa,Nat.zero_add]at B;obtain⟨s,hs⟩:∃s,s=labS (l.take j) 0 (lab0 n):=⟨_,rfl⟩;rw[<- hs]at H B;have ba:=B.len;have bb:=B.at_;have bc:=B.out;refine AB (fun h1=>?_) (fun h1=>?_)
 ·have aq:j<l.length:=by omega
  obtain⟨x,sl,hx,ar,bd⟩:=(C.rd w8 (H.chg)).at_ (k:=j) (by omega);have hI:=C.rd w8 (H.chg);obtain⟨ad,av,aw⟩:=hI.some hx ar;refine AA av ⟨⟨by omega,h1⟩,x.level,x.x.kind,x.x.name,x.x.text,sl.1,sl.2.1,sl.2.2,by rw[Int.toNat_natCast];exact aw,?_⟩;intro xb w9 ab;have H9:=H.nw ab;refine Hp.sA H9 DZ (cs':=itC x sl) fun ac D=>?_;clear H9 ab H;refine⟨x.level,D.lo yInt,?_⟩;have a0:=L x (mem_of_getElem? hx)
  have ae:Hp [] w ac (labL J K G i Y d n s++(.blk xb (itC x sl) 123::X)):=D.perm (by
   refine AL fun ff gg p q r u=>?_
   simp only[r,q,p];omega)
  clear D;refine AC (OY x.level J K G i Y d n s ac a0 (fun k hk=>by have:=B.op k hk;omega) (by omega) (by omega) ⟨by omega,by omega⟩ ae) ?_;rintro _ a1 ⟨c,rfl,b⟩;clear ae;obtain⟨y,af⟩:=B.shut x.level;obtain⟨t,ht⟩:∃t,t=DI x.level s:=⟨_,rfl⟩;rw[<- ht]at b y af;have a7:=y.len;have a8:=y.at_;have a9:=y.out;refine⟨rfl,t.at_,b.lo yInt,iR,?_⟩;refine Hp.s1 b.BD yInt (cs':=[.int .i64 (t.at_+1099511627776)]) fun a2 f=>?_;clear b;refine⟨d,n,n,f.lo wSS,t.at_+1099511627776,f.lo yInt,?_⟩;have a3:Own a2 0 62 2 d n n (Az t.out):=f.ownA m4;obtain⟨g,ag⟩:=a3.CV (by omega);refine AA ag ⟨⟨by omega,by omega⟩,?_⟩;rw[Int.toNat_natCast];refine Hp.stO1 (o:=j*2) f.Ib EQ4 yInt ag rfl rfl (by rw[PV];omega) fun bh A=>?_;rw[Qc _ _ _ (by omega)]at A;clear f;refine⟨i,t.op.length,c,A.lo nSI,?_⟩;intro kb bi ah;have ak:=A.nw ah;clear A
  have F:=ak.perm (M:=.own 3 1 i t.op.length c (natC t.op)::.blk kb [.int .i64 (j:Int)] 3::.blk J [.slice i t.op.length c] 59::.own 62 2 d n n (Az (MQ t.out j (t.at_+1099511627776)))::.blk K [.int .i64 (t.at_+1099511627776)] 3::.blk G [.slice d n n] 187::(.blk xb (itC x sl) 123::X)) (by
   refine AL fun ff gg p q r u=>?_
   simp only[labL,r,q,p,append_eq,nil_append];omega)
  clear ak;refine Hp.app MP (by omega) F EQ4 (Blk.src (P:=Tryz.prog) NF (F.blk m1) rfl rfl) (by simp only[maxLen];omega) (by omega) ?_;intro al am bj an;clear F;refine Hp.s1 an.BD nSI (cs':=[.slice al (t.op.length+1) am]) fun bk a4=>⟨iR,?_⟩;clear an;refine ap (n-(j+1)) _ _ (by omega) ⟨j+1,al,am,.blk kb [.int .i64 (j:Int)] 3::.blk xb (itC x sl) 123::X,rfl,by omega,rfl,a4.perm ?_⟩
  have Z:labS (l.take (j+1)) 0 (lab0 n)=begL j t:=by
   have a5:=(List.getElem?_eq_some_iff.1 hx).2;rw[take_succ_eq_append_getElem aq,a5,VO,<- hs,<- ht,aa,Nat.zero_add]
  have e2:natC (t.op++[j])=natC t.op++[.int .i64 (j:Int)]:=by rw[natC_app];rfl
  have e3:(t.op++[j]).length=t.op.length+1:=by simp
  rw[Z];refine AL fun ff gg p q r u=>?_;simp only[labL,begL,e2,e3,r,q,p];omega
 ·have a6:j=n:=by omega
  subst a6;refine AC (OY 0 J K G i Y d _ s w8 (by omega) (fun k hk=>by have:=B.op k hk;omega) (by omega) (by omega) ⟨by omega,by omega⟩ H) ?_;rintro _ a1 ⟨c,rfl,b⟩;refine⟨rfl,d,_,_,b.lo wSS,d,rfl,?_⟩
  have Z:Gq l=(DI 0 s).out:=by
   rw[Gq,XI,hs,<- N,take_of_length_le (by omega)];rfl
  rw[Z];refine Hp.BP (R:=[.blk J [.slice i (DI 0 s).op.length c] 59,.own 3 1 i (DI 0 s).op.length c (natC (DI 0 s).op),.blk K [.int .i64 (DI 0 s).at_] 3,.blk G [.slice d j j] 187]++X) (b.perm ?_);refine AL fun ff gg p q r u=>?_;simp only[labL,r,q,p];omega
end
end Go.Proofs.YtljenkbpnioipaaGreat
namespace Go.Nod
noncomputable section
open Classical
def popA:Nat->List Sp->Sp->List Sp
 |0,_,_=>[]
 |n+1,o,x=>match o[n]? with
  |some y=>if y.2<x.1 then popA n o x else o.take (n+1)
  |none=>o.take (n+1)
theorem WH:∀(n:Nat)(o:List Sp)(x:Sp),n<=o.length->∃m,m<=n/\popA n o x=o.take m
 |0,o,x,_=>⟨0,Nat.le_refl _,by simp[popA]⟩
 |n+1,o,x,h=>by
  rw[popA];have e:o[n]? =some o[n]:=List.getElem?_eq_getElem (by omega);rw[e];dsimp only;split
  ·obtain⟨m,b,a⟩:=WH n o x (by omega)
   exact⟨m,by omega,a⟩
  ·exact⟨n+1,Nat.le_refl _,rfl⟩
def badS(p:Option Int)(o:List Sp)(x:Sp):Prop:=¬(inS x.1/\inS x.2)\/x.2<=x.1\/(∃z,p=some z/\x.1<=z)\/∃y,o.getLast? =some y/\¬(y.1<x.1/\x.2<y.2)
def levP:Option Int->List Sp->List Sp->Option (List Int)
 |_,_,[]=>some []
 |p,o,x::r=>if badS p (popA o.length o x) x then none else(levP (some x.1) (popA o.length o x++[x]) r).map fun l=>((popA o.length o x).length:Int)::l
def GY(s:List Sp):Option (List Int):=levP none [] s
end
end Go.Nod
namespace Go.Proofs.YtljenkbpnioipaaGreat
noncomputable section
open Go Go.Vc Go.Nod
theorem sLevels_spec(sa:Option Addr)(n sc:Nat)(l:List Sp)(w:World)(hS:Cells w sa (Az l))(hn:n=l.length)(bh:n<=100000):
  Calls Tryz.prog 134 #[.slice sa n sc] w fun e w'=>(GY l=none/\e=.returned (.tuple #[.slice none 0 0,.bool false])/\Hp [] w w' [])\/
   ∃L a c,GY l=some L/\L.length=n/\e=.returned (.tuple #[.slice a n c,.bool true])/\Hp [] w w' [.own 3 1 a n c (AO L)]:=by
 apply sLevels.ok;unfold sLevels.vc
 refine AP.mk (fun m s w'=>∃(j:Nat)(C:Option Addr)(D:Nat)(t:Option Addr)(bc:Nat)(O:List Sp)(L:List Int)(X:List Asn),m=n-j/\j<=n/\L.length=j/\O.length<=j/\s=((C,j,D),(t,O.length,bc),(j:Int))/\
   GY l=(levP (if j=0 then none else(l[j-1]?).map (·.1)) O (l.drop j)).map (fun r=>L++r)/\Hp [] w w' (.own 3 1 C j D (AO L)::.own 62 2 t O.length bc (Az O)::X)) n
  ⟨0,none,0,none,0,[],[],[],rfl,by omega,rfl,Nat.le_refl _,rfl,?_,((Hp.start w).nilS 62 2).nilS 3 1⟩ ?_
 ·rw[if_pos rfl,List.drop_zero,GY]
  cases levP none [] l<;>rfl
 rintro m s w1 nx ⟨j,C,D,t,bc,O,L,X,rfl,hj,hL,hO,rfl,b,H⟩ aq;dsimp only;refine AB (fun h1=>?_) (fun h1=>?_);rotate_left
 ·have ar:j=n:=by omega
  subst ar;rw[hn,drop_length,levP]at b;refine .inr ⟨L,C,D,?_,hL,rfl,Hp.BP (L:=[_]) H⟩;rw[b];simp
 have af:j<l.length:=by omega
 obtain⟨x,hx⟩:∃x,l[j]? =some x:=⟨_,List.getElem?_eq_getElem af⟩
 have av:l.drop j=x::l.drop (j+1):=by
  rw[<- List.getElem_cons_drop af,(List.getElem?_eq_some_iff.1 hx).2]
 rw[av,levP]at b;have ag:Cells w1 sa (Az l):=hS.chg H.chg (by simp);have aa:=Jj hx;obtain⟨ad,N⟩:=ag.some (fun e=>by rw[e]at aa;simp at aa);refine AA N ⟨⟨by omega,h1⟩,x.1,x.2,by rw[Int.toNat_natCast];exact ag.ldA EK N aa rfl,?_⟩;intro M w2 ah;have H2:=H.nw ah;refine Hp.sA H2 EK (cs':=[.int .i64 x.1,.int .i64 x.2]) fun w3 f=>?_;clear H H2 ah;obtain⟨P,hP⟩:∃P,P=popA O.length O x:=⟨_,rfl⟩;rw[<- hP]at b;refine Am.mk (fun s w'=>∃c,s=(t,P.length,c)/\Hp [] w w' (.blk M [.int .i64 x.1,.int .i64 x.2] 62::.own 3 1 C j D (AO L)::.own 62 2 t P.length c (Az P)::X)) ?_ ?_;rotate_left
 ·intro J R
  refine AP.mk (fun q s w'=>∃(k:Nat)(c:Nat),q=k/\k<=O.length/\s=(t,k,c)/\popA k O x=P/\Hp [] w w' (.blk M [.int .i64 x.1,.int .i64 x.2] 62::.own 3 1 C j D (AO L)::.own 62 2 t k c (Az (O.take k))::X)) O.length ⟨O.length,bc,rfl,Nat.le_refl _,rfl,hP.symm,by rw[take_length];exact f⟩ ?_;clear f;rintro q s T bi ⟨k,c,hq,hk,rfl,h,A⟩ ak;dsimp only;have u:Own T 0 62 2 t k c (Az (O.take k)):=A.ownA m2;refine AB (fun G=>?_) (fun G=>?_)
  ·obtain⟨d,rfl⟩:∃d,k=d+1:=⟨k-1,by omega⟩
   obtain⟨y,U⟩:∃y,O[d]? =some y:=⟨_,List.getElem?_eq_getElem (by omega)⟩
   have aw:(O.take (d+1))[d]? =some y:=by rw[List.getElem?_take_of_lt (by omega)];exact U
   have a0:=Jj aw;obtain⟨g,hg⟩:=u.CV (by omega)
   have e1:Int.toNat (((d+1:Nat):Int)-1)=d:=by omega
   rw[e1];have ab:Cells T.drew t (Az (O.take (d+1))):=u.cells;refine⟨iR,AA hg ⟨⟨by omega,by omega⟩,y.1,y.2,ab.ldA EK hg a0 rfl,x.1,x.2,A.loA EK,?_⟩⟩;refine AC (sAhead_spec y.1 y.2 x.1 x.2 T.drew) ?_;rintro _ w5 ⟨rfl,H'⟩;have H5:=A.drew.ext0 H';clear A;have bj:=u.le;rw[popA,U]at h;dsimp only at h;refine⟨_,rfl,AB (fun o=>⟨iR,iR,⟨by omega,by omega,by omega⟩,?_⟩) (fun o=>?_)⟩
   ·rw[if_pos o]at h
    refine ak d _ _ (by omega) ⟨d,d,rfl,by omega,rfl,h,?_⟩;have a1:Own w5 0 62 2 t (d+1) c (Az (O.take (d+1))):=H5.ownA m2;have al:=a1.only (F:=d) (by omega)
    have e2:(Az (O.take (d+1))).take (d*2)=Az (O.take d):=by
     rw[take_succ_eq_append_getElem (by omega),VU]
     have:(Az (O.take d)).length=d*2:=by rw[PV,length_take];omega
     rw[<- this,List.take_left]
    rw[e2]at al;refine(Hp.set (a':=.own 62 2 t d d (Az (O.take d))) (H5.BD) (Chg.refl _ _) al fun k hk=>.inl hk).perm ?_;refine AL fun ff gg h0 hc ha a3=>?_;simp only[ha,hc,h0];omega
   ·rw[if_neg o]at h
    refine R _ _ ⟨c,?_,?_⟩
    ·rw[<- h,length_take];congr 2;omega
    ·have e3:P.length=d+1:=by rw[<- h,length_take];omega
     rw[e3,<- h];exact H5
  ·have a4:k=0:=by omega
   subst a4;rw[popA]at h;subst h;exact R _ _ ⟨c,rfl,A.drew⟩
 clear f;rintro _ w3 ⟨c,rfl,f⟩;dsimp only
 have bk:P.length<=O.length:=by
  obtain⟨m,G,o⟩:=WH O.length O x (Nat.le_refl _);rw[hP,o,length_take];omega
 have K:∀{w':World},badS (if j=0 then none else(l[j-1]?).map (·.1)) P x->Hp [] w w' (.blk M [.int .i64 x.1,.int .i64 x.2] 62::.own 3 1 C j D (AO L)::.own 62 2 t P.length c (Az P)::X)->
   (GY l=none/\Ending.returned (.tuple #[.slice none 0 0,.bool false])=.returned (.tuple #[.slice none 0 0,.bool false])/\Hp [] w w' [])\/
   ∃L a c,GY l=some L/\L.length=n/\Ending.returned (.tuple #[.slice none 0 0,.bool false])=.returned (.tuple #[.slice a n c,.bool true])/\Hp [] w w' [.own 3 1 a n c (AO L)]:=fun{w'} u H=>by
  rw[if_pos u]at b;exact .inl ⟨by rw[b];rfl,rfl,Hp.BP (L:=[]) H⟩
 refine Am.mk (fun s w'=>s=dec (¬(inS x.1/\inS x.2)\/x.2<=x.1)/\Hp [] w w' (.blk M [.int .i64 x.1,.int .i64 x.2] 62::.own 3 1 C j D (AO L)::.own 62 2 t P.length c (Az P)::X)) ?_ ?_;rotate_left
 ·intro J R
  have ld0:Ld Tryz.prog 3 w3 ⟨M,0,none⟩ (.int .i64 x.1):=f.lo yInt;have a5:Ld Tryz.prog 3 w3 ⟨M,1,none⟩ (.int .i64 x.2):=f.lo yInt;refine⟨x.1,ld0,x.2,a5,fun b1 T a6=>?_⟩;have A:=f.nw a6;have hc:Cells T (some ⟨b1,0,none⟩) (AO [x.1,x.2]):=fun j v hj=>⟨_,rfl,by rw[add_lit,Nat.zero_add];exact(A.blk (.head _)).cell hj⟩;refine AC (Ol _ 2 2 [x.1,x.2] T hc rfl (by simp[maxLen])) ?_;rintro _ _ ⟨rfl,rfl⟩
  have Y:(∀z∈[x.1,x.2],inS z)↔inS x.1/\inS x.2:=by simp
  refine⟨_,rfl,F5 (fun G=>R _ _ ⟨CZ (.inl fun o=>G (Y.2 o)),A.drop⟩) (fun G=>⟨x.1,A.lo yInt,x.2,A.lo yInt,R _ _ ⟨?_,A.drop⟩⟩)⟩;by_cases o:x.2<=x.1
  ·exact(decide_eq_true o).trans (CZ (.inr o))
  ·exact(decide_eq_false o).trans (Bf fun B=>B.elim (fun h5=>h5 (Y.1 G)) o)
 clear f;rintro _ T ⟨rfl,f⟩;refine br_d (fun G=>K (G.elim .inl fun o=>.inr (.inl o)) f) (fun G=>?_);refine Am.mk (fun s w'=>s=dec (∃z,(if j=0 then none else(l[j-1]?).map (·.1))=some z/\x.1<=z)/\Hp [] w w' (.blk M [.int .i64 x.1,.int .i64 x.2] 62::.own 3 1 C j D (AO L)::.own 62 2 t P.length c (Az P)::X)) ?_ ?_;rotate_left
 ·intro J R
  refine AB (fun o=>?_) (fun o=>R _ _ ⟨Bf fun⟨z,B,_⟩=>(by rw[if_pos (by omega)]at B;cases B),f.drew⟩);obtain⟨p,hp⟩:∃p,l[j-1]? =some p:=⟨_,List.getElem?_eq_getElem (by omega)⟩;have a7:Cells T.drew sa (Az l):=hS.chg f.chg (by simp)
  have e1:Int.toNat ((j:Int)-1)=j-1:=by omega
  refine⟨x.1,f.lo yInt,iR,AA N ⟨⟨by omega,by omega⟩,p.1,by rw[e1];exact a7.ld yInt N (Rk hp),R _ _ ⟨?_,f.drew⟩⟩⟩;rw[if_neg (by omega),hp];by_cases B:x.1<=p.1
  ·exact(decide_eq_true B).trans (CZ ⟨p.1,rfl,B⟩)
  ·exact(decide_eq_false B).trans (Bf fun⟨z,h5,h6⟩=>by cases h5;exact B h6)
 clear f;rintro _ w5 ⟨rfl,f⟩;refine br_d (fun o=>K (.inr (.inr (.inl o))) f) (fun o=>?_)
 have am:∀{w6:World},Hp [] w w6 (.blk M [.int .i64 x.1,.int .i64 x.2] 62::.own 3 1 C j D (AO L)::.own 62 2 t P.length c (Az P)::X)->¬badS (if j=0 then none else(l[j-1]?).map (·.1)) P x->
   ∀(b2:Nat)(w7:World),New w6 (.cells #[.int .i64 (P.length:Int)] 3) b2 w7->∃a n m w8,App Tryz.prog #[59,59] 59 w7 (.slice C j D) (.slice (some ⟨b2,0,none⟩) 1 1) (.slice a n m) w8/\∃i i5,Ld Tryz.prog 62 w8 ⟨M,0,none⟩ (.agg #[.int .i64 i,.int .i64 i5])/\
    ∀(b3:Nat)(w9:World),New w8 (.cells #[.int .i64 i,.int .i64 i5] 62) b3 w9->∃a2 n1 m1 ac,App Tryz.prog #[187,187] 187 w9 (.slice t P.length c) (.slice (some ⟨b3,0,none⟩) 1 1) (.slice a2 n1 m1) ac/\inR .i64 ((j:Int)+1)/\nx ((a,n,m),(a2,n1,m1),(j:Int)+1) ac:=fun{w6} H u b2 w7 a8=>by
  rw[if_neg u]at b;have H7:=H.nw a8;refine Hp.app MP (by omega) H7.BD EQ4 (Blk.src (P:=Tryz.prog) NF (H7.blk (.head _)) rfl rfl) (by simp only[maxLen];omega) (by omega) ?_;intro a' c' w8 H8;refine⟨x.1,x.2,H8.loA EK,fun b3 w9 a9=>?_⟩;have H9:=H8.nw a9;refine Hp.app eX (by omega) H9.Ib EQ4 (Blk.src (P:=Tryz.prog) wundS (H9.blk (.head _)) rfl rfl) (by simp only[maxLen];omega) (by omega) ?_;intro a2 c2 ac an;refine⟨iR,?_⟩
  have e1:P.length+1=(P++[x]).length:=by simp
  rw[e1]at an⊢;refine aq (n-(j+1)) _ _ (by omega) ⟨j+1,a',c',a2,c2,P++[x],L++[(P.length:Int)],[.blk b3 [.int .i64 x.1,.int .i64 x.2] 62,.blk b2 [.int .i64 (P.length:Int)] 3,.blk M [.int .i64 x.1,.int .i64 x.2] 62]++X,rfl,by omega,by simp[hL],by simp;omega,rfl,?_,an.perm ?_⟩
  ·rw[b,if_neg (by omega),Nat.add_sub_cancel,hx]
   dsimp only[Option.map_some]
   cases levP (some x.1) (P++[x]) (l.drop (j+1))with
   |none=>rfl
   |some r=>simp
  ·have e2:AO (L++[(P.length:Int)])=AO L++[.int .i64 (P.length:Int)]:=by simp[AO]
   have e3:Az (P++[x])=Az P++[.int .i64 x.1,.int .i64 x.2]:=by rw[VU];rfl
   refine AL fun ff gg h0 hc ha a3=>?_;simp only[e2,e3,ha,hc,h0];omega
 have Z:(∀y,P.getLast? =some y->y.1<x.1/\x.2<y.2)->¬badS (if j=0 then none else(l[j-1]?).map (·.1)) P x:=fun B u=>by
  rcases u with u|u|u|⟨y,bb,bd⟩
  ·exact G (.inl u)
  ·exact G (.inr u)
  ·exact o u
  ·exact bd (B y bb)
 refine AB (fun B=>?_) (fun B=>?_)
 ·have ae:0<P.length:=by omega
  obtain⟨y,U⟩:∃y,P[P.length-1]? =some y:=⟨_,List.getElem?_eq_getElem (by omega)⟩
  have ao:P.getLast? =some y:=by rw[List.getLast?_eq_getElem?];exact U
  have u:Own w5 0 62 2 t P.length c (Az P):=f.ownA m2;obtain⟨g,hg⟩:=u.CV ae;have ab:Cells w5.drew t (Az P):=u.cells
  have e1:Int.toNat ((P.length:Int)-1)=P.length-1:=by omega
  refine⟨x.1,x.2,f.loA EK,iR,AA hg ⟨⟨by omega,by omega⟩,y.1,y.2,by rw[e1];exact ab.ldA EK hg (Jj U) rfl,?_⟩⟩;refine AC (sIn_spec x.1 x.2 y.1 y.2 w5.drew) ?_;rintro _ w6 ⟨rfl,H'⟩;have A:=f.drew.ext0 H';refine⟨_,rfl,F5 (fun h5=>K (.inr (.inr (.inr ⟨y,ao,h5⟩))) A) (fun h5=>?_)⟩;exact am A (Z fun y' ap=>by rw[ao]at ap;cases ap;exact h5)
 ·have ae:P=[]:=List.eq_nil_of_length_eq_zero (by omega)
  exact am f.drew (Z fun y U=>by rw[ae]at U;cases U)
end
end Go.Proofs.YtljenkbpnioipaaGreat
namespace Go.Nod
abbrev none0:ByteArray:=⟨#[]⟩
structure WOk(W:List ByteArray):Prop where
 ok:∀s∈W,s=none0\/Cb s
 one:∀(j k:Nat)(s:ByteArray),W[j]? =some s->W[k]? =some s->s≠none0->j=k
 last:W.getLast? ≠some none0
 len:W.length<=4000
theorem Zg:WOk []:=⟨by simp,by simp,by simp,by simp⟩
def hasW(W:List ByteArray)(n:ByteArray):Prop:=n∈W/\n≠none0
noncomputable instance (W:List ByteArray) (n:ByteArray):Decidable (hasW W n):=Classical.propDecidable _
def posW:List ByteArray->ByteArray->Nat
 | [],_=>0
 |x::r,n=>if x=n then 0 else posW r n+1
theorem Xd:∀{W:List ByteArray}{n:ByteArray},n∈W->W[posW W n]? =some n
 |x::r,n,h=>by
  rw[posW];by_cases e:x=n
  ·rw[if_pos e,List.getElem?_cons_zero,e]
  ·rw[if_neg e,List.getElem?_cons_succ]
   exact Xd ((mem_cons.1 h).resolve_left fun h=>e h.symm)
end Go.Nod
namespace Go.Proofs.YtljenkbpnioipaaGreat
noncomputable section
open Go Go.Vc Go.Nod
theorem kSW:Scl Tryz.prog 148:=BK (by kernel_rfl)
theorem kMSI:Scl Tryz.prog 147:=BK (by kernel_rfl)
theorem KY:Agg Tryz.prog 167 2:=Ci (by kernel_rfl)
theorem bg:Elt Tryz.prog 148 167 2 24:=CW (by kernel_rfl)
theorem bH:Elt Tryz.prog 106 9 1 16:=CW (by kernel_rfl)
theorem df:Tryz.prog.underlying 106=some (.slice 9):=by kernel_rfl
theorem dG:Tryz.prog.underlying 148=some (.slice 167):=by kernel_rfl
theorem IG:MapT Tryz.prog GI 147 9 3 (.int .i64 0):=⟨by kernel_rfl,by kernel_rfl,by kernel_rfl⟩
def useW(s:ByteArray):Int:=if s=none0 then 0 else 1
def Ai(W:List ByteArray):List Value:=W.flatMap fun s=>[.string s,.int .i64 (useW s)]
theorem E8(l:List ByteArray):(Ai l).length=l.length*2:=by
 induction l with
 |nil=>rfl
 |cons p r a=>simp only[Ai,flatMap_cons,length_append,length_cons,length_nil]at a⊢;omega
theorem wordsC_one(l:List ByteArray):∀u∈Ai l,u.oneCell'=true:=by
 intro u c;obtain⟨p,_,a⟩:=List.mem_flatMap.1 c;simp only[mem_cons,List.not_mem_nil,or_false]at a;rcases a with rfl|rfl<;>rfl
theorem FN(p:ByteArray)(r:List ByteArray):Ai (p::r)=.string p::.int .i64 (useW p)::Ai r:=rfl
theorem KA(a b:List ByteArray):Ai (a++b)=Ai a++Ai b:=by simp[Ai]
theorem PE:∀{l:List ByteArray}{k:Nat}{p:ByteArray},l[k]? =some p->((Ai l).drop (k*2)).take 2=[.string p,.int .i64 (useW p)]
 |x::r,0,p,h=>by simp at h;subst h;rfl
 |x::r,k+1,p,h=>by
  rw[List.getElem?_cons_succ]at h;rw[FN,Nat.succ_mul,drop_succ_cons,drop_succ_cons];exact PE h
theorem GH:∀{l:List ByteArray}{k:Nat}{p:ByteArray},l[k]? =some p->(Ai l)[k*2+1]? =some (.int .i64 (useW p))
 |x::r,0,p,h=>by simp at h;subst h;rfl
 |x::r,k+1,p,h=>by
  rw[List.getElem?_cons_succ]at h;rw[FN,Nat.succ_mul];show(Ai r)[k*2+1]? =_;exact GH h
theorem NM:∀(l:List ByteArray)(k:Nat)(z:ByteArray),k<l.length->over [.string z,.int .i64 (useW z)] (k*2) (Ai l)=Ai (l.set k z)
 |x::r,0,z,_=>by
  rw[set_cons_zero,FN,FN];exact Fb [.string z,.int .i64 (useW z)] [] [.string x,.int .i64 (useW x)] (Ai r) rfl
 |x::r,k+1,z,h=>by
  have i:=NM r k z (by simpa using h)
  have m:k<r.length:=by simpa using h
  rw[set_cons_succ,FN,FN,<- i];have n:=E8 r
  have e:Ai r=(Ai r).take (k*2)++(((Ai r).drop (k*2)).take 2++(Ai r).drop (k*2+2)):=by
   rw[<- drop_drop,take_append_drop,take_append_drop]
  have a:((Ai r).take (k*2)).length=k*2:=by rw[length_take];omega
  have c:(((Ai r).drop (k*2)).take 2).length=2:=by rw[length_take,length_drop];omega
  have d:=Fb [.string z,.int .i64 (useW z)] ((Ai r).take (k*2)) (((Ai r).drop (k*2)).take 2) ((Ai r).drop (k*2+2)) c.symm;rw[a,<- e]at d;have g:=Fb [.string z,.int .i64 (useW z)] (.string x::.int .i64 (useW x)::(Ai r).take (k*2)) (((Ai r).drop (k*2)).take 2) ((Ai r).drop (k*2+2)) c.symm
  have j:(Value.string x::.int .i64 (useW x)::(Ai r).take (k*2)).length=(k+1)*2:=by rw[length_cons,length_cons,a];omega
  rw[j,cons_append,cons_append,<- e]at g;rw[d,g];rfl
structure F7(W:List ByteArray)(al:List (ByteArray×Value)):Prop where
 apart:Ef al
 iff:∀(n:ByteArray)(v:Value),(n,v)∈al↔∃k:Nat,W[k]? =some n/\n≠none0/\v=.int .i64 ((k:Int)+1)
theorem F7.get{W:List ByteArray}{al:List (ByteArray×Value)}(h:F7 W al)(g:WOk W)(n:ByteArray):aget al n=if hasW W n then some (.int .i64 ((posW W n:Nat)+1:Int))else none:=by
 by_cases a:hasW W n
 ·rw[if_pos a]
  exact(Ei h.apart).2 ((h.iff n _).2 ⟨_,Xd a.1,a.2,rfl⟩)
 ·rw[if_neg a]
  cases e:aget al n with
  |none=>rfl
  |some v=>
   obtain⟨k,c,d,_⟩:=(h.iff n v).1 ((Ei h.apart).1 e);exact(a ⟨mem_of_getElem? c,d⟩).elim
def JV(b mb:Nat)(a:Option Addr)(c:Nat)(W:List ByteArray)(al:List (ByteArray×Value)):List Asn:=[.blk b [.slice a W.length c,.map (some mb)] 150,.own 167 2 a W.length c (Ai W),.smap mb al]
def UT(b:Nat)(W:List ByteArray)(L:List Asn):Prop:=WOk W/\∃mb a c al,F7 W al/\L=JV b mb a c W al
def Aj(f:List Nat)(b:Nat)(W:List ByteArray):Asn:=pkA f (UT b W)
theorem Vm(w:World):Calls Tryz.prog 38 #[] w fun e w'=>∃b f,e=.returned (.pointer (some ⟨b,0,none⟩))/\Hp [] w w' [Aj f b []]:=by
 apply xNew.ok;unfold xNew.vc;intro a k c;have H:=(Hp.start w).newS EQ4 c;intro b d g;have h:=(H.nw g).nilS 167 2;have i:Hp [] w d (JV b a none 0 [] []++[]):=h.Ae;obtain⟨f,j⟩:=i.DJ (Q:=UT b []) ⟨Zg,a,none,0,[],⟨List.nodup_nil,by simp⟩,rfl⟩;exact⟨b,f,rfl,j⟩
section
variable{f:List Nat}{b:Nat}{W:List ByteArray}{w:World}
theorem Nh(h:(Aj f b W).ok w)(n:ByteArray):Calls Tryz.prog 100 #[.pointer (some ⟨b,0,none⟩),.string n] w fun e w'=>e=.returned (.tuple #[.int .i64 (if hasW W n then(posW W n:Int)+1 else 0),.bool (dec (hasW W n))])/\w'=w:=by
 apply xFind.ok;unfold xFind.vc;obtain⟨L,⟨i,j,a,c,k,l,rfl⟩,m,_⟩:=EP h;have H:=Hp.CE m;have g:=l.get i n;refine AA rfl ⟨some j,by rw[add_lit];exact H.lo kMSI,(if hasW W n then(posW W n:Int)+1 else 0),(aget k n).isSome,H.Wl IG EQ4 m2 ?_ rfl,?_,rfl⟩
 ·rw[g];split<;>rfl
 ·rw[g]
  by_cases d:hasW W n
  ·rw[if_pos d,if_pos d,<- CZ d];rfl
  ·rw[if_neg d,if_neg d,<- Bf d];rfl
theorem xClone_spec(h:(Aj f b W).ok w):Calls Tryz.prog 51 #[.pointer (some ⟨b,0,none⟩)] w fun e w'=>∃f1 f2 b',e=.returned (.pointer (some ⟨b',0,none⟩))/\Hp f w w' [Aj f1 b W,Aj f2 b' W]:=by
 apply xClone.ok;unfold xClone.vc
 have H0:Hp f w w [Aj f b W]:=Be h
 obtain⟨M,⟨hW,mb,a,c,al,hN,rfl⟩,H,hf⟩:=H0.unpack
 have hl:=hW.len
 refine AA rfl ⟨a,W.length,c,H.ld (o:=0) (cs:=[.slice a W.length c,.map (some mb)]) EQ4 kSW (.head _) rfl,AA rfl ⟨some mb,by rw[add_lit];exact H.ld (o:=1) (cs:=[.slice a W.length c,.map (some mb)]) EQ4 kMSI (.head _) rfl,?_⟩⟩
 have ho:Own w 0 167 2 a W.length c (Ai W):=H.ownA (.tail _ (.head _))
 have hod:Cells w.drew a (Ai W):=ho.cells
 refine AC (lCloneW_spec a W.length c (Ai W) w.drew hod (E8 W) (wordsC_one W) (Q5 ho) (by omega)) ?_
 rintro _ w1 ⟨a',c',rfl,H'⟩
 have H1:=H.drew.ext1 H'
 refine⟨a',_,c',rfl,by rw[add_lit];exact H1.ld (o:=1) (cs:=[.slice a W.length c,.map (some mb)]) EQ4 kMSI (.tail _ (.head _)) rfl,?_⟩
 have hm:MapAt GI w1 mb al:=H1.ok _ (.tail _ (.tail _ (.tail _ (.head _))))
 refine AC (lMCloneSI_spec mb al w1 hm) ?_
 rintro _ w2 ⟨mb',rfl,hmb,hm',hc⟩
 have H2:Hp f w w2 (.smap mb' al::_):=H1.add hc hm' (fun k hk=>by
  have:k=mb':=by simpa [Asn.foot]using hk
  omega)
 refine⟨some mb',rfl,fun b' w3 hn3=>?_⟩
 have H3:=H2.new (cs:=[.slice a' W.length c',.map (some mb')]) EQ4 hn3
 have H4:Hp f w w3 (JV b mb a c W al++(JV b' mb' a' c' W al++[])):=H3.perm (by
  refine AL fun ff gg h0 hc ha hpm=>?_
  simp only[JV,ha,hc,h0];omega)
 obtain⟨f1,H5⟩:=H4.DJ (Q:=UT b W) ⟨hW,mb,a,c,al,hN,rfl⟩
 obtain⟨f2,H6⟩:=(H5.perm List.perm_middle.symm:Hp f w w3 (JV b' mb' a' c' W al++[Aj f1 b W])).DJ (Q:=UT b' W) ⟨hW,mb',a',c',al,hN,rfl⟩
 exact⟨f1,f2,b',rfl,H6.Ae⟩
def BI(l:List ByteArray):List Value:=l.map .string
theorem WZ(h:(Aj f b W).ok w):Calls Tryz.prog 97 #[.pointer (some ⟨b,0,none⟩)] w fun e w'=>∃a c,e=.returned (.slice a W.length c)/\Hp [] w w' [.own 9 1 a W.length c (BI W)]:=by
 apply xAll.ok;unfold xAll.vc;obtain⟨L,⟨x,M,a,c,N,O,rfl⟩,y,_⟩:=EP h;have H:=Hp.CE y;have R:=x.len;have z:Own w 0 167 2 a W.length c (Ai W):=H.ownA m1;refine AA rfl ⟨a,W.length,c,H.lo kSW,?_⟩;clear H;refine AP.mk (fun q s w'=>∃(j:Nat)(l:Option Addr)(m:Nat)(X:List Asn),q=W.length-j/\j<=W.length/\s=((l,j,m),(j:Int))/\Hp [] w w' (.own 9 1 l j m (BI (W.take j))::X)) W.length ⟨0,none,0,[],rfl,by omega,rfl,(Hp.start w).nilS 9 1⟩ ?_;rintro q s A T ⟨j,l,m,X,rfl,U,rfl,H⟩ n;dsimp only;refine AB (fun r=>?_) (fun r=>?_)
 ·have d:j<W.length:=by omega
  have B:W[j]? =some W[j]:=List.getElem?_eq_getElem d;have i:Cells A a (Ai W):=z.cells.chg H.chg (by simp);have g:=PE B;obtain⟨Y,k⟩:=i.some (fun e=>by rw[e]at g;simp at g);refine AA k ⟨⟨by omega,r⟩,W[j],useW W[j],by rw[Int.toNat_natCast];exact i.ldA KY k g rfl,?_⟩;intro C Z o;have D:=H.nw o;refine Hp.sA D KY (cs':=[.string W[j],.int .i64 (useW W[j])]) fun w3 t=>?_;refine⟨W[j],t.lo yStr,?_⟩;intro F w4 p;have u:=t.nw p;refine Hp.app bH (by omega) u.BD EQ4 (Blk.src (P:=Tryz.prog) df (u.blk (.head _)) rfl rfl) (by simp only[maxLen];omega) (by omega) ?_;intro G J w5 K;refine⟨iR,n (W.length-(j+1)) _ _ (by omega) ⟨j+1,G,J,.blk F [.string W[j]] 9::.blk C [.string W[j],.int .i64 (useW W[j])] 167::X,rfl,by omega,rfl,?_⟩⟩
  have e:BI (W.take (j+1))=BI (W.take j)++[.string W[j]]:=by
   rw[BI,BI,take_succ_eq_append_getElem d,map_append];rfl
  rw[e];exact K
 ·have d:j=W.length:=by omega
  subst d;rw[take_length]at H;exact⟨l,m,rfl,Hp.BP (L:=[_]) H⟩
def atW(W:List ByteArray)(n:Int):ByteArray:=if n<1 then none0 else W[n.toNat-1]?.getD none0
theorem X8(h:(Aj f b W).ok w)(n:Int)(hn:n<=1000000):Calls Tryz.prog 157 #[.pointer (some ⟨b,0,none⟩),.int .i64 n] w fun e w'=>e=.returned (.agg #[.string (atW W n),.int .i64 (useW (atW W n))])/\Hp [] w w' []:=by
 apply xAt.ok;unfold xAt.vc;obtain⟨L,⟨C,z,a,c,M,N,rfl⟩,D,_⟩:=EP h;have O:=C.len;have r:=Hp.CE D;have F:Own w 0 167 2 a W.length c (Ai W):=r.ownA m1;have G:Blk w b [.slice a W.length c,.map (some z)] 150:=r.blk (.head _);clear r;intro A p t;have H:=(Hp.start w).nw t;have u:Blk p b [.slice a W.length c,.map (some z)] 150:=G.chg H.chg (by simp);have ld0:Ld Tryz.prog 148 p ⟨b,0,none⟩ (.slice a W.length c):=u.ld kSW.agg rfl
 have j:atW W n=none0->∃d,St Tryz.prog 167 p ⟨A,0,none⟩ (.agg #[.string none0,.int .i64 0]) d/\∃s i,Ld Tryz.prog 167 d ⟨A,0,none⟩ (.agg #[.string s,.int .i64 i])/\Ending.returned (.agg #[.string s,.int .i64 i])=.returned (.agg #[.string (atW W n),.int .i64 (useW (atW W n))])/\Hp [] w d []:=fun e=>by
  refine Hp.sA H KY (cs':=[.string none0,.int .i64 0]) fun J l=>?_;exact⟨none0,0,l.loA KY,by rw[e];rfl,l.drop⟩
 refine AB (fun q=>j (by rw[atW,if_pos q])) (fun q=>AA rfl ⟨a,W.length,c,ld0,AB (fun K=>j ?_) (fun K=>AA rfl ⟨a,W.length,c,ld0,iR,?_⟩)⟩)
 ·rw[atW,if_neg q,List.getElem?_eq_none (by omega)];rfl
 ·obtain⟨k,R⟩:∃k:Nat,n=(k:Int)+1:=⟨n.toNat-1,by omega⟩
  have x:k<W.length:=by omega
  have B:W[k]? =some W[k]:=List.getElem?_eq_getElem x
  have y:atW W n=W[k]:=by
   rw[atW,if_neg q,show n.toNat-1=k by omega,B];rfl
  have m:Cells p a (Ai W):=F.cells.chg H.chg (by simp);have g:=PE B;obtain⟨T,o⟩:=m.some (fun e=>by rw[e]at g;simp at g);rw[y];refine AA o ⟨⟨by omega,by omega⟩,W[k],useW W[k],by rw[show(n-1).toNat=k by omega];exact m.ldA KY o g rfl,?_⟩;refine Hp.sA H KY (cs':=[.string W[k],.int .i64 (useW W[k])]) fun J l=>?_;exact⟨W[k],useW W[k],l.loA KY,rfl,l.drop⟩
theorem xName_spec(h:(Aj f b W).ok w)(n:Int)(hn:n<=1000000):Calls Tryz.prog 198 #[.pointer (some ⟨b,0,none⟩),.int .i64 n] w fun e w'=>e=.returned (.tuple #[.string (atW W n),.bool (decide (atW W n≠none0))])/\Hp [] w w' []:=by
 apply xName.ok;unfold xName.vc;refine AC (X8 h n hn) ?_;rintro _ g ⟨rfl,d⟩;refine⟨_,_,rfl,fun i j a=>?_⟩;have H:=d.nw a;refine Hp.sA H KY (cs':=[.string (atW W n),.int .i64 (useW (atW W n))]) fun k c=>?_;refine⟨atW W n,c.lo yStr,useW (atW W n),c.lo yInt,?_,c.drew.drop⟩
 have:decide (0<useW (atW W n))=decide (atW W n≠none0):=by
  rw[useW];by_cases e:atW W n=none0
  ·rw[if_pos e];simp[e]
  ·rw[if_neg e];simp[e]
 rw[this]
end
end
end Go.Proofs.YtljenkbpnioipaaGreat
namespace Go.Nod
noncomputable section
open Classical
theorem Pv:∀(W:List ByteArray)(n:ByteArray),posW W n<=W.length
 | [],_=>Nat.le_refl _
 |x::r,n=>by
  have:=Pv r n;rw[posW];split<;>simp<;>omega
theorem UV:∀(W:List ByteArray)(n:ByteArray)(k:Nat)(s:ByteArray),W[k]? =some s->k<posW W n->s≠n
 |x::r,n,0,s,h,hk=>by
  rw[List.getElem?_cons_zero]at h;cases h;rw[posW]at hk;intro e;rw[if_pos e]at hk;omega
 |x::r,n,k+1,s,h,hk=>by
  rw[List.getElem?_cons_succ]at h;rw[posW]at hk;by_cases e:x=n
  ·rw[if_pos e]at hk;omega
  ·rw[if_neg e]at hk
   exact UV r n k s h (by omega)
theorem pos_not{W:List ByteArray}{n:ByteArray}(h:n∉W):posW W n=W.length:=by
 induction W with
 |nil=>rfl
 |cons x r a=>
  rw[mem_cons,not_or]at h;rw[posW,if_neg fun e=>h.1 e.symm,a h.2,length_cons]
def addW(W:List ByteArray)(n:ByteArray):List ByteArray:=if posW W none0<W.length then W.set (posW W none0) n else W++[n]
def cntW(W:List ByteArray):Nat:=(W.filter fun s=> !decide (s=none0)).length
def MW:Nat->List ByteArray->List ByteArray
 |0,_=>[]
 |n+1,W=>match W[n]? with
  |some s=>if s=none0 then MW n W else W.take (n+1)
  |none=>W.take (n+1)
def JS(W:List ByteArray)(k:Nat):List ByteArray:=MW W.length (W.set k none0)
theorem Pn{W:List ByteArray}{n:ByteArray}(k:Nat):(addW W n)[k]? =if k=posW W none0 then some n else W[k]? :=by
 rw[addW];have c:=Pv W none0;split
 ·rename_i h
  rw[List.getElem?_set];by_cases e:k=posW W none0
  ·rw[if_pos e.symm,if_pos e,if_pos (by omega)]
  ·rw[if_neg fun h=>e h.symm,if_neg e]
 ·rename_i h
  have a:posW W none0=W.length:=by omega
  rw[a];by_cases e:k=W.length
  ·subst e;simp
  ·rw[if_neg e]
   by_cases b:k<W.length
   ·rw[List.getElem?_append_left b]
   ·rw[List.getElem?_eq_none (by simp;omega),List.getElem?_eq_none (by omega)]
theorem cnt_full{W:List ByteArray}(h:none0∉W):cntW W=W.length:=by
 rw[cntW,filter_eq_self.2];intro s a;have:s≠none0:=fun e=>h (e▸a);simp[this]
theorem WOk.add{W:List ByteArray}(h:WOk W){n:ByteArray}(hn:Cb n)(g:¬hasW W n)(hc:cntW W<4000):WOk (addW W n):=by
 have c:n≠none0:=fun e=>by rw[e]at hn;exact absurd hn.1 (by decide)
 have i:n∉W:=fun l=>g ⟨l,c⟩;have p:=Pv W none0;have d:∀k,W[k]? ≠some n:=fun k a=>i (mem_of_getElem? a);refine⟨fun s m=>?_,fun j k s f a m=>?_,?_,?_⟩
 ·obtain⟨k,a⟩:=List.getElem?_of_mem m
  rw[Pn]at a;split at a
  ·cases a;exact .inr hn
  ·exact h.ok s (mem_of_getElem? a)
 ·rw[Pn]at f a
  split at f<;>split at a
  ·omega
  ·cases f;exact(d _ a).elim
  ·cases a;exact(d _ f).elim
  ·exact h.one j k s f a m
 ·intro e
  rw[List.getLast?_eq_getElem?,Pn]at e;split at e
  ·cases e;exact c rfl
  ·rename_i b
   rw[addW]at e b;split at e
   ·rw[length_set]at e
    exact h.last (by rw[List.getLast?_eq_getElem?];exact e)
   ·rename_i o
    rw[if_neg o]at b;simp at b;omega
 ·rw[addW]
  have:=h.len;split
  ·rw[length_set];exact this
  ·rename_i o
   have:none0∉W:=fun l=>by
    have:=(List.getElem?_eq_some_iff.1 (Xd l)).1;omega
   have:=cnt_full this;simp;omega
theorem Zx:∀(n:Nat)(W:List ByteArray),n<=W.length->∃m,m<=n/\MW n W=W.take m/\(∀k s,m<=k->k<n->W[k]? =some s->s=none0)/\(0<m->W[m-1]? ≠some none0)
 |0,W,_=>⟨0,Nat.le_refl _,by simp[MW],fun k s f c=>by omega,fun h=>by omega⟩
 |n+1,W,h=>by
  have e:W[n]? =some W[n]:=List.getElem?_eq_getElem (by omega);rw[MW,e];dsimp only;by_cases b:W[n]=none0
  ·rw[if_pos b]
   obtain⟨m,f,c,i,j⟩:=Zx n W (by omega);refine⟨m,by omega,c,fun k s d l a=>?_,j⟩;by_cases o:k=n
   ·subst o
    rw[e]at a;cases a;exact b
   ·exact i k s d (by omega) a
  ·rw[if_neg b]
   refine⟨n+1,Nat.le_refl _,rfl,fun k s f c=>by omega,fun _ g=>b ?_⟩;rw[Nat.add_sub_cancel,e]at g;exact Option.some.inj g
theorem drop_at{W:List ByteArray}{k:Nat}(g:k<W.length):∃m,m<=W.length/\JS W k=(W.set k none0).take m/\(∀(j:Nat)(s:ByteArray),s≠none0->((JS W k)[j]? =some s↔W[j]? =some s/\j≠k))/\(JS W k).getLast? ≠some none0:=by
 obtain⟨m,d,c,i,l⟩:=Zx W.length (W.set k none0) (by rw[length_set];exact Nat.le_refl _);refine⟨m,d,c,fun j s f=>?_,?_⟩
 ·rw[JS,c]
  have a:(W.set k none0)[j]? =some s↔W[j]? =some s/\j≠k:=by
   rw[List.getElem?_set];by_cases e:k=j
   ·subst e
    rw[if_pos rfl,if_pos g];exact⟨fun h=>(by cases h;exact(f rfl).elim),fun h=>(h.2 rfl).elim⟩
   ·rw[if_neg e]
    exact⟨fun h=>⟨h,fun h=>e h.symm⟩,fun h=>h.1⟩
  rw[<- a];by_cases n:j<m
  ·rw[List.getElem?_take_of_lt n]
  ·rw[List.getElem?_eq_none (by rw[length_take];omega)]
   refine⟨fun h=>(by cases h),fun h=>?_⟩;have b:=(List.getElem?_eq_some_iff.1 h).1;rw[length_set]at b;exact(f (i j s (by omega) b h)).elim
 ·rw[JS,c]
  intro e;rw[List.getLast?_eq_getElem?,length_take,length_set,Nat.min_eq_left d]at e;by_cases o:0<m
  ·rw[List.getElem?_take_of_lt (by omega)]at e
   exact l o e
  ·have:m=0:=by omega
   subst this;simp at e
theorem WOk.drop{W:List ByteArray}(h:WOk W){k:Nat}(e:k<W.length):WOk (JS W k):=by
 obtain⟨m,n,c,d,f⟩:=drop_at e
 have b:∀s∈JS W k,s=none0\/s∈W:=fun s a=>by
  rw[c]at a;exact(List.mem_or_eq_of_mem_set (List.mem_of_mem_take a)).symm
 refine⟨fun s a=>?_,fun i j s g l a=>?_,f,?_⟩
 ·rcases b s a with a|a
  ·exact .inl a
  ·exact h.ok s a
 ·exact h.one i j s ((d i s a).1 g).1 ((d j s a).1 l).1 a
 ·rw[c,length_take,length_set]
  have:=h.len;omega
end
end Go.Nod
namespace Go.Proofs.YtljenkbpnioipaaGreat
noncomputable section
open Go Go.Vc Go.Nod
theorem F7.add{W:List ByteArray}{al:List (ByteArray×Value)}(h:F7 W al)(q:WOk W){n:ByteArray}(d:n≠none0)(f:¬hasW W n):F7 (addW W n) (aput al n (.int .i64 ((posW W none0:Int)+1))):=by
 have j:=h.get q n;rw[if_neg f]at j;have l:=JE.1 j;rw[LC _ _ _ l];have r:∀k,W[k]? ≠some n:=fun k s=>f ⟨mem_of_getElem? s,d⟩;refine⟨?_,fun m v=>?_⟩
 ·rw[Ef,map_append,nodup_append]
  exact⟨h.apart,by simp,fun a t c o e=>by rw[map_cons,map_nil,mem_singleton]at o;subst o;exact l (e▸t)⟩
 ·rw[mem_append,mem_singleton,h.iff]
  constructor
  ·rintro(⟨k,b,g,i⟩|b)
   ·refine⟨k,?_,g,i⟩
    rw[Pn,if_neg,b];intro e;subst e;have u:=Pv W none0;by_cases p:none0∈W
    ·rw[Xd p]at b;cases b;exact g rfl
    ·rw[pos_not p,List.getElem?_eq_none (Nat.le_refl _)]at b;cases b
   ·cases b
    exact⟨posW W none0,by rw[Pn,if_pos rfl],d,rfl⟩
  ·rintro⟨k,b,g,i⟩
   rw[Pn]at b;split at b
   ·rename_i e
    cases b;exact .inr (by rw[i,e])
   ·exact .inl ⟨k,b,g,i⟩
theorem F7.drop{W:List ByteArray}{al:List (ByteArray×Value)}(h:F7 W al)(p:WOk W){k:Nat}{n:ByteArray}(f:W[k]? =some n)(g:n≠none0):F7 (JS W k) (adel al n):=by
 have i:=(List.getElem?_eq_some_iff.1 f).1;obtain⟨m,r,s,o,t⟩:=drop_at i;rw[UN h.apart];refine⟨?_,fun a v=>?_⟩
 ·have:(acut al n).Sublist al:=List.filter_sublist
  exact h.apart.sublist (this.map _)
 ·rw[acut,mem_filter,h.iff]
  constructor
  ·rintro⟨⟨j,b,c,l⟩,d⟩
   refine⟨j,(o j a c).2 ⟨b,fun e=>?_⟩,c,l⟩;subst e;rw[f]at b;cases b;simp at d
  ·rintro⟨j,b,c,l⟩
   obtain⟨d,q⟩:=(o j a c).1 b;refine⟨⟨j,d,c,l⟩,?_⟩;have:a≠n:=fun e=>q (p.one j k n (e▸d) f g);simp[this]
theorem F7.len{W:List ByteArray}{al:List (ByteArray×Value)}(h:F7 W al)(d:WOk W):al.length=cntW W:=by
 have b:(al.map (·.1)).Perm (W.filter fun s=> !decide (s=none0)):=by
  refine(List.perm_ext_iff_of_nodup h.apart ?_).2 fun n=>?_
  ·rw[List.Nodup,List.pairwise_filter,List.pairwise_iff_getElem]
   intro i j f g l m r e;have:=d.one i j W[i] (List.getElem?_eq_getElem f) (by rw[List.getElem?_eq_getElem g,e]) (by simpa using m);omega
  ·rw[mem_map,mem_filter]
   constructor
   ·rintro⟨⟨a,v⟩,c,rfl⟩
    obtain⟨k,b,o,_⟩:=(h.iff a v).1 c;exact⟨mem_of_getElem? b,by simp[o]⟩
   ·rintro⟨c,p⟩
    obtain⟨k,q⟩:=List.getElem?_of_mem c;exact⟨(n,_),(h.iff n _).2 ⟨k,q,by simpa using p,rfl⟩,rfl⟩
 have:=b.length_eq;rw[length_map]at this;exact this
end
end Go.Proofs.YtljenkbpnioipaaGreat
namespace Go.Vc
theorem Hp.delS{P:Program}{B:List Nat}{w0 w w':World}{L:List Asn}{t h i:TypeId}{z:Value}{b:Nat}{al:List (ByteArray×Value)}(T:MapT P GI t h i z){g:Array TypeId}{ty:TypeId}(d:g[0]? =some t)(H:Hp B w0 w (.smap b al::L))(e:Eqw w w'){x:ByteArray}{G:World->Prop}
  (j:∀w1,Hp B w0 w1 (.smap b (adel al x)::L)->G w1):∃w1,Del P g ty w' (.map (some b)) (.string x) w1/\G w1:=by
 obtain⟨w1,l,m,n⟩:=Zy (ty:=ty) T d ((H.go e).ok _ (.head _)) x;exact⟨w1,l,j w1 ((H.go e).set n m fun k o=>.inl o)⟩
end Go.Vc
namespace Go.Nod
theorem pos_none_of(W:List ByteArray)(n:ByteArray)(j:Nat)(h:∀k<j,∀s,W[k]? =some s->s≠n)(d:j<=W.length):j<=posW W n:=by
 induction W generalizing j with
 |nil=>
  have:j=0:=by simpa using d
  omega
 |cons x r e=>
  cases j with
  |zero=>omega
  |succ j=>
   have g:=h 0 (by omega) x rfl;rw[posW,if_neg g];have:=e j (fun k l s i=>h (k+1) (by omega) s (by rw[List.getElem?_cons_succ];exact i)) (by simpa using d);omega
end Go.Nod
namespace Go.Proofs.YtljenkbpnioipaaGreat
noncomputable section
open Go Go.Vc Go.Nod
theorem JH(s:ByteArray):useW s=0↔s=none0:=by
 rw[useW];by_cases e:s=none0
 ·rw[if_pos e];exact⟨fun _=>e,fun _=>rfl⟩
 ·rw[if_neg e];exact⟨fun h=>by omega,fun h=>(e h).elim⟩
section
variable{b mb:Nat}{a:Option Addr}{c:Nat}{W:List ByteArray}{al:List (ByteArray×Value)}{w:World}
theorem xFree_w(g:Std w (JV b mb a c W al))(A:W.length<=4000):Calls Tryz.prog 158 #[.pointer (some ⟨b,0,none⟩)] w fun e w'=>e=.returned (.int .i64 ((posW W none0:Int)+1))/\w'=w:=by
 apply xFree.ok;unfold xFree.vc;have H:=Hp.CE g;have ld0:Ld Tryz.prog 148 w ⟨b,0,none⟩ (.slice a W.length c):=H.lo kSW;have p:Own w 0 167 2 a W.length c (Ai W):=H.ownA m1;refine AP.mk (fun q s w'=>∃j:Nat,q=W.length-j/\j<=W.length/\s=(j:Int)+1/\(∀k<j,∀s,W[k]? =some s->s≠none0)/\w'=w) W.length ⟨0,rfl,by omega,rfl,fun k r=>by omega,rfl⟩ ?_;rintro q s _ B ⟨j,rfl,t,rfl,d,rfl⟩ n;have u:=pos_none_of W none0 j d t;refine AA rfl ⟨a,W.length,c,ld0,AB (fun x=>AA rfl ⟨a,W.length,c,ld0,iR,?_⟩) (fun x=>?_)⟩
 ·have i:j<W.length:=by omega
  have m:W[j]? =some W[j]:=List.getElem?_eq_getElem i;obtain⟨C,l,_⟩:=p.cells _ _ (GH m);refine AA l ⟨⟨by omega,by omega⟩,useW W[j],?_,AB (fun o=>?_) (fun o=>⟨iR,?_⟩)⟩
  ·rw[add_add,show((j:Int)+1-1).toNat=j by omega]
   exact p.cells.ld yInt l (GH m)
  ·have y:=(JH _).1 o
   have:posW W none0=j:=by
    refine Nat.le_antisymm (Nat.not_lt.1 fun z=>?_) u;exact UV W none0 j W[j] m z y
   exact⟨by rw[this],rfl⟩
  ·refine n (W.length-(j+1)) _ _ (by omega) ⟨j+1,rfl,by omega,rfl,fun k r s g=>?_,rfl⟩
   by_cases e:k=j
   ·subst e
    rw[m]at g;cases g;exact fun h=>o ((JH _).2 h)
   ·exact d k (by omega) s g
 ·have i:j=W.length:=by omega
  have:=Pv W none0;exact⟨by rw[show posW W none0=j by omega],rfl⟩
end
section
variable{f:List Nat}{b:Nat}{W:List ByteArray}{w:World}
def addR(W:List ByteArray)(n:ByteArray):List ByteArray×Int×Int:=open Classical in if¬Cb n then(W,0,63)else if 4000<=cntW W then(W,0,150)else(addW W n,(posW W none0:Int)+1,0)
theorem xAdd_spec(h:(Aj f b W).ok w)(n:ByteArray)(l:¬hasW W n):Calls Tryz.prog 101 #[.pointer (some ⟨b,0,none⟩),.string n] w fun e w'=>∃F,e=.returned (.tuple #[.int .i64 (addR W n).2.1,.int .i64 (addR W n).2.2])/\Hp f w w' [Aj F b (addR W n).1]:=by
 apply xAdd.ok;unfold xAdd.vc
 have q:Hp f w w [Aj f b W]:=Be h
 obtain⟨M,⟨r,mb,a,c,al,G,rfl⟩,H,hf⟩:=q.unpack
 have hl:=r.len
 have K:=G.get r n
 rw[if_neg l]at K
 have s:=G.len r
 refine AA rfl ⟨some mb,by rw[add_lit];exact H.ld (o:=1) (cs:=[.slice a W.length c,.map (some mb)]) EQ4 kMSI (.head _) rfl,0,false,H.Wl IG EQ4 (.tail _ (.tail _ (.head _))) (by rw[K];rfl) (by rw[K];rfl),?_⟩
 refine AC (IE n w) ?_
 rintro _ w1 ⟨rfl,Hn⟩
 replace q:=q.ext0 Hn
 replace H:=H.ext0 Hn
 refine⟨_,rfl,F5 (fun j=>⟨f,by rw[addR,if_pos j],by rw[addR,if_pos j];exact q⟩) (fun j=>BA (x:=_) ?_)⟩
 have hm:MapAt GI w1 mb al:=H.ok _ (.tail _ (.tail _ (.head _)))
 refine AA rfl ⟨some mb,by rw[add_lit];exact H.ld (o:=1) (cs:=[.slice a W.length c,.map (some mb)]) EQ4 kMSI (.head _) rfl,_,run_len_map IG.und hm,?_⟩
 rw[s]
 refine AB (fun h2=>⟨f,by rw[addR,if_neg (fun h=>h j),if_pos (by omega)],by rw[addR,if_neg (fun h=>h j),if_pos (by omega)];exact q⟩) (fun h2=>?_)
 have hR:addR W n=(addW W n,(posW W none0:Int)+1,0):=by rw[addR,if_neg (fun h=>h j),if_neg (by omega)]
 rw[hR]
 have t:n≠none0:=fun e=>by rw[e]at j;exact absurd j.1 (by decide)
 have N:=r.add j l (by omega)
 have u:=G.add r t l
 refine AC (xFree_w H.std1 hl) ?_
 rintro _ _ ⟨rfl,rfl⟩
 refine⟨_,rfl,?_⟩
 have hp:=Pv W none0
 obtain⟨p,y⟩:∃p,p=posW W none0:=⟨_,rfl⟩
 rw[<- y]at hp u⊢
 obtain⟨V,B⟩:∃V,V=if p<W.length then W else W++[none0]:=⟨_,rfl⟩
 have O:p<V.length/\V.length<=4001:=by
  rw[B];split
  ·omega
  ·simp;omega
 have z:V.set p n=addW W n:=by
  rw[B,addW,<- y]
  split
  ·rfl
  ·have:p=W.length:=by omega
   subst this;simp
 refine Am.mk (fun _ w'=>∃(d:Option Addr)(i:Nat)(X:List Asn),Hp f w w' (.blk b [.slice d V.length i,.map (some mb)] 150::.own 167 2 d V.length i (Ai V)::.smap mb al::X)) ?_ ?_
 rotate_left
 ·intro J hJ
  refine AA rfl ⟨a,W.length,c,H.ld (o:=0) (cs:=[.slice a W.length c,.map (some mb)]) EQ4 kSW (.head _) rfl,AB (fun h3=>?_) (fun h3=>?_)⟩
  ·have k:V=W++[none0]:=by rw[B,if_neg (by omega)]
   refine AA rfl ⟨a,W.length,c,H.ld (o:=0) (cs:=[.slice a W.length c,.map (some mb)]) EQ4 kSW (.head _) rfl,fun xb w2 R=>?_⟩
   have m:=H.new (cs:=[.string none0,.int .i64 0]) EQ4 R
   refine Hp.app bg (by omega) m.BD EQ4 (Blk.src (P:=Tryz.prog) dG (m.blk (.head _)) rfl rfl) (by simp only[maxLen];omega) (by omega) ?_
   intro d i w3 C
   refine AA rfl (Hp.st (o:=0) C.BD EQ4 kSW rfl rfl (by simp) (cs':=[.slice d (W.length+1) i,.map (some mb)]) rfl fun w4 D=>hJ _ _ ⟨d,i,[.blk xb [.string none0,.int .i64 0] 167],D.perm ?_⟩)
   have T:V.length=W.length+1:=by rw[k];simp
   have e2:Ai V=Ai W++[.string none0,.int .i64 0]:=by rw[k,KA];rfl
   refine AL fun ff gg U Y Z aa=>?_
   simp only[JV,T,e2,Z,Y,U,append_eq,append_nil,nil_append];omega
  ·have k:V=W:=by rw[B,if_pos (by omega)]
   refine hJ _ _ ⟨a,c,[],?_⟩
   rw[k]
   rw[append_nil]at H
   exact H
 rintro _ w2 ⟨d,i,X,m⟩
 refine AA rfl ⟨d,V.length,i,m.ld (o:=0) (cs:=[.slice d V.length i,.map (some mb)]) EQ4 kSW (.head _) rfl,DD.2 (by omega),?_⟩
 have ho:Own w2 0 167 2 d V.length i (Ai V):=m.ownA (.tail _ (.head _))
 obtain⟨g,A⟩:=ho.CV (by omega)
 refine AA A ⟨⟨by omega,by omega⟩,?_⟩
 rw[show((p:Int)+1-1).toNat=p by omega]
 have ab:useW n=1:=by rw[useW,if_neg t]
 refine Hp.stO (v:=.agg #[.string n,.int .i64 1]) (o:=p*2) m.Ae EQ4 A KY.size rfl (by rw[E8];simp[Value.cells];omega) (xs':=Ai (addW W n)) (by rw[<- z,<- NM V p n O.1,ab];rfl) fun w3 C=>?_
 refine AA rfl ⟨some mb,by rw[add_lit];exact C.ld (o:=1) (cs:=[.slice d V.length i,.map (some mb)]) EQ4 kMSI (.tail _ (.head _)) rfl,?_⟩
 refine Hp.mupS IG C.BD EQ4 fun w4 D=>?_
 have T:V.length=(addW W n).length:=by rw[<- z,length_set]
 rw[T]at D
 have H5:Hp f w w4 (JV b mb d i (addW W n) (aput al n (.int .i64 ((p:Int)+1)))++X):=D.perm (by
  refine AL fun ff gg U Y Z aa=>?_
  simp only[I,JV,Z,Y,U];omega)
 obtain⟨F,H6⟩:=H5.DJ (Q:=UT b (addW W n)) ⟨N,mb,d,i,_,u,rfl⟩
 exact⟨F,rfl,Hp.BP (L:=[_]) H6⟩
theorem xDrop_spec(h:(Aj f b W).ok w)(k:Nat)(n:ByteArray)(r:W[k]? =some n)(s:n≠none0):Calls Tryz.prog 99 #[.pointer (some ⟨b,0,none⟩),.int .i64 ((k:Int)+1)] w fun e w'=>∃t,e=.returned (.bool true)/\Hp f w w' [Aj t b (JS W k)]:=by
 apply xDrop.ok;unfold xDrop.vc;have H0:Hp f w w [Aj f b W]:=Be h;have x:=(List.getElem?_eq_some_iff.1 r).1
 have hl:W.length<=4000:=by
  obtain⟨L,⟨T,_⟩,_⟩:=EP h;exact T.len
 have Y:atW W ((k:Int)+1)=n:=by
  rw[atW,if_neg (by omega),show((k:Int)+1).toNat-1=k by omega,r];rfl
 have y:useW n=1:=by rw[useW,if_neg s]
 have A:=X8 h ((k:Int)+1) (by omega);rw[Y,y]at A;refine AC A ?_;rintro _ w1 ⟨rfl,H1⟩;obtain⟨M,⟨T,mb,a,c,al,hN,rfl⟩,H,hf⟩:=(H0.ext0 H1).unpack;refine⟨_,_,rfl,fun xb w2 Z=>?_⟩;have H2:=H.nw Z;refine Hp.sA H2 KY (cs':=[.string n,.int .i64 1]) fun w3 B=>?_;clear H H0 H1 H2;refine⟨1,B.lo yInt,AB (fun h1=>by omega) (fun _=>?_)⟩;have ho:Own w3 0 167 2 a W.length c (Ai W):=B.ownA m2;obtain⟨g,p⟩:=ho.CV (by omega);have hu:=GH r;rw[y]at hu;refine AA rfl ⟨a,W.length,c,B.lo kSW,iR,AA p ⟨⟨by omega,by omega⟩,1,?_,by exact iR,AA p ⟨⟨by omega,by omega⟩,?_⟩⟩⟩
 ·rw[add_add,show((k:Int)+1-1).toNat=k by omega]
  exact ho.cells.ld yInt p hu
 rw[add_add,show((k:Int)+1-1).toNat=k by omega];refine Hp.stO1 (o:=k*2+1) B.BD EQ4 yInt p rfl rfl (by rw[E8];omega) fun w4 C=>?_;clear B ho;refine⟨1,C.lo yInt,AB (fun h1=>by omega) (fun _=>?_)⟩;refine AA rfl ⟨some mb,by rw[add_lit];exact C.lo kMSI,n,C.lo yStr,?_⟩;refine Hp.delS IG rfl C.D8 EQ4 fun w5 H5=>?_;clear C;refine AA rfl ⟨a,W.length,c,H5.lo kSW,iR,AA p ⟨⟨by omega,by omega⟩,?_⟩⟩
 have aa:over [Value.string none0,.int .i64 0] (k*2) ((Ai W).set (k*2+1) (.int .i64 (1-1)))=Ai (W.set k none0):=by
  rw[<- NM W k none0 x];have e0:useW none0=0:=rfl
  have ab:∀(xs:List Value)(i:Nat)(u v z:Value),((xs.set (i+1) u).set i v).set (i+1) z=(xs.set i v).set (i+1) z:=fun xs i u v z=>by rw[List.set_comm u v (by omega),List.set_set]
  have am:=E8 W;rw[e0,Dp _ _ _ _ (by rw[length_set];omega),Dp _ _ _ _ (by rw[length_set,length_set];omega),Dp _ _ _ _ (by omega),Dp _ _ _ _ (by rw[length_set];omega),CX,CX,ab]
 refine Hp.stO (v:=.agg #[.string none0,.int .i64 0]) (o:=k*2) H5.Ae EQ4 p KY.size rfl (by rw[length_set,E8];simp[Value.cells];omega) (xs':=Ai (W.set k none0)) aa fun w6 H6=>?_;clear H5;obtain⟨V,hV⟩:∃V,V=W.set k none0:=⟨_,rfl⟩
 have G:V.length=W.length:=by rw[hV,length_set]
 obtain⟨D,hD⟩:∃D,D=JS W k:=⟨_,rfl⟩
 have ac:MW V.length V=D:=by rw[hD,JS,hV,length_set]
 rw[<- hV,<- G]at H6;have J:=hN.drop T r s;have K:=T.drop x;rw[<- hD]at J K⊢;refine AP.mk (fun q _ w'=>∃(j c:Nat),q=j/\j<=V.length/\MW j V=D/\Hp f w w' (.blk b [.slice a j c,.map (some mb)] 150::.own 167 2 a j c (Ai (V.take j))::.smap mb (adel al n)::[.blk xb [.string n,.int .i64 1] 167])) V.length ⟨V.length,c,rfl,Nat.le_refl _,ac,?_⟩ ?_
 ·rw[take_length]
  refine H6.perm ?_;refine AL fun ff gg h0 hc ha an=>?_;simp only[G,ha,hc,h0,append_eq,append_nil,nil_append];omega
 clear H6;rintro q _ N nx ⟨j,c,hq,hj,l,U⟩ ad
 have done:D=V.take j->∃t,Ending.returned (.bool true)=.returned (.bool true)/\Hp f w N.drew [Aj t b D]:=fun e=>by
  have ae:D.length=j:=by rw[e,length_take];omega
  have X:Hp f w N.drew (JV b mb a c D (adel al n)++[.blk xb [.string n,.int .i64 1] 167]):=by
   rw[JV,ae,e];exact U.drew
  obtain⟨t,H9⟩:=X.DJ (Q:=UT b D) ⟨K,mb,a,c,_,J,rfl⟩;exact⟨t,rfl,Hp.BP (L:=[_]) H9⟩
 have m:∀{W':World},Eqw N W'->Ld Tryz.prog 148 W' ⟨b,0,none⟩ (.slice a j c):=fun he=>U.ld (o:=0) (cs:=[.slice a j c,.map (some mb)]) he kSW (.head _) rfl;refine AA rfl ⟨a,j,c,m EQ4,AB (fun h1=>?_) (fun h1=>?_)⟩
 ·obtain⟨d,rfl⟩:∃d,j=d+1:=⟨j-1,by omega⟩
  have hx:V[d]? =some V[d]:=List.getElem?_eq_getElem (by omega)
  have af:(V.take (d+1))[d]? =some V[d]:=by rw[List.getElem?_take_of_lt (by omega)];exact hx
  have O:Own N 0 167 2 a (d+1) c (Ai (V.take (d+1))):=U.ownA m1;have ag:Cells N.drew a (Ai (V.take (d+1))):=O.cells;have ao:=O.le
  have e1:(((d+1:Nat):Int)-1).toNat=d:=by omega
  refine AA rfl ⟨a,d+1,c,m EQ4,AA rfl ⟨a,d+1,c,m EQ4,iR,AA p ⟨⟨by omega,by omega⟩,useW V[d],?_,AB (fun h2=>?_) (fun h2=>?_)⟩⟩⟩
  ·rw[add_add,e1];exact ag.ld yInt p (GH af)
  ·have h3:=(JH _).1 h2
   rw[MW,hx]at l;dsimp only at l;rw[if_pos h3]at l;refine AA rfl ⟨a,d+1,c,m EQ4,AA rfl ⟨a,d+1,c,m EQ4,iR,AA rfl ⟨a,d+1,c,m EQ4,iR,⟨by omega,by omega,by omega⟩,AA rfl ?_⟩⟩⟩;rw[e1];refine Hp.s1 U.drew.drew kSW (cs':=[.slice a d d,.map (some mb)]) fun w8 X=>?_;have ah:Own w8 0 167 2 a (d+1) c (Ai (V.take (d+1))):=X.ownA m1;have R:=ah.only (F:=d) (by omega)
   have e2:(Ai (V.take (d+1))).take (d*2)=Ai (V.take d):=by
    rw[take_succ_eq_append_getElem (by omega),KA]
    have:(Ai (V.take d)).length=d*2:=by rw[E8,length_take];omega
    rw[<- this,List.take_left]
   rw[e2]at R;refine ad d _ _ (by omega) ⟨d,d,rfl,by omega,l,?_⟩;exact(Hp.set (a':=.own 167 2 a d d (Ai (V.take d))) X.Ae (Chg.refl _ _) R fun k r=>.inl r).Ae
  ·refine done ?_
   rw[MW,hx]at l;dsimp only at l;rw[if_neg (fun h=>h2 ((JH _).2 h))]at l;exact l.symm
 ·have ak:j=0:=by omega
  subst ak;rw[MW]at l;exact done (by rw[<- l];simp)
end
end
noncomputable section
open Go Go.Vc Go.Nod
theorem Df.go{S b:List Nat}{w w':World}{L:List Asn}{a:Option Addr}{n:Nat}{l:List It}{ss:List Sl3}(h:Df S w a n l ss)(H:Hp S w w' L)(c:∀k∈b,k∈feet L):Df b w' a n l ss:=
 ⟨fun W d=>h.rd W (H.chgT (d.more c)),h.len,h.sls,h.small⟩
def opC(o:OpP)(la:Option Addr)(n lc:Nat):List Value:=[.int .i64 o.kind,.int .i64 o.id,.int .i64 o.to,.int .i64 o.at_,.string o.name,.string o.text,.slice la n lc]
theorem nEdit_spec{f:List Nat}{b:Nat}{T:Tr}{w:World}(h:(AU f b T).ok w)(o:OpP)(g:Option Addr)(n m:Nat)(ss:List Sl3)(M:Df f w g n o.l ss)(y:n<=140737488355328)(L:o.text.size<=maxLen):
  Calls Tryz.prog 54 #[.pointer (some ⟨b,0,none⟩),.agg (opC o g n m).toArray] w fun e w'=>∃c,e=.returned (.tuple #[.int .i64 (T.edit o).2.1,.int .i64 (T.edit o).2.2])/\Hp f w w' [AU c b (T.edit o).1]:=by
 apply nEdit.ok;unfold nEdit.vc;have N:Hp f w w [AU f b T]:=Be h;intro F A G;have H:=N.new (cs:=opC o g n m) EQ4 G;have B:Df f A g n o.l ss:=M.go H fun k O=>Dl.2 ⟨AU f b T,.tail _ (.head _),O⟩;have p:=H.drop;have d:(AU f b T).ok A:=p.ok _ (.head _);have a:∀{j:Nat}{z:Int},(opC o g n m)[j]? =some (.int .i64 z)->Ld Tryz.prog 3 A ⟨F,j,none⟩ (.int .i64 z):=fun J=>H.ld (cs:=opC o g n m) EQ4 yInt (.head _) J;have q:∀{j:Nat}{z:ByteArray},(opC o g n m)[j]? =some (.string z)->Ld Tryz.prog 9 A ⟨F,j,none⟩ (.string z):=fun J=>H.ld (cs:=opC o g n m) EQ4 yStr (.head _) J;have ldL:Ld Tryz.prog 34 A ⟨F,6,none⟩ (.slice g n m):=H.lo nSIt;refine⟨o.kind,a rfl,AB (fun r=>?_) (fun r=>AB (fun s=>?_) (fun s=>AB (fun t=>?_) (fun t=>AB (fun u=>?_) (fun u=>AB (fun C=>?_) (fun C=>AB (fun D=>?_) (fun D=>AB (fun K=>?_) (fun K=>?_)))))))⟩
 ·have e:T.edit o=T.load o.l:=by rw[Tr.edit,if_pos r]
  refine⟨g,n,m,ldL,AC (gLoad_spec d g n m o.l ss B) ?_⟩;rintro _ x ⟨c,rfl,i⟩;exact⟨_,_,rfl,c,by rw[e],by rw[e];exact p.Ba i⟩
 ·have e:T.edit o=T.insert o.id o.at_ o.l:=by rw[Tr.edit,if_neg r,if_pos s]
  refine⟨o.id,a rfl,o.at_,a rfl,g,n,m,ldL,AC (gInsert_spec d o.id o.at_ g n m o.l ss B y) ?_⟩;rintro _ x ⟨c,rfl,i⟩;exact⟨_,_,rfl,c,by rw[e],by rw[e];exact p.Ba i⟩
 ·have e:T.edit o=((T.delete o.id).1,0,(T.delete o.id).2):=by rw[Tr.edit,if_neg r,if_neg s,if_pos t]
  refine⟨o.id,a rfl,AC (gDelete_spec d o.id) ?_⟩;rintro _ x ⟨c,rfl,i⟩;exact⟨_,rfl,c,by rw[e],by rw[e];exact p.Ba i⟩
 ·have e:T.edit o=((T.move o.id o.to o.at_).1,0,(T.move o.id o.to o.at_).2):=by rw[Tr.edit,if_neg r,if_neg s,if_neg t,if_pos u]
  refine⟨o.id,a rfl,o.to,a rfl,o.at_,a rfl,AC (gMove_spec d o.id o.to o.at_) ?_⟩;rintro _ x ⟨c,rfl,i⟩;exact⟨_,rfl,c,by rw[e],by rw[e];exact p.Ba i⟩
 ·have e:T.edit o=((T.Du o.id (o.name,o.text)).1,0,(T.Du o.id (o.name,o.text)).2):=by rw[Tr.edit,if_neg r,if_neg s,if_neg t,if_neg u,if_pos C]
  refine⟨o.id,a rfl,o.name,q rfl,o.text,q rfl,AC (gSetAttr_spec d o.id o.name o.text L) ?_⟩;rintro _ x ⟨c,rfl,i⟩;exact⟨_,rfl,c,by rw[e],by rw[e];exact p.Ba i⟩
 ·have e:T.edit o=((T.Ed o.id o.name).1,0,(T.Ed o.id o.name).2):=by rw[Tr.edit,if_neg r,if_neg s,if_neg t,if_neg u,if_neg C,if_pos D]
  refine⟨o.id,a rfl,o.name,q rfl,AC (gDelAttr_spec d o.id o.name) ?_⟩;rintro _ x ⟨c,rfl,i⟩;exact⟨_,rfl,c,by rw[e],by rw[e];exact p.Ba i⟩
 ·have e:T.edit o=((T.Eu o.id o.text).1,0,(T.Eu o.id o.text).2):=by rw[Tr.edit,if_neg r,if_neg s,if_neg t,if_neg u,if_neg C,if_neg D,if_pos K]
  refine⟨o.id,a rfl,o.text,q rfl,AC (gSetText_spec d o.id o.text L) ?_⟩;rintro _ x ⟨c,rfl,i⟩;exact⟨_,rfl,c,by rw[e],by rw[e];exact p.Ba i⟩
 ·have e:T.edit o=(T,0,1):=by rw[Tr.edit,if_neg r,if_neg s,if_neg t,if_neg u,if_neg C,if_neg D,if_neg K]
  exact⟨f,by rw[e],by rw[e];exact p⟩
def CJ(s:ByteArray):ByteArray:=if s=none0 then none0 else if sb s 0=119 then s.extract 0 (min s.size 3)else if sb s 0=110 then s.extract 0 (min s.size 6)else s.extract 0 1
theorem Qo(s:ByteArray)(w:World):Calls Tryz.prog 113 #[.string s] w fun e w'=>e=.returned (.string (CJ s))/\w'=w:=by
 apply nAbout.ok;unfold nAbout.vc;refine AB (fun h=>⟨by rw[CJ,if_pos h],rfl⟩) (fun h=>?_);have c:0<s.size:=Nat.pos_of_ne_zero fun e=>h (Em.2 (List.eq_nil_of_length_eq_zero (by rw[BF];exact e)));refine⟨⟨by omega,by omega⟩,AB (fun a=>⟨⟨by omega,by omega⟩,?_,rfl⟩) (fun a=>⟨⟨by omega,by omega⟩,AB (fun b=>⟨⟨by omega,by omega⟩,?_,rfl⟩) (fun b=>⟨⟨by omega,by omega⟩,?_,rfl⟩)⟩)⟩
 ·rw[CJ,if_neg h,if_pos a,show(min (s.size:Int) 3).toNat=min s.size 3 by omega]
 ·rw[CJ,if_neg h,if_neg a,if_pos b,show(min (s.size:Int) 6).toNat=min s.size 6 by omega]
 ·rw[CJ,if_neg h,if_neg a,if_neg b];rfl
end
end Go.Proofs.YtljenkbpnioipaaGreat
namespace Go.Nod
abbrev SM:=List (Int×Sp)
def sget:SM->Int->Option Sp
 | [],_=>none
 |(x,s)::r,k=>if k=x then some s else sget r k
def sput:SM->Int->Sp->SM
 | [],k,v=>[(k,v)]
 |(x,s)::r,k,v=>if k=x then(x,v)::r else(x,s)::sput r k v
def sdel:SM->Int->SM
 | [],_=>[]
 |(x,s)::r,k=>if k=x then r else(x,s)::sdel r k
theorem LP:∀(l:SM)(k x:Int)(v:Sp),sget (sput l k v) x=if x=k then some v else sget l x
 | [],k,x,v=>rfl
 |(y,u)::r,k,x,v=>by
  have b:=LP r k x v;rw[sput];by_cases h:k=y
  ·subst h
   rw[if_pos rfl,sget,sget];by_cases a:x=k<;>simp[a]
  ·rw[if_neg h,sget,sget,b]
   by_cases a:x=y
   ·subst a;rw[if_pos rfl,if_pos rfl,if_neg fun e=>h e.symm]
   ·rw[if_neg a,if_neg a]
theorem sput_keys:∀(l:SM)(k:Int)(v:Sp),(sput l k v).map (·.1)=if k∈l.map (·.1)then l.map (·.1)else l.map (·.1)++[k]
 | [],k,v=>rfl
 |(y,u)::r,k,v=>by
  have b:=sput_keys r k v;rw[sput];by_cases h:k=y
  ·rw[if_pos h,if_pos (by rw[h];exact .head _)];rfl
  ·rw[if_neg h,map_cons,b,map_cons]
   by_cases a:k∈r.map (·.1)
   ·rw[if_pos a,if_pos (.tail _ a)]
   ·rw[if_neg a,if_neg fun c=>(mem_cons.1 c).elim h a];rfl
theorem sdel_keys:∀(l:SM)(k:Int),((sdel l k).map (·.1)).Sublist (l.map (·.1))
 | [],k=>.slnil
 |(y,u)::r,k=>by
  rw[sdel];by_cases h:k=y
  ·rw[if_pos h];exact List.sublist_cons_self _ _
  ·rw[if_neg h];exact(sdel_keys r k).cons_cons _
abbrev Bd:=Int×Bool
def atB(s:SM)(b:Bd):Int:=match sget s b.1 with
 |none=> -1
 |some x=>if b.2 then x.2 else x.1
def layB(s:SM)(b:Bd)(n:Int):SM:=sput s b.1 (if b.2 then(((sget s b.1).getD (0,0)).1,n)else(n,((sget s b.1).getD (0,0)).2))
end Go.Nod
namespace Go.Proofs.YtljenkbpnioipaaGreat
noncomputable section
open Go Go.Vc Go.Nod
def spV(s:Sp):Value:=.agg #[.int .i64 s.1,.int .i64 s.2]
def smC(l:SM):List (Int×Value):=l.map fun p=>(p.1,spV p.2)
theorem J8:∀(l:SM)(k:Int),aget (smC l) k=(sget l k).map spV
 | [],k=>rfl
 |(x,s)::r,k=>by
  have a:=J8 r k;rw[sget];show(if k=x then some (spV s)else aget (smC r) k)=_;by_cases h:k=x
  ·rw[if_pos h,if_pos h];rfl
  ·rw[if_neg h,if_neg h,a]
theorem Lp:∀(l:SM)(k:Int)(v:Sp),aput (smC l) k (spV v)=smC (sput l k v)
 | [],k,v=>rfl
 |(x,s)::r,k,v=>by
  have a:=Lp r k v;rw[sput];show(if k=x then(x,spV v)::smC r else(x,spV s)::aput (smC r) k (spV v))=_;by_cases h:k=x
  ·rw[if_pos h,if_pos h];rfl
  ·rw[if_neg h,if_neg h,a];rfl
theorem aC:∀(l:SM)(k:Int),adel (smC l) k=smC (sdel l k)
 | [],k=>rfl
 |(x,s)::r,k=>by
  have a:=aC r k;rw[sdel];show(if k=x then smC r else(x,spV s)::adel (smC r) k)=_;by_cases h:k=x
  ·rw[if_pos h,if_pos h]
  ·rw[if_neg h,if_neg h,a];rfl
theorem IZ:MapT Tryz.prog (DF .i64) 80 3 62 (.agg #[.int .i64 0,.int .i64 0]):=⟨by kernel_rfl,by kernel_rfl,by kernel_rfl⟩
theorem ax:Agg Tryz.prog 248 2:=Ci (by kernel_rfl)
theorem bz:Scl Tryz.prog 4:=BK (by kernel_rfl)
def bdV(b:Bd):Value:=.agg #[.int .i64 b.1,.bool b.2]
theorem YW(mb:Nat)(s:SM)(d:Bd)(w:World)(h:MapAt (DF .i64) w mb (smC s)):Calls Tryz.prog 161 #[.map (some mb),bdV d] w fun e w'=>e=.returned (.int .i64 (atB s d))/\Hp [] w w' []:=by
 apply nAt.ok;unfold nAt.vc;have q:mb<w.heap.size:=h.lt;intro r m f;have H:=(Hp.start w).nw f;have n:MapAt (DF .i64) m mb (smC s):=h.chg H.chg (by simp);have l:=J8 s d.1;obtain⟨z,g⟩:∃z:Sp,z=(sget s d.1).getD (0,0):=⟨_,rfl⟩
 have i:(aget (smC s) d.1).getD (.agg #[.int .i64 0,.int .i64 0])=.agg #[.int .i64 z.1,.int .i64 z.2]:=by
  rw[l,g];cases sget s d.1<;>rfl
 have c:=(Le IZ n d.1).2;rw[i]at c;refine⟨d.1,H.lo yInt,z.1,z.2,(aget (smC s) d.1).isSome,c,fun t u j=>?_⟩;have o:=H.nw j;refine Hp.sA o EK (cs':=[.int .i64 z.1,.int .i64 z.2]) fun y b=>?_
 have p:(aget (smC s) d.1).isSome=(sget s d.1).isSome:=by rw[l,Option.isSome_map]
 rw[p];refine Gp (fun a=>⟨?_,b.drop.drop⟩) (fun a=>⟨d.2,b.lo bz,F6 (fun k=>⟨z.2,b.lo yInt,?_,b.drop.drop⟩) (fun k=>⟨z.1,b.lo yInt,?_,b.drop.drop⟩)⟩)
 ·rw[atB]
  cases e:sget s d.1 with
  |none=>rfl
  |some x=>rw[e]at a;cases a
 ·rw[atB,g]
  cases e:sget s d.1 with
  |none=>rw[e]at a;cases a
  |some x=>dsimp only;rw[if_pos k];rfl
 ·rw[atB,g]
  cases e:sget s d.1 with
  |none=>rw[e]at a;cases a
  |some x=>dsimp only;rw[if_neg (by rw[k];simp)];rfl
theorem nLay_spec{B:List Nat}{w0:World}{L:List Asn}(mb:Nat)(s:SM)(d:Bd)(n:Int)(w:World)(r:Hp B w0 w (.imap mb .i64 (smC s)::L)):Calls Tryz.prog 163 #[.map (some mb),bdV d,.int .i64 n] w fun e w'=>e=.returned (.tuple #[])/\Hp B w0 w' (.imap mb .i64 (smC (layB s d n))::L):=by
 apply nLay.ok;unfold nLay.vc;intro p C c;have H:=r.nw c;have t:=J8 s d.1;obtain⟨z,f⟩:∃z:Sp,z=(sget s d.1).getD (0,0):=⟨_,rfl⟩
 have g:(aget (smC s) d.1).getD (.agg #[.int .i64 0,.int .i64 0])=.agg #[.int .i64 z.1,.int .i64 z.2]:=by
  rw[t,f];cases sget s d.1<;>rfl
 refine⟨d.1,H.lo yInt,z.1,z.2,H.lkI IZ EQ4 m1 g,fun q D h=>?_⟩;have u:=H.nw h;refine Hp.sA u EK (cs':=[.int .i64 z.1,.int .i64 z.2]) fun F i=>?_;refine⟨d.2,i.lo bz,F6 (fun j=>?_) (fun j=>?_)⟩
 ·refine Hp.s1 i yInt (cs':=[.int .i64 z.1,.int .i64 n]) fun x a=>?_
  refine⟨d.1,a.lo yInt,z.1,n,a.loA EK,?_⟩;refine Hp.mupI IZ a.BD EQ4 fun y b=>⟨rfl,?_⟩
  have e:aput (smC s) d.1 (.agg #[.int .i64 z.1,.int .i64 n])=smC (layB s d n):=by
   have:=Lp s d.1 (z.1,n);rw[layB,if_pos j,<- f];exact this
  rw[e]at b
  exact Hp.BP (R:=[.blk q [.int .i64 z.1,.int .i64 n] 62,.blk p [.int .i64 d.1,.bool d.2] 248]) (b.perm (by
   refine AL fun ff A k l m o=>?_
   simp only[m,l,k];omega))
 ·refine Hp.s1 i yInt (cs':=[.int .i64 n,.int .i64 z.2]) fun x a=>?_
  refine⟨d.1,a.lo yInt,n,z.2,a.loA EK,?_⟩;refine Hp.mupI IZ a.BD EQ4 fun y b=>⟨rfl,?_⟩
  have e:aput (smC s) d.1 (.agg #[.int .i64 n,.int .i64 z.2])=smC (layB s d n):=by
   have:=Lp s d.1 (n,z.2);rw[layB,if_neg (by rw[j];simp),<- f];exact this
  rw[e]at b
  exact Hp.BP (R:=[.blk q [.int .i64 n,.int .i64 z.2] 62,.blk p [.int .i64 d.1,.bool d.2] 248]) (b.perm (by
   refine AL fun ff A k l m o=>?_
   simp only[m,l,k];omega))
end
end Go.Proofs.YtljenkbpnioipaaGreat
namespace Go.Nod
structure BSt where
 op:List Bd
 out:List Bd
def popB(s:BSt):BSt:=⟨s.op.dropLast,s.out++[s.op.getLastD (0,true)]⟩
def Ig:Nat->BSt->BSt
 |0,s=>s
 |n+1,s=>Ig n (popB s)
def Fj(d:Int)(s:BSt):BSt:=Ig (s.op.length-d.toNat) s
def begB(i:Int)(s:BSt):BSt:=⟨s.op++[(i,true)],s.out++[(i,false)]⟩
def bndS:List It->List Int->BSt->BSt
 | [],_,s=>s
 |x::r,ids,s=>bndS r ids.tail (begB (ids.headD 0) (Fj x.level s))
def Bv(l:List It)(ids:List Int):List Bd:=(Fj 0 (bndS l ids ⟨[],[]⟩)).out
theorem Nj:∀(j:Nat)(s:BSt),Ig (j+1) s=popB (Ig j s)
 |0,s=>rfl
 |j+1,s=>by rw[Ig,Nj j];rfl
theorem LZ:∀(n:Nat)(s:BSt),n<=s.op.length->(Ig n s).op=s.op.take (s.op.length-n)/\(Ig n s).out.length=s.out.length+n
 |0,s,_=>by simp[Ig]
 |n+1,s,h=>by
  have a:(popB s).op.length=s.op.length-1:=by rw[popB,List.length_dropLast]
  obtain⟨b,c⟩:=LZ n (popB s) (by omega);rw[Ig];refine⟨?_,?_⟩
  ·rw[b,a]
   show(s.op.dropLast).take _=_;rw[dropLast_eq_take,take_take];congr 1;omega
  ·rw[c,popB];simp;omega
theorem Vf(x:It)(i:Int):∀(l:List It)(ids:List Int)(s:BSt),ids.length=l.length->bndS (l++[x]) (ids++[i]) s=begB i (Fj x.level (bndS l ids s))
 | [],[],s,_=>rfl
 |y::r,z::ids,s,h=>by
  rw[cons_append,cons_append,bndS,bndS,List.tail_cons,List.headD_cons,List.tail_cons,List.headD_cons];exact Vf x i r ids _ (by simpa using h)
structure Qb(j:Nat)(s:BSt):Prop where
 len:s.op.length+s.out.length=2*j
 op:s.op.length<=j
theorem Qb.shut{j:Nat}{s:BSt}(h:Qb j s)(d:Int):Qb j (Fj d s):=by
 obtain⟨a,b⟩:=LZ (s.op.length-d.toNat) s (by omega);have c:=h.len;have f:=h.op
 have e:(Fj d s).op.length=s.op.length-(s.op.length-d.toNat):=by rw[Fj,a,length_take];omega
 have g:(Fj d s).out.length=s.out.length+(s.op.length-d.toNat):=b;exact⟨by omega,by omega⟩
theorem Qb.beg{j:Nat}{s:BSt}(h:Qb j s)(i:Int):Qb (j+1) (begB i s):=by
 have a:=h.len;have b:=h.op;exact⟨by rw[begB];simp;omega,by rw[begB];simp;omega⟩
theorem Po:∀(l:List It)(ids:List Int)(k:Nat)(s:BSt),Qb k s->Qb (k+l.length) (bndS l ids s)
 | [],_,k,s,h=>h
 |x::r,ids,k,s,h=>by
  have:=Po r ids.tail (k+1) _ ((h.shut x.level).beg (ids.headD 0));rw[bndS,length_cons,Nat.add_comm r.length,<- Nat.add_assoc];exact this
theorem SK(l:List It)(ids:List Int):(Bv l ids).length<=2*l.length:=by
 have h:=(Po l ids 0 ⟨[],[]⟩ ⟨rfl,by simp⟩).shut 0;have:=h.len;rw[Bv];omega
end Go.Nod
namespace Go.Proofs.YtljenkbpnioipaaGreat
noncomputable section
open Go Go.Vc Go.Nod
def bdC(l:List Bd):List Value:=l.flatMap fun p=>[.int .i64 p.1,.bool p.2]
theorem ZE(p:Bd)(r:List Bd):bdC (p::r)=.int .i64 p.1::.bool p.2::bdC r:=rfl
theorem XP(a b:List Bd):bdC (a++b)=bdC a++bdC b:=by simp[bdC]
theorem ZO:∀{l:List Bd}{k:Nat}{p:Bd},l[k]? =some p->((bdC l).drop (k*2)).take 2=[.int .i64 p.1,.bool p.2]
 |x::r,0,p,h=>by simp at h;subst h;rfl
 |x::r,k+1,p,h=>by
  rw[List.getElem?_cons_succ]at h;rw[ZE,Nat.succ_mul,drop_succ_cons,drop_succ_cons];exact ZO h
theorem bdC_take(l:List Bd)(k:Nat):(bdC l).take (k*2)=bdC (l.take k):=by
 induction l generalizing k with
 |nil=>simp[bdC]
 |cons p r a=>
  cases k with
  |zero=>simp[bdC]
  |succ k=>rw[ZE,Nat.succ_mul,List.take_succ_cons,List.take_succ_cons,a k];rfl
theorem dH:Elt Tryz.prog 185 248 2 16:=CW (by kernel_rfl)
theorem mSB:Scl Tryz.prog 185:=BK (by kernel_rfl)
theorem dL:Tryz.prog.underlying 185=some (.slice 248):=by kernel_rfl
def bndL(b0 b1:Nat)(oa:Option Addr)(oc:Nat)(ua:Option Addr)(uc:Nat)(s:BSt):List Asn:=
 [.blk b0 [.slice oa s.op.length oc] 185,.own 248 2 oa s.op.length oc (bdC s.op),.blk b1 [.slice ua s.out.length uc] 185,.own 248 2 ua s.out.length uc (bdC s.out)]
theorem Me{B:List Nat}{w0:World}{L:List Asn}(d:Int)(p b1:Nat)(a:Option Addr)(b:Nat)(f:Option Addr)(h:Nat)(s:BSt)(w:World)(U:0<=d)(aa:s.op.length<=100000)(ab:s.out.length<=100000)(H:Hp B w0 w (bndL p b1 a b f h s++L)):
  Calls Tryz.prog 164 #[.int .i64 d,.pointer (some ⟨p,0,none⟩),.pointer (some ⟨b1,0,none⟩)] w fun e w'=>∃i l X,e=.returned (.tuple #[])/\Hp B w0 w' (bndL p b1 a b i l (Fj d s)++(X++L)):=by
 apply nBounds1.ok;unfold nBounds1.vc;refine AP.mk (fun m _ w'=>∃(j:Nat)(i:Option Addr)(l:Nat)(X:List Asn),m=s.op.length-j/\j<=s.op.length-d.toNat/\Hp B w0 w' (bndL p b1 a b i l (Ig j s)++(X++L))) s.op.length ⟨0,f,h,[],rfl,by omega,H⟩ ?_;clear H;rintro m _ A nx ⟨j,f,h,X,rfl,hj,H⟩ G;obtain⟨Y,f2⟩:=LZ j s (by omega);obtain⟨s1,n⟩:∃s1,s1=Ig j s:=⟨_,rfl⟩;rw[<- n]at H Y f2
 have ac:s1.op.length=s.op.length-j:=by rw[Y,length_take];omega
 have ldO:∀{W:World},Eqw A W->Ld Tryz.prog 185 W ⟨p,0,none⟩ (.slice a s1.op.length b):=fun J=>H.ld (o:=0) (cs:=[.slice a s1.op.length b]) J mSB (.head _) rfl;have q:∀{W:World},Eqw A W->Ld Tryz.prog 185 W ⟨b1,0,none⟩ (.slice f s1.out.length h):=fun J=>H.ld (o:=0) (cs:=[.slice f s1.out.length h]) J mSB m2 rfl;refine⟨a,s1.op.length,b,AA rfl (ldO EQ4),AB (fun h1=>?_) (fun h1=>?_)⟩
 ·have r:0<s1.op.length:=by omega
  obtain⟨z,Z⟩:∃z,s1.op[s1.op.length-1]? =some z:=⟨_,List.getElem?_eq_getElem (by omega)⟩
  have K:z=s1.op.getLastD (0,true):=by
   rw[List.getLastD_eq_getLast?,List.getLast?_eq_getElem?,Z];rfl
  have c:Own A 0 248 2 a s1.op.length b (bdC s1.op):=H.ownA m1;have t:Cells A.drew a (bdC s1.op):=c.cells;obtain⟨g,hg⟩:=c.CV r
  have e1:Int.toNat ((s1.op.length:Int)-1)=s1.op.length-1:=by omega
  refine⟨f,s1.out.length,h,AA rfl (q EQ4),a,s1.op.length,b,AA rfl (ldO EQ4),a,s1.op.length,b,AA rfl (ldO EQ4),iR,AA hg ⟨⟨by omega,by omega⟩,z.1,z.2,by rw[e1];exact t.ldA ax hg (ZO Z) rfl,fun xb w2 M=>?_⟩⟩;have C:=H.drew.nw M;clear ldO q c t;refine⟨AA rfl (C.lo mSB),?_⟩;refine Hp.app dH (by omega) C.Ib EQ4 (Blk.src (P:=Tryz.prog) dL (C.blk (.head _)) rfl rfl) (by simp only[maxLen];omega) (by omega) ?_;intro u x w3 H3;refine AA rfl (Hp.s1 H3.Ib mSB (cs':=[.slice u (s1.out.length+1) x]) fun w4 N=>?_);clear H C H3;have ldO:Ld Tryz.prog 185 w4 ⟨p,0,none⟩ (.slice a s1.op.length b):=N.lo mSB;have c:Own w4 0 248 2 a s1.op.length b (bdC s1.op):=N.ownA m4;have ad:=c.le;refine⟨a,s1.op.length,b,AA rfl ldO,a,s1.op.length,b,AA rfl ldO,iR,⟨by omega,by omega⟩,AA rfl ?_⟩;rw[e1];refine Hp.s1 N.D8 mSB (cs':=[.slice a (s1.op.length-1) b]) fun w5 H5=>?_;have y:Own w5 0 248 2 a s1.op.length b (bdC s1.op):=H5.ownA m4;have D:=y.keep (F:=s1.op.length-1) (by omega);have e2:(bdC s1.op).take ((s1.op.length-1)*2)=bdC (s1.op.take (s1.op.length-1)):=bdC_take _ _;rw[e2]at D;have H6:=Hp.set (a':=.own 248 2 a (s1.op.length-1) b (bdC (s1.op.take (s1.op.length-1)))) H5.Ib (Chg.refl _ _) D fun k D=>.inl D
  have O:Ig (j+1) s=popB s1:=by rw[n,Nj]
  have R:popB s1=⟨s1.op.take (s1.op.length-1),s1.out++[z]⟩:=by rw[popB,dropLast_eq_take,K]
  refine G (s.op.length-(j+1)) _ _ (by omega) ⟨j+1,u,x,.blk xb [.int .i64 z.1,.bool z.2] 248::X,rfl,by omega,?_⟩;rw[O,R];refine H6.perm ?_
  have e3:(s1.op.take (s1.op.length-1)).length=s1.op.length-1:=by rw[length_take];omega
  have e4:(s1.out++[z]).length=s1.out.length+1:=by simp
  have e5:bdC (s1.out++[z])=bdC s1.out++[.int .i64 z.1,.bool z.2]:=by rw[XP];rfl
  refine AL fun ff gg U hc ha ae=>?_;simp only[bndL,e3,e4,e5,ha,hc,U,append_eq,nil_append];omega
 ·have T:j=s.op.length-d.toNat:=by omega
  refine⟨f,h,X,rfl,?_⟩;rw[Fj,<- T,<- n];exact H
end
noncomputable section
open Go Go.Vc Go.Nod
theorem nBounds_spec(la:Option Addr)(n lc:Nat)(l:List It)(ss:List Sl3)(za:Option Addr)(zc:Nat)(ids:List Int)(w:World)(hA:Df [] w la n l ss)(hz:Cells w za (AO ids))(hzl:ids.length=n)(hn:n<=10000)(hlev:∀x∈l,0<=x.level):
  Calls Tryz.prog 105 #[.slice la n lc,.slice za n zc] w fun e w'=>∃a c,e=.returned (.slice a (Bv l ids).length c)/\Hp [] w w' [.own 248 2 a (Bv l ids).length c (bdC (Bv l ids))]:=by
 apply nBounds.ok;unfold nBounds.vc
 have hlen:=hA.now.len
 intro b1 w1 hn1
 have H1:=(Hp.start w).new (cs:=[.slice none 0 0]) EQ4 hn1
 intro b0 w2 hn2
 have H2:=((H1.new (cs:=[.slice none 0 0]) EQ4 hn2).nilS 248 2).nilS 248 2
 clear H1 hn1 hn2
 refine AP.mk (fun m s w'=>∃(j:Nat)(oa:Option Addr)(oc:Nat)(ua:Option Addr)(uc:Nat)(X:List Asn),m=n-j/\j<=n/\s=(j:Int)/\Hp [] w w' (bndL b0 b1 oa oc ua uc (bndS (l.take j) (ids.take j) ⟨[],[]⟩)++X)) n ⟨0,none,0,none,0,[],rfl,by omega,rfl,H2.perm ?_⟩ ?_
 ·refine AL fun ff gg h0 hc ha hpm=>?_
  have e1:bdC []=[]:=rfl
  simp only[bndL,take_zero,bndS,e1,length_nil,ha,hc,h0];omega
 clear H2
 rintro m s w3 nx ⟨j,oa,oc,ua,uc,X,rfl,hj,rfl,H⟩ hnx
 have hg:=Po (l.take j) (ids.take j) 0 ⟨[],[]⟩ ⟨rfl,by simp⟩
 have hlt:(l.take j).length=j:=by rw[length_take];omega
 rw[hlt,Nat.zero_add]at hg
 obtain⟨s,hs⟩:∃s,s=bndS (l.take j) (ids.take j) ⟨[],[]⟩:=⟨_,rfl⟩
 rw[<- hs]at H hg
 have hg1:=hg.len
 have hg2:=hg.op
 refine AB (fun h1=>?_) (fun h1=>?_)
 ·have hjl:j<l.length:=by omega
  have hI:=hA.rd w3 H.chg
  obtain⟨x,sl,hx,hsl,hat⟩:=hI.at_ (k:=j) (by omega)
  obtain⟨ad,had,hld⟩:=hI.some hx hsl
  refine AA had ⟨⟨by omega,h1⟩,x.level,x.x.kind,x.x.name,x.x.text,sl.1,sl.2.1,sl.2.2,by rw[Int.toNat_natCast];exact hld,?_⟩
  intro xb w4 hn4
  have H4:=H.new (cs:=[.int .i64 0,.int .i64 0,.string ⟨#[]⟩,.string ⟨#[]⟩,.slice none 0 0]) EQ4 hn4
  refine Hp.stA H4 EQ4 DZ (vs:=itC x sl) rfl rfl (by simp) (cs':=itC x sl) rfl fun w5 H5=>?_
  clear H4 hn4 H
  refine⟨x.level,H5.ld (o:=0) (cs:=itC x sl) EQ4 yInt (.head _) rfl,?_⟩
  have hl0:=hlev x (mem_of_getElem? hx)
  have H6:Hp [] w w5 (bndL b0 b1 oa oc ua uc s++(.blk xb (itC x sl) 123::X)):=H5.perm (by
   refine AL fun ff gg h0 hc ha hpm=>?_
   simp only[ha,hc,h0];omega)
  clear H5
  refine AC (Me x.level b0 b1 oa oc ua uc s w5 hl0 (by omega) (by omega) H6) ?_
  rintro _ w6 ⟨ua',uc',X2,rfl,H7⟩
  clear H6
  have hgt:=hg.shut x.level
  obtain⟨t,ht⟩:∃t,t=Fj x.level s:=⟨_,rfl⟩
  rw[<- ht]at H7 hgt
  have hgt1:=hgt.len
  have hgt2:=hgt.op
  obtain⟨i,hi⟩:∃i,ids[j]? =some i:=⟨_,List.getElem?_eq_getElem (by omega)⟩
  have hic:(AO ids)[j]? =some (.int .i64 i):=by simp[AO,hi]
  obtain⟨za',hza,_⟩:=hz _ _ hic
  refine⟨rfl,ua',t.out.length,uc',H7.ld (o:=0) (cs:=[.slice ua' t.out.length uc']) EQ4 mSB (.tail _ (.tail _ (.head _))) rfl,AA hza ⟨⟨by omega,by omega⟩,i,?_,?_⟩⟩
  ·rw[Int.toNat_natCast,Nat.mul_one]
   exact(hz.chg (w':=w6.drew) H7.chg (by simp)).ld yInt hza hic
  intro yb w7 hn7
  have H8:=H7.drew.new (cs:=[.int .i64 i,.bool false]) EQ4 hn7
  clear H7 hn7
  refine⟨H8.ld (o:=0) (cs:=[.slice ua' t.out.length uc']) EQ4 mSB (.tail _ (.tail _ (.tail _ (.head _)))) rfl,?_⟩
  refine Hp.app dH (by omega) H8.Ib EQ4 (Blk.src (P:=Tryz.prog) dL (H8.blk (.head _)) rfl rfl) (by simp only[maxLen];omega) (by omega) ?_
  intro ua2 uc2 w8 H9
  refine Hp.st (o:=0) H9.Ib EQ4 mSB rfl rfl (by simp) (cs':=[.slice ua2 (t.out.length+1) uc2]) rfl fun w9 H10=>?_
  clear H8 H9
  refine⟨oa,t.op.length,oc,H10.ld (o:=0) (cs:=[.slice oa t.op.length oc]) EQ4 mSB (.tail _ (.tail _ (.tail _ (.head _)))) rfl,AA hza ⟨⟨by omega,by omega⟩,i,?_,?_⟩⟩
  ·rw[Int.toNat_natCast,Nat.mul_one]
   exact(hz.chg (w':=w9.drew) H10.chg (by simp)).ld yInt hza hic
  intro vb w10 hn10
  have H11:=H10.drew.new (cs:=[.int .i64 i,.bool true]) EQ4 hn10
  clear H10 hn10
  refine⟨H11.ld (o:=0) (cs:=[.slice oa t.op.length oc]) EQ4 mSB (.tail _ (.tail _ (.tail _ (.tail _ (.head _))))) rfl,?_⟩
  refine Hp.app dH (by omega) H11.dN EQ4 (Blk.src (P:=Tryz.prog) dL (H11.blk (.head _)) rfl rfl) (by simp only[maxLen];omega) (by omega) ?_
  intro oa2 oc2 w11 H12
  refine Hp.st (o:=0) H12.dN EQ4 mSB rfl rfl (by simp) (cs':=[.slice oa2 (t.op.length+1) oc2]) rfl fun w12 H13=>⟨DD.2 (by omega),?_⟩
  clear H11 H12
  refine hnx (n-(j+1)) _ _ (by omega) ⟨j+1,oa2,oc2,ua2,uc2,.blk vb [.int .i64 i,.bool true] 248::.blk yb [.int .i64 i,.bool false] 248::(X2++(.blk xb (itC x sl) 123::X)),rfl,by omega,rfl,H13.perm ?_⟩
  have e1:bndS (l.take (j+1)) (ids.take (j+1)) ⟨[],[]⟩=begB i t:=by
   rw[take_succ_eq_append_getElem hjl,(List.getElem?_eq_some_iff.1 hx).2,take_succ_eq_append_getElem (by omega),(List.getElem?_eq_some_iff.1 hi).2,Vf _ _ _ _ _ (by rw[length_take,length_take];omega),<- hs,<- ht]
  have e2:bdC (t.op++[(i,true)])=bdC t.op++[.int .i64 i,.bool true]:=by rw[XP];rfl
  have e3:(t.op++[(i,true)]).length=t.op.length+1:=by simp
  have e4:bdC (t.out++[(i,false)])=bdC t.out++[.int .i64 i,.bool false]:=by rw[XP];rfl
  have e5:(t.out++[(i,false)]).length=t.out.length+1:=by simp
  rw[e1]
  refine AL fun ff gg h0 hc ha hpm=>?_
  simp only[bndL,begB,e2,e3,e4,e5,ha,hc,h0,append_eq,nil_append];omega
 ·have hjn:j=n:=by omega
  subst hjn
  refine AC (Me 0 b0 b1 oa oc ua uc s w3 (by omega) (by omega) (by omega) H) ?_
  rintro _ w6 ⟨ua',uc',X2,rfl,H7⟩
  have e1:Bv l ids=(Fj 0 s).out:=by
   rw[Bv,hs,take_of_length_le (by omega),take_of_length_le (by omega)]
  rw[e1]
  refine⟨rfl,ua',_,uc',H7.ld (o:=0) (cs:=[.slice ua' (Fj 0 s).out.length uc']) EQ4 mSB (.tail _ (.tail _ (.head _))) rfl,ua',uc',rfl,?_⟩
  refine Hp.BP (R:=[.blk b0 [.slice oa (Fj 0 s).op.length oc] 185,.own 248 2 oa (Fj 0 s).op.length oc (bdC (Fj 0 s).op),.blk b1 [.slice ua' (Fj 0 s).out.length uc'] 185]++(X2++X)) (H7.perm ?_)
  refine AL fun ff gg h0 hc ha hpm=>?_
  simp only[bndL,ha,hc,h0];omega
end
end Go.Proofs.YtljenkbpnioipaaGreat
namespace Go.Nod
def Fv(old:SM):List Bd->SM->SM
 | [],s=>s
 |b::r,s=>Fv old r (if 0<=atB old b then sput s b.1 ((sget old b.1).getD (0,0))else s)
def layAll:SM->List Bd->List Int->SM
 |s,b::bs,n::ns=>layAll (layB s b n) bs ns
 |s,_,_=>s
def JF(l:List Bd)(old:SM)(k:Nat):Int:=match l[k]? with
 |some b=>atB old b
 |none=>4611686018427387904
noncomputable def Ej(l:List Bd)(old:SM):Nat->Nat->Int->Nat->SM->Option SM
 |0,_,_,_,s=>some s
 |n+1,k,low,from_,s=>
  if JF l old k<0 then Ej l old n (k+1) low from_ s
  else match betP low (JF l old k) ((k:Int)-(from_:Int))with
   |none=>none
   |some ns=>Ej l old n (k+1) (JF l old k) (k+1) (layAll s (l.drop from_) ns)
noncomputable def Dz(l:List Bd)(old:SM):Option SM:=Ej l old (l.length+1) 0 0 0 (Fv old l [])
theorem WB(old:SM):∀(a b:List Bd)(s:SM),Fv old (a++b) s=Fv old b (Fv old a s)
 | [],b,s=>rfl
 |x::a,b,s=>by rw[cons_append,Fv,Fv,WB old a b]
theorem Rh:∀(a:List Int)(n:Int)(s:SM)(bs:List Bd)(b:Bd),bs[a.length]? =some b->layAll s bs (a++[n])=layB (layAll s bs a) b n
 | [],n,s,c::bs,b,h=>by
  rw[length_nil,List.getElem?_cons_zero]at h;cases h;rw[nil_append,layAll];cases bs<;>simp[layAll]
 |m::a,n,s,c::bs,b,h=>by
  rw[length_cons,List.getElem?_cons_succ]at h;rw[cons_append,layAll,layAll];exact Rh a n (layB s c m) bs b h
theorem IB(s:SM)(bs:List Bd):layAll s bs []=s:=by cases bs<;>rfl
end Go.Nod
namespace Go.Proofs.YtljenkbpnioipaaGreat
noncomputable section
open Go Go.Vc Go.Nod
theorem nSpanned_spec(la:Option Addr)(n lc:Nat)(l:List Bd)(M:Nat)(old:SM)(w:World)(hL:Cells w la (bdC l))(hn:n=l.length)(ar:n<=10000)(hO:MapAt (DF .i64) w M (smC old)):
  Calls Tryz.prog 104 #[.slice la n lc,.map (some M)] w fun e w'=>(Dz l old=none/\e=.returned (.tuple #[.map none,.bool false])/\Hp [] w w' [])\/
   ∃s mb,Dz l old=some s/\e=.returned (.tuple #[.map (some mb),.bool true])/\Hp [] w w' [.imap mb .i64 (smC s)]:=by
 apply nSpanned.ok;unfold nSpanned.vc;intro mb w1 N;have H1:Hp [] w w1 [.imap mb .i64 (smC [])]:=(Hp.start w).newI EQ4 .i64 N
 have cell:∀{w':World}{L:List Asn}{j:Nat}{d:Bd},Hp [] w w' L->l[j]? =some d->∃F,la=some F/\Ld Tryz.prog 248 w' (F.add (j*2)) (bdV d):=fun{w' L j d} H y=>by
  have hc:Cells w' la (bdC l):=hL.chg H.chg (by simp);have f:=ZO y;obtain⟨F,c⟩:=hc.some (fun e=>by rw[e]at f;simp at f);exact⟨F,c,hc.ldA ax c f rfl⟩
 refine AP.mk (fun m s w'=>∃(j:Nat)(X:List Asn),m=n-j/\j<=n/\s=(j:Int)/\Hp [] w w' (.imap mb .i64 (smC (Fv old (l.take j) []))::X)) n ⟨0,[],rfl,by omega,rfl,H1⟩ ?_;clear H1 N;rintro m s w2 nx ⟨j,X,rfl,hj,rfl,H⟩ h;refine AB (fun O=>?_) (fun O=>?_)
 ·have R:j<l.length:=by omega
  obtain⟨d,y⟩:∃d,l[j]? =some d:=⟨_,List.getElem?_eq_getElem R⟩;obtain⟨F,c,p⟩:=cell H y;refine AA c ⟨⟨by omega,O⟩,d.1,d.2,by rw[Int.toNat_natCast];exact p,?_⟩;intro xb w3 T;have C:=H.nw T;refine Hp.sA C ax (cs':=[.int .i64 d.1,.bool d.2]) fun w4 G=>?_;clear H C T;refine⟨d.1,d.2,G.loA ax,?_⟩;refine AC (YW M old d w4 (hO.chg G.chg (by simp))) ?_;rintro _ w5 ⟨rfl,A⟩;have H5:=G.ext0 A;clear G A
  have U:Fv old (l.take (j+1)) []=if 0<=atB old d then sput (Fv old (l.take j) []) d.1 ((sget old d.1).getD (0,0))else Fv old (l.take j) []:=by
   rw[take_succ_eq_append_getElem R,(List.getElem?_eq_some_iff.1 y).2,WB];rfl
  have ld0:Ld Tryz.prog 3 w5 ⟨xb,0,none⟩ (.int .i64 d.1):=H5.lo yInt;refine⟨_,rfl,AB (fun f=>?_) (fun f=>⟨iR,?_⟩)⟩
  ·obtain⟨z,hz⟩:∃z:Sp,z=(sget old d.1).getD (0,0):=⟨_,rfl⟩
   have ag:(aget (smC old) d.1).getD (.agg #[.int .i64 0,.int .i64 0])=.agg #[.int .i64 z.1,.int .i64 z.2]:=by
    rw[J8,hz];cases sget old d.1<;>rfl
   have Y:=(Le IZ (hO.chg H5.chg (by simp):MapAt (DF .i64) w5 M (smC old)) d.1).1;rw[ag]at Y;rw[if_pos f,<- hz]at U;refine⟨d.1,ld0,d.1,ld0,z.1,z.2,Y,?_⟩;refine Hp.mupI IZ H5.Ae EQ4 fun w6 H6=>⟨iR,h (n-(j+1)) _ _ (by omega) ⟨j+1,.blk xb [.int .i64 d.1,.bool d.2] 248::X,rfl,by omega,rfl,?_⟩⟩;have:=Lp (Fv old (l.take j) []) d.1 z;rw[U,<- this];exact H6
  ·rw[if_neg f]at U
   refine h (n-(j+1)) _ _ (by omega) ⟨j+1,.blk xb [.int .i64 d.1,.bool d.2] 248::X,rfl,by omega,rfl,?_⟩;rw[U];exact H5.Ae
 have ah:j=n:=by omega
 subst ah;rw[take_of_length_le (by omega)]at H;refine AP.mk (fun m s w'=>∃(k b:Nat)(B:Int)(S:SM)(X:List Asn),m=l.length+1-k/\k<=l.length+1/\b<=k/\s=(B,(b:Int),(k:Int))/\Dz l old=Ej l old (l.length+1-k) k B b S/\Hp [] w w' (.imap mb .i64 (smC S)::X)) (l.length+1) ⟨0,0,0,Fv old l [],X,rfl,by omega,by omega,rfl,by rw[Dz,Nat.sub_zero],H⟩ ?_;clear H h O;rintro m s w3 nx ⟨k,b,B,S,X,rfl,U,av,rfl,a,H⟩ h;dsimp only;refine AB (fun O=>?_) (fun O=>?_);rotate_left
 ·have Z:k=l.length+1:=by omega
  rw[Z,Nat.sub_self,Ej]at a;exact .inr ⟨S,mb,a,rfl,Hp.BP (L:=[_]) H⟩
 have Z:k<=l.length:=by omega
 have ak:l.length+1-k=(l.length-k)+1:=by omega
 rw[ak,Ej]at a;obtain⟨r,hh⟩:∃r,r=JF l old k:=⟨_,rfl⟩;rw[<- hh]at a;refine Am.mk (fun s1 w'=>∃(u:Nat)(S2:SM)(D:List Asn),u<=k+1/\s1.2=(u:Int)/\Dz l old=Ej l old (l.length-k) (k+1) s1.1 u S2/\Hp [] w w' (.imap mb .i64 (smC S2)::D)) ?_ ?_
 ·rintro⟨al,f2⟩ w4 ⟨u,S2,D,g1,g2,g3,g4⟩
  dsimp only at g2 g3;subst g2;refine⟨iR,h (l.length+1-(k+1)) _ _ (by omega) ⟨k+1,u,al,S2,D,rfl,by omega,g1,rfl,?_,g4⟩⟩;rw[show l.length+1-(k+1)=l.length-k by omega];exact g3
 intro J hJ;refine Am.mk (fun s1 w'=>s1=r/\Hp [] w w' (.imap mb .i64 (smC S)::X)) ?_ ?_;rotate_left
 ·intro K hK
  refine AB (fun f=>?_) (fun f=>hK _ _ ⟨?_,H⟩)
  ·obtain⟨d,y⟩:∃d,l[k]? =some d:=⟨_,List.getElem?_eq_getElem (by omega)⟩
   obtain⟨F,c,p⟩:=cell H y;refine AA c ⟨⟨by omega,f⟩,d.1,d.2,by rw[Int.toNat_natCast];exact p,?_⟩;refine AC (YW M old d w3 (hO.chg H.chg (by simp))) ?_;rintro _ w5 ⟨rfl,A⟩;refine⟨_,rfl,hK _ _ ⟨?_,H.ext0 A⟩⟩;rw[hh,JF,y]
  ·rw[hh,JF,List.getElem?_eq_none (by omega)]
 clear H;rintro s1 w4 ⟨am,H⟩;subst am;refine AB (fun f=>?_) (fun f=>⟨iR,?_⟩)
 ·rw[if_pos f]at a
  exact hJ _ _ ⟨b,S,X,by omega,rfl,a,H⟩
 rw[if_neg f]at a;have aa:=sBetween_spec B s1 ((k:Int)-(b:Int)) w4 ⟨by omega,by omega⟩
 have an:((k:Int)-(b:Int)).toNat=k-b:=by omega
 rw[an]at aa;refine AC aa ?_;rintro e w5 (⟨hb,rfl,A⟩|⟨g,na,nc,hb,aw,rfl,A⟩)
 ·rw[hb]at a
  exact⟨none,0,0,false,rfl,CU (x:=_) (.inl ⟨a,rfl,Hp.BP (L:=[]) (H.ext0 A)⟩)⟩
 ·rw[hb]at a
  dsimp only at a;have H2:=H.ext1 A;clear H A;refine⟨na,k-b,nc,true,rfl,BA (x:=_) ?_⟩;refine AP.mk (fun q t w'=>∃(i:Nat)(D:List Asn),q=(k-b)-i/\i<=k-b/\t=(i:Int)/\Hp [] w w' (.imap mb .i64 (smC (layAll S (l.drop b) (g.take i)))::.own 3 1 na (k-b) nc (AO g)::D)) (k-b) ⟨0,X,rfl,by omega,rfl,?_⟩ ?_
  ·rw[take_zero,IB];exact H2.Ae
  clear H2;rintro q t w6 a0 ⟨i,D,rfl,hi,rfl,C⟩ ab;refine AB (fun h3=>?_) (fun h3=>⟨iR,hJ _ _ ⟨k+1,layAll S (l.drop b) g,.own 3 1 na (k-b) nc (AO g)::D,by omega,rfl,a,?_⟩⟩)
  ·have ac:i<g.length:=by omega
   have ao:(AO g)[i]? =some (.int .i64 g[i]):=by simp[AO,ac]
   obtain⟨F,c,p⟩:=C.ldO (w':=w6) (o:=i) EQ4 yInt m1 ao;obtain⟨d,y⟩:∃d,l[b+i]? =some d:=⟨_,List.getElem?_eq_getElem (by omega)⟩;obtain⟨a1,ae,af⟩:=cell C y;refine AA c ⟨⟨by omega,h3⟩,g[i],by rw[Int.toNat_natCast,Nat.mul_one];exact p,iR,AA ae ⟨⟨by omega,by omega⟩,d.1,d.2,?_,?_⟩⟩
   ·rw[show((b:Int)+(i:Int)).toNat=b+i by omega];exact af
   refine AC (nLay_spec mb _ d g[i] w6 C) ?_;rintro _ w7 ⟨rfl,G⟩;refine⟨rfl,iR,ab (k-b-(i+1)) _ _ (by omega) ⟨i+1,D,rfl,by omega,rfl,?_⟩⟩
   have ap:(g.take i).length=i:=by rw[length_take];omega
   rw[take_succ_eq_append_getElem ac,Rh (g.take i) g[i] S (l.drop b) d (by rw[ap,List.getElem?_drop];exact y)];exact G
  ·have aq:i=g.length:=by omega
   rw[aq,take_length]at C;exact C
end
end Go.Proofs.YtljenkbpnioipaaGreat
namespace Go.Nod
def Fh:SM->List Int->SM
 |s,[]=>s
 |s,i::r=>Fh (sdel s i) r
theorem QP(i:Int):∀(l:List Int)(s:SM),Fh s (l++[i])=sdel (Fh s l) i
 | [],s=>rfl
 |j::l,s=>by rw[cons_append,Fh,Fh,QP i l]
def ED:SM->List Int->List Sp->SM
 |m,i::is,s::ss=>ED (sput m i s) is ss
 |m,_,_=>m
theorem QH(i:Int)(s:Sp):∀(a:List Int)(ss:List Sp)(m:SM),a.length=ss.length->ED m (a++[i]) (ss++[s])=sput (ED m a ss) i s
 | [],[],m,_=>rfl
 |j::a,t::ss,m,h=>by
  rw[cons_append,cons_append,ED,ED];exact QH i s a ss _ (by simpa using h)
noncomputable def IP(T:Tr)(old:SM)(moved:List Int):SM:=
 match Dz (Bv (T.L.map rowI) (T.L.map (·.id))) (Fh old moved)with
 |some s=>s
 |none=>ED [] (T.L.map (·.id)) (Gq (T.L.map rowI))
end Go.Nod
namespace Go.Proofs.YtljenkbpnioipaaGreat
noncomputable section
open Go Go.Vc Go.Nod
theorem Yh{x:NX}(c:x.kind=1\/x.kind=2)(h:Ap x=0):TG x:=by
 obtain⟨k,g,i⟩:=FK h;rcases c with c|c
 ·obtain⟨e,b,f,j⟩:=g c
  refine⟨by have:=e.2.1;simp only[maxLen];omega,by rw[f];simp[maxLen];decide,fun a d=>⟨by have:=(b.1 a d).2.1;simp only[maxLen];omega,?_⟩⟩;have:=(Ll _).1 j a d;rw[BJ]at this;split at this
  ·cases this
  ·split at this
   ·cases this
   ·simp only[maxLen];omega
 ·obtain⟨e,b,f⟩:=i c
  refine⟨by rw[f];decide,?_,fun a d=>by rw[e]at d;cases d⟩;rw[BJ]at b;split at b
  ·cases b
  ·split at b
   ·cases b
   ·simp only[maxLen];omega
theorem XU{x:NX}(h:Ap x=0):x.kind=1\/x.kind=2:=by
 rw[Ap]at h;split at h
 ·rename_i a;exact .inr a
 ·split at h
  ·rename_i a;exact .inl a.1
  ·cases h
theorem EM{F:Fo}{T:Tr}(a:BN F T):∀x∈T.L.map rowI,Ap x.x=0:=fun x b=>by
 obtain⟨r,c,rfl⟩:=mem_map.1 b;exact IW F 0 a.ok r (by rw[a.fl];exact c)
theorem QZ{f:List Nat}{b:Nat}{T:Tr}{w:World}(h:(AU f b T).ok w)(ob:Nat)(old:SM)(ma:Option Addr)(B mc:Nat)(moved:List Int)(hO:∀W,Chg f w W->MapAt (DF .i64) W ob (smC old))(hM:∀W,Chg f w W->Cells W ma (AO moved))(a4:B=moved.length)(a5:B<=100000):
  Calls Tryz.prog 58 #[.pointer (some ⟨b,0,none⟩),.map (some ob),.slice ma B mc] w fun e w'=>∃f' mb,e=.returned (.map (some mb))/\Hp f w w' [AU f' b T,.imap mb .i64 (smC (IP T old moved))]:=by
 apply nLabel.ok;unfold nLabel.vc;have H0:Hp f w w [AU f b T]:=Be h;obtain⟨F,a6,a7,C,_⟩:=FQ h;have a3:=C.len;refine AC (Jw h) ?_;rintro _ w0 ⟨rfl,ar⟩;obtain rfl:=ar.symm;refine⟨_,rfl,AC (Ie h) ?_⟩;rintro _ w1 ⟨f1,D,ic,g,rfl,G,H1⟩;refine⟨_,_,_,rfl,AC (Ip (H1.ok _ (.head _))) ?_⟩;rintro _ w2 ⟨f2,J,zc,rfl,H2⟩;have K:=H1.use1 H2;refine⟨_,_,_,rfl,?_⟩;refine AC (Kq ob (smC old) w2 (hO w2 K.chg)) ?_;rintro _ w3 ⟨n,rfl,av,ac,ae⟩
 have H4:=K.add (a':=.imap n .i64 (smC old)) ae ac (fun k hk=>by
  have:k=n:=by simpa [Asn.foot]using hk
  omega)
 clear H1 H2 K ac ae;refine⟨some n,rfl,?_⟩;obtain⟨Y,hY⟩:∃Y:List Asn,Y=([AU f2 b T,.own 3 1 J T.L.length zc (AO (T.L.map (·.id)))]++(.own 123 5 D T.L.length ic (itsC (T.L.map AY) g)::BQ (T.L.map AY) g)):=⟨_,rfl⟩;rw[<- hY]at H4;refine AP.mk (fun m s w'=>∃j:Nat,m=B-j/\j<=B/\s=(j:Int)/\Hp f w w' (.imap n .i64 (smC (Fh old (moved.take j)))::Y)) B ⟨0,rfl,by omega,rfl,by rw[take_zero];exact H4⟩ ?_;clear H4 av;rintro m s w4 nx ⟨j,rfl,hj,rfl,H⟩ M;refine AB (fun h1=>?_) (fun h1=>?_)
 ·have d:j<moved.length:=by omega
  have af:(AO moved)[j]? =some (.int .i64 moved[j]):=by simp[AO,d]
  have l:=hM w4 H.chg;obtain⟨ad,q,_⟩:=l _ _ af;refine AA q ⟨⟨by omega,h1⟩,moved[j],by rw[Int.toNat_natCast,Nat.mul_one];exact l.ld yInt q af,?_⟩;refine Hp.delI IZ rfl H EQ4 fun w5 H5=>⟨iR,M (B-(j+1)) _ _ (by omega) ⟨j+1,rfl,by omega,rfl,?_⟩⟩;rw[take_succ_eq_append_getElem d,QP,<- aC];exact H5
 rw[take_of_length_le (by omega)]at H;have ag:∀{a:Asn},a∈Y->a∈(Asn.imap n .i64 (smC (Fh old moved))::Y):=fun h=>.tail _ h
 have y:∀{w':World}{L:List Asn},Hp f w w' L->(∀a∈Y,a∈L)->Df [] w' D T.L.length (T.L.map rowI) g:=fun{w' L} H r=>by
  refine⟨fun W hW=>?_,by simp only[maxLen];omega,fun s N=>?_,fun x t=>Yh (XU (EM C x t)) (EM C x t)⟩
  ·have HW:=H.chg0 hW
   exact dZ (show Own W 0 123 5 D T.L.length ic (itsC (T.L.map AY) g)from HW.ownA (r _ (by rw[hY];exact .tail _ m1))) G (by rw[length_map]) fun x t=>HW.ok x (r _ (by rw[hY];exact .tail _ (.tail _ (.tail _ t))))
  ·obtain⟨k,hk⟩:=List.getElem?_of_mem N
   have a8:=(List.getElem?_eq_some_iff.1 hk).1;have a9:=G.len;have t:(T.L.map AY)[k]? =some ((T.L.map AY)[k]'(by omega)):=List.getElem?_eq_getElem _;have e:=G.att k _ s t hk;have:=(FK (EM C _ (mem_of_getElem? t))).1;simp only[maxLen];omega
 have ah:∀{w':World}{L:List Asn},Hp f w w' L->(∀a∈Y,a∈L)->Cells w' J (AO (T.L.map (·.id))):=fun{w' L} H r=>by
  have:Own w' 0 3 1 J T.L.length zc (AO (T.L.map (·.id))):=H.ownA (r _ (by rw[hY];exact .tail _ (.head _)));exact this.cells
 have z:∀x∈T.L.map rowI,0<=x.level:=fun x t=>by
  obtain⟨k,hk⟩:=List.getElem?_of_mem t;exact(O8 (b:=0) C.ok C.fl k x hk).1
 have u:=SK (T.L.map rowI) (T.L.map (·.id));rw[length_map]at u;refine AC (nBounds_spec D _ ic (T.L.map rowI) g J zc (T.L.map (·.id)) w4 (y H fun a c=>ag c) (ah H fun a c=>ag c) (by rw[length_map]) (by omega) z) ?_;rintro _ w5 ⟨ba,bc,rfl,H5⟩;have H6:=H.ext1 H5;clear H H5;obtain⟨bs,O⟩:∃bs,bs=Bv (T.L.map rowI) (T.L.map (·.id)):=⟨_,rfl⟩;rw[<- O]at H6 u⊢;have aw:Own w5 0 248 2 ba bs.length bc (bdC bs):=H6.ownA (.head _);refine⟨_,_,_,rfl,AC (nSpanned_spec ba bs.length bc bs n (Fh old moved) w5 aw.cells rfl (by omega) (H6.ok _ m1)) ?_⟩;rintro _ w6 (⟨N,rfl,H7⟩|⟨S,mb,N,rfl,H7⟩);rotate_left
 ·refine⟨_,_,rfl,CU (x:=_) ⟨f2,mb,rfl,?_⟩⟩
  have hl:IP T old moved=S:=by rw[IP,<- O,N]
  rw[hl];have H8:=H6.ext1 H7;rw[hY]at H8
  exact Hp.BP (R:=[.own 248 2 ba bs.length bc (bdC bs),.imap n .i64 (smC (Fh old moved)),.own 3 1 J T.L.length zc (AO (T.L.map (·.id)))]++(.own 123 5 D T.L.length ic (itsC (T.L.map AY) g)::BQ (T.L.map AY) g)) (H8.perm (by
   refine AL fun ff gg U l c Z=>?_
   simp only[c,l,U,append_eq,nil_append,cons_append];omega))
 refine⟨_,_,rfl,BA (x:=_) fun nb w7 ak=>?_⟩;have H8:Hp f w w7 (.imap nb .i64 (smC [])::_):=(H6.ext0 H7).newI EQ4 .i64 ak;clear H6 H7 ak;have al:∀{a:Asn},a∈Y->a∈(Asn.imap nb .i64 (smC [])::.own 248 2 ba bs.length bc (bdC bs)::.imap n .i64 (smC (Fh old moved))::Y):=fun h=>.tail _ (.tail _ (.tail _ h))
 have a0:T.L≠[]:=fun e=>by
  have e1:bs=[]:=List.eq_nil_of_length_eq_zero (by rw[e]at u;simpa using u);rw[e1]at N
  have e2:Dz [] (Fh old moved)≠none:=by
   have e3:JF [] (Fh old moved) 0=4611686018427387904:=rfl
   have e4:betP 0 4611686018427387904 (((0:Nat):Int)-((0:Nat):Int))=some []:=by rw[betP,if_pos (by refine⟨⟨?_,?_⟩,⟨?_,?_⟩,?_,?_,?_⟩<;>decide)];rfl
   rw[Dz,length_nil,Ej,e3,if_neg (by decide),e4];dsimp only;rw[Ej];simp
  exact e2 N
 have hl:IP T old moved=ED [] (T.L.map (·.id)) (Gq (T.L.map rowI)):=by rw[IP,<- O,N]
 rw[hl];refine AC (sLabel_spec D _ ic (T.L.map rowI) g w7 (y H8 fun a c=>al c) (Nv C a0) (by rw[length_map];omega) z) ?_;rintro _ w8 ⟨la,rfl,H9⟩;have aa:=H8.ext1 H9;clear H8 H9;have am:=WE (T.L.map rowI);rw[length_map]at am;obtain⟨P,hP⟩:∃P,P=Gq (T.L.map rowI):=⟨_,rfl⟩;rw[<- hP]at aa am⊢;obtain⟨A,ab⟩:∃A,A=T.L.map (·.id):=⟨_,rfl⟩
 have bb:A.length=T.L.length:=by rw[ab,length_map]
 refine⟨_,_,_,_,rfl,AP.mk (fun m s w'=>∃(j:Nat)(X:List Asn),m=T.L.length-j/\j<=T.L.length/\s=(j:Int)/\Hp f w w' (.imap nb .i64 (smC (ED [] (A.take j) (P.take j)))::.own 62 2 la T.L.length T.L.length (Az P)::(Y++X))) T.L.length ⟨0,[.own 248 2 ba bs.length bc (bdC bs),.imap n .i64 (smC (Fh old moved))],rfl,by omega,rfl,aa.perm ?_⟩ ?_⟩
 ·refine AL fun ff gg U l c Z=>?_
  simp only[take_zero,ED,c,l,U,append_eq,nil_append,cons_append];omega
 clear aa;rintro m s w9 nx ⟨j,X,rfl,hj,rfl,H⟩ M;refine AB (fun h2=>?_) (fun h2=>?_)
 ·have d:j<P.length:=by omega
  obtain⟨p,hp⟩:∃p,P[j]? =some p:=⟨_,List.getElem?_eq_getElem d⟩;obtain⟨i,hi⟩:∃i,A[j]? =some i:=⟨_,List.getElem?_eq_getElem (by omega)⟩;obtain⟨ad,q,a1⟩:=H.ldOA (w':=w9) (o:=j*2) EQ4 EK (by omega) m1 (Jj hp) rfl;refine AA q ⟨⟨by omega,h2⟩,p.1,p.2,by rw[Int.toNat_natCast];exact a1,fun xb bd an=>?_⟩;have H2:=H.nw an;refine Hp.sA H2 EK (cs':=[.int .i64 p.1,.int .i64 p.2]) fun a2 K=>?_
  have ao:(AO (T.L.map (·.id)))[j]? =some (.int .i64 i):=by rw[<- ab];simp[AO,hi]
  have ap:Cells a2.drew J (AO (T.L.map (·.id))):=ah K.drew fun a c=>.tail _ (.tail _ (.tail _ (List.mem_append_left _ c)));obtain⟨zd,aq,_⟩:=ap _ _ ao;refine AA aq ⟨⟨by omega,by omega⟩,i,by rw[Int.toNat_natCast,Nat.mul_one];exact ap.ld yInt aq ao,p.1,p.2,K.loA EK,?_⟩;refine Hp.mupI (v:=.agg #[.int .i64 p.1,.int .i64 p.2]) IZ K.drew.Ae EQ4 fun bh H4=>⟨iR,M (T.L.length-(j+1)) _ _ (by omega) ⟨j+1,.blk xb [.int .i64 p.1,.int .i64 p.2] 62::X,rfl,by omega,rfl,?_⟩⟩;have e1:=Lp (ED [] (A.take j) (P.take j)) i p
  have e2:ED [] (A.take (j+1)) (P.take (j+1))=sput (ED [] (A.take j) (P.take j)) i p:=by
   rw[take_succ_eq_append_getElem (by omega),(List.getElem?_eq_some_iff.1 hi).2,take_succ_eq_append_getElem d,(List.getElem?_eq_some_iff.1 hp).2,QH _ _ _ _ _ (by rw[length_take,length_take];omega)]
  have e3:spV p=.agg #[.int .i64 p.1,.int .i64 p.2]:=rfl;rw[e2,<- e1,e3]
  exact H4.perm (by
   refine AL fun ff gg U l c Z=>?_
   simp only[c,l,U,append_eq,nil_append,cons_append];omega)
 ·rw[take_of_length_le (by omega),take_of_length_le (by omega),ab,hY]at H
  refine⟨f2,nb,rfl,?_⟩
  exact Hp.BP (R:=[.own 62 2 la T.L.length T.L.length (Az P),.own 3 1 J T.L.length zc (AO (T.L.map (·.id)))]++((.own 123 5 D T.L.length ic (itsC (T.L.map AY) g)::BQ (T.L.map AY) g)++X)) (H.perm (by
   refine AL fun ff gg U l c Z=>?_
   simp only[c,l,U,append_eq,nil_append,cons_append];omega))
end
end Go.Proofs.YtljenkbpnioipaaGreat
namespace Go.Vc
open Go
def sEq:Value->Value->Bool
 |.int _ a,.int _ b=>decide (a=b)
 |.bool a,.bool b=>a==b
 |.string a,.string b=>decide (a=b)
 |_,_=>false
theorem beqB(a b:ByteArray):(a==b)=decide (a=b):=by
 obtain⟨x⟩:=a;obtain⟨y⟩:=b;show(x==y)=_;rw[Bool.eq_iff_iff];simp
def kdB(P:Program)(t:TypeId)(k:Kd):Bool:=match P.underlying t,k with
 |some (.int q),.inl q'=>decide (q=q')
 |some .bool,.inr 0=>true
 |some .string,.inr 1=>true
 |_,_=>false
def SV(P:Program):List Field->List (Nat×Kd)->Bool
 | [],[]=>true
 | f :: fs, (o, k) :: l => Nat.beq f.offset o && f.name != "_" && kdB P f.type k && SV P fs l
 |_,_=>false
structure dO(P:Program)(t:TypeId)(l:List (Nat×Kd)):Prop where
 und:∃fs,P.underlying t=some (.struct fs)/\SV P fs.toList l=true
 guard:P.eqGuardType P.depth t=false
 stood:P.stoodInHeld t=false
def dF(P:Program)(t:TypeId)(l:List (Nat×Kd)):Bool:=match P.underlying t with
 |some (.struct fs)=>SV P fs.toList l&& !P.eqGuardType P.depth t&& !P.stoodInHeld t
 |_=>false
theorem flat_of{P:Program}{t:TypeId}{l:List (Nat×Kd)}(h:dF P t l=true):dO P t l:=by
 unfold dF at h;split at h
 ·rename_i a b
  simp only[Bool.and_eq_true,Bool.not_eq_true']at h;exact⟨⟨a,b,h.1.1⟩,h.1.2,h.2⟩
 ·cases h
def fitL(l:List (Nat×Kd))(cs:List Value):Bool:=l.all fun p=>match cs[p.1]? with
 |some v=>(fromV p.2 v).isSome
 |none=>false
def eqL(l:List (Nat×Kd))(xs ys:List Value):Bool:=l.all fun p=>match xs[p.1]?,ys[p.1]? with
 |some a,some b=>sEq a b
 |_,_=>false
section
variable{P:Program}{w:World}
theorem run_sEq{t:TypeId}{k:Kd}{a b:Value}{d:Nat}(g:kdB P t k=true)(c:(fromV k a).isSome=true)(e:(fromV k b).isSome=true):(Op.equalIn (d+1) t a b).run P w=.ok (sEq a b) w:=by
 unfold kdB at g;split at g
 ·rename_i q j f
  have:=of_decide_eq_true g;subst this;cases a<;>simp only[fromV,Option.isSome_none,Bool.false_eq_true]at c;cases b<;>simp only[fromV,Option.isSome_none,Bool.false_eq_true]at e;split at c
  ·split at e
   ·rename_i h _ i
    have h:=of_decide_eq_true h;have i:=of_decide_eq_true i;subst h;subst i;exact(run_equalIn_int w d t _ _ _ _ f).trans (by rw[sEq,Bool.beq_eq_decide_eq])
   ·cases e
  ·cases c
 ·rename_i f
  cases a<;>simp[fromV]at c;cases b<;>simp[fromV]at e;exact run_equalIn_bool w d t _ _ f
 ·rename_i f
  cases a<;>simp[fromV]at c;cases b<;>simp[fromV]at e;simp[Op.equalIn,run_underlying f,sEq,beqB]
 ·cases g
theorem Ih{t:TypeId}{k:Kd}{xs:Array Value}{o:Nat}{v:Value}(a:kdB P t k=true)(b:xs[o]? =some v):(part t xs o).run P w=.ok v w:=by
 refine run_part_plain w ?_ b;unfold kdB at a;unfold Program.plainKey;split at a<;>simp_all
theorem Oh{d:Nat}{xs ys:List Value}:∀(c:List Field)(l:List (Nat×Kd)),SV P c l=true->fitL l xs=true->fitL l ys=true->(Op.eqFields (d+1) xs.toArray ys.toArray c).run P w=.ok (eqL l xs ys) w
 | [],[],_,_,_=>rfl
 |f::c,(o,k)::l,h,hx,hy=>by
  simp only[SV,Bool.and_eq_true]at h;obtain⟨⟨⟨g,i⟩,e⟩,j⟩:=h;have:=Nat.eq_of_beq_eq_true g;subst this;simp only[fitL,all_cons,Bool.and_eq_true]at hx hy
  cases ha:xs[f.offset]? with
  |none=>rw[ha]at hx;cases hx.1
  |some a=>
   cases hb:ys[f.offset]? with
   |none=>rw[hb]at hy;cases hy.1
   |some b=>
    rw[ha]at hx;rw[hb]at hy;have m:=Oh (d:=d) c l j hx.2 hy.2;simp only[Op.eqFields];rw[if_pos (by simpa using i)];simp only[Sem.run_bind,Ih (w:=w) e (show xs.toArray[f.offset]? =some a by simpa using ha),Ih (w:=w) e (show ys.toArray[f.offset]? =some b by simpa using hb),Result.andThen_ok,run_sEq e hx.1 hy.1]
    have n:eqL ((f.offset,k)::l) xs ys=(sEq a b&&eqL l xs ys):=by simp only[eqL,all_cons,ha,hb]
    rw[n]
    cases sEq a b with
    |true=>simpa using m
    |false=>simp
theorem run_flat{t:TypeId}{l:List (Nat×Kd)}(T:dO P t l){xs ys:List Value}(c:fitL l xs=true)(d:fitL l ys=true):(Op.equalIn 10000 t (.agg xs.toArray) (.agg ys.toArray)).run P w=.ok (eqL l xs ys) w:=by
 obtain⟨⟨a,b,f⟩,h,g⟩:=T
 have e:P.fieldsOf t=a:=by simp[Program.fieldsOf,b]
 rw[run_equalIn_struct w 9999 t _ _ (by rw[e];exact b) g,e];exact Oh a.toList l f c d
end
structure Q3(P:Program)(t:TypeId):Prop where
 und : ∃ f g, P.underlying t = some (.struct #[f, g]) ∧ f.offset = 0 ∧ g.offset = 1 ∧ f.name ≠ "_" ∧ g.name ≠ "_" ∧ kdB P f.type (.inl .i64) = true ∧ kdB P g.type (.inl .i64) = true
 flat:dO P t [(0,.inl .i64),(1,.inl .i64)]
def fA(P:Program)(t:TypeId):Bool:=match P.underlying t with
 | some (.struct ⟨[f, g]⟩) => Nat.beq f.offset 0 && Nat.beq g.offset 1 && f.name != "_" && g.name != "_" && kdB P f.type (.inl .i64) && kdB P g.type (.inl .i64)
 |_=>false
theorem pair_of{P:Program}{t:TypeId}(h:fA P t=true)(a:dF P t [(0,.inl .i64),(1,.inl .i64)]=true):Q3 P t:=by
 refine⟨?_,flat_of a⟩;unfold fA at h;split at h
 ·rename_i f g c
  simp only[Bool.and_eq_true,bne_iff_ne,ne_eq]at h;obtain⟨⟨⟨⟨⟨d,e⟩,i⟩,j⟩,k⟩,l⟩:=h;exact⟨f,g,c,Nat.eq_of_beq_eq_true d,Nat.eq_of_beq_eq_true e,i,j,k,l⟩
 ·cases h
def Ag(p:Int×Int):Value:=.agg #[.int .i64 p.1,.int .i64 p.2]
section
variable{P:Program}{t:TypeId}{w:World}
theorem OE{t:TypeId}{k:Kd}{v:Value}{c:Bool}{n:Nat}(h:kdB P t k=true):(Instr.checkKey c (n+1) t v).run P w=.ok () w:=by
 unfold kdB at h;split at h
 ·rename_i a;simp only[Instr.checkKey,Sem.run_bind,Ad a,Result.andThen_ok,Sem.run_pure]
 ·rename_i a;simp only[Instr.checkKey,Sem.run_bind,Ad a,Result.andThen_ok,Sem.run_pure]
 ·rename_i a;simp only[Instr.checkKey,Sem.run_bind,Ad a,Result.andThen_ok,Sem.run_pure]
 ·cases h
theorem Ug(T:Q3 P t)(h:Bool)(p:Int×Int)(w:World):(Instr.checkKey h 10000 t (Ag p)).run P w=.ok () w:=by
 obtain⟨⟨f,g,i,j,k,d,e,a,c⟩,_⟩:=T;show(Instr.checkKey h (9998+1+1) t (Ag p)).run P w=.ok () w;rw[Instr.checkKey];simp only[Ag,Sem.run_bind,Ad i,Result.andThen_ok];rw[<- Array.forIn_toList]
 simp only[List.forIn_cons,List.forIn_nil,Sem.run_bind,d,e,ne_eq,not_false_eq_true,if_true,Result.andThen_ok,Ih (w:=w) a (show(#[Value.int .i64 p.1,Value.int .i64 p.2]:Array Value)[f.offset]? =some (.int .i64 p.1) by rw[j];rfl),
  Ih (w:=w) c (show(#[Value.int .i64 p.1,Value.int .i64 p.2]:Array Value)[g.offset]? =some (.int .i64 p.2) by rw[k];rfl),OE a,OE c,Sem.run_pure]
theorem pair_equal(T:Q3 P t)(a b:Int×Int)(w:World):(Op.equal t (Ag a) (Ag b)).run P w=.ok (decide (a=b)) w:=by
 have:=run_flat (w:=w) T.flat (xs:=[.int .i64 a.1,.int .i64 a.2]) (ys:=[.int .i64 b.1,.int .i64 b.2]) (by simp[fitL,fromV];exact⟨rfl,rfl⟩) (by simp[fitL,fromV];exact⟨rfl,rfl⟩);refine this.trans ?_;simp only[eqL,all_cons,List.all_nil,List.getElem?_cons_zero,List.getElem?_cons_succ,sEq,Bool.and_true];congr 1;rw[<- Bool.decide_and];exact decide_eq_decide.2 ⟨fun h=>Prod.ext h.1 h.2,fun h=>by rw[h];exact⟨rfl,rfl⟩⟩
def I9(es:List MapEntry)(al:List ((Int×Int)×Value)):Prop:=es.map (fun e=>(e.key,e.val))=al.map fun p=>(Ag p.1,p.2)
def MapP(w:World)(b:Nat)(al:List ((Int×Int)×Value)):Prop:=
 ∃es clock,w.heap[b]? =some (.map es clock)/\I9 es.toList al/\(es.toList.map (·.born)).Nodup/\∀e∈es.toList,e.born<clock
theorem Sv(T:Q3 P t)(w:World):∀{a:List MapEntry}{al:List ((Int×Int)×Value)}(i:Nat)(k:Int×Int),I9 a al->
  (aget al k=none/\(Instr.findAsking t (Ag k) a i).run P w=.ok none w)\/
  ∃j v e,aget al k=some v/\(Instr.findAsking t (Ag k) a i).run P w=.ok (some (i+j,v)) w/\a[j]? =some e/\e.key=Ag k/\e.val=v/\
   (∀c,I9 (a.modify j fun e=> {e with key:=Ag k,val:=c}) (aput al k c))
 | [],al,i,k,h=>by
  have:al=[]:=by cases al with
   |nil=>rfl
   |cons p r=>simp[I9]at h
  subst this;exact .inl ⟨rfl,rfl⟩
 |e::a,al,i,k,h=>by
  cases al with
  |nil=>simp[I9]at h
  |cons p al=>
   obtain⟨x,u⟩:=p;simp only[I9,map_cons,List.cons.injEq,Prod.mk.injEq]at h;obtain⟨⟨f,g⟩,h⟩:=h;simp only[Instr.findAsking,Sem.run_bind,f,pair_equal T,Result.andThen_ok,aget,aput];by_cases d:k=x
   ·subst d
    right;refine⟨0,u,e,by simp,by simp[g],by simp,f,g,fun c=>?_⟩;simp only[if_true,I9,List.modify_zero_cons,map_cons,f];rw[h]
   ·simp only[d,decide_false,if_false,Bool.false_eq_true]
    rcases Sv T w (i+1) k h with⟨l,m⟩|⟨j,v,n,l,m,o,q,s,y⟩
    ·exact .inl ⟨l,m⟩
    ·right
     refine⟨j+1,v,n,l,by rw[m];congr 3;omega,by simpa using o,q,s,fun c=>?_⟩;have:=y c;simp only[I9,List.modify_succ_cons,map_cons,f,g]at this⊢;rw[this]
theorem Vz{K:Type}[DecidableEq K]{k:K}{v:Value}:∀(al:List (K×Value)),aget al k=none->aput al k v=al++[(k,v)]
 | [],_=>rfl
 |(x,u)::r,hn=>by
  simp only[aget]at hn;split at hn
  ·cases hn
  ·rename_i a
   simp only[aput,if_neg a,Vz r hn,cons_append]
theorem Q3.wide(T:Q3 P t):(match P.underlying t with|some (.array _ _)|some (.struct _)=>true|_=>false)=true:=by
 obtain⟨⟨f,g,a,_⟩,_⟩:=T;rw[a]
structure YI(P:Program)(t kT eT:TypeId)(z:Value):Prop where
 und:P.underlying t=some (.map kT eT)
 key:Q3 P kT
 zero:zeroOf P eT=some z
theorem bG{kT eT:TypeId}{z:Value}(T:YI P t kT eT z){b:Nat}{al:List ((Int×Int)×Value)}(h:MapP w b al)(k:Int×Int):
  Lk P t false w (.map (some b)) (Ag k) ((aget al k).getD z)/\Lk P t true w (.map (some b)) (Ag k) (.tuple #[(aget al k).getD z,.bool (aget al k).isSome]):=by
 obtain⟨i,d,l,m,n⟩:=h;have a:∀e,(Instr.checkKey e 10000 kT (Ag k)).run P w=.ok () w:=fun e=>Ug T.key e k w;have c:(Instr.findKey kT (Ag k) i.toList).run P w=(Instr.findAsking kT (Ag k) i.toList).run P w:=run_findKey_eq w T.key.wide _ _
 rcases Sv T.key w 0 k m with⟨f,g⟩|⟨j,v,e,f,g,-⟩
 ·simp only[Lk,Instr.lookup,Sem.run_bind,Ad T.und,Result.andThen_ok,run_getObj_map l,Sem.run_pure,a,c,g,Sem.run_map,Gf T.zero,f]
  constructor<;>rfl
 ·simp only[Lk,Instr.lookup,Sem.run_bind,Ad T.und,Result.andThen_ok,run_getObj_map l,Sem.run_pure,a,c,g,f]
  constructor<;>rfl
def IA(b:Nat)(al:List ((Int×Int)×Value)):Asn:=.any [b] fun w=>MapP w b al
theorem az{b:Nat}{al:List ((Int×Int)×Value)}{w:World}(h:MapP w b al):(IA b al).ok w:=
 ⟨by intro k d;simp at d;subst d;obtain⟨f,c,a,_⟩:=h;exact(Array.getElem?_eq_some_iff.1 a).1,fun w' e=>by
  obtain⟨f,c,a,g⟩:=h
  exact⟨f,c,(e b (by simp)).trans a,g⟩⟩
theorem Tq{b:Nat}{al:List ((Int×Int)×Value)}{w:World}(h:(IA b al).ok w):MapP w b al:=h.2 w fun _ _=>rfl
variable{B:List Nat}{w0 w':World}{L:List Asn}{kT eT:TypeId}{z v:Value}{b:Nat}
theorem Hp.newP(H:Hp B w0 w L)(e:Eqw w w'){w1:World}(h:New w' (.map #[] 0) b w1):Hp B w0 w1 (IA b []::L):=
 (H.go e).add h.chg (az ⟨#[],0,h.blk,rfl,by simp,by simp⟩) (by simp[Asn.foot,IA];exact h.num▸Nat.le_refl _)
theorem Hp.lkP{al:List ((Int×Int)×Value)}(T:YI P t kT eT z)(H:Hp B w0 w L)(e:Eqw w w')(m:IA b al∈L){x:Int×Int}(hv:(aget al x).getD z=v):Lk P t false w' (.map (some b)) (Ag x) v:=by
 subst hv;exact(bG T (Tq ((H.go e).ok _ m)) x).1
end
section
variable{P:Program}{t:TypeId}
theorem Lh{K:Type}[DecidableEq K](k:K)(v:Value):∀(al:List (K×Value)),aget (aput al k v) k=some v
 | []=>by simp[aput,aget]
 |(x,u)::r=>by
  rw[aput];by_cases h:k=x
  ·rw[if_pos h,aget,if_pos h]
  ·rw[if_neg h,aget,if_neg h];exact Lh k v r
theorem men_pair{kT eT:TypeId}{z:Value}(T:YI P t kT eT z){w:World}{b:Nat}{al:List ((Int×Int)×Value)}(h:MapP w b al)(k:Int×Int)(v:Value):
  ∃(u:Value)(i:Int)(w1 Z:World),MEn P t w (.map (some b)) (Ag k) (.tuple #[u,.int .i64 i]) w1/\MapP w1 b (aput al k ((aget al k).getD z))/\ESt P t w1 (.map (some b)) (.int .i64 i) v Z/\MapP Z b (aput al k v)/\Chg [b] w Z:=by
 obtain⟨l,d,K,h2,h3,h4⟩:=h;have M:∀e,(Instr.checkKey e 10000 kT (Ag k)).run P w=.ok () w:=fun e=>Ug T.key e k w;have N:(Instr.findKey kT (Ag k) l.toList).run P w=(Instr.findAsking kT (Ag k) l.toList).run P w:=run_findKey_eq w T.key.wide _ _;have n:=(Array.getElem?_eq_some_iff.1 K).1
 have m:∀o,aget al k=none->I9 (l.push {key:=Ag k,val:=o,born:=d}).toList (aput al k o):=fun o A=>by
  rw[Array.toList_push,Vz al A];simp only[I9,map_append,map_cons,map_nil]at h2⊢;rw[h2]
 have C:∀o,((l.push {key:=Ag k,val:=o,born:=d}).toList.map (·.born)).Nodup:=fun o=>by
  rw[Array.toList_push,map_append,nodup_append];refine⟨h3,by simp,?_⟩;intro a ha c hc;simp at hc;subst hc;obtain⟨e,r,rfl⟩:=mem_map.1 ha;exact Nat.ne_of_lt (h4 e r)
 have O:∀o,∀e∈(l.push {key:=Ag k,val:=o,born:=d}).toList,e.born<d+1:=fun o e r=>by
  rw[Array.toList_push]at r;rcases mem_append.1 r with r|r
  ·exact Nat.lt_succ_of_lt (h4 e r)
  ·simp at r;subst r;exact Nat.lt_succ_self _
 rcases Sv T.key w 0 k h2 with⟨A,X⟩|⟨j,u,e,A,X,g3,g4,g5,g6⟩
 ·obtain⟨f,g⟩:∃f,f=l.push {key:=Ag k,val:=z,born:=d}:=⟨_,rfl⟩
  have p:(setB w b (.map f (d+1))).heap[b]? =some (.map f (d+1)):=DT n
  have s:(f.toList.map (·.born)).Nodup:=by rw[g];exact C z
  have D:f[l.size]? =some {key:=Ag k,val:=z,born:=d}:=by rw[g];simp
  have F:=Un s D
  have q:f.modify l.size (fun e=> {e with val:=v})=l.push {key:=Ag k,val:=v,born:=d}:=by
   apply Array.ext_getElem?;intro i;rw[Array.getElem?_modify,g,Array.getElem?_push,Array.getElem?_push];by_cases J:i=l.size
   ·subst J;simp
   ·rw[if_neg (fun h=>J h.symm),if_neg J,if_neg J]
  refine⟨z,d,setB w b (.map f (d+1)),setB (setB w b (.map f (d+1))) b (.map (l.push {key:=Ag k,val:=v,born:=d}) (d+1)),?_,?_,?_,?_,?_⟩
  ·simp only[MEn,Instr.mapEntry,Sem.run_bind,Ad T.und,Result.andThen_ok,run_getObj_map K,M,N,X,Gf T.zero,run_setObj_map K,Sem.run_pure,<- g]
   rfl
  ·rw[A,g]
   exact⟨_,_,DT n,m z A,C z,O z⟩
  ·simp only[ESt,Instr.entryStore,Sem.run_bind,Sem.run_pure,Result.andThen_ok,run_getObj_map p,Wi]
   rw[show f.findIdx? (fun e=>(e.born:Int)==(d:Int))=some l.size from F];simp only[run_setObj_map p,q]
  ·rw[JQ]
   exact⟨_,_,DT n,m v A,C v,O v⟩
  ·rw[JQ];exact DV _ _ _
 ·have hj:l[j]? =some e:=by simpa using g3
  rw[Nat.zero_add]at X;obtain⟨f,g⟩:∃f,f=l.modify j fun e=> {e with key:=Ag k}:=⟨_,rfl⟩;have p:(setB w b (.map f d)).heap[b]? =some (.map f d):=DT n
  have G:f.toList.map (·.born)=l.toList.map (·.born):=by
   rw[g,Array.toList_modify];apply ext_getElem?;intro i;simp only[List.getElem?_map,List.getElem?_modify]
   cases l.toList[i]? with
   |none=>rfl
   |some e=>simp only[Option.map_some,Functor.map];split<;>rfl
  have s:(f.toList.map (·.born)).Nodup:=by rw[G];exact h3
  have D:f[j]? =some {e with key:=Ag k}:=by rw[g,Array.getElem?_modify,if_pos rfl,hj];rfl
  have F:=Un s D
  have q:f.modify j (fun e=> {e with val:=v})=l.modify j fun e=> {e with key:=Ag k,val:=v}:=by
   apply Array.ext_getElem?;intro i;rw[Array.getElem?_modify,g,Array.getElem?_modify,Array.getElem?_modify];split
   ·cases l[i]? <;>rfl
   ·rfl
  have R:Instr.sameBits 10000 (Ag k) (Ag k)=true:=by
   show Instr.sameBits (9999+1) (Ag k) (Ag k)=true;simp[Instr.sameBits,Ag]
  have H:(Instr.keyThatStays (Ag k) (Ag k)).run P w=.ok (Ag k) w:=by
   simp[Instr.keyThatStays,R]
  have U:∀o,∀Y∈(l.modify j fun e=> {e with key:=Ag k,val:=o}).toList,Y.born<d:=fun o Y aa=>by
   have:Y.born∈(l.modify j fun e=> {e with key:=Ag k,val:=o}).toList.map (·.born):=mem_map.2 ⟨Y,aa,rfl⟩;rw[Array.toList_modify,Iy]at this;obtain⟨e2,ab,e3⟩:=mem_map.1 this;rw[<- e3];exact h4 e2 ab
  have y:f=l.modify j fun e=> {e with key:=Ag k,val:=u}:=by
   rw[g];apply Array.ext_getElem?;intro i;rw[Array.getElem?_modify,Array.getElem?_modify];split
   ·rename_i J;subst J
    rw[hj];simp only[Option.map_some,g5]
   ·rfl
  refine⟨u,e.born,setB w b (.map f d),setB (setB w b (.map f d)) b (.map (l.modify j fun e=> {e with key:=Ag k,val:=v}) d),?_,?_,?_,?_,?_⟩
  ·simp only[MEn,Instr.mapEntry,Sem.run_bind,Ad T.und,Result.andThen_ok,run_getObj_map K,M,N,X,hj,Option.map_some,Option.getD_some,g4,H,run_setObj_map K,Sem.run_pure,<- g]
   rfl
  ·rw[A,Option.getD_some]
   refine⟨_,_,DT n,?_,s,?_⟩
   ·rw[y,Array.toList_modify];exact g6 u
   ·rw[y];exact U u
  ·simp only[ESt,Instr.entryStore,Sem.run_bind,Sem.run_pure,Result.andThen_ok,run_getObj_map p,Wi]
   rw[show f.findIdx? (fun x=>(x.born:Int)==(e.born:Int))=some j from F];simp only[run_setObj_map p,q]
  ·rw[JQ]
   refine⟨_,_,DT n,?_,?_,U v⟩
   ·rw[Array.toList_modify];exact g6 v
   ·rw[Array.toList_modify,Iy];exact h3
  ·rw[JQ];exact DV _ _ _
variable{B:List Nat}{w0 w w':World}{L:List Asn}{kT eT:TypeId}{z v:Value}{b:Nat}
theorem Hp.menP{al:List ((Int×Int)×Value)}(T:YI P t kT eT z)(H:Hp B w0 w (IA b al::L))(e:Eqw w w'){x:Int×Int}{y:Value}(c:(aget al x).getD z=y){G:World->Prop}
  (d:∀w1,Hp B w0 w1 (IA b (aput al x v)::L)->G w1):∃(u:Value)(i:Int)(w1:World),MEn P t w' (.map (some b)) (Ag x) (.tuple #[u,.int .i64 i]) w1/\Lk P t false w1 (.map (some b)) (Ag x) y/\∃a,ESt P t w1 (.map (some b)) (.int .i64 i) v a/\G a:=by
 obtain⟨u,i,w1,a,f,g,h,j,l⟩:=men_pair T (Tq ((H.go e).ok _ (.head _))) x v;refine⟨u,i,w1,f,?_,a,h,d a ((H.go e).set l (az j) fun k m=>.inl m)⟩;have:=(bG T g x).1;rw[Lh,Option.getD_some,c]at this;exact this
end
end Go.Vc
namespace Go.Nod
open Go Go.Vc
section
variable{K V:Type}
def gC(enc:V->Value)(l:List (K×V)):List (K×Value):=l.map fun p=>(p.1,enc p.2)
theorem Q7(enc:V->Value)(l:List (K×V)):(gC enc l).map (·.1)=l.map (·.1):=by
 rw[gC,map_map];rfl
theorem eH(enc:V->Value)(l:List (K×V)):(gC enc l).length=l.length:=length_map _
end
section
variable{K V:Type}[DecidableEq K]
def gget:List (K×V)->K->Option V
 | [],_=>none
 |(x,s)::r,k=>if k=x then some s else gget r k
def gput:List (K×V)->K->V->List (K×V)
 | [],k,v=>[(k,v)]
 |(x,s)::r,k,v=>if k=x then(x,v)::r else(x,s)::gput r k v
def gdel:List (K×V)->K->List (K×V)
 | [],_=>[]
 |(x,s)::r,k=>if k=x then r else(x,s)::gdel r k
theorem LQ(enc:V->Value):∀(l:List (K×V))(k:K),aget (gC enc l) k=(gget l k).map enc
 | [],k=>rfl
 |(x,s)::r,k=>by
  have a:=LQ enc r k;rw[gget];show(if k=x then some (enc s)else aget (gC enc r) k)=_;by_cases h:k=x
  ·rw[if_pos h,if_pos h];rfl
  ·rw[if_neg h,if_neg h,a]
theorem Nl(enc:V->Value):∀(l:List (K×V))(k:K)(v:V),aput (gC enc l) k (enc v)=gC enc (gput l k v)
 | [],k,v=>rfl
 |(x,s)::r,k,v=>by
  have a:=Nl enc r k v;rw[gput];show(if k=x then(x,enc v)::gC enc r else(x,enc s)::aput (gC enc r) k (enc v))=_;by_cases h:k=x
  ·rw[if_pos h,if_pos h];rfl
  ·rw[if_neg h,if_neg h,a];rfl
theorem bu(enc:V->Value):∀(l:List (K×V))(k:K),adel (gC enc l) k=gC enc (gdel l k)
 | [],k=>rfl
 |(x,s)::r,k=>by
  have a:=bu enc r k;rw[gdel];show(if k=x then gC enc r else(x,enc s)::adel (gC enc r) k)=_;by_cases h:k=x
  ·rw[if_pos h,if_pos h]
  ·rw[if_neg h,if_neg h,a];rfl
theorem OB:∀(l:List (K×V))(k x:K)(v:V),gget (gput l k v) x=if x=k then some v else gget l x
 | [],k,x,v=>rfl
 |(y,u)::r,k,x,v=>by
  have b:=OB r k x v;rw[gput];by_cases h:k=y
  ·subst h
   rw[if_pos rfl,gget,gget];by_cases a:x=k<;>simp[a]
  ·rw[if_neg h,gget,gget,b]
   by_cases a:x=y
   ·subst a;rw[if_pos rfl,if_pos rfl,if_neg fun e=>h e.symm]
   ·rw[if_neg a,if_neg a]
theorem Jg:∀(l:List (K×V))(k:K)(v:V),(gput l k v).map (·.1)=if k∈l.map (·.1)then l.map (·.1)else l.map (·.1)++[k]
 | [],k,v=>by simp[gput]
 |(y,u)::r,k,v=>by
  have b:=Jg r k v;rw[gput];by_cases h:k=y
  ·rw[if_pos h,if_pos (by rw[h];exact .head _)];rfl
  ·rw[if_neg h,map_cons,b,map_cons]
   by_cases a:k∈r.map (·.1)
   ·rw[if_pos a,if_pos (.tail _ a)]
   ·rw[if_neg a,if_neg fun c=>(mem_cons.1 c).elim h a];rfl
theorem IC{l:List (K×V)}(h:(l.map (·.1)).Nodup)(k:K)(v:V):((gput l k v).map (·.1)).Nodup:=by
 rw[Jg];split
 ·exact h
 ·rename_i d
  rw[nodup_append];exact⟨h,by simp,fun a f c b e=>by rw[mem_singleton]at b;subst b;exact d (e▸f)⟩
theorem Ec:∀{l:List (K×V)}{k:K},gget l k=none↔k∉l.map (·.1)
 | [],k=>by simp[gget]
 |(y,u)::r,k=>by
  rw[gget,map_cons,mem_cons,not_or];by_cases h:k=y
  ·rw[if_pos h];exact⟨fun e=>(by cases e),fun e=>(e.1 h).elim⟩
  ·rw[if_neg h,Ec];exact⟨fun e=>⟨h,e⟩,fun e=>e.2⟩
theorem ML:∀{l:List (K×V)}{k:K}{v:V},gget l k=some v->(k,v)∈l
 |(y,u)::r,k,v,h=>by
  rw[gget]at h;by_cases e:k=y
  ·subst e;rw[if_pos rfl]at h;cases h;exact .head _
  ·rw[if_neg e]at h;exact .tail _ (ML h)
theorem Td:∀(l:List (K×V))(k x:K),(l.map (·.1)).Nodup->gget (gdel l k) x=if x=k then none else gget l x
 | [],k,x,_=>by rw[gdel,gget];split<;>rfl
 |(y,u)::r,k,x,hn=>by
  rw[map_cons,List.nodup_cons]at hn;have b:=Td r k x hn.2;rw[gdel];by_cases h:k=y
  ·subst h
   rw[if_pos rfl,gget];by_cases a:x=k
   ·subst a
    rw[if_pos rfl];exact Ec.2 hn.1
   ·rw[if_neg a,if_neg a]
  ·rw[if_neg h,gget,gget,b]
   by_cases a:x=y
   ·subst a;rw[if_pos rfl,if_pos rfl,if_neg fun e=>h e.symm]
   ·rw[if_neg a,if_neg a]
theorem KP:∀(l:List (K×V))(k:K),(gdel l k).Sublist l
 | [],k=>.slnil
 |(y,u)::r,k=>by
  rw[gdel];by_cases h:k=y
  ·rw[if_pos h];exact List.sublist_cons_self _ _
  ·rw[if_neg h];exact(KP r k).cons_cons _
theorem Uo{l:List (K×V)}(h:(l.map (·.1)).Nodup)(k:K):((gdel l k).map (·.1)).Nodup:=h.sublist ((KP l k).map _)
theorem UU(l:List (K×V))(k:K)(v:V):(gput l k v).length<=l.length+1:=by
 have h:=congrArg List.length (Jg l k v);rw[length_map]at h;rw[h];split<;>simp
theorem Jb{l:List (K×V)}{k:K}{v:V}{p:K×V}(h:p∈gput l k v):p=(k,v)\/p∈l:=by
 induction l with
 |nil=>rw[gput,mem_singleton]at h;exact .inl h
 |cons q r a=>
  obtain⟨y,u⟩:=q;rw[gput]at h;by_cases e:k=y
  ·rw[if_pos e,mem_cons]at h
   rcases h with h|h
   ·exact .inl (by rw[h,e])
   ·exact .inr (.tail _ h)
  ·rw[if_neg e,mem_cons]at h
   rcases h with h|h
   ·exact .inr (by rw[h];exact .head _)
   ·rcases a h with h|h
    ·exact .inl h
    ·exact .inr (.tail _ h)
end
noncomputable section
open Classical
def leS(a b:ByteArray):Bool:=decide (a.data.toList<=b.data.toList)
def Eh(l:List ByteArray):List ByteArray:=l.mergeSort leS
theorem Dy(l:List ByteArray):(Eh l).Perm l:=mergeSort_perm l leS
theorem IL{l:List ByteArray}(h:l.Nodup):(Eh l).Pairwise fun x y=>x.data.toList<y.data.toList:=by
 have i:∀a b c:ByteArray,leS a b=true->leS b c=true->leS a c=true:=fun a b c d e=>by simp only[leS,decide_eq_true_eq]at*;exact le_trans d e
 have j:∀a b:ByteArray,(leS a b||leS b a)=true:=fun a b=>by simp only[leS,Bool.or_eq_true,decide_eq_true_eq];exact le_total _ _
 have d:=pairwise_mergeSort i j l;have e:(Eh l).Nodup:=(Dy l).nodup_iff.2 h;refine(d.and e).imp fun⟨g,k⟩=>?_;simp only[leS,decide_eq_true_eq]at g;rcases List.le_iff_lt_or_eq.1 g with f|f
 ·exact f
 ·exact(k (eqB f)).elim
theorem FW{l:List ByteArray}{x:ByteArray}:x∈Eh l↔x∈l:=(Dy l).mem_iff
theorem JZ(l:List ByteArray):(Eh l).length=l.length:=(Dy l).length_eq
def addN(l:List ByteArray)(n:ByteArray):List ByteArray:=if n∈l then l else l++[n]
def uniq(l:List ByteArray):List ByteArray:=l.foldl addN []
theorem WP(l:List ByteArray)(n:ByteArray):uniq (l++[n])=addN (uniq l) n:=by rw[uniq,List.foldl_append];rfl
theorem addN_mem{l:List ByteArray}{n x:ByteArray}:x∈addN l n↔x∈l\/x=n:=by
 rw[addN];split
 ·rename_i h
  exact⟨.inl,fun a=>a.elim id fun e=>e▸h⟩
 ·rw[mem_append,mem_singleton]
theorem addN_nodup{l:List ByteArray}(h:l.Nodup)(n:ByteArray):(addN l n).Nodup:=by
 rw[addN];split
 ·exact h
 ·rename_i d
  rw[nodup_append];exact⟨h,by simp,fun a f c b e=>by rw[mem_singleton]at b;subst b;exact d (e▸f)⟩
theorem NT(l:List ByteArray):∀(A:List ByteArray),(∀x,x∈l.foldl addN A↔x∈A\/x∈l)/\(A.Nodup->(l.foldl addN A).Nodup)/\(l.foldl addN A).length<=A.length+l.length:=by
 induction l with
 |nil=>intro A;simp
 |cons n r a=>
  intro A;obtain⟨b,c,d⟩:=a (addN A n);refine⟨fun x=>?_,fun h=>c (addN_nodup h n),?_⟩
  ·rw[List.foldl_cons,b,addN_mem,mem_cons,or_assoc]
  ·have:(addN A n).length<=A.length+1:=by rw[addN];split<;>simp
   rw[List.foldl_cons,length_cons];omega
theorem uniq_mem{l:List ByteArray}{x:ByteArray}:x∈uniq l↔x∈l:=by
 rw[uniq,(NT l []).1];simp
theorem Sj(l:List ByteArray):(uniq l).Nodup:=(NT l []).2.1 .nil
theorem YN(l:List ByteArray):(uniq l).length<=l.length:=by
 have:=(NT l []).2.2;simpa [uniq]using this
def Fe(x:It):List ByteArray:=(if x.x.kind=1 then [x.x.name]else [])++x.x.attrs.map (·.1)
def GL(l:List It):List ByteArray:=Eh (uniq (l.flatMap Fe))
theorem Vj{l:List It}{n:ByteArray}:n∈GL l↔∃x∈l,n∈Fe x:=by
 rw[GL,FW,uniq_mem,List.mem_flatMap]
theorem PR:∀(al:List (ByteArray×Value))(n:ByteArray)(v:Value),(aput al n v).map (·.1)=addN (al.map (·.1)) n
 | [],n,v=>by simp[aput,addN]
 |(y,u)::r,n,v=>by
  have b:=PR r n v;rw[aput];by_cases h:n=y
  ·rw[if_pos h,addN,if_pos (by rw[h];exact .head _)];rfl
  ·rw[if_neg h,map_cons,b,map_cons,addN,addN]
   by_cases a:n∈r.map (·.1)
   ·rw[if_pos a,if_pos (.tail _ a)]
   ·rw[if_neg a,if_neg fun c=>(mem_cons.1 c).elim h a];rfl
end
end Go.Nod
namespace Go.Proofs.YtljenkbpnioipaaGreat
noncomputable section
open Go Go.Vc Go.Nod Classical
def J7(l:List ByteArray):List ByteArray->Nat->List ByteArray->List ByteArray
 | [],_,W=>W
 |s::r,k,W=>J7 l r (k+1) (if s≠none0/\s∉l then JS W k else W)
def Md:List ByteArray->List ByteArray->List ByteArray×Int
 | [],W=>(W,0)
 |s::r,W=>if hasW W s then Md r W else if(addR W s).2.2≠0 then((addR W s).1,94)else Md r (addR W s).1
def NR(W l:List ByteArray):List ByteArray×Int:=Md l (J7 l W 0 W)
end
open Go Go.Vc Go.Proofs Go.RowKit Go.Maps Go.Sort Go.Shelf
theorem VX{w w':World}(h:Below w.heap.size w w'):Chg [] w w':=⟨h.os,h.tape,h.output,h.size,fun k a _=>h.block k a⟩
theorem Xn{w w':World}{e:TypeId}{v:Value}{n:Nat}{xs:List Value}(i:Below w.heap.size w w')(h:w'.ownsRow w.heap.size e 1 v n xs):
  ∃a c,v=.slice a n c/\Hp [] w w' [.own e 1 a n c xs]:=by
 obtain⟨j,⟨rfl,rfl⟩|⟨g,d,f,rfl,m,o,p,q,r,s⟩⟩:=h
 ·refine⟨none,0,rfl,VX i,?_,by simp[Asn.foot,blks],by simp⟩
  intro a b;rw[mem_singleton]at b;subst b;exact⟨j,.inl ⟨rfl,rfl,rfl⟩⟩
 ·refine⟨some ⟨g,0,none⟩,d,rfl,VX i,?_,?_,by simp⟩
  ·intro a b
   rw[mem_singleton]at b;subst b;exact⟨j,.inr ⟨g,f,(0,0),rfl,Nat.zero_le _,o,Thaw.zero _,p,q,Nat.le_of_eq r.symm,s⟩⟩
  ·intro a b k l
   rw[mem_singleton]at b;subst b;simp[Asn.foot,blks]at l;subst l;exact .inr m
section
variable{K:Type}[DecidableEq K]{kt:KeyT K}
def RR:Value->Option (DataW Unit×List MemPlace):=fun _=>some (.nil,[])
theorem Q9{P:Program}{k:TypeId}{w:World}{b:Nat}{al:List (K×Value)}(h:MapAt kt w b al)(hn:(al.map (·.1)).Nodup)(t:al.length<=maxLen)(enc:K->Lit)(m:∀x y,kt.enc x=kt.enc y->x=y)
  (g:∀p∈al,keyOf P k (kt.enc p.1)=some (enc p.1)):
  ∃D:DataW Unit,w.ownsMap P k RR b al.length D/\Maps.size D=al.length/\∃l:List (Lit×DataW Unit),D=.map l/\l.Perm (al.map fun p=>(enc p.1,DataW.nil)):=by
 obtain⟨f,d,u,j,z,A⟩:=h
 have a:f.size=al.length:=by
  have:=congrArg List.length j;simpa using this
 have n:∀x∈f.toList,∃p∈al,x.key=kt.enc p.1:=by
  intro x o;have:(x.key,x.val)∈al.map fun p=>(kt.enc p.1,p.2):=j▸mem_map.2 ⟨x,o,rfl⟩;obtain⟨p,i,e⟩:=mem_map.1 this;exact⟨p,i,(congrArg Prod.fst e).symm⟩
 have c:f.toList.map (WideElems.rg P k RR)=al.map fun p=>(enc p.1,DataW.nil):=by
  have q:f.toList.map (·.key)=al.map fun p=>kt.enc p.1:=by
   have:=congrArg (List.map Prod.fst) j;simpa [map_map,Function.comp_def]using this
  have B:∀(l:List MapEntry)(al:List (K×Value)),(∀p∈al,keyOf P k (kt.enc p.1)=some (enc p.1))->l.map (·.key)=(al.map fun p=>kt.enc p.1)->l.map (WideElems.rg P k RR)=al.map fun p=>(enc p.1,(DataW.nil:DataW Unit)):=by
   intro l
   induction l with
   |nil=>intro al _ h;cases al with
    |nil=>rfl
    |cons _ _=>cases h
   |cons x r C=>
    intro al g h
    cases al with
    |nil=>cases h
    |cons p al=>
     simp only[map_cons,List.cons.injEq]at h⊢;refine⟨?_,C al (fun p i=>g p (.tail _ i)) h.2⟩;simp only[WideElems.rg,WideElems.rd,h.1,g p (.head _)];rfl
  exact B _ _ g q
 refine⟨_,⟨f,d,u,⟨by rw[a];exact t,⟨A,z,?_⟩,?_⟩,by rw[a];exact Nat.le_refl _,rfl⟩,?_,_,rfl,?_⟩
 ·have q:f.toList.map (·.key)=(al.map (·.1)).map kt.enc:=by
   have:=congrArg (List.map Prod.fst) j;simpa [map_map,Function.comp_def]using this
  rw[q];exact pairwise_map.2 (hn.imp fun s F=>s (m _ _ F))
 ·intro x o
  obtain⟨p,i,e⟩:=n x o;exact⟨(enc p.1,.nil),by simp only[WideElems.rd,e,g p i];rfl⟩
 ·rw[c]
  have:=(WideShapes.sorted_perm (al.map fun p=>(enc p.1,(DataW.nil:DataW Unit)))).length_eq;simpa [Maps.size]using this
 ·rw[c];exact WideShapes.sorted_perm _
end
theorem ZU(m:Nat):AnyZ.SortsIn Tryz.prog ZB Fence.wide m:=
 ⟨fun blk c a e W f b d=>callsIn_wide.2 (AnyM.slices_Sort_string XN blk c a e W f b d),
  fun p a W=>callsIn_wide.2 (AnyM.slices_Sort_string_none XN p a W)⟩
theorem sortsI(m:Nat):AnyZI.SortsIn Tryz.prog X7 Fence.wide m:=
 ⟨fun blk c a e W f b d=>callsIn_wide.2 (AnyM.slices_Sort_int eF blk c a e W f b d),
  fun p a W=>callsIn_wide.2 (AnyM.slices_Sort_int_none eF p a W)⟩
theorem keysS_spec(mb:Option Nat)(w:World):Calls Tryz.prog 103 #[.map mb] w fun e w'=>
  ∃q,e=.returned (.func (.func 160) #[] #[.pointer (some ⟨q,0,none⟩)])/\Hp [] w w' [.blk q [.map mb] 147]:=by
 refine Calls.mono (callsIn_wide.1 (AnyZ.keys_in dB Fence.wide 5 trivial rfl mb w)) ?_;rintro e w' ⟨rfl,rfl⟩;exact⟨_,rfl,(Hp.start w).new (w':=w) ⟨rfl,rfl,rfl,rfl⟩ ⟨rfl,rfl⟩⟩
theorem sortedS_spec(q b:Nat)(al:List (ByteArray×Value))(w:World)(G:Blk w q [.map (some b)] 147)(N:MapAt GI w b al)(l:List ByteArray)(B:l.Perm (al.map (·.1)))
  (J:l.Pairwise fun x y=>x.data.toList<y.data.toList) (O:∀x∈l,x.size<=maxLen) (o:al.length*16<=140737488355328):
  Calls Tryz.prog 102 #[.func (.func 160) #[] #[.pointer (some ⟨q,0,none⟩)]] w fun e w'=>
   ∃a c,e=.returned (.slice a l.length c)/\Hp [] w w' [.own 9 1 a l.length c (l.map .string)]:=by
 have C:(al.map (·.1)).Nodup:=B.nodup_iff.1 (J.imp fun h e=>by subst e;exact lt_irrefl _ h)
 have r:al.length<=maxLen:=by simp only[maxLen];omega
 obtain⟨D,n,i,t,rfl,R⟩:=Q9 (P:=Tryz.prog) (k:=9) N C r (fun s=>.string s.data.toList) (fun x y h=>by injection h) (fun p F=>WideMaps.keyOf_string_mk (by kernel_rfl) (O _ (B.mem_iff.2 (mem_map.2 ⟨p,F,rfl⟩))));have u:=G.lt
 have z:SeqGives Fence.wide 2 Tryz.prog 160 #[.pointer (some ⟨q,0,none⟩)] encStr (fun j=>j.Perm (strKeys (.map t))) (Maps.size (.map t)) w:=
  AnyZ.keys_gives (ρ:=di) {dB with} Fence.wide _ trivial rfl (by omega) q b al.length (.map t) w u (G.cell rfl) n
 have L:=AnyZ.sorted_in TV Fence.wide 5 trivial trivial trivial trivial rfl (by omega) (ZU _) (enters_of Tryz.func130 (by kernel_rfl) rfl) 160 #[.pointer (some ⟨q,0,none⟩)] trivial (enters_of Tryz.func160 (by kernel_rfl) rfl) _ _ (by rw[i];exact r) (by rw[i];exact o) w z;change CallsIn _ _ Tryz.prog 102 _ _ _ at L;refine Calls.mono (callsIn_wide.1 L) ?_;rintro e w' ⟨v,j,rfl,T,g,M,U⟩
 have f:j.Perm (l.map fun x=>x.data.toList):=by
  refine T.trans ?_;have X:strKeys (.map t)=t.map fun p=>strOf p.1:=rfl;rw[X];refine(R.map _).trans ?_;rw[map_map];have Y:((fun p:Lit×DataW Unit=>strOf p.1)∘fun p:ByteArray×Value=>(Lit.string p.1.data.toList,DataW.nil))=(fun x:ByteArray=>x.data.toList)∘(·.1):=rfl;rw[Y,<- map_map];exact(B.symm.map _)
 have m:j.mergeSort (fun x y=>decide (x<=y))=l.map fun x=>x.data.toList:=by
  have Z:∀a b c:List UInt8,decide (a<=b)=true->decide (b<=c)=true->decide (a<=c)=true:=fun a b c n i=>by simp only[decide_eq_true_eq]at*;exact le_trans n i
  have to:∀a b:List UInt8,(decide (a<=b)||decide (b<=a))=true:=fun a b=>by simp only[Bool.or_eq_true,decide_eq_true_eq];exact le_total a b
  refine List.Perm.eq_of_pairwise (le:=fun a b=>decide (a<=b)=true) (fun a b _ _ n i=>?_) (pairwise_mergeSort Z to j) (pairwise_map.2 (J.imp fun h=>?_)) ((mergeSort_perm j _).trans f)
  ·simp only[decide_eq_true_eq]at n i;exact le_antisymm n i
  ·rw[decide_eq_true_eq];exact le_of_lt h
 have A:j.length=l.length:=by simpa using f.length_eq
 rw[m,A,map_map]at g;obtain⟨a,c,rfl,H⟩:=Xn U g;refine⟨a,c,rfl,?_⟩
 have e3:(encStr∘fun x:ByteArray=>x.data.toList)=Value.string:=by
  funext x;obtain⟨d⟩:=x;simp[encStr]
 rw[e3]at H;exact H
theorem keysP_spec(mb:Option Nat)(w:World):Calls Tryz.prog 107 #[.map mb] w fun e w'=>
  ∃q,e=.returned (.func (.func 166) #[] #[.pointer (some ⟨q,0,none⟩)])/\Hp [] w w' [.blk q [.map mb] 83]:=by
 refine Calls.mono (callsIn_wide.1 (AnyZ.keys_in bK Fence.wide 5 trivial rfl mb w)) ?_;rintro e w' ⟨rfl,rfl⟩;exact⟨_,rfl,(Hp.start w).new (w':=w) ⟨rfl,rfl,rfl,rfl⟩ ⟨rfl,rfl⟩⟩
theorem sortedP_spec(q b:Nat)(al:List (ByteArray×Value))(w:World)(G:Blk w q [.map (some b)] 83)(N:MapAt GI w b al)(l:List ByteArray)(B:l.Perm (al.map (·.1)))
  (J:l.Pairwise fun x y=>x.data.toList<y.data.toList) (O:∀x∈l,x.size<=maxLen) (o:al.length*16<=140737488355328):
  Calls Tryz.prog 102 #[.func (.func 166) #[] #[.pointer (some ⟨q,0,none⟩)]] w fun e w'=>
   ∃a c,e=.returned (.slice a l.length c)/\Hp [] w w' [.own 9 1 a l.length c (l.map .string)]:=by
 have C:(al.map (·.1)).Nodup:=B.nodup_iff.1 (J.imp fun h e=>by subst e;exact lt_irrefl _ h)
 have r:al.length<=maxLen:=by simp only[maxLen];omega
 obtain⟨D,n,i,t,rfl,R⟩:=Q9 (P:=Tryz.prog) (k:=9) N C r (fun s=>.string s.data.toList) (fun x y h=>by injection h) (fun p F=>WideMaps.keyOf_string_mk (by kernel_rfl) (O _ (B.mem_iff.2 (mem_map.2 ⟨p,F,rfl⟩))));have u:=G.lt
 have z:SeqGives Fence.wide 2 Tryz.prog 166 #[.pointer (some ⟨q,0,none⟩)] encStr (fun j=>j.Perm (strKeys (.map t))) (Maps.size (.map t)) w:=
  AnyZ.keys_gives (ρ:=bT) {bK with} Fence.wide _ trivial rfl (by omega) q b al.length (.map t) w u (G.cell rfl) n
 have L:=AnyZ.sorted_in TV Fence.wide 5 trivial trivial trivial trivial rfl (by omega) (ZU _) (enters_of Tryz.func130 (by kernel_rfl) rfl) 166 #[.pointer (some ⟨q,0,none⟩)] trivial (enters_of Tryz.func166 (by kernel_rfl) rfl) _ _ (by rw[i];exact r) (by rw[i];exact o) w z;change CallsIn _ _ Tryz.prog 102 _ _ _ at L;refine Calls.mono (callsIn_wide.1 L) ?_;rintro e w' ⟨v,j,rfl,T,g,M,U⟩
 have f:j.Perm (l.map fun x=>x.data.toList):=by
  refine T.trans ?_;have X:strKeys (.map t)=t.map fun p=>strOf p.1:=rfl;rw[X];refine(R.map _).trans ?_;rw[map_map];have Y:((fun p:Lit×DataW Unit=>strOf p.1)∘fun p:ByteArray×Value=>(Lit.string p.1.data.toList,DataW.nil))=(fun x:ByteArray=>x.data.toList)∘(·.1):=rfl;rw[Y,<- map_map];exact(B.symm.map _)
 have m:j.mergeSort (fun x y=>decide (x<=y))=l.map fun x=>x.data.toList:=by
  have Z:∀a b c:List UInt8,decide (a<=b)=true->decide (b<=c)=true->decide (a<=c)=true:=fun a b c n i=>by simp only[decide_eq_true_eq]at*;exact le_trans n i
  have to:∀a b:List UInt8,(decide (a<=b)||decide (b<=a))=true:=fun a b=>by simp only[Bool.or_eq_true,decide_eq_true_eq];exact le_total a b
  refine List.Perm.eq_of_pairwise (le:=fun a b=>decide (a<=b)=true) (fun a b _ _ n i=>?_) (pairwise_mergeSort Z to j) (pairwise_map.2 (J.imp fun h=>?_)) ((mergeSort_perm j _).trans f)
  ·simp only[decide_eq_true_eq]at n i;exact le_antisymm n i
  ·rw[decide_eq_true_eq];exact le_of_lt h
 have A:j.length=l.length:=by simpa using f.length_eq
 rw[m,A,map_map]at g;obtain⟨a,c,rfl,H⟩:=Xn U g;refine⟨a,c,rfl,?_⟩
 have e3:(encStr∘fun x:ByteArray=>x.data.toList)=Value.string:=by
  funext x;obtain⟨d⟩:=x;simp[encStr]
 rw[e3]at H;exact H
theorem keysR_spec(mb:Option Nat)(w:World):Calls Tryz.prog 109 #[.map mb] w fun e w'=>
  ∃q,e=.returned (.func (.func 168) #[] #[.pointer (some ⟨q,0,none⟩)])/\Hp [] w w' [.blk q [.map mb] 114]:=by
 refine Calls.mono (callsIn_wide.1 (AnyZ.keys_in dw Fence.wide 5 trivial rfl mb w)) ?_;rintro e w' ⟨rfl,rfl⟩;exact⟨_,rfl,(Hp.start w).new (w':=w) ⟨rfl,rfl,rfl,rfl⟩ ⟨rfl,rfl⟩⟩
theorem sortedR_spec(q b:Nat)(al:List (ByteArray×Value))(w:World)(G:Blk w q [.map (some b)] 114)(N:MapAt GI w b al)(l:List ByteArray)(B:l.Perm (al.map (·.1)))
  (J:l.Pairwise fun x y=>x.data.toList<y.data.toList) (O:∀x∈l,x.size<=maxLen) (o:al.length*16<=140737488355328):
  Calls Tryz.prog 102 #[.func (.func 168) #[] #[.pointer (some ⟨q,0,none⟩)]] w fun e w'=>
   ∃a c,e=.returned (.slice a l.length c)/\Hp [] w w' [.own 9 1 a l.length c (l.map .string)]:=by
 have C:(al.map (·.1)).Nodup:=B.nodup_iff.1 (J.imp fun h e=>by subst e;exact lt_irrefl _ h)
 have r:al.length<=maxLen:=by simp only[maxLen];omega
 obtain⟨D,n,i,t,rfl,R⟩:=Q9 (P:=Tryz.prog) (k:=9) N C r (fun s=>.string s.data.toList) (fun x y h=>by injection h) (fun p F=>WideMaps.keyOf_string_mk (by kernel_rfl) (O _ (B.mem_iff.2 (mem_map.2 ⟨p,F,rfl⟩))));have u:=G.lt
 have z:SeqGives Fence.wide 2 Tryz.prog 168 #[.pointer (some ⟨q,0,none⟩)] encStr (fun j=>j.Perm (strKeys (.map t))) (Maps.size (.map t)) w:=
  AnyZ.keys_gives (ρ:=bW) {dw with} Fence.wide _ trivial rfl (by omega) q b al.length (.map t) w u (G.cell rfl) n
 have L:=AnyZ.sorted_in TV Fence.wide 5 trivial trivial trivial trivial rfl (by omega) (ZU _) (enters_of Tryz.func130 (by kernel_rfl) rfl) 168 #[.pointer (some ⟨q,0,none⟩)] trivial (enters_of Tryz.func168 (by kernel_rfl) rfl) _ _ (by rw[i];exact r) (by rw[i];exact o) w z;change CallsIn _ _ Tryz.prog 102 _ _ _ at L;refine Calls.mono (callsIn_wide.1 L) ?_;rintro e w' ⟨v,j,rfl,T,g,M,U⟩
 have f:j.Perm (l.map fun x=>x.data.toList):=by
  refine T.trans ?_;have X:strKeys (.map t)=t.map fun p=>strOf p.1:=rfl;rw[X];refine(R.map _).trans ?_;rw[map_map];have Y:((fun p:Lit×DataW Unit=>strOf p.1)∘fun p:ByteArray×Value=>(Lit.string p.1.data.toList,DataW.nil))=(fun x:ByteArray=>x.data.toList)∘(·.1):=rfl;rw[Y,<- map_map];exact(B.symm.map _)
 have m:j.mergeSort (fun x y=>decide (x<=y))=l.map fun x=>x.data.toList:=by
  have Z:∀a b c:List UInt8,decide (a<=b)=true->decide (b<=c)=true->decide (a<=c)=true:=fun a b c n i=>by simp only[decide_eq_true_eq]at*;exact le_trans n i
  have to:∀a b:List UInt8,(decide (a<=b)||decide (b<=a))=true:=fun a b=>by simp only[Bool.or_eq_true,decide_eq_true_eq];exact le_total a b
  refine List.Perm.eq_of_pairwise (le:=fun a b=>decide (a<=b)=true) (fun a b _ _ n i=>?_) (pairwise_mergeSort Z to j) (pairwise_map.2 (J.imp fun h=>?_)) ((mergeSort_perm j _).trans f)
  ·simp only[decide_eq_true_eq]at n i;exact le_antisymm n i
  ·rw[decide_eq_true_eq];exact le_of_lt h
 have A:j.length=l.length:=by simpa using f.length_eq
 rw[m,A,map_map]at g;obtain⟨a,c,rfl,H⟩:=Xn U g;refine⟨a,c,rfl,?_⟩
 have e3:(encStr∘fun x:ByteArray=>x.data.toList)=Value.string:=by
  funext x;obtain⟨d⟩:=x;simp[encStr]
 rw[e3]at H;exact H
theorem keysW_spec(mb:Option Nat)(w:World):Calls Tryz.prog 129 #[.map mb] w fun e w'=>
  ∃q,e=.returned (.func (.func 190) #[] #[.pointer (some ⟨q,0,none⟩)])/\Hp [] w w' [.blk q [.map mb] 125]:=by
 refine Calls.mono (callsIn_wide.1 (AnyZI.keys_in dE Fence.wide 5 trivial rfl mb w)) ?_;rintro e w' ⟨rfl,rfl⟩;exact⟨_,rfl,(Hp.start w).new (w':=w) ⟨rfl,rfl,rfl,rfl⟩ ⟨rfl,rfl⟩⟩
theorem sortedW_spec(q b:Nat)(al:List (Int×Value))(w:World)(F:Blk w q [.map (some b)] 125)(M:MapAt (DF .i64) w b al)(l:List Int)(A:l.Perm (al.map (·.1)))
  (G:l.Pairwise fun x y=>x<y) (N:∀x∈l,-9223372036854775808<=x/\x<=9223372036854775807) (j:al.length*8<=140737488355328):
  Calls Tryz.prog 128 #[.func (.func 190) #[] #[.pointer (some ⟨q,0,none⟩)]] w fun e w'=>
   ∃a c,e=.returned (.slice a l.length c)/\Hp [] w w' [.own 3 1 a l.length c (l.map (.int .i64))]:=by
 have B:(al.map (·.1)).Nodup:=A.nodup_iff.1 (G.imp fun h e=>by omega)
 have m:al.length<=maxLen:=by simp only[maxLen];omega
 obtain⟨D,z,n,o,rfl,O⟩:=Q9 (P:=Tryz.prog) (k:=3) M B m (fun s=>.int .i64 s) (fun x y h=>by injection h) (fun p C=>keyOf_int_mk (by kernel_rfl) (by
  have:=N _ (A.mem_iff.2 (mem_map.2 ⟨p,C,rfl⟩));simp only[Lit.wf,Bool.and_eq_true,decide_eq_true_eq]
  exact DD.2 this))
 have r:=F.lt
 have t:SeqGives Fence.wide 2 Tryz.prog 190 #[.pointer (some ⟨q,0,none⟩)] encZ (fun g=>g.Perm (intKeys (.map o))) (Maps.size (.map o)) w:=
  AnyZI.keys_gives (ρ:=dS) {dE with} Fence.wide _ trivial rfl (by omega) q b al.length (.map o) w r (F.cell rfl) z
 have J:=AnyZI.sorted_in sortedIL Fence.wide 5 trivial trivial trivial trivial rfl (by omega) (sortsI _) (enters_of Tryz.func189 (by kernel_rfl) rfl) 190 #[.pointer (some ⟨q,0,none⟩)] trivial (enters_of Tryz.func190 (by kernel_rfl) rfl) _ _ (by rw[n];exact m) (by rw[n];exact j) w t;change CallsIn _ _ Tryz.prog 128 _ _ _ at J;refine Calls.mono (callsIn_wide.1 J) ?_;rintro e w' ⟨v,g,rfl,R,f,L,T⟩
 have d:g.Perm l:=by
  refine R.trans ?_;have U:intKeys (.map o)=o.map fun p=>Go.intOf p.1:=rfl;rw[U];refine(O.map _).trans ?_;rw[map_map];have X:((fun p:Lit×DataW Unit=>Go.intOf p.1)∘fun p:Int×Value=>(Lit.int IntKind.i64 p.1,DataW.nil))=(·.1):=rfl;rw[X];exact A.symm
 have i:g.mergeSort (fun x y=>decide (x<=y))=l:=by
  have Y:∀a b c:Int,decide (a<=b)=true->decide (b<=c)=true->decide (a<=c)=true:=fun a b c z n=>by simp only[decide_eq_true_eq]at*;omega
  have Z:∀a b:Int,(decide (a<=b)||decide (b<=a))=true:=fun a b=>by simp only[Bool.or_eq_true,decide_eq_true_eq];omega
  refine List.Perm.eq_of_pairwise (le:=fun a b=>decide (a<=b)=true) (fun a b _ _ z n=>?_) (pairwise_mergeSort Y Z g) (G.imp fun h=>?_) ((mergeSort_perm g _).trans d)
  ·simp only[decide_eq_true_eq]at z n;omega
  ·rw[decide_eq_true_eq];omega
 have u:g.length=l.length:=d.length_eq;rw[i,u]at f;obtain⟨a,c,rfl,H⟩:=Xn T f;exact⟨a,c,rfl,H⟩
end Go.Proofs.YtljenkbpnioipaaGreat
namespace Go.Proofs.YtljenkbpnioipaaGreat.Sl
open Go Go.Vc
theorem scl3:Scl Tryz.prog 3:=BK (by kernel_rfl)
theorem scl5:Scl Tryz.prog 5:=BK (by kernel_rfl)
theorem EG:Scl Tryz.prog 95:=BK (by kernel_rfl)
theorem Gv:Scl Tryz.prog 59:=BK (by kernel_rfl)
theorem cO:Agg Tryz.prog 162 4098:=Ci (by kernel_rfl)
structure Pg where
 st:List UInt8
 hdr:Nat
 dir:List (Nat×Nat)
 data:List UInt8
 many:Nat
 low:Nat
def dirB(d:List (Nat×Nat)):List UInt8:=d.flatMap fun p=>be p.1 2++be p.2 2
def Pg.bs(g:Pg):List UInt8:=g.st++(be g.hdr 2++(dirB g.dir++g.data))
def Pg.cells(g:Pg):List Value:=Aa g.bs++[.int .i64 (g.many:Int),.int .i64 (g.low:Int)]
structure Pg.Ok(g:Pg):Prop where
 st:g.st.length=8
 hdr:g.hdr<65536
 dir:g.dir.length=120
 data:g.data.length=3606
 many:g.many<=120
 ent:∀p∈g.dir,p.1<65536/\p.2<65536
 low:g.low<=4096
def pgA(b:Nat)(g:Pg):Asn:=.blk b g.cells 162
theorem Jf(d:List (Nat×Nat)):(dirB d).length=4*d.length:=by
 induction d with
 |nil=>rfl
 |cons p r a=>
  simp only[dirB,flatMap_cons,length_append,AX,length_cons]at a⊢;omega
theorem LV(x y:List (Nat×Nat)):dirB (x++y)=dirB x++dirB y:=by simp[dirB]
theorem PQ(p:Nat×Nat)(r:List (Nat×Nat)):dirB (p::r)=be p.1 2++be p.2 2++dirB r:=by simp[dirB]
theorem Vl{d:List (Nat×Nat)}{k:Nat}(h:k<d.length):d=d.take k++d[k]::d.drop (k+1):=by
 rw[<- drop_eq_getElem_cons h,take_append_drop]
theorem Pg.Ok.len{g:Pg}(h:g.Ok):g.bs.length=4096:=by
 simp only[Pg.bs,length_append,AX,Jf,h.st,h.dir,h.data]
theorem Pg.Ok.clen{g:Pg}(h:g.Ok):g.cells.length=4098:=by
 simp only[Pg.cells,length_append,Ah,h.len,length_cons,length_nil]
theorem Pg.Ok.byte{g:Pg}(h:g.Ok){i:Nat}(a:i<4096):g.cells[i]? =some (.int .u8 ((g.bs[i]'(by rw[h.len];exact a)).toNat:Int)):=by
 rw[Pg.cells,List.getElem?_append_left (by rw[Ah,h.len];exact a)];simp[Aa,List.getElem?_eq_getElem (show i<g.bs.length by rw[h.len];exact a)]
theorem Pg.Ok.manyC{g:Pg}(h:g.Ok):g.cells[4096]? =some (.int .i64 (g.many:Int)):=by
 rw[Pg.cells,List.getElem?_append_right (by rw[Ah,h.len];exact Nat.le_refl _),Ah,h.len];rfl
theorem Pg.Ok.lowC{g:Pg}(h:g.Ok):g.cells[4097]? =some (.int .i64 (g.low:Int)):=by
 rw[Pg.cells,List.getElem?_append_right (by rw[Ah,h.len];omega),Ah,h.len];rfl
theorem Pg.Ok.entry{g:Pg}(h:g.Ok){k:Nat}(a:k<120):(g.bs.drop (10+4*k)).take 4=be (g.dir[k]'(by rw[h.dir];exact a)).1 2++be (g.dir[k]'(by rw[h.dir];exact a)).2 2:=by
 have b:k<g.dir.length:=by rw[h.dir];exact a
 have e:g.bs=(g.st++be g.hdr 2++dirB (g.dir.take k))++((be g.dir[k].1 2++be g.dir[k].2 2)++(dirB (g.dir.drop (k+1))++g.data)):=by
  conv=>lhs;rw[Pg.bs,Vl b]
  rw[LV,PQ];simp only[append_assoc]
 have c:(g.st++be g.hdr 2++dirB (g.dir.take k)).length=10+4*k:=by
  simp only[length_append,AX,Jf,length_take,h.st];omega
 rw[e,drop_left _ _ _ c];exact take_left _ _ 4 (by simp[AX])
theorem take2{l:List UInt8}{i:Nat}(h:i+1<l.length):(l.drop i).take 2=[l[i],l[i+1]]:=by
 rw[drop_eq_getElem_cons (by omega),drop_eq_getElem_cons (by omega)];rfl
theorem valN_two(x y:UInt8):valN [x,y]=x.toNat*256+y.toNat:=by simp[valN]
theorem Pg.Ok.ent1{g:Pg}(h:g.Ok){k:Nat}(a:k<120):valN ((g.bs.drop (10+4*k)).take 2)=(g.dir[k]'(by rw[h.dir];exact a)).1:=by
 have e:=h.entry a;have b:=h.ent _ (getElem_mem (show k<g.dir.length by rw[h.dir];exact a))
 have:(g.bs.drop (10+4*k)).take 2=((g.bs.drop (10+4*k)).take 4).take 2:=by rw[take_take];rfl
 rw[this,e,take_left _ _ 2 (AX _ _)];have:=IY (n:=((g.dir[k]'(by rw[h.dir];exact a)).1:Int)) (k:=2) (by omega) (by omega);omega
theorem Pg.Ok.ent2{g:Pg}(h:g.Ok){k:Nat}(a:k<120):valN ((g.bs.drop (10+4*k+2)).take 2)=(g.dir[k]'(by rw[h.dir];exact a)).2:=by
 have e:=h.entry a;have b:=h.ent _ (getElem_mem (show k<g.dir.length by rw[h.dir];exact a))
 have:(g.bs.drop (10+4*k+2)).take 2=((g.bs.drop (10+4*k)).take 4).drop 2:=by rw[List.drop_take,drop_drop]
 rw[this,e,drop_left _ _ 2 (AX _ _)];have:=IY (n:=((g.dir[k]'(by rw[h.dir];exact a)).2:Int)) (k:=2) (by omega) (by omega);omega
def PgAt(w:World)(b:Nat)(g:Pg):Prop:=g.Ok/\Blk w b g.cells 162
theorem PgAt.chg{w w':World}{b:Nat}{g:Pg}{S:List Nat}(h:PgAt w b g)(hc:Chg S w w')(a:b∉S):PgAt w' b g:=⟨h.1,h.2.chg hc a⟩
theorem PgAt.ldB{w:World}{b:Nat}{g:Pg}(h:PgAt w b g){i:Nat}(a:i<4096):Ld Tryz.prog 5 w ⟨b,i,none⟩ (.int .u8 ((g.bs[i]'(by rw[h.1.len];exact a)).toNat:Int)):=h.2.ld scl5.agg (h.1.byte a)
theorem PgAt.IX{w:World}{b:Nat}{g:Pg}(h:PgAt w b g):Ld Tryz.prog 3 w ⟨b,4096,none⟩ (.int .i64 (g.many:Int)):=h.2.ld scl3.agg h.1.manyC
theorem PgAt.QI{w:World}{b:Nat}{g:Pg}(h:PgAt w b g):Ld Tryz.prog 3 w ⟨b,4097,none⟩ (.int .i64 (g.low:Int)):=h.2.ld scl3.agg h.1.lowC
theorem addB(b i:Nat):(⟨b,0,none⟩:Addr).add i=⟨b,i,none⟩:=by rw[add_lit,Nat.zero_add]
theorem Ua(b:Nat)(g:Pg)(i:Nat)(k:i+1<4096)(w:World)(h:PgAt w b g):
  Calls Tryz.prog 146 #[.pointer (some ⟨b,0,none⟩),.int .i64 (i:Int)] w fun e w'=>e=.returned (.int .i64 (valN ((g.bs.drop i).take 2):Int))/\Hp [] w w' []:=by
 apply two.ok;unfold two.vc;have H:=(Hp.start w).drew;have a:=h.chg H.chg (by simp);have l:=h.1.len
 have c:Int.toNat (i:Int)*1=i:=by omega
 have d:Int.toNat ((i:Int)+1)*1=i+1:=by omega
 refine AA rfl ⟨⟨by omega,by omega⟩,_,by rw[c,addB];exact a.ldB (by omega),by omega,?_⟩;have m:=(g.bs[i]'(by omega)).toNat_lt;have f:=(g.bs[i+1]'(by omega)).toNat_lt;rw[wrapByte]
 have j:(2:Int)^min (Int.toNat 8) (IntKind.bits .i64)=256:=by decide
 refine⟨DD.2 (by rw[j];omega),iR,AA rfl ⟨⟨by omega,by omega⟩,_,by rw[d,addB];exact a.ldB (by omega),?_,H⟩⟩;rw[YP _ _ (by omega) f,take2 (by omega),valN_two]
theorem JK(b:Nat)(g:Pg)(k:Int)(w:World)(h:PgAt w b g):
  Calls Tryz.prog 86 #[.pointer (some ⟨b,0,none⟩),.int .i64 k] w fun e w'=>e=.returned (.tuple #[.int .i64 (if 0<=k/\k<g.many then((g.dir.getD k.toNat (0,0)).1:Int)else 0),.int .i64 (if 0<=k/\k<g.many then((g.dir.getD k.toNat (0,0)).2:Int)else 0)])/\Hp [] w w' []:=by
 apply slot.ok;unfold slot.vc;have H:=Hp.start w;have m:=h.1.many;refine AB (fun d=>?_) (fun d=>AA rfl ⟨_,by rw[addB];exact h.IX,AB (fun f=>?_) (fun f=>?_)⟩)
 ·rw[if_neg (by omega),if_neg (by omega)];exact⟨rfl,H⟩
 ·rw[if_neg (by omega),if_neg (by omega)];exact⟨rfl,H⟩
 ·obtain⟨K,rfl⟩:∃K:Nat,k=K:=⟨k.toNat,by omega⟩
  have c:K<120:=by omega
  rw[if_pos (by omega),if_pos (by omega)]
  have i:(10:Int)+4*(K:Int)=((10+4*K:Nat):Int):=by omega
  have j:((10+4*K:Nat):Int)+2=((10+4*K+2:Nat):Int):=by omega
  rw[i,j];refine⟨iR,iR,AC (Ua b g _ (by omega) _ h) ?_⟩
  (rintro _ _ ⟨rfl,a⟩;(first|replace H:=H.ext0 a|replace H:=H.drew.ext0 a|replace H:=H.drew.drew.ext0 a);clear a;refine⟨_,rfl,?_⟩)
  refine⟨iR,iR,iR,AC (Ua b g _ (by omega) _ (h.chg H.chg (by simp))) ?_⟩
  (rintro _ _ ⟨rfl,a⟩;(first|replace H:=H.ext0 a|replace H:=H.drew.ext0 a|replace H:=H.drew.drew.ext0 a);clear a;refine⟨_,rfl,?_⟩)
  have l:K<g.dir.length:=by rw[h.1.dir];exact c
  rw[h.1.ent1 c,h.1.ent2 c];simp only[Int.toNat_natCast,getD_eq_getElem?_getD,List.getElem?_eq_getElem l,Option.getD_some];exact⟨trivial,H⟩
theorem NH(l:List UInt8)(i:Nat)(x:UInt8):(Aa l).set i (.int .u8 (x.toNat:Int))=Aa (l.set i x):=by simp[Aa,List.map_set]
theorem Pg.cells_set{g:Pg}(h:g.Ok){i:Nat}(a:i<4096)(x:UInt8):g.cells.set i (.int .u8 (x.toNat:Int))=Aa (g.bs.set i x)++[.int .i64 (g.many:Int),.int .i64 (g.low:Int)]:=by
 rw[Pg.cells,set_append,if_pos (by rw[Ah,h.len];exact a),NH]
theorem set2(l:List UInt8)(a x c:List UInt8)(p q:UInt8)(b:x.length=2)(i:Nat)(d:i=a.length)(e:l=a++(x++c)):(l.set i p).set (i+1) q=a++([p,q]++c):=by
 subst e d
 match x,b with
 | [x1,x2],_=>
  rw[set_append,if_neg (by omega),Nat.sub_self];rw[set_append,if_neg (by omega),show a.length+1-a.length=1 by omega];rfl
theorem be2(n:Nat):be (n:Int) 2=[bt n 1,bt n 0]:=rfl
theorem lay_bytes(n:Nat):IntKind.u8.wrap (Int.fdiv (n:Int) (2^min (Int.toNat 8) (IntKind.bits .i64)))=((bt n 1).toNat:Int)/\IntKind.u8.wrap (n:Int)=((bt n 0).toNat:Int):=by
 have a:=Oo (n:Int) 1 (by omega) 1 rfl;have b:=Oo (n:Int) 0 (by omega) 0 rfl;refine⟨a,?_⟩;rw[<- b];simp
theorem JB(b:Nat)(g d:Pg)(a x c:List UInt8)(i n:Nat)(m:x.length=2)(o:a.length=i)(u:i+1<4096)(p:g.bs=a++(x++c))(f:d.bs=a++(be (n:Int) 2++c))(j:d.many=g.many)(k:d.low=g.low)(w:World)(h:PgAt w b g):
  Calls Tryz.prog 172 #[.pointer (some ⟨b,0,none⟩),.int .i64 (i:Int),.int .i64 (n:Int)] w fun e w'=>e=.returned (.tuple #[])/\Hp [b] w w' [pgA b d]:=by
 apply lay.ok;unfold lay.vc;have H:Hp [b] w w [pgA b g]:=Hp.JA (a:=pgA b g) h.2;replace H:=H.drew;have l:=h.1.clen;obtain⟨q,r⟩:=lay_bytes n
 have s:Int.toNat (i:Int)*1=i:=by omega
 have t:Int.toNat ((i:Int)+1)*1=i+1:=by omega
 refine⟨iR,by omega,AA rfl ⟨⟨by omega,by omega⟩,AA rfl ?_⟩⟩;rw[s,t,addB,addB,q,r];refine Hp.st H EQ4 scl5 rfl rfl (by rw[l];omega) rfl ?_;clear H;intro y H;rw[Pg.cells_set h.1 (by omega)]at H;refine⟨⟨by omega,by omega⟩,Hp.st H EQ4 scl5 rfl rfl (by rw[length_append,Ah,length_set,h.1.len];simp;omega) rfl ?_⟩;clear H;intro z H;rw[set_append,if_pos (by rw[Ah,length_set,h.1.len];omega),NH,set2 g.bs a x c _ _ m i o.symm p,<- be2,<- f,<- j,<- k,<- Pg.cells]at H;exact⟨rfl,H⟩
theorem Pg.cZ{g:Pg}(h:g.Ok){k:Nat}(b:k<120)(p q:Nat):({g with dir:=g.dir.set k (p,q)}:Pg).bs=(g.st++be g.hdr 2++dirB (g.dir.take k))++(be p 2++(be q 2++(dirB (g.dir.drop (k+1))++g.data))):=by
 have a:k<g.dir.length:=by rw[h.dir];exact b
 have e:g.dir.set k (p,q)=g.dir.take k++(p,q)::g.dir.drop (k+1):=by
  rw[List.set_eq_take_append_cons_drop,if_pos a]
 simp only[Pg.bs,e,LV,PQ,append_assoc]
def setD(g:Pg)(k at_ long:Nat):Pg:= {g with dir:=g.dir.set k (at_,long)}
theorem aF{g:Pg}(h:g.Ok){k at_ a:Nat}(h1:at_<65536)(c:a<65536):(setD g k at_ a).Ok:=
 ⟨h.st,h.hdr,by simp[setD,h.dir],h.data,h.many,fun p b=>by
  rcases List.mem_or_eq_of_mem_set b with b|rfl
  ·exact h.ent p b
  ·exact⟨h1,c⟩,h.low⟩
theorem OC(b:Nat)(g:Pg)(k at_ a:Nat)(l:k<120)(h1:at_<65536)(q:a<65536)(w:World)(h:PgAt w b g):
  Calls Tryz.prog 171 #[.pointer (some ⟨b,0,none⟩),.int .i64 (k:Int),.int .i64 (at_:Int),.int .i64 (a:Int)] w fun e w'=>e=.returned (.tuple #[])/\(setD g k at_ a).Ok/\Hp [b] w w' [pgA b (setD g k at_ a)]:=by
 apply set.ok;unfold set.vc
 have d:k<g.dir.length:=by rw[h.1.dir];exact l
 have r:(10:Int)+4*(k:Int)=((10+4*k:Nat):Int):=by omega
 have s:((10+4*k:Nat):Int)+2=((10+4*k+2:Nat):Int):=by omega
 rw[r,s]
 have o:(g.st++be g.hdr 2++dirB (g.dir.take k)).length=10+4*k:=by
  simp only[length_append,AX,Jf,length_take,h.1.st];omega
 have c:g.bs=(g.st++be g.hdr 2++dirB (g.dir.take k))++(be g.dir[k].1 2++(be g.dir[k].2 2++(dirB (g.dir.drop (k+1))++g.data))):=by
  conv=>lhs;rw[Pg.bs,Vl d]
  rw[LV,PQ];simp only[append_assoc]
 have f:=h.1.ent _ (getElem_mem d);refine⟨iR,iR,AC (JB b g (setD g k at_ g.dir[k].2) _ _ _ _ at_ (AX _ 2) o (by omega) c (Pg.cZ h.1 l _ _) rfl rfl w h) ?_⟩;rintro e p ⟨rfl,H⟩;have m:=aF (k:=k) h.1 h1 f.2;have t:PgAt p b (setD g k at_ g.dir[k].2):=⟨m,H.ok _ (.head _)⟩;refine⟨rfl,iR,iR,iR,?_⟩
 have n:(g.st++be g.hdr 2++dirB (g.dir.take k)++be (at_:Int) 2).length=10+4*k+2:=by rw[length_append,o,AX]
 have i:=Pg.cZ h.1 l at_ g.dir[k].2
 have j:=Pg.cZ h.1 l at_ a
 rw[<- append_assoc]at i j;refine AC (JB b _ (setD g k at_ a) _ _ _ _ a (AX _ 2) n (by omega) i j rfl rfl p t) ?_;rintro e x ⟨rfl,u⟩;exact⟨rfl,rfl,aF h.1 h1 q,H.Ba u⟩
def atOf(g:Pg)(k:Nat):Nat:=(g.dir.getD k (0,0)).1
def lenOf(g:Pg)(k:Nat):Nat:=(g.dir.getD k (0,0)).2
theorem Pg.Ok.atB{g:Pg}(h:g.Ok)(k:Nat):atOf g k<65536/\lenOf g k<65536:=by
 simp only[atOf,lenOf,getD_eq_getElem?_getD]
 cases hk:g.dir[k]? with
 |none=>simp
 |some p=>exact h.ent p (mem_of_getElem? hk)
theorem RU(b:Nat)(g:Pg)(k:Nat)(a:k<g.many)(w:World)(h:PgAt w b g):
  Calls Tryz.prog 86 #[.pointer (some ⟨b,0,none⟩),.int .i64 (k:Int)] w fun e w'=>e=.returned (.tuple #[.int .i64 (atOf g k:Int),.int .i64 (lenOf g k:Int)])/\Hp [] w w' []:=by
 refine Calls.mono (JK b g k w h) ?_;rintro e w' ⟨rfl,H⟩;rw[if_pos (by omega),if_pos (by omega)];exact⟨rfl,H⟩
theorem each_spec(b:Nat)(q:Value)(N:Nat)(I:Nat->World->Prop)(J:World->Prop)(w:World)(r:I 0 w)(l:∃g,PgAt w b g/\g.many=N)
  (t:∀k w,k<N->I k w->∃g,PgAt w b g/\g.many=N/\∀w',Hp [] w w' []->(atOf g k=0->I (k+1) w')/\(0<atOf g k->Ee Tryz.prog q [.int .i64 (k:Int)] w' fun e d=>(e=.returned (.bool true)/\I (k+1) d)\/(e=.returned (.bool false)/\J d))):
  Calls Tryz.prog 85 #[.pointer (some ⟨b,0,none⟩),q] w fun e w'=>e=.returned (.tuple #[])/\(I N w'\/J w'):=by
 apply each.ok;unfold each.vc;obtain⟨B,f,i⟩:=l
 have C:N<=120:=by rw[<- i];exact f.1.many
 refine AA rfl ⟨_,by rw[addB];exact f.IX,?_⟩;rw[i];refine AP.mk (fun m s w'=>∃k:Nat,m=N-k/\s=(k:Int)/\k<=N/\I k w') N ⟨0,rfl,rfl,Nat.zero_le _,r⟩ ?_
 rintro m s w' next ⟨k,rfl,rfl,D,j⟩ a
 refine AB (fun h=>?_) (fun h=>?_)
 ·obtain⟨g,u,x,c⟩:=t k w' (by omega) j
  refine AC (RU b g k (by omega) _ u) ?_;rintro e y ⟨rfl,H⟩;obtain⟨n,o⟩:=c y H;refine⟨_,_,rfl,AB (fun z=>?_) (fun z=>?_)⟩
  ·refine aG (o (by omega)) ?_
   rintro e F (⟨rfl,p⟩|⟨rfl,A⟩)
   ·exact⟨_,rfl,Gp (fun h=>by cases h) fun _=>⟨iR,a (N-(k+1)) _ _ (by omega) ⟨k+1,rfl,by simp,by omega,p⟩⟩⟩
   ·exact⟨_,rfl,Gp (fun _=>⟨rfl,.inr A⟩) fun h=>by cases h⟩
  ·exact⟨iR,a (N-(k+1)) _ _ (by omega) ⟨k+1,rfl,by simp,by omega,n (by omega)⟩⟩
 ·have:k=N:=by omega
  subst this;exact⟨rfl,.inl j⟩
theorem FV{B:List Nat}{w0 w:World}{L R:List Asn}{x:Asn}(H:Hp B w0 w (L++x::R)):Hp B w0 w (x::(L++R)):=H.perm List.perm_middle
theorem front_mid{B:List Nat}{w0 w:World}{L R:List Asn}{x:Asn}(H:Hp B w0 w (x::(L++R))):Hp B w0 w (L++x::R):=H.perm List.perm_middle.symm
theorem Sz{B:List Nat}{w0 w:World}{L R:List Asn}{l:Nat}{o o':Obj}(H:Hp B w0 w (L++objA l o::R)):Hp B w0 (w.putObj l o') (L++objA l o'::R):=front_mid (FV H).putO
theorem Jr{σ ρ:Type}{d:Int->World->(World->(World->Prop)->Prop)->(World->Prop)->(World->Prop)->(Nat->World->Prop)->Prop}{Z Qr:Nat->World->Prop}{Qx:Nat->Nat->World->Prop}{B:List Nat}{w0 w:World}
  (b N:Nat) (G:Nat->σ->Pg) (Lk:Nat->σ->List Asn) (a:Nat->σ->Prop) (J:ρ->List Asn) (f:ρ->Prop) (o:σ) (t:a 0 o) (H:Hp B w0 w (Lk 0 o))
  (u:∀k x w' T,a k x->Hp B w0 w' (Lk k x++T)->PgAt w' b (G k x)/\(G k x).many=N)
  (j:∀k x,k<N->a k x->atOf (G k x) k=0->∃x',a (k+1) x'/\Lk (k+1) x'=Lk k x)
  (i:∀k x,k<N->a k x->0<atOf (G k x) k->∀(w':World)(T0 K:List Asn)(g:World->(World->Prop)->Prop)(kn kr:World->Prop)(kx:Nat->World->Prop),Hp B w0 w' (Lk k x++T0)->
   (∀L:World->Prop,(∀p,Hp B w0 p (Lk k x++K)->L p)->g w' L)->(∀m x',a (k+1) x'->Hp B w0 m (Lk (k+1) x'++K)->kn m)->(∀m y,f y->Hp B w0 m (J y++K)->kr m)->d (k:Int) w' g kn kr kx)
  (z:∀x D w',a N x->Hp B w0 w' (Lk N x++[objA D (.deferred (some []))])->Z D w')
  (A:∀y D w',f y->Hp B w0 w' (J y++[objA D (.deferred (some []))])->Qr D w'):
  E5 Tryz.prog 85 [.pointer (some ⟨b,0,none⟩)] [] (fun s:Int=>[.int .i64 s]) d w Z Qr Qx:=by
 refine⟨fun D l wa M h hD hl hy=>?_⟩
 have H2:Hp B w0 M (Lk 0 o++[objA l (h .ready none),objA D (.deferred (some []))]):=by
  have h1:=H.newO ⟨rfl,rfl,rfl,rfl⟩ hD;have h2:=h1.newO ⟨rfl,rfl,rfl,rfl⟩ hl;refine h2.perm ?_;exact(List.perm_append_comm (l₁:=[objA l (h .ready none),objA D (.deferred (some []))]) (l₂:=Lk 0 o))
 refine AC (each_spec b _ N (fun k w'=>∃x,a k x/\Hp B w0 w' (Lk k x++[objA l (h .ready none),objA D (.deferred (some []))])) (fun w'=>∃y,f y/\Hp B w0 w' (J y++[objA l (h .done (some .ret)),objA D (.deferred (some []))])) M ⟨o,t,H2⟩ ⟨_,u 0 o M _ t H2⟩ ?_) ?_
 ·rintro k w' hk ⟨x,C,q⟩
  obtain⟨O,R⟩:=u k x w' _ C q;refine⟨_,O,R,fun p Hw=>⟨fun U=>?_,fun U=>?_⟩⟩
  ·obtain⟨x',n,he⟩:=j k x hk C U
   exact⟨x',n,by rw[he];exact q.ext0 Hw⟩
  ·have r:=q.ext0 Hw
   have c:=(FV r).obj (.head _);refine hy (k:Int) p _ (i k x hk C U p _ [objA l (h .busy none),objA D (.deferred (some []))] _ _ _ _ r ?_ ?_ ?_) c
   ·intro L X
    exact⟨c,X _ (Sz r)⟩
   ·intro m x' n F
    exact⟨(FV F).obj (.head _),.inl ⟨rfl,x',n,Sz F⟩⟩
   ·intro m y Y F
    exact⟨(FV F).obj (.head _),.inr ⟨rfl,y,Y,Sz F⟩⟩
 ·rintro e p ⟨rfl,⟨x,C,q⟩|⟨y,Y,r⟩⟩
  ·exact⟨_,rfl,.inl ⟨(FV q).obj (.head _),z x D _ C (FV q).putO.drop⟩⟩
  ·exact⟨_,rfl,.inr (.inl ⟨(FV r).obj (.head _),A y D _ Y (FV r).putO.drop⟩)⟩
def live(g:Pg)(k:Nat):List Nat:=(List.range k).filter fun j=>decide (0<atOf g j)
theorem JI(g:Pg)(k:Nat):live g (k+1)=if 0<atOf g k then live g k++[k]else live g k:=by
 simp only[live,List.range_succ,List.filter_append];split<;>rename_i h<;>simp[h]
theorem TC(g:Pg)(k:Nat):(live g k).length<=k:=by
 have:=List.length_filter_le (fun j=>decide (0<atOf g j)) (List.range k)
 rwa [List.length_range]at this
def intC(l:List Nat):List Value:=l.map fun(k:Nat)=>Value.int .i64 (k:Int)
theorem Zi:Elt Tryz.prog 59 3 1 8:=CW (by kernel_rfl)
theorem aJ:Tryz.prog.underlying 59=some (.slice 3):=by kernel_rfl
theorem slots_spec(b:Nat)(g:Pg)(w:World)(h:PgAt w b g):
  Calls Tryz.prog 47 #[.pointer (some ⟨b,0,none⟩)] w fun e w'=>∃a c,e=.returned (.slice a (live g g.many).length c)/\Hp [] w w' [.own 3 1 a (live g g.many).length c (intC (live g g.many))]:=by
 apply slots.ok;unfold slots.vc;have H:=Hp.start w
 have l:maxLen=9223372036854775807:=by simp[maxLen]
 have z:=h.1.many
 (intro _ _ d;replace H:=H.nw d;clear d)
 rename_i n _;refine⟨_,_,_,rfl,⟨_,_,Tryz.func85,rfl⟩,?_⟩
 refine Jr b g.many (fun _ _=>g) (fun k (x:Option Addr×Nat)=>[.own 3 1 x.1 (live g k).length x.2 (intC (live g k)),.blk n [.slice x.1 (live g k).length x.2] 59]) (fun _ _=>True) (fun _:Unit=>[]) (fun _=>False) (none,0) trivial (by simpa [live,intC]using H.nilS 3 1)
  (fun k x w' T _ H=>⟨h.chg H.chg (by simp),rfl⟩) (fun k x o _ m=>⟨x,trivial,by rw[JI,if_neg (by omega)]⟩) ?_ ?_ (fun y D w' p _=>p.elim)
 ·clear H
  intro k x o _ m w' A B i C F G _ f j _;refine f _ fun J H=>?_;simp only[cons_append,nil_append]at H;have q:=TC g k
  ((repeat apply Exists.intro);refine⟨H.lo Gv,?_⟩;intro _ _ d;replace H:=H.nw d;clear d)
  refine Hp.app Zi (by omega) H.Ae EQ4 (Blk.src aJ (H.blk (.head _)) rfl rfl) (by omega) (by omega) ?_;clear H;intro r s K H
  (apply Hp.st;(case H=>exact H.BD);(case e=>exact⟨rfl,rfl,rfl,rfl⟩);(case S=>exact Gv);(case hv=>exact rfl);(case h1=>exact rfl);(case ho=>exact Nat.le_of_ble_eq_true rfl);(case hc=>exact rfl);clear H;intro _ H;(try simp only[over,set_cons_zero,set_cons_succ]at H))
  have e:live g (k+1)=live g k++[k]:=by rw[JI,if_pos m]
  refine j _ (r,s) trivial ?_
  have t:(live g (k+1)).length=(live g k).length+1:=by rw[e];simp
  have u:intC (live g (k+1))=intC (live g k)++[.int .i64 (k:Int)]:=by rw[e];simp[intC]
  rw[t,u];exact H.del2.Ae
 ·clear H
  intro x D w' _ H;simp only[cons_append,nil_append]at H
  ((repeat apply Exists.intro);refine⟨H.lo Gv,?_⟩)
  refine Hp.shut H.BD fun L H=>?_;exact⟨x.1,x.2,rfl,H.MV⟩
def total(g:Pg)(k:Nat):Nat:=((live g k).map (lenOf g)).sum
theorem NQ(g:Pg)(k:Nat):total g (k+1)=if 0<atOf g k then total g k+lenOf g k else total g k:=by
 simp only[total,JI];split<;>simp
theorem total_le{g:Pg}(h:g.Ok)(k:Nat):total g k<=65535*k:=by
 induction k with
 |zero=>exact Nat.le_of_eq rfl
 |succ k a=>
  rw[NQ,Nat.mul_succ];have:=(h.atB k).2;generalize 65535*k=y at a⊢;split<;>omega
theorem room_spec(b:Nat)(g:Pg)(w:World)(h:PgAt w b g):
  Calls Tryz.prog 169 #[.pointer (some ⟨b,0,none⟩)] w fun e w'=>e=.returned (.int .i64 (3600-(total g g.many:Int)))/\Hp [] w w' []:=by
 apply room.ok;unfold room.vc;have H:=Hp.start w;have p:=h.1.many
 (intro _ _ a;replace H:=H.nw a;clear a;intro _ _ a;replace H:=H.nw a;clear a;apply Hp.st;(case H=>exact H);(case e=>exact⟨rfl,rfl,rfl,rfl⟩);(case S=>exact scl3);(case hv=>exact rfl);(case h1=>exact rfl);(case ho=>exact Nat.le_of_ble_eq_true rfl);(case hc=>exact rfl);clear H;intro _ H;(try simp only[over,set_cons_zero,set_cons_succ]at H);(repeat apply Exists.intro);refine⟨H.lo EG,?_⟩)
 rename_i m _ n _ _;refine⟨_,_,_,rfl,⟨_,_,Tryz.func85,rfl⟩,?_⟩
 refine Jr b g.many (fun _ _=>g) (fun k (_:Unit)=>[.blk n [.int .i64 (3600-(total g k:Int))] 3,.blk m [.pointer (some ⟨b,0,none⟩)] 95]) (fun _ _=>True) (fun _:Unit=>[]) (fun _=>False) () trivial (by simpa [total,live]using H)
  (fun k x w' T _ H=>⟨h.chg H.chg (by simp),rfl⟩) (fun k x i _ j=>⟨x,trivial,by rw[NQ,if_neg (by omega)]⟩) ?_ ?_ (fun y D w' o _=>o.elim)
 ·clear H
  intro k x i _ j w' q r d s t u _ c f _;refine c _ fun z H=>?_;simp only[cons_append,nil_append]at H;have A:=(h.1.atB k).2;have B:=total_le h.1 k
  ((repeat apply Exists.intro);refine⟨H.lo EG,?_⟩)
  refine AC (RU b g k i _ (h.chg H.chg (by simp))) ?_;rintro e C ⟨rfl,l⟩;replace H:=H.ext0 l;clear l;refine⟨_,_,rfl,?_⟩
  ((repeat apply Exists.intro);refine⟨H.lo scl3,?_⟩)
  refine⟨iR,?_⟩
  (apply Hp.st;(case H=>exact H);(case e=>exact⟨rfl,rfl,rfl,rfl⟩);(case S=>exact scl3);(case hv=>exact rfl);(case h1=>exact rfl);(case ho=>exact Nat.le_of_ble_eq_true rfl);(case hc=>exact rfl);clear H;intro _ H;(try simp only[over,set_cons_zero,set_cons_succ]at H))
  refine f _ () trivial ?_
  have e:(3600:Int)-(total g (k+1):Int)=3600-(total g k:Int)-(lenOf g k:Int):=by rw[NQ,if_pos j];omega
  rw[e];exact H
 ·clear H
  intro x D w' _ H;simp only[cons_append,nil_append]at H
  ((repeat apply Exists.intro);refine⟨H.lo scl3,?_⟩)
  refine Hp.shut H.BD fun F H=>?_;exact⟨rfl,H.done⟩
theorem Y0:Tryz.prog.underlying 159=some (.slice 5):=by kernel_rfl
theorem und5:Tryz.prog.underlying 5=some (.int .u8):=by kernel_rfl
theorem und9:Tryz.prog.underlying 9=some .string:=by kernel_rfl
theorem PgAt.cellsB{w:World}{b:Nat}{g:Pg}(h:PgAt w b g)(i:Nat)(n:Nat)(e:i+n<=4096):Cells w (slA (some ⟨b,0,none⟩) 4096 i 1) (Aa ((g.bs.drop i).take n)):=by
 intro j v a;have f:=h.1.len
 have c:j<n:=by
  have:=(List.getElem?_eq_some_iff.1 a).1;rw[Ah,length_take,length_drop]at this;omega
 have d:v=.int .u8 ((g.bs[i+j]'(by omega)).toNat:Int):=by
  simp only[Aa,List.getElem?_map,List.getElem?_take,List.getElem?_drop,if_pos c,List.getElem?_eq_getElem (show i+j<g.bs.length by omega),Option.map_some,Option.some.injEq]at a;exact a.symm
 subst d;unfold slA;rw[if_neg (by omega)];refine⟨_,rfl,?_⟩;rw[Nat.mul_one,add_add,addB];exact h.2.cell (h.1.byte (by omega))
def recB(g:Pg)(k:Nat):List UInt8:=(g.bs.drop (atOf g k)).take (lenOf g k)
theorem get_spec(b:Nat)(g:Pg)(k:Int)(w:World)(h:PgAt w b g)(a:∀j,j<g.many->atOf g j+lenOf g j<=4096):
  Calls Tryz.prog 48 #[.pointer (some ⟨b,0,none⟩),.int .i64 k] w fun e w'=>e=.returned (if 0<=k/\k<g.many/\0<atOf g k.toNat then .tuple #[sv (recB g k.toNat),.bool true]else .tuple #[sv [],.bool false])/\Hp [] w w' []:=by
 apply get.ok;unfold get.vc;have H:=Hp.start w;refine AC (JK b g k w h) ?_;rintro e i ⟨rfl,d⟩;replace H:=H.ext0 d;clear d;refine⟨_,_,rfl,?_⟩;by_cases c:0<=k/\k<g.many
 ·rw[if_pos c,if_pos c]
  obtain⟨K,rfl⟩:∃K:Nat,k=K:=⟨k.toNat,by omega⟩
  have l:K<g.many:=by omega
  have m:=a K l;rw[Int.toNat_natCast];show br (decide ((atOf g K:Int)=0)) _ _;refine AB (fun n=>?_) (fun n=>AA rfl ?_)
  ·rw[if_neg (by omega)];exact⟨rfl,H⟩
  ·rw[if_pos ⟨by omega,by omega,by omega⟩]
   have o:Int.toNat (atOf g K:Int)=atOf g K:=by omega
   have p:Int.toNat ((atOf g K:Int)+(lenOf g K:Int))=atOf g K+lenOf g K:=by omega
   show inR .i64 ((atOf g K:Int)+(lenOf g K:Int))/\_;refine⟨iR,⟨by omega,by show(atOf g K:Int)<=(atOf g K:Int)+(lenOf g K:Int);omega,by show(atOf g K:Int)+(lenOf g K:Int)<=4096;omega⟩,⟨(recB g K).toArray⟩,?_,rfl,H⟩;show B2S Tryz.prog 159 9 i (.slice (slA (some ⟨b,0,none⟩) 4096 (Int.toNat (atOf g K:Int)) 1) (Int.toNat ((atOf g K:Int)+(lenOf g K:Int))-Int.toNat (atOf g K:Int)) _) _;rw[o,p];have q:=h.1.len;exact b2s Y0 und5 und9 (by rw[CQ];exact(h.chg H.chg (by simp)).cellsB _ _ m) (by simp[ByteArray.size,recB];omega)
 ·rw[if_neg c,if_neg c,if_neg (fun f=>c ⟨f.1,f.2.1⟩)]
  exact AB (fun _=>⟨rfl,H⟩) (fun h=>absurd rfl h)
abbrev Recs:=List (Nat×List UInt8)
def tot(L:Recs):Nat:=(L.map (·.2.length)).sum
def Laid(d:List (Nat×Nat)):Nat→Recs→Prop
  |a,[]=>a=4096
  |a,(k,s)::r=>d[k]? =some (a,s.length)∧Laid d (a+s.length) r
structure Rep(g:Pg)(L:Recs)(stamp:Nat):Prop where
  ok:g.Ok
  st:g.st=be (stamp:Int) 8
  stamp:stamp≤4611686018427387904
  hdr:g.hdr=g.many
  sorted:L.Pairwise fun x y=>x.1<y.1
  below:∀p∈L,p.1<g.many
  last:g.many=0∨∃s,(g.many-1,s)∈L
  free:∀k,k<g.many→(∀s,(k,s)∉L)→g.dir.getD k (0,0)=(0,0)
  ord:∃ord:Recs,ord.Perm L∧Laid g.dir g.low ord∧g.data.drop (g.low-490)=ord.flatMap (·.2)
  small:tot L≤3600
  low:g.low+tot L=4096
theorem UH{x y:Recs}(h:x.Perm y):tot x=tot y:=(h.map _).sum_nat
theorem Ul(x y:Recs):tot (x++y)=tot x+tot y:=by simp[tot]
theorem FY(p:Nat×List UInt8)(y:Recs):tot (p::y)=p.2.length+tot y:=by simp[tot]
theorem BM(x:Recs):(x.flatMap (·.2)).length=tot x:=by
  induction x with
  |nil=>rfl
  |cons p r a=>rw[flatMap_cons,length_append,a,FY]
theorem NP{d:List (Nat×Nat)}:∀(b:Recs){a k:Nat}{s:List UInt8}{c:Recs},Laid d a (b++(k,s)::c)→d[k]? =some (a+tot b,s.length)∧Laid d (a+tot b+s.length) c
  | [],a,k,s,c,h=>by simpa [tot,Laid]using h
  |(j,t)::b,a,k,s,c,h=>by
    obtain⟨_,e⟩:=h
    have:=NP b e
    rw[FY,show a+(t.length+tot b)=a+t.length+tot b by omega]
    exact this
theorem Yy{d:List (Nat×Nat)}:∀(x:Recs){a:Nat},Laid d a x→a+tot x=4096
  | [],a,h=>by simpa [tot,Laid]using h
  |(k,s)::r,a,h=>by
    have:=Yy r h.2
    rw[FY];simp only;omega
theorem sorted_nodup{L:Recs}(h:L.Pairwise fun x y=>x.1<y.1):(L.map (·.1)).Nodup:=by
  rw[List.nodup_iff_pairwise_ne,pairwise_map]
  exact h.imp fun h=>by omega
theorem one_key{L:Recs}(h:L.Pairwise fun x y=>x.1<y.1){k:Nat}{s t:List UInt8}(h1:(k,s)∈L)(f:(k,t)∈L):s=t:=by
  induction L with
  |nil=>cases h1
  |cons p r i=>
    obtain⟨b,j⟩:=pairwise_cons.1 h
    rcases mem_cons.1 h1 with c|d<;>rcases mem_cons.1 f with a|e
    · rw[← c]at a;exact(Prod.mk.inj a).2.symm
    · have:=b _ e;rw[← c]at this;simp at this
    · have:=b _ d;rw[← a]at this;simp at this
    · exact i j d e
theorem VB:∀{x y:List Nat},x.Pairwise (· < ·)→y.Pairwise (· < ·)→(∀k,k∈x↔k∈y)→x=y
  | [],[],_,_,_=>rfl
  | [],b::y,_,_,h=>by have:=(h b).2 (.head _);cases this
  |a::x,[],_,_,h=>by have:=(h a).1 (.head _);cases this
  |a::x,b::y,hx,hy,h=>by
    obtain⟨c,i⟩:=pairwise_cons.1 hx
    obtain⟨d,j⟩:=pairwise_cons.1 hy
    have l:a=b:=by
      rcases mem_cons.1 ((h a).1 (.head _))with e|m
      · exact e
      · rcases mem_cons.1 ((h b).2 (.head _))with e|n
        · exact e.symm
        · have:=d a m;have:=c b n;omega
    subst l
    congr 1
    refine VB i j fun k=>⟨fun f=>?_,fun f=>?_⟩
    · rcases mem_cons.1 ((h k).1 (.tail _ f))with e|m
      · subst e;have:=c k f;omega
      · exact m
    · rcases mem_cons.1 ((h k).2 (.tail _ f))with e|m
      · subst e;have:=d k f;omega
      · exact m
section
variable {g : Pg} {L : Recs} {stamp : Nat}
theorem Rep.entry(h:Rep g L stamp){k:Nat}{s:List UInt8}(i:(k,s)∈L):∃b a:Recs,(b++(k,s)::a).Perm L∧Laid g.dir g.low (b++(k,s)::a)∧g.data.drop (g.low-490)=(b++(k,s)::a).flatMap (·.2)∧g.dir[k]? =some (g.low+tot b,s.length)∧g.low+tot b+s.length+tot a=4096∧496≤g.low:=by
  obtain⟨j,c,d,l⟩:=h.ord
  obtain⟨b,a,e⟩:=List.append_of_mem (c.mem_iff.2 i)
  subst e
  have f:=NP b d
  have m:=Yy a f.2
  have:=h.low
  have:=h.small
  exact⟨b,a,c,d,l,f.1,m,by omega⟩
theorem Oz{d:List (Nat×Nat)}{k:Nat}{p:Nat×Nat}(h:d[k]? =some p):d.getD k (0,0)=p:=by rw[getD_eq_getElem?_getD,h];rfl
theorem Rep.at_(h:Rep g L stamp){k:Nat}{s:List UInt8}(j:(k,s)∈L):496≤atOf g k∧lenOf g k=s.length∧atOf g k+lenOf g k≤4096∧recB g k=s:=by
  obtain⟨a,b,o,p,l,c,q,r⟩:=h.entry j
  have e:=Oz c
  have m:atOf g k=g.low+tot a:=by rw[atOf,e]
  have d:lenOf g k=s.length:=by rw[lenOf,e]
  refine⟨by omega,d,by omega,?_⟩
  have f:g.bs.drop 490=g.data:=by
    have:g.bs=(g.st++(be g.hdr 2++dirB g.dir))++g.data:=by simp[Pg.bs]
    rw[this]
    exact drop_left _ _ _ (by simp only[length_append,AX,Jf,h.ok.st,h.ok.dir])
  have i:=h.ok.low
  have:g.bs.drop (atOf g k)=(g.data.drop (g.low-490)).drop (tot a):=by
    have n:atOf g k=490+(g.low-490)+tot a:=by
      rw[m];clear f c e;omega
    rw[← f,drop_drop,drop_drop,n,Nat.add_assoc]
  rw[recB,this,l,d,flatMap_append,flatMap_cons]
  rw[drop_left _ _ _ (BM a)]
  exact take_left _ _ _ rfl
theorem Rep.JX(h:Rep g L stamp){k:Nat}:(k<g.many∧0<atOf g k)↔∃s,(k,s)∈L:=by
  constructor
  · rintro⟨c,b⟩
    refine Classical.byContradiction fun d=>?_
    have:=h.free k c fun s a=>d ⟨s,a⟩
    rw[atOf,this]at b;simp at b
  · rintro⟨s,a⟩
    have:=h.at_ a
    exact⟨h.below _ a,by omega⟩
theorem Rep.RF(h:Rep g L stamp):live g g.many=L.map (·.1):=by
  refine VB ?_ ?_ fun k=>?_
  · exact List.pairwise_lt_range.filter _
  · rw[pairwise_map];exact h.sorted
  · simp only[live,mem_filter,List.mem_range,decide_eq_true_eq,h.JX,mem_map]
    constructor
    · rintro⟨s,a⟩;exact⟨_,a,rfl⟩
    · rintro⟨⟨b,s⟩,a,rfl⟩;exact⟨s,a⟩
theorem Rep.total_eq(h:Rep g L stamp):total g g.many=tot L:=by
  rw[total,h.RF,tot,map_map]
  congr 1
  refine List.map_congr_left fun p a=>?_
  exact(h.at_ (k:=p.1) (s:=p.2) a).2.1
theorem Rep.fit(h:Rep g L stamp)(j:Nat)(b:j<g.many):atOf g j+lenOf g j≤4096:=by
  by_cases a:∃s,(j,s)∈L
  · obtain⟨s,a⟩:=a;exact(h.at_ a).2.2.1
  · have:=h.free j b fun s c=>a ⟨s,c⟩
    rw[atOf,lenOf,this];simp
end
def Bg(d:List (Nat×Nat))(a n k:Nat):List (Nat×Nat):=d.mapIdx fun j p=>if j<k∧0<p.1∧p.1≤a then(p.1+n,p.2)else p
theorem CG(d:List (Nat×Nat))(a n k j:Nat):(Bg d a n k)[j]? =d[j]?.map fun p=>if j<k∧0<p.1∧p.1≤a then(p.1+n,p.2)else p:=by
  simp[Bg]
theorem shiftD_zero(d:List (Nat×Nat))(a n:Nat):Bg d a n 0=d:=by
  apply ext_getElem?
  intro j
  rw[CG]
  cases d[j]? <;>simp
theorem J4(d:List (Nat×Nat))(a n k:Nat):(Bg d a n k).length=d.length:=by simp[Bg]
theorem Uz(d:List (Nat×Nat))(a n k:Nat):(Bg d a n k).getD k (0,0)=d.getD k (0,0):=by
  simp only[getD_eq_getElem?_getD,CG]
  cases d[k]? <;>simp
theorem QU(d:List (Nat×Nat))(a n k:Nat):Bg d a n (k+1)=if 0<(d.getD k (0,0)).1∧(d.getD k (0,0)).1≤a then(Bg d a n k).set k ((d.getD k (0,0)).1+n,(d.getD k (0,0)).2)else Bg d a n k:=by
  apply ext_getElem?
  intro j
  by_cases h:j=k
  · subst h
    by_cases i:j<d.length
    · have e:d[j]? =some d[j]:=List.getElem?_eq_getElem i
      have f:d.getD j (0,0)=d[j]:=Oz e
      rw[f]
      split
      · rename_i c
        rw[List.getElem?_set_self (by rw[J4];exact i),CG,e]
        simp[c.1,c.2]
      · rename_i c
        rw[CG,CG,e]
        simp only[Option.map_some]
        rw[if_neg (fun l=>c l.2),if_neg (by omega)]
    · have e:d[j]? =none:=List.getElem?_eq_none (by omega)
      have f:d.getD j (0,0)=(0,0):=by rw[getD_eq_getElem?_getD,e];rfl
      rw[f,if_neg (by simp),CG,CG,e];rfl
  · have m:(Bg d a n (k+1))[j]? =(Bg d a n k)[j]? :=by
      rw[CG,CG]
      cases d[j]? with
      |none=>rfl
      |some p=>
        simp only[Option.map_some,Option.some.injEq]
        by_cases b:j<k
        · simp[b,show j<k+1 by omega]
        · simp[b,show¬j<k+1 by omega]
    rw[m]
    split
    · rw[List.getElem?_set_ne (Ne.symm h)]
    · rfl
def trim(d:List (Nat×Nat)):Nat→Nat
  |0=>0
  |m+1=>if(d.getD m (0,0)).1=0 then trim d m else m+1
theorem O5(d:List (Nat×Nat)):∀m,trim d m≤m
  |0=>Nat.le_refl _
  |m+1=>by
    rw[trim]
    split
    · exact Nat.le_succ_of_le (O5 d m)
    · exact Nat.le_refl _
theorem WL(d:List (Nat×Nat)):∀m,trim d m=0∨(d.getD (trim d m-1) (0,0)).1≠0
  |0=>.inl rfl
  |m+1=>by
    rw[trim]
    split
    · exact WL d m
    · right;simpa using ‹_›
theorem NY(d:List (Nat×Nat)):∀m k,trim d m≤k→k<m→(d.getD k (0,0)).1=0
  |0,k,_,h=>by omega
  |m+1,k,h1,h2=>by
    rw[trim]at h1
    split at h1
    · by_cases a:k=m
      · subst a;assumption
      · exact NY d m k h1 (by omega)
    · omega
def Dq (g : Pg) (k : Nat) : Pg :=
  let a := atOf g k
  let n := lenOf g k
  let d := (Bg g.dir a n g.many).set k (0,0)
  { g with dir := d,low := g.low + n,many := trim d g.many,hdr := trim d g.many
           data := g.data.take (g.low - 490) ++ (List.replicate n 0 ++ ((g.data.drop (g.low - 490)).take (a - g.low) ++ g.data.drop (a + n - 490))) }
theorem Rep.drop{g:Pg}{L:Recs}{stamp:Nat}(h:Rep g L stamp){k:Nat}{s:List UInt8}(hm:(k,s)∈L):Rep (Dq g k) (L.filter fun p=>p.1 !=k) stamp:=by
  obtain⟨pre,post,h1,h2,h3,h4,h5,h6⟩:=h.entry hm
  have hat:=h.at_ hm
  have hkm:=h.below _ hm
  have e:=Oz h4
  have ea:atOf g k=g.low+tot pre:=by rw[atOf,e]
  have el:lenOf g k=s.length:=by rw[lenOf,e]
  have hok:=h.ok
  have hdl:=hok.data
  have hml:=hok.many
  have hnd:((pre++(k,s)::post).map (·.1)).Nodup:=(h1.map _).nodup_iff.2 (sorted_nodup h.sorted)
  have hkpre:∀p∈pre,p.1≠k:=by
    intro p hp he
    rw[map_append,map_cons,nodup_append]at hnd
    exact hnd.2.2 _ (List.mem_map_of_mem hp) _ (.head _) he
  have hkpost:∀p∈post,p.1≠k:=by
    intro p hp he
    rw[map_append,map_cons,nodup_append]at hnd
    exact(List.nodup_cons.1 hnd.2.1).1 (by show k∈post.map (·.1);rw[← he];exact List.mem_map_of_mem hp)
  have hfilt:(pre++(k,s)::post).filter (fun p=>p.1 !=k)=pre++post:=by
    rw[List.filter_append,filter_cons]
    have a1:pre.filter (fun p=>p.1 !=k)=pre:=filter_eq_self.2 fun p hp=>by simpa using hkpre p hp
    have a2:post.filter (fun p=>p.1 !=k)=post:=filter_eq_self.2 fun p hp=>by simpa using hkpost p hp
    simp[a1,a2]
  have hperm:(pre++post).Perm (L.filter fun p=>p.1 !=k):=by rw[← hfilt];exact h1.filter _
  have htot:tot (pre++(k,s)::post)=tot L:=UH h1
  rw[Ul,FY]at htot
  simp only at htot
  have hlow:=h.low
  have hsmall:=h.small
  have hd':∀j t a,(j,t)∈pre++post→g.dir[j]? =some (a,t.length)→(Dq g k).dir[j]? =some (if 0<a∧a≤atOf g k then a+s.length else a,t.length):=by
    intro j t a hj hd
    have hjk:j≠k:=by
      rcases mem_append.1 hj with hj|hj
      · exact hkpre _ hj
      · exact hkpost _ hj
    have hjm:j<g.many:=h.below (j,t) (h1.mem_iff.1 (by simp only[mem_append,mem_cons]at hj⊢;rcases hj with hj|hj<;>simp[hj]))
    show((Bg g.dir (atOf g k) (lenOf g k) g.many).set k (0,0))[j]? =_
    rw[List.getElem?_set_ne (Ne.symm hjk),CG,hd]
    simp only[Option.map_some,hjm,true_and,el]
    split<;>simp
  have hfree:∀j,j<g.many→(∀t,(j,t)∉pre++post)→(Dq g k).dir.getD j (0,0)=(0,0):=by
    intro j hj hn
    show((Bg g.dir (atOf g k) (lenOf g k) g.many).set k (0,0)).getD j (0,0)=_
    rw[getD_eq_getElem?_getD]
    by_cases hjk:j=k
    · subst hjk
      rw[List.getElem?_set_self (by rw[J4,hok.dir];omega)];rfl
    · rw[List.getElem?_set_ne (Ne.symm hjk),CG]
      have:=h.free j hj fun t ht=>by
        rcases mem_append.1 (h1.mem_iff.2 ht)with h7|h7
        · exact hn t (List.mem_append_left _ h7)
        · rcases mem_cons.1 h7 with h8|h8
          · exact hjk (Prod.mk.inj h8).1
          · exact hn t (List.mem_append_right _ h8)
      rw[getD_eq_getElem?_getD]at this
      cases hd:g.dir[j]? with
      |none=>rfl
      |some p=>rw[hd]at this;simp only[Option.getD_some]at this;subst this;simp
  have hlaid:Laid (Dq g k).dir (Dq g k).low (pre++post):=by
    have hpo:=(NP pre h2).2
    have hpre:∀(x:Recs)(a:Nat)(y:Recs),Laid g.dir a (x++(k,s)::y)→(∀p∈x,p∈pre++post)→0<a→a+tot x=atOf g k→Laid (Dq g k).dir (a+s.length+tot x) y→Laid (Dq g k).dir (a+s.length) (x++y):=by
      intro x
      induction x with
      |nil=>intro a y _ _ _ _ hy;simpa [tot]using hy
      |cons p x ih=>
        intro a y hl hx h0 hle hy
        obtain⟨j,t⟩:=p
        obtain⟨hl1,hl2⟩:=hl
        rw[FY]at hle hy
        simp only at hle hy
        refine⟨?_,?_⟩
        · rw[hd' j t a (hx _ (.head _)) hl1,if_pos ⟨h0,by omega⟩]
        · rw[show a+s.length+t.length=a+t.length+s.length by omega]
          refine ih (a+t.length) y hl2 (fun q hq=>hx q (.tail _ hq)) (by omega) (by omega) ?_
          rw[show a+t.length+s.length+tot x=a+s.length+(t.length+tot x) by omega];exact hy
    have hpost:∀(y:Recs)(a:Nat),Laid g.dir a y→(∀p∈y,p∈pre++post)→atOf g k+s.length≤a→Laid (Dq g k).dir a y:=by
      intro y
      induction y with
      |nil=>intro a hl _ _;exact hl
      |cons p y ih=>
        intro a hl hy hle
        obtain⟨j,t⟩:=p
        obtain⟨hl1,hl2⟩:=hl
        refine⟨?_,ih _ hl2 (fun q hq=>hy q (.tail _ hq)) (by omega)⟩
        rw[hd' j t a (hy _ (.head _)) hl1]
        split
        · rename_i hc
          have:s.length=0:=by omega
          rw[this];rfl
        · rfl
    have:=hpre pre g.low post h2 (fun p hp=>List.mem_append_left _ hp) (by omega) (by omega) (by
      rw[show g.low+s.length+tot pre=g.low+tot pre+s.length by omega]
      exact hpost post _ hpo (fun p hp=>List.mem_append_right _ hp) (by omega))
    show Laid (Dq g k).dir (g.low+lenOf g k) (pre++post)
    rw[el];exact this
  have hmany:(Dq g k).many=trim (Dq g k).dir g.many:=rfl
  have hin:∀j t,(j,t)∈pre++post→j<g.many∧0<((Dq g k).dir.getD j (0,0)).1:=by
    intro j t hj
    have hjm:(j,t)∈L:=h1.mem_iff.1 (by simp only[mem_append,mem_cons]at hj⊢;rcases hj with hj|hj<;>simp[hj])
    obtain⟨_,_,_,_,_,hj4,_,_⟩:=h.entry hjm
    refine⟨h.below _ hjm,?_⟩
    rw[Oz (hd' j t _ hj hj4)]
    simp only
    split<;>omega
  have hpt:tot (pre++post)+s.length=tot L:=by rw[Ul];omega
  have hpt2:tot (L.filter fun p=>p.1 !=k)=tot (pre++post):=(UH hperm).symm
  refine⟨⟨hok.st,?_,?_,?_,?_,?_,?_⟩,h.st,h.stamp,rfl,h.sorted.filter _,?_,?_,?_,⟨pre++post,hperm,hlaid,?_⟩,by omega,?_⟩
  · have:=O5 (Dq g k).dir g.many
    show trim (Dq g k).dir g.many<65536
    omega
  · show((Bg g.dir (atOf g k) (lenOf g k) g.many).set k (0,0)).length=120
    rw[length_set,J4,hok.dir]
  · show(g.data.take (g.low-490)++(List.replicate (lenOf g k) 0++((g.data.drop (g.low-490)).take (atOf g k-g.low)++g.data.drop (atOf g k+lenOf g k-490)))).length=3606
    simp only[length_append,length_take,length_replicate,length_drop,hdl]
    omega
  · have:=O5 (Dq g k).dir g.many
    show trim (Dq g k).dir g.many≤120
    omega
  · intro p hp
    have hp':p∈(Bg g.dir (atOf g k) (lenOf g k) g.many).set k (0,0):=hp
    rcases List.mem_or_eq_of_mem_set hp' with hp'|rfl
    · obtain⟨j,hj⟩:=List.getElem?_of_mem hp'
      rw[CG]at hj
      cases hd:g.dir[j]? with
      |none=>rw[hd]at hj;cases hj
      |some q=>
        rw[hd]at hj
        simp only[Option.map_some,Option.some.injEq]at hj
        have:=hok.ent q (mem_of_getElem? hd)
        rw[← hj]
        split
        · simp only;omega
        · exact this
    · simp
  · show g.low+lenOf g k≤4096
    omega
  · rintro⟨j,t⟩ hp
    obtain⟨hj1,hj2⟩:=hin j t (hperm.mem_iff.2 hp)
    rw[hmany]
    refine Classical.byContradiction fun hn=>?_
    have:=NY (Dq g k).dir g.many j (by simp only at hn;omega) hj1
    omega
  · rw[hmany]
    rcases WL (Dq g k).dir g.many with h0|h0
    · exact .inl h0
    · refine .inr ?_
      have htl:=O5 (Dq g k).dir g.many
      by_cases hz:trim (Dq g k).dir g.many=0
      · exfalso
        apply h0
        rw[hz]
        by_cases hmz:0<g.many
        · exact NY (Dq g k).dir g.many 0 (by omega) hmz
        · omega
      refine Classical.byContradiction fun hn=>h0 ?_
      rw[hfree _ (by omega) fun t ht=>hn ⟨t,hperm.mem_iff.1 ht⟩]
  · intro j hj hn
    rw[hmany]at hj
    have htl:=O5 (Dq g k).dir g.many
    exact hfree j (by omega) fun t ht=>hn t (hperm.mem_iff.1 ht)
  · show(g.data.take (g.low-490)++(List.replicate (lenOf g k) 0++((g.data.drop (g.low-490)).take (atOf g k-g.low)++g.data.drop (atOf g k+lenOf g k-490)))).drop (g.low+lenOf g k-490)=_
    rw[← append_assoc,drop_left _ _ _ (by simp only[length_append,length_take,length_replicate,hdl];omega)]
    have e6:(g.data.drop (g.low-490)).take (atOf g k-g.low)=pre.flatMap (·.2):=by
      rw[h3,flatMap_append]
      exact take_left _ _ _ (by rw[BM];omega)
    have e7:g.data.drop (atOf g k+lenOf g k-490)=post.flatMap (·.2):=by
      have:atOf g k+lenOf g k-490=(g.low-490)+(tot pre+s.length):=by omega
      rw[this,← drop_drop,h3,flatMap_append,flatMap_cons,← append_assoc]
      exact drop_left _ _ _ (by rw[length_append,BM])
    rw[e6,e7,flatMap_append]
  · show g.low+lenOf g k+_=4096
    omega
theorem Pg.X6{g:Pg}(h:g.Ok)(m:Nat):g.cells.set 4096 (.int .i64 (m:Int))=({g with many:=m}:Pg).cells:=by
 rw[Pg.cells,set_append,if_neg (by rw[Ah,h.len];omega),Ah,h.len];rfl
theorem Pg.Ze{g:Pg}(h:g.Ok)(m:Nat):g.cells.set 4097 (.int .i64 (m:Int))=({g with low:=m}:Pg).cells:=by
 rw[Pg.cells,set_append,if_neg (by rw[Ah,h.len];omega),Ah,h.len];rfl
def sl(i:Nat):Nat:=if 4096=i then 0 else i
theorem SY(b i:Nat):slA (some ⟨b,0,none⟩) 4096 i 1=some ⟨b,sl i,none⟩:=by
 unfold slA sl;split
 ·rfl
 ·rw[Option.map_some,Nat.mul_one,addB]
theorem XW(x:List Value)(i:Nat)(cs:List Value)(h:i+x.length<=4096):over x (sl i) cs=over x i cs:=by
 unfold sl;split
 ·have:x=[]:=List.eq_nil_of_length_eq_zero (by omega)
  subst this;rw[CX,CX]
 ·rfl
theorem dU(i:Nat):sl i<=i:=by unfold sl;split<;>omega
def GR(g:Pg)(i:Nat)(x:List UInt8):Pg:= {g with data:=g.data.take (i-490)++(x++g.data.drop (i-490+x.length))}
theorem Nw{g:Pg}(h:g.Ok){i:Nat}{x:List UInt8}(h1:490<=i)(a:i+x.length<=4096):(GR g i x).Ok:=
 ⟨h.st,h.hdr,h.dir,by simp only[GR,length_append,length_take,length_drop,h.data];omega,h.many,h.ent,h.low⟩
theorem PK{g:Pg}(h:g.Ok){i:Nat}{x:List UInt8}(h1:490<=i)(o:i+x.length<=4096):over (Aa x) i g.cells=(GR g i x).cells:=by
 have f:=h.data
 have e:g.data=g.data.take (i-490)++((g.data.drop (i-490)).take x.length++g.data.drop (i-490+x.length)):=by
  rw[<- drop_drop,take_append_drop,take_append_drop]
 obtain⟨p,j⟩:∃p,p=g.st++(be g.hdr 2++dirB g.dir):=⟨_,rfl⟩
 have c:p.length=490:=by rw[j];simp only[length_append,AX,Jf,h.st,h.dir]
 have k:∀d:List UInt8,({g with data:=d}:Pg).bs=p++d:=fun d=>by rw[j];simp[Pg.bs]
 have a:g.bs=p++g.data:=k g.data
 have l:g.cells=Aa (p++g.data.take (i-490))++(Aa ((g.data.drop (i-490)).take x.length)++(Aa (g.data.drop (i-490+x.length))++[.int .i64 (g.many:Int),.int .i64 (g.low:Int)])):=by
  conv=>lhs;rw[Pg.cells,a,e]
  simp only[CS,append_assoc]
 have m:(GR g i x).cells=Aa (p++g.data.take (i-490))++(Aa x++(Aa (g.data.drop (i-490+x.length))++[.int .i64 (g.many:Int),.int .i64 (g.low:Int)])):=by
  show Aa ({g with data:=g.data.take (i-490)++(x++g.data.drop (i-490+x.length))}:Pg).bs++_=_;rw[k];simp only[CS,append_assoc];rfl
 have n:(Aa (p++g.data.take (i-490))).length=i:=by rw[Ah,length_append,c,length_take,f];omega
 rw[l,m];have b:=Fb (Aa x) (Aa (p++g.data.take (i-490))) (Aa ((g.data.drop (i-490)).take x.length)) (Aa (g.data.drop (i-490+x.length))++[.int .i64 (g.many:Int),.int .i64 (g.low:Int)]) (by rw[Ah,Ah,length_take,length_drop,f];omega);rw[n]at b;exact b
theorem Qg(n:Nat):List.replicate n (Value.int .u8 0)=Aa (List.replicate n 0):=by simp[Aa]
theorem zero5:zeroOf Tryz.prog 5=some (.int .u8 0):=by kernel_rfl
theorem pgOf{B:List Nat}{w0 w w':World}{L:List Asn}{b:Nat}{g:Pg}(a:g.Ok)(H:Hp B w0 w L)(e:Eqw w w')(m:pgA b g∈L):PgAt w' b g:=⟨a,(H.go e).ok _ m⟩
theorem nodrop_spec(b:Nat)(g:Pg)(k:Int)(i:¬(0<=k/\k<g.many/\0<atOf g k.toNat))(w:World)(h:PgAt w b g):
  Calls Tryz.prog 170 #[.pointer (some ⟨b,0,none⟩),.int .i64 k] w fun e w'=>e=.returned (.tuple #[])/\Hp [] w w' []:=by
 apply drop.ok;unfold drop.vc;have H:=Hp.start w
 (intro _ _ a;replace H:=H.nw a;clear a)
 ((repeat apply Exists.intro);refine⟨H.lo EG,?_⟩)
 refine AC (JK b g k _ (h.chg H.chg (by simp))) ?_;rintro e j ⟨rfl,d⟩;replace H:=H.ext0 d;clear d
 have c:(if 0<=k/\k<(g.many:Int)then((g.dir.getD k.toNat (0,0)).1:Int)else 0)=0:=by
  split
  ·rename_i f
   have:¬0<atOf g k.toNat:=fun c=>i ⟨f.1,f.2,c⟩;have l:(g.dir.getD k.toNat (0,0)).1=atOf g k.toNat:=rfl;omega
  ·rfl
 rw[c];refine⟨_,_,rfl,?_⟩
 (intro _ _ a;replace H:=H.nw a;clear a)
 (intro _ _ a;replace H:=H.nw a;clear a)
 (apply Hp.st;(case H=>exact H.Ae);(case e=>exact⟨rfl,rfl,rfl,rfl⟩);(case S=>exact scl3);(case hv=>exact rfl);(case h1=>exact rfl);(case ho=>exact Nat.le_of_ble_eq_true rfl);(case hc=>exact rfl);clear H;intro _ H;(try simp only[over,set_cons_zero,set_cons_succ]at H))
 (apply Hp.st;(case H=>exact H.Ae);(case e=>exact⟨rfl,rfl,rfl,rfl⟩);(case S=>exact scl3);(case hv=>exact rfl);(case h1=>exact rfl);(case ho=>exact Nat.le_of_ble_eq_true rfl);(case hc=>exact rfl);clear H;intro _ H;(try simp only[over,set_cons_zero,set_cons_succ]at H))
 ((repeat apply Exists.intro);refine⟨H.lo scl3,?_⟩)
 exact AB (fun _=>⟨rfl,H.done⟩) (fun h=>absurd rfl h)
theorem drop_spec(b:Nat)(g:Pg)(L:Recs)(stamp:Nat)(hR:Rep g L stamp)(K:Nat)(s:List UInt8)(hK:(K,s)∈L)(w:World)(h:Blk w b g.cells 162):
  Calls Tryz.prog 170 #[.pointer (some ⟨b,0,none⟩),.int .i64 (K:Int)] w fun e w'=>e=.returned (.tuple #[])/\Hp [b] w w' [pgA b (Dq g K)]:=by
 apply drop.ok;unfold drop.vc;have H:Hp [b] w w [pgA b g]:=Hp.JA (a:=pgA b g) h;have hok:=hR.ok;have hml:=hok.many;have hdl:=hok.data;obtain⟨pre,post,p1,p2,p3,p4,p5,p6⟩:=hR.entry hK;obtain⟨q1,q2,q3,q4⟩:=hR.at_ hK;have hkm:=hR.below _ hK
 have ea:atOf g K=g.low+tot pre:=by rw[atOf,Oz p4]
 (intro _ _ hn;replace H:=H.nw hn;clear hn)
 ((repeat apply Exists.intro);refine⟨H.lo EG,?_⟩)
 refine AC (RU b g K hkm _ ⟨hok,H.ok _ m1⟩) ?_;rintro e w1 ⟨rfl,H'⟩;replace H:=H.ext0 H';clear H';refine⟨_,_,rfl,?_⟩
 (intro _ _ hn;replace H:=H.nw hn;clear hn)
 (intro _ _ hn;replace H:=H.nw hn;clear hn)
 (apply Hp.st;(case H=>exact H.Ae);(case e=>exact⟨rfl,rfl,rfl,rfl⟩);(case S=>exact scl3);(case hv=>exact rfl);(case h1=>exact rfl);(case ho=>exact Nat.le_of_ble_eq_true rfl);(case hc=>exact rfl);clear H;intro _ H;(try simp only[over,set_cons_zero,set_cons_succ]at H))
 (apply Hp.st;(case H=>exact H.Ae);(case e=>exact⟨rfl,rfl,rfl,rfl⟩);(case S=>exact scl3);(case hv=>exact rfl);(case h1=>exact rfl);(case ho=>exact Nat.le_of_ble_eq_true rfl);(case hc=>exact rfl);clear H;intro _ H;(try simp only[over,set_cons_zero,set_cons_succ]at H))
 ((repeat apply Exists.intro);refine⟨H.lo scl3,?_⟩)
 rename_i b0 _ b1 _ b2 _ _ _
 generalize hat:atOf g K=at_ at*
 generalize hln:lenOf g K=n at*;refine AB (fun h0=>absurd h0 (by omega)) (fun _=>?_);replace H:=H.drew;have hpl:∀w',Hp [b] w w' [.blk b2 [.int .i64 (n:Int)] 3,.blk b1 [.int .i64 (at_:Int)] 3,.blk b0 [.pointer (some ⟨b,0,none⟩)] 95,pgA b g]->PgAt w' b g:=fun w' H=>⟨hok,H.ok _ m3⟩
 ((repeat apply Exists.intro);refine⟨H.lo EG,?_⟩)
 refine AA rfl ?_
 ((repeat apply Exists.intro);refine⟨H.lo EG,?_⟩)
 refine AA rfl ⟨_,by rw[addB];exact(hpl _ H).QI,?_⟩
 ((repeat apply Exists.intro);refine⟨H.lo scl3,?_⟩)
 refine⟨iR,?_⟩
 ((repeat apply Exists.intro);refine⟨H.lo scl3,?_⟩)
 ((repeat apply Exists.intro);refine⟨H.lo scl3,?_⟩)
 have e1:Int.toNat ((g.low:Int)+(n:Int))=g.low+n:=by omega
 have e2:Int.toNat ((at_:Int)+(n:Int))=at_+n:=by omega
 have e3:Int.toNat (g.low:Int)=g.low:=by omega
 have e4:Int.toNat (at_:Int)=at_:=by omega
 dsimp only;rw[e1,e2];refine⟨iR,⟨by omega,by omega,by omega⟩,?_⟩
 ((repeat apply Exists.intro);refine⟨H.lo EG,?_⟩)
 refine AA rfl ?_
 ((repeat apply Exists.intro);refine⟨H.lo EG,?_⟩)
 refine AA rfl ⟨_,by rw[addB];exact(hpl _ H).QI,?_⟩
 ((repeat apply Exists.intro);refine⟨H.lo scl3,?_⟩)
 dsimp only;rw[e3,e4];refine⟨⟨by omega,by omega,by omega⟩,?_⟩;have hcell:=(hpl _ H).cellsB g.low (at_-g.low) (by omega);rw[SY]at hcell;rw[SY,SY]
 have hbl:((g.bs.drop g.low).take (at_-g.low)).length=at_-g.low:=by rw[length_take,length_drop,hok.len];omega
 have hsl:=dU (g.low+n);refine Hp.cpy H.D8 EQ4 Y0 scl5.size (Cells.src Y0 hcell (by rw[Ah,hbl,Nat.mul_one]) (Nb _) (fun h=>by cases h)) (by omega) (by rw[hok.clen];omega) ?_;clear H hcell;intro w3 H
 have hd490:g.bs.drop 490=g.data:=by
  have:g.bs=(g.st++(be g.hdr 2++dirB g.dir))++g.data:=by simp[Pg.bs]
  rw[this];exact drop_left _ _ _ (by simp only[length_append,AX,Jf,hok.st,hok.dir])
 have hmv:(g.bs.drop g.low).take (at_-g.low)=(g.data.drop (g.low-490)).take (at_-g.low):=by
  rw[<- hd490,drop_drop,show 490+(g.low-490)=g.low by omega]
 rw[XW _ _ _ (by rw[Ah,hbl];omega),PK hok (by omega) (by rw[hbl];omega)]at H;have ok1:=Nw hok (i:=g.low+n) (x:=(g.bs.drop g.low).take (at_-g.low)) (by omega) (by rw[hbl];omega);obtain⟨g1,hg1⟩:∃g1,g1=GR g (g.low+n) ((g.bs.drop g.low).take (at_-g.low)):=⟨_,rfl⟩;rw[<- hg1]at H ok1
 have hdir1:g1.dir=g.dir:=by rw[hg1];rfl
 have hmany1:g1.many=g.many:=by rw[hg1];rfl
 have hlow1:g1.low=g.low:=by rw[hg1];rfl
 have okS:∀k,({g1 with dir:=Bg g.dir at_ n k}:Pg).Ok:=fun k=>⟨ok1.st,ok1.hdr,by rw[J4];exact hok.dir,ok1.data,ok1.many,fun p hp=>by
  obtain⟨j,hj⟩:=List.getElem?_of_mem hp;rw[CG]at hj
  cases hd:g.dir[j]? with
  |none=>rw[hd]at hj;cases hj
  |some q=>
   rw[hd]at hj;simp only[Option.map_some,Option.some.injEq]at hj;have:=hok.ent q (mem_of_getElem? hd);rw[<- hj];split
   ·simp only;omega
   ·exact this,ok1.low⟩
 have hatS:∀k,atOf {g1 with dir:=Bg g.dir at_ n k} k=atOf g k/\lenOf {g1 with dir:=Bg g.dir at_ n k} k=lenOf g k:=fun k=>by
  refine⟨?_,?_⟩
  ·show((Bg g.dir at_ n k).getD k (0,0)).1=_
   rw[Uz];rfl
  ·show((Bg g.dir at_ n k).getD k (0,0)).2=_
   rw[Uz];rfl
 have H:Hp [b] w w3 [pgA b {g1 with dir:=Bg g.dir at_ n 0},.blk b2 [.int .i64 (n:Int)] 3,.blk b1 [.int .i64 (at_:Int)] 3,.blk b0 [.pointer (some ⟨b,0,none⟩)] 95]:=by
  rw[shiftD_zero,<- hdir1];exact H
 replace H:=H.D8
 ((repeat apply Exists.intro);refine⟨H.lo EG,?_⟩)
 refine⟨_,_,_,rfl,⟨_,_,Tryz.func85,rfl⟩,?_⟩
 refine Jr b g.many (fun k (_:Unit)=> {g1 with dir:=Bg g.dir at_ n k}) (fun k (_:Unit)=>[pgA b {g1 with dir:=Bg g.dir at_ n k},.blk b2 [.int .i64 (n:Int)] 3,.blk b1 [.int .i64 (at_:Int)] 3,.blk b0 [.pointer (some ⟨b,0,none⟩)] 95]) (fun _ _=>True) (fun _:Unit=>[]) (fun _=>False) () trivial (by((try dsimp only[cons_append,nil_append]);(try dsimp only[cons_append,nil_append]at H);refine Hp.perm H ?_;(repeat(apply JL;(focus first|exact O7|exact OL|exact OQ|exact perm_p3|exact perm_p4|exact perm_p5|exact perm_p6|exact perm_p7|exact perm_p8|exact perm_p9)));exact List.Perm.refl _))
  (fun k x w' T _ H=>⟨⟨okS k,H.ok _ (.head _)⟩,hmany1⟩) (fun k x hk _ h0=>⟨x,trivial,by
   rw[(hatS k).1]at h0;have h0':(g.dir.getD k (0,0)).1=0:=h0
   rw[QU,if_neg (by omega)]⟩) ?_ ?_ (fun y D w' hs _=>hs.elim)
 ·clear H
  intro k x hk _ h0 w' T0 T1 begin kn kr kx _ hbeg hkn _;refine hbeg _ fun w2 H=>?_;simp only[cons_append,nil_append]at H;replace H:=H.D8
  ((repeat apply Exists.intro);refine⟨H.lo EG,?_⟩)
  replace H:=H.Ae;have hA:=pgOf (okS k) H EQ4 (by repeat first|exact .head _|refine .tail _ ?_);refine AC (RU b _ k (by show k<g1.many;rw[hmany1];exact hk) _ hA) ?_;rintro e w4 ⟨rfl,H'⟩;replace H:=H.ext0 H';clear H';rw[(hatS k).1,(hatS k).2];rw[(hatS k).1]at h0;have hb:=hok.atB k;refine⟨_,_,rfl,?_⟩;replace H:=H.D8
  ((repeat apply Exists.intro);refine⟨H.lo scl3,?_⟩)
  have key:=QU g.dir at_ n k
  refine AB (fun hle=>?_) (fun hle=>?_)
  ·((repeat apply Exists.intro);refine⟨H.lo EG,?_⟩)
   ((repeat apply Exists.intro);refine⟨H.lo scl3,?_⟩)
   refine⟨iR,?_⟩
   have e5:(atOf g k:Int)+(n:Int)=((atOf g k+n:Nat):Int):=by omega
   try dsimp only
   rw[e5]
   replace H:Hp [b] w w4 (pgA b {g1 with dir:=Bg g.dir at_ n k}::.blk b2 [.int .i64 (n:Int)] 3::.blk b1 [.int .i64 (at_:Int)] 3::.blk b0 [.pointer (some ⟨b,0,none⟩)] 95::T1):=by((try dsimp only[cons_append,nil_append]);(try dsimp only[cons_append,nil_append]at H);refine Hp.perm H ?_;(repeat(apply JL;(focus first|exact O7|exact OL|exact OQ|exact perm_p3|exact perm_p4|exact perm_p5|exact perm_p6|exact perm_p7|exact perm_p8|exact perm_p9)));exact List.Perm.refl _)
   refine AC (OC b _ k (atOf g k+n) (lenOf g k) (by omega) (by omega) (by omega) _ (pgOf (okS k) H EQ4 (by repeat first|exact .head _|refine .tail _ ?_))) ?_;rintro e w5 ⟨rfl,_,H'⟩;replace H:=Hp.Ba (a:=pgA b _) H H';clear H'
   have hs:setD {g1 with dir:=Bg g.dir at_ n k} k (atOf g k+n) (lenOf g k)= {g1 with dir:=Bg g.dir at_ n (k+1)}:=by
    rw[key,if_pos ⟨h0,by show atOf g k<=at_;omega⟩];rfl
   rw[hs]at H;exact⟨rfl,hkn _ () trivial (by((try dsimp only[cons_append,nil_append]);(try dsimp only[cons_append,nil_append]at H);refine Hp.perm H ?_;(repeat(apply JL;(focus first|exact O7|exact OL|exact OQ|exact perm_p3|exact perm_p4|exact perm_p5|exact perm_p6|exact perm_p7|exact perm_p8|exact perm_p9)));exact List.Perm.refl _))⟩
  ·refine hkn _ () trivial ?_
   have hs:Bg g.dir at_ n (k+1)=Bg g.dir at_ n k:=by rw[key,if_neg (fun hh=>hle (by have h9:atOf g k<=at_:=hh.2;omega))]
   rw[hs]
   ((try dsimp only[cons_append,nil_append]);(try dsimp only[cons_append,nil_append]at H);refine Hp.perm H ?_;(repeat(apply JL;(focus first|exact O7|exact OL|exact OQ|exact perm_p3|exact perm_p4|exact perm_p5|exact perm_p6|exact perm_p7|exact perm_p8|exact perm_p9)));exact List.Perm.refl _)
 ·clear H
  intro x D w' _ H;simp only[cons_append,nil_append]at H;obtain⟨gS,hgS⟩:∃gS:Pg,gS= {g1 with dir:=Bg g.dir at_ n g.many}:=⟨_,rfl⟩
  have okg:gS.Ok:=by rw[hgS];exact okS _
  rw[<- hgS]at H
  have hlowS:gS.low=g.low:=by rw[hgS];exact hlow1
  have hmanyS:gS.many=g.many:=by rw[hgS];exact hmany1
  ((repeat apply Exists.intro);refine⟨H.lo EG,?_⟩)
  refine AA rfl ?_
  ((repeat apply Exists.intro);refine⟨H.lo EG,?_⟩)
  refine AA rfl ⟨_,by rw[addB];exact(pgOf okg H EQ4 (by repeat first|exact .head _|refine .tail _ ?_)).QI,?_⟩
  ((repeat apply Exists.intro);refine⟨H.lo EG,?_⟩)
  refine AA rfl ⟨_,by rw[addB];exact(pgOf okg H EQ4 (by repeat first|exact .head _|refine .tail _ ?_)).QI,?_⟩
  ((repeat apply Exists.intro);refine⟨H.lo scl3,?_⟩)
  try dsimp only
  rw[hlowS,e1,e3];refine⟨iR,⟨by omega,by omega,by omega⟩,?_⟩;rw[SY,show g.low+n-g.low=n by omega];refine Hp.clr (e:=5) H EQ4 Y0 zero5 rfl rfl (by rw[okg.clen];have:=dU g.low;omega) ?_;clear H;intro w4 H;rw[XW _ _ _ (by rw[length_replicate];omega),Qg,PK okg (by omega) (by rw[length_replicate];omega)]at H;have okc:=Nw okg (i:=g.low) (x:=List.replicate n 0) (by omega) (by rw[length_replicate];omega);obtain⟨gC,hgC⟩:∃gC:Pg,gC=GR gS g.low (List.replicate n 0):=⟨_,rfl⟩;rw[<- hgC]at H okc
  have hlowC:gC.low=g.low:=by rw[hgC];exact hlowS
  have hmanyC:gC.many=g.many:=by rw[hgC];exact hmanyS
  replace H:Hp [b] w w4 [.blk b gC.cells 162,.blk b2 [.int .i64 (n:Int)] 3,.blk b1 [.int .i64 (at_:Int)] 3,.blk b0 [.pointer (some ⟨b,0,none⟩)] 95,objA D (.deferred (some []))]:=by((try dsimp only[cons_append,nil_append]);(try dsimp only[cons_append,nil_append]at H);refine Hp.perm H ?_;(repeat(apply JL;(focus first|exact O7|exact OL|exact OQ|exact perm_p3|exact perm_p4|exact perm_p5|exact perm_p6|exact perm_p7|exact perm_p8|exact perm_p9)));exact List.Perm.refl _)
  ((repeat apply Exists.intro);refine⟨H.lo EG,?_⟩)
  refine AA rfl ⟨_,by rw[addB];exact(pgOf okc H EQ4 (.head _)).QI,?_⟩
  ((repeat apply Exists.intro);refine⟨H.lo scl3,?_⟩)
  rw[hlowC];refine⟨iR,AA rfl ?_⟩
  have e6:(g.low:Int)+(n:Int)=((g.low+n:Nat):Int):=by omega
  rw[addB,e6];refine Hp.st H EQ4 scl3 rfl rfl (by rw[okc.clen];omega) (Pg.Ze okc _) ?_;clear H;intro w5 H;have okl:({gC with low:=g.low+n}:Pg).Ok:=⟨okc.st,okc.hdr,okc.dir,okc.data,okc.many,okc.ent,by show g.low+n<=4096;omega⟩
  ((repeat apply Exists.intro);refine⟨H.lo EG,?_⟩)
  refine AC (OC b _ K 0 0 (by omega) (by omega) (by omega) _ (pgOf okl H EQ4 (.head _))) ?_;rintro e w6 ⟨rfl,okk,H'⟩;replace H:=Hp.Ba (a:=pgA b _) H H';clear H';refine⟨rfl,?_⟩;obtain⟨gK,hgK⟩:∃gK:Pg,gK=setD {gC with low:=g.low+n} K 0 0:=⟨_,rfl⟩;rw[<- hgK]at H okk
  have hmanyK:gK.many=g.many:=by rw[hgK];exact hmanyC
  have okM:∀m,m<=g.many->({gK with many:=m}:Pg).Ok:=fun m hm=>⟨okk.st,okk.hdr,okk.dir,okk.data,by show m<=120;omega,okk.ent,okk.low⟩
  have hfin: {gK with many:=trim gK.dir g.many,hdr:=trim gK.dir g.many}=Dq g K:=by
   have hD:gK.dir=(Bg g.dir at_ n g.many).set K (0,0):=by rw[hgK,hgC,hgS];rfl
   have hdat:gK.data=g.data.take (g.low-490)++(List.replicate n 0++((g.data.drop (g.low-490)).take (at_-g.low)++g.data.drop (at_+n-490))):=by
    have a1:gK.data=gS.data.take (g.low-490)++(List.replicate n 0++gS.data.drop (g.low-490+n)):=by rw[hgK,hgC];simp[setD,GR]
    have a2:gS.data=g.data.take (g.low+n-490)++((g.data.drop (g.low-490)).take (at_-g.low)++g.data.drop (at_+n-490)):=by
     rw[hgS,hg1,hmv];show g.data.take (g.low+n-490)++((g.data.drop (g.low-490)).take (at_-g.low)++g.data.drop (g.low+n-490+((g.data.drop (g.low-490)).take (at_-g.low)).length))=_;congr 3;rw[<- hmv,hbl];omega
    rw[a1,a2];congr 1
    ·rw[List.take_append_of_le_length (by rw[length_take,hdl];omega),take_take];congr 1;omega
    ·congr 1
     exact drop_left _ _ _ (by rw[length_take,hdl];omega)
   have hst:gK.st=g.st:=by rw[hgK,hgC,hgS,hg1];rfl
   have hlw:gK.low=g.low+n:=by rw[hgK];rfl
   unfold Dq;simp only[hat,hln];rw[hD,hdat,hst,hlw]
  refine AP.mk (fun mm s w'=>mm<=g.many/\trim gK.dir mm=trim gK.dir g.many/\Hp [b] w w' [.blk b ({gK with many:=mm}:Pg).cells 162,.blk b2 [.int .i64 (n:Int)] 3,.blk b1 [.int .i64 (at_:Int)] 3,.blk b0 [.pointer (some ⟨b,0,none⟩)] 95,objA D (.deferred (some []))]) g.many ⟨Nat.le_refl _,rfl,by rw[<- hmanyK];exact H⟩ ?_;clear H
  rintro m s w7 next ⟨hm,htr,H⟩ hnext
  have fin:∀w7,m<=g.many->trim gK.dir m=m->trim gK.dir m=trim gK.dir g.many->Hp [b] w w7 [.blk b ({gK with many:=m}:Pg).cells 162,.blk b2 [.int .i64 (n:Int)] 3,.blk b1 [.int .i64 (at_:Int)] 3,.blk b0 [.pointer (some ⟨b,0,none⟩)] 95,objA D (.deferred (some []))]->
    BL Tryz.prog 172 [.pointer (some ⟨b,0,none⟩),.int .i64 8,.int .i64 (m:Int)] w7 fun e w'=>e=.returned (.tuple #[])/\∃w1,FZ w' D w1/\(fun e w'=>e=Ending.returned (.tuple #[])/\Hp [b] w w' [pgA b (Dq g K)]) (.returned (.tuple #[])) w1:=by
   clear hnext H;intro w7 hm h1 h2 H;have hb:∀k,({gK with many:=m,hdr:=k}:Pg).bs=gK.st++(be (k:Int) 2++(dirB gK.dir++gK.data)):=fun k=>rfl;refine AC (JB b {gK with many:=m} {gK with many:=m,hdr:=m} gK.st (be gK.hdr 2) (dirB gK.dir++gK.data) 8 m (AX _ 2) okk.st (by omega) rfl (hb m) rfl rfl _ (pgOf (okM m hm) H EQ4 (.head _))) ?_;rintro e w8 ⟨rfl,H'⟩;replace H:=Hp.Ba (a:=pgA b _) H H';clear H';refine⟨rfl,Hp.shut H.Ib fun w9 H=>⟨rfl,?_⟩⟩;rw[<- hfin,<- h2,h1];exact H.MV
  ((repeat apply Exists.intro);refine⟨H.lo EG,?_⟩)
  refine AA rfl ⟨_,by rw[addB];exact(pgOf (okM m hm) H EQ4 (.head _)).IX,?_⟩;refine AB (fun h0=>?_) (fun h0=>?_)
  ·obtain⟨m,rfl⟩:∃m',m=m'+1:=⟨m-1,by have:(0:Int)<((m:Nat):Int):=h0;omega⟩
   ((repeat apply Exists.intro);refine⟨H.lo EG,?_⟩)
   ((repeat apply Exists.intro);refine⟨H.lo EG,?_⟩)
   refine AA rfl ⟨_,by rw[addB];exact(pgOf (okM _ hm) H EQ4 (.head _)).IX,?_⟩
   have e7:(((m+1:Nat):Int))-1=(m:Int):=by omega
   have e8:(10:Int)+4*(m:Int)=((10+4*m:Nat):Int):=by omega
   show inR .i64 (((m+1:Nat):Int)-1)/\inR .i64 (4*(((m+1:Nat):Int)-1))/\inR .i64 (10+4*(((m+1:Nat):Int)-1))/\BL Tryz.prog 146 [_,.int .i64 (10+4*(((m+1:Nat):Int)-1))] _ _
   try dsimp only
   rw[e7,e8];refine⟨iR,iR,iR,?_⟩;refine AC (Ua b _ _ (by omega) _ (pgOf (okM _ hm) H EQ4 (.head _))) ?_;rintro e w8 ⟨rfl,H'⟩;replace H:=H.drew.ext0 H';clear H';refine⟨_,rfl,?_⟩
   have hmd:m<gK.dir.length:=by rw[okk.dir];omega
   rw[Pg.Ok.ent1 (okM _ hm) (by omega)]
   have hgd:gK.dir.getD m (0,0)=gK.dir[m]:=by rw[getD_eq_getElem?_getD,List.getElem?_eq_getElem hmd];rfl
   refine AB (fun hz=>?_) (fun hz=>?_)
   ·have hz':(gK.dir[m]).1=0:=by have:((gK.dir[m]).1:Int)=0:=hz;omega
    ((repeat apply Exists.intro);refine⟨H.lo EG,?_⟩)
    refine AA rfl ⟨_,by rw[addB];exact(pgOf (okM _ hm) H EQ4 (.head _)).IX,?_⟩;show inR .i64 (((m+1:Nat):Int)-1)/\onP _ fun a=>∃w1,St Tryz.prog 3 _ (Addr.add a 4096) (.int .i64 (((m+1:Nat):Int)-1)) w1/\_
    try dsimp only
    rw[e7];refine⟨iR,AA rfl ?_⟩;rw[addB];refine Hp.st H EQ4 scl3 rfl rfl (by rw[(okM _ hm).clen];omega) (Pg.X6 (okM _ hm) _) ?_;clear H;intro w9 H;refine hnext m _ _ (by omega) ⟨by omega,?_,H⟩;rw[<- htr,trim,hgd,if_pos hz']
   ·have hz':¬(gK.dir[m]).1=0:=fun h=>hz (by rw[h];rfl)
    ((repeat apply Exists.intro);refine⟨H.lo EG,?_⟩)
    ((repeat apply Exists.intro);refine⟨H.lo EG,?_⟩)
    refine AA rfl ⟨_,by rw[addB];exact(pgOf (okM _ hm) H EQ4 (.head _)).IX,?_⟩;exact fin _ hm (by rw[trim,hgd,if_neg hz']) htr H.drew
  ·have hm0:m=0:=by have:¬(0:Int)<(m:Int):=h0;omega
   ((repeat apply Exists.intro);refine⟨H.lo EG,?_⟩)
   ((repeat apply Exists.intro);refine⟨H.lo EG,?_⟩)
   refine AA rfl ⟨_,by rw[addB];exact(pgOf (okM m hm) H EQ4 (.head _)).IX,?_⟩;exact fin _ hm (by rw[hm0];rfl) htr H.drew.drew
def insR(x:Nat×List UInt8):Recs→Recs
  | []=>[x]
  |p::r=>if x.1<p.1 then x::p::r else p::insR x r
theorem Pi(x:Nat×List UInt8):∀L:Recs,(insR x L).Perm (x::L)
  | []=>.refl _
  |p::r=>by
    rw[insR]
    split
    · exact .refl _
    · exact((Pi x r).cons p).trans (.swap x p r)
theorem JJ(x y:Nat×List UInt8)(L:Recs):y∈insR x L↔y=x∨y∈L:=by rw[(Pi x L).mem_iff,mem_cons]
theorem Qq(x:Nat×List UInt8):∀L:Recs,L.Pairwise (fun a b=>a.1<b.1)→(∀p∈L,p.1≠x.1)→(insR x L).Pairwise fun a b=>a.1<b.1
  | [],_,_=>by simp[insR]
  |p::r,h,hn=>by
    obtain⟨e,f⟩:=pairwise_cons.1 h
    rw[insR]
    split
    · rename_i d
      refine pairwise_cons.2 ⟨fun q c=>?_,h⟩
      rcases mem_cons.1 c with rfl|c
      · exact d
      · have:=e q c;omega
    · rename_i d
      refine pairwise_cons.2 ⟨fun q c=>?_,Qq x r f fun q c=>hn q (.tail _ c)⟩
      rcases(JJ _ _ _).1 c with rfl|c
      · have:=hn p (.head _);omega
      · exact e q c
def wo(L:Recs)(k:Nat):Recs:=L.filter fun p=>p.1 !=k
theorem XE{L:Recs}{k:Nat}(h:∀s,(k,s)∉L):wo L k=L:=by
  refine filter_eq_self.2 fun p a=>?_
  have:p.1≠k:=fun e=>h p.2 (by rw[← e];exact a)
  simpa using this
theorem wo_mem{L:Recs}{k:Nat}{p:Nat×List UInt8}:p∈wo L k↔p∈L∧p.1≠k:=by simp[wo]
theorem wo_tot{L:Recs}(f:L.Pairwise fun a b=>a.1<b.1){k:Nat}{s:List UInt8}(h:(k,s)∈L):tot (wo L k)+s.length=tot L:=by
  induction L with
  |nil=>cases h
  |cons p r g=>
    obtain⟨d,i⟩:=pairwise_cons.1 f
    by_cases c:p.1=k
    · have j:p=(k,s):=by
        rcases mem_cons.1 h with e|m
        · exact e.symm
        · have:=d _ m;simp only at this;omega
      have l:wo r k=r:=XE fun t n=>by have:=d _ n;simp only at this;omega
      have e:wo (p::r) k=r:=by
        show List.filter _ (p::r)=r
        rw[filter_cons,if_neg (by simp[c])];exact l
      rw[e,FY,j];simp only;omega
    · have o:(k,s)∈r:=by
        rcases mem_cons.1 h with e|m
        · exact absurd (by rw[← e]) c
        · exact m
      have e:wo (p::r) k=p::wo r k:=by
        show List.filter _ (p::r)=_
        rw[filter_cons,if_pos (by simp[c])];rfl
      rw[e,FY,FY]
      have:=g i o
      omega
theorem YK(b:Nat)(g:Pg)(L:Recs)(c:Nat)(f:Rep g L c)(K:Nat)(w:World)(h:Blk w b g.cells 162):
    Calls Tryz.prog 170 #[.pointer (some ⟨b,0,none⟩),.int .i64 (K:Int)] w fun e w'=>e=.returned (.tuple #[])∧∃k,Rep k (wo L K) c∧Hp [b] w w' [pgA b k]:=by
  by_cases j:∃s,(K,s)∈L
  · obtain⟨s,i⟩:=j
    exact Calls.mono (drop_spec b g L c f K s i w h) fun e w' d=>⟨d.1,_,f.drop i,d.2⟩
  · refine Calls.mono (nodrop_spec b g (K:Int) (fun d=>j (f.JX.1 ⟨by omega,by have:=d.2.2;rwa [Int.toNat_natCast]at this⟩)) w ⟨f.ok,h⟩) fun e w' d=>⟨d.1,g,?_,?_⟩
    · rw[XE fun s i=>j ⟨s,i⟩];exact f
    · have H:Hp [b] w w [pgA b g]:=Hp.JA (a:=pgA b g) h
      exact H.ext0 d.2
def extD(d:List (Nat×Nat))(a n:Nat):List (Nat×Nat):=d.mapIdx fun j p=>if a≤j∧j<n then(0,0)else p
theorem Hz(d:List (Nat×Nat))(a n j:Nat):(extD d a n)[j]? =d[j]?.map fun p=>if a≤j∧j<n then(0,0)else p:=by
  simp[extD]
theorem LG(d:List (Nat×Nat))(a n:Nat):(extD d a n).length=d.length:=by simp[extD]
theorem extD_self(d:List (Nat×Nat))(a:Nat):extD d a a=d:=by
  apply ext_getElem?
  intro j
  rw[Hz]
  cases d[j]? with
  |none=>rfl
  |some p=>rw[Option.map_some,if_neg (by omega)]
theorem extD_succ (d : List (Nat × Nat)) (a m : Nat) (h : a ≤ m) : (extD d a m).set m (0,0) = extD d a (m + 1) := by
  apply ext_getElem?
  intro j
  by_cases hj : m = j
  · subst hj
    rw [Hz]
    cases hd : d[m]? with
    | none => rw [List.getElem?_eq_none]; · rfl
              rw [length_set,LG]; exact List.getElem?_eq_none_iff.1 hd
    | some p =>
      rw [List.getElem?_set_self (by rw [LG]; exact (List.getElem?_eq_some_iff.1 hd).1),Option.map_some,if_pos ⟨h,by omega⟩]
  · rw [List.getElem?_set_ne hj,Hz,Hz]
    cases d[j]? with
    | none => rfl
    | some p =>
      rw [Option.map_some,Option.map_some]
      congr 1
      by_cases hc : a ≤ j ∧ j < m
      · rw [if_pos hc,if_pos ⟨hc.1,by omega⟩]
      · rw [if_neg hc,if_neg (by omega)]
def extG(g:Pg)(m:Nat):Pg:= {g with dir:=extD g.dir g.many m,many:=m}
theorem bF{g:Pg}(h:g.Ok){m:Nat}(b:m≤120):(extG g m).Ok:=⟨h.st,h.hdr,by show(extD _ _ _).length=120;rw[LG,h.dir],h.data,b,fun p c=>by
    obtain⟨j,a⟩:=List.getElem?_of_mem c
    have a:(extD g.dir g.many m)[j]? =some p:=a
    rw[Hz]at a
    cases hd:g.dir[j]? with
    |none=>rw[hd]at a;cases a
    |some q=>
      rw[hd]at a
      simp only[Option.map_some,Option.some.injEq]at a
      have:=h.ent q (mem_of_getElem? hd)
      rw[← a]
      split
      · simp
      · exact this,h.low⟩
def putG (g : Pg) (k : Nat) (s : List UInt8) : Pg :=
  let m := max g.many (k + 1)
  { g with dir := (extD g.dir g.many m).set k (g.low - s.length,s.length),many := m,hdr := m,low := g.low - s.length
           data := g.data.take (g.low - s.length - 490) ++ (s ++ g.data.drop (g.low - s.length - 490 + s.length)) }
theorem Rep.put{g:Pg}{L:Recs}{stamp:Nat}(h:Rep g L stamp){k:Nat}{s:List UInt8}(hk:k<120)(hn:∀t,(k,t)∉L)(hs:tot L+s.length≤3600):Rep (putG g k s) (insR (k,s) L) stamp:=by
  obtain⟨ord,o1,o2,o3⟩:=h.ord
  have hok:=h.ok
  have hlow:=h.low
  have hdl:=hok.data
  have hml:=hok.many
  have hp:=Pi (k,s) L
  have htot:tot (insR (k,s) L)=s.length+tot L:=by rw[UH hp,FY]
  have hmax:g.many≤max g.many (k+1)∧k+1≤max g.many (k+1)∧(max g.many (k+1)=g.many∨max g.many (k+1)=k+1):=by omega
  obtain⟨m,hm⟩:∃m,m=max g.many (k+1):=⟨_,rfl⟩
  rw[← hm]at hmax
  have em:(putG g k s).many=m:=hm.symm
  have ed:(putG g k s).dir=(extD g.dir g.many m).set k (g.low-s.length,s.length):=by rw[hm];rfl
  have hdk:(putG g k s).dir[k]? =some (g.low-s.length,s.length):=by
    rw[ed,List.getElem?_set_self (by rw[LG,hok.dir];exact hk)]
  have hdj:∀j,j≠k→j<g.many→(putG g k s).dir[j]? =g.dir[j]? :=by
    intro j hj hjm
    rw[ed,List.getElem?_set_ne (Ne.symm hj),Hz]
    cases g.dir[j]? with
    |none=>rfl
    |some p=>rw[Option.map_some,if_neg (by omega)]
  have okp:(putG g k s).Ok:=by
    have e1:=bF hok (m:=m) (by omega)
    have e2:=e1.ent
    refine⟨hok.st,by show max g.many (k+1)<65536;omega,?_,?_,by rw[em];omega,?_,by show g.low-s.length≤4096;omega⟩
    · rw[ed,length_set,LG,hok.dir]
    · show(g.data.take (g.low-s.length-490)++(s++g.data.drop (g.low-s.length-490+s.length))).length=3606
      simp only[length_append,length_take,length_drop,hdl];omega
    · intro p hp
      rw[ed]at hp
      rcases List.mem_or_eq_of_mem_set hp with hp|rfl
      · exact e2 p hp
      · exact⟨by simp only;omega,by simp only;omega⟩
  refine⟨okp,h.st,h.stamp,rfl,Qq _ _ h.sorted fun p hp e=>hn p.2 (by have e':p.1=k:=e;rw[← e'];exact hp),?_,?_,?_,⟨(k,s)::ord,(o1.cons _).trans hp.symm,?_,?_⟩,by omega,?_⟩
  · intro p hp
    rw[em]
    rcases(JJ _ _ _).1 hp with rfl|hp
    · simp only;omega
    · have:=h.below _ hp;omega
  · rw[em]
    rcases hmax.2.2 with e|e
    · right
      rcases h.last with h0|⟨t,ht⟩
      · omega
      · exact⟨t,by rw[e];exact(JJ _ _ _).2 (.inr ht)⟩
    · exact .inr ⟨s,by rw[e];exact(JJ _ _ _).2 (.inl rfl)⟩
  · intro j hj hn'
    rw[em]at hj
    have hjk:j≠k:=fun e=>hn' s (by rw[e];exact(JJ _ _ _).2 (.inl rfl))
    by_cases hjm:j<g.many
    · rw[getD_eq_getElem?_getD,hdj j hjk hjm,← getD_eq_getElem?_getD]
      exact h.free j hjm fun t ht=>hn' t ((JJ _ _ _).2 (.inr ht))
    · rw[getD_eq_getElem?_getD,ed,List.getElem?_set_ne (Ne.symm hjk),Hz]
      cases g.dir[j]? with
      |none=>rfl
      |some p=>rw[Option.map_some,if_pos ⟨by omega,hj⟩];rfl
  · refine⟨hdk,?_⟩
    show Laid (putG g k s).dir (g.low-s.length+s.length) ord
    rw[show g.low-s.length+s.length=g.low by omega]
    have:∀(x:Recs)(a:Nat),Laid g.dir a x→(∀p∈x,p∈L)→Laid (putG g k s).dir a x:=by
      intro x
      induction x with
      |nil=>intro a h _;exact h
      |cons p x ih=>
        intro a hl hx
        obtain⟨j,t⟩:=p
        have hjL:=hx (j,t) (.head _)
        refine⟨?_,ih _ hl.2 fun q hq=>hx q (.tail _ hq)⟩
        rw[hdj j (fun e=>hn t (by rw[← e];exact hjL)) (h.below _ hjL)]
        exact hl.1
    exact this ord g.low o2 fun p hp=>o1.mem_iff.1 hp
  · show(g.data.take (g.low-s.length-490)++(s++g.data.drop (g.low-s.length-490+s.length))).drop (g.low-s.length-490)=_
    rw[drop_left _ _ _ (by rw[length_take,hdl];omega),flatMap_cons]
    congr 1
    rw[← o3]
    congr 1
    omega
  · show g.low-s.length+tot (insR (k,s) L)=4096
    omega
def aput(L:Recs)(k:Int)(s:List UInt8):Recs×Int:=
  if k<0∨120≤k then(L,110)else if 3600<tot (wo L k.toNat)+s.length then(L,111)else(insR (k.toNat,s) (wo L k.toNat),0)
theorem TM(b:Nat)(g:Pg)(L:Recs)(stamp:Nat)(hR:Rep g L stamp)(k:Int)(s:List UInt8)(w:World)(h:Blk w b g.cells 162):
    Calls Tryz.prog 110 #[.pointer (some ⟨b,0,none⟩),.int .i64 k,sv s] w fun e w'=>e=.returned (.int .i64 (aput L k s).2)∧∃g',Rep g' (aput L k s).1 stamp∧Hp [b] w w' [pgA b g']:=by
  apply put.ok
  unfold put.vc
  have H:Hp [b] w w [pgA b g]:=Hp.JA (a:=pgA b g) h
  have hmax:maxLen=9223372036854775807:=by simp[maxLen]
  refine AB (fun h1=>?_) (fun h1=>AB (fun h2=>?_) (fun h2=>?_))
  · rw[aput,if_pos (.inl h1)];exact⟨rfl,g,hR,H⟩
  · rw[aput,if_pos (.inr h2)];exact⟨rfl,g,hR,H⟩
  obtain⟨K,rfl⟩:∃K:Nat,k=K:=⟨k.toNat,by omega⟩
  have hK:K<120:=by omega
  have hsm:=hR.small
  rw[aput,if_neg (by omega),Int.toNat_natCast]
  refine AC (room_spec b g _ (pgOf hR.ok H EQ4 (by repeat first|exact .head _|refine .tail _ ?_))) ?_
  rintro e w1 ⟨rfl,H'⟩;replace H:=H.ext0 H';clear H'
  refine⟨_,rfl,?_⟩
  rw[hR.total_eq]
  refine AC (JK b g K _ (pgOf hR.ok H EQ4 (by repeat first|exact .head _|refine .tail _ ?_))) ?_
  rintro e w2 ⟨rfl,H'⟩;replace H:=H.ext0 H';clear H'
  refine⟨_,_,rfl,?_⟩
  rw[GX]
  have hmem:(if 0≤(K:Int)∧(K:Int)<(g.many:Int)then((g.dir.getD (K:Int).toNat (0,0)).1:Int)else 0)=if K<g.many then(atOf g K:Int)else 0:=by
    rw[Int.toNat_natCast]
    by_cases hc:K<g.many
    · rw[if_pos (by omega),if_pos hc];rfl
    · rw[if_neg (by omega),if_neg hc]
  have hmem2:(if 0≤(K:Int)∧(K:Int)<(g.many:Int)then((g.dir.getD (K:Int).toNat (0,0)).2:Int)else 0)=if K<g.many then(lenOf g K:Int)else 0:=by
    rw[Int.toNat_natCast]
    by_cases hc:K<g.many
    · rw[if_pos (by omega),if_pos hc];rfl
    · rw[if_neg (by omega),if_neg hc]
  rw[hmem,hmem2]
  have hlive:=hR.JX (k:=K)
  refine Am.mk (fun f w'=>f=3600-(tot (wo L K):Int)∧Hp [b] w w' [pgA b g]) ?_ ?_
  · clear H hmem hmem2
    rintro f w2 ⟨rfl,H⟩
    refine AB (fun hf=>?_) (fun hf=>?_)
    · rw[if_pos (by omega)];exact⟨rfl,g,hR,H⟩
    rw[if_neg (by omega)]
    refine AC (YK b g L stamp hR K _ (H.ok _ (.head _))) ?_
    rintro e w3 ⟨rfl,g',hR',H'⟩;replace H:=Hp.Ba (a:=pgA b _) H H';clear H'
    refine⟨rfl,?_⟩
    have hno:∀t,(K,t)∉wo L K:=fun t ht=>(wo_mem.1 ht).2 rfl
    have hfin:=hR'.put hK hno (s:=s) (by omega)
    have hgm:=hR'.ok.many
    have hgl:=hR'.low
    have hgd:=hR'.ok.data
    refine AP.mk (fun mm _ w'=>∃m,mm=121-m∧g'.many≤m∧m≤max g'.many (K+1)∧Hp [b] w w' [pgA b (extG g' m)]) (121-g'.many) ⟨g'.many,rfl,Nat.le_refl _,by omega,by unfold extG;rw[extD_self];exact H⟩ ?_
    clear H
    rintro mm u w4 next ⟨m,rfl,hm1,hm2,H⟩ hnext
    have okm:=bF hR'.ok (m:=m) (by omega)
    refine AA rfl ⟨_,by rw[addB];exact(pgOf okm H EQ4 (.head _)).IX,?_⟩
    refine AB (fun hle=>?_) (fun hle=>?_)
    · have hle':m≤K:=by have h9:((m:Nat):Int)≤(K:Int):=hle;omega
      refine AA rfl ⟨_,by rw[addB];exact(pgOf okm H EQ4 (.head _)).IX,?_⟩
      refine AC (OC b _ m 0 0 (by omega) (by omega) (by omega) _ (pgOf okm H EQ4 (.head _))) ?_
      rintro e w5 ⟨rfl,ok2,H'⟩;replace H:=Hp.Ba (a:=pgA b _) H H';clear H'
      refine⟨rfl,AA rfl ⟨_,by rw[addB];exact(pgOf ok2 H EQ4 (.head _)).IX,?_⟩⟩
      show inR .i64 ((m:Int)+1)∧onP _ fun a=>∃w1,St Tryz.prog 3 _ (Addr.add a 4096) (.int .i64 ((m:Int)+1)) w1∧_
      refine⟨DD.2 (by omega),AA rfl ?_⟩
      rw[addB,show(m:Int)+1=((m+1:Nat):Int) by omega]
      refine Hp.st H EQ4 scl3 rfl rfl (by rw[ok2.clen];omega) (Pg.X6 ok2 _) ?_
      clear H
      intro w6 H
      refine hnext (121-(m+1)) _ _ (by omega) ⟨m+1,rfl,by omega,by omega,?_⟩
      have e:({setD (extG g' m) m 0 0 with many:=m+1}:Pg)=extG g' (m+1):=by
        show({g' with dir:=(extD g'.dir g'.many m).set m (0,0),many:=m+1}:Pg)=_
        rw[extD_succ _ _ _ hm1];rfl
      rw[e]at H
      exact H
    · have hle':¬m≤K:=fun h9=>hle (by show((m:Nat):Int)≤(K:Int);omega)
      have hmm:m=max g'.many (K+1):=by omega
      have hb:∀k,({extG g' m with hdr:=k}:Pg).bs=g'.st++(be (k:Int) 2++(dirB (extG g' m).dir++g'.data)):=fun k=>rfl
      refine AA rfl ⟨_,by rw[addB];exact(pgOf okm H EQ4 (.head _)).IX,?_⟩
      refine AC (JB b (extG g' m) {extG g' m with hdr:=m} g'.st (be g'.hdr 2) (dirB (extG g' m).dir++g'.data) 8 m (AX _ 2) hR'.ok.st (by omega) rfl (hb m) rfl rfl _ (pgOf okm H EQ4 (.head _))) ?_
      rintro e w5 ⟨rfl,H'⟩;replace H:=Hp.Ba (a:=pgA b _) H H';clear H'
      have ok3:({extG g' m with hdr:=m}:Pg).Ok:=⟨okm.st,by show m<65536;omega,okm.dir,okm.data,okm.many,okm.ent,okm.low⟩
      refine⟨rfl,AA rfl ⟨_,by rw[addB];exact(pgOf ok3 H EQ4 (.head _)).QI,?_⟩⟩
      show inR .i64 ((g'.low:Int)-(s.length:Int))∧onP _ fun a=>∃w1,St Tryz.prog 3 _ (Addr.add a 4097) (.int .i64 ((g'.low:Int)-(s.length:Int))) w1∧_
      have e1:(g'.low:Int)-(s.length:Int)=((g'.low-s.length:Nat):Int):=by omega
      rw[e1]
      refine⟨DD.2 (by omega),AA rfl ?_⟩
      rw[addB]
      refine Hp.st H EQ4 scl3 rfl rfl (by rw[ok3.clen];omega) (Pg.Ze ok3 _) ?_
      clear H
      intro w6 H
      obtain⟨g4,hg4⟩:∃g4:Pg,g4= {({extG g' m with hdr:=m}:Pg)with low:=g'.low-s.length}:=⟨_,rfl⟩
      have ok4:g4.Ok:=by rw[hg4];exact⟨ok3.st,ok3.hdr,ok3.dir,ok3.data,ok3.many,ok3.ent,by show g'.low-s.length≤4096;omega⟩
      rw[← hg4]at H
      have hlow4:g4.low=g'.low-s.length:=by rw[hg4]
      refine AA rfl (AA rfl ⟨_,by rw[addB];exact(pgOf ok4 H EQ4 (.head _)).QI,?_⟩)
      dsimp only
      rw[hlow4,Int.toNat_natCast,SY]
      refine⟨⟨by omega,by omega⟩,?_⟩
      have hsl2:=dU (g'.low-s.length)
      refine Hp.cpy H EQ4 Y0 scl5.size (Src.ofString _ und9 ⟨s.toArray⟩) (by rw[GX];omega) (by rw[GX,ok4.clen];omega) ?_
      clear H
      intro w7 H
      rw[CQ,XW _ _ _ (by rw[Ah];omega),PK ok4 (by omega) (by omega)]at H
      have ok5:=Nw ok4 (i:=g'.low-s.length) (x:=s) (by omega) (by omega)
      refine AA rfl ⟨_,by rw[addB];exact(pgOf ok5 H EQ4 (.head _)).QI,?_⟩
      have hlow5:(GR g4 (g'.low-s.length) s).low=g'.low-s.length:=hlow4
      rw[hlow5]
      refine AC (OC b _ K (g'.low-s.length) s.length hK (by omega) (by omega) _ (pgOf ok5 H EQ4 (.head _))) ?_
      rintro e w8 ⟨rfl,_,H'⟩;replace H:=Hp.Ba (a:=pgA b _) H H';clear H'
      refine⟨rfl,rfl,_,hfin,?_⟩
      have e:setD (GR g4 (g'.low-s.length) s) K (g'.low-s.length) s.length=putG g' K s:=by
        rw[hg4]
        unfold putG setD GR extG
        simp only[← hmm]
      rw[e]at H
      exact H
  · intro J hJ
    refine AB (fun h0=>?_) (fun h0=>?_)
    · have hkm:K<g.many:=by
        refine Classical.byContradiction fun hn=>?_
        rw[if_neg hn]at h0;omega
      rw[if_pos hkm]at h0⊢
      obtain⟨t,ht⟩:=hR.JX.1 ⟨hkm,by omega⟩
      have hat:=hR.at_ ht
      have hwt:=wo_tot hR.sorted ht
      exact⟨DD.2 (by omega),hJ _ _ ⟨by omega,H⟩⟩
    · refine hJ _ _ ⟨?_,H⟩
      rw[XE]
      intro t ht
      have hat:=hR.at_ ht
      have:=hR.below _ ht
      rw[if_pos this]at h0
      omega
def lk(L:Recs)(k:Int):Option (List UInt8):=(L.find? fun p=>decide ((p.1:Int)=k)).map (·.2)
theorem lk_some{L:Recs}(c:L.Pairwise fun a b=>a.1<b.1){k:Nat}{s:List UInt8}(h:(k,s)∈L):lk L (k:Int)=some s:=by
 unfold lk
 cases hf:L.find? fun p=>decide ((p.1:Int)=(k:Int))with
 |none=>have:=List.find?_eq_none.1 hf _ h;simp at this
 |some p=>
  have d:=List.mem_of_find?_eq_some hf
  have e:p.1=k:=by have:=List.find?_some hf;simp only[decide_eq_true_eq]at this;omega
  have:(k,p.2)∈L:=by rw[<- e];exact d
  rw[Option.map_some,one_key c this h]
theorem YL{L:Recs}(k:Int):(lk L k=none/\∀p∈L,(p.1:Int)≠k)\/∃(K:Nat)(s:List UInt8),k=K/\(K,s)∈L/\lk L k=some s:=by
 unfold lk
 cases hf:L.find? fun p=>decide ((p.1:Int)=k)with
 |none=>exact .inl ⟨rfl,fun p c=>by have:=List.find?_eq_none.1 hf p c;simpa using this⟩
 |some p=>
  have a:=List.find?_some hf;simp only[decide_eq_true_eq]at a;exact .inr ⟨p.1,p.2,a.symm,List.mem_of_find?_eq_some hf,rfl⟩
section
variable{b:Nat}{g:Pg}{L:Recs}{stamp:Nat}{w:World}
theorem get_any(a:Rep g L stamp)(h:Blk w b g.cells 162)(k:Int):
  Calls Tryz.prog 48 #[.pointer (some ⟨b,0,none⟩),.int .i64 k] w fun e w'=>e=.returned (.tuple #[sv ((lk L k).getD []),.bool (lk L k).isSome])/\Hp [] w w' []:=by
 refine Calls.mono (get_spec b g k w ⟨a.ok,h⟩ a.fit) ?_;rintro e w' ⟨rfl,H⟩;refine⟨?_,H⟩
 rcases YL (L:=L) k with⟨h1,h2⟩|⟨K,s,rfl,h2,d⟩
 ·rw[h1,if_neg]
  ·rfl
  ·rintro⟨d,j,f⟩
   obtain⟨s,i⟩:=a.JX.1 ⟨by omega,f⟩;exact h2 _ i (by simp only;omega)
 ·have c:=a.at_ h2
  have:=a.below _ h2;rw[d,if_pos ⟨by omega,by simp only at this;omega,by rw[Int.toNat_natCast];omega⟩,Int.toNat_natCast,c.2.2.2];rfl
theorem slots_any(d:Rep g L stamp)(h:Blk w b g.cells 162):
  Calls Tryz.prog 47 #[.pointer (some ⟨b,0,none⟩)] w fun e w'=>∃a c,e=.returned (.slice a L.length c)/\Hp [] w w' [.own 3 1 a L.length c (intC (L.map (·.1)))]:=by
 refine Calls.mono (slots_spec b g w ⟨d.ok,h⟩) ?_;rintro e w' ⟨a,c,rfl,H⟩;rw[d.RF,length_map]at H⊢;exact⟨a,c,rfl,H⟩
def adel(L:Recs)(k:Int):Recs×Int:=if(lk L k).isSome then(wo L k.toNat,0)else(L,110)
theorem delete_any(c:Rep g L stamp)(h:Blk w b g.cells 162)(k:Int):
  Calls Tryz.prog 167 #[.pointer (some ⟨b,0,none⟩),.int .i64 k] w fun e w'=>e=.returned (.int .i64 (adel L k).2)/\∃f,Rep f (adel L k).1 stamp/\Hp [b] w w' [pgA b f]:=by
 apply delete.ok;unfold delete.vc;have H:Hp [b] w w [pgA b g]:=Hp.JA (a:=pgA b g) h;refine AC (JK b g k _ (pgOf c.ok H EQ4 (by repeat first|exact .head _|refine .tail _ ?_))) ?_;rintro e p ⟨rfl,d⟩;replace H:=H.ext0 d;clear d;refine⟨_,_,rfl,?_⟩;unfold adel
 rcases YL (L:=L) k with⟨h1,h2⟩|⟨K,s,rfl,h2,h3⟩
 ·rw[h1]
  refine AB (fun _=>⟨rfl,g,c,H⟩) (fun i=>absurd ?_ i);split
  ·rename_i q
   refine Classical.byContradiction fun r=>?_;obtain⟨s,m⟩:=c.JX.1 ⟨show k.toNat<g.many by omega,by show 0<(g.dir.getD k.toNat (0,0)).1;omega⟩;exact h2 _ m (by simp only;omega)
  ·rfl
 ·have n:=c.at_ h2
  have j:=c.below _ h2;simp only at j
  have o:(if 0<=(K:Int)/\(K:Int)<(g.many:Int)then((g.dir.getD (K:Int).toNat (0,0)).1:Int)else 0)=(atOf g K:Int):=by
   rw[if_pos (by omega),Int.toNat_natCast];rfl
  rw[o,h3];refine AB (fun i=>absurd i (by omega)) (fun _=>?_);refine AC (YK b g L stamp c K _ (H.ok _ (.head _))) ?_;rintro e t ⟨rfl,f,l,d⟩;replace H:=Hp.Ba (a:=pgA b _) H d;clear d;refine⟨rfl,rfl,f,?_,H⟩;rw[Int.toNat_natCast];exact l
def ff:List Nat->Nat->Nat
 | [],n=>n
 |k::r,n=>ff r (if k=n then n+1 else n)
theorem ff_snoc(l:List Nat)(k:Nat):∀n,ff (l++[k]) n=if k=ff l n then ff l n+1 else ff l n:=by
 induction l with
 |nil=>intro n;rfl
 |cons x r a=>intro n;exact a _
theorem ff_le(l:List Nat):∀n,ff l n<=n+l.length:=by
 induction l with
 |nil=>intro n;exact Nat.le_refl _
 |cons x r a=>
  intro n;have:=a (if x=n then n+1 else n);rw[ff,length_cons]
  have c:(if x=n then n+1 else n)<=n+1:=by split<;>omega
  omega
def ains(L:Recs)(s:List UInt8):Recs×Int×Int:=
 let n:=ff (L.map (·.1)) 0
 if 120<=n then(L,0,111)else if(aput L n s).2=0 then((aput L n s).1,n,0)else(L,0,(aput L n s).2)
theorem Xw{L:Recs}{k:Int}{s:List UInt8}(h:(aput L k s).2≠0):(aput L k s).1=L:=by
 unfold aput at h⊢;split
 ·rfl
 ·rename_i a
  rw[if_neg a]at h;split
  ·rfl
  ·rename_i c
   rw[if_neg c]at h;exact absurd rfl h
theorem insert_any(j:Rep g L stamp)(h:Blk w b g.cells 162)(s:List UInt8):
  Calls Tryz.prog 173 #[.pointer (some ⟨b,0,none⟩),sv s] w fun e w'=>e=.returned (.tuple #[.int .i64 (ains L s).2.1,.int .i64 (ains L s).2.2])/\∃l,Rep l (ains L s).1 stamp/\Hp [b] w w' [pgA b l]:=by
 first|apply kInsert.ok|apply insert.ok
 first|unfold kInsert.vc|unfold insert.vc
 have H:Hp [b] w w [pgA b g]:=Hp.JA (a:=pgA b g) h;have N:=j.ok.many
 (intro _ _ m;replace H:=H.nw m;clear m)
 (apply Hp.st;(case H=>exact H);(case e=>exact⟨rfl,rfl,rfl,rfl⟩);(case S=>exact scl3);(case hv=>exact rfl);(case h1=>exact rfl);(case ho=>exact Nat.le_of_ble_eq_true rfl);(case hc=>exact rfl);clear H;intro _ H;(try simp only[over,set_cons_zero,set_cons_succ]at H))
 rename_i u _ o
 replace H:Hp [b] w o [pgA b g,.blk u [.int .i64 ((ff (live g 0) 0:Nat):Int)] 3]:=by
  have H:Hp [b] w o [.blk u [.int .i64 ((ff (live g 0) 0:Nat):Int)] 3,pgA b g]:=H;exact H.Ae
 refine⟨_,_,_,rfl,⟨_,_,Tryz.func85,rfl⟩,?_⟩
 refine Jr b g.many (fun _ _=>g) (fun k (_:Unit)=>[pgA b g,.blk u [.int .i64 ((ff (live g k) 0:Nat):Int)] 3]) (fun _ _=>True) (fun _:Unit=>[]) (fun _=>False) () trivial H
  (fun k x w' T _ H=>⟨pgOf j.ok H EQ4 (.head _),rfl⟩) (fun k x F _ i=>⟨x,trivial,by rw[JI,if_neg (by omega)]⟩) ?_ ?_ (fun y D w' G _=>G.elim)
 ·clear H
  intro k x F _ i w' O R z U X Y _ p q _;refine p _ fun Z H=>?_;simp only[cons_append,nil_append]at H;have J:=ff_le (live g k) 0;have K:=TC g k;have c:=ff_snoc (live g k) k 0;have r:=JI g k;rw[if_pos i]at r;rw[<- r]at c
  ((repeat apply Exists.intro);refine⟨H.lo scl3,?_⟩)
  refine AB (fun A=>?_) (fun A=>?_)
  ·have d:k=ff (live g k) 0:=by have B:(k:Int)=((ff (live g k) 0:Nat):Int):=A;omega
   rw[if_pos d]at c
   ((repeat apply Exists.intro);refine⟨H.lo scl3,?_⟩)
   refine⟨iR,?_⟩;refine Hp.st H.Ae EQ4 scl3 rfl rfl (by simp) rfl ?_;clear H;intro M H;refine q _ () trivial ?_;rw[c];exact H.Ae
  ·have d:¬k=ff (live g k) 0:=fun B=>A (by show(k:Int)=((ff (live g k) 0:Nat):Int);omega)
   rw[if_neg d]at c;refine q _ () trivial ?_;rw[c];exact H
 ·clear H
  intro x D w' _ H;simp only[cons_append,nil_append]at H;rw[j.RF]at H;unfold ains;obtain⟨n,m⟩:∃n,n=ff (L.map (·.1)) 0:=⟨_,rfl⟩;rw[<- m]at H;simp only[<- m]
  ((repeat apply Exists.intro);refine⟨H.lo scl3,?_⟩)
  refine AB (fun i=>?_) (fun i=>?_)
  ·rw[if_pos (by have B:(120:Int)<=(n:Int):=i;omega)]
   exact Hp.shut H.BD fun o H=>⟨rfl,g,j,H.MV⟩
  ·rw[if_neg (by have B:¬(120:Int)<=(n:Int):=i;omega)]
   ((repeat apply Exists.intro);refine⟨H.lo scl3,?_⟩)
   refine AC (TM b g L stamp j n s _ (H.ok _ (.head _))) ?_;rintro e M ⟨rfl,l,f,C⟩;replace H:=Hp.Ba (a:=pgA b _) H C;clear C;refine⟨_,rfl,AV (fun t=>?_) (fun t=>?_)⟩
   ·rw[if_neg t]
    refine Hp.shut H.BD fun o H=>⟨rfl,l,?_,H.MV⟩;rw[Xw t]at f;exact f
   ·rw[if_pos t]
    ((repeat apply Exists.intro);refine⟨H.lo scl3,?_⟩)
    exact Hp.shut H.BD fun o H=>⟨rfl,l,f,H.MV⟩
end
theorem eU(n:Int):∀(m k:Nat),k<m->(be n m)[k]? =some (bt n (m-1-k))
 |0,k,h=>by omega
 |m+1,0,_=>rfl
 |m+1,k+1,h=>by
  rw[be,List.getElem?_cons_succ,eU n m k (by omega)];congr 2;omega
def Zr(n:Int):Prop:=0<=n/\n<=4611686018427387904
instance (n:Int):Decidable (Zr n):=by unfold Zr;infer_instance
def gZ(low:Nat):Pg:= {st:=List.replicate 8 0,hdr:=0,dir:=List.replicate 120 (0,0),data:=List.replicate 3606 0,many:=0,low:=low}
theorem bP{low:Nat}(h:low<=4096):(gZ low).Ok:=⟨length_replicate,by show 0<65536;omega,length_replicate,length_replicate,by show 0<=120;omega,fun p a=>by rw[List.eq_of_mem_replicate a];simp,h⟩
theorem zl54:zl Tryz.prog 162=(gZ 0).cells:=by kernel_rfl
theorem new54:bigL Tryz.prog 162 [(2,.int .i64 4096)]=(gZ 4096).cells:=by kernel_rfl
theorem dJ:Rep (gZ 4096) [] 0:=⟨bP (by omega),by show List.replicate 8 (0:UInt8)=be ((0:Nat):Int) 8;decide,by omega,rfl,.nil,by simp,.inl rfl,fun k a=>by have:k<0:=a;omega,⟨[],.refl _,rfl,by show(List.replicate 3606 (0:UInt8)).drop 3606=[];simp⟩,by simp[tot],by simp[tot,gZ]⟩
theorem new_any(w:World):Calls Tryz.prog 123 #[] w fun e w'=>∃b,e=.returned (.pointer (some ⟨b,0,none⟩))/\Hp [] w w' [pgA b (gZ 4096)]:=by
 apply snew.ok;unfold snew.vc;have H:=Hp.start w;rw[new54]
 (intro _ _ a;replace H:=H.nw a;clear a)
 exact⟨_,rfl,H⟩
theorem over_full{l cs:List Value}(h:l.length=cs.length):over l 0 cs=l:=by
 apply ext_getElem?;intro k;rw[IM _ _ _ (by omega)];by_cases a:k<l.length
 ·rw[if_pos (by omega),Nat.sub_zero]
 ·rw[if_neg (by omega),List.getElem?_eq_none (by omega),List.getElem?_eq_none (by omega)]
theorem cells_one(g:Pg):g.cells.all (·.oneCell')=true:=by
 rw[List.all_eq_true];intro u a;rcases mem_append.1 a with h|h
 ·exact Nb _ u h
 ·rcases mem_cons.1 h with rfl|h
  ·rfl
  ·rcases mem_cons.1 h with rfl|h
   ·rfl
   ·cases h
theorem clone_any(b:Nat)(g:Pg)(w:World)(h:PgAt w b g):
  Calls Tryz.prog 53 #[.pointer (some ⟨b,0,none⟩)] w fun e w'=>∃a,e=.returned (.pointer (some ⟨a,0,none⟩))/\Hp [] w w' [pgA a g]:=by
 apply clone.ok;unfold clone.vc;have H:=Hp.start w;refine AA rfl ⟨Aa g.bs,_,_,Blk.ldA (vs:=g.cells) (o:=0) h.2 cO.agg (by rw[h.1.clen];exact cO.size) (by rw[List.drop_zero];exact take_length),?_⟩;rw[zl54]
 (intro _ _ c;replace H:=H.nw c;clear c)
 refine Hp.stA (vs:=g.cells) H EQ4 cO h.1.clen (cells_one g) (by rw[(bP (by omega)).clen];omega) (over_full (by rw[h.1.clen,(bP (by omega)).clen])) ?_;clear H;intro d H;exact⟨_,rfl,H⟩
end Go.Proofs.YtljenkbpnioipaaGreat.Sl
namespace Go.Proofs.YtljenkbpnioipaaGreat.Fol
open Go Go.Vc
theorem scl3:Scl Tryz.prog 3:=BK (by kernel_rfl)
theorem scl9:Scl Tryz.prog 9:=BK (by kernel_rfl)
theorem Gv:Scl Tryz.prog 202:=BK (by kernel_rfl)
theorem WR:Scl Tryz.prog 159:=BK (by kernel_rfl)
theorem scl4:Scl Tryz.prog 4:=BK (by kernel_rfl)
theorem scl5:Scl Tryz.prog 5:=BK (by kernel_rfl)
theorem Cj:Agg Tryz.prog 204 8:=Ci (by kernel_rfl)
theorem fB:Agg Tryz.prog 258 2:=Ci (by kernel_rfl)
theorem dX:Agg Tryz.prog 62 2:=Ci (by kernel_rfl)
theorem WC:Agg Tryz.prog 260 2:=Ci (by kernel_rfl)
theorem Ve:Elt Tryz.prog 159 5 1 1:=CW (by kernel_rfl)
theorem elt26:Elt Tryz.prog 106 9 1 16:=CW (by kernel_rfl)
theorem Zi:Elt Tryz.prog 202 260 2 24:=CW (by kernel_rfl)
theorem und9:Tryz.prog.underlying 9=some .string:=by kernel_rfl
theorem WO:Tryz.prog.underlying 159=some (.slice 5):=by kernel_rfl
theorem und5:Tryz.prog.underlying 5=some (.int .u8):=by kernel_rfl
structure Rec where
 id:Int
 parent:Int
 kind:Int
 name:Int
 frm:Int
 to:Int
 text:ByteArray
 attrs:List (Int×ByteArray)
def Gh(p:Int×ByteArray):List Value:=[.int .i64 p.1,.string p.2]
def BC(l:List (Int×ByteArray)):List Value:=l.flatMap Gh
structure AtS(w:World)(a:Option Addr)(n:Nat)(l:List (Int×ByteArray)):Prop where
 len:n=l.length
 cells:Cells w a (BC l)
theorem AtS.chg{w w':World}{a:Option Addr}{n:Nat}{l:List (Int×ByteArray)}{B:List Nat}(h:AtS w a n l)(hc:Chg B w w')(b:∀k∈blks a,k∉B):AtS w' a n l:=⟨h.len,h.cells.chg hc b⟩
def I8(n:Int):Prop:=1<=n/\n<=4000
instance (n:Int):Decidable (I8 n):=by unfold I8;infer_instance
def Yo(r:Rec):Prop:=(∀p∈r.attrs,I8 p.1/\p.2.size<=1500)/\(r.attrs.map (·.1)).Nodup/\I8 r.name/\r.text=⟨#[]⟩/\r.attrs.length<=20
instance (r:Rec):Decidable (Yo r):=by unfold Yo;infer_instance
def EE(r:Rec):Prop:=1<=r.id/\r.id<=2147483647/\0<=r.parent/\r.parent<=2147483647/\0<=r.frm/\r.frm<r.to/\r.to<=4611686018427387904/\((r.kind=1/\Yo r)\/(r.kind=2/\r.name=0/\r.attrs=[]/\r.text.size<=1500))
instance (r:Rec):Decidable (EE r):=by unfold EE;infer_instance
def Rec.val(r:Rec)(a:Option Addr)(n c:Nat):Value:=.agg #[.int .i64 r.id,.int .i64 r.parent,.int .i64 r.kind,.int .i64 r.name,.int .i64 r.frm,.int .i64 r.to,.string r.text,.slice a n c]
theorem nope{p:Prop}[Decidable p](h:¬p):Ending.returned (Value.bool false)=.returned (.bool (decide p)):=by rw[decide_eq_false h]
theorem TU(n:Int)(w:World):Calls Tryz.prog 266 #[.int .i64 n] w fun e w'=>e=.returned (.bool (decide (I8 n)))/\Hp [] w w' []:=by
 apply fNamed.ok;unfold fNamed.vc;refine AB (fun h=>?_) (fun h=>?_)
 ·exact⟨by simp[I8,h],Hp.start w⟩
 ·exact⟨by simp[I8,h],Hp.start w⟩
theorem flat_get:∀(l:List (Int×ByteArray))(k j:Nat)(p:Int×ByteArray)(v:Value),l[k]? =some p->(Gh p)[j]? =some v->(BC l)[k*2+j]? =some v
 |x::r,0,j,p,v,hk,hj=>by
  simp only[List.getElem?_cons_zero,Option.some.injEq]at hk;subst hk;simp only[BC,flatMap_cons,Nat.zero_mul,Nat.zero_add];rw[List.getElem?_append_left (List.getElem?_eq_some_iff.1 hj).1];exact hj
 |x::r,k+1,j,p,v,hk,hj=>by
  simp only[List.getElem?_cons_succ]at hk;have:=flat_get r k j p v hk hj;simp only[BC,flatMap_cons]at this⊢;rw[List.getElem?_append_right (by simp only[Gh,length_cons,length_nil];omega)];rw[show(k+1)*2+j-(Gh x).length=k*2+j by simp only[Gh,length_cons,length_nil];omega];exact this
theorem AtS.ld{w:World}{a:Option Addr}{n:Nat}{l:List (Int×ByteArray)}(h:AtS w a n l){t:TypeId}(b:Agg Tryz.prog t 2){k:Nat}{p:Int×ByteArray}(d:l[k]? =some p){c:Addr}(e:a=some c):
  Ld Tryz.prog t w (c.add (k*2)) (.agg #[.int .i64 p.1,.string p.2]):=by
 subst e;refine XQ (vs:=Gh p) b.agg b.size fun j v f=>?_;obtain⟨g,i,m⟩:=h.cells (k*2+j) v (flat_get l k j p v d f);cases i;rw[add_add];exact m
theorem AtS.some{w:World}{a:Option Addr}{n:Nat}{l:List (Int×ByteArray)}(h:AtS w a n l){k:Nat}(c:k<l.length):∃b,a=some b:=by
 obtain⟨b,d,_⟩:=h.cells (k*2) _ (flat_get l k 0 _ _ (List.getElem?_eq_getElem c) rfl);exact⟨b,d⟩
def bf(l:List (Int×ByteArray)):Prop:=(∀p∈l,I8 p.1/\p.2.size<=1500)/\(l.map (·.1)).Nodup
theorem aget_put(l:List (Int×Value))(k x:Int)(v:Value):aget (aput l k v) x=if x=k then some v else aget l x:=by
 induction l with
 |nil=>simp[aput,aget]
 |cons p r b=>
  obtain⟨y,u⟩:=p;simp only[aput];by_cases h:k=y
  ·subst h
   simp only[if_true,aget];by_cases a:x=k<;>simp[a]
  ·simp only[if_neg h,aget,b]
   by_cases a:x=y
   ·subst a;simp[Ne.symm h]
   ·simp[a]
theorem XF:MapT Tryz.prog (DF .i64) 281 3 3 (.int .i64 0):=⟨by kernel_rfl,by kernel_rfl,by kernel_rfl⟩
theorem elem_spec(r:Rec)(a:Option Addr)(n c:Nat)(w:World)(hA:AtS w a n r.attrs)(hn:n<=maxLen):
  Calls Tryz.prog 225 #[r.val a n c] w fun e w'=>e=.returned (.bool (decide (Yo r)))/\Hp [] w w' []:=by
 apply fElement.ok;unfold fElement.vc;have H:=Hp.start w
 (intro _ _ hn;replace H:=H.nw hn;clear hn)
 intro _ b2 hn2;replace H:=H.newI EQ4 .i64 hn2;clear hn2
 ((repeat apply Exists.intro);refine⟨H.lo Gv,?_⟩)
 rename_i b _ _;have hlen:=hA.len
 have hmax:maxLen<=9223372036854775807:=by simp[maxLen]
 refine AP.mk (fun m s w'=>∃k al,m=n-k/\s=(k:Int)/\k<=n/\bf (r.attrs.take k)/\(∀x,aget al x=if x∈(r.attrs.take k).map (·.1)then some (.int .i64 1)else none)/\
  Hp [] w w' [.imap _ .i64 al,.blk b [.int .i64 r.id,.int .i64 r.parent,.int .i64 r.kind,.int .i64 r.name,.int .i64 r.frm,.int .i64 r.to,.string r.text,.slice a n c] 204]) n ⟨0,[],rfl,rfl,Nat.zero_le _,by simp[bf],by simp[aget],H⟩ ?_
 clear H
 rintro m s w' next ⟨k,al,rfl,rfl,hk,hup,hal,H⟩ hnext
 refine AB (fun h=>?_) (fun h=>?_)
 ·have hkl:k<r.attrs.length:=by omega
  have hAw:=hA.chg H.chg (by simp);obtain⟨ad,had⟩:=hA.some hkl;have hp:r.attrs[k]? =some r.attrs[k]:=List.getElem?_eq_getElem hkl;refine AA had ⟨⟨by omega,h⟩,_,_,hAw.ld WC hp had,?_⟩
  (intro _ _ hn;replace H:=H.nw hn;clear hn;apply Hp.stA;(case H=>exact H);(case e=>exact⟨rfl,rfl,rfl,rfl⟩);(case S=>exact WC);(case hn=>exact rfl);(case h1=>exact rfl);(case ho=>exact Nat.le_of_ble_eq_true rfl);(case hc=>exact rfl);clear H;intro _ H;(try simp only[over,set_cons_zero,set_cons_succ]at H);(repeat apply Exists.intro);refine⟨H.lo scl3,?_⟩)
  refine AC (TU _ _) ?_;rintro e w2 ⟨rfl,H'⟩;replace H:=H.ext0 H';refine⟨_,rfl,AV (fun h1=>⟨nope fun hh=>h1 (hh.1 _ (getElem_mem hkl)).1,H.done⟩) (fun h1=>?_)⟩
  ((repeat apply Exists.intro);refine⟨H.lo scl3,?_⟩)
  by_cases hm:r.attrs[k].1∈(r.attrs.take k).map (·.1)
  ·refine⟨1,H.lkI XF EQ4 (by repeat first|exact .head _|refine .tail _ ?_) (by rw[hal,if_pos hm];rfl),AB (fun h2=>⟨nope fun hh=>?_,H.done⟩) (fun h2=>absurd h2 (by omega))⟩
   have h3:=hh.2.1;rw[<- take_append_drop k r.attrs,map_append,drop_eq_getElem_cons hkl,map_cons,nodup_append]at h3;exact h3.2.2 _ hm _ (List.mem_cons_self ..) rfl
  refine⟨0,H.lkI XF EQ4 (by repeat first|exact .head _|refine .tail _ ?_) (by rw[hal,if_neg hm];rfl),AB (fun h2=>absurd h2 (by omega)) (fun h2=>?_)⟩
  ((repeat apply Exists.intro);refine⟨H.lo scl9,?_⟩)
  refine AB (fun h3=>⟨nope fun hh=>?_,H.done⟩) (fun h3=>?_)
  ·have:=(hh.1 _ (getElem_mem hkl)).2;omega
  ((repeat apply Exists.intro);refine⟨H.lo scl3,?_⟩)
  refine⟨0,H.lkI XF EQ4 (by repeat first|exact .head _|refine .tail _ ?_) (by rw[hal,if_neg hm];rfl),iR,Hp.mupI XF H.Ae EQ4 ?_⟩;clear H;intro w5 H;refine⟨iR,hnext (n-(k+1)) _ _ (by omega) ⟨k+1,_,rfl,by simp,by omega,?_,?_,H.drop1⟩⟩
  ·rw[take_succ_eq_append_getElem hkl]
   refine⟨fun p hp=>?_,?_⟩
   ·rcases mem_append.1 hp with hp|hp
    ·exact hup.1 p hp
    ·rw[mem_singleton]at hp;subst hp
     exact⟨h1,by omega⟩
   ·rw[map_append,nodup_append]
    refine⟨hup.2,by simp,fun x hx y hy=>?_⟩;simp at hy;subst hy;intro he;subst he;exact hm hx
  ·intro x
   rw[aget_put,hal,take_succ_eq_append_getElem hkl,map_append,map_cons,map_nil];by_cases hx:x=r.attrs[k].1
   ·subst hx;simp
   ·rw[if_neg hx]
    simp only[mem_append,mem_singleton,hx,or_false]
 ·have hkn:k=n:=by omega
  subst hkn;rw[hlen,take_length]at hup
  ((repeat apply Exists.intro);refine⟨H.lo scl3,?_⟩)
  refine AC (TU _ _) ?_;rintro e w2 ⟨rfl,H'⟩;replace H:=H.ext0 H';refine⟨_,rfl,AB (fun h1=>?_) (fun h1=>⟨nope fun hh=>h1 hh.2.2.1,H.done⟩)⟩
  ((repeat apply Exists.intro);refine⟨H.lo scl9,?_⟩)
  refine AB (fun h2=>?_) (fun h2=>⟨nope fun hh=>h2 hh.2.2.2.1,H.done⟩)
  ((repeat apply Exists.intro);refine⟨H.lo Gv,?_⟩)
  refine⟨?_,H.done⟩;congr 2;rw[decide_eq_decide];exact⟨fun h3=>⟨hup.1,hup.2,h1,h2,by omega⟩,fun h3=>by have:=h3.2.2.2.2;omega⟩
theorem right_spec(r:Rec)(a:Option Addr)(n c:Nat)(w:World)(hA:AtS w a n r.attrs)(hn:n<=maxLen):
  Calls Tryz.prog 174 #[r.val a n c] w fun e w'=>e=.returned (.bool (decide (EE r)))/\Hp [] w w' []:=by
 apply fRight.ok;unfold fRight.vc;have H:=Hp.start w
 (intro _ _ hn;replace H:=H.nw hn;clear hn;(repeat apply Exists.intro);refine⟨H.loA dX,?_⟩;intro _ _ hn;replace H:=H.nw hn;clear hn;apply Hp.stA;(case H=>exact H);(case e=>exact⟨rfl,rfl,rfl,rfl⟩);(case S=>exact dX);(case hn=>exact rfl);(case h1=>exact rfl);(case ho=>exact Nat.le_of_ble_eq_true rfl);(case hc=>exact rfl);clear H;intro _ H;(try simp only[over,set_cons_zero,set_cons_succ]at H);(repeat apply Exists.intro);refine⟨H.lo scl3,?_⟩)
 refine AB (fun h1=>⟨nope fun h=>by obtain⟨_,_,_,_,_,_,_,_⟩:=h;omega,H.done⟩) (fun h1=>?_)
 ((repeat apply Exists.intro);refine⟨H.lo scl3,?_⟩)
 refine AB (fun h2=>⟨nope fun h=>by obtain⟨_,_,_,_,_,_,_,_⟩:=h;omega,H.done⟩) (fun h2=>?_)
 ((repeat apply Exists.intro);refine⟨H.lo scl3,?_⟩)
 refine AB (fun h3=>⟨nope fun h=>by obtain⟨_,_,_,_,_,_,_,_⟩:=h;omega,H.done⟩) (fun h3=>?_)
 ((repeat apply Exists.intro);refine⟨H.lo scl3,?_⟩)
 refine AB (fun h4=>⟨nope fun h=>by obtain⟨_,_,_,_,_,_,_,_⟩:=h;omega,H.done⟩) (fun h4=>?_)
 ((repeat apply Exists.intro);refine⟨H.lo scl3,?_⟩)
 refine AB (fun h5=>⟨nope fun h=>by obtain⟨_,_,_,_,_,_,_,_⟩:=h;omega,H.done⟩) (fun h5=>?_)
 ((repeat apply Exists.intro);refine⟨H.lo scl3,?_⟩;(repeat apply Exists.intro);refine⟨H.lo scl3,?_⟩)
 refine AB (fun h6=>⟨nope fun h=>by obtain⟨_,_,_,_,_,_,_,_⟩:=h;omega,H.done⟩) (fun h6=>?_)
 ((repeat apply Exists.intro);refine⟨H.lo scl3,?_⟩)
 refine AB (fun h7=>⟨nope fun h=>by obtain⟨_,_,_,_,_,_,_,_⟩:=h;omega,H.done⟩) (fun h7=>?_)
 ((repeat apply Exists.intro);refine⟨H.lo scl3,?_⟩)
 have hb:∀X:Prop,(EE r↔X)↔(((r.kind=1/\Yo r)\/(r.kind=2/\r.name=0/\r.attrs=[]/\r.text.size<=1500))↔X):=fun X=>by
  unfold EE;constructor
  ·intro h;rw[<- h];constructor
   ·intro h;exact⟨by omega,by omega,by omega,by omega,by omega,by omega,by omega,h⟩
   ·intro h;exact h.2.2.2.2.2.2.2
  ·intro h;rw[<- h];constructor
   ·intro h;exact h.2.2.2.2.2.2.2
   ·intro h;exact⟨by omega,by omega,by omega,by omega,by omega,by omega,by omega,h⟩
 refine AB (fun h8=>?_) (fun h8=>AB (fun h9=>?_) (fun h9=>?_))
 ·((repeat apply Exists.intro);refine⟨H.loA Cj,?_⟩)
  refine AC (elem_spec r a n c _ (hA.chg H.chg (by simp)) hn) ?_;rintro e w' ⟨rfl,H'⟩;refine⟨_,rfl,?_,(H.ext0 H').done⟩;congr 2;rw[decide_eq_decide,Iff.comm,hb];simp[h8]
 ·((repeat apply Exists.intro);refine⟨H.lo scl3,?_⟩)
  refine AB (fun h10=>?_) (fun h10=>⟨?_,H.done⟩)
  ·((repeat apply Exists.intro);refine⟨H.lo Gv,?_⟩)
   refine AB (fun h11=>?_) (fun h11=>⟨?_,H.done⟩)
   ·((repeat apply Exists.intro);refine⟨H.lo scl9,?_⟩)
    refine⟨?_,H.done⟩;have h12:r.attrs=[]:=List.eq_nil_of_length_eq_zero (by have:=hA.len;omega);congr 2;rw[decide_eq_decide,Iff.comm,hb];simp[h9,h10,h12];omega
   ·have h12:r.attrs≠[]:=fun h=>h11 (by have:=hA.len;rw[h]at this;simp[this])
    congr 2;rw[eq_comm,decide_eq_false_iff_not];have:=(hb False).2 (by simp[h9,h12]);exact this.1
  ·congr 2
   rw[eq_comm,decide_eq_false_iff_not];have:=(hb False).2 (by simp[h9,h10]);exact this.1
 ·refine⟨?_,H.done⟩
  congr 2;rw[eq_comm,decide_eq_false_iff_not];have:=(hb False).2 (by simp[h8,h9]);exact this.1
def Ji(l:List (Int×Nat)):List Value:=l.flatMap fun f=>[.int .i64 f.1,.int .i64 (f.2:Int)]
def laid(l:List (Int×Nat)):List UInt8:=l.flatMap fun f=>be f.1 f.2
theorem aS:∀(l:List (Int×Nat))(k j:Nat)(p:Int×Nat)(v:Value),l[k]? =some p->([Value.int .i64 p.1,Value.int .i64 (p.2:Int)]:List Value)[j]? =some v->(Ji l)[k*2+j]? =some v
 |x::r,0,j,p,v,hk,hj=>by
  simp only[List.getElem?_cons_zero,Option.some.injEq]at hk;subst hk;simp only[Ji,flatMap_cons,Nat.zero_mul,Nat.zero_add];rw[List.getElem?_append_left (List.getElem?_eq_some_iff.1 hj).1];exact hj
 |x::r,k+1,j,p,v,hk,hj=>by
  simp only[List.getElem?_cons_succ]at hk;have:=aS r k j p v hk hj;simp only[Ji,flatMap_cons]at this⊢;rw[List.getElem?_append_right (by simp only[length_cons,length_nil];omega)];rw[show(k+1)*2+j-([Value.int .i64 x.1,Value.int .i64 (x.2:Int)]:List Value).length=k*2+j by simp only[length_cons,length_nil];omega];exact this
theorem fld_ld{w:World}{a:Addr}{l:List (Int×Nat)}(h:Cells w (some a) (Ji l)){t:TypeId}(b:Agg Tryz.prog t 2){k:Nat}{p:Int×Nat}(c:l[k]? =some p):
  Ld Tryz.prog t w (a.add (k*2)) (.agg #[.int .i64 p.1,.int .i64 (p.2:Int)]):=by
 refine XQ (vs:=[.int .i64 p.1,.int .i64 (p.2:Int)]) b.agg b.size fun j v d=>?_;obtain⟨e,f,g⟩:=h (k*2+j) v (aS l k j p v c d);cases f;rw[add_add];exact g
theorem JB(a:Option Addr)(n c:Nat)(bs:List UInt8)(y:Addr)(J:Nat)(l:List (Int×Nat))(z:∀f∈l,f.2<=8)(w:World)
  (q:(Asn.own 5 1 a n c (Aa bs)).ok w) (hn:n=bs.length) (K:Cells w (some y) (Ji l)) (r:y.block∉blks a) (D:l.length<=1000000) (t:(bs++laid l).length<=140737488355328):
  Calls Tryz.prog 176 #[.slice a n c,.slice (some y) l.length J] w fun e w'=>∃a' c',e=.returned (.slice a' (bs++laid l).length c')/\Hp (blks a) w w' [.own 5 1 a' (bs++laid l).length c' (Aa (bs++laid l))]:=by
 apply fLay.ok;unfold fLay.vc;have H:=Hp.JA q
 have F:maxLen=9223372036854775807:=by simp[maxLen]
 refine AP.mk (fun m s w'=>∃k a' j c' X,m=l.length-k/\s=((a',j,c'),(k:Int))/\k<=l.length/\X++laid (l.drop k)=bs++laid l/\j=X.length/\
  Hp (blks a) w w' [.own 5 1 a' j c' (Aa X)]) l.length ⟨0,a,n,c,bs,rfl,rfl,Nat.zero_le _,rfl,hn,H⟩ ?_
 clear H
 rintro m s w' next ⟨k,a',j,c',X,rfl,rfl,U,u,rfl,H⟩ o
 dsimp only;refine AB (fun h=>?_) (fun h=>?_)
 ·have d:k<l.length:=by simpa using h
  have L:l[k]? =some l[k]:=List.getElem?_eq_getElem d;have A:=K.chg H.chg (by simpa [blks]using r);refine AA rfl ⟨⟨by simp,h⟩,_,_,fld_ld A fB L,?_⟩
  (intro _ _ hn;replace H:=H.nw hn;clear hn;apply Hp.stA;(case H=>exact H);(case e=>exact⟨rfl,rfl,rfl,rfl⟩);(case S=>exact fB);(case hn=>exact rfl);(case h1=>exact rfl);(case ho=>exact Nat.le_of_ble_eq_true rfl);(case hc=>exact rfl);clear H;intro _ H;(try simp only[over,set_cons_zero,set_cons_succ]at H);(repeat apply Exists.intro);refine⟨H.lo scl3,?_⟩)
  have Y:=z _ (getElem_mem d);refine⟨iR,?_⟩;rename_i b _ _;rw[drop_eq_getElem_cons d,laid,flatMap_cons,<- laid]at u
  refine AP.mk (fun m s w'=>∃a' j c' X,m<=l[k].2/\s=((a',j,c'),(m:Int)-1)/\X++(be l[k].1 m++laid (l.drop (k+1)))=bs++laid l/\j=X.length/\
   Hp (blks a) w w' [.own 5 1 a' j c' (Aa X),.blk b [.int .i64 l[k].1,.int .i64 (l[k].2:Int)] 258]) l[k].2 ⟨a',_,c',X,Nat.le_refl _,rfl,u,rfl,H.Ae⟩ ?_
  clear H;rintro m s Z B ⟨M,n2,N,x,hm,rfl,g,rfl,H⟩ i;dsimp only;refine AB (fun G=>?_) (fun G=>?_)
  ·cases m with
   |zero=>simp at G
   |succ m=>
    ((repeat apply Exists.intro);refine⟨H.lo scl3,?_⟩)
    have O:(x++(be l[k].1 (m+1)++laid (l.drop (k+1)))).length=(bs++laid l).length:=by rw[g]
    simp only[length_append,AX]at O t;refine⟨iR,by omega,?_⟩;intro b2 w3 p;rw[Oo _ m (by omega) _ (by omega)]at p;replace H:=H.nw p;clear p;refine Hp.app Ve (by omega) H.Ae EQ4 (Blk.src WO (H.blk (.head _)) rfl rfl) (by omega) (by omega) ?_;clear H;intro R T w4 H;refine⟨iR,i m _ _ (by omega) ⟨R,x.length+1,T,x++[bt l[k].1 m],by omega,?_,?_,by simp,?_⟩⟩
    ·simp only[Prod.mk.injEq,true_and];omega
    ·rw[<- g,be];simp
    ·rw[CS];exact H.drop1
  ·have C:m=0:=by omega
   subst C;simp only[be,nil_append]at g;refine⟨iR,o (l.length-(k+1)) _ _ (by omega) ⟨k+1,M,_,N,x,rfl,?_,by omega,g,rfl,H.MV⟩⟩;simp
 ·have d:k=l.length:=by omega
  subst d;simp only[drop_length,laid,List.flatMap_nil,append_nil]at u;rw[<- laid]at u;subst u;exact⟨a',c',rfl,H⟩
def ET(l:List (Int×ByteArray)):List UInt8:=l.flatMap fun p=>be p.1 2++be (p.2.size:Int) 2++p.2.data.toList
def ES(r:Rec):List UInt8:=laid [(r.id,4),(r.parent,4),(r.frm,8),(r.to,8),(r.kind,1),(r.name,2),((r.text.size:Int),2)]
def Ak(r:Rec):List UInt8:=ES r++r.text.data.toList++be (r.attrs.length:Int) 1++ET r.attrs
theorem Yt(n:Int)(k:Nat):laid [(n,k)]=be n k:=by simp[laid]
theorem laid_two(n m:Int)(k j:Nat):laid [(n,k),(m,j)]=be n k++be m j:=by simp[laid]
theorem Sr{B:List Nat}{w0 w:World}{L:List Asn}{a:Option Addr}{n c:Nat}{bs:List UInt8}{b i:Nat}{T:TypeId}(l:List (Int×Nat))(H:Hp B w0 w (.own 5 1 a n c (Aa bs)::L))(j:Asn.blk b (Ji l) T∈L)
  (h:∀f∈l,f.2<=8) (hn:n=bs.length) (d:l.length<=1000000) (g:(bs++laid l).length<=140737488355328):
  Calls Tryz.prog 176 #[.slice a n c,.slice (some ⟨b,0,none⟩) l.length i] w fun e w'=>∃a' c',e=.returned (.slice a' (bs++laid l).length c')/\Hp B w0 w' (.own 5 1 a' (bs++laid l).length c' (Aa (bs++laid l))::L):=by
 refine Calls.mono (JB a n c bs ⟨b,0,none⟩ i l h w (H.ok _ (.head _)) hn (Blk.cells (H.blk (.tail _ j))) ?_ d g) ?_
 ·intro k
  exact(pairwise_cons.1 H.sep).1 _ j b k (by simp[Asn.foot])
 ·rintro e w' ⟨a',c',rfl,m⟩
  exact⟨a',c',rfl,H.Ba m⟩
theorem whole_spec(r:Rec)(a:Option Addr)(n c:Nat)(w:World)(p:AtS w a n r.attrs)(hn:n<=1000)(y:(Ak r).length<=100000000):
  Calls Tryz.prog 175 #[r.val a n c] w fun e w'=>∃a' c',e=.returned (.slice a' (Ak r).length c')/\Hp [] w w' [.own 5 1 a' (Ak r).length c' (Aa (Ak r))]:=by
 apply fWhole.ok;unfold fWhole.vc;have H:=Hp.start w
 have z:maxLen=9223372036854775807:=by simp[maxLen]
 have f:=p.len
 have C:(Ak r).length=(ES r).length+r.text.size+1+(ET r.attrs).length:=by
  simp only[Ak,length_append,AX,Array.length_toList];rfl
 have D:(ES r).length=29:=by simp[ES,laid,AX]
 (intro _ _ hn;replace H:=H.nw hn;clear hn)
 rename_i b _
 ((repeat apply Exists.intro);refine⟨H.lo scl3,?_⟩;(repeat apply Exists.intro);refine⟨H.lo scl3,?_⟩;(repeat apply Exists.intro);refine⟨H.lo scl3,?_⟩;(repeat apply Exists.intro);refine⟨H.lo scl3,?_⟩;(repeat apply Exists.intro);refine⟨H.lo scl3,?_⟩;(repeat apply Exists.intro);refine⟨H.lo scl3,?_⟩;(repeat apply Exists.intro);refine⟨H.lo scl9,?_⟩;intro _ _ hn;replace H:=H.nw hn;clear hn)
 refine AC (Sr (bs:=[]) [(r.id,4),(r.parent,4),(r.frm,8),(r.to,8),(r.kind,1),(r.name,2),((r.text.size:Int),2)] (H.nilS 5 1) (by repeat first|exact .head _|refine .tail _ ?_) (by simp) rfl (by simp) (by simp[laid,AX])) ?_;clear H;rintro e O ⟨R,T,rfl,H⟩;refine⟨_,_,_,rfl,?_⟩;rw[nil_append,<- ES]at H⊢;replace H:=H.drop1;refine Am.mk (fun s w'=>∃a' g c',s=(a',g,c')/\g=(ES r++r.text.data.toList++be (r.attrs.length:Int) 1).length/\Hp [] w w' [.own 5 1 a' g c' (Aa (ES r++r.text.data.toList++be (r.attrs.length:Int) 1)),.blk b [.int .i64 r.id,.int .i64 r.parent,.int .i64 r.kind,.int .i64 r.name,.int .i64 r.frm,.int .i64 r.to,.string r.text,.slice a n c] 204]) ?_ ?_
 ·clear H
  rintro s U ⟨F,Y,G,rfl,rfl,H⟩;dsimp only
  ((repeat apply Exists.intro);refine⟨H.lo Gv,?_⟩)
  refine AP.mk (fun m s w'=>∃k a' g c' X,m=r.attrs.length-k/\s=((a',g,c'),(k:Int))/\k<=r.attrs.length/\X++ET (r.attrs.drop k)=Ak r/\g=X.length/\
   Hp [] w w' [.own 5 1 a' g c' (Aa X)]) r.attrs.length ⟨0,F,_,G,_,rfl,rfl,Nat.zero_le _,rfl,rfl,H.MV⟩ ?_
  clear H
  rintro m s w' next ⟨k,a',g,c',X,rfl,rfl,Z,j,rfl,H⟩ i
  dsimp only;refine AB (fun h=>?_) (fun h=>?_)
  ·have d:k<r.attrs.length:=by omega
   have K:r.attrs[k]? =some r.attrs[k]:=List.getElem?_eq_getElem d;obtain⟨ad,l⟩:=p.some d;rw[drop_eq_getElem_cons d,ET,flatMap_cons,<- ET]at j
   have L:(X++(be r.attrs[k].1 2++be (r.attrs[k].2.size:Int) 2++r.attrs[k].2.data.toList++ET (r.attrs.drop (k+1)))).length=(Ak r).length:=by rw[j]
   simp only[length_append,AX,Array.length_toList]at L;have M:r.attrs[k].2.data.size=r.attrs[k].2.size:=rfl;refine AA l ⟨⟨by omega,h⟩,_,_,(p.chg H.chg (by simp)).ld WC K l,?_⟩
   (intro _ _ hn;replace H:=H.nw hn;clear hn;apply Hp.stA;(case H=>exact H);(case e=>exact⟨rfl,rfl,rfl,rfl⟩);(case S=>exact WC);(case hn=>exact rfl);(case h1=>exact rfl);(case ho=>exact Nat.le_of_ble_eq_true rfl);(case hc=>exact rfl);clear H;intro _ H;(try simp only[over,set_cons_zero,set_cons_succ]at H);(repeat apply Exists.intro);refine⟨H.lo scl3,?_⟩;(repeat apply Exists.intro);refine⟨H.lo scl9,?_⟩;(repeat apply Exists.intro);refine⟨H.lo scl9,?_⟩;intro _ _ hn;replace H:=H.nw hn;clear hn;(repeat apply Exists.intro);refine⟨H.lo scl9,?_⟩)
   refine AC (Sr (bs:=X) [(r.attrs[k].1,2),((r.attrs[k].2.size:Int),2)] H.BD (by repeat first|exact .head _|refine .tail _ ?_) (by simp) rfl (by simp) (by simp[laid,AX]<;>omega)) ?_;clear H;rintro e w4 ⟨a4,c4,rfl,H⟩;refine⟨_,_,_,rfl,?_⟩
   ((repeat apply Exists.intro);refine⟨H.lo scl9,?_⟩)
   rw[laid_two]at H⊢;refine Hp.app Ve (by omega) H EQ4 (Src.ofString _ und9 _) (by simp[AX];omega) (by simp[AX];omega) ?_;clear H;intro q t A H;refine⟨iR,i (r.attrs.length-(k+1)) _ _ (by omega) ⟨k+1,q,_,t,X++(be r.attrs[k].1 2++be (r.attrs[k].2.size:Int) 2++r.attrs[k].2.data.toList),rfl,rfl,by omega,?_,?_,?_⟩⟩
   ·rw[<- j];simp
   ·simp[AX];omega
   ·rw[Gz,<- CS,append_assoc]at H
    exact H.MV
  ·have d:k=r.attrs.length:=by omega
   subst d;simp only[drop_length,ET,List.flatMap_nil,append_nil]at j;subst j;exact⟨a',c',rfl,H⟩
 ·intro J B
  refine⟨?_,?_⟩
  ·((repeat apply Exists.intro);refine⟨H.lo scl9,?_⟩;(repeat apply Exists.intro);refine⟨H.lo Gv,?_⟩)
   refine Hp.app Ve (by omega) H EQ4 (Src.ofString _ und9 r.text) (by omega) (by omega) ?_;clear H;intro q t A H
   ((repeat apply Exists.intro);refine⟨H.lo Gv,?_⟩;intro _ _ hn;replace H:=H.nw hn;clear hn)
   have o:ES r++r.text.data.toList++be (r.attrs.length:Int) 1=ES r++r.text.data.toList++laid [((n:Int),1)]:=by rw[f,Yt]
   refine AC (Sr (bs:=ES r++r.text.data.toList) [((n:Int),1)] (by rw[Gz,<- CS]at H;exact H.Ae) (by repeat first|exact .head _|refine .tail _ ?_) (by simp) (by simp<;>rfl) (by simp) (by simp[laid,AX]<;>omega)) ?_;clear H;rintro e N ⟨u,x,rfl,H⟩;refine⟨_,_,_,rfl,B _ _ ⟨u,_,x,rfl,?_,?_⟩⟩
   ·rw[o]
   ·rw[o];exact H.drop1
  ·((repeat apply Exists.intro);refine⟨H.lo scl9,?_⟩;(repeat apply Exists.intro);refine⟨H.lo Gv,?_⟩;intro _ _ hn;replace H:=H.nw hn;clear hn;(repeat apply Exists.intro);refine⟨H.lo scl9,?_⟩)
   refine Hp.app Ve (by omega) (n:=(ES r).length) H.Ae EQ4 (Src.ofString _ und9 r.text) (by omega) (by omega) ?_;clear H;intro q t A H
   have o:ES r++r.text.data.toList++be (r.attrs.length:Int) 1=ES r++r.text.data.toList++laid [((n:Int),1)]:=by rw[f,Yt]
   refine AC (Sr (bs:=ES r++r.text.data.toList) [((n:Int),1)] (by rw[Gz,<- CS]at H;exact H) (by repeat first|exact .head _|refine .tail _ ?_) (by simp) (by simp<;>rfl) (by simp) (by simp[laid,AX]<;>omega)) ?_;clear H;rintro e N ⟨u,x,rfl,H⟩;refine⟨_,_,_,rfl,B _ _ ⟨u,_,x,rfl,?_,?_⟩⟩
   ·rw[o]
   ·rw[o];exact H.drop1
def Bc(n:Nat):Nat:=(n+899)/900
def headB(id:Int)(k many:Nat):List UInt8:=laid [(id,4),((k:Int),1),((many:Int),1)]
def Bi(r:Rec)(k:Nat):List UInt8:=headB r.id k (Bc (Ak r).length)++((Ak r).drop (900*k)).take 900
def pieces(r:Rec):List (List UInt8):=(List.range (Bc (Ak r).length)).map (Bi r)
def out(r:Rec):List (List UInt8):=if EE r then pieces r else []
def errOf(p:Prop)[Decidable p]:Int:=if p then 0 else 160
theorem tdiv_many(l:Nat):Int.tdiv ((l:Int)+900-1) 900=((Bc l:Nat):Int):=by
 rw[Int.tdiv_eq_ediv_of_nonneg (by omega)];unfold Bc;omega
theorem GU(r:Rec):(pieces r).length=Bc (Ak r).length:=by simp[pieces]
theorem BM(l:List (Int×ByteArray))(h:∀p∈l,p.2.size<=1500):(ET l).length<=1504*l.length:=by
 induction l with
 |nil=>simp[ET]
 |cons p r a=>
  have b:=a fun q c=>h q (.tail _ c);have d:=h p (.head _);simp only[ET,flatMap_cons,length_append,AX,Array.length_toList,length_cons]at b⊢;have:p.2.data.size=p.2.size:=rfl;omega
theorem whole_len(r:Rec):(Ak r).length=30+r.text.size+(ET r.attrs).length:=by
 have a:(ES r).length=29:=by simp[ES,laid,AX]
 simp only[Ak,length_append,AX,Array.length_toList,a];have:r.text.data.size=r.text.size:=rfl;omega
theorem FI{r:Rec}(h:EE r):30<=(Ak r).length/\(Ak r).length<=30110/\r.attrs.length<=20:=by
 rw[whole_len]
 rcases h.2.2.2.2.2.2.2 with⟨_,a,_,_,b,d⟩|⟨_,_,a,b⟩
 ·have:=BM r.attrs fun p c=>(a p c).2
  rw[b,show(ByteArray.mk #[]).size=0 from rfl];omega
 ·rw[a];simp[ET];omega
theorem QJ(r:Rec)(a:Option Addr)(n c:Nat)(w:World)(x:AtS w a n r.attrs)(hn:n<=maxLen):
  Calls Tryz.prog 115 #[r.val a n c] w fun e w'=>∃a' c',e=.returned (.tuple #[.slice a' (out r).length c',.int .i64 (errOf (EE r))])/\Hp [] w w' [.own 9 1 a' (out r).length c' ((out r).map sv)]:=by
 apply fEncode.ok;unfold fEncode.vc;have H:=Hp.start w
 have B:maxLen=9223372036854775807:=by simp[maxLen]
 (intro _ _ hn;replace H:=H.nw hn;clear hn;(repeat apply Exists.intro);refine⟨H.loA Cj,?_⟩)
 refine AC (right_spec r a n c _ (x.chg H.chg (by simp)) hn) ?_;rintro e w' ⟨rfl,t⟩;replace H:=H.ext0 t;refine⟨_,rfl,AV (fun h=>⟨none,0,?_,?_⟩) (fun h=>?_)⟩
 ·simp[out,h,errOf]
 ·simpa [out,h]using(H.done.nilS 9 1)
 obtain⟨D,F,G⟩:=FI h;have C:=x.len
 have l:out r=pieces r:=by rw[out,if_pos h]
 have o:errOf (EE r)=0:=by rw[errOf,if_pos h]
 have p:=GU r;rw[l,o]
 ((repeat apply Exists.intro);refine⟨H.loA Cj,?_⟩)
 refine AC (whole_spec r a n c _ (x.chg H.chg (by simp)) (by omega) (by omega)) ?_;rintro e Z ⟨y,z,rfl,t⟩;replace H:=H.ext1 t;clear t
 have hm:Bc (Ak r).length<=34:=by unfold Bc;omega
 refine⟨_,_,_,rfl,iR,iR,by omega,?_⟩;rw[tdiv_many];refine⟨iR,?_⟩;rename_i b _
 refine AP.mk (fun m s w'=>∃k a' c',m=Bc (Ak r).length-k/\s=((a',k,c'),(k:Int))/\k<=Bc (Ak r).length/\
   Hp [] w w' [.own 9 1 a' k c' (((pieces r).take k).map sv),.own 5 1 y (Ak r).length z (Aa (Ak r)),.blk b [.int .i64 r.id,.int .i64 r.parent,.int .i64 r.kind,.int .i64 r.name,.int .i64 r.frm,.int .i64 r.to,.string r.text,.slice a n c] 204]) (Bc (Ak r).length) ⟨0,none,0,rfl,rfl,Nat.zero_le _,by simpa using H.nilS 9 1⟩ ?_
 clear H
 rintro m s w' next ⟨k,a',c',rfl,rfl,hk,H⟩ g
 dsimp only;refine AB (fun J=>?_) (fun J=>?_)
 ·have j:k<Bc (Ak r).length:=by omega
  have K:900*k<(Ak r).length:=by unfold Bc at j;omega
  ((repeat apply Exists.intro);refine⟨H.lo scl3,?_⟩;intro _ _ hn;replace H:=H.nw hn;clear hn)
  refine AC (Sr (bs:=[]) [(r.id,4),((k:Int),1),((Bc (Ak r).length:Int),1)] (H.nilS 5 1) (by repeat first|exact .head _|refine .tail _ ?_) (by simp) rfl (by simp) (by simp[laid,AX])) ?_;clear H;rintro e L ⟨a4,c4,rfl,H⟩;rw[nil_append,<- headB]at H⊢
  have M:(headB r.id k (Bc (Ak r).length)).length=6:=by simp[headB,laid,AX]
  have d:Own L 0 5 1 y (Ak r).length z (Aa (Ak r)):=H.ownA (by repeat first|exact .head _|refine .tail _ ?_);have N:=d.le;have O:=Ah (Ak r)
  have R:Int.toNat ((k:Int)*900)=900*k:=by omega
  have T:Int.toNat (min ((Ak r).length:Int) (((k:Int)+1)*900))=min (Ak r).length (900*k+900):=by omega
  refine⟨_,_,_,rfl,iR,iR,iR,⟨by omega,by omega,by omega⟩,?_⟩;rw[R,T];have q:=((d.cells.slA (c:=z) (i:=900*k) (by omega)).take 900);rw[<- Qs,<- Qv]at q
  have f:(((Ak r).drop (900*k)).take 900).length=min (Ak r).length (900*k+900)-900*k:=by simp only[length_take,length_drop];omega
  refine Hp.app Ve (by omega) H EQ4 (Cells.src WO q (by rw[Ah,f,Nat.mul_one]) (Nb _) ?_) (by omega) (by omega) ?_
  ·intro u
   have:y=none:=by
    unfold slA at u;split at u
    ·exact u
    ·simpa using u
   exact absurd this (Own.pos d (by omega))
  clear H;intro a5 c5 w5 H;rw[<- CS,<- Bi]at H
  have A:(Bi r k).length=(headB r.id k (Bc (Ak r).length)).length+(min (Ak r).length (900*k+900)-900*k):=by rw[Bi,length_append,f]
  rw[<- A]at H⊢;refine⟨⟨(Bi r k).toArray⟩,b2s WO und5 und9 (by rw[CQ];exact Own.cells (H.ok _ (.head _))) (by simp[ByteArray.size]),?_⟩
  (intro _ _ hn;replace H:=H.nw hn;clear hn)
  refine Hp.app elt26 (by omega) H.D8 EQ4 (Blk.src (P:=Tryz.prog) (show Tryz.prog.underlying 106=some (.slice 9) by kernel_rfl) (H.blk (.head _)) rfl rfl) (by omega) (by omega) ?_;clear H;intro U X w6 H;refine⟨iR,g (Bc (Ak r).length-(k+1)) _ _ (by omega) ⟨k+1,U,X,rfl,rfl,by omega,?_⟩⟩
  have Y:((pieces r).take (k+1)).map sv=((pieces r).take k).map sv++[.string ⟨(Bi r k).toArray⟩]:=by
   rw[take_succ_eq_append_getElem (by omega),map_append];simp[pieces,sv]
  rw[Y];exact H.del1.del1.del1
 ·have j:k=Bc (Ak r).length:=by omega
  subst j;rw[<- p,take_length]at H;rw[<- p];exact⟨a',c',rfl,H.MV⟩
end Go.Proofs.YtljenkbpnioipaaGreat.Fol
