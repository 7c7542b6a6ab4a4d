/- Part 4 of 6 of the proof of nodetabPages_holds: for every input, from every world that may be reached. -/
import Derived.Test.YtljenkbpnioipaaGreatPpa3
set_option linter.unusedVariables false
set_option linter.unusedSimpArgs false
set_option maxRecDepth 100000
set_option maxHeartbeats 4000000
open List(all_cons append_assoc append_eq append_nil cons_append dropLast_eq_take drop_drop drop_eq_getElem_cons drop_length drop_succ_cons ext_getElem? filter_cons filter_eq_self flatMap_append flatMap_cons getD_eq_getElem?_getD getElem_mem le_antisymm le_of_lt le_total le_trans length_append length_cons length_drop length_map length_nil length_replicate length_set length_take lt_irrefl map_append map_cons map_map map_nil mem_append mem_cons mem_filter mem_map mem_of_getElem? mem_singleton mergeSort_perm nil_append nodup_append pairwise_cons pairwise_map pairwise_mergeSort set_append set_cons_succ set_cons_zero take_append_drop take_length take_of_length_le take_succ_eq_append_getElem take_take take_zero)
namespace Go.Nod
abbrev Sp:=Int×Int
structure LSt where
 op:List Nat
 at_:Int
 out:List Sp
def NV(out:List Sp)(k:Nat)(z:Int):List Sp:=out.set k ((out[k]?.getD (0,0)).1,z)
def UE(out:List Sp)(k:Nat)(z:Int):List Sp:=out.set k (z,(out[k]?.getD (0,0)).2)
def popL(s:LSt):LSt:=⟨s.op.dropLast,s.at_+1099511627776,NV s.out (s.op.getLastD 0) (s.at_+1099511627776)⟩
def popN:Nat->LSt->LSt
 |0,s=>s
 |n+1,s=>popN n (popL s)
def FD(d:Int)(s:LSt):LSt:=popN (s.op.length-d.toNat) s
def begL(k:Nat)(s:LSt):LSt:=⟨s.op++[k],s.at_+1099511627776,UE s.out k (s.at_+1099511627776)⟩
def labF:List It->Nat->LSt->LSt
 | [],_,s=>FD 0 s
 |x::r,k,s=>labF r (k+1) (begL k (FD x.level s))
def KC(l:List It):List Sp:=(labF l 0 ⟨[],0,List.replicate l.length (0,0)⟩).out
theorem aP(s:LSt):(popL s).op.length=s.op.length-1:=by rw[popL,List.length_dropLast]
theorem pop_out(s:LSt):(popL s).out.length=s.out.length:=by rw[popL,NV,length_set]
theorem Ur:∀(j:Nat)(s:LSt),popN (j+1) s=popL (popN j s)
 |0,s=>rfl
 |j+1,s=>by rw[popN,Ur j];rfl
theorem MO:∀(n:Nat)(s:LSt),n<=s.op.length->(popN n s).op=s.op.take (s.op.length-n)/\(popN n s).at_=s.at_+1099511627776*(n:Int)/\(popN n s).out.length=s.out.length
 |0,s,_=>by simp[popN]
 |n+1,s,h=>by
  obtain⟨a,b,c⟩:=MO n (popL s) (by rw[aP];omega);rw[popN];refine⟨?_,?_,by rw[c,pop_out]⟩
  ·rw[a,aP]
   show(s.op.dropLast).take _=_;rw[dropLast_eq_take,take_take];congr 1;omega
  ·rw[b]
   show s.at_+1099511627776+_=_;omega
end Go.Nod
namespace Go.Proofs.YtljenkbpnioipaaGreat
noncomputable section
open Go Go.Vc Go.Nod
def BF(l:List Sp):List Value:=l.flatMap fun p=>[.int .i64 p.1,.int .i64 p.2]
theorem OT(l:List Sp):(BF l).length=l.length*2:=by
 induction l with
 |nil=>rfl
 |cons p r a=>simp only[BF,flatMap_cons,length_append,length_cons,length_nil]at a⊢;omega
theorem Eu(p:Sp)(r:List Sp):BF (p::r)=.int .i64 p.1::.int .i64 p.2::BF r:=rfl
theorem Vs(a b:List Sp):BF (a++b)=BF a++BF b:=by simp[BF]
theorem J4:∀{l:List Sp}{k:Nat}{p:Sp},l[k]? =some p->((BF l).drop (k*2)).take 2=[.int .i64 p.1,.int .i64 p.2]
 |x::r,0,p,h=>by simp at h;subst h;rfl
 |x::r,k+1,p,h=>by
  rw[List.getElem?_cons_succ]at h;rw[Eu,Nat.succ_mul,drop_succ_cons,drop_succ_cons];exact J4 h
theorem SI:∀{l:List Sp}{k:Nat}{p:Sp},l[k]? =some p->(BF l)[k*2]? =some (.int .i64 p.1)
 |x::r,0,p,h=>by simp at h;subst h;rfl
 |x::r,k+1,p,h=>by
  rw[List.getElem?_cons_succ]at h;rw[Eu,Nat.succ_mul,List.getElem?_cons_succ,List.getElem?_cons_succ];exact SI h
theorem QD:∀(l:List Sp)(k:Nat)(z:Int),k<l.length->(BF l).set (k*2+1) (.int .i64 z)=BF (NV l k z)
 |x::r,0,z,_=>rfl
 |x::r,k+1,z,h=>by
  have a:=QD r k z (by simpa using h)
  have e:NV (x::r) (k+1) z=x::NV r k z:=by simp[NV]
  rw[e,Eu,Eu,Nat.succ_mul];show _::_::(BF r).set (k*2+1) _=_;rw[a]
theorem P5:∀(l:List Sp)(k:Nat)(z:Int),k<l.length->(BF l).set (k*2) (.int .i64 z)=BF (UE l k z)
 |x::r,0,z,_=>rfl
 |x::r,k+1,z,h=>by
  have a:=P5 r k z (by simpa using h)
  have e:UE (x::r) (k+1) z=x::UE r k z:=by simp[UE]
  rw[e,Eu,Eu,Nat.succ_mul];show _::_::(BF r).set (k*2) _=_;rw[a]
theorem made_sp(n:Nat):(madeCells (Value.agg #[.int .i64 0,.int .i64 0]).cells (n*2)).toList=BF (List.replicate n (0,0)):=by
 apply ext_getElem?;intro k;have c:(Value.agg #[.int .i64 0,.int .i64 0]).cells= #[Value.int .i64 0,.int .i64 0]:=rfl
 have a:∀(m:Nat),BF (List.replicate m (0,0))=List.replicate (m*2) (Value.int .i64 0):=fun m=>by
  induction m with
  |zero=>rfl
  |succ m d=>rw[List.replicate_succ,Eu,d,Nat.succ_mul];rfl
 rw[a,c];by_cases b:k<n*2
 ·have:(madeCells #[Value.int .i64 0,.int .i64 0] (n*2)).toList.length=n*2:=by rw[Array.length_toList,size_madeCells]
  rw[List.getElem?_eq_getElem (by omega),List.getElem?_replicate,if_pos b];rcases Nat.mod_two_eq_zero_or_one k with h|h
  ·simp[madeCells,h]
  ·simp[madeCells,h]
 ·rw[List.getElem?_eq_none (by rw[Array.length_toList,size_madeCells];omega),List.getElem?_replicate,if_neg b]
theorem bM:Elt Tryz.prog 187 62 2 16:=CQ (by kernel_rfl)
theorem wSS:Scl Tryz.prog 187:=BH (by kernel_rfl)
theorem GV:Agg Tryz.prog 62 2:=Cb (by kernel_rfl)
theorem wundS:Tryz.prog.underlying 187=some (.slice 62):=by kernel_rfl
def natC(l:List Nat):List Value:=AO (l.map fun(k:Nat)=>(k:Int))
theorem natC_app(a b:List Nat):natC (a++b)=natC a++natC b:=by simp[natC,AO]
theorem natC_take(l:List Nat)(n:Nat):(natC l).take n=natC (l.take n):=by simp[natC,AO,List.map_take]
theorem natC_at{l:List Nat}{k v:Nat}(h:l[k]? =some v):(natC l)[k]? =some (.int .i64 (v:Int)):=by simp[natC,AO,h]
def labL(b0 b1 b2:Nat)(oa:Option Addr)(oc:Nat)(ua:Option Addr)(un:Nat)(s:LSt):List Asn:=
 [.blk b0 [.slice oa s.op.length oc] 59,.own 3 1 oa s.op.length oc (natC s.op),.blk b1 [.int .i64 s.at_] 3,.blk b2 [.slice ua un un] 187,.own 62 2 ua un un (BF s.out)]
theorem NT{B:List Nat}{w0:World}{L:List Asn}(d:Int)(p b1 q:Nat)(a:Option Addr)(R:Nat)(f:Option Addr)(b:Nat)(s:LSt)(w:World)(r:0<=d)(t:∀k∈s.op,k<s.out.length)(aa:b=s.out.length)(ab:s.op.length<=100000)(ac:0<=s.at_/\s.at_<=1099511627776*1000000)(H:Hp B w0 w (labL p b1 q a R f b s++L)):
  Calls Tryz.prog 165 #[.int .i64 d,.pointer (some ⟨p,0,none⟩),.pointer (some ⟨b1,0,none⟩),.pointer (some ⟨q,0,none⟩)] w fun e w'=>∃u,e=.returned (.tuple #[])/\Hp B w0 w' (labL p b1 q a u f b (FD d s)++L):=by
 apply sLabel1.ok;unfold sLabel1.vc;refine AP.mk (fun m _ w'=>∃(j:Nat)(c:Nat),m=s.op.length-j/\j<=s.op.length-d.toNat/\Hp B w0 w' (labL p b1 q a c f b (popN j s)++L)) s.op.length ⟨0,R,rfl,by omega,H⟩ ?_;clear H;rintro m _ w1 nx ⟨j,c,rfl,hj,H⟩ x;obtain⟨y,f2,S⟩:=MO j s (by omega);obtain⟨s1,l⟩:∃s1,s1=popN j s:=⟨_,rfl⟩;rw[<- l]at H y f2 S
 have ae:s1.op.length=s.op.length-j:=by rw[y,length_take];omega
 refine⟨a,s1.op.length,c,AA rfl (H.lo nSI),AB (fun h1=>?_) (fun h1=>?_)⟩
 ·have T:0<s1.op.length:=by omega
  refine⟨s1.at_,AA rfl (H.lo yInt),iR,AA rfl ?_⟩;refine Hp.s1 H.BA yInt (cs':=[.int .i64 (s1.at_+1099511627776)]) fun U i=>?_;clear H;refine⟨f,b,b,AA rfl (i.lo wSS),a,s1.op.length,c,AA rfl (i.lo nSI),a,s1.op.length,c,AA rfl (i.lo nSI),iR,?_⟩;obtain⟨z,A⟩:∃z,s1.op[s1.op.length-1]? =some z:=⟨_,List.getElem?_eq_getElem (by omega)⟩
  have C:z=s1.op.getLastD 0:=by
   rw[List.getLastD_eq_getLast?,List.getLast?_eq_getElem?,A];rfl
  have D:z<s1.out.length:=by
   rw[S];refine t z ?_;have:z∈s1.op:=mem_of_getElem? A;rw[y]at this;exact List.mem_of_mem_take this
  obtain⟨ad,E,G⟩:=i.ldO (w':=U.drew) (o:=s1.op.length-1) EQ4 yInt m2 (natC_at A)
  have e1:Int.toNat ((s1.op.length:Int)-1)*1=s1.op.length-1:=by omega
  refine AA E ⟨⟨by omega,by omega⟩,(z:Int),by rw[e1];exact G,s1.at_+1099511627776,AA rfl (i.lo yInt),?_⟩;have I:Own U 0 62 2 f b b (BF s1.out):=i.ownA m4;obtain⟨g,X⟩:=I.CE (by omega);refine AA X ⟨⟨by omega,by omega⟩,?_⟩;rw[Int.toNat_natCast,add_add];refine Hp.stO1 (o:=z*2+1) i.drew.II EQ4 yInt X rfl rfl (by rw[OT];omega) fun w3 n=>?_;rw[QD _ _ _ D]at n;clear i;refine⟨a,s1.op.length,c,AA rfl (n.lo nSI),a,s1.op.length,c,AA rfl (n.lo nSI),iR,a,s1.op.length,c,AA rfl (n.lo nSI),iR,?_⟩;have h:Own w3 0 3 1 a s1.op.length c (natC s1.op):=n.ownA m3;have af:=h.le
  have e2:Int.toNat ((s1.op.length:Int)-1)=s1.op.length-1:=by omega
  refine⟨⟨by omega,by omega,by omega⟩,AA rfl ?_⟩;rw[e2];refine Hp.s1 n.BA nSI (cs':=[.slice a (s1.op.length-1) (s1.op.length-1)]) fun Y Z=>?_;clear n h;have h:Own Y 0 3 1 a s1.op.length c (natC s1.op):=Z.ownA m3
  have H5:Hp B w0 Y (.own 3 1 a (s1.op.length-1) (s1.op.length-1) (natC (s1.op.take (s1.op.length-1)))::(.blk p [.slice a (s1.op.length-1) (s1.op.length-1)] 59::.own 62 2 f b b (BF (NV s1.out z (s1.at_+1099511627776)))::.blk b1 [.int .i64 (s1.at_+1099511627776)] 3::.blk q [.slice f b b] 187::L)):=by
   refine(Z.perm (M:=.own 3 1 a s1.op.length c (natC s1.op)::(.blk p [.slice a (s1.op.length-1) (s1.op.length-1)] 59::.own 62 2 f b b (BF (NV s1.out z (s1.at_+1099511627776)))::.blk b1 [.int .i64 (s1.at_+1099511627776)] 3::.blk q [.slice f b b] 187::L)) ?_).set (Chg.refl _ _) ?_ fun k hk=>.inl hk
   ·refine AL fun ff gg r J K N=>?_
    simp only[labL,K,J,r,append_eq,nil_append];omega
   ·have:=h.only (F:=s1.op.length-1) (by omega)
    rw[Nat.mul_one,natC_take]at this;exact this
  have O:popN (j+1) s=popL s1:=by rw[l,Ur]
  have P:popL s1=⟨s1.op.take (s1.op.length-1),s1.at_+1099511627776,NV s1.out z (s1.at_+1099511627776)⟩:=by
   rw[popL,dropLast_eq_take,C]
  refine x (s.op.length-(j+1)) _ _ (by omega) ⟨j+1,s1.op.length-1,rfl,by omega,?_⟩;rw[O,P];refine H5.perm ?_
  have e3:(s1.op.take (s1.op.length-1)).length=s1.op.length-1:=by rw[length_take];omega
  refine AL fun ff gg r J K N=>?_;simp only[labL,e3,K,J,r];omega
 ·have Q:j=s.op.length-d.toNat:=by omega
  refine⟨c,rfl,?_⟩;rw[FD,<- Q,<- l];exact H
end
end Go.Proofs.YtljenkbpnioipaaGreat
namespace Go.Nod
def labS:List It->Nat->LSt->LSt
 | [],_,s=>s
 |x::r,k,s=>labS r (k+1) (begL k (FD x.level s))
theorem WI:∀(l:List It)(k:Nat)(s:LSt),labF l k s=FD 0 (labS l k s)
 | [],_,_=>rfl
 |x::r,k,s=>by rw[labF,labS,WI r]
theorem Ua(x:It):∀(l:List It)(k:Nat)(s:LSt),labS (l++[x]) k s=begL (k+l.length) (FD x.level (labS l k s))
 | [],k,s=>rfl
 |y::r,k,s=>by
  rw[cons_append,labS,labS,Ua x r,length_cons];congr 1;omega
structure OM(j n:Nat)(s:LSt):Prop where
 out:s.out.length=n
 op:∀k∈s.op,k<j
 len:s.op.length<=j
 at_:s.at_=1099511627776*(2*(j:Int)-(s.op.length:Int))
theorem OM.shut{j n:Nat}{s:LSt}(h:OM j n s)(d:Int):OM j n (FD d s)/\(FD d s).op=s.op.take d.toNat:=by
 obtain⟨c,e,f⟩:=MO (s.op.length-d.toNat) s (by omega);have l:=h.len;have g:=h.at_
 have a:(FD d s).op=s.op.take d.toNat:=by
  rw[FD,c];by_cases m:d.toNat<=s.op.length
  ·congr 1;omega
  ·rw[take_of_length_le (by omega),take_of_length_le (by omega)]
 have i:(FD d s).op.length=s.op.length-(s.op.length-d.toNat):=by rw[a,length_take];omega
 refine⟨⟨by rw[FD,f];exact h.out,fun k b=>h.op k ?_,by omega,?_⟩,a⟩
 ·rw[a]at b
  exact List.mem_of_mem_take b
 ·rw[i]
  have:(FD d s).at_=s.at_+1099511627776*((s.op.length-d.toNat:Nat):Int):=e;rw[this,g];omega
theorem OM.beg{j n:Nat}{s:LSt}(h:OM j n s):OM (j+1) n (begL j s):=by
 have b:=h.len;have c:=h.at_;refine⟨by rw[begL,UE,length_set];exact h.out,fun k a=>?_,by rw[begL];simp;omega,?_⟩
 ·rw[begL]at a
  rcases mem_append.1 a with a|a
  ·have:=h.op k a;omega
  ·rw[mem_singleton.1 a];omega
 ·rw[begL]
  simp only[length_append,List.length_singleton];omega
def lab0(n:Nat):LSt:=⟨[],0,List.replicate n (0,0)⟩
theorem UF(n:Nat):OM 0 n (lab0 n):=⟨by simp[lab0],by simp[lab0],by simp[lab0],by simp[lab0]⟩
theorem OU(n:Nat):∀(l:List It)(k:Nat)(s:LSt),OM k n s->OM (k+l.length) n (labS l k s)
 | [],k,s,h=>h
 |x::r,k,s,h=>by
  have:=OU n r (k+1) _ (h.shut x.level).1.beg;rw[labS,length_cons,Nat.add_comm r.length,<- Nat.add_assoc];exact this
theorem label_len(l:List It):(KC l).length=l.length:=by
 rw[KC,WI];exact((OU l.length l 0 _ (UF l.length)).shut 0).1.out
end Go.Nod
namespace Go.Proofs.YtljenkbpnioipaaGreat
noncomputable section
open Go Go.Vc Go.Nod
theorem sLabel_spec(la:Option Addr)(n lc:Nat)(l:List It)(ss:List Sl3)(w:World)(C:DX [] w la n l ss)(ak:(D5 l).2=0)(hn:l.length<=100000)(J:∀x∈l,0<=x.level):
  Calls Tryz.prog 106 #[.slice la n lc] w fun e w'=>∃a,e=.returned (.tuple #[.slice a n n,.int .i64 0])/\Hp [] w w' [.own 62 2 a n n (BF (KC l))]:=by
 apply sLabel.ok;unfold sLabel.vc;have K:=C.now.len;refine AC (IJ la n lc l ss w C.now C.len C.sls C.small) ?_;rintro _ w1 ⟨rfl,H1⟩;refine⟨_,_,rfl,Aa (fun h=>(h ak).elim) (fun _=>?_)⟩;refine H1.mkS bM EQ4 (by omega) (by simp only[maxLen];omega) (by omega) (z:=.agg #[.int .i64 0,.int .i64 0]) rfl fun d w2 H2=>?_;rw[Int.toNat_natCast,made_sp]at H2;clear H1;rw[Int.toNat_natCast];intro F w3 L;have H3:=H2.nw L;refine Hp.s1 H3 wSS (cs':=[.slice d n n]) fun w4 H4=>?_;clear H2 H3 L;intro G w5 N;have H5:=H4.nw N;intro I w6 O;have H6:=H5.nw O;refine Hp.s1 H6 yInt (cs':=[.int .i64 0]) fun w7 H7=>?_;clear H4 H5 H6 N O;have H8:=H7.nilS 3 1;clear H7;refine AP.mk (fun m s w'=>∃(j:Nat)(i:Option Addr)(Q:Nat)(X:List Asn),m=n-j/\j<=n/\s=(j:Int)/\Hp [] w w' (labL G I F i Q d n (labS (l.take j) 0 (lab0 n))++X)) n ⟨0,none,0,[],rfl,by omega,rfl,H8.perm ?_⟩ ?_
 ·refine AL fun ff gg p q r u=>?_
  have S:natC []=[]:=rfl;simp only[labL,take_zero,labS,S,length_nil,r,q,p,lab0];omega
 clear H8;rintro m s w8 nx ⟨j,i,Q,X,rfl,hj,rfl,H⟩ al;have B:=OU n (l.take j) 0 (lab0 n) (UF n)
 have T:(l.take j).length=j:=by rw[length_take];omega
 rw[T,Nat.zero_add]at B;obtain⟨s,hs⟩:∃s,s=labS (l.take j) 0 (lab0 n):=⟨_,rfl⟩;rw[<- hs]at H B;have a6:=B.len;have a7:=B.at_;have a8:=B.out;refine AB (fun h1=>?_) (fun h1=>?_)
 ·have am:j<l.length:=by omega
  obtain⟨x,sl,hx,an,a9⟩:=(C.rd w8 (H.chg)).at_ (k:=j) (by omega);have hI:=C.rd w8 (H.chg);obtain⟨ad,ao,ap⟩:=hI.some hx an;refine AA ao ⟨⟨by omega,h1⟩,x.level,x.x.kind,x.x.name,x.x.text,sl.1,sl.2.1,sl.2.2,by rw[Int.toNat_natCast];exact ap,?_⟩;intro xb w9 U;have H9:=H.nw U;refine Hp.sA H9 Dh (cs':=itC x sl) fun Y D=>?_;clear H9 U H;refine⟨x.level,D.lo yInt,?_⟩;have aq:=J x (mem_of_getElem? hx)
  have Z:Hp [] w Y (labL G I F i Q d n s++(.blk xb (itC x sl) 123::X)):=D.perm (by
   refine AL fun ff gg p q r u=>?_
   simp only[r,q,p];omega)
  clear D;refine AC (NT x.level G I F i Q d n s Y aq (fun k hk=>by have:=B.op k hk;omega) (by omega) (by omega) ⟨by omega,by omega⟩ Z) ?_;rintro _ ar ⟨c,rfl,b⟩;clear Z;obtain⟨y,aa⟩:=B.shut x.level;obtain⟨t,ht⟩:∃t,t=FD x.level s:=⟨_,rfl⟩;rw[<- ht]at b y aa;have a3:=y.len;have a4:=y.at_;have a5:=y.out;refine⟨rfl,t.at_,b.lo yInt,iR,?_⟩;refine Hp.s1 b.BA yInt (cs':=[.int .i64 (t.at_+1099511627776)]) fun av f=>?_;clear b;refine⟨d,n,n,f.lo wSS,t.at_+1099511627776,f.lo yInt,?_⟩;have aw:Own av 0 62 2 d n n (BF t.out):=f.ownA m4;obtain⟨g,ab⟩:=aw.CE (by omega);refine AA ab ⟨⟨by omega,by omega⟩,?_⟩;rw[Int.toNat_natCast];refine Hp.stO1 (o:=j*2) f.II EQ4 yInt ab rfl rfl (by rw[OT];omega) fun ba A=>?_;rw[P5 _ _ _ (by omega)]at A;clear f;refine⟨i,t.op.length,c,A.lo nSI,?_⟩;intro kb bb ac;have ae:=A.nw ac;clear A
  have E:=ae.perm (M:=.own 3 1 i t.op.length c (natC t.op)::.blk kb [.int .i64 (j:Int)] 3::.blk G [.slice i t.op.length c] 59::.own 62 2 d n n (BF (UE t.out j (t.at_+1099511627776)))::.blk I [.int .i64 (t.at_+1099511627776)] 3::.blk F [.slice d n n] 187::(.blk xb (itC x sl) 123::X)) (by
   refine AL fun ff gg p q r u=>?_
   simp only[labL,r,q,p,append_eq,nil_append];omega)
  clear ae;refine Hp.app Ll (by omega) E EQ4 (Blk.src (P:=Tryz.prog) LZ (E.blk m1) rfl rfl) (by simp only[maxLen];omega) (by omega) ?_;intro af ag bc ah;clear E;refine Hp.s1 ah.BA nSI (cs':=[.slice af (t.op.length+1) ag]) fun bd a0=>⟨iR,?_⟩;clear ah;refine al (n-(j+1)) _ _ (by omega) ⟨j+1,af,ag,.blk kb [.int .i64 (j:Int)] 3::.blk xb (itC x sl) 123::X,rfl,by omega,rfl,a0.perm ?_⟩
  have S:labS (l.take (j+1)) 0 (lab0 n)=begL j t:=by
   have a1:=(List.getElem?_eq_some_iff.1 hx).2;rw[take_succ_eq_append_getElem am,a1,Ua,<- hs,<- ht,T,Nat.zero_add]
  have e2:natC (t.op++[j])=natC t.op++[.int .i64 (j:Int)]:=by rw[natC_app];rfl
  have e3:(t.op++[j]).length=t.op.length+1:=by simp
  rw[S];refine AL fun ff gg p q r u=>?_;simp only[labL,begL,e2,e3,r,q,p];omega
 ·have a2:j=n:=by omega
  subst a2;refine AC (NT 0 G I F i Q d _ s w8 (by omega) (fun k hk=>by have:=B.op k hk;omega) (by omega) (by omega) ⟨by omega,by omega⟩ H) ?_;rintro _ ar ⟨c,rfl,b⟩;refine⟨rfl,d,_,_,b.lo wSS,d,rfl,?_⟩
  have S:KC l=(FD 0 s).out:=by
   rw[KC,WI,hs,<- K,take_of_length_le (by omega)];rfl
  rw[S];refine Hp.BN (R:=[.blk G [.slice i (FD 0 s).op.length c] 59,.own 3 1 i (FD 0 s).op.length c (natC (FD 0 s).op),.blk I [.int .i64 (FD 0 s).at_] 3,.blk F [.slice d j j] 187]++X) (b.perm ?_);refine AL fun ff gg p q r u=>?_;simp only[labL,r,q,p];omega
end
end Go.Proofs.YtljenkbpnioipaaGreat
namespace Go.Nod
noncomputable section
open Classical
def popA:Nat->List Sp->Sp->List Sp
 |0,_,_=>[]
 |n+1,o,x=>match o[n]? with
  |some y=>if y.2<x.1 then popA n o x else o.take (n+1)
  |none=>o.take (n+1)
theorem VC:∀(n:Nat)(o:List Sp)(x:Sp),n<=o.length->∃m,m<=n/\popA n o x=o.take m
 |0,o,x,_=>⟨0,Nat.le_refl _,by simp[popA]⟩
 |n+1,o,x,h=>by
  rw[popA];have e:o[n]? =some o[n]:=List.getElem?_eq_getElem (by omega);rw[e];dsimp only;split
  ·obtain⟨m,b,a⟩:=VC n o x (by omega)
   exact⟨m,by omega,a⟩
  ·exact⟨n+1,Nat.le_refl _,rfl⟩
def badS(p:Option Int)(o:List Sp)(x:Sp):Prop:=¬(inS x.1/\inS x.2)\/x.2<=x.1\/(∃z,p=some z/\x.1<=z)\/∃y,o.getLast? =some y/\¬(y.1<x.1/\x.2<y.2)
def levP:Option Int->List Sp->List Sp->Option (List Int)
 |_,_,[]=>some []
 |p,o,x::r=>if badS p (popA o.length o x) x then none else(levP (some x.1) (popA o.length o x++[x]) r).map fun l=>((popA o.length o x).length:Int)::l
def Gm(s:List Sp):Option (List Int):=levP none [] s
end
end Go.Nod
namespace Go.Proofs.YtljenkbpnioipaaGreat
noncomputable section
open Go Go.Vc Go.Nod
theorem sLevels_spec(sa:Option Addr)(n sc:Nat)(l:List Sp)(w:World)(hS:Cells w sa (BF l))(hn:n=l.length)(bb:n<=100000):
  Calls Tryz.prog 134 #[.slice sa n sc] w fun e w'=>(Gm l=none/\e=.returned (.tuple #[.slice none 0 0,.bool false])/\Hp [] w w' [])\/
   ∃L a c,Gm l=some L/\L.length=n/\e=.returned (.tuple #[.slice a n c,.bool true])/\Hp [] w w' [.own 3 1 a n c (AO L)]:=by
 apply sLevels.ok;unfold sLevels.vc
 refine AP.mk (fun m s w'=>∃(j:Nat)(C:Option Addr)(D:Nat)(t:Option Addr)(bc:Nat)(O:List Sp)(L:List Int)(X:List Asn),m=n-j/\j<=n/\L.length=j/\O.length<=j/\s=((C,j,D),(t,O.length,bc),(j:Int))/\
   Gm l=(levP (if j=0 then none else(l[j-1]?).map (·.1)) O (l.drop j)).map (fun r=>L++r)/\Hp [] w w' (.own 3 1 C j D (AO L)::.own 62 2 t O.length bc (BF O)::X)) n
  ⟨0,none,0,none,0,[],[],[],rfl,by omega,rfl,Nat.le_refl _,rfl,?_,((Hp.start w).nilS 62 2).nilS 3 1⟩ ?_
 ·rw[if_pos rfl,List.drop_zero,Gm]
  cases levP none [] l<;>rfl
 rintro m s w1 nx ⟨j,C,D,t,bc,O,L,X,rfl,hj,hL,hO,rfl,b,H⟩ ao;dsimp only;refine AB (fun h1=>?_) (fun h1=>?_);rotate_left
 ·have ap:j=n:=by omega
  subst ap;rw[hn,drop_length,levP]at b;refine .inr ⟨L,C,D,?_,hL,rfl,Hp.BN (L:=[_]) H⟩;rw[b];simp
 have ac:j<l.length:=by omega
 obtain⟨x,hx⟩:∃x,l[j]? =some x:=⟨_,List.getElem?_eq_getElem ac⟩
 have aq:l.drop j=x::l.drop (j+1):=by
  rw[<- List.getElem_cons_drop ac,(List.getElem?_eq_some_iff.1 hx).2]
 rw[aq,levP]at b;have ae:Cells w1 sa (BF l):=hS.chg H.chg (by simp);have T:=J4 hx;obtain⟨ad,K⟩:=ae.some (fun e=>by rw[e]at T;simp at T);refine AA K ⟨⟨by omega,h1⟩,x.1,x.2,by rw[Int.toNat_natCast];exact ae.ldA GV K T rfl,?_⟩;intro I w2 af;have H2:=H.nw af;refine Hp.sA H2 GV (cs':=[.int .i64 x.1,.int .i64 x.2]) fun w3 f=>?_;clear H H2 af;obtain⟨P,hP⟩:∃P,P=popA O.length O x:=⟨_,rfl⟩;rw[<- hP]at b;refine Am.mk (fun s w'=>∃c,s=(t,P.length,c)/\Hp [] w w' (.blk I [.int .i64 x.1,.int .i64 x.2] 62::.own 3 1 C j D (AO L)::.own 62 2 t P.length c (BF P)::X)) ?_ ?_;rotate_left
 ·intro J M
  refine AP.mk (fun q s w'=>∃(k:Nat)(c:Nat),q=k/\k<=O.length/\s=(t,k,c)/\popA k O x=P/\Hp [] w w' (.blk I [.int .i64 x.1,.int .i64 x.2] 62::.own 3 1 C j D (AO L)::.own 62 2 t k c (BF (O.take k))::X)) O.length ⟨O.length,bc,rfl,Nat.le_refl _,rfl,hP.symm,by rw[take_length];exact f⟩ ?_;clear f;rintro q s N bd ⟨k,c,hq,hk,rfl,h,A⟩ ag;dsimp only;have u:Own N 0 62 2 t k c (BF (O.take k)):=A.ownA m2;refine AB (fun E=>?_) (fun E=>?_)
  ·obtain⟨d,rfl⟩:∃d,k=d+1:=⟨k-1,by omega⟩
   obtain⟨y,Q⟩:∃y,O[d]? =some y:=⟨_,List.getElem?_eq_getElem (by omega)⟩
   have ar:(O.take (d+1))[d]? =some y:=by rw[List.getElem?_take_of_lt (by omega)];exact Q
   have av:=J4 ar;obtain⟨g,hg⟩:=u.CE (by omega)
   have U:Int.toNat (((d+1:Nat):Int)-1)=d:=by omega
   rw[U];have Y:Cells N.drew t (BF (O.take (d+1))):=u.cells;refine⟨iR,AA hg ⟨⟨by omega,by omega⟩,y.1,y.2,Y.ldA GV hg av rfl,x.1,x.2,A.loA GV,?_⟩⟩;refine AC (sAhead_spec y.1 y.2 x.1 x.2 N.drew) ?_;rintro _ w5 ⟨rfl,H'⟩;have H5:=A.drew.ext0 H';clear A;have bf:=u.le;rw[popA,Q]at h;dsimp only at h;refine⟨_,rfl,AB (fun o=>⟨iR,iR,⟨by omega,by omega,by omega⟩,?_⟩) (fun o=>?_)⟩
   ·rw[if_pos o]at h
    refine ag d _ _ (by omega) ⟨d,d,rfl,by omega,rfl,h,?_⟩;have aw:Own w5 0 62 2 t (d+1) c (BF (O.take (d+1))):=H5.ownA m2;have ah:=aw.only (F:=d) (by omega)
    have e2:(BF (O.take (d+1))).take (d*2)=BF (O.take d):=by
     rw[take_succ_eq_append_getElem (by omega),Vs]
     have:(BF (O.take d)).length=d*2:=by rw[OT,length_take];omega
     rw[<- this,List.take_left]
    rw[e2]at ah;refine(Hp.set (a':=.own 62 2 t d d (BF (O.take d))) (H5.BA) (Chg.refl _ _) ah fun k hk=>.inl hk).perm ?_;refine AL fun ff gg h0 hc ha a0=>?_;simp only[ha,hc,h0];omega
   ·rw[if_neg o]at h
    refine M _ _ ⟨c,?_,?_⟩
    ·rw[<- h,length_take];congr 2;omega
    ·have e3:P.length=d+1:=by rw[<- h,length_take];omega
     rw[e3,<- h];exact H5
  ·have a1:k=0:=by omega
   subst a1;rw[popA]at h;subst h;exact M _ _ ⟨c,rfl,A.drew⟩
 clear f;rintro _ w3 ⟨c,rfl,f⟩;dsimp only
 have bg:P.length<=O.length:=by
  obtain⟨m,E,o⟩:=VC O.length O x (Nat.le_refl _);rw[hP,o,length_take];omega
 have G:∀{w':World},badS (if j=0 then none else(l[j-1]?).map (·.1)) P x->Hp [] w w' (.blk I [.int .i64 x.1,.int .i64 x.2] 62::.own 3 1 C j D (AO L)::.own 62 2 t P.length c (BF P)::X)->
   (Gm l=none/\Ending.returned (.tuple #[.slice none 0 0,.bool false])=.returned (.tuple #[.slice none 0 0,.bool false])/\Hp [] w w' [])\/
   ∃L a c,Gm l=some L/\L.length=n/\Ending.returned (.tuple #[.slice none 0 0,.bool false])=.returned (.tuple #[.slice a n c,.bool true])/\Hp [] w w' [.own 3 1 a n c (AO L)]:=fun{w'} u H=>by
  rw[if_pos u]at b;exact .inl ⟨by rw[b];rfl,rfl,Hp.BN (L:=[]) H⟩
 refine Am.mk (fun s w'=>s=dec (¬(inS x.1/\inS x.2)\/x.2<=x.1)/\Hp [] w w' (.blk I [.int .i64 x.1,.int .i64 x.2] 62::.own 3 1 C j D (AO L)::.own 62 2 t P.length c (BF P)::X)) ?_ ?_;rotate_left
 ·intro J M
  have ld0:Ld Tryz.prog 3 w3 ⟨I,0,none⟩ (.int .i64 x.1):=f.lo yInt;have a3:Ld Tryz.prog 3 w3 ⟨I,1,none⟩ (.int .i64 x.2):=f.lo yInt;refine⟨x.1,ld0,x.2,a3,fun b1 N a4=>?_⟩;have A:=f.nw a4;have hc:Cells N (some ⟨b1,0,none⟩) (AO [x.1,x.2]):=fun j v hj=>⟨_,rfl,by rw[add_lit,Nat.zero_add];exact(A.blk (.head _)).cell hj⟩;refine AC (NS _ 2 2 [x.1,x.2] N hc rfl (by simp[maxLen])) ?_;rintro _ _ ⟨rfl,rfl⟩
  have R:(∀z∈[x.1,x.2],inS z)↔inS x.1/\inS x.2:=by simp
  refine⟨_,rfl,KR (fun E=>M _ _ ⟨Cf (.inl fun o=>E (R.2 o)),A.drop⟩) (fun E=>⟨x.1,A.lo yInt,x.2,A.lo yInt,M _ _ ⟨?_,A.drop⟩⟩)⟩;by_cases o:x.2<=x.1
  ·exact(decide_eq_true o).trans (Cf (.inr o))
  ·exact(decide_eq_false o).trans (CG fun B=>B.elim (fun Z=>Z (R.1 E)) o)
 clear f;rintro _ N ⟨rfl,f⟩;refine br_d (fun E=>G (E.elim .inl fun o=>.inr (.inl o)) f) (fun E=>?_);refine Am.mk (fun s w'=>s=dec (∃z,(if j=0 then none else(l[j-1]?).map (·.1))=some z/\x.1<=z)/\Hp [] w w' (.blk I [.int .i64 x.1,.int .i64 x.2] 62::.own 3 1 C j D (AO L)::.own 62 2 t P.length c (BF P)::X)) ?_ ?_;rotate_left
 ·intro J M
  refine AB (fun o=>?_) (fun o=>M _ _ ⟨CG fun⟨z,B,_⟩=>(by rw[if_pos (by omega)]at B;cases B),f.drew⟩);obtain⟨p,hp⟩:∃p,l[j-1]? =some p:=⟨_,List.getElem?_eq_getElem (by omega)⟩;have a5:Cells N.drew sa (BF l):=hS.chg f.chg (by simp)
  have U:Int.toNat ((j:Int)-1)=j-1:=by omega
  refine⟨x.1,f.lo yInt,iR,AA K ⟨⟨by omega,by omega⟩,p.1,by rw[U];exact a5.ld yInt K (SI hp),M _ _ ⟨?_,f.drew⟩⟩⟩;rw[if_neg (by omega),hp];by_cases B:x.1<=p.1
  ·exact(decide_eq_true B).trans (Cf ⟨p.1,rfl,B⟩)
  ·exact(decide_eq_false B).trans (CG fun⟨z,Z,h6⟩=>by cases Z;exact B h6)
 clear f;rintro _ w5 ⟨rfl,f⟩;refine br_d (fun o=>G (.inr (.inr (.inl o))) f) (fun o=>?_)
 have ak:∀{w6:World},Hp [] w w6 (.blk I [.int .i64 x.1,.int .i64 x.2] 62::.own 3 1 C j D (AO L)::.own 62 2 t P.length c (BF P)::X)->¬badS (if j=0 then none else(l[j-1]?).map (·.1)) P x->
   ∀(b2:Nat)(w7:World),New w6 (.cells #[.int .i64 (P.length:Int)] 3) b2 w7->∃a n m w8,App Tryz.prog #[59,59] 59 w7 (.slice C j D) (.slice (some ⟨b2,0,none⟩) 1 1) (.slice a n m) w8/\∃i i5,Ld Tryz.prog 62 w8 ⟨I,0,none⟩ (.agg #[.int .i64 i,.int .i64 i5])/\
    ∀(b3:Nat)(w9:World),New w8 (.cells #[.int .i64 i,.int .i64 i5] 62) b3 w9->∃a2 n1 m1 aa,App Tryz.prog #[187,187] 187 w9 (.slice t P.length c) (.slice (some ⟨b3,0,none⟩) 1 1) (.slice a2 n1 m1) aa/\inR .i64 ((j:Int)+1)/\nx ((a,n,m),(a2,n1,m1),(j:Int)+1) aa:=fun{w6} H u b2 w7 a6=>by
  rw[if_neg u]at b;have H7:=H.nw a6;refine Hp.app Ll (by omega) H7.BA EQ4 (Blk.src (P:=Tryz.prog) LZ (H7.blk (.head _)) rfl rfl) (by simp only[maxLen];omega) (by omega) ?_;intro a' c' w8 H8;refine⟨x.1,x.2,H8.loA GV,fun b3 w9 a7=>?_⟩;have H9:=H8.nw a7;refine Hp.app bM (by omega) H9.II EQ4 (Blk.src (P:=Tryz.prog) wundS (H9.blk (.head _)) rfl rfl) (by simp only[maxLen];omega) (by omega) ?_;intro a2 c2 aa al;refine⟨iR,?_⟩
  have U:P.length+1=(P++[x]).length:=by simp
  rw[U]at al⊢;refine ao (n-(j+1)) _ _ (by omega) ⟨j+1,a',c',a2,c2,P++[x],L++[(P.length:Int)],[.blk b3 [.int .i64 x.1,.int .i64 x.2] 62,.blk b2 [.int .i64 (P.length:Int)] 3,.blk I [.int .i64 x.1,.int .i64 x.2] 62]++X,rfl,by omega,by simp[hL],by simp;omega,rfl,?_,al.perm ?_⟩
  ·rw[b,if_neg (by omega),Nat.add_sub_cancel,hx]
   dsimp only[Option.map_some]
   cases levP (some x.1) (P++[x]) (l.drop (j+1))with
   |none=>rfl
   |some r=>simp
  ·have e2:AO (L++[(P.length:Int)])=AO L++[.int .i64 (P.length:Int)]:=by simp[AO]
   have e3:BF (P++[x])=BF P++[.int .i64 x.1,.int .i64 x.2]:=by rw[Vs];rfl
   refine AL fun ff gg h0 hc ha a0=>?_;simp only[e2,e3,ha,hc,h0];omega
 have S:(∀y,P.getLast? =some y->y.1<x.1/\x.2<y.2)->¬badS (if j=0 then none else(l[j-1]?).map (·.1)) P x:=fun B u=>by
  rcases u with u|u|u|⟨y,a8,a9⟩
  ·exact E (.inl u)
  ·exact E (.inr u)
  ·exact o u
  ·exact a9 (B y a8)
 refine AB (fun B=>?_) (fun B=>?_)
 ·have ab:0<P.length:=by omega
  obtain⟨y,Q⟩:∃y,P[P.length-1]? =some y:=⟨_,List.getElem?_eq_getElem (by omega)⟩
  have am:P.getLast? =some y:=by rw[List.getLast?_eq_getElem?];exact Q
  have u:Own w5 0 62 2 t P.length c (BF P):=f.ownA m2;obtain⟨g,hg⟩:=u.CE ab;have Y:Cells w5.drew t (BF P):=u.cells
  have U:Int.toNat ((P.length:Int)-1)=P.length-1:=by omega
  refine⟨x.1,x.2,f.loA GV,iR,AA hg ⟨⟨by omega,by omega⟩,y.1,y.2,by rw[U];exact Y.ldA GV hg (J4 Q) rfl,?_⟩⟩;refine AC (sIn_spec x.1 x.2 y.1 y.2 w5.drew) ?_;rintro _ w6 ⟨rfl,H'⟩;have A:=f.drew.ext0 H';refine⟨_,rfl,KR (fun Z=>G (.inr (.inr (.inr ⟨y,am,Z⟩))) A) (fun Z=>?_)⟩;exact ak A (S fun y' an=>by rw[am]at an;cases an;exact Z)
 ·have ab:P=[]:=List.eq_nil_of_length_eq_zero (by omega)
  exact ak f.drew (S fun y Q=>by rw[ab]at Q;cases Q)
end
end Go.Proofs.YtljenkbpnioipaaGreat
namespace Go.Nod
abbrev none0:ByteArray:=⟨#[]⟩
structure WOk(W:List ByteArray):Prop where
 ok:∀s∈W,s=none0\/Dq s
 one:∀(j k:Nat)(s:ByteArray),W[j]? =some s->W[k]? =some s->s≠none0->j=k
 last:W.getLast? ≠some none0
 len:W.length<=4000
theorem wok_nil:WOk []:=⟨by simp,by simp,by simp,by simp⟩
def hasW(W:List ByteArray)(n:ByteArray):Prop:=n∈W/\n≠none0
noncomputable instance (W:List ByteArray) (n:ByteArray):Decidable (hasW W n):=Classical.propDecidable _
def posW:List ByteArray->ByteArray->Nat
 | [],_=>0
 |x::r,n=>if x=n then 0 else posW r n+1
theorem Vz:∀{W:List ByteArray}{n:ByteArray},n∈W->W[posW W n]? =some n
 |x::r,n,h=>by
  rw[posW];by_cases e:x=n
  ·rw[if_pos e,List.getElem?_cons_zero,e]
  ·rw[if_neg e,List.getElem?_cons_succ]
   exact Vz ((mem_cons.1 h).resolve_left fun h=>e h.symm)
end Go.Nod
namespace Go.Proofs.YtljenkbpnioipaaGreat
noncomputable section
open Go Go.Vc Go.Nod
theorem kSW:Scl Tryz.prog 148:=BH (by kernel_rfl)
theorem kMSI:Scl Tryz.prog 147:=BH (by kernel_rfl)
theorem KY:Agg Tryz.prog 167 2:=Cb (by kernel_rfl)
theorem Zo:Elt Tryz.prog 148 167 2 24:=CQ (by kernel_rfl)
theorem Zp:Elt Tryz.prog 106 9 1 16:=CQ (by kernel_rfl)
theorem aT:Tryz.prog.underlying 106=some (.slice 9):=by kernel_rfl
theorem Zl:Tryz.prog.underlying 148=some (.slice 167):=by kernel_rfl
theorem Ho:MapT Tryz.prog Ff 147 9 3 (.int .i64 0):=⟨by kernel_rfl,by kernel_rfl,by kernel_rfl⟩
def useW(s:ByteArray):Int:=if s=none0 then 0 else 1
def Ai(W:List ByteArray):List Value:=W.flatMap fun s=>[.string s,.int .i64 (useW s)]
theorem Es(l:List ByteArray):(Ai l).length=l.length*2:=by
 induction l with
 |nil=>rfl
 |cons p r a=>simp only[Ai,flatMap_cons,length_append,length_cons,length_nil]at a⊢;omega
theorem wordsC_one(l:List ByteArray):∀u∈Ai l,u.oneCell'=true:=by
 intro u c;obtain⟨p,_,a⟩:=List.mem_flatMap.1 c;simp only[mem_cons,List.not_mem_nil,or_false]at a;rcases a with rfl|rfl<;>rfl
theorem FC(p:ByteArray)(r:List ByteArray):Ai (p::r)=.string p::.int .i64 (useW p)::Ai r:=rfl
theorem Jg(a b:List ByteArray):Ai (a++b)=Ai a++Ai b:=by simp[Ai]
theorem Oi:∀{l:List ByteArray}{k:Nat}{p:ByteArray},l[k]? =some p->((Ai l).drop (k*2)).take 2=[.string p,.int .i64 (useW p)]
 |x::r,0,p,h=>by simp at h;subst h;rfl
 |x::r,k+1,p,h=>by
  rw[List.getElem?_cons_succ]at h;rw[FC,Nat.succ_mul,drop_succ_cons,drop_succ_cons];exact Oi h
theorem Fj:∀{l:List ByteArray}{k:Nat}{p:ByteArray},l[k]? =some p->(Ai l)[k*2+1]? =some (.int .i64 (useW p))
 |x::r,0,p,h=>by simp at h;subst h;rfl
 |x::r,k+1,p,h=>by
  rw[List.getElem?_cons_succ]at h;rw[FC,Nat.succ_mul];show(Ai r)[k*2+1]? =_;exact Fj h
theorem MQ:∀(l:List ByteArray)(k:Nat)(z:ByteArray),k<l.length->over [.string z,.int .i64 (useW z)] (k*2) (Ai l)=Ai (l.set k z)
 |x::r,0,z,_=>by
  rw[set_cons_zero,FC,FC];exact FT [.string z,.int .i64 (useW z)] [] [.string x,.int .i64 (useW x)] (Ai r) rfl
 |x::r,k+1,z,h=>by
  have i:=MQ r k z (by simpa using h)
  have m:k<r.length:=by simpa using h
  rw[set_cons_succ,FC,FC,<- i];have n:=Es r
  have e:Ai r=(Ai r).take (k*2)++(((Ai r).drop (k*2)).take 2++(Ai r).drop (k*2+2)):=by
   rw[<- drop_drop,take_append_drop,take_append_drop]
  have a:((Ai r).take (k*2)).length=k*2:=by rw[length_take];omega
  have c:(((Ai r).drop (k*2)).take 2).length=2:=by rw[length_take,length_drop];omega
  have d:=FT [.string z,.int .i64 (useW z)] ((Ai r).take (k*2)) (((Ai r).drop (k*2)).take 2) ((Ai r).drop (k*2+2)) c.symm;rw[a,<- e]at d;have g:=FT [.string z,.int .i64 (useW z)] (.string x::.int .i64 (useW x)::(Ai r).take (k*2)) (((Ai r).drop (k*2)).take 2) ((Ai r).drop (k*2+2)) c.symm
  have j:(Value.string x::.int .i64 (useW x)::(Ai r).take (k*2)).length=(k+1)*2:=by rw[length_cons,length_cons,a];omega
  rw[j,cons_append,cons_append,<- e]at g;rw[d,g];rfl
structure FX(W:List ByteArray)(al:List (ByteArray×Value)):Prop where
 apart:EZ al
 iff:∀(n:ByteArray)(v:Value),(n,v)∈al↔∃k:Nat,W[k]? =some n/\n≠none0/\v=.int .i64 ((k:Int)+1)
theorem FX.get{W:List ByteArray}{al:List (ByteArray×Value)}(h:FX W al)(g:WOk W)(n:ByteArray):aget al n=if hasW W n then some (.int .i64 ((posW W n:Nat)+1:Int))else none:=by
 by_cases a:hasW W n
 ·rw[if_pos a]
  exact(Ea h.apart).2 ((h.iff n _).2 ⟨_,Vz a.1,a.2,rfl⟩)
 ·rw[if_neg a]
  cases e:aget al n with
  |none=>rfl
  |some v=>
   obtain⟨k,c,d,_⟩:=(h.iff n v).1 ((Ea h.apart).1 e);exact(a ⟨mem_of_getElem? c,d⟩).elim
def JD(b mb:Nat)(a:Option Addr)(c:Nat)(W:List ByteArray)(al:List (ByteArray×Value)):List Asn:=[.blk b [.slice a W.length c,.map (some mb)] 150,.own 167 2 a W.length c (Ai W),.smap mb al]
def Rk(b:Nat)(W:List ByteArray)(L:List Asn):Prop:=WOk W/\∃mb a c al,FX W al/\L=JD b mb a c W al
def Ak(f:List Nat)(b:Nat)(W:List ByteArray):Asn:=pkA f (Rk b W)
theorem UZ(w:World):Calls Tryz.prog 38 #[] w fun e w'=>∃b f,e=.returned (.pointer (some ⟨b,0,none⟩))/\Hp [] w w' [Ak f b []]:=by
 apply xNew.ok;unfold xNew.vc;intro a k c;have H:=(Hp.start w).newS EQ4 c;intro b d g;have h:=(H.nw g).nilS 167 2;have i:Hp [] w d (JD b a none 0 [] []++[]):=h.Af;obtain⟨f,j⟩:=i.Cm (Q:=Rk b []) ⟨wok_nil,a,none,0,[],⟨List.nodup_nil,by simp⟩,rfl⟩;exact⟨b,f,rfl,j⟩
section
variable{f:List Nat}{b:Nat}{W:List ByteArray}{w:World}
theorem ML(h:(Ak f b W).ok w)(n:ByteArray):Calls Tryz.prog 100 #[.pointer (some ⟨b,0,none⟩),.string n] w fun e w'=>e=.returned (.tuple #[.int .i64 (if hasW W n then(posW W n:Int)+1 else 0),.bool (dec (hasW W n))])/\w'=w:=by
 apply xFind.ok;unfold xFind.vc;obtain⟨L,⟨i,j,a,c,k,l,rfl⟩,m,_⟩:=EJ h;have H:=Hp.Bv m;have g:=l.get i n;refine AA rfl ⟨some j,by rw[add_lit];exact H.lo kMSI,(if hasW W n then(posW W n:Int)+1 else 0),(aget k n).isSome,H.Uk Ho EQ4 m2 ?_ rfl,?_,rfl⟩
 ·rw[g];split<;>rfl
 ·rw[g]
  by_cases d:hasW W n
  ·rw[if_pos d,if_pos d,<- Cf d];rfl
  ·rw[if_neg d,if_neg d,<- CG d];rfl
theorem xClone_spec(h:(Ak f b W).ok w):Calls Tryz.prog 51 #[.pointer (some ⟨b,0,none⟩)] w fun e w'=>∃l o i,e=.returned (.pointer (some ⟨i,0,none⟩))/\Hp f w w' [Ak l b W,Ak o i W]:=by
 apply xClone.ok;unfold xClone.vc;have B:Hp f w w [Ak f b W]:=BZ h;obtain⟨M,⟨p,j,a,c,g,x,rfl⟩,H,S⟩:=B.unpack;have T:=p.len;refine AA rfl ⟨a,W.length,c,H.lo kSW,AA rfl ⟨some j,by rw[add_lit];exact H.lo kMSI,?_⟩⟩;have y:Own w 0 167 2 a W.length c (Ai W):=H.ownA m1;have q:Cells w.drew a (Ai W):=y.cells;refine AC (lCloneW_spec a W.length c (Ai W) w.drew q (Es W) (wordsC_one W) (QR y) (by omega)) ?_;rintro _ z ⟨m,n,rfl,C⟩;have r:=H.drew.ext1 C;refine⟨m,_,n,rfl,by rw[add_lit];exact r.lo kMSI,?_⟩;have D:MapAt Ff z j g:=r.ok _ m3;refine AC (lMCloneSI_spec j g z D) ?_;rintro _ E ⟨d,rfl,F,s,t⟩
 have G:Hp f w E (.smap d g::_):=r.add t s (fun k I=>by
  have:k=d:=by simpa [Asn.foot]using I
  omega)
 refine⟨some d,rfl,fun i A u=>?_⟩;have J:=G.nw u
 have K:Hp f w A (JD b j a c W g++(JD i d m n W g++[])):=J.perm (by
  refine AL fun ff U L t N O=>?_
  simp only[JD,N,t,L];omega)
 obtain⟨l,P⟩:=K.Cm (Q:=Rk b W) ⟨p,j,a,c,g,x,rfl⟩;obtain⟨o,R⟩:=(P.perm List.perm_middle.symm:Hp f w A (JD i d m n W g++[Ak l b W])).Cm (Q:=Rk i W) ⟨p,d,m,n,g,x,rfl⟩;exact⟨l,o,i,rfl,R.Af⟩
def BL(l:List ByteArray):List Value:=l.map .string
theorem Vj(h:(Ak f b W).ok w):Calls Tryz.prog 97 #[.pointer (some ⟨b,0,none⟩)] w fun e w'=>∃a c,e=.returned (.slice a W.length c)/\Hp [] w w' [.own 9 1 a W.length c (BL W)]:=by
 apply xAll.ok;unfold xAll.vc;obtain⟨L,⟨x,J,a,c,K,M,rfl⟩,y,_⟩:=EJ h;have H:=Hp.Bv y;have N:=x.len;have z:Own w 0 167 2 a W.length c (Ai W):=H.ownA m1;refine AA rfl ⟨a,W.length,c,H.lo kSW,?_⟩;clear H;refine AP.mk (fun q s w'=>∃(j:Nat)(l:Option Addr)(m:Nat)(X:List Asn),q=W.length-j/\j<=W.length/\s=((l,j,m),(j:Int))/\Hp [] w w' (.own 9 1 l j m (BL (W.take j))::X)) W.length ⟨0,none,0,[],rfl,by omega,rfl,(Hp.start w).nilS 9 1⟩ ?_;rintro q s A O ⟨j,l,m,X,rfl,Q,rfl,H⟩ n;dsimp only;refine AB (fun r=>?_) (fun r=>?_)
 ·have d:j<W.length:=by omega
  have B:W[j]? =some W[j]:=List.getElem?_eq_getElem d;have i:Cells A a (Ai W):=z.cells.chg H.chg (by simp);have g:=Oi B;obtain⟨R,k⟩:=i.some (fun e=>by rw[e]at g;simp at g);refine AA k ⟨⟨by omega,r⟩,W[j],useW W[j],by rw[Int.toNat_natCast];exact i.ldA KY k g rfl,?_⟩;intro C S o;have D:=H.nw o;refine Hp.sA D KY (cs':=[.string W[j],.int .i64 (useW W[j])]) fun T t=>?_;refine⟨W[j],t.lo yStr,?_⟩;intro E U p;have u:=t.nw p;refine Hp.app Zp (by omega) u.BA EQ4 (Blk.src (P:=Tryz.prog) aT (u.blk (.head _)) rfl rfl) (by simp only[maxLen];omega) (by omega) ?_;intro F G Y I;refine⟨iR,n (W.length-(j+1)) _ _ (by omega) ⟨j+1,F,G,.blk E [.string W[j]] 9::.blk C [.string W[j],.int .i64 (useW W[j])] 167::X,rfl,by omega,rfl,?_⟩⟩
  have e:BL (W.take (j+1))=BL (W.take j)++[.string W[j]]:=by
   rw[BL,BL,take_succ_eq_append_getElem d,map_append];rfl
  rw[e];exact I
 ·have d:j=W.length:=by omega
  subst d;rw[take_length]at H;exact⟨l,m,rfl,Hp.BN (L:=[_]) H⟩
def atW(W:List ByteArray)(n:Int):ByteArray:=if n<1 then none0 else W[n.toNat-1]?.getD none0
theorem Xn(h:(Ak f b W).ok w)(n:Int)(hn:n<=1000000):Calls Tryz.prog 157 #[.pointer (some ⟨b,0,none⟩),.int .i64 n] w fun e w'=>e=.returned (.agg #[.string (atW W n),.int .i64 (useW (atW W n))])/\Hp [] w w' []:=by
 apply xAt.ok;unfold xAt.vc;obtain⟨L,⟨C,z,a,c,J,K,rfl⟩,D,_⟩:=EJ h;have M:=C.len;have r:=Hp.Bv D;have E:Own w 0 167 2 a W.length c (Ai W):=r.ownA m1;have F:Blk w b [.slice a W.length c,.map (some z)] 150:=r.blk (.head _);clear r;intro A p t;have H:=(Hp.start w).nw t;have u:Blk p b [.slice a W.length c,.map (some z)] 150:=F.chg H.chg (by simp);have ld0:Ld Tryz.prog 148 p ⟨b,0,none⟩ (.slice a W.length c):=u.ld kSW.agg rfl
 have j:atW W n=none0->∃d,St Tryz.prog 167 p ⟨A,0,none⟩ (.agg #[.string none0,.int .i64 0]) d/\∃s i,Ld Tryz.prog 167 d ⟨A,0,none⟩ (.agg #[.string s,.int .i64 i])/\Ending.returned (.agg #[.string s,.int .i64 i])=.returned (.agg #[.string (atW W n),.int .i64 (useW (atW W n))])/\Hp [] w d []:=fun e=>by
  refine Hp.sA H KY (cs':=[.string none0,.int .i64 0]) fun G l=>?_;exact⟨none0,0,l.loA KY,by rw[e];rfl,l.drop⟩
 refine AB (fun q=>j (by rw[atW,if_pos q])) (fun q=>AA rfl ⟨a,W.length,c,ld0,AB (fun I=>j ?_) (fun I=>AA rfl ⟨a,W.length,c,ld0,iR,?_⟩)⟩)
 ·rw[atW,if_neg q,List.getElem?_eq_none (by omega)];rfl
 ·obtain⟨k,N⟩:∃k:Nat,n=(k:Int)+1:=⟨n.toNat-1,by omega⟩
  have x:k<W.length:=by omega
  have B:W[k]? =some W[k]:=List.getElem?_eq_getElem x
  have y:atW W n=W[k]:=by
   rw[atW,if_neg q,show n.toNat-1=k by omega,B];rfl
  have m:Cells p a (Ai W):=E.cells.chg H.chg (by simp);have g:=Oi B;obtain⟨O,o⟩:=m.some (fun e=>by rw[e]at g;simp at g);rw[y];refine AA o ⟨⟨by omega,by omega⟩,W[k],useW W[k],by rw[show(n-1).toNat=k by omega];exact m.ldA KY o g rfl,?_⟩;refine Hp.sA H KY (cs':=[.string W[k],.int .i64 (useW W[k])]) fun G l=>?_;exact⟨W[k],useW W[k],l.loA KY,rfl,l.drop⟩
theorem xName_spec(h:(Ak f b W).ok w)(n:Int)(hn:n<=1000000):Calls Tryz.prog 198 #[.pointer (some ⟨b,0,none⟩),.int .i64 n] w fun e w'=>e=.returned (.tuple #[.string (atW W n),.bool (decide (atW W n≠none0))])/\Hp [] w w' []:=by
 apply xName.ok;unfold xName.vc;refine AC (Xn h n hn) ?_;rintro _ g ⟨rfl,d⟩;refine⟨_,_,rfl,fun i j a=>?_⟩;have H:=d.nw a;refine Hp.sA H KY (cs':=[.string (atW W n),.int .i64 (useW (atW W n))]) fun k c=>?_;refine⟨atW W n,c.lo yStr,useW (atW W n),c.lo yInt,?_,c.drew.drop⟩
 have:decide (0<useW (atW W n))=decide (atW W n≠none0):=by
  rw[useW];by_cases e:atW W n=none0
  ·rw[if_pos e];simp[e]
  ·rw[if_neg e];simp[e]
 rw[this]
end
end
end Go.Proofs.YtljenkbpnioipaaGreat
namespace Go.Nod
noncomputable section
open Classical
theorem PG:∀(W:List ByteArray)(n:ByteArray),posW W n<=W.length
 | [],_=>Nat.le_refl _
 |x::r,n=>by
  have:=PG r n;rw[posW];split<;>simp<;>omega
theorem Qp:∀(W:List ByteArray)(n:ByteArray)(k:Nat)(s:ByteArray),W[k]? =some s->k<posW W n->s≠n
 |x::r,n,0,s,h,hk=>by
  rw[List.getElem?_cons_zero]at h;cases h;rw[posW]at hk;intro e;rw[if_pos e]at hk;omega
 |x::r,n,k+1,s,h,hk=>by
  rw[List.getElem?_cons_succ]at h;rw[posW]at hk;by_cases e:x=n
  ·rw[if_pos e]at hk;omega
  ·rw[if_neg e]at hk
   exact Qp r n k s h (by omega)
theorem pos_not{W:List ByteArray}{n:ByteArray}(h:n∉W):posW W n=W.length:=by
 induction W with
 |nil=>rfl
 |cons x r a=>
  rw[mem_cons,not_or]at h;rw[posW,if_neg fun e=>h.1 e.symm,a h.2,length_cons]
def addW(W:List ByteArray)(n:ByteArray):List ByteArray:=if posW W none0<W.length then W.set (posW W none0) n else W++[n]
def cntW(W:List ByteArray):Nat:=(W.filter fun s=> !decide (s=none0)).length
def La:Nat->List ByteArray->List ByteArray
 |0,_=>[]
 |n+1,W=>match W[n]? with
  |some s=>if s=none0 then La n W else W.take (n+1)
  |none=>W.take (n+1)
def JP(W:List ByteArray)(k:Nat):List ByteArray:=La W.length (W.set k none0)
theorem PI{W:List ByteArray}{n:ByteArray}(k:Nat):(addW W n)[k]? =if k=posW W none0 then some n else W[k]? :=by
 rw[addW];have c:=PG W none0;split
 ·rename_i h
  rw[List.getElem?_set];by_cases e:k=posW W none0
  ·rw[if_pos e.symm,if_pos e,if_pos (by omega)]
  ·rw[if_neg fun h=>e h.symm,if_neg e]
 ·rename_i h
  have a:posW W none0=W.length:=by omega
  rw[a];by_cases e:k=W.length
  ·subst e;simp
  ·rw[if_neg e]
   by_cases b:k<W.length
   ·rw[List.getElem?_append_left b]
   ·rw[List.getElem?_eq_none (by simp;omega),List.getElem?_eq_none (by omega)]
theorem cnt_full{W:List ByteArray}(h:none0∉W):cntW W=W.length:=by
 rw[cntW,filter_eq_self.2];intro s a;have:s≠none0:=fun e=>h (e▸a);simp[this]
theorem WOk.add{W:List ByteArray}(h:WOk W){n:ByteArray}(hn:Dq n)(g:¬hasW W n)(hc:cntW W<4000):WOk (addW W n):=by
 have c:n≠none0:=fun e=>by rw[e]at hn;exact absurd hn.1 (by decide)
 have i:n∉W:=fun l=>g ⟨l,c⟩;have p:=PG W none0;have d:∀k,W[k]? ≠some n:=fun k a=>i (mem_of_getElem? a);refine⟨fun s m=>?_,fun j k s f a m=>?_,?_,?_⟩
 ·obtain⟨k,a⟩:=List.getElem?_of_mem m
  rw[PI]at a;split at a
  ·cases a;exact .inr hn
  ·exact h.ok s (mem_of_getElem? a)
 ·rw[PI]at f a
  split at f<;>split at a
  ·omega
  ·cases f;exact(d _ a).elim
  ·cases a;exact(d _ f).elim
  ·exact h.one j k s f a m
 ·intro e
  rw[List.getLast?_eq_getElem?,PI]at e;split at e
  ·cases e;exact c rfl
  ·rename_i b
   rw[addW]at e b;split at e
   ·rw[length_set]at e
    exact h.last (by rw[List.getLast?_eq_getElem?];exact e)
   ·rename_i o
    rw[if_neg o]at b;simp at b;omega
 ·rw[addW]
  have:=h.len;split
  ·rw[length_set];exact this
  ·rename_i o
   have:none0∉W:=fun l=>by
    have:=(List.getElem?_eq_some_iff.1 (Vz l)).1;omega
   have:=cnt_full this;simp;omega
theorem Za:∀(n:Nat)(W:List ByteArray),n<=W.length->∃m,m<=n/\La n W=W.take m/\(∀k s,m<=k->k<n->W[k]? =some s->s=none0)/\(0<m->W[m-1]? ≠some none0)
 |0,W,_=>⟨0,Nat.le_refl _,by simp[La],fun k s f c=>by omega,fun h=>by omega⟩
 |n+1,W,h=>by
  have e:W[n]? =some W[n]:=List.getElem?_eq_getElem (by omega);rw[La,e];dsimp only;by_cases b:W[n]=none0
  ·rw[if_pos b]
   obtain⟨m,f,c,i,j⟩:=Za n W (by omega);refine⟨m,by omega,c,fun k s d l a=>?_,j⟩;by_cases o:k=n
   ·subst o
    rw[e]at a;cases a;exact b
   ·exact i k s d (by omega) a
  ·rw[if_neg b]
   refine⟨n+1,Nat.le_refl _,rfl,fun k s f c=>by omega,fun _ g=>b ?_⟩;rw[Nat.add_sub_cancel,e]at g;exact Option.some.inj g
theorem drop_at{W:List ByteArray}{k:Nat}(g:k<W.length):∃m,m<=W.length/\JP W k=(W.set k none0).take m/\(∀(j:Nat)(s:ByteArray),s≠none0->((JP W k)[j]? =some s↔W[j]? =some s/\j≠k))/\(JP W k).getLast? ≠some none0:=by
 obtain⟨m,d,c,i,l⟩:=Za W.length (W.set k none0) (by rw[length_set];exact Nat.le_refl _);refine⟨m,d,c,fun j s f=>?_,?_⟩
 ·rw[JP,c]
  have a:(W.set k none0)[j]? =some s↔W[j]? =some s/\j≠k:=by
   rw[List.getElem?_set];by_cases e:k=j
   ·subst e
    rw[if_pos rfl,if_pos g];exact⟨fun h=>(by cases h;exact(f rfl).elim),fun h=>(h.2 rfl).elim⟩
   ·rw[if_neg e]
    exact⟨fun h=>⟨h,fun h=>e h.symm⟩,fun h=>h.1⟩
  rw[<- a];by_cases n:j<m
  ·rw[List.getElem?_take_of_lt n]
  ·rw[List.getElem?_eq_none (by rw[length_take];omega)]
   refine⟨fun h=>(by cases h),fun h=>?_⟩;have b:=(List.getElem?_eq_some_iff.1 h).1;rw[length_set]at b;exact(f (i j s (by omega) b h)).elim
 ·rw[JP,c]
  intro e;rw[List.getLast?_eq_getElem?,length_take,length_set,Nat.min_eq_left d]at e;by_cases o:0<m
  ·rw[List.getElem?_take_of_lt (by omega)]at e
   exact l o e
  ·have:m=0:=by omega
   subst this;simp at e
theorem WOk.drop{W:List ByteArray}(h:WOk W){k:Nat}(e:k<W.length):WOk (JP W k):=by
 obtain⟨m,n,c,d,f⟩:=drop_at e
 have b:∀s∈JP W k,s=none0\/s∈W:=fun s a=>by
  rw[c]at a;exact(List.mem_or_eq_of_mem_set (List.mem_of_mem_take a)).symm
 refine⟨fun s a=>?_,fun i j s g l a=>?_,f,?_⟩
 ·rcases b s a with a|a
  ·exact .inl a
  ·exact h.ok s a
 ·exact h.one i j s ((d i s a).1 g).1 ((d j s a).1 l).1 a
 ·rw[c,length_take,length_set]
  have:=h.len;omega
end
end Go.Nod
namespace Go.Proofs.YtljenkbpnioipaaGreat
noncomputable section
open Go Go.Vc Go.Nod
theorem FX.add{W:List ByteArray}{al:List (ByteArray×Value)}(h:FX W al)(q:WOk W){n:ByteArray}(d:n≠none0)(f:¬hasW W n):FX (addW W n) (aput al n (.int .i64 ((posW W none0:Int)+1))):=by
 have j:=h.get q n;rw[if_neg f]at j;have l:=JR.1 j;rw[KH _ _ _ l];have r:∀k,W[k]? ≠some n:=fun k s=>f ⟨mem_of_getElem? s,d⟩;refine⟨?_,fun m v=>?_⟩
 ·rw[EZ,map_append,nodup_append]
  exact⟨h.apart,by simp,fun a t c o e=>by rw[map_cons,map_nil,mem_singleton]at o;subst o;exact l (e▸t)⟩
 ·rw[mem_append,mem_singleton,h.iff]
  constructor
  ·rintro(⟨k,b,g,i⟩|b)
   ·refine⟨k,?_,g,i⟩
    rw[PI,if_neg,b];intro e;subst e;have u:=PG W none0;by_cases p:none0∈W
    ·rw[Vz p]at b;cases b;exact g rfl
    ·rw[pos_not p,List.getElem?_eq_none (Nat.le_refl _)]at b;cases b
   ·cases b
    exact⟨posW W none0,by rw[PI,if_pos rfl],d,rfl⟩
  ·rintro⟨k,b,g,i⟩
   rw[PI]at b;split at b
   ·rename_i e
    cases b;exact .inr (by rw[i,e])
   ·exact .inl ⟨k,b,g,i⟩
theorem FX.drop{W:List ByteArray}{al:List (ByteArray×Value)}(h:FX W al)(p:WOk W){k:Nat}{n:ByteArray}(f:W[k]? =some n)(g:n≠none0):FX (JP W k) (adel al n):=by
 have i:=(List.getElem?_eq_some_iff.1 f).1;obtain⟨m,r,s,o,t⟩:=drop_at i;rw[TZ h.apart];refine⟨?_,fun a v=>?_⟩
 ·have:(acut al n).Sublist al:=List.filter_sublist
  exact h.apart.sublist (this.map _)
 ·rw[acut,mem_filter,h.iff]
  constructor
  ·rintro⟨⟨j,b,c,l⟩,d⟩
   refine⟨j,(o j a c).2 ⟨b,fun e=>?_⟩,c,l⟩;subst e;rw[f]at b;cases b;simp at d
  ·rintro⟨j,b,c,l⟩
   obtain⟨d,q⟩:=(o j a c).1 b;refine⟨⟨j,d,c,l⟩,?_⟩;have:a≠n:=fun e=>q (p.one j k n (e▸d) f g);simp[this]
theorem FX.len{W:List ByteArray}{al:List (ByteArray×Value)}(h:FX W al)(d:WOk W):al.length=cntW W:=by
 have b:(al.map (·.1)).Perm (W.filter fun s=> !decide (s=none0)):=by
  refine(List.perm_ext_iff_of_nodup h.apart ?_).2 fun n=>?_
  ·rw[List.Nodup,List.pairwise_filter,List.pairwise_iff_getElem]
   intro i j f g l m r e;have:=d.one i j W[i] (List.getElem?_eq_getElem f) (by rw[List.getElem?_eq_getElem g,e]) (by simpa using m);omega
  ·rw[mem_map,mem_filter]
   constructor
   ·rintro⟨⟨a,v⟩,c,rfl⟩
    obtain⟨k,b,o,_⟩:=(h.iff a v).1 c;exact⟨mem_of_getElem? b,by simp[o]⟩
   ·rintro⟨c,p⟩
    obtain⟨k,q⟩:=List.getElem?_of_mem c;exact⟨(n,_),(h.iff n _).2 ⟨k,q,by simpa using p,rfl⟩,rfl⟩
 have:=b.length_eq;rw[length_map]at this;exact this
end
end Go.Proofs.YtljenkbpnioipaaGreat
namespace Go.Vc
theorem Hp.delS{P:Program}{B:List Nat}{w0 w w':World}{L:List Asn}{t h i:TypeId}{z:Value}{b:Nat}{al:List (ByteArray×Value)}(T:MapT P Ff t h i z){g:Array TypeId}{ty:TypeId}(d:g[0]? =some t)(H:Hp B w0 w (.smap b al::L))(e:Eqw w w'){x:ByteArray}{G:World->Prop}
  (j:∀w1,Hp B w0 w1 (.smap b (adel al x)::L)->G w1):∃w1,Del P g ty w' (.map (some b)) (.string x) w1/\G w1:=by
 obtain⟨w1,l,m,n⟩:=Yu (ty:=ty) T d ((H.go e).ok _ (.head _)) x;exact⟨w1,l,j w1 ((H.go e).set n m fun k o=>.inl o)⟩
end Go.Vc
namespace Go.Nod
theorem pos_none_of(W:List ByteArray)(n:ByteArray)(j:Nat)(h:∀k<j,∀s,W[k]? =some s->s≠n)(d:j<=W.length):j<=posW W n:=by
 induction W generalizing j with
 |nil=>
  have:j=0:=by simpa using d
  omega
 |cons x r e=>
  cases j with
  |zero=>omega
  |succ j=>
   have g:=h 0 (by omega) x rfl;rw[posW,if_neg g];have:=e j (fun k l s i=>h (k+1) (by omega) s (by rw[List.getElem?_cons_succ];exact i)) (by simpa using d);omega
end Go.Nod
namespace Go.Proofs.YtljenkbpnioipaaGreat
noncomputable section
open Go Go.Vc Go.Nod
theorem JF(s:ByteArray):useW s=0↔s=none0:=by
 rw[useW];by_cases e:s=none0
 ·rw[if_pos e];exact⟨fun _=>e,fun _=>rfl⟩
 ·rw[if_neg e];exact⟨fun h=>by omega,fun h=>(e h).elim⟩
section
variable{b mb:Nat}{a:Option Addr}{c:Nat}{W:List ByteArray}{al:List (ByteArray×Value)}{w:World}
theorem xFree_w(g:Std w (JD b mb a c W al))(A:W.length<=4000):Calls Tryz.prog 158 #[.pointer (some ⟨b,0,none⟩)] w fun e w'=>e=.returned (.int .i64 ((posW W none0:Int)+1))/\w'=w:=by
 apply xFree.ok;unfold xFree.vc;have H:=Hp.Bv g;have ld0:Ld Tryz.prog 148 w ⟨b,0,none⟩ (.slice a W.length c):=H.lo kSW;have p:Own w 0 167 2 a W.length c (Ai W):=H.ownA m1;refine AP.mk (fun q s w'=>∃j:Nat,q=W.length-j/\j<=W.length/\s=(j:Int)+1/\(∀k<j,∀s,W[k]? =some s->s≠none0)/\w'=w) W.length ⟨0,rfl,by omega,rfl,fun k r=>by omega,rfl⟩ ?_;rintro q s _ B ⟨j,rfl,t,rfl,d,rfl⟩ n;have u:=pos_none_of W none0 j d t;refine AA rfl ⟨a,W.length,c,ld0,AB (fun x=>AA rfl ⟨a,W.length,c,ld0,iR,?_⟩) (fun x=>?_)⟩
 ·have i:j<W.length:=by omega
  have m:W[j]? =some W[j]:=List.getElem?_eq_getElem i;obtain⟨C,l,_⟩:=p.cells _ _ (Fj m);refine AA l ⟨⟨by omega,by omega⟩,useW W[j],?_,AB (fun o=>?_) (fun o=>⟨iR,?_⟩)⟩
  ·rw[add_add,show((j:Int)+1-1).toNat=j by omega]
   exact p.cells.ld yInt l (Fj m)
  ·have y:=(JF _).1 o
   have:posW W none0=j:=by
    refine Nat.le_antisymm (Nat.not_lt.1 fun z=>?_) u;exact Qp W none0 j W[j] m z y
   exact⟨by rw[this],rfl⟩
  ·refine n (W.length-(j+1)) _ _ (by omega) ⟨j+1,rfl,by omega,rfl,fun k r s g=>?_,rfl⟩
   by_cases e:k=j
   ·subst e
    rw[m]at g;cases g;exact fun h=>o ((JF _).2 h)
   ·exact d k (by omega) s g
 ·have i:j=W.length:=by omega
  have:=PG W none0;exact⟨by rw[show posW W none0=j by omega],rfl⟩
end
section
variable{f:List Nat}{b:Nat}{W:List ByteArray}{w:World}
def addR(W:List ByteArray)(n:ByteArray):List ByteArray×Int×Int:=open Classical in if¬Dq n then(W,0,63)else if 4000<=cntW W then(W,0,150)else(addW W n,(posW W none0:Int)+1,0)
theorem xAdd_spec(h:(Ak f b W).ok w)(n:ByteArray)(l:¬hasW W n):Calls Tryz.prog 101 #[.pointer (some ⟨b,0,none⟩),.string n] w fun e w'=>∃E,e=.returned (.tuple #[.int .i64 (addR W n).2.1,.int .i64 (addR W n).2.2])/\Hp f w w' [Ak E b (addR W n).1]:=by
 apply xAdd.ok;unfold xAdd.vc
 have q:Hp f w w [Ak f b W]:=BZ h
 obtain⟨M,⟨r,mb,a,c,al,F,rfl⟩,H,hf⟩:=q.unpack
 have hl:=r.len
 have G:=F.get r n
 rw[if_neg l]at G
 have s:=F.len r
 refine AA rfl ⟨some mb,by rw[add_lit];exact H.ld (o:=1) (cs:=[.slice a W.length c,.map (some mb)]) EQ4 kMSI (.head _) rfl,0,false,H.Uk Ho EQ4 (.tail _ (.tail _ (.head _))) (by rw[G];rfl) (by rw[G];rfl),?_⟩
 refine AC (IB n w) ?_
 rintro _ w1 ⟨rfl,Z⟩
 replace q:=q.ext0 Z
 replace H:=H.ext0 Z
 refine⟨_,rfl,KR (fun j=>⟨f,by rw[addR,if_pos j],by rw[addR,if_pos j];exact q⟩) (fun j=>BG (x:=_) ?_)⟩
 have hm:MapAt Ff w1 mb al:=H.ok _ (.tail _ (.tail _ (.head _)))
 refine AA rfl ⟨some mb,by rw[add_lit];exact H.ld (o:=1) (cs:=[.slice a W.length c,.map (some mb)]) EQ4 kMSI (.head _) rfl,_,run_len_map Ho.und hm,?_⟩
 rw[s]
 refine AB (fun h2=>⟨f,by rw[addR,if_neg (fun h=>h j),if_pos (by omega)],by rw[addR,if_neg (fun h=>h j),if_pos (by omega)];exact q⟩) (fun h2=>?_)
 have hR:addR W n=(addW W n,(posW W none0:Int)+1,0):=by rw[addR,if_neg (fun h=>h j),if_neg (by omega)]
 rw[hR]
 have t:n≠none0:=fun e=>by rw[e]at j;exact absurd j.1 (by decide)
 have I:=r.add j l (by omega)
 have u:=F.add r t l
 refine AC (xFree_w H.std1 hl) ?_
 rintro _ _ ⟨rfl,rfl⟩
 refine⟨_,rfl,?_⟩
 have hp:=PG W none0
 obtain⟨p,y⟩:∃p,p=posW W none0:=⟨_,rfl⟩
 rw[<- y]at hp u⊢
 obtain⟨V,B⟩:∃V,V=if p<W.length then W else W++[none0]:=⟨_,rfl⟩
 have K:p<V.length/\V.length<=4001:=by
  rw[B];split
  ·omega
  ·simp;omega
 have z:V.set p n=addW W n:=by
  rw[B,addW,<- y]
  split
  ·rfl
  ·have:p=W.length:=by omega
   subst this;simp
 refine Am.mk (fun _ w'=>∃(d:Option Addr)(i:Nat)(X:List Asn),Hp f w w' (.blk b [.slice d V.length i,.map (some mb)] 150::.own 167 2 d V.length i (Ai V)::.smap mb al::X)) ?_ ?_
 rotate_left
 ·intro J hJ
  refine AA rfl ⟨a,W.length,c,H.ld (o:=0) (cs:=[.slice a W.length c,.map (some mb)]) EQ4 kSW (.head _) rfl,AB (fun h3=>?_) (fun h3=>?_)⟩
  ·have k:V=W++[none0]:=by rw[B,if_neg (by omega)]
   refine AA rfl ⟨a,W.length,c,H.ld (o:=0) (cs:=[.slice a W.length c,.map (some mb)]) EQ4 kSW (.head _) rfl,fun xb w2 N=>?_⟩
   have m:=H.new (cs:=[.string none0,.int .i64 0]) EQ4 N
   refine Hp.app Zo (by omega) m.BA EQ4 (Blk.src (P:=Tryz.prog) Zl (m.blk (.head _)) rfl rfl) (by simp only[maxLen];omega) (by omega) ?_
   intro d i w3 C
   refine AA rfl (Hp.st (o:=0) C.BA EQ4 kSW rfl rfl (by simp) (cs':=[.slice d (W.length+1) i,.map (some mb)]) rfl fun w4 D=>hJ _ _ ⟨d,i,[.blk xb [.string none0,.int .i64 0] 167],D.perm ?_⟩)
   have O:V.length=W.length+1:=by rw[k];simp
   have e2:Ai V=Ai W++[.string none0,.int .i64 0]:=by rw[k,Jg];rfl
   refine AL fun ff gg R S T U=>?_
   simp only[JD,O,e2,T,S,R,append_eq,append_nil,nil_append];omega
  ·have k:V=W:=by rw[B,if_pos (by omega)]
   refine hJ _ _ ⟨a,c,[],?_⟩
   rw[k]
   rw[append_nil]at H
   exact H
 rintro _ w2 ⟨d,i,X,m⟩
 refine AA rfl ⟨d,V.length,i,m.ld (o:=0) (cs:=[.slice d V.length i,.map (some mb)]) EQ4 kSW (.head _) rfl,CX.2 (by omega),?_⟩
 have ho:Own w2 0 167 2 d V.length i (Ai V):=m.ownA (.tail _ (.head _))
 obtain⟨g,A⟩:=ho.CE (by omega)
 refine AA A ⟨⟨by omega,by omega⟩,?_⟩
 rw[show((p:Int)+1-1).toNat=p by omega]
 have Y:useW n=1:=by rw[useW,if_neg t]
 refine Hp.stO (v:=.agg #[.string n,.int .i64 1]) (o:=p*2) m.Af EQ4 A KY.size rfl (by rw[Es];simp[Value.cells];omega) (xs':=Ai (addW W n)) (by rw[<- z,<- MQ V p n K.1,Y];rfl) fun w3 C=>?_
 refine AA rfl ⟨some mb,by rw[add_lit];exact C.ld (o:=1) (cs:=[.slice d V.length i,.map (some mb)]) EQ4 kMSI (.tail _ (.head _)) rfl,?_⟩
 refine Hp.mupS Ho C.BA EQ4 fun w4 D=>?_
 have O:V.length=(addW W n).length:=by rw[<- z,length_set]
 rw[O]at D
 have H5:Hp f w w4 (JD b mb d i (addW W n) (aput al n (.int .i64 ((p:Int)+1)))++X):=D.perm (by
  refine AL fun ff gg R S T U=>?_
  simp only[JD,T,S,R];omega)
 obtain⟨E,H6⟩:=H5.Cm (Q:=Rk b (addW W n)) ⟨I,mb,d,i,_,u,rfl⟩
 exact⟨E,rfl,Hp.BN (L:=[_]) H6⟩
theorem xDrop_spec(h:(Ak f b W).ok w)(k:Nat)(n:ByteArray)(r:W[k]? =some n)(s:n≠none0):Calls Tryz.prog 99 #[.pointer (some ⟨b,0,none⟩),.int .i64 ((k:Int)+1)] w fun e w'=>∃t,e=.returned (.bool true)/\Hp f w w' [Ak t b (JP W k)]:=by
 apply xDrop.ok;unfold xDrop.vc;have H0:Hp f w w [Ak f b W]:=BZ h;have x:=(List.getElem?_eq_some_iff.1 r).1
 have hl:W.length<=4000:=by
  obtain⟨L,⟨O,_⟩,_⟩:=EJ h;exact O.len
 have S:atW W ((k:Int)+1)=n:=by
  rw[atW,if_neg (by omega),show((k:Int)+1).toNat-1=k by omega,r];rfl
 have y:useW n=1:=by rw[useW,if_neg s]
 have A:=Xn h ((k:Int)+1) (by omega);rw[S,y]at A;refine AC A ?_;rintro _ w1 ⟨rfl,H1⟩;obtain⟨M,⟨O,mb,a,c,al,hN,rfl⟩,H,hf⟩:=(H0.ext0 H1).unpack;refine⟨_,_,rfl,fun xb w2 T=>?_⟩;have H2:=H.nw T;refine Hp.sA H2 KY (cs':=[.string n,.int .i64 1]) fun w3 B=>?_;clear H H0 H1 H2;refine⟨1,B.lo yInt,AB (fun U=>by omega) (fun _=>?_)⟩;have X:Own w3 0 167 2 a W.length c (Ai W):=B.ownA m2;obtain⟨g,p⟩:=X.CE (by omega);have hu:=Fj r;rw[y]at hu;refine AA rfl ⟨a,W.length,c,B.lo kSW,iR,AA p ⟨⟨by omega,by omega⟩,1,?_,by exact iR,AA p ⟨⟨by omega,by omega⟩,?_⟩⟩⟩
 ·rw[add_add,show((k:Int)+1-1).toNat=k by omega]
  exact X.cells.ld yInt p hu
 rw[add_add,show((k:Int)+1-1).toNat=k by omega];refine Hp.stO1 (o:=k*2+1) B.BA EQ4 yInt p rfl rfl (by rw[Es];omega) fun w4 C=>?_;clear B X;refine⟨1,C.lo yInt,AB (fun U=>by omega) (fun _=>?_)⟩;refine AA rfl ⟨some mb,by rw[add_lit];exact C.lo kMSI,n,C.lo yStr,?_⟩;refine Hp.delS Ho rfl C.D7 EQ4 fun w5 Y=>?_;clear C;refine AA rfl ⟨a,W.length,c,Y.lo kSW,iR,AA p ⟨⟨by omega,by omega⟩,?_⟩⟩
 have Z:over [Value.string none0,.int .i64 0] (k*2) ((Ai W).set (k*2+1) (.int .i64 (1-1)))=Ai (W.set k none0):=by
  rw[<- MQ W k none0 x];have e0:useW none0=0:=rfl
  have aa:∀(xs:List Value)(i:Nat)(u v z:Value),((xs.set (i+1) u).set i v).set (i+1) z=(xs.set i v).set (i+1) z:=fun xs i u v z=>by rw[List.set_comm u v (by omega),List.set_set]
  have ak:=Es W;rw[e0,DV _ _ _ _ (by rw[length_set];omega),DV _ _ _ _ (by rw[length_set,length_set];omega),DV _ _ _ _ (by omega),DV _ _ _ _ (by rw[length_set];omega),CO,CO,aa]
 refine Hp.stO (v:=.agg #[.string none0,.int .i64 0]) (o:=k*2) Y.Af EQ4 p KY.size rfl (by rw[length_set,Es];simp[Value.cells];omega) (xs':=Ai (W.set k none0)) Z fun w6 H6=>?_;clear Y;obtain⟨V,hV⟩:∃V,V=W.set k none0:=⟨_,rfl⟩
 have E:V.length=W.length:=by rw[hV,length_set]
 obtain⟨D,hD⟩:∃D,D=JP W k:=⟨_,rfl⟩
 have ab:La V.length V=D:=by rw[hD,JP,hV,length_set]
 rw[<- hV,<- E]at H6;have G:=hN.drop O r s;have I:=O.drop x;rw[<- hD]at G I⊢;refine AP.mk (fun q _ w'=>∃(j c:Nat),q=j/\j<=V.length/\La j V=D/\Hp f w w' (.blk b [.slice a j c,.map (some mb)] 150::.own 167 2 a j c (Ai (V.take j))::.smap mb (adel al n)::[.blk xb [.string n,.int .i64 1] 167])) V.length ⟨V.length,c,rfl,Nat.le_refl _,ab,?_⟩ ?_
 ·rw[take_length]
  refine H6.perm ?_;refine AL fun ff gg h0 hc ha am=>?_;simp only[E,ha,hc,h0,append_eq,append_nil,nil_append];omega
 clear H6;rintro q _ J nx ⟨j,c,hq,hj,l,P⟩ ac
 have done:D=V.take j->∃t,Ending.returned (.bool true)=.returned (.bool true)/\Hp f w J.drew [Ak t b D]:=fun e=>by
  have ad:D.length=j:=by rw[e,length_take];omega
  have R:Hp f w J.drew (JD b mb a c D (adel al n)++[.blk xb [.string n,.int .i64 1] 167]):=by
   rw[JD,ad,e];exact P.drew
  obtain⟨t,H9⟩:=R.Cm (Q:=Rk b D) ⟨I,mb,a,c,_,G,rfl⟩;exact⟨t,rfl,Hp.BN (L:=[_]) H9⟩
 have m:∀{W':World},Eqw J W'->Ld Tryz.prog 148 W' ⟨b,0,none⟩ (.slice a j c):=fun he=>P.ld (o:=0) (cs:=[.slice a j c,.map (some mb)]) he kSW (.head _) rfl;refine AA rfl ⟨a,j,c,m EQ4,AB (fun U=>?_) (fun U=>?_)⟩
 ·obtain⟨d,rfl⟩:∃d,j=d+1:=⟨j-1,by omega⟩
  have hx:V[d]? =some V[d]:=List.getElem?_eq_getElem (by omega)
  have ae:(V.take (d+1))[d]? =some V[d]:=by rw[List.getElem?_take_of_lt (by omega)];exact hx
  have K:Own J 0 167 2 a (d+1) c (Ai (V.take (d+1))):=P.ownA m1;have af:Cells J.drew a (Ai (V.take (d+1))):=K.cells;have an:=K.le
  have e1:(((d+1:Nat):Int)-1).toNat=d:=by omega
  refine AA rfl ⟨a,d+1,c,m EQ4,AA rfl ⟨a,d+1,c,m EQ4,iR,AA p ⟨⟨by omega,by omega⟩,useW V[d],?_,AB (fun h2=>?_) (fun h2=>?_)⟩⟩⟩
  ·rw[add_add,e1];exact af.ld yInt p (Fj ae)
  ·have h3:=(JF _).1 h2
   rw[La,hx]at l;dsimp only at l;rw[if_pos h3]at l;refine AA rfl ⟨a,d+1,c,m EQ4,AA rfl ⟨a,d+1,c,m EQ4,iR,AA rfl ⟨a,d+1,c,m EQ4,iR,⟨by omega,by omega,by omega⟩,AA rfl ?_⟩⟩⟩;rw[e1];refine Hp.s1 P.drew.drew kSW (cs':=[.slice a d d,.map (some mb)]) fun w8 R=>?_;have ag:Own w8 0 167 2 a (d+1) c (Ai (V.take (d+1))):=R.ownA m1;have N:=ag.only (F:=d) (by omega)
   have e2:(Ai (V.take (d+1))).take (d*2)=Ai (V.take d):=by
    rw[take_succ_eq_append_getElem (by omega),Jg]
    have:(Ai (V.take d)).length=d*2:=by rw[Es,length_take];omega
    rw[<- this,List.take_left]
   rw[e2]at N;refine ac d _ _ (by omega) ⟨d,d,rfl,by omega,l,?_⟩;exact(Hp.set (a':=.own 167 2 a d d (Ai (V.take d))) R.Af (Chg.refl _ _) N fun k r=>.inl r).Af
  ·refine done ?_
   rw[La,hx]at l;dsimp only at l;rw[if_neg (fun h=>h2 ((JF _).2 h))]at l;exact l.symm
 ·have ah:j=0:=by omega
  subst ah;rw[La]at l;exact done (by rw[<- l];simp)
end
end
noncomputable section
open Go Go.Vc Go.Nod
theorem DX.go{S b:List Nat}{w w':World}{L:List Asn}{a:Option Addr}{n:Nat}{l:List It}{ss:List Sl3}(h:DX S w a n l ss)(H:Hp S w w' L)(c:∀k∈b,k∈feet L):DX b w' a n l ss:=
 ⟨fun W d=>h.rd W (H.chgT (d.more c)),h.len,h.sls,h.small⟩
def opC(o:OpP)(la:Option Addr)(n lc:Nat):List Value:=[.int .i64 o.kind,.int .i64 o.id,.int .i64 o.to,.int .i64 o.at_,.string o.name,.string o.text,.slice la n lc]
theorem nEdit_spec{f:List Nat}{b:Nat}{T:Tr}{w:World}(h:(AU f b T).ok w)(o:OpP)(g:Option Addr)(n m:Nat)(ss:List Sl3)(K:DX f w g n o.l ss)(y:n<=140737488355328)(J:o.text.size<=maxLen):
  Calls Tryz.prog 54 #[.pointer (some ⟨b,0,none⟩),.agg (opC o g n m).toArray] w fun e w'=>∃c,e=.returned (.tuple #[.int .i64 (T.edit o).2.1,.int .i64 (T.edit o).2.2])/\Hp f w w' [AU c b (T.edit o).1]:=by
 apply nEdit.ok;unfold nEdit.vc;have L:Hp f w w [AU f b T]:=BZ h;intro E A F;have H:=L.new (cs:=opC o g n m) EQ4 F;have B:DX f A g n o.l ss:=K.go H fun k M=>DY.2 ⟨AU f b T,.tail _ (.head _),M⟩;have p:=H.drop;have d:(AU f b T).ok A:=p.ok _ (.head _);have a:∀{j:Nat}{z:Int},(opC o g n m)[j]? =some (.int .i64 z)->Ld Tryz.prog 3 A ⟨E,j,none⟩ (.int .i64 z):=fun G=>H.ld (cs:=opC o g n m) EQ4 yInt (.head _) G;have q:∀{j:Nat}{z:ByteArray},(opC o g n m)[j]? =some (.string z)->Ld Tryz.prog 9 A ⟨E,j,none⟩ (.string z):=fun G=>H.ld (cs:=opC o g n m) EQ4 yStr (.head _) G;have ldL:Ld Tryz.prog 34 A ⟨E,6,none⟩ (.slice g n m):=H.lo nSIt;refine⟨o.kind,a rfl,AB (fun r=>?_) (fun r=>AB (fun s=>?_) (fun s=>AB (fun t=>?_) (fun t=>AB (fun u=>?_) (fun u=>AB (fun C=>?_) (fun C=>AB (fun D=>?_) (fun D=>AB (fun I=>?_) (fun I=>?_)))))))⟩
 ·have e:T.edit o=T.load o.l:=by rw[Tr.edit,if_pos r]
  refine⟨g,n,m,ldL,AC (gLoad_spec d g n m o.l ss B) ?_⟩;rintro _ x ⟨c,rfl,i⟩;exact⟨_,_,rfl,c,by rw[e],by rw[e];exact p.BX i⟩
 ·have e:T.edit o=T.insert o.id o.at_ o.l:=by rw[Tr.edit,if_neg r,if_pos s]
  refine⟨o.id,a rfl,o.at_,a rfl,g,n,m,ldL,AC (gInsert_spec d o.id o.at_ g n m o.l ss B y) ?_⟩;rintro _ x ⟨c,rfl,i⟩;exact⟨_,_,rfl,c,by rw[e],by rw[e];exact p.BX i⟩
 ·have e:T.edit o=((T.delete o.id).1,0,(T.delete o.id).2):=by rw[Tr.edit,if_neg r,if_neg s,if_pos t]
  refine⟨o.id,a rfl,AC (gDelete_spec d o.id) ?_⟩;rintro _ x ⟨c,rfl,i⟩;exact⟨_,rfl,c,by rw[e],by rw[e];exact p.BX i⟩
 ·have e:T.edit o=((T.move o.id o.to o.at_).1,0,(T.move o.id o.to o.at_).2):=by rw[Tr.edit,if_neg r,if_neg s,if_neg t,if_pos u]
  refine⟨o.id,a rfl,o.to,a rfl,o.at_,a rfl,AC (gMove_spec d o.id o.to o.at_) ?_⟩;rintro _ x ⟨c,rfl,i⟩;exact⟨_,rfl,c,by rw[e],by rw[e];exact p.BX i⟩
 ·have e:T.edit o=((T.Dj o.id (o.name,o.text)).1,0,(T.Dj o.id (o.name,o.text)).2):=by rw[Tr.edit,if_neg r,if_neg s,if_neg t,if_neg u,if_pos C]
  refine⟨o.id,a rfl,o.name,q rfl,o.text,q rfl,AC (gSetAttr_spec d o.id o.name o.text J) ?_⟩;rintro _ x ⟨c,rfl,i⟩;exact⟨_,rfl,c,by rw[e],by rw[e];exact p.BX i⟩
 ·have e:T.edit o=((T.EP o.id o.name).1,0,(T.EP o.id o.name).2):=by rw[Tr.edit,if_neg r,if_neg s,if_neg t,if_neg u,if_neg C,if_pos D]
  refine⟨o.id,a rfl,o.name,q rfl,AC (gDelAttr_spec d o.id o.name) ?_⟩;rintro _ x ⟨c,rfl,i⟩;exact⟨_,rfl,c,by rw[e],by rw[e];exact p.BX i⟩
 ·have e:T.edit o=((T.Ee o.id o.text).1,0,(T.Ee o.id o.text).2):=by rw[Tr.edit,if_neg r,if_neg s,if_neg t,if_neg u,if_neg C,if_neg D,if_pos I]
  refine⟨o.id,a rfl,o.text,q rfl,AC (gSetText_spec d o.id o.text J) ?_⟩;rintro _ x ⟨c,rfl,i⟩;exact⟨_,rfl,c,by rw[e],by rw[e];exact p.BX i⟩
 ·have e:T.edit o=(T,0,1):=by rw[Tr.edit,if_neg r,if_neg s,if_neg t,if_neg u,if_neg C,if_neg D,if_neg I]
  exact⟨f,by rw[e],by rw[e];exact p⟩
def Dk(s:ByteArray):ByteArray:=if s=none0 then none0 else if sb s 0=119 then s.extract 0 (min s.size 3)else if sb s 0=110 then s.extract 0 (min s.size 6)else s.extract 0 1
theorem PQ(s:ByteArray)(w:World):Calls Tryz.prog 113 #[.string s] w fun e w'=>e=.returned (.string (Dk s))/\w'=w:=by
 apply nAbout.ok;unfold nAbout.vc;refine AB (fun h=>⟨by rw[Dk,if_pos h],rfl⟩) (fun h=>?_);have c:0<s.size:=Nat.pos_of_ne_zero fun e=>h (Il.2 (List.eq_nil_of_length_eq_zero (by rw[CU];exact e)));refine⟨⟨by omega,by omega⟩,AB (fun a=>⟨⟨by omega,by omega⟩,?_,rfl⟩) (fun a=>⟨⟨by omega,by omega⟩,AB (fun b=>⟨⟨by omega,by omega⟩,?_,rfl⟩) (fun b=>⟨⟨by omega,by omega⟩,?_,rfl⟩)⟩)⟩
 ·rw[Dk,if_neg h,if_pos a,show(min (s.size:Int) 3).toNat=min s.size 3 by omega]
 ·rw[Dk,if_neg h,if_neg a,if_pos b,show(min (s.size:Int) 6).toNat=min s.size 6 by omega]
 ·rw[Dk,if_neg h,if_neg a,if_neg b];rfl
end
end Go.Proofs.YtljenkbpnioipaaGreat
namespace Go.Nod
abbrev SM:=List (Int×Sp)
def sget:SM->Int->Option Sp
 | [],_=>none
 |(x,s)::r,k=>if k=x then some s else sget r k
def sput:SM->Int->Sp->SM
 | [],k,v=>[(k,v)]
 |(x,s)::r,k,v=>if k=x then(x,v)::r else(x,s)::sput r k v
def sdel:SM->Int->SM
 | [],_=>[]
 |(x,s)::r,k=>if k=x then r else(x,s)::sdel r k
theorem sput_keys:∀(l:SM)(k:Int)(v:Sp),(sput l k v).map (·.1)=if k∈l.map (·.1)then l.map (·.1)else l.map (·.1)++[k]
 | [],k,v=>rfl
 |(y,u)::r,k,v=>by
  have b:=sput_keys r k v;rw[sput];by_cases h:k=y
  ·rw[if_pos h,if_pos (by rw[h];exact .head _)];rfl
  ·rw[if_neg h,map_cons,b,map_cons]
   by_cases a:k∈r.map (·.1)
   ·rw[if_pos a,if_pos (.tail _ a)]
   ·rw[if_neg a,if_neg fun c=>(mem_cons.1 c).elim h a];rfl
theorem sdel_keys:∀(l:SM)(k:Int),((sdel l k).map (·.1)).Sublist (l.map (·.1))
 | [],k=>.slnil
 |(y,u)::r,k=>by
  rw[sdel];by_cases h:k=y
  ·rw[if_pos h];exact List.sublist_cons_self _ _
  ·rw[if_neg h];exact(sdel_keys r k).cons_cons _
abbrev Bd:=Int×Bool
def atB(s:SM)(b:Bd):Int:=match sget s b.1 with
 |none=> -1
 |some x=>if b.2 then x.2 else x.1
def layB(s:SM)(b:Bd)(n:Int):SM:=sput s b.1 (if b.2 then(((sget s b.1).getD (0,0)).1,n)else(n,((sget s b.1).getD (0,0)).2))
end Go.Nod
namespace Go.Proofs.YtljenkbpnioipaaGreat
noncomputable section
open Go Go.Vc Go.Nod
def spV(s:Sp):Value:=.agg #[.int .i64 s.1,.int .i64 s.2]
def smC(l:SM):List (Int×Value):=l.map fun p=>(p.1,spV p.2)
theorem Nr:∀(l:SM)(k:Int),aget (smC l) k=(sget l k).map spV
 | [],k=>rfl
 |(x,s)::r,k=>by
  have a:=Nr r k;rw[sget];show(if k=x then some (spV s)else aget (smC r) k)=_;by_cases h:k=x
  ·rw[if_pos h,if_pos h];rfl
  ·rw[if_neg h,if_neg h,a]
theorem LM:∀(l:SM)(k:Int)(v:Sp),aput (smC l) k (spV v)=smC (sput l k v)
 | [],k,v=>rfl
 |(x,s)::r,k,v=>by
  have a:=LM r k v;rw[sput];show(if k=x then(x,spV v)::smC r else(x,spV s)::aput (smC r) k (spV v))=_;by_cases h:k=x
  ·rw[if_pos h,if_pos h];rfl
  ·rw[if_neg h,if_neg h,a];rfl
theorem ZW:∀(l:SM)(k:Int),adel (smC l) k=smC (sdel l k)
 | [],k=>rfl
 |(x,s)::r,k=>by
  have a:=ZW r k;rw[sdel];show(if k=x then smC r else(x,spV s)::adel (smC r) k)=_;by_cases h:k=x
  ·rw[if_pos h,if_pos h]
  ·rw[if_neg h,if_neg h,a];rfl
theorem Ig:MapT Tryz.prog (CZ .i64) 80 3 62 (.agg #[.int .i64 0,.int .i64 0]):=⟨by kernel_rfl,by kernel_rfl,by kernel_rfl⟩
theorem Y5:Agg Tryz.prog 248 2:=Cb (by kernel_rfl)
theorem Yj:Scl Tryz.prog 4:=BH (by kernel_rfl)
def bdV(b:Bd):Value:=.agg #[.int .i64 b.1,.bool b.2]
theorem XX(mb:Nat)(s:SM)(d:Bd)(w:World)(h:MapAt (CZ .i64) w mb (smC s)):Calls Tryz.prog 161 #[.map (some mb),bdV d] w fun e w'=>e=.returned (.int .i64 (atB s d))/\Hp [] w w' []:=by
 apply nAt.ok;unfold nAt.vc;have q:mb<w.heap.size:=h.lt;intro r m f;have H:=(Hp.start w).nw f;have n:MapAt (CZ .i64) m mb (smC s):=h.chg H.chg (by simp);have l:=Nr s d.1;obtain⟨z,g⟩:∃z:Sp,z=(sget s d.1).getD (0,0):=⟨_,rfl⟩
 have i:(aget (smC s) d.1).getD (.agg #[.int .i64 0,.int .i64 0])=.agg #[.int .i64 z.1,.int .i64 z.2]:=by
  rw[l,g];cases sget s d.1<;>rfl
 have c:=(Lu Ig n d.1).2;rw[i]at c;refine⟨d.1,H.lo yInt,z.1,z.2,(aget (smC s) d.1).isSome,c,fun t u j=>?_⟩;have o:=H.nw j;refine Hp.sA o GV (cs':=[.int .i64 z.1,.int .i64 z.2]) fun y b=>?_
 have p:(aget (smC s) d.1).isSome=(sget s d.1).isSome:=by rw[l,Option.isSome_map]
 rw[p];refine Fh (fun a=>⟨?_,b.drop.drop⟩) (fun a=>⟨d.2,b.lo Yj,JH (fun k=>⟨z.2,b.lo yInt,?_,b.drop.drop⟩) (fun k=>⟨z.1,b.lo yInt,?_,b.drop.drop⟩)⟩)
 ·rw[atB]
  cases e:sget s d.1 with
  |none=>rfl
  |some x=>rw[e]at a;cases a
 ·rw[atB,g]
  cases e:sget s d.1 with
  |none=>rw[e]at a;cases a
  |some x=>dsimp only;rw[if_pos k];rfl
 ·rw[atB,g]
  cases e:sget s d.1 with
  |none=>rw[e]at a;cases a
  |some x=>dsimp only;rw[if_neg (by rw[k];simp)];rfl
theorem nLay_spec{B:List Nat}{w0:World}{L:List Asn}(mb:Nat)(s:SM)(d:Bd)(n:Int)(w:World)(r:Hp B w0 w (.imap mb .i64 (smC s)::L)):Calls Tryz.prog 163 #[.map (some mb),bdV d,.int .i64 n] w fun e w'=>e=.returned (.tuple #[])/\Hp B w0 w' (.imap mb .i64 (smC (layB s d n))::L):=by
 apply nLay.ok;unfold nLay.vc;intro p C c;have H:=r.nw c;have t:=Nr s d.1;obtain⟨z,f⟩:∃z:Sp,z=(sget s d.1).getD (0,0):=⟨_,rfl⟩
 have g:(aget (smC s) d.1).getD (.agg #[.int .i64 0,.int .i64 0])=.agg #[.int .i64 z.1,.int .i64 z.2]:=by
  rw[t,f];cases sget s d.1<;>rfl
 refine⟨d.1,H.lo yInt,z.1,z.2,H.lkI Ig EQ4 m1 g,fun q D h=>?_⟩;have u:=H.nw h;refine Hp.sA u GV (cs':=[.int .i64 z.1,.int .i64 z.2]) fun E i=>?_;refine⟨d.2,i.lo Yj,JH (fun j=>?_) (fun j=>?_)⟩
 ·refine Hp.s1 i yInt (cs':=[.int .i64 z.1,.int .i64 n]) fun x a=>?_
  refine⟨d.1,a.lo yInt,z.1,n,a.loA GV,?_⟩;refine Hp.mupI Ig a.BA EQ4 fun y b=>⟨rfl,?_⟩
  have e:aput (smC s) d.1 (.agg #[.int .i64 z.1,.int .i64 n])=smC (layB s d n):=by
   have:=LM s d.1 (z.1,n);rw[layB,if_pos j,<- f];exact this
  rw[e]at b
  exact Hp.BN (R:=[.blk q [.int .i64 z.1,.int .i64 n] 62,.blk p [.int .i64 d.1,.bool d.2] 248]) (b.perm (by
   refine AL fun ff A k l m o=>?_
   simp only[m,l,k];omega))
 ·refine Hp.s1 i yInt (cs':=[.int .i64 n,.int .i64 z.2]) fun x a=>?_
  refine⟨d.1,a.lo yInt,n,z.2,a.loA GV,?_⟩;refine Hp.mupI Ig a.BA EQ4 fun y b=>⟨rfl,?_⟩
  have e:aput (smC s) d.1 (.agg #[.int .i64 n,.int .i64 z.2])=smC (layB s d n):=by
   have:=LM s d.1 (n,z.2);rw[layB,if_neg (by rw[j];simp),<- f];exact this
  rw[e]at b
  exact Hp.BN (R:=[.blk q [.int .i64 n,.int .i64 z.2] 62,.blk p [.int .i64 d.1,.bool d.2] 248]) (b.perm (by
   refine AL fun ff A k l m o=>?_
   simp only[m,l,k];omega))
end
end Go.Proofs.YtljenkbpnioipaaGreat
namespace Go.Nod
structure BSt where
 op:List Bd
 out:List Bd
def popB(s:BSt):BSt:=⟨s.op.dropLast,s.out++[s.op.getLastD (0,true)]⟩
def Jl:Nat->BSt->BSt
 |0,s=>s
 |n+1,s=>Jl n (popB s)
def Hm(d:Int)(s:BSt):BSt:=Jl (s.op.length-d.toNat) s
def begB(i:Int)(s:BSt):BSt:=⟨s.op++[(i,true)],s.out++[(i,false)]⟩
def bndS:List It->List Int->BSt->BSt
 | [],_,s=>s
 |x::r,ids,s=>bndS r ids.tail (begB (ids.headD 0) (Hm x.level s))
def Gn(l:List It)(ids:List Int):List Bd:=(Hm 0 (bndS l ids ⟨[],[]⟩)).out
theorem RQ:∀(j:Nat)(s:BSt),Jl (j+1) s=popB (Jl j s)
 |0,s=>rfl
 |j+1,s=>by rw[Jl,RQ j];rfl
theorem KU:∀(n:Nat)(s:BSt),n<=s.op.length->(Jl n s).op=s.op.take (s.op.length-n)/\(Jl n s).out.length=s.out.length+n
 |0,s,_=>by simp[Jl]
 |n+1,s,h=>by
  have a:(popB s).op.length=s.op.length-1:=by rw[popB,List.length_dropLast]
  obtain⟨b,c⟩:=KU n (popB s) (by omega);rw[Jl];refine⟨?_,?_⟩
  ·rw[b,a]
   show(s.op.dropLast).take _=_;rw[dropLast_eq_take,take_take];congr 1;omega
  ·rw[c,popB];simp;omega
theorem VA(x:It)(i:Int):∀(l:List It)(ids:List Int)(s:BSt),ids.length=l.length->bndS (l++[x]) (ids++[i]) s=begB i (Hm x.level (bndS l ids s))
 | [],[],s,_=>rfl
 |y::r,z::ids,s,h=>by
  rw[cons_append,cons_append,bndS,bndS,List.tail_cons,List.headD_cons,List.tail_cons,List.headD_cons];exact VA x i r ids _ (by simpa using h)
structure QF(j:Nat)(s:BSt):Prop where
 len:s.op.length+s.out.length=2*j
 op:s.op.length<=j
theorem QF.shut{j:Nat}{s:BSt}(h:QF j s)(d:Int):QF j (Hm d s):=by
 obtain⟨a,b⟩:=KU (s.op.length-d.toNat) s (by omega);have c:=h.len;have f:=h.op
 have e:(Hm d s).op.length=s.op.length-(s.op.length-d.toNat):=by rw[Hm,a,length_take];omega
 have g:(Hm d s).out.length=s.out.length+(s.op.length-d.toNat):=b;exact⟨by omega,by omega⟩
theorem QF.beg{j:Nat}{s:BSt}(h:QF j s)(i:Int):QF (j+1) (begB i s):=by
 have a:=h.len;have b:=h.op;exact⟨by rw[begB];simp;omega,by rw[begB];simp;omega⟩
theorem Og:∀(l:List It)(ids:List Int)(k:Nat)(s:BSt),QF k s->QF (k+l.length) (bndS l ids s)
 | [],_,k,s,h=>h
 |x::r,ids,k,s,h=>by
  have:=Og r ids.tail (k+1) _ ((h.shut x.level).beg (ids.headD 0));rw[bndS,length_cons,Nat.add_comm r.length,<- Nat.add_assoc];exact this
theorem bounds_len(l:List It)(ids:List Int):(Gn l ids).length<=2*l.length:=by
 have h:=(Og l ids 0 ⟨[],[]⟩ ⟨rfl,by simp⟩).shut 0;have:=h.len;rw[Gn];omega
end Go.Nod
namespace Go.Proofs.YtljenkbpnioipaaGreat
noncomputable section
open Go Go.Vc Go.Nod
def bdC(l:List Bd):List Value:=l.flatMap fun p=>[.int .i64 p.1,.bool p.2]
theorem X8(p:Bd)(r:List Bd):bdC (p::r)=.int .i64 p.1::.bool p.2::bdC r:=rfl
theorem WF(a b:List Bd):bdC (a++b)=bdC a++bdC b:=by simp[bdC]
theorem Yb:∀{l:List Bd}{k:Nat}{p:Bd},l[k]? =some p->((bdC l).drop (k*2)).take 2=[.int .i64 p.1,.bool p.2]
 |x::r,0,p,h=>by simp at h;subst h;rfl
 |x::r,k+1,p,h=>by
  rw[List.getElem?_cons_succ]at h;rw[X8,Nat.succ_mul,drop_succ_cons,drop_succ_cons];exact Yb h
theorem bdC_take(l:List Bd)(k:Nat):(bdC l).take (k*2)=bdC (l.take k):=by
 induction l generalizing k with
 |nil=>simp[bdC]
 |cons p r a=>
  cases k with
  |zero=>simp[bdC]
  |succ k=>rw[X8,Nat.succ_mul,List.take_succ_cons,List.take_succ_cons,a k];rfl
theorem aK:Elt Tryz.prog 185 248 2 16:=CQ (by kernel_rfl)
theorem mSB:Scl Tryz.prog 185:=BH (by kernel_rfl)
theorem aB:Tryz.prog.underlying 185=some (.slice 248):=by kernel_rfl
def bndL(b0 b1:Nat)(oa:Option Addr)(oc:Nat)(ua:Option Addr)(uc:Nat)(s:BSt):List Asn:=
 [.blk b0 [.slice oa s.op.length oc] 185,.own 248 2 oa s.op.length oc (bdC s.op),.blk b1 [.slice ua s.out.length uc] 185,.own 248 2 ua s.out.length uc (bdC s.out)]
theorem LY{B:List Nat}{w0:World}{L:List Asn}(d:Int)(p b1:Nat)(a:Option Addr)(b:Nat)(f:Option Addr)(h:Nat)(s:BSt)(w:World)(Q:0<=d)(aa:s.op.length<=100000)(ab:s.out.length<=100000)(H:Hp B w0 w (bndL p b1 a b f h s++L)):
  Calls Tryz.prog 164 #[.int .i64 d,.pointer (some ⟨p,0,none⟩),.pointer (some ⟨b1,0,none⟩)] w fun e w'=>∃i l X,e=.returned (.tuple #[])/\Hp B w0 w' (bndL p b1 a b i l (Hm d s)++(X++L)):=by
 apply nBounds1.ok;unfold nBounds1.vc;refine AP.mk (fun m _ w'=>∃(j:Nat)(i:Option Addr)(l:Nat)(X:List Asn),m=s.op.length-j/\j<=s.op.length-d.toNat/\Hp B w0 w' (bndL p b1 a b i l (Jl j s)++(X++L))) s.op.length ⟨0,f,h,[],rfl,by omega,H⟩ ?_;clear H;rintro m _ A nx ⟨j,f,h,X,rfl,hj,H⟩ E;obtain⟨R,f2⟩:=KU j s (by omega);obtain⟨s1,n⟩:∃s1,s1=Jl j s:=⟨_,rfl⟩;rw[<- n]at H R f2
 have ac:s1.op.length=s.op.length-j:=by rw[R,length_take];omega
 have ldO:∀{W:World},Eqw A W->Ld Tryz.prog 185 W ⟨p,0,none⟩ (.slice a s1.op.length b):=fun G=>H.ld (o:=0) (cs:=[.slice a s1.op.length b]) G mSB (.head _) rfl;have q:∀{W:World},Eqw A W->Ld Tryz.prog 185 W ⟨b1,0,none⟩ (.slice f s1.out.length h):=fun G=>H.ld (o:=0) (cs:=[.slice f s1.out.length h]) G mSB m2 rfl;refine⟨a,s1.op.length,b,AA rfl (ldO EQ4),AB (fun h1=>?_) (fun h1=>?_)⟩
 ·have r:0<s1.op.length:=by omega
  obtain⟨z,S⟩:∃z,s1.op[s1.op.length-1]? =some z:=⟨_,List.getElem?_eq_getElem (by omega)⟩
  have I:z=s1.op.getLastD (0,true):=by
   rw[List.getLastD_eq_getLast?,List.getLast?_eq_getElem?,S];rfl
  have c:Own A 0 248 2 a s1.op.length b (bdC s1.op):=H.ownA m1;have t:Cells A.drew a (bdC s1.op):=c.cells;obtain⟨g,T⟩:=c.CE r
  have U:Int.toNat ((s1.op.length:Int)-1)=s1.op.length-1:=by omega
  refine⟨f,s1.out.length,h,AA rfl (q EQ4),a,s1.op.length,b,AA rfl (ldO EQ4),a,s1.op.length,b,AA rfl (ldO EQ4),iR,AA T ⟨⟨by omega,by omega⟩,z.1,z.2,by rw[U];exact t.ldA Y5 T (Yb S) rfl,fun xb w2 J=>?_⟩⟩;have C:=H.drew.nw J;clear ldO q c t;refine⟨AA rfl (C.lo mSB),?_⟩;refine Hp.app aK (by omega) C.II EQ4 (Blk.src (P:=Tryz.prog) aB (C.blk (.head _)) rfl rfl) (by simp only[maxLen];omega) (by omega) ?_;intro u x w3 Y;refine AA rfl (Hp.s1 Y.II mSB (cs':=[.slice u (s1.out.length+1) x]) fun Z K=>?_);clear H C Y;have ldO:Ld Tryz.prog 185 Z ⟨p,0,none⟩ (.slice a s1.op.length b):=K.lo mSB;have c:Own Z 0 248 2 a s1.op.length b (bdC s1.op):=K.ownA m4;have ad:=c.le;refine⟨a,s1.op.length,b,AA rfl ldO,a,s1.op.length,b,AA rfl ldO,iR,⟨by omega,by omega⟩,AA rfl ?_⟩;rw[U];refine Hp.s1 K.D7 mSB (cs':=[.slice a (s1.op.length-1) b]) fun w5 H5=>?_;have y:Own w5 0 248 2 a s1.op.length b (bdC s1.op):=H5.ownA m4;have D:=y.keep (F:=s1.op.length-1) (by omega);have e2:(bdC s1.op).take ((s1.op.length-1)*2)=bdC (s1.op.take (s1.op.length-1)):=bdC_take _ _;rw[e2]at D;have H6:=Hp.set (a':=.own 248 2 a (s1.op.length-1) b (bdC (s1.op.take (s1.op.length-1)))) H5.II (Chg.refl _ _) D fun k D=>.inl D
  have M:Jl (j+1) s=popB s1:=by rw[n,RQ]
  have N:popB s1=⟨s1.op.take (s1.op.length-1),s1.out++[z]⟩:=by rw[popB,dropLast_eq_take,I]
  refine E (s.op.length-(j+1)) _ _ (by omega) ⟨j+1,u,x,.blk xb [.int .i64 z.1,.bool z.2] 248::X,rfl,by omega,?_⟩;rw[M,N];refine H6.perm ?_
  have e3:(s1.op.take (s1.op.length-1)).length=s1.op.length-1:=by rw[length_take];omega
  have e4:(s1.out++[z]).length=s1.out.length+1:=by simp
  have e5:bdC (s1.out++[z])=bdC s1.out++[.int .i64 z.1,.bool z.2]:=by rw[WF];rfl
  refine AL fun ff gg Q hc ha ae=>?_;simp only[bndL,e3,e4,e5,ha,hc,Q,append_eq,nil_append];omega
 ·have O:j=s.op.length-d.toNat:=by omega
  refine⟨f,h,X,rfl,?_⟩;rw[Hm,<- O,<- n];exact H
end
noncomputable section
open Go Go.Vc Go.Nod
theorem nBounds_spec(la:Option Addr)(n lc:Nat)(l:List It)(ss:List Sl3)(za:Option Addr)(zc:Nat)(ids:List Int)(w:World)(hA:DX [] w la n l ss)(hz:Cells w za (AO ids))(ap:ids.length=n)(hn:n<=10000)(D:∀x∈l,0<=x.level):
  Calls Tryz.prog 105 #[.slice la n lc,.slice za n zc] w fun e w'=>∃a c,e=.returned (.slice a (Gn l ids).length c)/\Hp [] w w' [.own 248 2 a (Gn l ids).length c (bdC (Gn l ids))]:=by
 apply nBounds.ok;unfold nBounds.vc;have am:=hA.now.len;intro E w1 F;have H1:=(Hp.start w).nw F;intro G w2 I;have H2:=((H1.nw I).nilS 248 2).nilS 248 2;clear H1 F I;refine AP.mk (fun m s w'=>∃(j:Nat)(o:Option Addr)(p:Nat)(J:Option Addr)(K:Nat)(X:List Asn),m=n-j/\j<=n/\s=(j:Int)/\Hp [] w w' (bndL G E o p J K (bndS (l.take j) (ids.take j) ⟨[],[]⟩)++X)) n ⟨0,none,0,none,0,[],rfl,by omega,rfl,H2.perm ?_⟩ ?_
 ·refine AL fun ff gg u y z A=>?_
  have L:bdC []=[]:=rfl;simp only[bndL,take_zero,bndS,L,length_nil,z,y,u];omega
 clear H2;rintro m s w3 nx ⟨j,o,p,J,K,X,rfl,hj,rfl,H⟩ aa;have M:=Og (l.take j) (ids.take j) 0 ⟨[],[]⟩ ⟨rfl,by simp⟩
 have ab:(l.take j).length=j:=by rw[length_take];omega
 rw[ab,Nat.zero_add]at M;obtain⟨s,hs⟩:∃s,s=bndS (l.take j) (ids.take j) ⟨[],[]⟩:=⟨_,rfl⟩;rw[<- hs]at H M;have aq:=M.len;have ar:=M.op;refine AB (fun h1=>?_) (fun h1=>?_)
 ·have ac:j<l.length:=by omega
  have hI:=hA.rd w3 H.chg;obtain⟨x,sl,hx,ae,av⟩:=hI.at_ (k:=j) (by omega);obtain⟨ad,af,ag⟩:=hI.some hx ae;refine AA af ⟨⟨by omega,h1⟩,x.level,x.x.kind,x.x.name,x.x.text,sl.1,sl.2.1,sl.2.2,by rw[Int.toNat_natCast];exact ag,?_⟩;intro xb w4 N;have H4:=H.nw N;refine Hp.sA H4 Dh (cs':=itC x sl) fun w5 H5=>?_;clear H4 N H;refine⟨x.level,H5.lo yInt,?_⟩;have ah:=D x (mem_of_getElem? hx)
  have H6:Hp [] w w5 (bndL G E o p J K s++(.blk xb (itC x sl) 123::X)):=H5.perm (by
   refine AL fun ff gg u y z A=>?_
   simp only[z,y,u];omega)
  clear H5;refine AC (LY x.level G E o p J K s w5 ah (by omega) (by omega) H6) ?_;rintro _ w6 ⟨b,d,X2,rfl,q⟩;clear H6;have B:=M.shut x.level;obtain⟨t,ht⟩:∃t,t=Hm x.level s:=⟨_,rfl⟩;rw[<- ht]at q B;have an:=B.len;have ao:=B.op;obtain⟨i,hi⟩:∃i,ids[j]? =some i:=⟨_,List.getElem?_eq_getElem (by omega)⟩
  have C:(AO ids)[j]? =some (.int .i64 i):=by simp[AO,hi]
  obtain⟨aw,f,_⟩:=hz _ _ C;refine⟨rfl,b,t.out.length,d,q.lo mSB,AA f ⟨⟨by omega,by omega⟩,i,?_,?_⟩⟩
  ·rw[Int.toNat_natCast,Nat.mul_one]
   exact(hz.chg (w':=w6.drew) q.chg (by simp)).ld yInt f C
  intro yb w7 O;have Z:=q.drew.nw O;clear q O;refine⟨Z.lo mSB,?_⟩;refine Hp.app aK (by omega) Z.II EQ4 (Blk.src (P:=Tryz.prog) aB (Z.blk (.head _)) rfl rfl) (by simp only[maxLen];omega) (by omega) ?_;intro Q S w8 H9;refine Hp.s1 H9.II mSB (cs':=[.slice Q (t.out.length+1) S]) fun w9 g=>?_;clear Z H9;refine⟨o,t.op.length,p,g.lo mSB,AA f ⟨⟨by omega,by omega⟩,i,?_,?_⟩⟩
  ·rw[Int.toNat_natCast,Nat.mul_one]
   exact(hz.chg (w':=w9.drew) g.chg (by simp)).ld yInt f C
  intro vb a0 r;have h:=g.drew.nw r;clear g r;refine⟨h.lo mSB,?_⟩;refine Hp.app aK (by omega) h.Zc EQ4 (Blk.src (P:=Tryz.prog) aB (h.blk (.head _)) rfl rfl) (by simp only[maxLen];omega) (by omega) ?_;intro T U a1 Y;refine Hp.s1 Y.Zc mSB (cs':=[.slice T (t.op.length+1) U]) fun a2 ak=>⟨iR,?_⟩;clear h Y;refine aa (n-(j+1)) _ _ (by omega) ⟨j+1,T,U,Q,S,.blk vb [.int .i64 i,.bool true] 248::.blk yb [.int .i64 i,.bool false] 248::(X2++(.blk xb (itC x sl) 123::X)),rfl,by omega,rfl,ak.perm ?_⟩
  have L:bndS (l.take (j+1)) (ids.take (j+1)) ⟨[],[]⟩=begB i t:=by
   rw[take_succ_eq_append_getElem ac,(List.getElem?_eq_some_iff.1 hx).2,take_succ_eq_append_getElem (by omega),(List.getElem?_eq_some_iff.1 hi).2,VA _ _ _ _ _ (by rw[length_take,length_take];omega),<- hs,<- ht]
  have e2:bdC (t.op++[(i,true)])=bdC t.op++[.int .i64 i,.bool true]:=by rw[WF];rfl
  have e3:(t.op++[(i,true)]).length=t.op.length+1:=by simp
  have e4:bdC (t.out++[(i,false)])=bdC t.out++[.int .i64 i,.bool false]:=by rw[WF];rfl
  have e5:(t.out++[(i,false)]).length=t.out.length+1:=by simp
  rw[L];refine AL fun ff gg u y z A=>?_;simp only[bndL,begB,e2,e3,e4,e5,z,y,u,append_eq,nil_append];omega
 ·have al:j=n:=by omega
  subst al;refine AC (LY 0 G E o p J K s w3 (by omega) (by omega) (by omega) H) ?_;rintro _ w6 ⟨b,d,X2,rfl,q⟩
  have L:Gn l ids=(Hm 0 s).out:=by
   rw[Gn,hs,take_of_length_le (by omega),take_of_length_le (by omega)]
  rw[L];refine⟨rfl,b,_,d,q.lo mSB,b,d,rfl,?_⟩;refine Hp.BN (R:=[.blk G [.slice o (Hm 0 s).op.length p] 185,.own 248 2 o (Hm 0 s).op.length p (bdC (Hm 0 s).op),.blk E [.slice b (Hm 0 s).out.length d] 185]++(X2++X)) (q.perm ?_);refine AL fun ff gg u y z A=>?_;simp only[bndL,z,y,u];omega
end
end Go.Proofs.YtljenkbpnioipaaGreat
namespace Go.Nod
def JA(old:SM):List Bd->SM->SM
 | [],s=>s
 |b::r,s=>JA old r (if 0<=atB old b then sput s b.1 ((sget old b.1).getD (0,0))else s)
def layAll:SM->List Bd->List Int->SM
 |s,b::bs,n::ns=>layAll (layB s b n) bs ns
 |s,_,_=>s
def Sr(l:List Bd)(old:SM)(k:Nat):Int:=match l[k]? with
 |some b=>atB old b
 |none=>4611686018427387904
noncomputable def IA(l:List Bd)(old:SM):Nat->Nat->Int->Nat->SM->Option SM
 |0,_,_,_,s=>some s
 |n+1,k,low,from_,s=>
  if Sr l old k<0 then IA l old n (k+1) low from_ s
  else match betP low (Sr l old k) ((k:Int)-(from_:Int))with
   |none=>none
   |some ns=>IA l old n (k+1) (Sr l old k) (k+1) (layAll s (l.drop from_) ns)
noncomputable def EK(l:List Bd)(old:SM):Option SM:=IA l old (l.length+1) 0 0 0 (JA old l [])
theorem VY(old:SM):∀(a b:List Bd)(s:SM),JA old (a++b) s=JA old b (JA old a s)
 | [],b,s=>rfl
 |x::a,b,s=>by rw[cons_append,JA,JA,VY old a b]
theorem Qd:∀(a:List Int)(n:Int)(s:SM)(bs:List Bd)(b:Bd),bs[a.length]? =some b->layAll s bs (a++[n])=layB (layAll s bs a) b n
 | [],n,s,c::bs,b,h=>by
  rw[length_nil,List.getElem?_cons_zero]at h;cases h;rw[nil_append,layAll];cases bs<;>simp[layAll]
 |m::a,n,s,c::bs,b,h=>by
  rw[length_cons,List.getElem?_cons_succ]at h;rw[cons_append,layAll,layAll];exact Qd a n (layB s c m) bs b h
theorem layAll_nil(s:SM)(bs:List Bd):layAll s bs []=s:=by cases bs<;>rfl
end Go.Nod
namespace Go.Proofs.YtljenkbpnioipaaGreat
noncomputable section
open Go Go.Vc Go.Nod
theorem nSpanned_spec(la:Option Addr)(n lc:Nat)(l:List Bd)(G:Nat)(old:SM)(w:World)(hL:Cells w la (bdC l))(hn:n=l.length)(an:n<=10000)(hO:MapAt (CZ .i64) w G (smC old)):
  Calls Tryz.prog 104 #[.slice la n lc,.map (some G)] w fun e w'=>(EK l old=none/\e=.returned (.tuple #[.map none,.bool false])/\Hp [] w w' [])\/
   ∃s mb,EK l old=some s/\e=.returned (.tuple #[.map (some mb),.bool true])/\Hp [] w w' [.imap mb .i64 (smC s)]:=by
 apply nSpanned.ok;unfold nSpanned.vc;intro mb w1 I;have H1:Hp [] w w1 [.imap mb .i64 (smC [])]:=(Hp.start w).newI EQ4 .i64 I
 have cell:∀{w':World}{L:List Asn}{j:Nat}{d:Bd},Hp [] w w' L->l[j]? =some d->∃E,la=some E/\Ld Tryz.prog 248 w' (E.add (j*2)) (bdV d):=fun{w' L j d} H y=>by
  have hc:Cells w' la (bdC l):=hL.chg H.chg (by simp);have f:=Yb y;obtain⟨E,c⟩:=hc.some (fun e=>by rw[e]at f;simp at f);exact⟨E,c,hc.ldA Y5 c f rfl⟩
 refine AP.mk (fun m s w'=>∃(j:Nat)(X:List Asn),m=n-j/\j<=n/\s=(j:Int)/\Hp [] w w' (.imap mb .i64 (smC (JA old (l.take j) []))::X)) n ⟨0,[],rfl,by omega,rfl,H1⟩ ?_;clear H1 I;rintro m s w2 nx ⟨j,X,rfl,hj,rfl,H⟩ h;refine AB (fun M=>?_) (fun M=>?_)
 ·have N:j<l.length:=by omega
  obtain⟨d,y⟩:∃d,l[j]? =some d:=⟨_,List.getElem?_eq_getElem N⟩;obtain⟨E,c,p⟩:=cell H y;refine AA c ⟨⟨by omega,M⟩,d.1,d.2,by rw[Int.toNat_natCast];exact p,?_⟩;intro xb w3 O;have C:=H.nw O;refine Hp.sA C Y5 (cs':=[.int .i64 d.1,.bool d.2]) fun w4 F=>?_;clear H C O;refine⟨d.1,d.2,F.loA Y5,?_⟩;refine AC (XX G old d w4 (hO.chg F.chg (by simp))) ?_;rintro _ w5 ⟨rfl,A⟩;have H5:=F.ext0 A;clear F A
  have P:JA old (l.take (j+1)) []=if 0<=atB old d then sput (JA old (l.take j) []) d.1 ((sget old d.1).getD (0,0))else JA old (l.take j) []:=by
   rw[take_succ_eq_append_getElem N,(List.getElem?_eq_some_iff.1 y).2,VY];rfl
  have ld0:Ld Tryz.prog 3 w5 ⟨xb,0,none⟩ (.int .i64 d.1):=H5.lo yInt;refine⟨_,rfl,AB (fun f=>?_) (fun f=>⟨iR,?_⟩)⟩
  ·obtain⟨z,hz⟩:∃z:Sp,z=(sget old d.1).getD (0,0):=⟨_,rfl⟩
   have ab:(aget (smC old) d.1).getD (.agg #[.int .i64 0,.int .i64 0])=.agg #[.int .i64 z.1,.int .i64 z.2]:=by
    rw[Nr,hz];cases sget old d.1<;>rfl
   have Q:=(Lu Ig (hO.chg H5.chg (by simp):MapAt (CZ .i64) w5 G (smC old)) d.1).1;rw[ab]at Q;rw[if_pos f,<- hz]at P;refine⟨d.1,ld0,d.1,ld0,z.1,z.2,Q,?_⟩;refine Hp.mupI Ig H5.Af EQ4 fun w6 H6=>⟨iR,h (n-(j+1)) _ _ (by omega) ⟨j+1,.blk xb [.int .i64 d.1,.bool d.2] 248::X,rfl,by omega,rfl,?_⟩⟩;have:=LM (JA old (l.take j) []) d.1 z;rw[P,<- this];exact H6
  ·rw[if_neg f]at P
   refine h (n-(j+1)) _ _ (by omega) ⟨j+1,.blk xb [.int .i64 d.1,.bool d.2] 248::X,rfl,by omega,rfl,?_⟩;rw[P];exact H5.Af
 have ac:j=n:=by omega
 subst ac;rw[take_of_length_le (by omega)]at H;refine AP.mk (fun m s w'=>∃(k b:Nat)(B:Int)(S:SM)(X:List Asn),m=l.length+1-k/\k<=l.length+1/\b<=k/\s=(B,(b:Int),(k:Int))/\EK l old=IA l old (l.length+1-k) k B b S/\Hp [] w w' (.imap mb .i64 (smC S)::X)) (l.length+1) ⟨0,0,0,JA old l [],X,rfl,by omega,by omega,rfl,by rw[EK,Nat.sub_zero],H⟩ ?_;clear H h M;rintro m s w3 nx ⟨k,b,B,S,X,rfl,P,ao,rfl,a,H⟩ h;dsimp only;refine AB (fun M=>?_) (fun M=>?_);rotate_left
 ·have R:k=l.length+1:=by omega
  rw[R,Nat.sub_self,IA]at a;exact .inr ⟨S,mb,a,rfl,Hp.BN (L:=[_]) H⟩
 have R:k<=l.length:=by omega
 have ae:l.length+1-k=(l.length-k)+1:=by omega
 rw[ae,IA]at a;obtain⟨r,hh⟩:∃r,r=Sr l old k:=⟨_,rfl⟩;rw[<- hh]at a;refine Am.mk (fun s1 w'=>∃(u:Nat)(S2:SM)(D:List Asn),u<=k+1/\s1.2=(u:Int)/\EK l old=IA l old (l.length-k) (k+1) s1.1 u S2/\Hp [] w w' (.imap mb .i64 (smC S2)::D)) ?_ ?_
 ·rintro⟨af,f2⟩ w4 ⟨u,S2,D,g1,g2,g3,g4⟩
  dsimp only at g2 g3;subst g2;refine⟨iR,h (l.length+1-(k+1)) _ _ (by omega) ⟨k+1,u,af,S2,D,rfl,by omega,g1,rfl,?_,g4⟩⟩;rw[show l.length+1-(k+1)=l.length-k by omega];exact g3
 intro J hJ;refine Am.mk (fun s1 w'=>s1=r/\Hp [] w w' (.imap mb .i64 (smC S)::X)) ?_ ?_;rotate_left
 ·intro K hK
  refine AB (fun f=>?_) (fun f=>hK _ _ ⟨?_,H⟩)
  ·obtain⟨d,y⟩:∃d,l[k]? =some d:=⟨_,List.getElem?_eq_getElem (by omega)⟩
   obtain⟨E,c,p⟩:=cell H y;refine AA c ⟨⟨by omega,f⟩,d.1,d.2,by rw[Int.toNat_natCast];exact p,?_⟩;refine AC (XX G old d w3 (hO.chg H.chg (by simp))) ?_;rintro _ w5 ⟨rfl,A⟩;refine⟨_,rfl,hK _ _ ⟨?_,H.ext0 A⟩⟩;rw[hh,Sr,y]
  ·rw[hh,Sr,List.getElem?_eq_none (by omega)]
 clear H;rintro s1 w4 ⟨ag,H⟩;subst ag;refine AB (fun f=>?_) (fun f=>⟨iR,?_⟩)
 ·rw[if_pos f]at a
  exact hJ _ _ ⟨b,S,X,by omega,rfl,a,H⟩
 rw[if_neg f]at a;have T:=sBetween_spec B s1 ((k:Int)-(b:Int)) w4 ⟨by omega,by omega⟩
 have ah:((k:Int)-(b:Int)).toNat=k-b:=by omega
 rw[ah]at T;refine AC T ?_;rintro e w5 (⟨hb,rfl,A⟩|⟨g,na,nc,hb,ap,rfl,A⟩)
 ·rw[hb]at a
  exact⟨none,0,0,false,rfl,DR (x:=_) (.inl ⟨a,rfl,Hp.BN (L:=[]) (H.ext0 A)⟩)⟩
 ·rw[hb]at a
  dsimp only at a;have H2:=H.ext1 A;clear H A;refine⟨na,k-b,nc,true,rfl,BG (x:=_) ?_⟩;refine AP.mk (fun q t w'=>∃(i:Nat)(D:List Asn),q=(k-b)-i/\i<=k-b/\t=(i:Int)/\Hp [] w w' (.imap mb .i64 (smC (layAll S (l.drop b) (g.take i)))::.own 3 1 na (k-b) nc (AO g)::D)) (k-b) ⟨0,X,rfl,by omega,rfl,?_⟩ ?_
  ·rw[take_zero,layAll_nil];exact H2.Af
  clear H2;rintro q t w6 aq ⟨i,D,rfl,hi,rfl,C⟩ U;refine AB (fun h3=>?_) (fun h3=>⟨iR,hJ _ _ ⟨k+1,layAll S (l.drop b) g,.own 3 1 na (k-b) nc (AO g)::D,by omega,rfl,a,?_⟩⟩)
  ·have Y:i<g.length:=by omega
   have ak:(AO g)[i]? =some (.int .i64 g[i]):=by simp[AO,Y]
   obtain⟨E,c,p⟩:=C.ldO (w':=w6) (o:=i) EQ4 yInt m1 ak;obtain⟨d,y⟩:∃d,l[b+i]? =some d:=⟨_,List.getElem?_eq_getElem (by omega)⟩;obtain⟨ar,Z,aa⟩:=cell C y;refine AA c ⟨⟨by omega,h3⟩,g[i],by rw[Int.toNat_natCast,Nat.mul_one];exact p,iR,AA Z ⟨⟨by omega,by omega⟩,d.1,d.2,?_,?_⟩⟩
   ·rw[show((b:Int)+(i:Int)).toNat=b+i by omega];exact aa
   refine AC (nLay_spec mb _ d g[i] w6 C) ?_;rintro _ w7 ⟨rfl,F⟩;refine⟨rfl,iR,U (k-b-(i+1)) _ _ (by omega) ⟨i+1,D,rfl,by omega,rfl,?_⟩⟩
   have al:(g.take i).length=i:=by rw[length_take];omega
   rw[take_succ_eq_append_getElem Y,Qd (g.take i) g[i] S (l.drop b) d (by rw[al,List.getElem?_drop];exact y)];exact F
  ·have am:i=g.length:=by omega
   rw[am,take_length]at C;exact C
end
end Go.Proofs.YtljenkbpnioipaaGreat
namespace Go.Nod
def FN:SM->List Int->SM
 |s,[]=>s
 |s,i::r=>FN (sdel s i) r
theorem PO(i:Int):∀(l:List Int)(s:SM),FN s (l++[i])=sdel (FN s l) i
 | [],s=>rfl
 |j::l,s=>by rw[cons_append,FN,FN,PO i l]
def GR:SM->List Int->List Sp->SM
 |m,i::is,s::ss=>GR (sput m i s) is ss
 |m,_,_=>m
theorem Pm(i:Int)(s:Sp):∀(a:List Int)(ss:List Sp)(m:SM),a.length=ss.length->GR m (a++[i]) (ss++[s])=sput (GR m a ss) i s
 | [],[],m,_=>rfl
 |j::a,t::ss,m,h=>by
  rw[cons_append,cons_append,GR,GR];exact Pm i s a ss _ (by simpa using h)
noncomputable def Jp(T:Tr)(old:SM)(moved:List Int):SM:=
 match EK (Gn (T.L.map rowI) (T.L.map (·.id))) (FN old moved)with
 |some s=>s
 |none=>GR [] (T.L.map (·.id)) (KC (T.L.map rowI))
end Go.Nod
namespace Go.Proofs.YtljenkbpnioipaaGreat
noncomputable section
open Go Go.Vc Go.Nod
theorem Wu{x:NX}(c:x.kind=1\/x.kind=2)(h:Ap x=0):RU x:=by
 obtain⟨k,g,i⟩:=Fg h;rcases c with c|c
 ·obtain⟨e,b,f,j⟩:=g c
  refine⟨by have:=e.2.1;simp only[maxLen];omega,by rw[f];simp[maxLen];decide,fun a d=>⟨by have:=(b.1 a d).2.1;simp only[maxLen];omega,?_⟩⟩;have:=(LQ _).1 j a d;rw[BQ]at this;split at this
  ·cases this
  ·split at this
   ·cases this
   ·simp only[maxLen];omega
 ·obtain⟨e,b,f⟩:=i c
  refine⟨by rw[f];decide,?_,fun a d=>by rw[e]at d;cases d⟩;rw[BQ]at b;split at b
  ·cases b
  ·split at b
   ·cases b
   ·simp only[maxLen];omega
theorem ZT{x:NX}(h:Ap x=0):x.kind=1\/x.kind=2:=by
 rw[Ap]at h;split at h
 ·rename_i a;exact .inr a
 ·split at h
  ·rename_i a;exact .inl a.1
  ·cases h
theorem Eh{F:Fo}{T:Tr}(a:BM F T):∀x∈T.L.map rowI,Ap x.x=0:=fun x b=>by
 obtain⟨r,c,rfl⟩:=mem_map.1 b;exact Hq F 0 a.ok r (by rw[a.fl];exact c)
theorem nLabel_spec{f:List Nat}{b:Nat}{T:Tr}{w:World}(h:(AU f b T).ok w)(ob:Nat)(old:SM)(ma:Option Addr)(B mc:Nat)(moved:List Int)(hO:∀W,Chg f w W->MapAt (CZ .i64) W ob (smC old))(hM:∀W,Chg f w W->Cells W ma (AO moved))(a2:B=moved.length)(a3:B<=100000):
  Calls Tryz.prog 58 #[.pointer (some ⟨b,0,none⟩),.map (some ob),.slice ma B mc] w fun e w'=>∃f' mb,e=.returned (.map (some mb))/\Hp f w w' [AU f' b T,.imap mb .i64 (smC (Jp T old moved))]:=by
 apply nLabel.ok;unfold nLabel.vc;have H0:Hp f w w [AU f b T]:=BZ h;obtain⟨F,a4,a5,C,_⟩:=Fq h;have a1:=C.len;refine AC (Qq h) ?_;rintro _ w0 ⟨rfl,ap⟩;obtain rfl:=ap.symm;refine⟨_,rfl,AC (P7 h) ?_⟩;rintro _ w1 ⟨f1,D,Z,g,rfl,E,H1⟩;refine⟨_,_,_,rfl,AC (KG (H1.ok _ (.head _))) ?_⟩;rintro _ w2 ⟨f2,G,zc,rfl,H2⟩;have I:=H1.use1 H2;refine⟨_,_,_,rfl,?_⟩;refine AC (KJ ob (smC old) w2 (hO w2 I.chg)) ?_;rintro _ w3 ⟨n,rfl,aq,aa,ab⟩
 have H4:=I.add (a':=.imap n .i64 (smC old)) ab aa (fun k hk=>by
  have:k=n:=by simpa [Asn.foot]using hk
  omega)
 clear H1 H2 I aa ab;refine⟨some n,rfl,?_⟩;obtain⟨Y,hY⟩:∃Y:List Asn,Y=([AU f2 b T,.own 3 1 G T.L.length zc (AO (T.L.map (·.id)))]++(.own 123 5 D T.L.length Z (itsC (T.L.map AY) g)::Be (T.L.map AY) g)):=⟨_,rfl⟩;rw[<- hY]at H4;refine AP.mk (fun m s w'=>∃j:Nat,m=B-j/\j<=B/\s=(j:Int)/\Hp f w w' (.imap n .i64 (smC (FN old (moved.take j)))::Y)) B ⟨0,rfl,by omega,rfl,by rw[take_zero];exact H4⟩ ?_;clear H4 aq;rintro m s w4 nx ⟨j,rfl,hj,rfl,H⟩ J;refine AB (fun h1=>?_) (fun h1=>?_)
 ·have d:j<moved.length:=by omega
  have ac:(AO moved)[j]? =some (.int .i64 moved[j]):=by simp[AO,d]
  have l:=hM w4 H.chg;obtain⟨ad,q,_⟩:=l _ _ ac;refine AA q ⟨⟨by omega,h1⟩,moved[j],by rw[Int.toNat_natCast,Nat.mul_one];exact l.ld yInt q ac,?_⟩;refine Hp.delI Ig rfl H EQ4 fun w5 H5=>⟨iR,J (B-(j+1)) _ _ (by omega) ⟨j+1,rfl,by omega,rfl,?_⟩⟩;rw[take_succ_eq_append_getElem d,PO,<- ZW];exact H5
 rw[take_of_length_le (by omega)]at H;have ae:∀{a:Asn},a∈Y->a∈(Asn.imap n .i64 (smC (FN old moved))::Y):=fun h=>.tail _ h
 have y:∀{w':World}{L:List Asn},Hp f w w' L->(∀a∈Y,a∈L)->DX [] w' D T.L.length (T.L.map rowI) g:=fun{w' L} H r=>by
  refine⟨fun W hW=>?_,by simp only[maxLen];omega,fun s K=>?_,fun x t=>Wu (ZT (Eh C x t)) (Eh C x t)⟩
  ·have HW:=H.chg0 hW
   exact Ze (show Own W 0 123 5 D T.L.length Z (itsC (T.L.map AY) g)from HW.ownA (r _ (by rw[hY];exact .tail _ m1))) E (by rw[length_map]) fun x t=>HW.ok x (r _ (by rw[hY];exact .tail _ (.tail _ (.tail _ t))))
  ·obtain⟨k,hk⟩:=List.getElem?_of_mem K
   have a6:=(List.getElem?_eq_some_iff.1 hk).1;have a7:=E.len;have t:(T.L.map AY)[k]? =some ((T.L.map AY)[k]'(by omega)):=List.getElem?_eq_getElem _;have e:=E.att k _ s t hk;have:=(Fg (Eh C _ (mem_of_getElem? t))).1;simp only[maxLen];omega
 have af:∀{w':World}{L:List Asn},Hp f w w' L->(∀a∈Y,a∈L)->Cells w' G (AO (T.L.map (·.id))):=fun{w' L} H r=>by
  have:Own w' 0 3 1 G T.L.length zc (AO (T.L.map (·.id))):=H.ownA (r _ (by rw[hY];exact .tail _ (.head _)));exact this.cells
 have z:∀x∈T.L.map rowI,0<=x.level:=fun x t=>by
  obtain⟨k,hk⟩:=List.getElem?_of_mem t;exact(Qu (b:=0) C.ok C.fl k x hk).1
 have u:=bounds_len (T.L.map rowI) (T.L.map (·.id));rw[length_map]at u;refine AC (nBounds_spec D _ Z (T.L.map rowI) g G zc (T.L.map (·.id)) w4 (y H fun a c=>ae c) (af H fun a c=>ae c) (by rw[length_map]) (by omega) z) ?_;rintro _ w5 ⟨ba,bc,rfl,H5⟩;have H6:=H.ext1 H5;clear H H5;obtain⟨bs,M⟩:∃bs,bs=Gn (T.L.map rowI) (T.L.map (·.id)):=⟨_,rfl⟩;rw[<- M]at H6 u⊢;have ar:Own w5 0 248 2 ba bs.length bc (bdC bs):=H6.ownA (.head _);refine⟨_,_,_,rfl,AC (nSpanned_spec ba bs.length bc bs n (FN old moved) w5 ar.cells rfl (by omega) (H6.ok _ m1)) ?_⟩;rintro _ w6 (⟨K,rfl,H7⟩|⟨S,mb,K,rfl,H7⟩);rotate_left
 ·refine⟨_,_,rfl,DR (x:=_) ⟨f2,mb,rfl,?_⟩⟩
  have hl:Jp T old moved=S:=by rw[Jp,<- M,K]
  rw[hl];have H8:=H6.ext1 H7;rw[hY]at H8
  exact Hp.BN (R:=[.own 248 2 ba bs.length bc (bdC bs),.imap n .i64 (smC (FN old moved)),.own 3 1 G T.L.length zc (AO (T.L.map (·.id)))]++(.own 123 5 D T.L.length Z (itsC (T.L.map AY) g)::Be (T.L.map AY) g)) (H8.perm (by
   refine AL fun ff gg N l c O=>?_
   simp only[c,l,N,append_eq,nil_append,cons_append];omega))
 refine⟨_,_,rfl,BG (x:=_) fun nb w7 ag=>?_⟩;have H8:Hp f w w7 (.imap nb .i64 (smC [])::_):=(H6.ext0 H7).newI EQ4 .i64 ag;clear H6 H7 ag;have ah:∀{a:Asn},a∈Y->a∈(Asn.imap nb .i64 (smC [])::.own 248 2 ba bs.length bc (bdC bs)::.imap n .i64 (smC (FN old moved))::Y):=fun h=>.tail _ (.tail _ (.tail _ h))
 have av:T.L≠[]:=fun e=>by
  have e1:bs=[]:=List.eq_nil_of_length_eq_zero (by rw[e]at u;simpa using u);rw[e1]at K
  have e2:EK [] (FN old moved)≠none:=by
   have e3:Sr [] (FN old moved) 0=4611686018427387904:=rfl
   have e4:betP 0 4611686018427387904 (((0:Nat):Int)-((0:Nat):Int))=some []:=by rw[betP,if_pos (by refine⟨⟨?_,?_⟩,⟨?_,?_⟩,?_,?_,?_⟩<;>decide)];rfl
   rw[EK,length_nil,IA,e3,if_neg (by decide),e4];dsimp only;rw[IA];simp
  exact e2 K
 have hl:Jp T old moved=GR [] (T.L.map (·.id)) (KC (T.L.map rowI)):=by rw[Jp,<- M,K]
 rw[hl];refine AC (sLabel_spec D _ Z (T.L.map rowI) g w7 (y H8 fun a c=>ah c) (Rj C av) (by rw[length_map];omega) z) ?_;rintro _ w8 ⟨la,rfl,H9⟩;have Q:=H8.ext1 H9;clear H8 H9;have ak:=label_len (T.L.map rowI);rw[length_map]at ak;obtain⟨P,hP⟩:∃P,P=KC (T.L.map rowI):=⟨_,rfl⟩;rw[<- hP]at Q ak⊢;obtain⟨A,U⟩:∃A,A=T.L.map (·.id):=⟨_,rfl⟩
 have a8:A.length=T.L.length:=by rw[U,length_map]
 refine⟨_,_,_,_,rfl,AP.mk (fun m s w'=>∃(j:Nat)(X:List Asn),m=T.L.length-j/\j<=T.L.length/\s=(j:Int)/\Hp f w w' (.imap nb .i64 (smC (GR [] (A.take j) (P.take j)))::.own 62 2 la T.L.length T.L.length (BF P)::(Y++X))) T.L.length ⟨0,[.own 248 2 ba bs.length bc (bdC bs),.imap n .i64 (smC (FN old moved))],rfl,by omega,rfl,Q.perm ?_⟩ ?_⟩
 ·refine AL fun ff gg N l c O=>?_
  simp only[take_zero,GR,c,l,N,append_eq,nil_append,cons_append];omega
 clear Q;rintro m s w9 nx ⟨j,X,rfl,hj,rfl,H⟩ J;refine AB (fun h2=>?_) (fun h2=>?_)
 ·have d:j<P.length:=by omega
  obtain⟨p,hp⟩:∃p,P[j]? =some p:=⟨_,List.getElem?_eq_getElem d⟩;obtain⟨i,hi⟩:∃i,A[j]? =some i:=⟨_,List.getElem?_eq_getElem (by omega)⟩;obtain⟨ad,q,aw⟩:=H.ldOA (w':=w9) (o:=j*2) EQ4 GV (by omega) m1 (J4 hp) rfl;refine AA q ⟨⟨by omega,h2⟩,p.1,p.2,by rw[Int.toNat_natCast];exact aw,fun xb a9 al=>?_⟩;have H2:=H.nw al;refine Hp.sA H2 GV (cs':=[.int .i64 p.1,.int .i64 p.2]) fun a0 I=>?_
  have am:(AO (T.L.map (·.id)))[j]? =some (.int .i64 i):=by rw[<- U];simp[AO,hi]
  have an:Cells a0.drew G (AO (T.L.map (·.id))):=af I.drew fun a c=>.tail _ (.tail _ (.tail _ (List.mem_append_left _ c)));obtain⟨zd,ao,_⟩:=an _ _ am;refine AA ao ⟨⟨by omega,by omega⟩,i,by rw[Int.toNat_natCast,Nat.mul_one];exact an.ld yInt ao am,p.1,p.2,I.loA GV,?_⟩;refine Hp.mupI (v:=.agg #[.int .i64 p.1,.int .i64 p.2]) Ig I.drew.Af EQ4 fun bb H4=>⟨iR,J (T.L.length-(j+1)) _ _ (by omega) ⟨j+1,.blk xb [.int .i64 p.1,.int .i64 p.2] 62::X,rfl,by omega,rfl,?_⟩⟩;have e1:=LM (GR [] (A.take j) (P.take j)) i p
  have e2:GR [] (A.take (j+1)) (P.take (j+1))=sput (GR [] (A.take j) (P.take j)) i p:=by
   rw[take_succ_eq_append_getElem (by omega),(List.getElem?_eq_some_iff.1 hi).2,take_succ_eq_append_getElem d,(List.getElem?_eq_some_iff.1 hp).2,Pm _ _ _ _ _ (by rw[length_take,length_take];omega)]
  have e3:spV p=.agg #[.int .i64 p.1,.int .i64 p.2]:=rfl;rw[e2,<- e1,e3]
  exact H4.perm (by
   refine AL fun ff gg N l c O=>?_
   simp only[c,l,N,append_eq,nil_append,cons_append];omega)
 ·rw[take_of_length_le (by omega),take_of_length_le (by omega),U,hY]at H
  refine⟨f2,nb,rfl,?_⟩
  exact Hp.BN (R:=[.own 62 2 la T.L.length T.L.length (BF P),.own 3 1 G T.L.length zc (AO (T.L.map (·.id)))]++((.own 123 5 D T.L.length Z (itsC (T.L.map AY) g)::Be (T.L.map AY) g)++X)) (H.perm (by
   refine AL fun ff gg N l c O=>?_
   simp only[c,l,N,append_eq,nil_append,cons_append];omega))
end
end Go.Proofs.YtljenkbpnioipaaGreat
namespace Go.Vc
open Go
def sEq:Value->Value->Bool
 |.int _ a,.int _ b=>decide (a=b)
 |.bool a,.bool b=>a==b
 |.string a,.string b=>decide (a=b)
 |_,_=>false
theorem beqB(a b:ByteArray):(a==b)=decide (a=b):=by
 obtain⟨x⟩:=a;obtain⟨y⟩:=b;show(x==y)=_;rw[Bool.eq_iff_iff];simp
def kdB(P:Program)(t:TypeId)(k:Kd):Bool:=match P.underlying t,k with
 |some (.int q),.inl q'=>decide (q=q')
 |some .bool,.inr 0=>true
 |some .string,.inr 1=>true
 |_,_=>false
def TD(P:Program):List Field->List (Nat×Kd)->Bool
 | [],[]=>true
 | f :: fs, (o, k) :: l => Nat.beq f.offset o && f.name != "_" && kdB P f.type k && TD P fs l
 |_,_=>false
structure Zn(P:Program)(t:TypeId)(l:List (Nat×Kd)):Prop where
 und:∃fs,P.underlying t=some (.struct fs)/\TD P fs.toList l=true
 guard:P.eqGuardType P.depth t=false
 stood:P.stoodInHeld t=false
def aC(P:Program)(t:TypeId)(l:List (Nat×Kd)):Bool:=match P.underlying t with
 |some (.struct fs)=>TD P fs.toList l&& !P.eqGuardType P.depth t&& !P.stoodInHeld t
 |_=>false
theorem flat_of{P:Program}{t:TypeId}{l:List (Nat×Kd)}(h:aC P t l=true):Zn P t l:=by
 unfold aC at h;split at h
 ·rename_i a b
  simp only[Bool.and_eq_true,Bool.not_eq_true']at h;exact⟨⟨a,b,h.1.1⟩,h.1.2,h.2⟩
 ·cases h
def fitL(l:List (Nat×Kd))(cs:List Value):Bool:=l.all fun p=>match cs[p.1]? with
 |some v=>(fromV p.2 v).isSome
 |none=>false
def eqL(l:List (Nat×Kd))(xs ys:List Value):Bool:=l.all fun p=>match xs[p.1]?,ys[p.1]? with
 |some a,some b=>sEq a b
 |_,_=>false
section
variable{P:Program}{w:World}
theorem run_sEq{t:TypeId}{k:Kd}{a b:Value}{d:Nat}(g:kdB P t k=true)(c:(fromV k a).isSome=true)(e:(fromV k b).isSome=true):(Op.equalIn (d+1) t a b).run P w=.ok (sEq a b) w:=by
 unfold kdB at g;split at g
 ·rename_i q j f
  have:=of_decide_eq_true g;subst this;cases a<;>simp only[fromV,Option.isSome_none,Bool.false_eq_true]at c;cases b<;>simp only[fromV,Option.isSome_none,Bool.false_eq_true]at e;split at c
  ·split at e
   ·rename_i h _ i
    have h:=of_decide_eq_true h;have i:=of_decide_eq_true i;subst h;subst i;exact(run_equalIn_int w d t _ _ _ _ f).trans (by rw[sEq,Bool.beq_eq_decide_eq])
   ·cases e
  ·cases c
 ·rename_i f
  cases a<;>simp[fromV]at c;cases b<;>simp[fromV]at e;exact run_equalIn_bool w d t _ _ f
 ·rename_i f
  cases a<;>simp[fromV]at c;cases b<;>simp[fromV]at e;simp[Op.equalIn,run_underlying f,sEq,beqB]
 ·cases g
theorem IY{t:TypeId}{k:Kd}{xs:Array Value}{o:Nat}{v:Value}(a:kdB P t k=true)(b:xs[o]? =some v):(part t xs o).run P w=.ok v w:=by
 refine run_part_plain w ?_ b;unfold kdB at a;unfold Program.plainKey;split at a<;>simp_all
theorem Nw{d:Nat}{xs ys:List Value}:∀(c:List Field)(l:List (Nat×Kd)),TD P c l=true->fitL l xs=true->fitL l ys=true->(Op.eqFields (d+1) xs.toArray ys.toArray c).run P w=.ok (eqL l xs ys) w
 | [],[],_,_,_=>rfl
 |f::c,(o,k)::l,h,hx,hy=>by
  simp only[TD,Bool.and_eq_true]at h;obtain⟨⟨⟨g,i⟩,e⟩,j⟩:=h;have:=Nat.eq_of_beq_eq_true g;subst this;simp only[fitL,all_cons,Bool.and_eq_true]at hx hy
  cases ha:xs[f.offset]? with
  |none=>rw[ha]at hx;cases hx.1
  |some a=>
   cases hb:ys[f.offset]? with
   |none=>rw[hb]at hy;cases hy.1
   |some b=>
    rw[ha]at hx;rw[hb]at hy;have m:=Nw (d:=d) c l j hx.2 hy.2;simp only[Op.eqFields];rw[if_pos (by simpa using i)];simp only[Sem.run_bind,IY (w:=w) e (show xs.toArray[f.offset]? =some a by simpa using ha),IY (w:=w) e (show ys.toArray[f.offset]? =some b by simpa using hb),Result.andThen_ok,run_sEq e hx.1 hy.1]
    have n:eqL ((f.offset,k)::l) xs ys=(sEq a b&&eqL l xs ys):=by simp only[eqL,all_cons,ha,hb]
    rw[n]
    cases sEq a b with
    |true=>simpa using m
    |false=>simp
theorem run_flat{t:TypeId}{l:List (Nat×Kd)}(T:Zn P t l){xs ys:List Value}(c:fitL l xs=true)(d:fitL l ys=true):(Op.equalIn 10000 t (.agg xs.toArray) (.agg ys.toArray)).run P w=.ok (eqL l xs ys) w:=by
 obtain⟨⟨a,b,f⟩,h,g⟩:=T
 have e:P.fieldsOf t=a:=by simp[Program.fieldsOf,b]
 rw[run_equalIn_struct w 9999 t _ _ (by rw[e];exact b) g,e];exact Nw a.toList l f c d
end
structure Pj(P:Program)(t:TypeId):Prop where
 und : ∃ f g, P.underlying t = some (.struct #[f, g]) ∧ f.offset = 0 ∧ g.offset = 1 ∧ f.name ≠ "_" ∧ g.name ≠ "_" ∧ kdB P f.type (.inl .i64) = true ∧ kdB P g.type (.inl .i64) = true
 flat:Zn P t [(0,.inl .i64),(1,.inl .i64)]
def ax(P:Program)(t:TypeId):Bool:=match P.underlying t with
 | some (.struct ⟨[f, g]⟩) => Nat.beq f.offset 0 && Nat.beq g.offset 1 && f.name != "_" && g.name != "_" && kdB P f.type (.inl .i64) && kdB P g.type (.inl .i64)
 |_=>false
theorem pair_of{P:Program}{t:TypeId}(h:ax P t=true)(a:aC P t [(0,.inl .i64),(1,.inl .i64)]=true):Pj P t:=by
 refine⟨?_,flat_of a⟩;unfold ax at h;split at h
 ·rename_i f g c
  simp only[Bool.and_eq_true,bne_iff_ne,ne_eq]at h;obtain⟨⟨⟨⟨⟨d,e⟩,i⟩,j⟩,k⟩,l⟩:=h;exact⟨f,g,c,Nat.eq_of_beq_eq_true d,Nat.eq_of_beq_eq_true e,i,j,k,l⟩
 ·cases h
def Ah(p:Int×Int):Value:=.agg #[.int .i64 p.1,.int .i64 p.2]
section
variable{P:Program}{t:TypeId}{w:World}
theorem NR{t:TypeId}{k:Kd}{v:Value}{c:Bool}{n:Nat}(h:kdB P t k=true):(Instr.checkKey c (n+1) t v).run P w=.ok () w:=by
 unfold kdB at h;split at h
 ·rename_i a;simp only[Instr.checkKey,Sem.run_bind,Ac a,Result.andThen_ok,Sem.run_pure]
 ·rename_i a;simp only[Instr.checkKey,Sem.run_bind,Ac a,Result.andThen_ok,Sem.run_pure]
 ·rename_i a;simp only[Instr.checkKey,Sem.run_bind,Ac a,Result.andThen_ok,Sem.run_pure]
 ·cases h
theorem TE(T:Pj P t)(h:Bool)(p:Int×Int)(w:World):(Instr.checkKey h 10000 t (Ah p)).run P w=.ok () w:=by
 obtain⟨⟨f,g,i,j,k,d,e,a,c⟩,_⟩:=T;show(Instr.checkKey h (9998+1+1) t (Ah p)).run P w=.ok () w;rw[Instr.checkKey];simp only[Ah,Sem.run_bind,Ac i,Result.andThen_ok];rw[<- Array.forIn_toList]
 simp only[List.forIn_cons,List.forIn_nil,Sem.run_bind,d,e,ne_eq,not_false_eq_true,if_true,Result.andThen_ok,IY (w:=w) a (show(#[Value.int .i64 p.1,Value.int .i64 p.2]:Array Value)[f.offset]? =some (.int .i64 p.1) by rw[j];rfl),
  IY (w:=w) c (show(#[Value.int .i64 p.1,Value.int .i64 p.2]:Array Value)[g.offset]? =some (.int .i64 p.2) by rw[k];rfl),NR a,NR c,Sem.run_pure]
theorem pair_equal(T:Pj P t)(a b:Int×Int)(w:World):(Op.equal t (Ah a) (Ah b)).run P w=.ok (decide (a=b)) w:=by
 have:=run_flat (w:=w) T.flat (xs:=[.int .i64 a.1,.int .i64 a.2]) (ys:=[.int .i64 b.1,.int .i64 b.2]) (by simp[fitL,fromV];exact⟨rfl,rfl⟩) (by simp[fitL,fromV];exact⟨rfl,rfl⟩);refine this.trans ?_;simp only[eqL,all_cons,List.all_nil,List.getElem?_cons_zero,List.getElem?_cons_succ,sEq,Bool.and_true];congr 1;rw[<- Bool.decide_and];exact decide_eq_decide.2 ⟨fun h=>Prod.ext h.1 h.2,fun h=>by rw[h];exact⟨rfl,rfl⟩⟩
def Ih(es:List MapEntry)(al:List ((Int×Int)×Value)):Prop:=es.map (fun e=>(e.key,e.val))=al.map fun p=>(Ah p.1,p.2)
def MapP(w:World)(b:Nat)(al:List ((Int×Int)×Value)):Prop:=
 ∃es clock,w.heap[b]? =some (.map es clock)/\Ih es.toList al/\(es.toList.map (·.born)).Nodup/\∀e∈es.toList,e.born<clock
theorem UB(T:Pj P t)(w:World):∀{a:List MapEntry}{al:List ((Int×Int)×Value)}(i:Nat)(k:Int×Int),Ih a al->
  (aget al k=none/\(Instr.findAsking t (Ah k) a i).run P w=.ok none w)\/
  ∃j v e,aget al k=some v/\(Instr.findAsking t (Ah k) a i).run P w=.ok (some (i+j,v)) w/\a[j]? =some e/\e.key=Ah k/\e.val=v/\
   (∀c,Ih (a.modify j fun e=> {e with key:=Ah k,val:=c}) (aput al k c))
 | [],al,i,k,h=>by
  have:al=[]:=by cases al with
   |nil=>rfl
   |cons p r=>simp[Ih]at h
  subst this;exact .inl ⟨rfl,rfl⟩
 |e::a,al,i,k,h=>by
  cases al with
  |nil=>simp[Ih]at h
  |cons p al=>
   obtain⟨x,u⟩:=p;simp only[Ih,map_cons,List.cons.injEq,Prod.mk.injEq]at h;obtain⟨⟨f,g⟩,h⟩:=h;simp only[Instr.findAsking,Sem.run_bind,f,pair_equal T,Result.andThen_ok,aget,aput];by_cases d:k=x
   ·subst d
    right;refine⟨0,u,e,by simp,by simp[g],by simp,f,g,fun c=>?_⟩;simp only[if_true,Ih,List.modify_zero_cons,map_cons,f];rw[h]
   ·simp only[d,decide_false,if_false,Bool.false_eq_true]
    rcases UB T w (i+1) k h with⟨l,m⟩|⟨j,v,n,l,m,o,q,s,y⟩
    ·exact .inl ⟨l,m⟩
    ·right
     refine⟨j+1,v,n,l,by rw[m];congr 3;omega,by simpa using o,q,s,fun c=>?_⟩;have:=y c;simp only[Ih,List.modify_succ_cons,map_cons,f,g]at this⊢;rw[this]
theorem VT{K:Type}[DecidableEq K]{k:K}{v:Value}:∀(al:List (K×Value)),aget al k=none->aput al k v=al++[(k,v)]
 | [],_=>rfl
 |(x,u)::r,hn=>by
  simp only[aget]at hn;split at hn
  ·cases hn
  ·rename_i a
   simp only[aput,if_neg a,VT r hn,cons_append]
theorem Pj.wide(T:Pj P t):(match P.underlying t with|some (.array _ _)|some (.struct _)=>true|_=>false)=true:=by
 obtain⟨⟨f,g,a,_⟩,_⟩:=T;rw[a]
structure Wq(P:Program)(t kT eT:TypeId)(z:Value):Prop where
 und:P.underlying t=some (.map kT eT)
 key:Pj P kT
 zero:zeroOf P eT=some z
theorem Yt{kT eT:TypeId}{z:Value}(T:Wq P t kT eT z){b:Nat}{al:List ((Int×Int)×Value)}(h:MapP w b al)(k:Int×Int):
  Lk P t false w (.map (some b)) (Ah k) ((aget al k).getD z)/\Lk P t true w (.map (some b)) (Ah k) (.tuple #[(aget al k).getD z,.bool (aget al k).isSome]):=by
 obtain⟨i,d,l,m,n⟩:=h;have a:∀e,(Instr.checkKey e 10000 kT (Ah k)).run P w=.ok () w:=fun e=>TE T.key e k w;have c:(Instr.findKey kT (Ah k) i.toList).run P w=(Instr.findAsking kT (Ah k) i.toList).run P w:=run_findKey_eq w T.key.wide _ _
 rcases UB T.key w 0 k m with⟨f,g⟩|⟨j,v,e,f,g,-⟩
 ·simp only[Lk,Instr.lookup,Sem.run_bind,Ac T.und,Result.andThen_ok,run_getObj_map l,Sem.run_pure,a,c,g,Sem.run_map,GK T.zero,f]
  constructor<;>rfl
 ·simp only[Lk,Instr.lookup,Sem.run_bind,Ac T.und,Result.andThen_ok,run_getObj_map l,Sem.run_pure,a,c,g,f]
  constructor<;>rfl
def JG(b:Nat)(al:List ((Int×Int)×Value)):Asn:=.any [b] fun w=>MapP w b al
theorem Yy{b:Nat}{al:List ((Int×Int)×Value)}{w:World}(h:MapP w b al):(JG b al).ok w:=
 ⟨by intro k d;simp at d;subst d;obtain⟨f,c,a,_⟩:=h;exact(Array.getElem?_eq_some_iff.1 a).1,fun w' e=>by
  obtain⟨f,c,a,g⟩:=h
  exact⟨f,c,(e b (by simp)).trans a,g⟩⟩
theorem UD{b:Nat}{al:List ((Int×Int)×Value)}{w:World}(h:(JG b al).ok w):MapP w b al:=h.2 w fun _ _=>rfl
variable{B:List Nat}{w0 w':World}{L:List Asn}{kT eT:TypeId}{z v:Value}{b:Nat}
theorem Hp.newP(H:Hp B w0 w L)(e:Eqw w w'){w1:World}(h:New w' (.map #[] 0) b w1):Hp B w0 w1 (JG b []::L):=
 (H.go e).add h.chg (Yy ⟨#[],0,h.blk,rfl,by simp,by simp⟩) (by simp[Asn.foot,JG];exact h.num▸Nat.le_refl _)
theorem Hp.lkP{al:List ((Int×Int)×Value)}(T:Wq P t kT eT z)(H:Hp B w0 w L)(e:Eqw w w')(m:JG b al∈L){x:Int×Int}(hv:(aget al x).getD z=v):Lk P t false w' (.map (some b)) (Ah x) v:=by
 subst hv;exact(Yt T (UD ((H.go e).ok _ m)) x).1
end
section
variable{P:Program}{t:TypeId}
theorem Kw{K:Type}[DecidableEq K](k:K)(v:Value):∀(al:List (K×Value)),aget (aput al k v) k=some v
 | []=>by simp[aput,aget]
 |(x,u)::r=>by
  rw[aput];by_cases h:k=x
  ·rw[if_pos h,aget,if_pos h]
  ·rw[if_neg h,aget,if_neg h];exact Kw k v r
theorem men_pair{kT eT:TypeId}{z:Value}(T:Wq P t kT eT z){w:World}{b:Nat}{al:List ((Int×Int)×Value)}(h:MapP w b al)(k:Int×Int)(v:Value):
  ∃(u:Value)(i:Int)(w1 S:World),MEn P t w (.map (some b)) (Ah k) (.tuple #[u,.int .i64 i]) w1/\MapP w1 b (aput al k ((aget al k).getD z))/\ESt P t w1 (.map (some b)) (.int .i64 i) v S/\MapP S b (aput al k v)/\Chg [b] w S:=by
 obtain⟨l,d,I,U,X,Y⟩:=h;have J:∀e,(Instr.checkKey e 10000 kT (Ah k)).run P w=.ok () w:=fun e=>TE T.key e k w;have K:(Instr.findKey kT (Ah k) l.toList).run P w=(Instr.findAsking kT (Ah k) l.toList).run P w:=run_findKey_eq w T.key.wide _ _;have n:=(Array.getElem?_eq_some_iff.1 I).1
 have m:∀o,aget al k=none->Ih (l.push {key:=Ah k,val:=o,born:=d}).toList (aput al k o):=fun o A=>by
  rw[Array.toList_push,VT al A];simp only[Ih,map_append,map_cons,map_nil]at U⊢;rw[U]
 have C:∀o,((l.push {key:=Ah k,val:=o,born:=d}).toList.map (·.born)).Nodup:=fun o=>by
  rw[Array.toList_push,map_append,nodup_append];refine⟨X,by simp,?_⟩;intro a ha c hc;simp at hc;subst hc;obtain⟨e,r,rfl⟩:=mem_map.1 ha;exact Nat.ne_of_lt (Y e r)
 have M:∀o,∀e∈(l.push {key:=Ah k,val:=o,born:=d}).toList,e.born<d+1:=fun o e r=>by
  rw[Array.toList_push]at r;rcases mem_append.1 r with r|r
  ·exact Nat.lt_succ_of_lt (Y e r)
  ·simp at r;subst r;exact Nat.lt_succ_self _
 rcases UB T.key w 0 k U with⟨A,Q⟩|⟨j,u,e,A,Q,g3,g4,g5,g6⟩
 ·obtain⟨f,g⟩:∃f,f=l.push {key:=Ah k,val:=z,born:=d}:=⟨_,rfl⟩
  have p:(setB w b (.map f (d+1))).heap[b]? =some (.map f (d+1)):=DC n
  have s:(f.toList.map (·.born)).Nodup:=by rw[g];exact C z
  have D:f[l.size]? =some {key:=Ah k,val:=z,born:=d}:=by rw[g];simp
  have E:=Tn s D
  have q:f.modify l.size (fun e=> {e with val:=v})=l.push {key:=Ah k,val:=v,born:=d}:=by
   apply Array.ext_getElem?;intro i;rw[Array.getElem?_modify,g,Array.getElem?_push,Array.getElem?_push];by_cases H:i=l.size
   ·subst H;simp
   ·rw[if_neg (fun h=>H h.symm),if_neg H,if_neg H]
  refine⟨z,d,setB w b (.map f (d+1)),setB (setB w b (.map f (d+1))) b (.map (l.push {key:=Ah k,val:=v,born:=d}) (d+1)),?_,?_,?_,?_,?_⟩
  ·simp only[MEn,Instr.mapEntry,Sem.run_bind,Ac T.und,Result.andThen_ok,run_getObj_map I,J,K,Q,GK T.zero,run_setObj_map I,Sem.run_pure,<- g]
   rfl
  ·rw[A,g]
   exact⟨_,_,DC n,m z A,C z,M z⟩
  ·simp only[ESt,Instr.entryStore,Sem.run_bind,Sem.run_pure,Result.andThen_ok,run_getObj_map p,Vg]
   rw[show f.findIdx? (fun e=>(e.born:Int)==(d:Int))=some l.size from E];simp only[run_setObj_map p,q]
  ·rw[JL]
   exact⟨_,_,DC n,m v A,C v,M v⟩
  ·rw[JL];exact Ci _ _ _
 ·have Z:l[j]? =some e:=by simpa using g3
  rw[Nat.zero_add]at Q;obtain⟨f,g⟩:∃f,f=l.modify j fun e=> {e with key:=Ah k}:=⟨_,rfl⟩;have p:(setB w b (.map f d)).heap[b]? =some (.map f d):=DC n
  have F:f.toList.map (·.born)=l.toList.map (·.born):=by
   rw[g,Array.toList_modify];apply ext_getElem?;intro i;simp only[List.getElem?_map,List.getElem?_modify]
   cases l.toList[i]? with
   |none=>rfl
   |some e=>simp only[Option.map_some,Functor.map];split<;>rfl
  have s:(f.toList.map (·.born)).Nodup:=by rw[F];exact X
  have D:f[j]? =some {e with key:=Ah k}:=by rw[g,Array.getElem?_modify,if_pos rfl,Z];rfl
  have E:=Tn s D
  have q:f.modify j (fun e=> {e with val:=v})=l.modify j fun e=> {e with key:=Ah k,val:=v}:=by
   apply Array.ext_getElem?;intro i;rw[Array.getElem?_modify,g,Array.getElem?_modify,Array.getElem?_modify];split
   ·cases l[i]? <;>rfl
   ·rfl
  have N:Instr.sameBits 10000 (Ah k) (Ah k)=true:=by
   show Instr.sameBits (9999+1) (Ah k) (Ah k)=true;simp[Instr.sameBits,Ah]
  have G:(Instr.keyThatStays (Ah k) (Ah k)).run P w=.ok (Ah k) w:=by
   simp[Instr.keyThatStays,N]
  have O:∀o,∀R∈(l.modify j fun e=> {e with key:=Ah k,val:=o}).toList,R.born<d:=fun o R aa=>by
   have:R.born∈(l.modify j fun e=> {e with key:=Ah k,val:=o}).toList.map (·.born):=mem_map.2 ⟨R,aa,rfl⟩;rw[Array.toList_modify,IX]at this;obtain⟨e2,ab,e3⟩:=mem_map.1 this;rw[<- e3];exact Y e2 ab
  have y:f=l.modify j fun e=> {e with key:=Ah k,val:=u}:=by
   rw[g];apply Array.ext_getElem?;intro i;rw[Array.getElem?_modify,Array.getElem?_modify];split
   ·rename_i H;subst H
    rw[Z];simp only[Option.map_some,g5]
   ·rfl
  refine⟨u,e.born,setB w b (.map f d),setB (setB w b (.map f d)) b (.map (l.modify j fun e=> {e with key:=Ah k,val:=v}) d),?_,?_,?_,?_,?_⟩
  ·simp only[MEn,Instr.mapEntry,Sem.run_bind,Ac T.und,Result.andThen_ok,run_getObj_map I,J,K,Q,Z,Option.map_some,Option.getD_some,g4,G,run_setObj_map I,Sem.run_pure,<- g]
   rfl
  ·rw[A,Option.getD_some]
   refine⟨_,_,DC n,?_,s,?_⟩
   ·rw[y,Array.toList_modify];exact g6 u
   ·rw[y];exact O u
  ·simp only[ESt,Instr.entryStore,Sem.run_bind,Sem.run_pure,Result.andThen_ok,run_getObj_map p,Vg]
   rw[show f.findIdx? (fun x=>(x.born:Int)==(e.born:Int))=some j from E];simp only[run_setObj_map p,q]
  ·rw[JL]
   refine⟨_,_,DC n,?_,?_,O v⟩
   ·rw[Array.toList_modify];exact g6 v
   ·rw[Array.toList_modify,IX];exact X
  ·rw[JL];exact Ci _ _ _
variable{B:List Nat}{w0 w w':World}{L:List Asn}{kT eT:TypeId}{z v:Value}{b:Nat}
theorem Hp.menP{al:List ((Int×Int)×Value)}(T:Wq P t kT eT z)(H:Hp B w0 w (JG b al::L))(e:Eqw w w'){x:Int×Int}{y:Value}(c:(aget al x).getD z=y){G:World->Prop}
  (d:∀w1,Hp B w0 w1 (JG b (aput al x v)::L)->G w1):∃(u:Value)(i:Int)(w1:World),MEn P t w' (.map (some b)) (Ah x) (.tuple #[u,.int .i64 i]) w1/\Lk P t false w1 (.map (some b)) (Ah x) y/\∃a,ESt P t w1 (.map (some b)) (.int .i64 i) v a/\G a:=by
 obtain⟨u,i,w1,a,f,g,h,j,l⟩:=men_pair T (UD ((H.go e).ok _ (.head _))) x v;refine⟨u,i,w1,f,?_,a,h,d a ((H.go e).set l (Yy j) fun k m=>.inl m)⟩;have:=(Yt T g x).1;rw[Kw,Option.getD_some,c]at this;exact this
end
end Go.Vc
namespace Go.Nod
open Go Go.Vc
section
variable{K V:Type}
def gC(enc:V->Value)(l:List (K×V)):List (K×Value):=l.map fun p=>(p.1,enc p.2)
theorem QY(enc:V->Value)(l:List (K×V)):(gC enc l).map (·.1)=l.map (·.1):=by
 rw[gC,map_map];rfl
theorem Zh(enc:V->Value)(l:List (K×V)):(gC enc l).length=l.length:=length_map _
end
section
variable{K V:Type}[DecidableEq K]
def gget:List (K×V)->K->Option V
 | [],_=>none
 |(x,s)::r,k=>if k=x then some s else gget r k
def gput:List (K×V)->K->V->List (K×V)
 | [],k,v=>[(k,v)]
 |(x,s)::r,k,v=>if k=x then(x,v)::r else(x,s)::gput r k v
def gdel:List (K×V)->K->List (K×V)
 | [],_=>[]
 |(x,s)::r,k=>if k=x then r else(x,s)::gdel r k
theorem J5(enc:V->Value):∀(l:List (K×V))(k:K),aget (gC enc l) k=(gget l k).map enc
 | [],k=>rfl
 |(x,s)::r,k=>by
  have a:=J5 enc r k;rw[gget];show(if k=x then some (enc s)else aget (gC enc r) k)=_;by_cases h:k=x
  ·rw[if_pos h,if_pos h];rfl
  ·rw[if_neg h,if_neg h,a]
theorem MH(enc:V->Value):∀(l:List (K×V))(k:K)(v:V),aput (gC enc l) k (enc v)=gC enc (gput l k v)
 | [],k,v=>rfl
 |(x,s)::r,k,v=>by
  have a:=MH enc r k v;rw[gput];show(if k=x then(x,enc v)::gC enc r else(x,enc s)::aput (gC enc r) k (enc v))=_;by_cases h:k=x
  ·rw[if_pos h,if_pos h];rfl
  ·rw[if_neg h,if_neg h,a];rfl
theorem Zw(enc:V->Value):∀(l:List (K×V))(k:K),adel (gC enc l) k=gC enc (gdel l k)
 | [],k=>rfl
 |(x,s)::r,k=>by
  have a:=Zw enc r k;rw[gdel];show(if k=x then gC enc r else(x,enc s)::adel (gC enc r) k)=_;by_cases h:k=x
  ·rw[if_pos h,if_pos h]
  ·rw[if_neg h,if_neg h,a];rfl
theorem Tm:∀(l:List (K×V))(k x:K)(v:V),gget (gput l k v) x=if x=k then some v else gget l x
 | [],k,x,v=>rfl
 |(y,u)::r,k,x,v=>by
  have b:=Tm r k x v;rw[gput];by_cases h:k=y
  ·subst h
   rw[if_pos rfl,gget,gget];by_cases a:x=k<;>simp[a]
  ·rw[if_neg h,gget,gget,b]
   by_cases a:x=y
   ·subst a;rw[if_pos rfl,if_pos rfl,if_neg fun e=>h e.symm]
   ·rw[if_neg a,if_neg a]
theorem JJ:∀(l:List (K×V))(k:K)(v:V),(gput l k v).map (·.1)=if k∈l.map (·.1)then l.map (·.1)else l.map (·.1)++[k]
 | [],k,v=>by simp[gput]
 |(y,u)::r,k,v=>by
  have b:=JJ r k v;rw[gput];by_cases h:k=y
  ·rw[if_pos h,if_pos (by rw[h];exact .head _)];rfl
  ·rw[if_neg h,map_cons,b,map_cons]
   by_cases a:k∈r.map (·.1)
   ·rw[if_pos a,if_pos (.tail _ a)]
   ·rw[if_neg a,if_neg fun c=>(mem_cons.1 c).elim h a];rfl
theorem Ht{l:List (K×V)}(h:(l.map (·.1)).Nodup)(k:K)(v:V):((gput l k v).map (·.1)).Nodup:=by
 rw[JJ];split
 ·exact h
 ·rename_i d
  rw[nodup_append];exact⟨h,by simp,fun a f c b e=>by rw[mem_singleton]at b;subst b;exact d (e▸f)⟩
theorem EQ:∀{l:List (K×V)}{k:K},gget l k=none↔k∉l.map (·.1)
 | [],k=>by simp[gget]
 |(y,u)::r,k=>by
  rw[gget,map_cons,mem_cons,not_or];by_cases h:k=y
  ·rw[if_pos h];exact⟨fun e=>(by cases e),fun e=>(e.1 h).elim⟩
  ·rw[if_neg h,EQ];exact⟨fun e=>⟨h,e⟩,fun e=>e.2⟩
theorem LK:∀{l:List (K×V)}{k:K}{v:V},gget l k=some v->(k,v)∈l
 |(y,u)::r,k,v,h=>by
  rw[gget]at h;by_cases e:k=y
  ·subst e;rw[if_pos rfl]at h;cases h;exact .head _
  ·rw[if_neg e]at h;exact .tail _ (LK h)
theorem Rq:∀(l:List (K×V))(k x:K),(l.map (·.1)).Nodup->gget (gdel l k) x=if x=k then none else gget l x
 | [],k,x,_=>by rw[gdel,gget];split<;>rfl
 |(y,u)::r,k,x,hn=>by
  rw[map_cons,List.nodup_cons]at hn;have b:=Rq r k x hn.2;rw[gdel];by_cases h:k=y
  ·subst h
   rw[if_pos rfl,gget];by_cases a:x=k
   ·subst a
    rw[if_pos rfl];exact EQ.2 hn.1
   ·rw[if_neg a,if_neg a]
  ·rw[if_neg h,gget,gget,b]
   by_cases a:x=y
   ·subst a;rw[if_pos rfl,if_pos rfl,if_neg fun e=>h e.symm]
   ·rw[if_neg a,if_neg a]
theorem Jt:∀(l:List (K×V))(k:K),(gdel l k).Sublist l
 | [],k=>.slnil
 |(y,u)::r,k=>by
  rw[gdel];by_cases h:k=y
  ·rw[if_pos h];exact List.sublist_cons_self _ _
  ·rw[if_neg h];exact(Jt r k).cons_cons _
theorem Qh{l:List (K×V)}(h:(l.map (·.1)).Nodup)(k:K):((gdel l k).map (·.1)).Nodup:=h.sublist ((Jt l k).map _)
theorem Qo(l:List (K×V))(k:K)(v:V):(gput l k v).length<=l.length+1:=by
 have h:=congrArg List.length (JJ l k v);rw[length_map]at h;rw[h];split<;>simp
theorem JQ{l:List (K×V)}{k:K}{v:V}{p:K×V}(h:p∈gput l k v):p=(k,v)\/p∈l:=by
 induction l with
 |nil=>rw[gput,mem_singleton]at h;exact .inl h
 |cons q r a=>
  obtain⟨y,u⟩:=q;rw[gput]at h;by_cases e:k=y
  ·rw[if_pos e,mem_cons]at h
   rcases h with h|h
   ·exact .inl (by rw[h,e])
   ·exact .inr (.tail _ h)
  ·rw[if_neg e,mem_cons]at h
   rcases h with h|h
   ·exact .inr (by rw[h];exact .head _)
   ·rcases a h with h|h
    ·exact .inl h
    ·exact .inr (.tail _ h)
end
noncomputable section
open Classical
def leS(a b:ByteArray):Bool:=decide (a.data.toList<=b.data.toList)
def Eb(l:List ByteArray):List ByteArray:=l.mergeSort leS
theorem Dl(l:List ByteArray):(Eb l).Perm l:=mergeSort_perm l leS
theorem Hz{l:List ByteArray}(h:l.Nodup):(Eb l).Pairwise fun x y=>x.data.toList<y.data.toList:=by
 have i:∀a b c:ByteArray,leS a b=true->leS b c=true->leS a c=true:=fun a b c d e=>by simp only[leS,decide_eq_true_eq]at*;exact le_trans d e
 have j:∀a b:ByteArray,(leS a b||leS b a)=true:=fun a b=>by simp only[leS,Bool.or_eq_true,decide_eq_true_eq];exact le_total _ _
 have d:=pairwise_mergeSort i j l;have e:(Eb l).Nodup:=(Dl l).nodup_iff.2 h;refine(d.and e).imp fun⟨g,k⟩=>?_;simp only[leS,decide_eq_true_eq]at g;rcases List.le_iff_lt_or_eq.1 g with f|f
 ·exact f
 ·exact(k (eqB f)).elim
theorem Ey{l:List ByteArray}{x:ByteArray}:x∈Eb l↔x∈l:=(Dl l).mem_iff
theorem I7(l:List ByteArray):(Eb l).length=l.length:=(Dl l).length_eq
def addN(l:List ByteArray)(n:ByteArray):List ByteArray:=if n∈l then l else l++[n]
def uniq(l:List ByteArray):List ByteArray:=l.foldl addN []
theorem Uf(l:List ByteArray)(n:ByteArray):uniq (l++[n])=addN (uniq l) n:=by rw[uniq,List.foldl_append];rfl
theorem addN_mem{l:List ByteArray}{n x:ByteArray}:x∈addN l n↔x∈l\/x=n:=by
 rw[addN];split
 ·rename_i h
  exact⟨.inl,fun a=>a.elim id fun e=>e▸h⟩
 ·rw[mem_append,mem_singleton]
theorem addN_nodup{l:List ByteArray}(h:l.Nodup)(n:ByteArray):(addN l n).Nodup:=by
 rw[addN];split
 ·exact h
 ·rename_i d
  rw[nodup_append];exact⟨h,by simp,fun a f c b e=>by rw[mem_singleton]at b;subst b;exact d (e▸f)⟩
theorem Md(l:List ByteArray):∀(A:List ByteArray),(∀x,x∈l.foldl addN A↔x∈A\/x∈l)/\(A.Nodup->(l.foldl addN A).Nodup)/\(l.foldl addN A).length<=A.length+l.length:=by
 induction l with
 |nil=>intro A;simp
 |cons n r a=>
  intro A;obtain⟨b,c,d⟩:=a (addN A n);refine⟨fun x=>?_,fun h=>c (addN_nodup h n),?_⟩
  ·rw[List.foldl_cons,b,addN_mem,mem_cons,or_assoc]
  ·have:(addN A n).length<=A.length+1:=by rw[addN];split<;>simp
   rw[List.foldl_cons,length_cons];omega
theorem uniq_mem{l:List ByteArray}{x:ByteArray}:x∈uniq l↔x∈l:=by
 rw[uniq,(Md l []).1];simp
theorem RX(l:List ByteArray):(uniq l).Nodup:=(Md l []).2.1 .nil
theorem Xq(l:List ByteArray):(uniq l).length<=l.length:=by
 have:=(Md l []).2.2;simpa [uniq]using this
def FO(x:It):List ByteArray:=(if x.x.kind=1 then [x.x.name]else [])++x.x.attrs.map (·.1)
def GM(l:List It):List ByteArray:=Eb (uniq (l.flatMap FO))
theorem names_mem{l:List It}{n:ByteArray}:n∈GM l↔∃x∈l,n∈FO x:=by
 rw[GM,Ey,uniq_mem,List.mem_flatMap]
theorem PL:∀(al:List (ByteArray×Value))(n:ByteArray)(v:Value),(aput al n v).map (·.1)=addN (al.map (·.1)) n
 | [],n,v=>by simp[aput,addN]
 |(y,u)::r,n,v=>by
  have b:=PL r n v;rw[aput];by_cases h:n=y
  ·rw[if_pos h,addN,if_pos (by rw[h];exact .head _)];rfl
  ·rw[if_neg h,map_cons,b,map_cons,addN,addN]
   by_cases a:n∈r.map (·.1)
   ·rw[if_pos a,if_pos (.tail _ a)]
   ·rw[if_neg a,if_neg fun c=>(mem_cons.1 c).elim h a];rfl
end
end Go.Nod
namespace Go.Proofs.YtljenkbpnioipaaGreat
noncomputable section
open Go Go.Vc Go.Nod Classical
def Ji(l:List ByteArray):List ByteArray->Nat->List ByteArray->List ByteArray
 | [],_,W=>W
 |s::r,k,W=>Ji l r (k+1) (if s≠none0/\s∉l then JP W k else W)
def Le:List ByteArray->List ByteArray->List ByteArray×Int
 | [],W=>(W,0)
 |s::r,W=>if hasW W s then Le r W else if(addR W s).2.2≠0 then((addR W s).1,94)else Le r (addR W s).1
def Oq(W l:List ByteArray):List ByteArray×Int:=Le l (Ji l W 0 W)
end
open Go Go.Vc Go.Proofs Go.RowKit Go.Maps Go.Sort Go.Shelf
theorem UY{w w':World}(h:Below w.heap.size w w'):Chg [] w w':=⟨h.os,h.tape,h.output,h.size,fun k a _=>h.block k a⟩
theorem We{w w':World}{e:TypeId}{v:Value}{n:Nat}{xs:List Value}(i:Below w.heap.size w w')(h:w'.ownsRow w.heap.size e 1 v n xs):
  ∃a c,v=.slice a n c/\Hp [] w w' [.own e 1 a n c xs]:=by
 obtain⟨j,⟨rfl,rfl⟩|⟨g,d,f,rfl,m,o,p,q,r,s⟩⟩:=h
 ·refine⟨none,0,rfl,UY i,?_,by simp[Asn.foot,blks],by simp⟩
  intro a b;rw[mem_singleton]at b;subst b;exact⟨j,.inl ⟨rfl,rfl,rfl⟩⟩
 ·refine⟨some ⟨g,0,none⟩,d,rfl,UY i,?_,?_,by simp⟩
  ·intro a b
   rw[mem_singleton]at b;subst b;exact⟨j,.inr ⟨g,f,(0,0),rfl,Nat.zero_le _,o,Thaw.zero _,p,q,Nat.le_of_eq r.symm,s⟩⟩
  ·intro a b k l
   rw[mem_singleton]at b;subst b;simp[Asn.foot,blks]at l;subst l;exact .inr m
section
variable{K:Type}[DecidableEq K]{kt:KeyT K}
def RR:Value->Option (DataW Unit×List MemPlace):=fun _=>some (.nil,[])
theorem QN{P:Program}{k:TypeId}{w:World}{b:Nat}{al:List (K×Value)}(h:MapAt kt w b al)(hn:(al.map (·.1)).Nodup)(t:al.length<=maxLen)(enc:K->Lit)(m:∀x y,kt.enc x=kt.enc y->x=y)
  (g:∀p∈al,keyOf P k (kt.enc p.1)=some (enc p.1)):
  ∃D:DataW Unit,w.ownsMap P k RR b al.length D/\Maps.size D=al.length/\∃l:List (Lit×DataW Unit),D=.map l/\l.Perm (al.map fun p=>(enc p.1,DataW.nil)):=by
 obtain⟨f,d,u,j,z,A⟩:=h
 have a:f.size=al.length:=by
  have:=congrArg List.length j;simpa using this
 have n:∀x∈f.toList,∃p∈al,x.key=kt.enc p.1:=by
  intro x o;have:(x.key,x.val)∈al.map fun p=>(kt.enc p.1,p.2):=j▸mem_map.2 ⟨x,o,rfl⟩;obtain⟨p,i,e⟩:=mem_map.1 this;exact⟨p,i,(congrArg Prod.fst e).symm⟩
 have c:f.toList.map (WideElems.rg P k RR)=al.map fun p=>(enc p.1,DataW.nil):=by
  have q:f.toList.map (·.key)=al.map fun p=>kt.enc p.1:=by
   have:=congrArg (List.map Prod.fst) j;simpa [map_map,Function.comp_def]using this
  have B:∀(l:List MapEntry)(al:List (K×Value)),(∀p∈al,keyOf P k (kt.enc p.1)=some (enc p.1))->l.map (·.key)=(al.map fun p=>kt.enc p.1)->l.map (WideElems.rg P k RR)=al.map fun p=>(enc p.1,(DataW.nil:DataW Unit)):=by
   intro l
   induction l with
   |nil=>intro al _ h;cases al with
    |nil=>rfl
    |cons _ _=>cases h
   |cons x r C=>
    intro al g h
    cases al with
    |nil=>cases h
    |cons p al=>
     simp only[map_cons,List.cons.injEq]at h⊢;refine⟨?_,C al (fun p i=>g p (.tail _ i)) h.2⟩;simp only[WideElems.rg,WideElems.rd,h.1,g p (.head _)];rfl
  exact B _ _ g q
 refine⟨_,⟨f,d,u,⟨by rw[a];exact t,⟨A,z,?_⟩,?_⟩,by rw[a];exact Nat.le_refl _,rfl⟩,?_,_,rfl,?_⟩
 ·have q:f.toList.map (·.key)=(al.map (·.1)).map kt.enc:=by
   have:=congrArg (List.map Prod.fst) j;simpa [map_map,Function.comp_def]using this
  rw[q];exact pairwise_map.2 (hn.imp fun s E=>s (m _ _ E))
 ·intro x o
  obtain⟨p,i,e⟩:=n x o;exact⟨(enc p.1,.nil),by simp only[WideElems.rd,e,g p i];rfl⟩
 ·rw[c]
  have:=(WideShapes.sorted_perm (al.map fun p=>(enc p.1,(DataW.nil:DataW Unit)))).length_eq;simpa [Maps.size]using this
 ·rw[c];exact WideShapes.sorted_perm _
end
theorem YY(m:Nat):AnyZ.SortsIn Tryz.prog Xi Fence.wide m:=
 ⟨fun blk c a e W f b d=>callsIn_wide.2 (AnyM.slices_Sort_string WE blk c a e W f b d),
  fun p a W=>callsIn_wide.2 (AnyM.slices_Sort_string_none WE p a W)⟩
theorem sortsI(m:Nat):AnyZI.SortsIn Tryz.prog YC Fence.wide m:=
 ⟨fun blk c a e W f b d=>callsIn_wide.2 (AnyM.slices_Sort_int Zd blk c a e W f b d),
  fun p a W=>callsIn_wide.2 (AnyM.slices_Sort_int_none Zd p a W)⟩
theorem keysS_spec(mb:Option Nat)(w:World):Calls Tryz.prog 103 #[.map mb] w fun e w'=>
  ∃q,e=.returned (.func (.func 160) #[] #[.pointer (some ⟨q,0,none⟩)])/\Hp [] w w' [.blk q [.map mb] 147]:=by
 refine Calls.mono (callsIn_wide.1 (AnyZ.keys_in Zg Fence.wide 5 trivial rfl mb w)) ?_;rintro e w' ⟨rfl,rfl⟩;exact⟨_,rfl,(Hp.start w).new (w':=w) ⟨rfl,rfl,rfl,rfl⟩ ⟨rfl,rfl⟩⟩
theorem sortedS_spec(q b:Nat)(al:List (ByteArray×Value))(w:World)(F:Blk w q [.map (some b)] 147)(L:MapAt Ff w b al)(l:List ByteArray)(B:l.Perm (al.map (·.1)))
  (G:l.Pairwise fun x y=>x.data.toList<y.data.toList) (M:∀x∈l,x.size<=maxLen) (o:al.length*16<=140737488355328):
  Calls Tryz.prog 102 #[.func (.func 160) #[] #[.pointer (some ⟨q,0,none⟩)]] w fun e w'=>
   ∃a c,e=.returned (.slice a l.length c)/\Hp [] w w' [.own 9 1 a l.length c (l.map .string)]:=by
 have C:(al.map (·.1)).Nodup:=B.nodup_iff.1 (G.imp fun h e=>by subst e;exact lt_irrefl _ h)
 have r:al.length<=maxLen:=by simp only[maxLen];omega
 obtain⟨D,n,i,t,rfl,N⟩:=QN (P:=Tryz.prog) (k:=9) L C r (fun s=>.string s.data.toList) (fun x y h=>by injection h) (fun p E=>WideMaps.keyOf_string_mk (by kernel_rfl) (M _ (B.mem_iff.2 (mem_map.2 ⟨p,E,rfl⟩))));have u:=F.lt
 have z:SeqGives Fence.wide 2 Tryz.prog 160 #[.pointer (some ⟨q,0,none⟩)] encStr (fun j=>j.Perm (strKeys (.map t))) (Maps.size (.map t)) w:=
  AnyZ.keys_gives (ρ:=aO) {Zg with} Fence.wide _ trivial rfl (by omega) q b al.length (.map t) w u (F.cell rfl) n
 have I:=AnyZ.sorted_in TB Fence.wide 5 trivial trivial trivial trivial rfl (by omega) (YY _) (enters_of Tryz.func130 (by kernel_rfl) rfl) 160 #[.pointer (some ⟨q,0,none⟩)] trivial (enters_of Tryz.func160 (by kernel_rfl) rfl) _ _ (by rw[i];exact r) (by rw[i];exact o) w z;change CallsIn _ _ Tryz.prog 102 _ _ _ at I;refine Calls.mono (callsIn_wide.1 I) ?_;rintro e w' ⟨v,j,rfl,O,g,J,Q⟩
 have f:j.Perm (l.map fun x=>x.data.toList):=by
  refine O.trans ?_;have R:strKeys (.map t)=t.map fun p=>strOf p.1:=rfl;rw[R];refine(N.map _).trans ?_;rw[map_map];have S:((fun p:Lit×DataW Unit=>strOf p.1)∘fun p:ByteArray×Value=>(Lit.string p.1.data.toList,DataW.nil))=(fun x:ByteArray=>x.data.toList)∘(·.1):=rfl;rw[S,<- map_map];exact(B.symm.map _)
 have m:j.mergeSort (fun x y=>decide (x<=y))=l.map fun x=>x.data.toList:=by
  have T:∀a b c:List UInt8,decide (a<=b)=true->decide (b<=c)=true->decide (a<=c)=true:=fun a b c n i=>by simp only[decide_eq_true_eq]at*;exact le_trans n i
  have U:∀a b:List UInt8,(decide (a<=b)||decide (b<=a))=true:=fun a b=>by simp only[Bool.or_eq_true,decide_eq_true_eq];exact le_total a b
  refine List.Perm.eq_of_pairwise (le:=fun a b=>decide (a<=b)=true) (fun a b _ _ n i=>?_) (pairwise_mergeSort T U j) (pairwise_map.2 (G.imp fun h=>?_)) ((mergeSort_perm j _).trans f)
  ·simp only[decide_eq_true_eq]at n i;exact le_antisymm n i
  ·rw[decide_eq_true_eq];exact le_of_lt h
 have A:j.length=l.length:=by simpa using f.length_eq
 rw[m,A,map_map]at g;obtain⟨a,c,rfl,H⟩:=We Q g;refine⟨a,c,rfl,?_⟩
 have X:(encStr∘fun x:ByteArray=>x.data.toList)=Value.string:=by
  funext x;obtain⟨d⟩:=x;simp[encStr]
 rw[X]at H;exact H
theorem keysP_spec(mb:Option Nat)(w:World):Calls Tryz.prog 107 #[.map mb] w fun e w'=>
  ∃q,e=.returned (.func (.func 166) #[] #[.pointer (some ⟨q,0,none⟩)])/\Hp [] w w' [.blk q [.map mb] 83]:=by
 refine Calls.mono (callsIn_wide.1 (AnyZ.keys_in aH Fence.wide 5 trivial rfl mb w)) ?_;rintro e w' ⟨rfl,rfl⟩;exact⟨_,rfl,(Hp.start w).new (w':=w) ⟨rfl,rfl,rfl,rfl⟩ ⟨rfl,rfl⟩⟩
theorem sortedP_spec(q b:Nat)(al:List (ByteArray×Value))(w:World)(F:Blk w q [.map (some b)] 83)(L:MapAt Ff w b al)(l:List ByteArray)(B:l.Perm (al.map (·.1)))
  (G:l.Pairwise fun x y=>x.data.toList<y.data.toList) (M:∀x∈l,x.size<=maxLen) (o:al.length*16<=140737488355328):
  Calls Tryz.prog 102 #[.func (.func 166) #[] #[.pointer (some ⟨q,0,none⟩)]] w fun e w'=>
   ∃a c,e=.returned (.slice a l.length c)/\Hp [] w w' [.own 9 1 a l.length c (l.map .string)]:=by
 have C:(al.map (·.1)).Nodup:=B.nodup_iff.1 (G.imp fun h e=>by subst e;exact lt_irrefl _ h)
 have r:al.length<=maxLen:=by simp only[maxLen];omega
 obtain⟨D,n,i,t,rfl,N⟩:=QN (P:=Tryz.prog) (k:=9) L C r (fun s=>.string s.data.toList) (fun x y h=>by injection h) (fun p E=>WideMaps.keyOf_string_mk (by kernel_rfl) (M _ (B.mem_iff.2 (mem_map.2 ⟨p,E,rfl⟩))));have u:=F.lt
 have z:SeqGives Fence.wide 2 Tryz.prog 166 #[.pointer (some ⟨q,0,none⟩)] encStr (fun j=>j.Perm (strKeys (.map t))) (Maps.size (.map t)) w:=
  AnyZ.keys_gives (ρ:=aA) {aH with} Fence.wide _ trivial rfl (by omega) q b al.length (.map t) w u (F.cell rfl) n
 have I:=AnyZ.sorted_in TB Fence.wide 5 trivial trivial trivial trivial rfl (by omega) (YY _) (enters_of Tryz.func130 (by kernel_rfl) rfl) 166 #[.pointer (some ⟨q,0,none⟩)] trivial (enters_of Tryz.func166 (by kernel_rfl) rfl) _ _ (by rw[i];exact r) (by rw[i];exact o) w z;change CallsIn _ _ Tryz.prog 102 _ _ _ at I;refine Calls.mono (callsIn_wide.1 I) ?_;rintro e w' ⟨v,j,rfl,O,g,J,Q⟩
 have f:j.Perm (l.map fun x=>x.data.toList):=by
  refine O.trans ?_;have R:strKeys (.map t)=t.map fun p=>strOf p.1:=rfl;rw[R];refine(N.map _).trans ?_;rw[map_map];have S:((fun p:Lit×DataW Unit=>strOf p.1)∘fun p:ByteArray×Value=>(Lit.string p.1.data.toList,DataW.nil))=(fun x:ByteArray=>x.data.toList)∘(·.1):=rfl;rw[S,<- map_map];exact(B.symm.map _)
 have m:j.mergeSort (fun x y=>decide (x<=y))=l.map fun x=>x.data.toList:=by
  have T:∀a b c:List UInt8,decide (a<=b)=true->decide (b<=c)=true->decide (a<=c)=true:=fun a b c n i=>by simp only[decide_eq_true_eq]at*;exact le_trans n i
  have U:∀a b:List UInt8,(decide (a<=b)||decide (b<=a))=true:=fun a b=>by simp only[Bool.or_eq_true,decide_eq_true_eq];exact le_total a b
  refine List.Perm.eq_of_pairwise (le:=fun a b=>decide (a<=b)=true) (fun a b _ _ n i=>?_) (pairwise_mergeSort T U j) (pairwise_map.2 (G.imp fun h=>?_)) ((mergeSort_perm j _).trans f)
  ·simp only[decide_eq_true_eq]at n i;exact le_antisymm n i
  ·rw[decide_eq_true_eq];exact le_of_lt h
 have A:j.length=l.length:=by simpa using f.length_eq
 rw[m,A,map_map]at g;obtain⟨a,c,rfl,H⟩:=We Q g;refine⟨a,c,rfl,?_⟩
 have X:(encStr∘fun x:ByteArray=>x.data.toList)=Value.string:=by
  funext x;obtain⟨d⟩:=x;simp[encStr]
 rw[X]at H;exact H
theorem keysR_spec(mb:Option Nat)(w:World):Calls Tryz.prog 109 #[.map mb] w fun e w'=>
  ∃q,e=.returned (.func (.func 168) #[] #[.pointer (some ⟨q,0,none⟩)])/\Hp [] w w' [.blk q [.map mb] 114]:=by
 refine Calls.mono (callsIn_wide.1 (AnyZ.keys_in aI Fence.wide 5 trivial rfl mb w)) ?_;rintro e w' ⟨rfl,rfl⟩;exact⟨_,rfl,(Hp.start w).new (w':=w) ⟨rfl,rfl,rfl,rfl⟩ ⟨rfl,rfl⟩⟩
theorem sortedR_spec(q b:Nat)(al:List (ByteArray×Value))(w:World)(F:Blk w q [.map (some b)] 114)(L:MapAt Ff w b al)(l:List ByteArray)(B:l.Perm (al.map (·.1)))
  (G:l.Pairwise fun x y=>x.data.toList<y.data.toList) (M:∀x∈l,x.size<=maxLen) (o:al.length*16<=140737488355328):
  Calls Tryz.prog 102 #[.func (.func 168) #[] #[.pointer (some ⟨q,0,none⟩)]] w fun e w'=>
   ∃a c,e=.returned (.slice a l.length c)/\Hp [] w w' [.own 9 1 a l.length c (l.map .string)]:=by
 have C:(al.map (·.1)).Nodup:=B.nodup_iff.1 (G.imp fun h e=>by subst e;exact lt_irrefl _ h)
 have r:al.length<=maxLen:=by simp only[maxLen];omega
 obtain⟨D,n,i,t,rfl,N⟩:=QN (P:=Tryz.prog) (k:=9) L C r (fun s=>.string s.data.toList) (fun x y h=>by injection h) (fun p E=>WideMaps.keyOf_string_mk (by kernel_rfl) (M _ (B.mem_iff.2 (mem_map.2 ⟨p,E,rfl⟩))));have u:=F.lt
 have z:SeqGives Fence.wide 2 Tryz.prog 168 #[.pointer (some ⟨q,0,none⟩)] encStr (fun j=>j.Perm (strKeys (.map t))) (Maps.size (.map t)) w:=
  AnyZ.keys_gives (ρ:=Z7) {aI with} Fence.wide _ trivial rfl (by omega) q b al.length (.map t) w u (F.cell rfl) n
 have I:=AnyZ.sorted_in TB Fence.wide 5 trivial trivial trivial trivial rfl (by omega) (YY _) (enters_of Tryz.func130 (by kernel_rfl) rfl) 168 #[.pointer (some ⟨q,0,none⟩)] trivial (enters_of Tryz.func168 (by kernel_rfl) rfl) _ _ (by rw[i];exact r) (by rw[i];exact o) w z;change CallsIn _ _ Tryz.prog 102 _ _ _ at I;refine Calls.mono (callsIn_wide.1 I) ?_;rintro e w' ⟨v,j,rfl,O,g,J,Q⟩
 have f:j.Perm (l.map fun x=>x.data.toList):=by
  refine O.trans ?_;have R:strKeys (.map t)=t.map fun p=>strOf p.1:=rfl;rw[R];refine(N.map _).trans ?_;rw[map_map];have S:((fun p:Lit×DataW Unit=>strOf p.1)∘fun p:ByteArray×Value=>(Lit.string p.1.data.toList,DataW.nil))=(fun x:ByteArray=>x.data.toList)∘(·.1):=rfl;rw[S,<- map_map];exact(B.symm.map _)
 have m:j.mergeSort (fun x y=>decide (x<=y))=l.map fun x=>x.data.toList:=by
  have T:∀a b c:List UInt8,decide (a<=b)=true->decide (b<=c)=true->decide (a<=c)=true:=fun a b c n i=>by simp only[decide_eq_true_eq]at*;exact le_trans n i
  have U:∀a b:List UInt8,(decide (a<=b)||decide (b<=a))=true:=fun a b=>by simp only[Bool.or_eq_true,decide_eq_true_eq];exact le_total a b
  refine List.Perm.eq_of_pairwise (le:=fun a b=>decide (a<=b)=true) (fun a b _ _ n i=>?_) (pairwise_mergeSort T U j) (pairwise_map.2 (G.imp fun h=>?_)) ((mergeSort_perm j _).trans f)
  ·simp only[decide_eq_true_eq]at n i;exact le_antisymm n i
  ·rw[decide_eq_true_eq];exact le_of_lt h
 have A:j.length=l.length:=by simpa using f.length_eq
 rw[m,A,map_map]at g;obtain⟨a,c,rfl,H⟩:=We Q g;refine⟨a,c,rfl,?_⟩
 have X:(encStr∘fun x:ByteArray=>x.data.toList)=Value.string:=by
  funext x;obtain⟨d⟩:=x;simp[encStr]
 rw[X]at H;exact H
theorem keysW_spec(mb:Option Nat)(w:World):Calls Tryz.prog 129 #[.map mb] w fun e w'=>
  ∃q,e=.returned (.func (.func 190) #[] #[.pointer (some ⟨q,0,none⟩)])/\Hp [] w w' [.blk q [.map mb] 125]:=by
 refine Calls.mono (callsIn_wide.1 (AnyZI.keys_in Zm Fence.wide 5 trivial rfl mb w)) ?_;rintro e w' ⟨rfl,rfl⟩;exact⟨_,rfl,(Hp.start w).new (w':=w) ⟨rfl,rfl,rfl,rfl⟩ ⟨rfl,rfl⟩⟩
theorem sortedW_spec(q b:Nat)(al:List (Int×Value))(w:World)(E:Blk w q [.map (some b)] 125)(J:MapAt (CZ .i64) w b al)(l:List Int)(A:l.Perm (al.map (·.1)))
  (F:l.Pairwise fun x y=>x<y) (L:∀x∈l,-9223372036854775808<=x/\x<=9223372036854775807) (j:al.length*8<=140737488355328):
  Calls Tryz.prog 128 #[.func (.func 190) #[] #[.pointer (some ⟨q,0,none⟩)]] w fun e w'=>
   ∃a c,e=.returned (.slice a l.length c)/\Hp [] w w' [.own 3 1 a l.length c (l.map (.int .i64))]:=by
 have B:(al.map (·.1)).Nodup:=A.nodup_iff.1 (F.imp fun h e=>by omega)
 have m:al.length<=maxLen:=by simp only[maxLen];omega
 obtain⟨D,z,n,o,rfl,M⟩:=QN (P:=Tryz.prog) (k:=3) J B m (fun s=>.int .i64 s) (fun x y h=>by injection h) (fun p C=>keyOf_int_mk (by kernel_rfl) (by
  have:=L _ (A.mem_iff.2 (mem_map.2 ⟨p,C,rfl⟩));simp only[Lit.wf,Bool.and_eq_true,decide_eq_true_eq]
  exact CX.2 this))
 have r:=E.lt
 have t:SeqGives Fence.wide 2 Tryz.prog 190 #[.pointer (some ⟨q,0,none⟩)] encZ (fun g=>g.Perm (intKeys (.map o))) (Maps.size (.map o)) w:=
  AnyZI.keys_gives (ρ:=aY) {Zm with} Fence.wide _ trivial rfl (by omega) q b al.length (.map o) w r (E.cell rfl) z
 have G:=AnyZI.sorted_in sortedIL Fence.wide 5 trivial trivial trivial trivial rfl (by omega) (sortsI _) (enters_of Tryz.func189 (by kernel_rfl) rfl) 190 #[.pointer (some ⟨q,0,none⟩)] trivial (enters_of Tryz.func190 (by kernel_rfl) rfl) _ _ (by rw[n];exact m) (by rw[n];exact j) w t;change CallsIn _ _ Tryz.prog 128 _ _ _ at G;refine Calls.mono (callsIn_wide.1 G) ?_;rintro e w' ⟨v,g,rfl,N,f,I,O⟩
 have d:g.Perm l:=by
  refine N.trans ?_;have Q:intKeys (.map o)=o.map fun p=>Go.intOf p.1:=rfl;rw[Q];refine(M.map _).trans ?_;rw[map_map];have R:((fun p:Lit×DataW Unit=>Go.intOf p.1)∘fun p:Int×Value=>(Lit.int IntKind.i64 p.1,DataW.nil))=(·.1):=rfl;rw[R];exact A.symm
 have i:g.mergeSort (fun x y=>decide (x<=y))=l:=by
  have S:∀a b c:Int,decide (a<=b)=true->decide (b<=c)=true->decide (a<=c)=true:=fun a b c z n=>by simp only[decide_eq_true_eq]at*;omega
  have T:∀a b:Int,(decide (a<=b)||decide (b<=a))=true:=fun a b=>by simp only[Bool.or_eq_true,decide_eq_true_eq];omega
  refine List.Perm.eq_of_pairwise (le:=fun a b=>decide (a<=b)=true) (fun a b _ _ z n=>?_) (pairwise_mergeSort S T g) (F.imp fun h=>?_) ((mergeSort_perm g _).trans d)
  ·simp only[decide_eq_true_eq]at z n;omega
  ·rw[decide_eq_true_eq];omega
 have u:g.length=l.length:=d.length_eq;rw[i,u]at f;obtain⟨a,c,rfl,H⟩:=We O f;exact⟨a,c,rfl,H⟩
end Go.Proofs.YtljenkbpnioipaaGreat
namespace Go.Proofs.YtljenkbpnioipaaGreat.Sl
open Go Go.Vc
theorem scl3:Scl Tryz.prog 3:=BH (by kernel_rfl)
theorem scl5:Scl Tryz.prog 5:=BH (by kernel_rfl)
theorem D6:Scl Tryz.prog 95:=BH (by kernel_rfl)
theorem GU:Scl Tryz.prog 59:=BH (by kernel_rfl)
theorem aW:Agg Tryz.prog 162 4098:=Cb (by kernel_rfl)
structure Pg where
 st:List UInt8
 hdr:Nat
 dir:List (Nat×Nat)
 data:List UInt8
 many:Nat
 low:Nat
def dirB(d:List (Nat×Nat)):List UInt8:=d.flatMap fun p=>be p.1 2++be p.2 2
def Pg.bs(g:Pg):List UInt8:=g.st++(be g.hdr 2++(dirB g.dir++g.data))
def Pg.cells(g:Pg):List Value:=Ad g.bs++[.int .i64 (g.many:Int),.int .i64 (g.low:Int)]
structure Pg.Ok(g:Pg):Prop where
 st:g.st.length=8
 hdr:g.hdr<65536
 dir:g.dir.length=120
 data:g.data.length=3606
 many:g.many<=120
 ent:∀p∈g.dir,p.1<65536/\p.2<65536
 low:g.low<=4096
def pgA(b:Nat)(g:Pg):Asn:=.blk b g.cells 162
theorem Iu(d:List (Nat×Nat)):(dirB d).length=4*d.length:=by
 induction d with
 |nil=>rfl
 |cons p r a=>
  simp only[dirB,flatMap_cons,length_append,AV,length_cons]at a⊢;omega
theorem Jy(x y:List (Nat×Nat)):dirB (x++y)=dirB x++dirB y:=by simp[dirB]
theorem O1(p:Nat×Nat)(r:List (Nat×Nat)):dirB (p::r)=be p.1 2++be p.2 2++dirB r:=by simp[dirB]
theorem Us{d:List (Nat×Nat)}{k:Nat}(h:k<d.length):d=d.take k++d[k]::d.drop (k+1):=by
 rw[<- drop_eq_getElem_cons h,take_append_drop]
theorem Pg.Ok.len{g:Pg}(h:g.Ok):g.bs.length=4096:=by
 simp only[Pg.bs,length_append,AV,Iu,h.st,h.dir,h.data]
theorem Pg.Ok.clen{g:Pg}(h:g.Ok):g.cells.length=4098:=by
 simp only[Pg.cells,length_append,Ag,h.len,length_cons,length_nil]
theorem Pg.Ok.byte{g:Pg}(h:g.Ok){i:Nat}(a:i<4096):g.cells[i]? =some (.int .u8 ((g.bs[i]'(by rw[h.len];exact a)).toNat:Int)):=by
 rw[Pg.cells,List.getElem?_append_left (by rw[Ag,h.len];exact a)];simp[Ad,List.getElem?_eq_getElem (show i<g.bs.length by rw[h.len];exact a)]
theorem Pg.Ok.manyC{g:Pg}(h:g.Ok):g.cells[4096]? =some (.int .i64 (g.many:Int)):=by
 rw[Pg.cells,List.getElem?_append_right (by rw[Ag,h.len];exact Nat.le_refl _),Ag,h.len];rfl
theorem Pg.Ok.lowC{g:Pg}(h:g.Ok):g.cells[4097]? =some (.int .i64 (g.low:Int)):=by
 rw[Pg.cells,List.getElem?_append_right (by rw[Ag,h.len];omega),Ag,h.len];rfl
theorem Pg.Ok.entry{g:Pg}(h:g.Ok){k:Nat}(a:k<120):(g.bs.drop (10+4*k)).take 4=be (g.dir[k]'(by rw[h.dir];exact a)).1 2++be (g.dir[k]'(by rw[h.dir];exact a)).2 2:=by
 have b:k<g.dir.length:=by rw[h.dir];exact a
 have e:g.bs=(g.st++be g.hdr 2++dirB (g.dir.take k))++((be g.dir[k].1 2++be g.dir[k].2 2)++(dirB (g.dir.drop (k+1))++g.data)):=by
  conv=>lhs;rw[Pg.bs,Us b]
  rw[Jy,O1];simp only[append_assoc]
 have c:(g.st++be g.hdr 2++dirB (g.dir.take k)).length=10+4*k:=by
  simp only[length_append,AV,Iu,length_take,h.st];omega
 rw[e,drop_left _ _ _ c];exact take_left _ _ 4 (by simp[AV])
theorem take2{l:List UInt8}{i:Nat}(h:i+1<l.length):(l.drop i).take 2=[l[i],l[i+1]]:=by
 rw[drop_eq_getElem_cons (by omega),drop_eq_getElem_cons (by omega)];rfl
theorem valN_two(x y:UInt8):valN [x,y]=x.toNat*256+y.toNat:=by simp[valN]
theorem Pg.Ok.ent1{g:Pg}(h:g.Ok){k:Nat}(a:k<120):valN ((g.bs.drop (10+4*k)).take 2)=(g.dir[k]'(by rw[h.dir];exact a)).1:=by
 have e:=h.entry a;have b:=h.ent _ (getElem_mem (show k<g.dir.length by rw[h.dir];exact a))
 have:(g.bs.drop (10+4*k)).take 2=((g.bs.drop (10+4*k)).take 4).take 2:=by rw[take_take];rfl
 rw[this,e,take_left _ _ 2 (AV _ _)];have:=Gx (n:=((g.dir[k]'(by rw[h.dir];exact a)).1:Int)) (k:=2) (by omega) (by omega);omega
theorem Pg.Ok.ent2{g:Pg}(h:g.Ok){k:Nat}(a:k<120):valN ((g.bs.drop (10+4*k+2)).take 2)=(g.dir[k]'(by rw[h.dir];exact a)).2:=by
 have e:=h.entry a;have b:=h.ent _ (getElem_mem (show k<g.dir.length by rw[h.dir];exact a))
 have:(g.bs.drop (10+4*k+2)).take 2=((g.bs.drop (10+4*k)).take 4).drop 2:=by rw[List.drop_take,drop_drop]
 rw[this,e,drop_left _ _ 2 (AV _ _)];have:=Gx (n:=((g.dir[k]'(by rw[h.dir];exact a)).2:Int)) (k:=2) (by omega) (by omega);omega
def PgAt(w:World)(b:Nat)(g:Pg):Prop:=g.Ok/\Blk w b g.cells 162
theorem PgAt.chg{w w':World}{b:Nat}{g:Pg}{S:List Nat}(h:PgAt w b g)(hc:Chg S w w')(a:b∉S):PgAt w' b g:=⟨h.1,h.2.chg hc a⟩
theorem PgAt.ldB{w:World}{b:Nat}{g:Pg}(h:PgAt w b g){i:Nat}(a:i<4096):Ld Tryz.prog 5 w ⟨b,i,none⟩ (.int .u8 ((g.bs[i]'(by rw[h.1.len];exact a)).toNat:Int)):=h.2.ld scl5.agg (h.1.byte a)
theorem PgAt.Gy{w:World}{b:Nat}{g:Pg}(h:PgAt w b g):Ld Tryz.prog 3 w ⟨b,4096,none⟩ (.int .i64 (g.many:Int)):=h.2.ld scl3.agg h.1.manyC
theorem PgAt.QK{w:World}{b:Nat}{g:Pg}(h:PgAt w b g):Ld Tryz.prog 3 w ⟨b,4097,none⟩ (.int .i64 (g.low:Int)):=h.2.ld scl3.agg h.1.lowC
theorem addB(b i:Nat):(⟨b,0,none⟩:Addr).add i=⟨b,i,none⟩:=by rw[add_lit,Nat.zero_add]
theorem Rl(b:Nat)(g:Pg)(i:Nat)(k:i+1<4096)(w:World)(h:PgAt w b g):
  Calls Tryz.prog 146 #[.pointer (some ⟨b,0,none⟩),.int .i64 (i:Int)] w fun e w'=>e=.returned (.int .i64 (valN ((g.bs.drop i).take 2):Int))/\Hp [] w w' []:=by
 apply two.ok;unfold two.vc;have H:=(Hp.start w).drew;have a:=h.chg H.chg (by simp);have l:=h.1.len
 have c:Int.toNat (i:Int)*1=i:=by omega
 have d:Int.toNat ((i:Int)+1)*1=i+1:=by omega
 refine AA rfl ⟨⟨by omega,by omega⟩,_,by rw[c,addB];exact a.ldB (by omega),by omega,?_⟩;have m:=(g.bs[i]'(by omega)).toNat_lt;have f:=(g.bs[i+1]'(by omega)).toNat_lt;rw[wrapByte]
 have j:(2:Int)^min (Int.toNat 8) (IntKind.bits .i64)=256:=by decide
 refine⟨CX.2 (by rw[j];omega),iR,AA rfl ⟨⟨by omega,by omega⟩,_,by rw[d,addB];exact a.ldB (by omega),?_,H⟩⟩;rw[Xw _ _ (by omega) f,take2 (by omega),valN_two]
theorem Ip(b:Nat)(g:Pg)(k:Int)(w:World)(h:PgAt w b g):
  Calls Tryz.prog 86 #[.pointer (some ⟨b,0,none⟩),.int .i64 k] w fun e w'=>e=.returned (.tuple #[.int .i64 (if 0<=k/\k<g.many then((g.dir.getD k.toNat (0,0)).1:Int)else 0),.int .i64 (if 0<=k/\k<g.many then((g.dir.getD k.toNat (0,0)).2:Int)else 0)])/\Hp [] w w' []:=by
 apply slot.ok;unfold slot.vc;have H:=Hp.start w;have m:=h.1.many;refine AB (fun d=>?_) (fun d=>AA rfl ⟨_,by rw[addB];exact h.Gy,AB (fun f=>?_) (fun f=>?_)⟩)
 ·rw[if_neg (by omega),if_neg (by omega)];exact⟨rfl,H⟩
 ·rw[if_neg (by omega),if_neg (by omega)];exact⟨rfl,H⟩
 ·obtain⟨K,rfl⟩:∃K:Nat,k=K:=⟨k.toNat,by omega⟩
  have c:K<120:=by omega
  rw[if_pos (by omega),if_pos (by omega)]
  have i:(10:Int)+4*(K:Int)=((10+4*K:Nat):Int):=by omega
  have j:((10+4*K:Nat):Int)+2=((10+4*K+2:Nat):Int):=by omega
  rw[i,j];refine⟨iR,iR,AC (Rl b g _ (by omega) _ h) ?_⟩
  (rintro _ _ ⟨rfl,a⟩;(first|replace H:=H.ext0 a|replace H:=H.drew.ext0 a|replace H:=H.drew.drew.ext0 a);clear a;refine⟨_,rfl,?_⟩)
  refine⟨iR,iR,iR,AC (Rl b g _ (by omega) _ (h.chg H.chg (by simp))) ?_⟩
  (rintro _ _ ⟨rfl,a⟩;(first|replace H:=H.ext0 a|replace H:=H.drew.ext0 a|replace H:=H.drew.drew.ext0 a);clear a;refine⟨_,rfl,?_⟩)
  have l:K<g.dir.length:=by rw[h.1.dir];exact c
  rw[h.1.ent1 c,h.1.ent2 c];simp only[Int.toNat_natCast,getD_eq_getElem?_getD,List.getElem?_eq_getElem l,Option.getD_some];exact⟨trivial,H⟩
theorem MM(l:List UInt8)(i:Nat)(x:UInt8):(Ad l).set i (.int .u8 (x.toNat:Int))=Ad (l.set i x):=by simp[Ad,List.map_set]
theorem Pg.cells_set{g:Pg}(h:g.Ok){i:Nat}(a:i<4096)(x:UInt8):g.cells.set i (.int .u8 (x.toNat:Int))=Ad (g.bs.set i x)++[.int .i64 (g.many:Int),.int .i64 (g.low:Int)]:=by
 rw[Pg.cells,set_append,if_pos (by rw[Ag,h.len];exact a),MM]
theorem set2(l:List UInt8)(a x c:List UInt8)(p q:UInt8)(b:x.length=2)(i:Nat)(d:i=a.length)(e:l=a++(x++c)):(l.set i p).set (i+1) q=a++([p,q]++c):=by
 subst e d
 match x,b with
 | [x1,x2],_=>
  rw[set_append,if_neg (by omega),Nat.sub_self];rw[set_append,if_neg (by omega),show a.length+1-a.length=1 by omega];rfl
theorem be2(n:Nat):be (n:Int) 2=[bt n 1,bt n 0]:=rfl
theorem lay_bytes(n:Nat):IntKind.u8.wrap (Int.fdiv (n:Int) (2^min (Int.toNat 8) (IntKind.bits .i64)))=((bt n 1).toNat:Int)/\IntKind.u8.wrap (n:Int)=((bt n 0).toNat:Int):=by
 have a:=Ns (n:Int) 1 (by omega) 1 rfl;have b:=Ns (n:Int) 0 (by omega) 0 rfl;refine⟨a,?_⟩;rw[<- b];simp
theorem Iw(b:Nat)(g d:Pg)(a x c:List UInt8)(i n:Nat)(m:x.length=2)(o:a.length=i)(u:i+1<4096)(p:g.bs=a++(x++c))(f:d.bs=a++(be (n:Int) 2++c))(j:d.many=g.many)(k:d.low=g.low)(w:World)(h:PgAt w b g):
  Calls Tryz.prog 172 #[.pointer (some ⟨b,0,none⟩),.int .i64 (i:Int),.int .i64 (n:Int)] w fun e w'=>e=.returned (.tuple #[])/\Hp [b] w w' [pgA b d]:=by
 apply lay.ok;unfold lay.vc;have H:Hp [b] w w [pgA b g]:=Hp.Ii (a:=pgA b g) h.2;replace H:=H.drew;have l:=h.1.clen;obtain⟨q,r⟩:=lay_bytes n
 have s:Int.toNat (i:Int)*1=i:=by omega
 have t:Int.toNat ((i:Int)+1)*1=i+1:=by omega
 refine⟨iR,by omega,AA rfl ⟨⟨by omega,by omega⟩,AA rfl ?_⟩⟩;rw[s,t,addB,addB,q,r];refine Hp.st H EQ4 scl5 rfl rfl (by rw[l];omega) rfl ?_;clear H;intro y H;rw[Pg.cells_set h.1 (by omega)]at H;refine⟨⟨by omega,by omega⟩,Hp.st H EQ4 scl5 rfl rfl (by rw[length_append,Ag,length_set,h.1.len];simp;omega) rfl ?_⟩;clear H;intro z H;rw[set_append,if_pos (by rw[Ag,length_set,h.1.len];omega),MM,set2 g.bs a x c _ _ m i o.symm p,<- be2,<- f,<- j,<- k,<- Pg.cells]at H;exact⟨rfl,H⟩
theorem Pg.Zz{g:Pg}(h:g.Ok){k:Nat}(b:k<120)(p q:Nat):({g with dir:=g.dir.set k (p,q)}:Pg).bs=(g.st++be g.hdr 2++dirB (g.dir.take k))++(be p 2++(be q 2++(dirB (g.dir.drop (k+1))++g.data))):=by
 have a:k<g.dir.length:=by rw[h.dir];exact b
 have e:g.dir.set k (p,q)=g.dir.take k++(p,q)::g.dir.drop (k+1):=by
  rw[List.set_eq_take_append_cons_drop,if_pos a]
 simp only[Pg.bs,e,Jy,O1,append_assoc]
def setD(g:Pg)(k at_ long:Nat):Pg:= {g with dir:=g.dir.set k (at_,long)}
theorem Y2{g:Pg}(h:g.Ok){k at_ a:Nat}(h1:at_<65536)(c:a<65536):(setD g k at_ a).Ok:=
 ⟨h.st,h.hdr,by simp[setD,h.dir],h.data,h.many,fun p b=>by
  rcases List.mem_or_eq_of_mem_set b with b|rfl
  ·exact h.ent p b
  ·exact⟨h1,c⟩,h.low⟩
theorem Np(b:Nat)(g:Pg)(k at_ a:Nat)(l:k<120)(h1:at_<65536)(q:a<65536)(w:World)(h:PgAt w b g):
  Calls Tryz.prog 171 #[.pointer (some ⟨b,0,none⟩),.int .i64 (k:Int),.int .i64 (at_:Int),.int .i64 (a:Int)] w fun e w'=>e=.returned (.tuple #[])/\(setD g k at_ a).Ok/\Hp [b] w w' [pgA b (setD g k at_ a)]:=by
 apply set.ok;unfold set.vc
 have d:k<g.dir.length:=by rw[h.1.dir];exact l
 have r:(10:Int)+4*(k:Int)=((10+4*k:Nat):Int):=by omega
 have s:((10+4*k:Nat):Int)+2=((10+4*k+2:Nat):Int):=by omega
 rw[r,s]
 have o:(g.st++be g.hdr 2++dirB (g.dir.take k)).length=10+4*k:=by
  simp only[length_append,AV,Iu,length_take,h.1.st];omega
 have c:g.bs=(g.st++be g.hdr 2++dirB (g.dir.take k))++(be g.dir[k].1 2++(be g.dir[k].2 2++(dirB (g.dir.drop (k+1))++g.data))):=by
  conv=>lhs;rw[Pg.bs,Us d]
  rw[Jy,O1];simp only[append_assoc]
 have f:=h.1.ent _ (getElem_mem d);refine⟨iR,iR,AC (Iw b g (setD g k at_ g.dir[k].2) _ _ _ _ at_ (AV _ 2) o (by omega) c (Pg.Zz h.1 l _ _) rfl rfl w h) ?_⟩;rintro e p ⟨rfl,H⟩;have m:=Y2 (k:=k) h.1 h1 f.2;have t:PgAt p b (setD g k at_ g.dir[k].2):=⟨m,H.ok _ (.head _)⟩;refine⟨rfl,iR,iR,iR,?_⟩
 have n:(g.st++be g.hdr 2++dirB (g.dir.take k)++be (at_:Int) 2).length=10+4*k+2:=by rw[length_append,o,AV]
 have i:=Pg.Zz h.1 l at_ g.dir[k].2
 have j:=Pg.Zz h.1 l at_ a
 rw[<- append_assoc]at i j;refine AC (Iw b _ (setD g k at_ a) _ _ _ _ a (AV _ 2) n (by omega) i j rfl rfl p t) ?_;rintro e x ⟨rfl,u⟩;exact⟨rfl,rfl,Y2 h.1 h1 q,H.BX u⟩
def atOf(g:Pg)(k:Nat):Nat:=(g.dir.getD k (0,0)).1
def lenOf(g:Pg)(k:Nat):Nat:=(g.dir.getD k (0,0)).2
theorem Pg.Ok.atB{g:Pg}(h:g.Ok)(k:Nat):atOf g k<65536/\lenOf g k<65536:=by
 simp only[atOf,lenOf,getD_eq_getElem?_getD]
 cases hk:g.dir[k]? with
 |none=>simp
 |some p=>exact h.ent p (mem_of_getElem? hk)
theorem QQ(b:Nat)(g:Pg)(k:Nat)(a:k<g.many)(w:World)(h:PgAt w b g):
  Calls Tryz.prog 86 #[.pointer (some ⟨b,0,none⟩),.int .i64 (k:Int)] w fun e w'=>e=.returned (.tuple #[.int .i64 (atOf g k:Int),.int .i64 (lenOf g k:Int)])/\Hp [] w w' []:=by
 refine Calls.mono (Ip b g k w h) ?_;rintro e w' ⟨rfl,H⟩;rw[if_pos (by omega),if_pos (by omega)];exact⟨rfl,H⟩
theorem each_spec(b:Nat)(q:Value)(N:Nat)(I:Nat->World->Prop)(J:World->Prop)(w:World)(r:I 0 w)(l:∃g,PgAt w b g/\g.many=N)
  (t:∀k w,k<N->I k w->∃g,PgAt w b g/\g.many=N/\∀w',Hp [] w w' []->(atOf g k=0->I (k+1) w')/\(0<atOf g k->EX Tryz.prog q [.int .i64 (k:Int)] w' fun e d=>(e=.returned (.bool true)/\I (k+1) d)\/(e=.returned (.bool false)/\J d))):
  Calls Tryz.prog 85 #[.pointer (some ⟨b,0,none⟩),q] w fun e w'=>e=.returned (.tuple #[])/\(I N w'\/J w'):=by
 apply each.ok;unfold each.vc;obtain⟨B,f,i⟩:=l
 have C:N<=120:=by rw[<- i];exact f.1.many
 refine AA rfl ⟨_,by rw[addB];exact f.Gy,?_⟩;rw[i];refine AP.mk (fun m s w'=>∃k:Nat,m=N-k/\s=(k:Int)/\k<=N/\I k w') N ⟨0,rfl,rfl,Nat.zero_le _,r⟩ ?_
 rintro m s w' next ⟨k,rfl,rfl,D,j⟩ a
 refine AB (fun h=>?_) (fun h=>?_)
 ·obtain⟨g,u,x,c⟩:=t k w' (by omega) j
  refine AC (QQ b g k (by omega) _ u) ?_;rintro e y ⟨rfl,H⟩;obtain⟨n,o⟩:=c y H;refine⟨_,_,rfl,AB (fun z=>?_) (fun z=>?_)⟩
  ·refine ZY (o (by omega)) ?_
   rintro e E (⟨rfl,p⟩|⟨rfl,A⟩)
   ·exact⟨_,rfl,Fh (fun h=>by cases h) fun _=>⟨iR,a (N-(k+1)) _ _ (by omega) ⟨k+1,rfl,by simp,by omega,p⟩⟩⟩
   ·exact⟨_,rfl,Fh (fun _=>⟨rfl,.inr A⟩) fun h=>by cases h⟩
  ·exact⟨iR,a (N-(k+1)) _ _ (by omega) ⟨k+1,rfl,by simp,by omega,n (by omega)⟩⟩
 ·have:k=N:=by omega
  subst this;exact⟨rfl,.inl j⟩
theorem FB{B:List Nat}{w0 w:World}{L R:List Asn}{x:Asn}(H:Hp B w0 w (L++x::R)):Hp B w0 w (x::(L++R)):=H.perm List.perm_middle
theorem front_mid{B:List Nat}{w0 w:World}{L R:List Asn}{x:Asn}(H:Hp B w0 w (x::(L++R))):Hp B w0 w (L++x::R):=H.perm List.perm_middle.symm
theorem TV{B:List Nat}{w0 w:World}{L R:List Asn}{l:Nat}{o o':Obj}(H:Hp B w0 w (L++objA l o::R)):Hp B w0 (w.putObj l o') (L++objA l o'::R):=front_mid (FB H).putO
theorem Jf{σ ρ:Type}{d:Int->World->(World->(World->Prop)->Prop)->(World->Prop)->(World->Prop)->(Nat->World->Prop)->Prop}{R S:Nat->World->Prop}{Qx:Nat->Nat->World->Prop}{B:List Nat}{w0 w:World}
  (b N:Nat) (F:Nat->σ->Pg) (Lk:Nat->σ->List Asn) (a:Nat->σ->Prop) (G:ρ->List Asn) (f:ρ->Prop) (o:σ) (t:a 0 o) (H:Hp B w0 w (Lk 0 o))
  (u:∀k x w' T,a k x->Hp B w0 w' (Lk k x++T)->PgAt w' b (F k x)/\(F k x).many=N)
  (j:∀k x,k<N->a k x->atOf (F k x) k=0->∃x',a (k+1) x'/\Lk (k+1) x'=Lk k x)
  (i:∀k x,k<N->a k x->0<atOf (F k x) k->∀(w':World)(T0 I:List Asn)(g:World->(World->Prop)->Prop)(kn U:World->Prop)(kx:Nat->World->Prop),Hp B w0 w' (Lk k x++T0)->
   (∀J:World->Prop,(∀p,Hp B w0 p (Lk k x++I)->J p)->g w' J)->(∀m x',a (k+1) x'->Hp B w0 m (Lk (k+1) x'++I)->kn m)->(∀m y,f y->Hp B w0 m (G y++I)->U m)->d (k:Int) w' g kn U kx)
  (z:∀x D w',a N x->Hp B w0 w' (Lk N x++[objA D (.deferred (some []))])->R D w')
  (A:∀y D w',f y->Hp B w0 w' (G y++[objA D (.deferred (some []))])->S D w'):
  Ej Tryz.prog 85 [.pointer (some ⟨b,0,none⟩)] [] (fun s:Int=>[.int .i64 s]) d w R S Qx:=by
 refine⟨fun D l wa K h hD hl hy=>?_⟩
 have X:Hp B w0 K (Lk 0 o++[objA l (h .ready none),objA D (.deferred (some []))]):=by
  have h1:=H.newO ⟨rfl,rfl,rfl,rfl⟩ hD;have h2:=h1.newO ⟨rfl,rfl,rfl,rfl⟩ hl;refine h2.perm ?_;exact(List.perm_append_comm (l₁:=[objA l (h .ready none),objA D (.deferred (some []))]) (l₂:=Lk 0 o))
 refine AC (each_spec b _ N (fun k w'=>∃x,a k x/\Hp B w0 w' (Lk k x++[objA l (h .ready none),objA D (.deferred (some []))])) (fun w'=>∃y,f y/\Hp B w0 w' (G y++[objA l (h .done (some .ret)),objA D (.deferred (some []))])) K ⟨o,t,X⟩ ⟨_,u 0 o K _ t X⟩ ?_) ?_
 ·rintro k w' Y ⟨x,C,q⟩
  obtain⟨L,M⟩:=u k x w' _ C q;refine⟨_,L,M,fun p Z=>⟨fun O=>?_,fun O=>?_⟩⟩
  ·obtain⟨x',n,he⟩:=j k x Y C O
   exact⟨x',n,by rw[he];exact q.ext0 Z⟩
  ·have r:=q.ext0 Z
   have c:=(FB r).obj (.head _);refine hy (k:Int) p _ (i k x Y C O p _ [objA l (h .busy none),objA D (.deferred (some []))] _ _ _ _ r ?_ ?_ ?_) c
   ·intro J P
    exact⟨c,P _ (TV r)⟩
   ·intro m x' n E
    exact⟨(FB E).obj (.head _),.inl ⟨rfl,x',n,TV E⟩⟩
   ·intro m y Q E
    exact⟨(FB E).obj (.head _),.inr ⟨rfl,y,Q,TV E⟩⟩
 ·rintro e p ⟨rfl,⟨x,C,q⟩|⟨y,Q,r⟩⟩
  ·exact⟨_,rfl,.inl ⟨(FB q).obj (.head _),z x D _ C (FB q).putO.drop⟩⟩
  ·exact⟨_,rfl,.inr (.inl ⟨(FB r).obj (.head _),A y D _ Q (FB r).putO.drop⟩)⟩
def live(g:Pg)(k:Nat):List Nat:=(List.range k).filter fun j=>decide (0<atOf g j)
theorem JK(g:Pg)(k:Nat):live g (k+1)=if 0<atOf g k then live g k++[k]else live g k:=by
 simp only[live,List.range_succ,List.filter_append];split<;>rename_i h<;>simp[h]
theorem Ri(g:Pg)(k:Nat):(live g k).length<=k:=by
 have:=List.length_filter_le (fun j=>decide (0<atOf g j)) (List.range k)
 rwa [List.length_range]at this
def intC(l:List Nat):List Value:=l.map fun(k:Nat)=>Value.int .i64 (k:Int)
theorem ZJ:Elt Tryz.prog 59 3 1 8:=CQ (by kernel_rfl)
theorem Yo:Tryz.prog.underlying 59=some (.slice 3):=by kernel_rfl
theorem slots_spec(b:Nat)(g:Pg)(w:World)(h:PgAt w b g):
  Calls Tryz.prog 47 #[.pointer (some ⟨b,0,none⟩)] w fun e w'=>∃a c,e=.returned (.slice a (live g g.many).length c)/\Hp [] w w' [.own 3 1 a (live g g.many).length c (intC (live g g.many))]:=by
 apply slots.ok;unfold slots.vc;have H:=Hp.start w
 have l:maxLen=9223372036854775807:=by simp[maxLen]
 have z:=h.1.many
 (intro _ _ d;replace H:=H.nw d;clear d)
 rename_i n _;refine⟨_,_,_,rfl,⟨_,_,Tryz.func85,rfl⟩,?_⟩
 refine Jf b g.many (fun _ _=>g) (fun k (x:Option Addr×Nat)=>[.own 3 1 x.1 (live g k).length x.2 (intC (live g k)),.blk n [.slice x.1 (live g k).length x.2] 59]) (fun _ _=>True) (fun _:Unit=>[]) (fun _=>False) (none,0) trivial (by simpa [live,intC]using H.nilS 3 1)
  (fun k x w' T _ H=>⟨h.chg H.chg (by simp),rfl⟩) (fun k x o _ m=>⟨x,trivial,by rw[JK,if_neg (by omega)]⟩) ?_ ?_ (fun y D w' p _=>p.elim)
 ·clear H
  intro k x o _ m w' A B i C E F _ f j _;refine f _ fun G H=>?_;simp only[cons_append,nil_append]at H;have q:=Ri g k
  ((repeat apply Exists.intro);refine⟨H.lo GU,?_⟩;intro _ _ d;replace H:=H.nw d;clear d)
  refine Hp.app ZJ (by omega) H.Af EQ4 (Blk.src Yo (H.blk (.head _)) rfl rfl) (by omega) (by omega) ?_;clear H;intro r s I H
  (apply Hp.st;(case H=>exact H.BA);(case e=>exact⟨rfl,rfl,rfl,rfl⟩);(case S=>exact GU);(case hv=>exact rfl);(case h1=>exact rfl);(case ho=>exact Nat.le_of_ble_eq_true rfl);(case hc=>exact rfl);clear H;intro _ H;(try simp only[over,set_cons_zero,set_cons_succ]at H))
  have e:live g (k+1)=live g k++[k]:=by rw[JK,if_pos m]
  refine j _ (r,s) trivial ?_
  have t:(live g (k+1)).length=(live g k).length+1:=by rw[e];simp
  have u:intC (live g (k+1))=intC (live g k)++[.int .i64 (k:Int)]:=by rw[e];simp[intC]
  rw[t,u];exact H.del2.Af
 ·clear H
  intro x D w' _ H;simp only[cons_append,nil_append]at H
  ((repeat apply Exists.intro);refine⟨H.lo GU,?_⟩)
  refine Hp.shut H.BA fun J H=>?_;exact⟨x.1,x.2,rfl,H.Ls⟩
def total(g:Pg)(k:Nat):Nat:=((live g k).map (lenOf g)).sum
theorem Lt(g:Pg)(k:Nat):total g (k+1)=if 0<atOf g k then total g k+lenOf g k else total g k:=by
 simp only[total,JK];split<;>simp
theorem total_le{g:Pg}(h:g.Ok)(k:Nat):total g k<=65535*k:=by
 induction k with
 |zero=>exact Nat.le_of_eq rfl
 |succ k a=>
  rw[Lt,Nat.mul_succ];have:=(h.atB k).2;generalize 65535*k=y at a⊢;split<;>omega
theorem room_spec(b:Nat)(g:Pg)(w:World)(h:PgAt w b g):
  Calls Tryz.prog 169 #[.pointer (some ⟨b,0,none⟩)] w fun e w'=>e=.returned (.int .i64 (3600-(total g g.many:Int)))/\Hp [] w w' []:=by
 apply room.ok;unfold room.vc;have H:=Hp.start w;have p:=h.1.many
 (intro _ _ a;replace H:=H.nw a;clear a;intro _ _ a;replace H:=H.nw a;clear a;apply Hp.st;(case H=>exact H);(case e=>exact⟨rfl,rfl,rfl,rfl⟩);(case S=>exact scl3);(case hv=>exact rfl);(case h1=>exact rfl);(case ho=>exact Nat.le_of_ble_eq_true rfl);(case hc=>exact rfl);clear H;intro _ H;(try simp only[over,set_cons_zero,set_cons_succ]at H);(repeat apply Exists.intro);refine⟨H.lo D6,?_⟩)
 rename_i m _ n _ _;refine⟨_,_,_,rfl,⟨_,_,Tryz.func85,rfl⟩,?_⟩
 refine Jf b g.many (fun _ _=>g) (fun k (_:Unit)=>[.blk n [.int .i64 (3600-(total g k:Int))] 3,.blk m [.pointer (some ⟨b,0,none⟩)] 95]) (fun _ _=>True) (fun _:Unit=>[]) (fun _=>False) () trivial (by simpa [total,live]using H)
  (fun k x w' T _ H=>⟨h.chg H.chg (by simp),rfl⟩) (fun k x i _ j=>⟨x,trivial,by rw[Lt,if_neg (by omega)]⟩) ?_ ?_ (fun y D w' o _=>o.elim)
 ·clear H
  intro k x i _ j w' q r d s t u _ c f _;refine c _ fun z H=>?_;simp only[cons_append,nil_append]at H;have A:=(h.1.atB k).2;have B:=total_le h.1 k
  ((repeat apply Exists.intro);refine⟨H.lo D6,?_⟩)
  refine AC (QQ b g k i _ (h.chg H.chg (by simp))) ?_;rintro e C ⟨rfl,l⟩;replace H:=H.ext0 l;clear l;refine⟨_,_,rfl,?_⟩
  ((repeat apply Exists.intro);refine⟨H.lo scl3,?_⟩)
  refine⟨iR,?_⟩
  (apply Hp.st;(case H=>exact H);(case e=>exact⟨rfl,rfl,rfl,rfl⟩);(case S=>exact scl3);(case hv=>exact rfl);(case h1=>exact rfl);(case ho=>exact Nat.le_of_ble_eq_true rfl);(case hc=>exact rfl);clear H;intro _ H;(try simp only[over,set_cons_zero,set_cons_succ]at H))
  refine f _ () trivial ?_
  have e:(3600:Int)-(total g (k+1):Int)=3600-(total g k:Int)-(lenOf g k:Int):=by rw[Lt,if_pos j];omega
  rw[e];exact H
 ·clear H
  intro x D w' _ H;simp only[cons_append,nil_append]at H
  ((repeat apply Exists.intro);refine⟨H.lo scl3,?_⟩)
  refine Hp.shut H.BA fun E H=>?_;exact⟨rfl,H.done⟩
theorem X4:Tryz.prog.underlying 159=some (.slice 5):=by kernel_rfl
theorem und5:Tryz.prog.underlying 5=some (.int .u8):=by kernel_rfl
theorem und9:Tryz.prog.underlying 9=some .string:=by kernel_rfl
theorem PgAt.cellsB{w:World}{b:Nat}{g:Pg}(h:PgAt w b g)(i:Nat)(n:Nat)(e:i+n<=4096):Cells w (slA (some ⟨b,0,none⟩) 4096 i 1) (Ad ((g.bs.drop i).take n)):=by
 intro j v a;have f:=h.1.len
 have c:j<n:=by
  have:=(List.getElem?_eq_some_iff.1 a).1;rw[Ag,length_take,length_drop]at this;omega
 have d:v=.int .u8 ((g.bs[i+j]'(by omega)).toNat:Int):=by
  simp only[Ad,List.getElem?_map,List.getElem?_take,List.getElem?_drop,if_pos c,List.getElem?_eq_getElem (show i+j<g.bs.length by omega),Option.map_some,Option.some.injEq]at a;exact a.symm
 subst d;unfold slA;rw[if_neg (by omega)];refine⟨_,rfl,?_⟩;rw[Nat.mul_one,add_add,addB];exact h.2.cell (h.1.byte (by omega))
def recB(g:Pg)(k:Nat):List UInt8:=(g.bs.drop (atOf g k)).take (lenOf g k)
theorem get_spec(b:Nat)(g:Pg)(k:Int)(w:World)(h:PgAt w b g)(a:∀j,j<g.many->atOf g j+lenOf g j<=4096):
  Calls Tryz.prog 48 #[.pointer (some ⟨b,0,none⟩),.int .i64 k] w fun e w'=>e=.returned (if 0<=k/\k<g.many/\0<atOf g k.toNat then .tuple #[sv (recB g k.toNat),.bool true]else .tuple #[sv [],.bool false])/\Hp [] w w' []:=by
 apply get.ok;unfold get.vc;have H:=Hp.start w;refine AC (Ip b g k w h) ?_;rintro e i ⟨rfl,d⟩;replace H:=H.ext0 d;clear d;refine⟨_,_,rfl,?_⟩;by_cases c:0<=k/\k<g.many
 ·rw[if_pos c,if_pos c]
  obtain⟨K,rfl⟩:∃K:Nat,k=K:=⟨k.toNat,by omega⟩
  have l:K<g.many:=by omega
  have m:=a K l;rw[Int.toNat_natCast];show br (decide ((atOf g K:Int)=0)) _ _;refine AB (fun n=>?_) (fun n=>AA rfl ?_)
  ·rw[if_neg (by omega)];exact⟨rfl,H⟩
  ·rw[if_pos ⟨by omega,by omega,by omega⟩]
   have o:Int.toNat (atOf g K:Int)=atOf g K:=by omega
   have p:Int.toNat ((atOf g K:Int)+(lenOf g K:Int))=atOf g K+lenOf g K:=by omega
   show inR .i64 ((atOf g K:Int)+(lenOf g K:Int))/\_;refine⟨iR,⟨by omega,by show(atOf g K:Int)<=(atOf g K:Int)+(lenOf g K:Int);omega,by show(atOf g K:Int)+(lenOf g K:Int)<=4096;omega⟩,⟨(recB g K).toArray⟩,?_,rfl,H⟩;show B2S Tryz.prog 159 9 i (.slice (slA (some ⟨b,0,none⟩) 4096 (Int.toNat (atOf g K:Int)) 1) (Int.toNat ((atOf g K:Int)+(lenOf g K:Int))-Int.toNat (atOf g K:Int)) _) _;rw[o,p];have q:=h.1.len;exact b2s X4 und5 und9 (by rw[CP];exact(h.chg H.chg (by simp)).cellsB _ _ m) (by simp[ByteArray.size,recB];omega)
 ·rw[if_neg c,if_neg c,if_neg (fun f=>c ⟨f.1,f.2.1⟩)]
  exact AB (fun _=>⟨rfl,H⟩) (fun h=>absurd rfl h)
abbrev Recs:=List (Nat×List UInt8)
def tot(L:Recs):Nat:=(L.map (·.2.length)).sum
def Laid(d:List (Nat×Nat)):Nat→Recs→Prop
  |a,[]=>a=4096
  |a,(k,s)::r=>d[k]? =some (a,s.length)∧Laid d (a+s.length) r
structure Rep(g:Pg)(L:Recs)(stamp:Nat):Prop where
  ok:g.Ok
  st:g.st=be (stamp:Int) 8
  stamp:stamp≤4611686018427387904
  hdr:g.hdr=g.many
  sorted:L.Pairwise fun x y=>x.1<y.1
  below:∀p∈L,p.1<g.many
  last:g.many=0∨∃s,(g.many-1,s)∈L
  free:∀k,k<g.many→(∀s,(k,s)∉L)→g.dir.getD k (0,0)=(0,0)
  ord:∃ord:Recs,ord.Perm L∧Laid g.dir g.low ord∧g.data.drop (g.low-490)=ord.flatMap (·.2)
  small:tot L≤3600
  low:g.low+tot L=4096
theorem TJ{x y:Recs}(h:x.Perm y):tot x=tot y:=(h.map _).sum_nat
theorem Tj(x y:Recs):tot (x++y)=tot x+tot y:=by simp[tot]
theorem FQ(p:Nat×List UInt8)(y:Recs):tot (p::y)=p.2.length+tot y:=by simp[tot]
theorem BI(x:Recs):(x.flatMap (·.2)).length=tot x:=by
  induction x with
  |nil=>rfl
  |cons p r a=>rw[flatMap_cons,length_append,a,FQ]
theorem ND{d:List (Nat×Nat)}:∀(b:Recs){a k:Nat}{s:List UInt8}{c:Recs},Laid d a (b++(k,s)::c)→d[k]? =some (a+tot b,s.length)∧Laid d (a+tot b+s.length) c
  | [],a,k,s,c,h=>by simpa [tot,Laid]using h
  |(j,t)::b,a,k,s,c,h=>by
    obtain⟨_,e⟩:=h
    have:=ND b e
    rw[FQ,show a+(t.length+tot b)=a+t.length+tot b by omega]
    exact this
theorem Xh{d:List (Nat×Nat)}:∀(x:Recs){a:Nat},Laid d a x→a+tot x=4096
  | [],a,h=>by simpa [tot,Laid]using h
  |(k,s)::r,a,h=>by
    have:=Xh r h.2
    rw[FQ];simp only;omega
theorem sorted_nodup{L:Recs}(h:L.Pairwise fun x y=>x.1<y.1):(L.map (·.1)).Nodup:=by
  rw[List.nodup_iff_pairwise_ne,pairwise_map]
  exact h.imp fun h=>by omega
theorem one_key{L:Recs}(h:L.Pairwise fun x y=>x.1<y.1){k:Nat}{s t:List UInt8}(h1:(k,s)∈L)(f:(k,t)∈L):s=t:=by
  induction L with
  |nil=>cases h1
  |cons p r i=>
    obtain⟨b,j⟩:=pairwise_cons.1 h
    rcases mem_cons.1 h1 with c|d<;>rcases mem_cons.1 f with a|e
    · rw[← c]at a;exact(Prod.mk.inj a).2.symm
    · have:=b _ e;rw[← c]at this;simp at this
    · have:=b _ d;rw[← a]at this;simp at this
    · exact i j d e
theorem VJ:∀{x y:List Nat},x.Pairwise (· < ·)→y.Pairwise (· < ·)→(∀k,k∈x↔k∈y)→x=y
  | [],[],_,_,_=>rfl
  | [],b::y,_,_,h=>by have:=(h b).2 (.head _);cases this
  |a::x,[],_,_,h=>by have:=(h a).1 (.head _);cases this
  |a::x,b::y,hx,hy,h=>by
    obtain⟨c,i⟩:=pairwise_cons.1 hx
    obtain⟨d,j⟩:=pairwise_cons.1 hy
    have l:a=b:=by
      rcases mem_cons.1 ((h a).1 (.head _))with e|m
      · exact e
      · rcases mem_cons.1 ((h b).2 (.head _))with e|n
        · exact e.symm
        · have:=d a m;have:=c b n;omega
    subst l
    congr 1
    refine VJ i j fun k=>⟨fun f=>?_,fun f=>?_⟩
    · rcases mem_cons.1 ((h k).1 (.tail _ f))with e|m
      · subst e;have:=c k f;omega
      · exact m
    · rcases mem_cons.1 ((h k).2 (.tail _ f))with e|m
      · subst e;have:=d k f;omega
      · exact m
section
variable {g : Pg} {L : Recs} {stamp : Nat}
theorem Rep.entry(h:Rep g L stamp){k:Nat}{s:List UInt8}(i:(k,s)∈L):∃b a:Recs,(b++(k,s)::a).Perm L∧Laid g.dir g.low (b++(k,s)::a)∧g.data.drop (g.low-490)=(b++(k,s)::a).flatMap (·.2)∧g.dir[k]? =some (g.low+tot b,s.length)∧g.low+tot b+s.length+tot a=4096∧496≤g.low:=by
  obtain⟨j,c,d,l⟩:=h.ord
  obtain⟨b,a,e⟩:=List.append_of_mem (c.mem_iff.2 i)
  subst e
  have f:=ND b d
  have m:=Xh a f.2
  have:=h.low
  have:=h.small
  exact⟨b,a,c,d,l,f.1,m,by omega⟩
theorem OL{d:List (Nat×Nat)}{k:Nat}{p:Nat×Nat}(h:d[k]? =some p):d.getD k (0,0)=p:=by rw[getD_eq_getElem?_getD,h];rfl
theorem Rep.at_(h:Rep g L stamp){k:Nat}{s:List UInt8}(j:(k,s)∈L):496≤atOf g k∧lenOf g k=s.length∧atOf g k+lenOf g k≤4096∧recB g k=s:=by
  obtain⟨a,b,o,p,l,c,q,r⟩:=h.entry j
  have e:=OL c
  have m:atOf g k=g.low+tot a:=by rw[atOf,e]
  have d:lenOf g k=s.length:=by rw[lenOf,e]
  refine⟨by omega,d,by omega,?_⟩
  have f:g.bs.drop 490=g.data:=by
    have:g.bs=(g.st++(be g.hdr 2++dirB g.dir))++g.data:=by simp[Pg.bs]
    rw[this]
    exact drop_left _ _ _ (by simp only[length_append,AV,Iu,h.ok.st,h.ok.dir])
  have i:=h.ok.low
  have:g.bs.drop (atOf g k)=(g.data.drop (g.low-490)).drop (tot a):=by
    have n:atOf g k=490+(g.low-490)+tot a:=by
      rw[m];clear f c e;omega
    rw[← f,drop_drop,drop_drop,n,Nat.add_assoc]
  rw[recB,this,l,d,flatMap_append,flatMap_cons]
  rw[drop_left _ _ _ (BI a)]
  exact take_left _ _ _ rfl
theorem Rep.Iz(h:Rep g L stamp){k:Nat}:(k<g.many∧0<atOf g k)↔∃s,(k,s)∈L:=by
  constructor
  · rintro⟨c,b⟩
    refine Classical.byContradiction fun d=>?_
    have:=h.free k c fun s a=>d ⟨s,a⟩
    rw[atOf,this]at b;simp at b
  · rintro⟨s,a⟩
    have:=h.at_ a
    exact⟨h.below _ a,by omega⟩
theorem Rep.QL(h:Rep g L stamp):live g g.many=L.map (·.1):=by
  refine VJ ?_ ?_ fun k=>?_
  · exact List.pairwise_lt_range.filter _
  · rw[pairwise_map];exact h.sorted
  · simp only[live,mem_filter,List.mem_range,decide_eq_true_eq,h.Iz,mem_map]
    constructor
    · rintro⟨s,a⟩;exact⟨_,a,rfl⟩
    · rintro⟨⟨b,s⟩,a,rfl⟩;exact⟨s,a⟩
theorem Rep.total_eq(h:Rep g L stamp):total g g.many=tot L:=by
  rw[total,h.QL,tot,map_map]
  congr 1
  refine List.map_congr_left fun p a=>?_
  exact(h.at_ (k:=p.1) (s:=p.2) a).2.1
theorem Rep.fit(h:Rep g L stamp)(j:Nat)(b:j<g.many):atOf g j+lenOf g j≤4096:=by
  by_cases a:∃s,(j,s)∈L
  · obtain⟨s,a⟩:=a;exact(h.at_ a).2.2.1
  · have:=h.free j b fun s c=>a ⟨s,c⟩
    rw[atOf,lenOf,this];simp
end
def Bc(d:List (Nat×Nat))(a n k:Nat):List (Nat×Nat):=d.mapIdx fun j p=>if j<k∧0<p.1∧p.1≤a then(p.1+n,p.2)else p
theorem Bj(d:List (Nat×Nat))(a n k j:Nat):(Bc d a n k)[j]? =d[j]?.map fun p=>if j<k∧0<p.1∧p.1≤a then(p.1+n,p.2)else p:=by
  simp[Bc]
theorem shiftD_zero(d:List (Nat×Nat))(a n:Nat):Bc d a n 0=d:=by
  apply ext_getElem?
  intro j
  rw[Bj]
  cases d[j]? <;>simp
theorem Jb(d:List (Nat×Nat))(a n k:Nat):(Bc d a n k).length=d.length:=by simp[Bc]
theorem Uo(d:List (Nat×Nat))(a n k:Nat):(Bc d a n k).getD k (0,0)=d.getD k (0,0):=by
  simp only[getD_eq_getElem?_getD,Bj]
  cases d[k]? <;>simp
theorem QH(d:List (Nat×Nat))(a n k:Nat):Bc d a n (k+1)=if 0<(d.getD k (0,0)).1∧(d.getD k (0,0)).1≤a then(Bc d a n k).set k ((d.getD k (0,0)).1+n,(d.getD k (0,0)).2)else Bc d a n k:=by
  apply ext_getElem?
  intro j
  by_cases h:j=k
  · subst h
    by_cases i:j<d.length
    · have e:d[j]? =some d[j]:=List.getElem?_eq_getElem i
      have f:d.getD j (0,0)=d[j]:=OL e
      rw[f]
      split
      · rename_i c
        rw[List.getElem?_set_self (by rw[Jb];exact i),Bj,e]
        simp[c.1,c.2]
      · rename_i c
        rw[Bj,Bj,e]
        simp only[Option.map_some]
        rw[if_neg (fun l=>c l.2),if_neg (by omega)]
    · have e:d[j]? =none:=List.getElem?_eq_none (by omega)
      have f:d.getD j (0,0)=(0,0):=by rw[getD_eq_getElem?_getD,e];rfl
      rw[f,if_neg (by simp),Bj,Bj,e];rfl
  · have m:(Bc d a n (k+1))[j]? =(Bc d a n k)[j]? :=by
      rw[Bj,Bj]
      cases d[j]? with
      |none=>rfl
      |some p=>
        simp only[Option.map_some,Option.some.injEq]
        by_cases b:j<k
        · simp[b,show j<k+1 by omega]
        · simp[b,show¬j<k+1 by omega]
    rw[m]
    split
    · rw[List.getElem?_set_ne (Ne.symm h)]
    · rfl
def trim(d:List (Nat×Nat)):Nat→Nat
  |0=>0
  |m+1=>if(d.getD m (0,0)).1=0 then trim d m else m+1
theorem Na(d:List (Nat×Nat)):∀m,trim d m≤m
  |0=>Nat.le_refl _
  |m+1=>by
    rw[trim]
    split
    · exact Nat.le_succ_of_le (Na d m)
    · exact Nat.le_refl _
theorem VX(d:List (Nat×Nat)):∀m,trim d m=0∨(d.getD (trim d m-1) (0,0)).1≠0
  |0=>.inl rfl
  |m+1=>by
    rw[trim]
    split
    · exact VX d m
    · right;simpa using ‹_›
theorem NC(d:List (Nat×Nat)):∀m k,trim d m≤k→k<m→(d.getD k (0,0)).1=0
  |0,k,_,h=>by omega
  |m+1,k,h1,h2=>by
    rw[trim]at h1
    split at h1
    · by_cases a:k=m
      · subst a;assumption
      · exact NC d m k h1 (by omega)
    · omega
def DZ (g : Pg) (k : Nat) : Pg :=
  let a := atOf g k
  let n := lenOf g k
  let d := (Bc g.dir a n g.many).set k (0,0)
  { g with dir := d,low := g.low + n,many := trim d g.many,hdr := trim d g.many
           data := g.data.take (g.low - 490) ++ (List.replicate n 0 ++ ((g.data.drop (g.low - 490)).take (a - g.low) ++ g.data.drop (a + n - 490))) }
theorem Rep.drop{g:Pg}{L:Recs}{stamp:Nat}(h:Rep g L stamp){k:Nat}{s:List UInt8}(hm:(k,s)∈L):Rep (DZ g k) (L.filter fun p=>p.1 !=k) stamp:=by
  obtain⟨pre,post,h1,h2,h3,h4,h5,h6⟩:=h.entry hm
  have hat:=h.at_ hm
  have hkm:=h.below _ hm
  have e:=OL h4
  have ea:atOf g k=g.low+tot pre:=by rw[atOf,e]
  have el:lenOf g k=s.length:=by rw[lenOf,e]
  have hok:=h.ok
  have hdl:=hok.data
  have hml:=hok.many
  have hnd:((pre++(k,s)::post).map (·.1)).Nodup:=(h1.map _).nodup_iff.2 (sorted_nodup h.sorted)
  have hkpre:∀p∈pre,p.1≠k:=by
    intro p hp he
    rw[map_append,map_cons,nodup_append]at hnd
    exact hnd.2.2 _ (List.mem_map_of_mem hp) _ (.head _) he
  have hkpost:∀p∈post,p.1≠k:=by
    intro p hp he
    rw[map_append,map_cons,nodup_append]at hnd
    exact(List.nodup_cons.1 hnd.2.1).1 (by show k∈post.map (·.1);rw[← he];exact List.mem_map_of_mem hp)
  have hfilt:(pre++(k,s)::post).filter (fun p=>p.1 !=k)=pre++post:=by
    rw[List.filter_append,filter_cons]
    have a1:pre.filter (fun p=>p.1 !=k)=pre:=filter_eq_self.2 fun p hp=>by simpa using hkpre p hp
    have a2:post.filter (fun p=>p.1 !=k)=post:=filter_eq_self.2 fun p hp=>by simpa using hkpost p hp
    simp[a1,a2]
  have hperm:(pre++post).Perm (L.filter fun p=>p.1 !=k):=by rw[← hfilt];exact h1.filter _
  have htot:tot (pre++(k,s)::post)=tot L:=TJ h1
  rw[Tj,FQ]at htot
  simp only at htot
  have hlow:=h.low
  have hsmall:=h.small
  have hd':∀j t a,(j,t)∈pre++post→g.dir[j]? =some (a,t.length)→(DZ g k).dir[j]? =some (if 0<a∧a≤atOf g k then a+s.length else a,t.length):=by
    intro j t a hj hd
    have hjk:j≠k:=by
      rcases mem_append.1 hj with hj|hj
      · exact hkpre _ hj
      · exact hkpost _ hj
    have hjm:j<g.many:=h.below (j,t) (h1.mem_iff.1 (by simp only[mem_append,mem_cons]at hj⊢;rcases hj with hj|hj<;>simp[hj]))
    show((Bc g.dir (atOf g k) (lenOf g k) g.many).set k (0,0))[j]? =_
    rw[List.getElem?_set_ne (Ne.symm hjk),Bj,hd]
    simp only[Option.map_some,hjm,true_and,el]
    split<;>simp
  have hfree:∀j,j<g.many→(∀t,(j,t)∉pre++post)→(DZ g k).dir.getD j (0,0)=(0,0):=by
    intro j hj hn
    show((Bc g.dir (atOf g k) (lenOf g k) g.many).set k (0,0)).getD j (0,0)=_
    rw[getD_eq_getElem?_getD]
    by_cases hjk:j=k
    · subst hjk
      rw[List.getElem?_set_self (by rw[Jb,hok.dir];omega)];rfl
    · rw[List.getElem?_set_ne (Ne.symm hjk),Bj]
      have:=h.free j hj fun t ht=>by
        rcases mem_append.1 (h1.mem_iff.2 ht)with h7|h7
        · exact hn t (List.mem_append_left _ h7)
        · rcases mem_cons.1 h7 with h8|h8
          · exact hjk (Prod.mk.inj h8).1
          · exact hn t (List.mem_append_right _ h8)
      rw[getD_eq_getElem?_getD]at this
      cases hd:g.dir[j]? with
      |none=>rfl
      |some p=>rw[hd]at this;simp only[Option.getD_some]at this;subst this;simp
  have hlaid:Laid (DZ g k).dir (DZ g k).low (pre++post):=by
    have hpo:=(ND pre h2).2
    have hpre:∀(x:Recs)(a:Nat)(y:Recs),Laid g.dir a (x++(k,s)::y)→(∀p∈x,p∈pre++post)→0<a→a+tot x=atOf g k→Laid (DZ g k).dir (a+s.length+tot x) y→Laid (DZ g k).dir (a+s.length) (x++y):=by
      intro x
      induction x with
      |nil=>intro a y _ _ _ _ hy;simpa [tot]using hy
      |cons p x ih=>
        intro a y hl hx h0 hle hy
        obtain⟨j,t⟩:=p
        obtain⟨hl1,hl2⟩:=hl
        rw[FQ]at hle hy
        simp only at hle hy
        refine⟨?_,?_⟩
        · rw[hd' j t a (hx _ (.head _)) hl1,if_pos ⟨h0,by omega⟩]
        · rw[show a+s.length+t.length=a+t.length+s.length by omega]
          refine ih (a+t.length) y hl2 (fun q hq=>hx q (.tail _ hq)) (by omega) (by omega) ?_
          rw[show a+t.length+s.length+tot x=a+s.length+(t.length+tot x) by omega];exact hy
    have hpost:∀(y:Recs)(a:Nat),Laid g.dir a y→(∀p∈y,p∈pre++post)→atOf g k+s.length≤a→Laid (DZ g k).dir a y:=by
      intro y
      induction y with
      |nil=>intro a hl _ _;exact hl
      |cons p y ih=>
        intro a hl hy hle
        obtain⟨j,t⟩:=p
        obtain⟨hl1,hl2⟩:=hl
        refine⟨?_,ih _ hl2 (fun q hq=>hy q (.tail _ hq)) (by omega)⟩
        rw[hd' j t a (hy _ (.head _)) hl1]
        split
        · rename_i hc
          have:s.length=0:=by omega
          rw[this];rfl
        · rfl
    have:=hpre pre g.low post h2 (fun p hp=>List.mem_append_left _ hp) (by omega) (by omega) (by
      rw[show g.low+s.length+tot pre=g.low+tot pre+s.length by omega]
      exact hpost post _ hpo (fun p hp=>List.mem_append_right _ hp) (by omega))
    show Laid (DZ g k).dir (g.low+lenOf g k) (pre++post)
    rw[el];exact this
  have hmany:(DZ g k).many=trim (DZ g k).dir g.many:=rfl
  have hin:∀j t,(j,t)∈pre++post→j<g.many∧0<((DZ g k).dir.getD j (0,0)).1:=by
    intro j t hj
    have hjm:(j,t)∈L:=h1.mem_iff.1 (by simp only[mem_append,mem_cons]at hj⊢;rcases hj with hj|hj<;>simp[hj])
    obtain⟨_,_,_,_,_,hj4,_,_⟩:=h.entry hjm
    refine⟨h.below _ hjm,?_⟩
    rw[OL (hd' j t _ hj hj4)]
    simp only
    split<;>omega
  have hpt:tot (pre++post)+s.length=tot L:=by rw[Tj];omega
  have hpt2:tot (L.filter fun p=>p.1 !=k)=tot (pre++post):=(TJ hperm).symm
  refine⟨⟨hok.st,?_,?_,?_,?_,?_,?_⟩,h.st,h.stamp,rfl,h.sorted.filter _,?_,?_,?_,⟨pre++post,hperm,hlaid,?_⟩,by omega,?_⟩
  · have:=Na (DZ g k).dir g.many
    show trim (DZ g k).dir g.many<65536
    omega
  · show((Bc g.dir (atOf g k) (lenOf g k) g.many).set k (0,0)).length=120
    rw[length_set,Jb,hok.dir]
  · show(g.data.take (g.low-490)++(List.replicate (lenOf g k) 0++((g.data.drop (g.low-490)).take (atOf g k-g.low)++g.data.drop (atOf g k+lenOf g k-490)))).length=3606
    simp only[length_append,length_take,length_replicate,length_drop,hdl]
    omega
  · have:=Na (DZ g k).dir g.many
    show trim (DZ g k).dir g.many≤120
    omega
  · intro p hp
    have hp':p∈(Bc g.dir (atOf g k) (lenOf g k) g.many).set k (0,0):=hp
    rcases List.mem_or_eq_of_mem_set hp' with hp'|rfl
    · obtain⟨j,hj⟩:=List.getElem?_of_mem hp'
      rw[Bj]at hj
      cases hd:g.dir[j]? with
      |none=>rw[hd]at hj;cases hj
      |some q=>
        rw[hd]at hj
        simp only[Option.map_some,Option.some.injEq]at hj
        have:=hok.ent q (mem_of_getElem? hd)
        rw[← hj]
        split
        · simp only;omega
        · exact this
    · simp
  · show g.low+lenOf g k≤4096
    omega
  · rintro⟨j,t⟩ hp
    obtain⟨hj1,hj2⟩:=hin j t (hperm.mem_iff.2 hp)
    rw[hmany]
    refine Classical.byContradiction fun hn=>?_
    have:=NC (DZ g k).dir g.many j (by simp only at hn;omega) hj1
    omega
  · rw[hmany]
    rcases VX (DZ g k).dir g.many with h0|h0
    · exact .inl h0
    · refine .inr ?_
      have htl:=Na (DZ g k).dir g.many
      by_cases hz:trim (DZ g k).dir g.many=0
      · exfalso
        apply h0
        rw[hz]
        by_cases hmz:0<g.many
        · exact NC (DZ g k).dir g.many 0 (by omega) hmz
        · omega
      refine Classical.byContradiction fun hn=>h0 ?_
      rw[hfree _ (by omega) fun t ht=>hn ⟨t,hperm.mem_iff.1 ht⟩]
  · intro j hj hn
    rw[hmany]at hj
    have htl:=Na (DZ g k).dir g.many
    exact hfree j (by omega) fun t ht=>hn t (hperm.mem_iff.1 ht)
  · show(g.data.take (g.low-490)++(List.replicate (lenOf g k) 0++((g.data.drop (g.low-490)).take (atOf g k-g.low)++g.data.drop (atOf g k+lenOf g k-490)))).drop (g.low+lenOf g k-490)=_
    rw[← append_assoc,drop_left _ _ _ (by simp only[length_append,length_take,length_replicate,hdl];omega)]
    have e6:(g.data.drop (g.low-490)).take (atOf g k-g.low)=pre.flatMap (·.2):=by
      rw[h3,flatMap_append]
      exact take_left _ _ _ (by rw[BI];omega)
    have e7:g.data.drop (atOf g k+lenOf g k-490)=post.flatMap (·.2):=by
      have:atOf g k+lenOf g k-490=(g.low-490)+(tot pre+s.length):=by omega
      rw[this,← drop_drop,h3,flatMap_append,flatMap_cons,← append_assoc]
      exact drop_left _ _ _ (by rw[length_append,BI])
    rw[e6,e7,flatMap_append]
  · show g.low+lenOf g k+_=4096
    omega
theorem Pg.YQ{g:Pg}(h:g.Ok)(m:Nat):g.cells.set 4096 (.int .i64 (m:Int))=({g with many:=m}:Pg).cells:=by
 rw[Pg.cells,set_append,if_neg (by rw[Ag,h.len];omega),Ag,h.len];rfl
theorem Pg.ZN{g:Pg}(h:g.Ok)(m:Nat):g.cells.set 4097 (.int .i64 (m:Int))=({g with low:=m}:Pg).cells:=by
 rw[Pg.cells,set_append,if_neg (by rw[Ag,h.len];omega),Ag,h.len];rfl
def sl(i:Nat):Nat:=if 4096=i then 0 else i
theorem Ru(b i:Nat):slA (some ⟨b,0,none⟩) 4096 i 1=some ⟨b,sl i,none⟩:=by
 unfold slA sl;split
 ·rfl
 ·rw[Option.map_some,Nat.mul_one,addB]
theorem WS(x:List Value)(i:Nat)(cs:List Value)(h:i+x.length<=4096):over x (sl i) cs=over x i cs:=by
 unfold sl;split
 ·have:x=[]:=List.eq_nil_of_length_eq_zero (by omega)
  subst this;rw[CO,CO]
 ·rfl
theorem Z9(i:Nat):sl i<=i:=by unfold sl;split<;>omega
def F6(g:Pg)(i:Nat)(x:List UInt8):Pg:= {g with data:=g.data.take (i-490)++(x++g.data.drop (i-490+x.length))}
theorem MP{g:Pg}(h:g.Ok){i:Nat}{x:List UInt8}(h1:490<=i)(a:i+x.length<=4096):(F6 g i x).Ok:=
 ⟨h.st,h.hdr,h.dir,by simp only[F6,length_append,length_take,length_drop,h.data];omega,h.many,h.ent,h.low⟩
theorem Oz{g:Pg}(h:g.Ok){i:Nat}{x:List UInt8}(h1:490<=i)(o:i+x.length<=4096):over (Ad x) i g.cells=(F6 g i x).cells:=by
 have f:=h.data
 have e:g.data=g.data.take (i-490)++((g.data.drop (i-490)).take x.length++g.data.drop (i-490+x.length)):=by
  rw[<- drop_drop,take_append_drop,take_append_drop]
 obtain⟨p,j⟩:∃p,p=g.st++(be g.hdr 2++dirB g.dir):=⟨_,rfl⟩
 have c:p.length=490:=by rw[j];simp only[length_append,AV,Iu,h.st,h.dir]
 have k:∀d:List UInt8,({g with data:=d}:Pg).bs=p++d:=fun d=>by rw[j];simp[Pg.bs]
 have a:g.bs=p++g.data:=k g.data
 have l:g.cells=Ad (p++g.data.take (i-490))++(Ad ((g.data.drop (i-490)).take x.length)++(Ad (g.data.drop (i-490+x.length))++[.int .i64 (g.many:Int),.int .i64 (g.low:Int)])):=by
  conv=>lhs;rw[Pg.cells,a,e]
  simp only[CB,append_assoc]
 have m:(F6 g i x).cells=Ad (p++g.data.take (i-490))++(Ad x++(Ad (g.data.drop (i-490+x.length))++[.int .i64 (g.many:Int),.int .i64 (g.low:Int)])):=by
  show Ad ({g with data:=g.data.take (i-490)++(x++g.data.drop (i-490+x.length))}:Pg).bs++_=_;rw[k];simp only[CB,append_assoc];rfl
 have n:(Ad (p++g.data.take (i-490))).length=i:=by rw[Ag,length_append,c,length_take,f];omega
 rw[l,m];have b:=FT (Ad x) (Ad (p++g.data.take (i-490))) (Ad ((g.data.drop (i-490)).take x.length)) (Ad (g.data.drop (i-490+x.length))++[.int .i64 (g.many:Int),.int .i64 (g.low:Int)]) (by rw[Ag,Ag,length_take,length_drop,f];omega);rw[n]at b;exact b
theorem PX(n:Nat):List.replicate n (Value.int .u8 0)=Ad (List.replicate n 0):=by simp[Ad]
theorem zero5:zeroOf Tryz.prog 5=some (.int .u8 0):=by kernel_rfl
theorem pgOf{B:List Nat}{w0 w w':World}{L:List Asn}{b:Nat}{g:Pg}(a:g.Ok)(H:Hp B w0 w L)(e:Eqw w w')(m:pgA b g∈L):PgAt w' b g:=⟨a,(H.go e).ok _ m⟩
theorem nodrop_spec(b:Nat)(g:Pg)(k:Int)(i:¬(0<=k/\k<g.many/\0<atOf g k.toNat))(w:World)(h:PgAt w b g):
  Calls Tryz.prog 170 #[.pointer (some ⟨b,0,none⟩),.int .i64 k] w fun e w'=>e=.returned (.tuple #[])/\Hp [] w w' []:=by
 apply drop.ok;unfold drop.vc;have H:=Hp.start w
 (intro _ _ a;replace H:=H.nw a;clear a)
 ((repeat apply Exists.intro);refine⟨H.lo D6,?_⟩)
 refine AC (Ip b g k _ (h.chg H.chg (by simp))) ?_;rintro e j ⟨rfl,d⟩;replace H:=H.ext0 d;clear d
 have c:(if 0<=k/\k<(g.many:Int)then((g.dir.getD k.toNat (0,0)).1:Int)else 0)=0:=by
  split
  ·rename_i f
   have:¬0<atOf g k.toNat:=fun c=>i ⟨f.1,f.2,c⟩;have l:(g.dir.getD k.toNat (0,0)).1=atOf g k.toNat:=rfl;omega
  ·rfl
 rw[c];refine⟨_,_,rfl,?_⟩
 (intro _ _ a;replace H:=H.nw a;clear a)
 (intro _ _ a;replace H:=H.nw a;clear a)
 (apply Hp.st;(case H=>exact H.Af);(case e=>exact⟨rfl,rfl,rfl,rfl⟩);(case S=>exact scl3);(case hv=>exact rfl);(case h1=>exact rfl);(case ho=>exact Nat.le_of_ble_eq_true rfl);(case hc=>exact rfl);clear H;intro _ H;(try simp only[over,set_cons_zero,set_cons_succ]at H))
 (apply Hp.st;(case H=>exact H.Af);(case e=>exact⟨rfl,rfl,rfl,rfl⟩);(case S=>exact scl3);(case hv=>exact rfl);(case h1=>exact rfl);(case ho=>exact Nat.le_of_ble_eq_true rfl);(case hc=>exact rfl);clear H;intro _ H;(try simp only[over,set_cons_zero,set_cons_succ]at H))
 ((repeat apply Exists.intro);refine⟨H.lo scl3,?_⟩)
 exact AB (fun _=>⟨rfl,H.done⟩) (fun h=>absurd rfl h)
theorem drop_spec(b:Nat)(g:Pg)(L:Recs)(stamp:Nat)(hR:Rep g L stamp)(K:Nat)(s:List UInt8)(hK:(K,s)∈L)(w:World)(h:Blk w b g.cells 162):
  Calls Tryz.prog 170 #[.pointer (some ⟨b,0,none⟩),.int .i64 (K:Int)] w fun e w'=>e=.returned (.tuple #[])/\Hp [b] w w' [pgA b (DZ g K)]:=by
 apply drop.ok;unfold drop.vc;have H:Hp [b] w w [pgA b g]:=Hp.Ii (a:=pgA b g) h;have hok:=hR.ok;have hml:=hok.many;have hdl:=hok.data;obtain⟨pre,post,p1,p2,p3,p4,p5,p6⟩:=hR.entry hK;obtain⟨q1,q2,q3,q4⟩:=hR.at_ hK;have hkm:=hR.below _ hK
 have ea:atOf g K=g.low+tot pre:=by rw[atOf,OL p4]
 (intro _ _ hn;replace H:=H.nw hn;clear hn)
 ((repeat apply Exists.intro);refine⟨H.lo D6,?_⟩)
 refine AC (QQ b g K hkm _ ⟨hok,H.ok _ m1⟩) ?_;rintro e w1 ⟨rfl,H'⟩;replace H:=H.ext0 H';clear H';refine⟨_,_,rfl,?_⟩
 (intro _ _ hn;replace H:=H.nw hn;clear hn)
 (intro _ _ hn;replace H:=H.nw hn;clear hn)
 (apply Hp.st;(case H=>exact H.Af);(case e=>exact⟨rfl,rfl,rfl,rfl⟩);(case S=>exact scl3);(case hv=>exact rfl);(case h1=>exact rfl);(case ho=>exact Nat.le_of_ble_eq_true rfl);(case hc=>exact rfl);clear H;intro _ H;(try simp only[over,set_cons_zero,set_cons_succ]at H))
 (apply Hp.st;(case H=>exact H.Af);(case e=>exact⟨rfl,rfl,rfl,rfl⟩);(case S=>exact scl3);(case hv=>exact rfl);(case h1=>exact rfl);(case ho=>exact Nat.le_of_ble_eq_true rfl);(case hc=>exact rfl);clear H;intro _ H;(try simp only[over,set_cons_zero,set_cons_succ]at H))
 ((repeat apply Exists.intro);refine⟨H.lo scl3,?_⟩)
 rename_i b0 _ b1 _ b2 _ _ _
 generalize hat:atOf g K=at_ at*
 generalize hln:lenOf g K=n at*;refine AB (fun h0=>absurd h0 (by omega)) (fun _=>?_);replace H:=H.drew;have hpl:∀w',Hp [b] w w' [.blk b2 [.int .i64 (n:Int)] 3,.blk b1 [.int .i64 (at_:Int)] 3,.blk b0 [.pointer (some ⟨b,0,none⟩)] 95,pgA b g]->PgAt w' b g:=fun w' H=>⟨hok,H.ok _ m3⟩
 ((repeat apply Exists.intro);refine⟨H.lo D6,?_⟩)
 refine AA rfl ?_
 ((repeat apply Exists.intro);refine⟨H.lo D6,?_⟩)
 refine AA rfl ⟨_,by rw[addB];exact(hpl _ H).QK,?_⟩
 ((repeat apply Exists.intro);refine⟨H.lo scl3,?_⟩)
 refine⟨iR,?_⟩
 ((repeat apply Exists.intro);refine⟨H.lo scl3,?_⟩)
 ((repeat apply Exists.intro);refine⟨H.lo scl3,?_⟩)
 have e1:Int.toNat ((g.low:Int)+(n:Int))=g.low+n:=by omega
 have e2:Int.toNat ((at_:Int)+(n:Int))=at_+n:=by omega
 have e3:Int.toNat (g.low:Int)=g.low:=by omega
 have e4:Int.toNat (at_:Int)=at_:=by omega
 dsimp only;rw[e1,e2];refine⟨iR,⟨by omega,by omega,by omega⟩,?_⟩
 ((repeat apply Exists.intro);refine⟨H.lo D6,?_⟩)
 refine AA rfl ?_
 ((repeat apply Exists.intro);refine⟨H.lo D6,?_⟩)
 refine AA rfl ⟨_,by rw[addB];exact(hpl _ H).QK,?_⟩
 ((repeat apply Exists.intro);refine⟨H.lo scl3,?_⟩)
 dsimp only;rw[e3,e4];refine⟨⟨by omega,by omega,by omega⟩,?_⟩;have hcell:=(hpl _ H).cellsB g.low (at_-g.low) (by omega);rw[Ru]at hcell;rw[Ru,Ru]
 have hbl:((g.bs.drop g.low).take (at_-g.low)).length=at_-g.low:=by rw[length_take,length_drop,hok.len];omega
 have hsl:=Z9 (g.low+n);refine Hp.cpy H.D7 EQ4 X4 scl5.size (Cells.src X4 hcell (by rw[Ag,hbl,Nat.mul_one]) (MR _) (fun h=>by cases h)) (by omega) (by rw[hok.clen];omega) ?_;clear H hcell;intro w3 H
 have hd490:g.bs.drop 490=g.data:=by
  have:g.bs=(g.st++(be g.hdr 2++dirB g.dir))++g.data:=by simp[Pg.bs]
  rw[this];exact drop_left _ _ _ (by simp only[length_append,AV,Iu,hok.st,hok.dir])
 have hmv:(g.bs.drop g.low).take (at_-g.low)=(g.data.drop (g.low-490)).take (at_-g.low):=by
  rw[<- hd490,drop_drop,show 490+(g.low-490)=g.low by omega]
 rw[WS _ _ _ (by rw[Ag,hbl];omega),Oz hok (by omega) (by rw[hbl];omega)]at H;have ok1:=MP hok (i:=g.low+n) (x:=(g.bs.drop g.low).take (at_-g.low)) (by omega) (by rw[hbl];omega);obtain⟨g1,hg1⟩:∃g1,g1=F6 g (g.low+n) ((g.bs.drop g.low).take (at_-g.low)):=⟨_,rfl⟩;rw[<- hg1]at H ok1
 have hdir1:g1.dir=g.dir:=by rw[hg1];rfl
 have hmany1:g1.many=g.many:=by rw[hg1];rfl
 have hlow1:g1.low=g.low:=by rw[hg1];rfl
 have okS:∀k,({g1 with dir:=Bc g.dir at_ n k}:Pg).Ok:=fun k=>⟨ok1.st,ok1.hdr,by rw[Jb];exact hok.dir,ok1.data,ok1.many,fun p hp=>by
  obtain⟨j,hj⟩:=List.getElem?_of_mem hp;rw[Bj]at hj
  cases hd:g.dir[j]? with
  |none=>rw[hd]at hj;cases hj
  |some q=>
   rw[hd]at hj;simp only[Option.map_some,Option.some.injEq]at hj;have:=hok.ent q (mem_of_getElem? hd);rw[<- hj];split
   ·simp only;omega
   ·exact this,ok1.low⟩
 have hatS:∀k,atOf {g1 with dir:=Bc g.dir at_ n k} k=atOf g k/\lenOf {g1 with dir:=Bc g.dir at_ n k} k=lenOf g k:=fun k=>by
  refine⟨?_,?_⟩
  ·show((Bc g.dir at_ n k).getD k (0,0)).1=_
   rw[Uo];rfl
  ·show((Bc g.dir at_ n k).getD k (0,0)).2=_
   rw[Uo];rfl
 have H:Hp [b] w w3 [pgA b {g1 with dir:=Bc g.dir at_ n 0},.blk b2 [.int .i64 (n:Int)] 3,.blk b1 [.int .i64 (at_:Int)] 3,.blk b0 [.pointer (some ⟨b,0,none⟩)] 95]:=by
  rw[shiftD_zero,<- hdir1];exact H
 replace H:=H.D7
 ((repeat apply Exists.intro);refine⟨H.lo D6,?_⟩)
 refine⟨_,_,_,rfl,⟨_,_,Tryz.func85,rfl⟩,?_⟩
 refine Jf b g.many (fun k (_:Unit)=> {g1 with dir:=Bc g.dir at_ n k}) (fun k (_:Unit)=>[pgA b {g1 with dir:=Bc g.dir at_ n k},.blk b2 [.int .i64 (n:Int)] 3,.blk b1 [.int .i64 (at_:Int)] 3,.blk b0 [.pointer (some ⟨b,0,none⟩)] 95]) (fun _ _=>True) (fun _:Unit=>[]) (fun _=>False) () trivial (by((try dsimp only[cons_append,nil_append]);(try dsimp only[cons_append,nil_append]at H);refine Hp.perm H ?_;(repeat(apply JM;(focus first|exact NK|exact NH|exact Nz|exact perm_p3|exact perm_p4|exact perm_p5|exact perm_p6|exact perm_p7|exact perm_p8|exact perm_p9)));exact List.Perm.refl _))
  (fun k x w' T _ H=>⟨⟨okS k,H.ok _ (.head _)⟩,hmany1⟩) (fun k x hk _ h0=>⟨x,trivial,by
   rw[(hatS k).1]at h0;have h0':(g.dir.getD k (0,0)).1=0:=h0
   rw[QH,if_neg (by omega)]⟩) ?_ ?_ (fun y D w' hs _=>hs.elim)
 ·clear H
  intro k x hk _ h0 w' T0 T1 begin kn kr kx _ hbeg hkn _;refine hbeg _ fun w2 H=>?_;simp only[cons_append,nil_append]at H;replace H:=H.D7
  ((repeat apply Exists.intro);refine⟨H.lo D6,?_⟩)
  replace H:=H.Af;have hA:=pgOf (okS k) H EQ4 (by repeat first|exact .head _|refine .tail _ ?_);refine AC (QQ b _ k (by show k<g1.many;rw[hmany1];exact hk) _ hA) ?_;rintro e w4 ⟨rfl,H'⟩;replace H:=H.ext0 H';clear H';rw[(hatS k).1,(hatS k).2];rw[(hatS k).1]at h0;have hb:=hok.atB k;refine⟨_,_,rfl,?_⟩;replace H:=H.D7
  ((repeat apply Exists.intro);refine⟨H.lo scl3,?_⟩)
  have key:=QH g.dir at_ n k
  refine AB (fun hle=>?_) (fun hle=>?_)
  ·((repeat apply Exists.intro);refine⟨H.lo D6,?_⟩)
   ((repeat apply Exists.intro);refine⟨H.lo scl3,?_⟩)
   refine⟨iR,?_⟩
   have e5:(atOf g k:Int)+(n:Int)=((atOf g k+n:Nat):Int):=by omega
   try dsimp only
   rw[e5]
   replace H:Hp [b] w w4 (pgA b {g1 with dir:=Bc g.dir at_ n k}::.blk b2 [.int .i64 (n:Int)] 3::.blk b1 [.int .i64 (at_:Int)] 3::.blk b0 [.pointer (some ⟨b,0,none⟩)] 95::T1):=by((try dsimp only[cons_append,nil_append]);(try dsimp only[cons_append,nil_append]at H);refine Hp.perm H ?_;(repeat(apply JM;(focus first|exact NK|exact NH|exact Nz|exact perm_p3|exact perm_p4|exact perm_p5|exact perm_p6|exact perm_p7|exact perm_p8|exact perm_p9)));exact List.Perm.refl _)
   refine AC (Np b _ k (atOf g k+n) (lenOf g k) (by omega) (by omega) (by omega) _ (pgOf (okS k) H EQ4 (by repeat first|exact .head _|refine .tail _ ?_))) ?_;rintro e w5 ⟨rfl,_,H'⟩;replace H:=Hp.BX (a:=pgA b _) H H';clear H'
   have hs:setD {g1 with dir:=Bc g.dir at_ n k} k (atOf g k+n) (lenOf g k)= {g1 with dir:=Bc g.dir at_ n (k+1)}:=by
    rw[key,if_pos ⟨h0,by show atOf g k<=at_;omega⟩];rfl
   rw[hs]at H;exact⟨rfl,hkn _ () trivial (by((try dsimp only[cons_append,nil_append]);(try dsimp only[cons_append,nil_append]at H);refine Hp.perm H ?_;(repeat(apply JM;(focus first|exact NK|exact NH|exact Nz|exact perm_p3|exact perm_p4|exact perm_p5|exact perm_p6|exact perm_p7|exact perm_p8|exact perm_p9)));exact List.Perm.refl _))⟩
  ·refine hkn _ () trivial ?_
   have hs:Bc g.dir at_ n (k+1)=Bc g.dir at_ n k:=by rw[key,if_neg (fun hh=>hle (by have h9:atOf g k<=at_:=hh.2;omega))]
   rw[hs]
   ((try dsimp only[cons_append,nil_append]);(try dsimp only[cons_append,nil_append]at H);refine Hp.perm H ?_;(repeat(apply JM;(focus first|exact NK|exact NH|exact Nz|exact perm_p3|exact perm_p4|exact perm_p5|exact perm_p6|exact perm_p7|exact perm_p8|exact perm_p9)));exact List.Perm.refl _)
 ·clear H
  intro x D w' _ H;simp only[cons_append,nil_append]at H;obtain⟨gS,hgS⟩:∃gS:Pg,gS= {g1 with dir:=Bc g.dir at_ n g.many}:=⟨_,rfl⟩
  have okg:gS.Ok:=by rw[hgS];exact okS _
  rw[<- hgS]at H
  have hlowS:gS.low=g.low:=by rw[hgS];exact hlow1
  have hmanyS:gS.many=g.many:=by rw[hgS];exact hmany1
  ((repeat apply Exists.intro);refine⟨H.lo D6,?_⟩)
  refine AA rfl ?_
  ((repeat apply Exists.intro);refine⟨H.lo D6,?_⟩)
  refine AA rfl ⟨_,by rw[addB];exact(pgOf okg H EQ4 (by repeat first|exact .head _|refine .tail _ ?_)).QK,?_⟩
  ((repeat apply Exists.intro);refine⟨H.lo D6,?_⟩)
  refine AA rfl ⟨_,by rw[addB];exact(pgOf okg H EQ4 (by repeat first|exact .head _|refine .tail _ ?_)).QK,?_⟩
  ((repeat apply Exists.intro);refine⟨H.lo scl3,?_⟩)
  try dsimp only
  rw[hlowS,e1,e3];refine⟨iR,⟨by omega,by omega,by omega⟩,?_⟩;rw[Ru,show g.low+n-g.low=n by omega];refine Hp.clr (e:=5) H EQ4 X4 zero5 rfl rfl (by rw[okg.clen];have:=Z9 g.low;omega) ?_;clear H;intro w4 H;rw[WS _ _ _ (by rw[length_replicate];omega),PX,Oz okg (by omega) (by rw[length_replicate];omega)]at H;have okc:=MP okg (i:=g.low) (x:=List.replicate n 0) (by omega) (by rw[length_replicate];omega);obtain⟨gC,hgC⟩:∃gC:Pg,gC=F6 gS g.low (List.replicate n 0):=⟨_,rfl⟩;rw[<- hgC]at H okc
  have hlowC:gC.low=g.low:=by rw[hgC];exact hlowS
  have hmanyC:gC.many=g.many:=by rw[hgC];exact hmanyS
  replace H:Hp [b] w w4 [.blk b gC.cells 162,.blk b2 [.int .i64 (n:Int)] 3,.blk b1 [.int .i64 (at_:Int)] 3,.blk b0 [.pointer (some ⟨b,0,none⟩)] 95,objA D (.deferred (some []))]:=by((try dsimp only[cons_append,nil_append]);(try dsimp only[cons_append,nil_append]at H);refine Hp.perm H ?_;(repeat(apply JM;(focus first|exact NK|exact NH|exact Nz|exact perm_p3|exact perm_p4|exact perm_p5|exact perm_p6|exact perm_p7|exact perm_p8|exact perm_p9)));exact List.Perm.refl _)
  ((repeat apply Exists.intro);refine⟨H.lo D6,?_⟩)
  refine AA rfl ⟨_,by rw[addB];exact(pgOf okc H EQ4 (.head _)).QK,?_⟩
  ((repeat apply Exists.intro);refine⟨H.lo scl3,?_⟩)
  rw[hlowC];refine⟨iR,AA rfl ?_⟩
  have e6:(g.low:Int)+(n:Int)=((g.low+n:Nat):Int):=by omega
  rw[addB,e6];refine Hp.st H EQ4 scl3 rfl rfl (by rw[okc.clen];omega) (Pg.ZN okc _) ?_;clear H;intro w5 H;have okl:({gC with low:=g.low+n}:Pg).Ok:=⟨okc.st,okc.hdr,okc.dir,okc.data,okc.many,okc.ent,by show g.low+n<=4096;omega⟩
  ((repeat apply Exists.intro);refine⟨H.lo D6,?_⟩)
  refine AC (Np b _ K 0 0 (by omega) (by omega) (by omega) _ (pgOf okl H EQ4 (.head _))) ?_;rintro e w6 ⟨rfl,okk,H'⟩;replace H:=Hp.BX (a:=pgA b _) H H';clear H';refine⟨rfl,?_⟩;obtain⟨gK,hgK⟩:∃gK:Pg,gK=setD {gC with low:=g.low+n} K 0 0:=⟨_,rfl⟩;rw[<- hgK]at H okk
  have hmanyK:gK.many=g.many:=by rw[hgK];exact hmanyC
  have okM:∀m,m<=g.many->({gK with many:=m}:Pg).Ok:=fun m hm=>⟨okk.st,okk.hdr,okk.dir,okk.data,by show m<=120;omega,okk.ent,okk.low⟩
  have hfin: {gK with many:=trim gK.dir g.many,hdr:=trim gK.dir g.many}=DZ g K:=by
   have hD:gK.dir=(Bc g.dir at_ n g.many).set K (0,0):=by rw[hgK,hgC,hgS];rfl
   have hdat:gK.data=g.data.take (g.low-490)++(List.replicate n 0++((g.data.drop (g.low-490)).take (at_-g.low)++g.data.drop (at_+n-490))):=by
    have a1:gK.data=gS.data.take (g.low-490)++(List.replicate n 0++gS.data.drop (g.low-490+n)):=by rw[hgK,hgC];simp[setD,F6]
    have a2:gS.data=g.data.take (g.low+n-490)++((g.data.drop (g.low-490)).take (at_-g.low)++g.data.drop (at_+n-490)):=by
     rw[hgS,hg1,hmv];show g.data.take (g.low+n-490)++((g.data.drop (g.low-490)).take (at_-g.low)++g.data.drop (g.low+n-490+((g.data.drop (g.low-490)).take (at_-g.low)).length))=_;congr 3;rw[<- hmv,hbl];omega
    rw[a1,a2];congr 1
    ·rw[List.take_append_of_le_length (by rw[length_take,hdl];omega),take_take];congr 1;omega
    ·congr 1
     exact drop_left _ _ _ (by rw[length_take,hdl];omega)
   have hst:gK.st=g.st:=by rw[hgK,hgC,hgS,hg1];rfl
   have hlw:gK.low=g.low+n:=by rw[hgK];rfl
   unfold DZ;simp only[hat,hln];rw[hD,hdat,hst,hlw]
  refine AP.mk (fun mm s w'=>mm<=g.many/\trim gK.dir mm=trim gK.dir g.many/\Hp [b] w w' [.blk b ({gK with many:=mm}:Pg).cells 162,.blk b2 [.int .i64 (n:Int)] 3,.blk b1 [.int .i64 (at_:Int)] 3,.blk b0 [.pointer (some ⟨b,0,none⟩)] 95,objA D (.deferred (some []))]) g.many ⟨Nat.le_refl _,rfl,by rw[<- hmanyK];exact H⟩ ?_;clear H
  rintro m s w7 next ⟨hm,htr,H⟩ hnext
  have fin:∀w7,m<=g.many->trim gK.dir m=m->trim gK.dir m=trim gK.dir g.many->Hp [b] w w7 [.blk b ({gK with many:=m}:Pg).cells 162,.blk b2 [.int .i64 (n:Int)] 3,.blk b1 [.int .i64 (at_:Int)] 3,.blk b0 [.pointer (some ⟨b,0,none⟩)] 95,objA D (.deferred (some []))]->
    BK Tryz.prog 172 [.pointer (some ⟨b,0,none⟩),.int .i64 8,.int .i64 (m:Int)] w7 fun e w'=>e=.returned (.tuple #[])/\∃w1,FU w' D w1/\(fun e w'=>e=Ending.returned (.tuple #[])/\Hp [b] w w' [pgA b (DZ g K)]) (.returned (.tuple #[])) w1:=by
   clear hnext H;intro w7 hm h1 h2 H;have hb:∀k,({gK with many:=m,hdr:=k}:Pg).bs=gK.st++(be (k:Int) 2++(dirB gK.dir++gK.data)):=fun k=>rfl;refine AC (Iw b {gK with many:=m} {gK with many:=m,hdr:=m} gK.st (be gK.hdr 2) (dirB gK.dir++gK.data) 8 m (AV _ 2) okk.st (by omega) rfl (hb m) rfl rfl _ (pgOf (okM m hm) H EQ4 (.head _))) ?_;rintro e w8 ⟨rfl,H'⟩;replace H:=Hp.BX (a:=pgA b _) H H';clear H';refine⟨rfl,Hp.shut H.II fun w9 H=>⟨rfl,?_⟩⟩;rw[<- hfin,<- h2,h1];exact H.Ls
  ((repeat apply Exists.intro);refine⟨H.lo D6,?_⟩)
  refine AA rfl ⟨_,by rw[addB];exact(pgOf (okM m hm) H EQ4 (.head _)).Gy,?_⟩;refine AB (fun h0=>?_) (fun h0=>?_)
  ·obtain⟨m,rfl⟩:∃m',m=m'+1:=⟨m-1,by have:(0:Int)<((m:Nat):Int):=h0;omega⟩
   ((repeat apply Exists.intro);refine⟨H.lo D6,?_⟩)
   ((repeat apply Exists.intro);refine⟨H.lo D6,?_⟩)
   refine AA rfl ⟨_,by rw[addB];exact(pgOf (okM _ hm) H EQ4 (.head _)).Gy,?_⟩
   have e7:(((m+1:Nat):Int))-1=(m:Int):=by omega
   have e8:(10:Int)+4*(m:Int)=((10+4*m:Nat):Int):=by omega
   show inR .i64 (((m+1:Nat):Int)-1)/\inR .i64 (4*(((m+1:Nat):Int)-1))/\inR .i64 (10+4*(((m+1:Nat):Int)-1))/\BK Tryz.prog 146 [_,.int .i64 (10+4*(((m+1:Nat):Int)-1))] _ _
   try dsimp only
   rw[e7,e8];refine⟨iR,iR,iR,?_⟩;refine AC (Rl b _ _ (by omega) _ (pgOf (okM _ hm) H EQ4 (.head _))) ?_;rintro e w8 ⟨rfl,H'⟩;replace H:=H.drew.ext0 H';clear H';refine⟨_,rfl,?_⟩
   have hmd:m<gK.dir.length:=by rw[okk.dir];omega
   rw[Pg.Ok.ent1 (okM _ hm) (by omega)]
   have hgd:gK.dir.getD m (0,0)=gK.dir[m]:=by rw[getD_eq_getElem?_getD,List.getElem?_eq_getElem hmd];rfl
   refine AB (fun hz=>?_) (fun hz=>?_)
   ·have hz':(gK.dir[m]).1=0:=by have:((gK.dir[m]).1:Int)=0:=hz;omega
    ((repeat apply Exists.intro);refine⟨H.lo D6,?_⟩)
    refine AA rfl ⟨_,by rw[addB];exact(pgOf (okM _ hm) H EQ4 (.head _)).Gy,?_⟩;show inR .i64 (((m+1:Nat):Int)-1)/\onP _ fun a=>∃w1,St Tryz.prog 3 _ (Addr.add a 4096) (.int .i64 (((m+1:Nat):Int)-1)) w1/\_
    try dsimp only
    rw[e7];refine⟨iR,AA rfl ?_⟩;rw[addB];refine Hp.st H EQ4 scl3 rfl rfl (by rw[(okM _ hm).clen];omega) (Pg.YQ (okM _ hm) _) ?_;clear H;intro w9 H;refine hnext m _ _ (by omega) ⟨by omega,?_,H⟩;rw[<- htr,trim,hgd,if_pos hz']
   ·have hz':¬(gK.dir[m]).1=0:=fun h=>hz (by rw[h];rfl)
    ((repeat apply Exists.intro);refine⟨H.lo D6,?_⟩)
    ((repeat apply Exists.intro);refine⟨H.lo D6,?_⟩)
    refine AA rfl ⟨_,by rw[addB];exact(pgOf (okM _ hm) H EQ4 (.head _)).Gy,?_⟩;exact fin _ hm (by rw[trim,hgd,if_neg hz']) htr H.drew
  ·have hm0:m=0:=by have:¬(0:Int)<(m:Int):=h0;omega
   ((repeat apply Exists.intro);refine⟨H.lo D6,?_⟩)
   ((repeat apply Exists.intro);refine⟨H.lo D6,?_⟩)
   refine AA rfl ⟨_,by rw[addB];exact(pgOf (okM m hm) H EQ4 (.head _)).Gy,?_⟩;exact fin _ hm (by rw[hm0];rfl) htr H.drew.drew
def insR(x:Nat×List UInt8):Recs→Recs
  | []=>[x]
  |p::r=>if x.1<p.1 then x::p::r else p::insR x r
theorem Oy(x:Nat×List UInt8):∀L:Recs,(insR x L).Perm (x::L)
  | []=>.refl _
  |p::r=>by
    rw[insR]
    split
    · exact .refl _
    · exact((Oy x r).cons p).trans (.swap x p r)
theorem I5(x y:Nat×List UInt8)(L:Recs):y∈insR x L↔y=x∨y∈L:=by rw[(Oy x L).mem_iff,mem_cons]
theorem PP(x:Nat×List UInt8):∀L:Recs,L.Pairwise (fun a b=>a.1<b.1)→(∀p∈L,p.1≠x.1)→(insR x L).Pairwise fun a b=>a.1<b.1
  | [],_,_=>by simp[insR]
  |p::r,h,hn=>by
    obtain⟨e,f⟩:=pairwise_cons.1 h
    rw[insR]
    split
    · rename_i d
      refine pairwise_cons.2 ⟨fun q c=>?_,h⟩
      rcases mem_cons.1 c with rfl|c
      · exact d
      · have:=e q c;omega
    · rename_i d
      refine pairwise_cons.2 ⟨fun q c=>?_,PP x r f fun q c=>hn q (.tail _ c)⟩
      rcases(I5 _ _ _).1 c with rfl|c
      · have:=hn p (.head _);omega
      · exact e q c
def wo(L:Recs)(k:Nat):Recs:=L.filter fun p=>p.1 !=k
theorem WB{L:Recs}{k:Nat}(h:∀s,(k,s)∉L):wo L k=L:=by
  refine filter_eq_self.2 fun p a=>?_
  have:p.1≠k:=fun e=>h p.2 (by rw[← e];exact a)
  simpa using this
theorem wo_mem{L:Recs}{k:Nat}{p:Nat×List UInt8}:p∈wo L k↔p∈L∧p.1≠k:=by simp[wo]
theorem wo_tot{L:Recs}(f:L.Pairwise fun a b=>a.1<b.1){k:Nat}{s:List UInt8}(h:(k,s)∈L):tot (wo L k)+s.length=tot L:=by
  induction L with
  |nil=>cases h
  |cons p r g=>
    obtain⟨d,i⟩:=pairwise_cons.1 f
    by_cases c:p.1=k
    · have j:p=(k,s):=by
        rcases mem_cons.1 h with e|m
        · exact e.symm
        · have:=d _ m;simp only at this;omega
      have l:wo r k=r:=WB fun t n=>by have:=d _ n;simp only at this;omega
      have e:wo (p::r) k=r:=by
        show List.filter _ (p::r)=r
        rw[filter_cons,if_neg (by simp[c])];exact l
      rw[e,FQ,j];simp only;omega
    · have o:(k,s)∈r:=by
        rcases mem_cons.1 h with e|m
        · exact absurd (by rw[← e]) c
        · exact m
      have e:wo (p::r) k=p::wo r k:=by
        show List.filter _ (p::r)=_
        rw[filter_cons,if_pos (by simp[c])];rfl
      rw[e,FQ,FQ]
      have:=g i o
      omega
theorem Xo(b:Nat)(g:Pg)(L:Recs)(c:Nat)(f:Rep g L c)(K:Nat)(w:World)(h:Blk w b g.cells 162):
    Calls Tryz.prog 170 #[.pointer (some ⟨b,0,none⟩),.int .i64 (K:Int)] w fun e w'=>e=.returned (.tuple #[])∧∃k,Rep k (wo L K) c∧Hp [b] w w' [pgA b k]:=by
  by_cases j:∃s,(K,s)∈L
  · obtain⟨s,i⟩:=j
    exact Calls.mono (drop_spec b g L c f K s i w h) fun e w' d=>⟨d.1,_,f.drop i,d.2⟩
  · refine Calls.mono (nodrop_spec b g (K:Int) (fun d=>j (f.Iz.1 ⟨by omega,by have:=d.2.2;rwa [Int.toNat_natCast]at this⟩)) w ⟨f.ok,h⟩) fun e w' d=>⟨d.1,g,?_,?_⟩
    · rw[WB fun s i=>j ⟨s,i⟩];exact f
    · have H:Hp [b] w w [pgA b g]:=Hp.Ii (a:=pgA b g) h
      exact H.ext0 d.2
def extD(d:List (Nat×Nat))(a n:Nat):List (Nat×Nat):=d.mapIdx fun j p=>if a≤j∧j<n then(0,0)else p
theorem Hg(d:List (Nat×Nat))(a n j:Nat):(extD d a n)[j]? =d[j]?.map fun p=>if a≤j∧j<n then(0,0)else p:=by
  simp[extD]
theorem Jw(d:List (Nat×Nat))(a n:Nat):(extD d a n).length=d.length:=by simp[extD]
theorem extD_self(d:List (Nat×Nat))(a:Nat):extD d a a=d:=by
  apply ext_getElem?
  intro j
  rw[Hg]
  cases d[j]? with
  |none=>rfl
  |some p=>rw[Option.map_some,if_neg (by omega)]
theorem extD_succ (d : List (Nat × Nat)) (a m : Nat) (h : a ≤ m) : (extD d a m).set m (0,0) = extD d a (m + 1) := by
  apply ext_getElem?
  intro j
  by_cases hj : m = j
  · subst hj
    rw [Hg]
    cases hd : d[m]? with
    | none => rw [List.getElem?_eq_none]; · rfl
              rw [length_set,Jw]; exact List.getElem?_eq_none_iff.1 hd
    | some p =>
      rw [List.getElem?_set_self (by rw [Jw]; exact (List.getElem?_eq_some_iff.1 hd).1),Option.map_some,if_pos ⟨h,by omega⟩]
  · rw [List.getElem?_set_ne hj,Hg,Hg]
    cases d[j]? with
    | none => rfl
    | some p =>
      rw [Option.map_some,Option.map_some]
      congr 1
      by_cases hc : a ≤ j ∧ j < m
      · rw [if_pos hc,if_pos ⟨hc.1,by omega⟩]
      · rw [if_neg hc,if_neg (by omega)]
def extG(g:Pg)(m:Nat):Pg:= {g with dir:=extD g.dir g.many m,many:=m}
theorem Y7{g:Pg}(h:g.Ok){m:Nat}(b:m≤120):(extG g m).Ok:=⟨h.st,h.hdr,by show(extD _ _ _).length=120;rw[Jw,h.dir],h.data,b,fun p c=>by
    obtain⟨j,a⟩:=List.getElem?_of_mem c
    have a:(extD g.dir g.many m)[j]? =some p:=a
    rw[Hg]at a
    cases hd:g.dir[j]? with
    |none=>rw[hd]at a;cases a
    |some q=>
      rw[hd]at a
      simp only[Option.map_some,Option.some.injEq]at a
      have:=h.ent q (mem_of_getElem? hd)
      rw[← a]
      split
      · simp
      · exact this,h.low⟩
def putG (g : Pg) (k : Nat) (s : List UInt8) : Pg :=
  let m := max g.many (k + 1)
  { g with dir := (extD g.dir g.many m).set k (g.low - s.length,s.length),many := m,hdr := m,low := g.low - s.length
           data := g.data.take (g.low - s.length - 490) ++ (s ++ g.data.drop (g.low - s.length - 490 + s.length)) }
theorem Rep.put{g:Pg}{L:Recs}{stamp:Nat}(h:Rep g L stamp){k:Nat}{s:List UInt8}(hk:k<120)(hn:∀t,(k,t)∉L)(hs:tot L+s.length≤3600):Rep (putG g k s) (insR (k,s) L) stamp:=by
  obtain⟨ord,o1,o2,o3⟩:=h.ord
  have hok:=h.ok
  have hlow:=h.low
  have hdl:=hok.data
  have hml:=hok.many
  have hp:=Oy (k,s) L
  have htot:tot (insR (k,s) L)=s.length+tot L:=by rw[TJ hp,FQ]
  have hmax:g.many≤max g.many (k+1)∧k+1≤max g.many (k+1)∧(max g.many (k+1)=g.many∨max g.many (k+1)=k+1):=by omega
  obtain⟨m,hm⟩:∃m,m=max g.many (k+1):=⟨_,rfl⟩
  rw[← hm]at hmax
  have em:(putG g k s).many=m:=hm.symm
  have ed:(putG g k s).dir=(extD g.dir g.many m).set k (g.low-s.length,s.length):=by rw[hm];rfl
  have hdk:(putG g k s).dir[k]? =some (g.low-s.length,s.length):=by
    rw[ed,List.getElem?_set_self (by rw[Jw,hok.dir];exact hk)]
  have hdj:∀j,j≠k→j<g.many→(putG g k s).dir[j]? =g.dir[j]? :=by
    intro j hj hjm
    rw[ed,List.getElem?_set_ne (Ne.symm hj),Hg]
    cases g.dir[j]? with
    |none=>rfl
    |some p=>rw[Option.map_some,if_neg (by omega)]
  have okp:(putG g k s).Ok:=by
    have e1:=Y7 hok (m:=m) (by omega)
    have e2:=e1.ent
    refine⟨hok.st,by show max g.many (k+1)<65536;omega,?_,?_,by rw[em];omega,?_,by show g.low-s.length≤4096;omega⟩
    · rw[ed,length_set,Jw,hok.dir]
    · show(g.data.take (g.low-s.length-490)++(s++g.data.drop (g.low-s.length-490+s.length))).length=3606
      simp only[length_append,length_take,length_drop,hdl];omega
    · intro p hp
      rw[ed]at hp
      rcases List.mem_or_eq_of_mem_set hp with hp|rfl
      · exact e2 p hp
      · exact⟨by simp only;omega,by simp only;omega⟩
  refine⟨okp,h.st,h.stamp,rfl,PP _ _ h.sorted fun p hp e=>hn p.2 (by have e':p.1=k:=e;rw[← e'];exact hp),?_,?_,?_,⟨(k,s)::ord,(o1.cons _).trans hp.symm,?_,?_⟩,by omega,?_⟩
  · intro p hp
    rw[em]
    rcases(I5 _ _ _).1 hp with rfl|hp
    · simp only;omega
    · have:=h.below _ hp;omega
  · rw[em]
    rcases hmax.2.2 with e|e
    · right
      rcases h.last with h0|⟨t,ht⟩
      · omega
      · exact⟨t,by rw[e];exact(I5 _ _ _).2 (.inr ht)⟩
    · exact .inr ⟨s,by rw[e];exact(I5 _ _ _).2 (.inl rfl)⟩
  · intro j hj hn'
    rw[em]at hj
    have hjk:j≠k:=fun e=>hn' s (by rw[e];exact(I5 _ _ _).2 (.inl rfl))
    by_cases hjm:j<g.many
    · rw[getD_eq_getElem?_getD,hdj j hjk hjm,← getD_eq_getElem?_getD]
      exact h.free j hjm fun t ht=>hn' t ((I5 _ _ _).2 (.inr ht))
    · rw[getD_eq_getElem?_getD,ed,List.getElem?_set_ne (Ne.symm hjk),Hg]
      cases g.dir[j]? with
      |none=>rfl
      |some p=>rw[Option.map_some,if_pos ⟨by omega,hj⟩];rfl
  · refine⟨hdk,?_⟩
    show Laid (putG g k s).dir (g.low-s.length+s.length) ord
    rw[show g.low-s.length+s.length=g.low by omega]
    have:∀(x:Recs)(a:Nat),Laid g.dir a x→(∀p∈x,p∈L)→Laid (putG g k s).dir a x:=by
      intro x
      induction x with
      |nil=>intro a h _;exact h
      |cons p x ih=>
        intro a hl hx
        obtain⟨j,t⟩:=p
        have hjL:=hx (j,t) (.head _)
        refine⟨?_,ih _ hl.2 fun q hq=>hx q (.tail _ hq)⟩
        rw[hdj j (fun e=>hn t (by rw[← e];exact hjL)) (h.below _ hjL)]
        exact hl.1
    exact this ord g.low o2 fun p hp=>o1.mem_iff.1 hp
  · show(g.data.take (g.low-s.length-490)++(s++g.data.drop (g.low-s.length-490+s.length))).drop (g.low-s.length-490)=_
    rw[drop_left _ _ _ (by rw[length_take,hdl];omega),flatMap_cons]
    congr 1
    rw[← o3]
    congr 1
    omega
  · show g.low-s.length+tot (insR (k,s) L)=4096
    omega
def aput(L:Recs)(k:Int)(s:List UInt8):Recs×Int:=
  if k<0∨120≤k then(L,110)else if 3600<tot (wo L k.toNat)+s.length then(L,111)else(insR (k.toNat,s) (wo L k.toNat),0)
theorem RF(b:Nat)(g:Pg)(L:Recs)(stamp:Nat)(hR:Rep g L stamp)(k:Int)(s:List UInt8)(w:World)(h:Blk w b g.cells 162):
    Calls Tryz.prog 110 #[.pointer (some ⟨b,0,none⟩),.int .i64 k,sv s] w fun e w'=>e=.returned (.int .i64 (aput L k s).2)∧∃g',Rep g' (aput L k s).1 stamp∧Hp [b] w w' [pgA b g']:=by
  apply put.ok
  unfold put.vc
  have H:Hp [b] w w [pgA b g]:=Hp.Ii (a:=pgA b g) h
  have hmax:maxLen=9223372036854775807:=by simp[maxLen]
  refine AB (fun h1=>?_) (fun h1=>AB (fun h2=>?_) (fun h2=>?_))
  · rw[aput,if_pos (.inl h1)];exact⟨rfl,g,hR,H⟩
  · rw[aput,if_pos (.inr h2)];exact⟨rfl,g,hR,H⟩
  obtain⟨K,rfl⟩:∃K:Nat,k=K:=⟨k.toNat,by omega⟩
  have hK:K<120:=by omega
  have hsm:=hR.small
  rw[aput,if_neg (by omega),Int.toNat_natCast]
  refine AC (room_spec b g _ (pgOf hR.ok H EQ4 (by repeat first|exact .head _|refine .tail _ ?_))) ?_
  rintro e w1 ⟨rfl,H'⟩;replace H:=H.ext0 H';clear H'
  refine⟨_,rfl,?_⟩
  rw[hR.total_eq]
  refine AC (Ip b g K _ (pgOf hR.ok H EQ4 (by repeat first|exact .head _|refine .tail _ ?_))) ?_
  rintro e w2 ⟨rfl,H'⟩;replace H:=H.ext0 H';clear H'
  refine⟨_,_,rfl,?_⟩
  rw[Gh]
  have hmem:(if 0≤(K:Int)∧(K:Int)<(g.many:Int)then((g.dir.getD (K:Int).toNat (0,0)).1:Int)else 0)=if K<g.many then(atOf g K:Int)else 0:=by
    rw[Int.toNat_natCast]
    by_cases hc:K<g.many
    · rw[if_pos (by omega),if_pos hc];rfl
    · rw[if_neg (by omega),if_neg hc]
  have hmem2:(if 0≤(K:Int)∧(K:Int)<(g.many:Int)then((g.dir.getD (K:Int).toNat (0,0)).2:Int)else 0)=if K<g.many then(lenOf g K:Int)else 0:=by
    rw[Int.toNat_natCast]
    by_cases hc:K<g.many
    · rw[if_pos (by omega),if_pos hc];rfl
    · rw[if_neg (by omega),if_neg hc]
  rw[hmem,hmem2]
  have hlive:=hR.Iz (k:=K)
  refine Am.mk (fun f w'=>f=3600-(tot (wo L K):Int)∧Hp [b] w w' [pgA b g]) ?_ ?_
  · clear H hmem hmem2
    rintro f w2 ⟨rfl,H⟩
    refine AB (fun hf=>?_) (fun hf=>?_)
    · rw[if_pos (by omega)];exact⟨rfl,g,hR,H⟩
    rw[if_neg (by omega)]
    refine AC (Xo b g L stamp hR K _ (H.ok _ (.head _))) ?_
    rintro e w3 ⟨rfl,g',hR',H'⟩;replace H:=Hp.BX (a:=pgA b _) H H';clear H'
    refine⟨rfl,?_⟩
    have hno:∀t,(K,t)∉wo L K:=fun t ht=>(wo_mem.1 ht).2 rfl
    have hfin:=hR'.put hK hno (s:=s) (by omega)
    have hgm:=hR'.ok.many
    have hgl:=hR'.low
    have hgd:=hR'.ok.data
    refine AP.mk (fun mm _ w'=>∃m,mm=121-m∧g'.many≤m∧m≤max g'.many (K+1)∧Hp [b] w w' [pgA b (extG g' m)]) (121-g'.many) ⟨g'.many,rfl,Nat.le_refl _,by omega,by unfold extG;rw[extD_self];exact H⟩ ?_
    clear H
    rintro mm u w4 next ⟨m,rfl,hm1,hm2,H⟩ hnext
    have okm:=Y7 hR'.ok (m:=m) (by omega)
    refine AA rfl ⟨_,by rw[addB];exact(pgOf okm H EQ4 (.head _)).Gy,?_⟩
    refine AB (fun hle=>?_) (fun hle=>?_)
    · have hle':m≤K:=by have h9:((m:Nat):Int)≤(K:Int):=hle;omega
      refine AA rfl ⟨_,by rw[addB];exact(pgOf okm H EQ4 (.head _)).Gy,?_⟩
      refine AC (Np b _ m 0 0 (by omega) (by omega) (by omega) _ (pgOf okm H EQ4 (.head _))) ?_
      rintro e w5 ⟨rfl,ok2,H'⟩;replace H:=Hp.BX (a:=pgA b _) H H';clear H'
      refine⟨rfl,AA rfl ⟨_,by rw[addB];exact(pgOf ok2 H EQ4 (.head _)).Gy,?_⟩⟩
      show inR .i64 ((m:Int)+1)∧onP _ fun a=>∃w1,St Tryz.prog 3 _ (Addr.add a 4096) (.int .i64 ((m:Int)+1)) w1∧_
      refine⟨CX.2 (by omega),AA rfl ?_⟩
      rw[addB,show(m:Int)+1=((m+1:Nat):Int) by omega]
      refine Hp.st H EQ4 scl3 rfl rfl (by rw[ok2.clen];omega) (Pg.YQ ok2 _) ?_
      clear H
      intro w6 H
      refine hnext (121-(m+1)) _ _ (by omega) ⟨m+1,rfl,by omega,by omega,?_⟩
      have e:({setD (extG g' m) m 0 0 with many:=m+1}:Pg)=extG g' (m+1):=by
        show({g' with dir:=(extD g'.dir g'.many m).set m (0,0),many:=m+1}:Pg)=_
        rw[extD_succ _ _ _ hm1];rfl
      rw[e]at H
      exact H
    · have hle':¬m≤K:=fun h9=>hle (by show((m:Nat):Int)≤(K:Int);omega)
      have hmm:m=max g'.many (K+1):=by omega
      have hb:∀k,({extG g' m with hdr:=k}:Pg).bs=g'.st++(be (k:Int) 2++(dirB (extG g' m).dir++g'.data)):=fun k=>rfl
      refine AA rfl ⟨_,by rw[addB];exact(pgOf okm H EQ4 (.head _)).Gy,?_⟩
      refine AC (Iw b (extG g' m) {extG g' m with hdr:=m} g'.st (be g'.hdr 2) (dirB (extG g' m).dir++g'.data) 8 m (AV _ 2) hR'.ok.st (by omega) rfl (hb m) rfl rfl _ (pgOf okm H EQ4 (.head _))) ?_
      rintro e w5 ⟨rfl,H'⟩;replace H:=Hp.BX (a:=pgA b _) H H';clear H'
      have ok3:({extG g' m with hdr:=m}:Pg).Ok:=⟨okm.st,by show m<65536;omega,okm.dir,okm.data,okm.many,okm.ent,okm.low⟩
      refine⟨rfl,AA rfl ⟨_,by rw[addB];exact(pgOf ok3 H EQ4 (.head _)).QK,?_⟩⟩
      show inR .i64 ((g'.low:Int)-(s.length:Int))∧onP _ fun a=>∃w1,St Tryz.prog 3 _ (Addr.add a 4097) (.int .i64 ((g'.low:Int)-(s.length:Int))) w1∧_
      have e1:(g'.low:Int)-(s.length:Int)=((g'.low-s.length:Nat):Int):=by omega
      rw[e1]
      refine⟨CX.2 (by omega),AA rfl ?_⟩
      rw[addB]
      refine Hp.st H EQ4 scl3 rfl rfl (by rw[ok3.clen];omega) (Pg.ZN ok3 _) ?_
      clear H
      intro w6 H
      obtain⟨g4,hg4⟩:∃g4:Pg,g4= {({extG g' m with hdr:=m}:Pg)with low:=g'.low-s.length}:=⟨_,rfl⟩
      have ok4:g4.Ok:=by rw[hg4];exact⟨ok3.st,ok3.hdr,ok3.dir,ok3.data,ok3.many,ok3.ent,by show g'.low-s.length≤4096;omega⟩
      rw[← hg4]at H
      have hlow4:g4.low=g'.low-s.length:=by rw[hg4]
      refine AA rfl (AA rfl ⟨_,by rw[addB];exact(pgOf ok4 H EQ4 (.head _)).QK,?_⟩)
      dsimp only
      rw[hlow4,Int.toNat_natCast,Ru]
      refine⟨⟨by omega,by omega⟩,?_⟩
      have hsl2:=Z9 (g'.low-s.length)
      refine Hp.cpy H EQ4 X4 scl5.size (Src.ofString _ und9 ⟨s.toArray⟩) (by rw[Gh];omega) (by rw[Gh,ok4.clen];omega) ?_
      clear H
      intro w7 H
      rw[CP,WS _ _ _ (by rw[Ag];omega),Oz ok4 (by omega) (by omega)]at H
      have ok5:=MP ok4 (i:=g'.low-s.length) (x:=s) (by omega) (by omega)
      refine AA rfl ⟨_,by rw[addB];exact(pgOf ok5 H EQ4 (.head _)).QK,?_⟩
      have hlow5:(F6 g4 (g'.low-s.length) s).low=g'.low-s.length:=hlow4
      rw[hlow5]
      refine AC (Np b _ K (g'.low-s.length) s.length hK (by omega) (by omega) _ (pgOf ok5 H EQ4 (.head _))) ?_
      rintro e w8 ⟨rfl,_,H'⟩;replace H:=Hp.BX (a:=pgA b _) H H';clear H'
      refine⟨rfl,rfl,_,hfin,?_⟩
      have e:setD (F6 g4 (g'.low-s.length) s) K (g'.low-s.length) s.length=putG g' K s:=by
        rw[hg4]
        unfold putG setD F6 extG
        simp only[← hmm]
      rw[e]at H
      exact H
  · intro J hJ
    refine AB (fun h0=>?_) (fun h0=>?_)
    · have hkm:K<g.many:=by
        refine Classical.byContradiction fun hn=>?_
        rw[if_neg hn]at h0;omega
      rw[if_pos hkm]at h0⊢
      obtain⟨t,ht⟩:=hR.Iz.1 ⟨hkm,by omega⟩
      have hat:=hR.at_ ht
      have hwt:=wo_tot hR.sorted ht
      exact⟨CX.2 (by omega),hJ _ _ ⟨by omega,H⟩⟩
    · refine hJ _ _ ⟨?_,H⟩
      rw[WB]
      intro t ht
      have hat:=hR.at_ ht
      have:=hR.below _ ht
      rw[if_pos this]at h0
      omega
def lk(L:Recs)(k:Int):Option (List UInt8):=(L.find? fun p=>decide ((p.1:Int)=k)).map (·.2)
theorem lk_some{L:Recs}(c:L.Pairwise fun a b=>a.1<b.1){k:Nat}{s:List UInt8}(h:(k,s)∈L):lk L (k:Int)=some s:=by
 unfold lk
 cases hf:L.find? fun p=>decide ((p.1:Int)=(k:Int))with
 |none=>have:=List.find?_eq_none.1 hf _ h;simp at this
 |some p=>
  have d:=List.mem_of_find?_eq_some hf
  have e:p.1=k:=by have:=List.find?_some hf;simp only[decide_eq_true_eq]at this;omega
  have:(k,p.2)∈L:=by rw[<- e];exact d
  rw[Option.map_some,one_key c this h]
theorem Wv{L:Recs}(k:Int):(lk L k=none/\∀p∈L,(p.1:Int)≠k)\/∃(K:Nat)(s:List UInt8),k=K/\(K,s)∈L/\lk L k=some s:=by
 unfold lk
 cases hf:L.find? fun p=>decide ((p.1:Int)=k)with
 |none=>exact .inl ⟨rfl,fun p c=>by have:=List.find?_eq_none.1 hf p c;simpa using this⟩
 |some p=>
  have a:=List.find?_some hf;simp only[decide_eq_true_eq]at a;exact .inr ⟨p.1,p.2,a.symm,List.mem_of_find?_eq_some hf,rfl⟩
section
variable{b:Nat}{g:Pg}{L:Recs}{stamp:Nat}{w:World}
theorem get_any(a:Rep g L stamp)(h:Blk w b g.cells 162)(k:Int):
  Calls Tryz.prog 48 #[.pointer (some ⟨b,0,none⟩),.int .i64 k] w fun e w'=>e=.returned (.tuple #[sv ((lk L k).getD []),.bool (lk L k).isSome])/\Hp [] w w' []:=by
 refine Calls.mono (get_spec b g k w ⟨a.ok,h⟩ a.fit) ?_;rintro e w' ⟨rfl,H⟩;refine⟨?_,H⟩
 rcases Wv (L:=L) k with⟨h1,h2⟩|⟨K,s,rfl,h2,d⟩
 ·rw[h1,if_neg]
  ·rfl
  ·rintro⟨d,j,f⟩
   obtain⟨s,i⟩:=a.Iz.1 ⟨by omega,f⟩;exact h2 _ i (by simp only;omega)
 ·have c:=a.at_ h2
  have:=a.below _ h2;rw[d,if_pos ⟨by omega,by simp only at this;omega,by rw[Int.toNat_natCast];omega⟩,Int.toNat_natCast,c.2.2.2];rfl
theorem UJ(d:Rep g L stamp)(h:Blk w b g.cells 162):
  Calls Tryz.prog 47 #[.pointer (some ⟨b,0,none⟩)] w fun e w'=>∃a c,e=.returned (.slice a L.length c)/\Hp [] w w' [.own 3 1 a L.length c (intC (L.map (·.1)))]:=by
 refine Calls.mono (slots_spec b g w ⟨d.ok,h⟩) ?_;rintro e w' ⟨a,c,rfl,H⟩;rw[d.QL,length_map]at H⊢;exact⟨a,c,rfl,H⟩
def adel(L:Recs)(k:Int):Recs×Int:=if(lk L k).isSome then(wo L k.toNat,0)else(L,110)
theorem delete_any(c:Rep g L stamp)(h:Blk w b g.cells 162)(k:Int):
  Calls Tryz.prog 167 #[.pointer (some ⟨b,0,none⟩),.int .i64 k] w fun e w'=>e=.returned (.int .i64 (adel L k).2)/\∃f,Rep f (adel L k).1 stamp/\Hp [b] w w' [pgA b f]:=by
 apply delete.ok;unfold delete.vc;have H:Hp [b] w w [pgA b g]:=Hp.Ii (a:=pgA b g) h;refine AC (Ip b g k _ (pgOf c.ok H EQ4 (by repeat first|exact .head _|refine .tail _ ?_))) ?_;rintro e p ⟨rfl,d⟩;replace H:=H.ext0 d;clear d;refine⟨_,_,rfl,?_⟩;unfold adel
 rcases Wv (L:=L) k with⟨h1,h2⟩|⟨K,s,rfl,h2,h3⟩
 ·rw[h1]
  refine AB (fun _=>⟨rfl,g,c,H⟩) (fun i=>absurd ?_ i);split
  ·rename_i q
   refine Classical.byContradiction fun r=>?_;obtain⟨s,m⟩:=c.Iz.1 ⟨show k.toNat<g.many by omega,by show 0<(g.dir.getD k.toNat (0,0)).1;omega⟩;exact h2 _ m (by simp only;omega)
  ·rfl
 ·have n:=c.at_ h2
  have j:=c.below _ h2;simp only at j
  have o:(if 0<=(K:Int)/\(K:Int)<(g.many:Int)then((g.dir.getD (K:Int).toNat (0,0)).1:Int)else 0)=(atOf g K:Int):=by
   rw[if_pos (by omega),Int.toNat_natCast];rfl
  rw[o,h3];refine AB (fun i=>absurd i (by omega)) (fun _=>?_);refine AC (Xo b g L stamp c K _ (H.ok _ (.head _))) ?_;rintro e t ⟨rfl,f,l,d⟩;replace H:=Hp.BX (a:=pgA b _) H d;clear d;refine⟨rfl,rfl,f,?_,H⟩;rw[Int.toNat_natCast];exact l
def ff:List Nat->Nat->Nat
 | [],n=>n
 |k::r,n=>ff r (if k=n then n+1 else n)
theorem ff_snoc(l:List Nat)(k:Nat):∀n,ff (l++[k]) n=if k=ff l n then ff l n+1 else ff l n:=by
 induction l with
 |nil=>intro n;rfl
 |cons x r a=>intro n;exact a _
theorem ff_le(l:List Nat):∀n,ff l n<=n+l.length:=by
 induction l with
 |nil=>intro n;exact Nat.le_refl _
 |cons x r a=>
  intro n;have:=a (if x=n then n+1 else n);rw[ff,length_cons]
  have c:(if x=n then n+1 else n)<=n+1:=by split<;>omega
  omega
def ains(L:Recs)(s:List UInt8):Recs×Int×Int:=
 let n:=ff (L.map (·.1)) 0
 if 120<=n then(L,0,111)else if(aput L n s).2=0 then((aput L n s).1,n,0)else(L,0,(aput L n s).2)
theorem YN{L:Recs}{k:Int}{s:List UInt8}(h:(aput L k s).2≠0):(aput L k s).1=L:=by
 unfold aput at h⊢;split
 ·rfl
 ·rename_i a
  rw[if_neg a]at h;split
  ·rfl
  ·rename_i c
   rw[if_neg c]at h;exact absurd rfl h
theorem insert_any(j:Rep g L stamp)(h:Blk w b g.cells 162)(s:List UInt8):
  Calls Tryz.prog 173 #[.pointer (some ⟨b,0,none⟩),sv s] w fun e w'=>e=.returned (.tuple #[.int .i64 (ains L s).2.1,.int .i64 (ains L s).2.2])/\∃l,Rep l (ains L s).1 stamp/\Hp [b] w w' [pgA b l]:=by
 first|apply kInsert.ok|apply insert.ok
 first|unfold kInsert.vc|unfold insert.vc
 have H:Hp [b] w w [pgA b g]:=Hp.Ii (a:=pgA b g) h;have K:=j.ok.many
 (intro _ _ m;replace H:=H.nw m;clear m)
 (apply Hp.st;(case H=>exact H);(case e=>exact⟨rfl,rfl,rfl,rfl⟩);(case S=>exact scl3);(case hv=>exact rfl);(case h1=>exact rfl);(case ho=>exact Nat.le_of_ble_eq_true rfl);(case hc=>exact rfl);clear H;intro _ H;(try simp only[over,set_cons_zero,set_cons_succ]at H))
 rename_i u _ o
 replace H:Hp [b] w o [pgA b g,.blk u [.int .i64 ((ff (live g 0) 0:Nat):Int)] 3]:=by
  have H:Hp [b] w o [.blk u [.int .i64 ((ff (live g 0) 0:Nat):Int)] 3,pgA b g]:=H;exact H.Af
 refine⟨_,_,_,rfl,⟨_,_,Tryz.func85,rfl⟩,?_⟩
 refine Jf b g.many (fun _ _=>g) (fun k (_:Unit)=>[pgA b g,.blk u [.int .i64 ((ff (live g k) 0:Nat):Int)] 3]) (fun _ _=>True) (fun _:Unit=>[]) (fun _=>False) () trivial H
  (fun k x w' T _ H=>⟨pgOf j.ok H EQ4 (.head _),rfl⟩) (fun k x E _ i=>⟨x,trivial,by rw[JK,if_neg (by omega)]⟩) ?_ ?_ (fun y D w' F _=>F.elim)
 ·clear H
  intro k x E _ i w' M N z O P Q _ p q _;refine p _ fun R H=>?_;simp only[cons_append,nil_append]at H;have G:=ff_le (live g k) 0;have I:=Ri g k;have c:=ff_snoc (live g k) k 0;have r:=JK g k;rw[if_pos i]at r;rw[<- r]at c
  ((repeat apply Exists.intro);refine⟨H.lo scl3,?_⟩)
  refine AB (fun A=>?_) (fun A=>?_)
  ·have d:k=ff (live g k) 0:=by have B:(k:Int)=((ff (live g k) 0:Nat):Int):=A;omega
   rw[if_pos d]at c
   ((repeat apply Exists.intro);refine⟨H.lo scl3,?_⟩)
   refine⟨iR,?_⟩;refine Hp.st H.Af EQ4 scl3 rfl rfl (by simp) rfl ?_;clear H;intro J H;refine q _ () trivial ?_;rw[c];exact H.Af
  ·have d:¬k=ff (live g k) 0:=fun B=>A (by show(k:Int)=((ff (live g k) 0:Nat):Int);omega)
   rw[if_neg d]at c;refine q _ () trivial ?_;rw[c];exact H
 ·clear H
  intro x D w' _ H;simp only[cons_append,nil_append]at H;rw[j.QL]at H;unfold ains;obtain⟨n,m⟩:∃n,n=ff (L.map (·.1)) 0:=⟨_,rfl⟩;rw[<- m]at H;simp only[<- m]
  ((repeat apply Exists.intro);refine⟨H.lo scl3,?_⟩)
  refine AB (fun i=>?_) (fun i=>?_)
  ·rw[if_pos (by have B:(120:Int)<=(n:Int):=i;omega)]
   exact Hp.shut H.BA fun o H=>⟨rfl,g,j,H.Ls⟩
  ·rw[if_neg (by have B:¬(120:Int)<=(n:Int):=i;omega)]
   ((repeat apply Exists.intro);refine⟨H.lo scl3,?_⟩)
   refine AC (RF b g L stamp j n s _ (H.ok _ (.head _))) ?_;rintro e J ⟨rfl,l,f,C⟩;replace H:=Hp.BX (a:=pgA b _) H C;clear C;refine⟨_,rfl,Aa (fun t=>?_) (fun t=>?_)⟩
   ·rw[if_neg t]
    refine Hp.shut H.BA fun o H=>⟨rfl,l,?_,H.Ls⟩;rw[YN t]at f;exact f
   ·rw[if_pos t]
    ((repeat apply Exists.intro);refine⟨H.lo scl3,?_⟩)
    exact Hp.shut H.BA fun o H=>⟨rfl,l,f,H.Ls⟩
end
theorem Zq(n:Int):∀(m k:Nat),k<m->(be n m)[k]? =some (bt n (m-1-k))
 |0,k,h=>by omega
 |m+1,0,_=>rfl
 |m+1,k+1,h=>by
  rw[be,List.getElem?_cons_succ,Zq n m k (by omega)];congr 2;omega
def Yq(n:Int):Prop:=0<=n/\n<=4611686018427387904
instance (n:Int):Decidable (Yq n):=by unfold Yq;infer_instance
def gZ(low:Nat):Pg:= {st:=List.replicate 8 0,hdr:=0,dir:=List.replicate 120 (0,0),data:=List.replicate 3606 0,many:=0,low:=low}
theorem aV{low:Nat}(h:low<=4096):(gZ low).Ok:=⟨length_replicate,by show 0<65536;omega,length_replicate,length_replicate,by show 0<=120;omega,fun p a=>by rw[List.eq_of_mem_replicate a];simp,h⟩
theorem zl54:zl Tryz.prog 162=(gZ 0).cells:=by kernel_rfl
theorem new54:bigL Tryz.prog 162 [(2,.int .i64 4096)]=(gZ 4096).cells:=by kernel_rfl
theorem aJ:Rep (gZ 4096) [] 0:=⟨aV (by omega),by show List.replicate 8 (0:UInt8)=be ((0:Nat):Int) 8;decide,by omega,rfl,.nil,by simp,.inl rfl,fun k a=>by have:k<0:=a;omega,⟨[],.refl _,rfl,by show(List.replicate 3606 (0:UInt8)).drop 3606=[];simp⟩,by simp[tot],by simp[tot,gZ]⟩
theorem new_any(w:World):Calls Tryz.prog 123 #[] w fun e w'=>∃b,e=.returned (.pointer (some ⟨b,0,none⟩))/\Hp [] w w' [pgA b (gZ 4096)]:=by
 apply snew.ok;unfold snew.vc;have H:=Hp.start w;rw[new54]
 (intro _ _ a;replace H:=H.nw a;clear a)
 exact⟨_,rfl,H⟩
theorem over_full{l cs:List Value}(h:l.length=cs.length):over l 0 cs=l:=by
 apply ext_getElem?;intro k;rw[He _ _ _ (by omega)];by_cases a:k<l.length
 ·rw[if_pos (by omega),Nat.sub_zero]
 ·rw[if_neg (by omega),List.getElem?_eq_none (by omega),List.getElem?_eq_none (by omega)]
theorem cells_one(g:Pg):g.cells.all (·.oneCell')=true:=by
 rw[List.all_eq_true];intro u a;rcases mem_append.1 a with h|h
 ·exact MR _ u h
 ·rcases mem_cons.1 h with rfl|h
  ·rfl
  ·rcases mem_cons.1 h with rfl|h
   ·rfl
   ·cases h
theorem clone_any(b:Nat)(g:Pg)(w:World)(h:PgAt w b g):
  Calls Tryz.prog 53 #[.pointer (some ⟨b,0,none⟩)] w fun e w'=>∃a,e=.returned (.pointer (some ⟨a,0,none⟩))/\Hp [] w w' [pgA a g]:=by
 apply clone.ok;unfold clone.vc;have H:=Hp.start w;refine AA rfl ⟨Ad g.bs,_,_,Blk.ldA (vs:=g.cells) (o:=0) h.2 aW.agg (by rw[h.1.clen];exact aW.size) (by rw[List.drop_zero];exact take_length),?_⟩;rw[zl54]
 (intro _ _ c;replace H:=H.nw c;clear c)
 refine Hp.stA (vs:=g.cells) H EQ4 aW h.1.clen (cells_one g) (by rw[(aV (by omega)).clen];omega) (over_full (by rw[h.1.clen,(aV (by omega)).clen])) ?_;clear H;intro d H;exact⟨_,rfl,H⟩
end Go.Proofs.YtljenkbpnioipaaGreat.Sl
namespace Go.Proofs.YtljenkbpnioipaaGreat.Fol
open Go Go.Vc
theorem scl3:Scl Tryz.prog 3:=BH (by kernel_rfl)
theorem scl9:Scl Tryz.prog 9:=BH (by kernel_rfl)
theorem GU:Scl Tryz.prog 202:=BH (by kernel_rfl)
theorem VD:Scl Tryz.prog 159:=BH (by kernel_rfl)
theorem scl4:Scl Tryz.prog 4:=BH (by kernel_rfl)
theorem scl5:Scl Tryz.prog 5:=BH (by kernel_rfl)
theorem CW:Agg Tryz.prog 204 8:=Cb (by kernel_rfl)
theorem aj:Agg Tryz.prog 258 2:=Cb (by kernel_rfl)
theorem aQ:Agg Tryz.prog 62 2:=Cb (by kernel_rfl)
theorem Vf:Agg Tryz.prog 260 2:=Cb (by kernel_rfl)
theorem Ug:Elt Tryz.prog 159 5 1 1:=CQ (by kernel_rfl)
theorem elt26:Elt Tryz.prog 106 9 1 16:=CQ (by kernel_rfl)
theorem ZJ:Elt Tryz.prog 202 260 2 24:=CQ (by kernel_rfl)
theorem und9:Tryz.prog.underlying 9=some .string:=by kernel_rfl
theorem UK:Tryz.prog.underlying 159=some (.slice 5):=by kernel_rfl
theorem und5:Tryz.prog.underlying 5=some (.int .u8):=by kernel_rfl
structure Rec where
 id:Int
 parent:Int
 kind:Int
 name:Int
 frm:Int
 to:Int
 text:ByteArray
 attrs:List (Int×ByteArray)
def GH(p:Int×ByteArray):List Value:=[.int .i64 p.1,.string p.2]
def Az(l:List (Int×ByteArray)):List Value:=l.flatMap GH
structure AtS(w:World)(a:Option Addr)(n:Nat)(l:List (Int×ByteArray)):Prop where
 len:n=l.length
 cells:Cells w a (Az l)
theorem AtS.chg{w w':World}{a:Option Addr}{n:Nat}{l:List (Int×ByteArray)}{B:List Nat}(h:AtS w a n l)(hc:Chg B w w')(b:∀k∈blks a,k∉B):AtS w' a n l:=⟨h.len,h.cells.chg hc b⟩
def Ik(n:Int):Prop:=1<=n/\n<=4000
instance (n:Int):Decidable (Ik n):=by unfold Ik;infer_instance
def XK(r:Rec):Prop:=(∀p∈r.attrs,Ik p.1/\p.2.size<=1500)/\(r.attrs.map (·.1)).Nodup/\Ik r.name/\r.text=⟨#[]⟩/\r.attrs.length<=20
instance (r:Rec):Decidable (XK r):=by unfold XK;infer_instance
def Dz(r:Rec):Prop:=1<=r.id/\r.id<=2147483647/\0<=r.parent/\r.parent<=2147483647/\0<=r.frm/\r.frm<r.to/\r.to<=4611686018427387904/\((r.kind=1/\XK r)\/(r.kind=2/\r.name=0/\r.attrs=[]/\r.text.size<=1500))
instance (r:Rec):Decidable (Dz r):=by unfold Dz;infer_instance
def Rec.val(r:Rec)(a:Option Addr)(n c:Nat):Value:=.agg #[.int .i64 r.id,.int .i64 r.parent,.int .i64 r.kind,.int .i64 r.name,.int .i64 r.frm,.int .i64 r.to,.string r.text,.slice a n c]
theorem nope{p:Prop}[Decidable p](h:¬p):Ending.returned (Value.bool false)=.returned (.bool (decide p)):=by rw[decide_eq_false h]
theorem SC(n:Int)(w:World):Calls Tryz.prog 266 #[.int .i64 n] w fun e w'=>e=.returned (.bool (decide (Ik n)))/\Hp [] w w' []:=by
 apply fNamed.ok;unfold fNamed.vc;refine AB (fun h=>?_) (fun h=>?_)
 ·exact⟨by simp[Ik,h],Hp.start w⟩
 ·exact⟨by simp[Ik,h],Hp.start w⟩
theorem flat_get:∀(l:List (Int×ByteArray))(k j:Nat)(p:Int×ByteArray)(v:Value),l[k]? =some p->(GH p)[j]? =some v->(Az l)[k*2+j]? =some v
 |x::r,0,j,p,v,hk,hj=>by
  simp only[List.getElem?_cons_zero,Option.some.injEq]at hk;subst hk;simp only[Az,flatMap_cons,Nat.zero_mul,Nat.zero_add];rw[List.getElem?_append_left (List.getElem?_eq_some_iff.1 hj).1];exact hj
 |x::r,k+1,j,p,v,hk,hj=>by
  simp only[List.getElem?_cons_succ]at hk;have:=flat_get r k j p v hk hj;simp only[Az,flatMap_cons]at this⊢;rw[List.getElem?_append_right (by simp only[GH,length_cons,length_nil];omega)];rw[show(k+1)*2+j-(GH x).length=k*2+j by simp only[GH,length_cons,length_nil];omega];exact this
theorem AtS.ld{w:World}{a:Option Addr}{n:Nat}{l:List (Int×ByteArray)}(h:AtS w a n l){t:TypeId}(b:Agg Tryz.prog t 2){k:Nat}{p:Int×ByteArray}(d:l[k]? =some p){c:Addr}(e:a=some c):
  Ld Tryz.prog t w (c.add (k*2)) (.agg #[.int .i64 p.1,.string p.2]):=by
 subst e;refine Wh (vs:=GH p) b.agg b.size fun j v f=>?_;obtain⟨g,i,m⟩:=h.cells (k*2+j) v (flat_get l k j p v d f);cases i;rw[add_add];exact m
theorem AtS.some{w:World}{a:Option Addr}{n:Nat}{l:List (Int×ByteArray)}(h:AtS w a n l){k:Nat}(c:k<l.length):∃b,a=some b:=by
 obtain⟨b,d,_⟩:=h.cells (k*2) _ (flat_get l k 0 _ _ (List.getElem?_eq_getElem c) rfl);exact⟨b,d⟩
def aG(l:List (Int×ByteArray)):Prop:=(∀p∈l,Ik p.1/\p.2.size<=1500)/\(l.map (·.1)).Nodup
theorem aget_put(l:List (Int×Value))(k x:Int)(v:Value):aget (aput l k v) x=if x=k then some v else aget l x:=by
 induction l with
 |nil=>simp[aput,aget]
 |cons p r b=>
  obtain⟨y,u⟩:=p;simp only[aput];by_cases h:k=y
  ·subst h
   simp only[if_true,aget];by_cases a:x=k<;>simp[a]
  ·simp only[if_neg h,aget,b]
   by_cases a:x=y
   ·subst a;simp[Ne.symm h]
   ·simp[a]
theorem WL:MapT Tryz.prog (CZ .i64) 281 3 3 (.int .i64 0):=⟨by kernel_rfl,by kernel_rfl,by kernel_rfl⟩
theorem elem_spec(r:Rec)(a:Option Addr)(n c:Nat)(w:World)(hA:AtS w a n r.attrs)(hn:n<=maxLen):
  Calls Tryz.prog 225 #[r.val a n c] w fun e w'=>e=.returned (.bool (decide (XK r)))/\Hp [] w w' []:=by
 apply fElement.ok;unfold fElement.vc;have H:=Hp.start w
 (intro _ _ hn;replace H:=H.nw hn;clear hn)
 intro _ b2 hn2;replace H:=H.newI EQ4 .i64 hn2;clear hn2
 ((repeat apply Exists.intro);refine⟨H.lo GU,?_⟩)
 rename_i b _ _;have hlen:=hA.len
 have hmax:maxLen<=9223372036854775807:=by simp[maxLen]
 refine AP.mk (fun m s w'=>∃k al,m=n-k/\s=(k:Int)/\k<=n/\aG (r.attrs.take k)/\(∀x,aget al x=if x∈(r.attrs.take k).map (·.1)then some (.int .i64 1)else none)/\
  Hp [] w w' [.imap _ .i64 al,.blk b [.int .i64 r.id,.int .i64 r.parent,.int .i64 r.kind,.int .i64 r.name,.int .i64 r.frm,.int .i64 r.to,.string r.text,.slice a n c] 204]) n ⟨0,[],rfl,rfl,Nat.zero_le _,by simp[aG],by simp[aget],H⟩ ?_
 clear H
 rintro m s w' next ⟨k,al,rfl,rfl,hk,hup,hal,H⟩ hnext
 refine AB (fun h=>?_) (fun h=>?_)
 ·have hkl:k<r.attrs.length:=by omega
  have hAw:=hA.chg H.chg (by simp);obtain⟨ad,had⟩:=hA.some hkl;have hp:r.attrs[k]? =some r.attrs[k]:=List.getElem?_eq_getElem hkl;refine AA had ⟨⟨by omega,h⟩,_,_,hAw.ld Vf hp had,?_⟩
  (intro _ _ hn;replace H:=H.nw hn;clear hn;apply Hp.stA;(case H=>exact H);(case e=>exact⟨rfl,rfl,rfl,rfl⟩);(case S=>exact Vf);(case hn=>exact rfl);(case h1=>exact rfl);(case ho=>exact Nat.le_of_ble_eq_true rfl);(case hc=>exact rfl);clear H;intro _ H;(try simp only[over,set_cons_zero,set_cons_succ]at H);(repeat apply Exists.intro);refine⟨H.lo scl3,?_⟩)
  refine AC (SC _ _) ?_;rintro e w2 ⟨rfl,H'⟩;replace H:=H.ext0 H';refine⟨_,rfl,Aa (fun h1=>⟨nope fun hh=>h1 (hh.1 _ (getElem_mem hkl)).1,H.done⟩) (fun h1=>?_)⟩
  ((repeat apply Exists.intro);refine⟨H.lo scl3,?_⟩)
  by_cases hm:r.attrs[k].1∈(r.attrs.take k).map (·.1)
  ·refine⟨1,H.lkI WL EQ4 (by repeat first|exact .head _|refine .tail _ ?_) (by rw[hal,if_pos hm];rfl),AB (fun h2=>⟨nope fun hh=>?_,H.done⟩) (fun h2=>absurd h2 (by omega))⟩
   have h3:=hh.2.1;rw[<- take_append_drop k r.attrs,map_append,drop_eq_getElem_cons hkl,map_cons,nodup_append]at h3;exact h3.2.2 _ hm _ (List.mem_cons_self ..) rfl
  refine⟨0,H.lkI WL EQ4 (by repeat first|exact .head _|refine .tail _ ?_) (by rw[hal,if_neg hm];rfl),AB (fun h2=>absurd h2 (by omega)) (fun h2=>?_)⟩
  ((repeat apply Exists.intro);refine⟨H.lo scl9,?_⟩)
  refine AB (fun h3=>⟨nope fun hh=>?_,H.done⟩) (fun h3=>?_)
  ·have:=(hh.1 _ (getElem_mem hkl)).2;omega
  ((repeat apply Exists.intro);refine⟨H.lo scl3,?_⟩)
  refine⟨0,H.lkI WL EQ4 (by repeat first|exact .head _|refine .tail _ ?_) (by rw[hal,if_neg hm];rfl),iR,Hp.mupI WL H.Af EQ4 ?_⟩;clear H;intro w5 H;refine⟨iR,hnext (n-(k+1)) _ _ (by omega) ⟨k+1,_,rfl,by simp,by omega,?_,?_,H.drop1⟩⟩
  ·rw[take_succ_eq_append_getElem hkl]
   refine⟨fun p hp=>?_,?_⟩
   ·rcases mem_append.1 hp with hp|hp
    ·exact hup.1 p hp
    ·rw[mem_singleton]at hp;subst hp
     exact⟨h1,by omega⟩
   ·rw[map_append,nodup_append]
    refine⟨hup.2,by simp,fun x hx y hy=>?_⟩;simp at hy;subst hy;intro he;subst he;exact hm hx
  ·intro x
   rw[aget_put,hal,take_succ_eq_append_getElem hkl,map_append,map_cons,map_nil];by_cases hx:x=r.attrs[k].1
   ·subst hx;simp
   ·rw[if_neg hx]
    simp only[mem_append,mem_singleton,hx,or_false]
 ·have hkn:k=n:=by omega
  subst hkn;rw[hlen,take_length]at hup
  ((repeat apply Exists.intro);refine⟨H.lo scl3,?_⟩)
  refine AC (SC _ _) ?_;rintro e w2 ⟨rfl,H'⟩;replace H:=H.ext0 H';refine⟨_,rfl,AB (fun h1=>?_) (fun h1=>⟨nope fun hh=>h1 hh.2.2.1,H.done⟩)⟩
  ((repeat apply Exists.intro);refine⟨H.lo scl9,?_⟩)
  refine AB (fun h2=>?_) (fun h2=>⟨nope fun hh=>h2 hh.2.2.2.1,H.done⟩)
  ((repeat apply Exists.intro);refine⟨H.lo GU,?_⟩)
  refine⟨?_,H.done⟩;congr 2;rw[decide_eq_decide];exact⟨fun h3=>⟨hup.1,hup.2,h1,h2,by omega⟩,fun h3=>by have:=h3.2.2.2.2;omega⟩
theorem right_spec(r:Rec)(a:Option Addr)(n c:Nat)(w:World)(hA:AtS w a n r.attrs)(hn:n<=maxLen):
  Calls Tryz.prog 174 #[r.val a n c] w fun e w'=>e=.returned (.bool (decide (Dz r)))/\Hp [] w w' []:=by
 apply fRight.ok;unfold fRight.vc;have H:=Hp.start w
 (intro _ _ hn;replace H:=H.nw hn;clear hn;(repeat apply Exists.intro);refine⟨H.loA aQ,?_⟩;intro _ _ hn;replace H:=H.nw hn;clear hn;apply Hp.stA;(case H=>exact H);(case e=>exact⟨rfl,rfl,rfl,rfl⟩);(case S=>exact aQ);(case hn=>exact rfl);(case h1=>exact rfl);(case ho=>exact Nat.le_of_ble_eq_true rfl);(case hc=>exact rfl);clear H;intro _ H;(try simp only[over,set_cons_zero,set_cons_succ]at H);(repeat apply Exists.intro);refine⟨H.lo scl3,?_⟩)
 refine AB (fun h1=>⟨nope fun h=>by obtain⟨_,_,_,_,_,_,_,_⟩:=h;omega,H.done⟩) (fun h1=>?_)
 ((repeat apply Exists.intro);refine⟨H.lo scl3,?_⟩)
 refine AB (fun h2=>⟨nope fun h=>by obtain⟨_,_,_,_,_,_,_,_⟩:=h;omega,H.done⟩) (fun h2=>?_)
 ((repeat apply Exists.intro);refine⟨H.lo scl3,?_⟩)
 refine AB (fun h3=>⟨nope fun h=>by obtain⟨_,_,_,_,_,_,_,_⟩:=h;omega,H.done⟩) (fun h3=>?_)
 ((repeat apply Exists.intro);refine⟨H.lo scl3,?_⟩)
 refine AB (fun h4=>⟨nope fun h=>by obtain⟨_,_,_,_,_,_,_,_⟩:=h;omega,H.done⟩) (fun h4=>?_)
 ((repeat apply Exists.intro);refine⟨H.lo scl3,?_⟩)
 refine AB (fun h5=>⟨nope fun h=>by obtain⟨_,_,_,_,_,_,_,_⟩:=h;omega,H.done⟩) (fun h5=>?_)
 ((repeat apply Exists.intro);refine⟨H.lo scl3,?_⟩;(repeat apply Exists.intro);refine⟨H.lo scl3,?_⟩)
 refine AB (fun h6=>⟨nope fun h=>by obtain⟨_,_,_,_,_,_,_,_⟩:=h;omega,H.done⟩) (fun h6=>?_)
 ((repeat apply Exists.intro);refine⟨H.lo scl3,?_⟩)
 refine AB (fun h7=>⟨nope fun h=>by obtain⟨_,_,_,_,_,_,_,_⟩:=h;omega,H.done⟩) (fun h7=>?_)
 ((repeat apply Exists.intro);refine⟨H.lo scl3,?_⟩)
 have hb:∀X:Prop,(Dz r↔X)↔(((r.kind=1/\XK r)\/(r.kind=2/\r.name=0/\r.attrs=[]/\r.text.size<=1500))↔X):=fun X=>by
  unfold Dz;constructor
  ·intro h;rw[<- h];constructor
   ·intro h;exact⟨by omega,by omega,by omega,by omega,by omega,by omega,by omega,h⟩
   ·intro h;exact h.2.2.2.2.2.2.2
  ·intro h;rw[<- h];constructor
   ·intro h;exact h.2.2.2.2.2.2.2
   ·intro h;exact⟨by omega,by omega,by omega,by omega,by omega,by omega,by omega,h⟩
 refine AB (fun h8=>?_) (fun h8=>AB (fun h9=>?_) (fun h9=>?_))
 ·((repeat apply Exists.intro);refine⟨H.loA CW,?_⟩)
  refine AC (elem_spec r a n c _ (hA.chg H.chg (by simp)) hn) ?_;rintro e w' ⟨rfl,H'⟩;refine⟨_,rfl,?_,(H.ext0 H').done⟩;congr 2;rw[decide_eq_decide,Iff.comm,hb];simp[h8]
 ·((repeat apply Exists.intro);refine⟨H.lo scl3,?_⟩)
  refine AB (fun h10=>?_) (fun h10=>⟨?_,H.done⟩)
  ·((repeat apply Exists.intro);refine⟨H.lo GU,?_⟩)
   refine AB (fun h11=>?_) (fun h11=>⟨?_,H.done⟩)
   ·((repeat apply Exists.intro);refine⟨H.lo scl9,?_⟩)
    refine⟨?_,H.done⟩;have h12:r.attrs=[]:=List.eq_nil_of_length_eq_zero (by have:=hA.len;omega);congr 2;rw[decide_eq_decide,Iff.comm,hb];simp[h9,h10,h12];omega
   ·have h12:r.attrs≠[]:=fun h=>h11 (by have:=hA.len;rw[h]at this;simp[this])
    congr 2;rw[eq_comm,decide_eq_false_iff_not];have:=(hb False).2 (by simp[h9,h12]);exact this.1
  ·congr 2
   rw[eq_comm,decide_eq_false_iff_not];have:=(hb False).2 (by simp[h9,h10]);exact this.1
 ·refine⟨?_,H.done⟩
  congr 2;rw[eq_comm,decide_eq_false_iff_not];have:=(hb False).2 (by simp[h8,h9]);exact this.1
def Io(l:List (Int×Nat)):List Value:=l.flatMap fun f=>[.int .i64 f.1,.int .i64 (f.2:Int)]
def laid(l:List (Int×Nat)):List UInt8:=l.flatMap fun f=>be f.1 f.2
theorem ZH:∀(l:List (Int×Nat))(k j:Nat)(p:Int×Nat)(v:Value),l[k]? =some p->([Value.int .i64 p.1,Value.int .i64 (p.2:Int)]:List Value)[j]? =some v->(Io l)[k*2+j]? =some v
 |x::r,0,j,p,v,hk,hj=>by
  simp only[List.getElem?_cons_zero,Option.some.injEq]at hk;subst hk;simp only[Io,flatMap_cons,Nat.zero_mul,Nat.zero_add];rw[List.getElem?_append_left (List.getElem?_eq_some_iff.1 hj).1];exact hj
 |x::r,k+1,j,p,v,hk,hj=>by
  simp only[List.getElem?_cons_succ]at hk;have:=ZH r k j p v hk hj;simp only[Io,flatMap_cons]at this⊢;rw[List.getElem?_append_right (by simp only[length_cons,length_nil];omega)];rw[show(k+1)*2+j-([Value.int .i64 x.1,Value.int .i64 (x.2:Int)]:List Value).length=k*2+j by simp only[length_cons,length_nil];omega];exact this
theorem fld_ld{w:World}{a:Addr}{l:List (Int×Nat)}(h:Cells w (some a) (Io l)){t:TypeId}(b:Agg Tryz.prog t 2){k:Nat}{p:Int×Nat}(c:l[k]? =some p):
  Ld Tryz.prog t w (a.add (k*2)) (.agg #[.int .i64 p.1,.int .i64 (p.2:Int)]):=by
 refine Wh (vs:=[.int .i64 p.1,.int .i64 (p.2:Int)]) b.agg b.size fun j v d=>?_;obtain⟨e,f,g⟩:=h (k*2+j) v (ZH l k j p v c d);cases f;rw[add_add];exact g
theorem Iw(a:Option Addr)(n c:Nat)(bs:List UInt8)(y:Addr)(G:Nat)(l:List (Int×Nat))(z:∀f∈l,f.2<=8)(w:World)
  (q:(Asn.own 5 1 a n c (Ad bs)).ok w) (hn:n=bs.length) (I:Cells w (some y) (Io l)) (r:y.block∉blks a) (D:l.length<=1000000) (t:(bs++laid l).length<=140737488355328):
  Calls Tryz.prog 176 #[.slice a n c,.slice (some y) l.length G] w fun e w'=>∃a' c',e=.returned (.slice a' (bs++laid l).length c')/\Hp (blks a) w w' [.own 5 1 a' (bs++laid l).length c' (Ad (bs++laid l))]:=by
 apply fLay.ok;unfold fLay.vc;have H:=Hp.Ii q
 have E:maxLen=9223372036854775807:=by simp[maxLen]
 refine AP.mk (fun m s w'=>∃k a' j c' X,m=l.length-k/\s=((a',j,c'),(k:Int))/\k<=l.length/\X++laid (l.drop k)=bs++laid l/\j=X.length/\
  Hp (blks a) w w' [.own 5 1 a' j c' (Ad X)]) l.length ⟨0,a,n,c,bs,rfl,rfl,Nat.zero_le _,rfl,hn,H⟩ ?_
 clear H
 rintro m s w' next ⟨k,a',j,c',X,rfl,rfl,P,u,rfl,H⟩ o
 dsimp only;refine AB (fun h=>?_) (fun h=>?_)
 ·have d:k<l.length:=by simpa using h
  have J:l[k]? =some l[k]:=List.getElem?_eq_getElem d;have A:=I.chg H.chg (by simpa [blks]using r);refine AA rfl ⟨⟨by simp,h⟩,_,_,fld_ld A aj J,?_⟩
  (intro _ _ hn;replace H:=H.nw hn;clear hn;apply Hp.stA;(case H=>exact H);(case e=>exact⟨rfl,rfl,rfl,rfl⟩);(case S=>exact aj);(case hn=>exact rfl);(case h1=>exact rfl);(case ho=>exact Nat.le_of_ble_eq_true rfl);(case hc=>exact rfl);clear H;intro _ H;(try simp only[over,set_cons_zero,set_cons_succ]at H);(repeat apply Exists.intro);refine⟨H.lo scl3,?_⟩)
  have Q:=z _ (getElem_mem d);refine⟨iR,?_⟩;rename_i b _ _;rw[drop_eq_getElem_cons d,laid,flatMap_cons,<- laid]at u
  refine AP.mk (fun m s w'=>∃a' j c' X,m<=l[k].2/\s=((a',j,c'),(m:Int)-1)/\X++(be l[k].1 m++laid (l.drop (k+1)))=bs++laid l/\j=X.length/\
   Hp (blks a) w w' [.own 5 1 a' j c' (Ad X),.blk b [.int .i64 l[k].1,.int .i64 (l[k].2:Int)] 258]) l[k].2 ⟨a',_,c',X,Nat.le_refl _,rfl,u,rfl,H.Af⟩ ?_
  clear H;rintro m s R B ⟨K,T,L,x,U,rfl,g,rfl,H⟩ i;dsimp only;refine AB (fun F=>?_) (fun F=>?_)
  ·cases m with
   |zero=>simp at F
   |succ m=>
    ((repeat apply Exists.intro);refine⟨H.lo scl3,?_⟩)
    have M:(x++(be l[k].1 (m+1)++laid (l.drop (k+1)))).length=(bs++laid l).length:=by rw[g]
    simp only[length_append,AV]at M t;refine⟨iR,by omega,?_⟩;intro Y Z p;rw[Ns _ m (by omega) _ (by omega)]at p;replace H:=H.nw p;clear p;refine Hp.app Ug (by omega) H.Af EQ4 (Blk.src UK (H.blk (.head _)) rfl rfl) (by omega) (by omega) ?_;clear H;intro N O w4 H;refine⟨iR,i m _ _ (by omega) ⟨N,x.length+1,O,x++[bt l[k].1 m],by omega,?_,?_,by simp,?_⟩⟩
    ·simp only[Prod.mk.injEq,true_and];omega
    ·rw[<- g,be];simp
    ·rw[CB];exact H.drop1
  ·have C:m=0:=by omega
   subst C;simp only[be,nil_append]at g;refine⟨iR,o (l.length-(k+1)) _ _ (by omega) ⟨k+1,K,_,L,x,rfl,?_,by omega,g,rfl,H.Ls⟩⟩;simp
 ·have d:k=l.length:=by omega
  subst d;simp only[drop_length,laid,List.flatMap_nil,append_nil]at u;rw[<- laid]at u;subst u;exact⟨a',c',rfl,H⟩
def EM(l:List (Int×ByteArray)):List UInt8:=l.flatMap fun p=>be p.1 2++be (p.2.size:Int) 2++p.2.data.toList
def EL(r:Rec):List UInt8:=laid [(r.id,4),(r.parent,4),(r.frm,8),(r.to,8),(r.kind,1),(r.name,2),((r.text.size:Int),2)]
def Aj(r:Rec):List UInt8:=EL r++r.text.data.toList++be (r.attrs.length:Int) 1++EM r.attrs
theorem Xa(n:Int)(k:Nat):laid [(n,k)]=be n k:=by simp[laid]
theorem laid_two(n m:Int)(k j:Nat):laid [(n,k),(m,j)]=be n k++be m j:=by simp[laid]
theorem SS{B:List Nat}{w0 w:World}{L:List Asn}{a:Option Addr}{n c:Nat}{bs:List UInt8}{b i:Nat}{T:TypeId}(l:List (Int×Nat))(H:Hp B w0 w (.own 5 1 a n c (Ad bs)::L))(j:Asn.blk b (Io l) T∈L)
  (h:∀f∈l,f.2<=8) (hn:n=bs.length) (d:l.length<=1000000) (g:(bs++laid l).length<=140737488355328):
  Calls Tryz.prog 176 #[.slice a n c,.slice (some ⟨b,0,none⟩) l.length i] w fun e w'=>∃a' c',e=.returned (.slice a' (bs++laid l).length c')/\Hp B w0 w' (.own 5 1 a' (bs++laid l).length c' (Ad (bs++laid l))::L):=by
 refine Calls.mono (Iw a n c bs ⟨b,0,none⟩ i l h w (H.ok _ (.head _)) hn (Blk.cells (H.blk (.tail _ j))) ?_ d g) ?_
 ·intro k
  exact(pairwise_cons.1 H.sep).1 _ j b k (by simp[Asn.foot])
 ·rintro e w' ⟨a',c',rfl,m⟩
  exact⟨a',c',rfl,H.BX m⟩
theorem whole_spec(r:Rec)(a:Option Addr)(n c:Nat)(w:World)(p:AtS w a n r.attrs)(hn:n<=1000)(y:(Aj r).length<=100000000):
  Calls Tryz.prog 175 #[r.val a n c] w fun e w'=>∃a' c',e=.returned (.slice a' (Aj r).length c')/\Hp [] w w' [.own 5 1 a' (Aj r).length c' (Ad (Aj r))]:=by
 apply fWhole.ok;unfold fWhole.vc;have H:=Hp.start w
 have z:maxLen=9223372036854775807:=by simp[maxLen]
 have f:=p.len
 have C:(Aj r).length=(EL r).length+r.text.size+1+(EM r.attrs).length:=by
  simp only[Aj,length_append,AV,Array.length_toList];rfl
 have D:(EL r).length=29:=by simp[EL,laid,AV]
 (intro _ _ hn;replace H:=H.nw hn;clear hn)
 rename_i b _
 ((repeat apply Exists.intro);refine⟨H.lo scl3,?_⟩;(repeat apply Exists.intro);refine⟨H.lo scl3,?_⟩;(repeat apply Exists.intro);refine⟨H.lo scl3,?_⟩;(repeat apply Exists.intro);refine⟨H.lo scl3,?_⟩;(repeat apply Exists.intro);refine⟨H.lo scl3,?_⟩;(repeat apply Exists.intro);refine⟨H.lo scl3,?_⟩;(repeat apply Exists.intro);refine⟨H.lo scl9,?_⟩;intro _ _ hn;replace H:=H.nw hn;clear hn)
 refine AC (SS (bs:=[]) [(r.id,4),(r.parent,4),(r.frm,8),(r.to,8),(r.kind,1),(r.name,2),((r.text.size:Int),2)] (H.nilS 5 1) (by repeat first|exact .head _|refine .tail _ ?_) (by simp) rfl (by simp) (by simp[laid,AV])) ?_;clear H;rintro e M ⟨N,O,rfl,H⟩;refine⟨_,_,_,rfl,?_⟩;rw[nil_append,<- EL]at H⊢;replace H:=H.drop1;refine Am.mk (fun s w'=>∃a' g c',s=(a',g,c')/\g=(EL r++r.text.data.toList++be (r.attrs.length:Int) 1).length/\Hp [] w w' [.own 5 1 a' g c' (Ad (EL r++r.text.data.toList++be (r.attrs.length:Int) 1)),.blk b [.int .i64 r.id,.int .i64 r.parent,.int .i64 r.kind,.int .i64 r.name,.int .i64 r.frm,.int .i64 r.to,.string r.text,.slice a n c] 204]) ?_ ?_
 ·clear H
  rintro s P ⟨E,Q,F,rfl,rfl,H⟩;dsimp only
  ((repeat apply Exists.intro);refine⟨H.lo GU,?_⟩)
  refine AP.mk (fun m s w'=>∃k a' g c' X,m=r.attrs.length-k/\s=((a',g,c'),(k:Int))/\k<=r.attrs.length/\X++EM (r.attrs.drop k)=Aj r/\g=X.length/\
   Hp [] w w' [.own 5 1 a' g c' (Ad X)]) r.attrs.length ⟨0,E,_,F,_,rfl,rfl,Nat.zero_le _,rfl,rfl,H.Ls⟩ ?_
  clear H
  rintro m s w' next ⟨k,a',g,c',X,rfl,rfl,R,j,rfl,H⟩ i
  dsimp only;refine AB (fun h=>?_) (fun h=>?_)
  ·have d:k<r.attrs.length:=by omega
   have G:r.attrs[k]? =some r.attrs[k]:=List.getElem?_eq_getElem d;obtain⟨T,l⟩:=p.some d;rw[drop_eq_getElem_cons d,EM,flatMap_cons,<- EM]at j
   have I:(X++(be r.attrs[k].1 2++be (r.attrs[k].2.size:Int) 2++r.attrs[k].2.data.toList++EM (r.attrs.drop (k+1)))).length=(Aj r).length:=by rw[j]
   simp only[length_append,AV,Array.length_toList]at I;have K:r.attrs[k].2.data.size=r.attrs[k].2.size:=rfl;refine AA l ⟨⟨by omega,h⟩,_,_,(p.chg H.chg (by simp)).ld Vf G l,?_⟩
   (intro _ _ hn;replace H:=H.nw hn;clear hn;apply Hp.stA;(case H=>exact H);(case e=>exact⟨rfl,rfl,rfl,rfl⟩);(case S=>exact Vf);(case hn=>exact rfl);(case h1=>exact rfl);(case ho=>exact Nat.le_of_ble_eq_true rfl);(case hc=>exact rfl);clear H;intro _ H;(try simp only[over,set_cons_zero,set_cons_succ]at H);(repeat apply Exists.intro);refine⟨H.lo scl3,?_⟩;(repeat apply Exists.intro);refine⟨H.lo scl9,?_⟩;(repeat apply Exists.intro);refine⟨H.lo scl9,?_⟩;intro _ _ hn;replace H:=H.nw hn;clear hn;(repeat apply Exists.intro);refine⟨H.lo scl9,?_⟩)
   refine AC (SS (bs:=X) [(r.attrs[k].1,2),((r.attrs[k].2.size:Int),2)] H.BA (by repeat first|exact .head _|refine .tail _ ?_) (by simp) rfl (by simp) (by simp[laid,AV]<;>omega)) ?_;clear H;rintro e U ⟨Y,Z,rfl,H⟩;refine⟨_,_,_,rfl,?_⟩
   ((repeat apply Exists.intro);refine⟨H.lo scl9,?_⟩)
   rw[laid_two]at H⊢;refine Hp.app Ug (by omega) H EQ4 (Src.ofString _ und9 _) (by simp[AV];omega) (by simp[AV];omega) ?_;clear H;intro q t A H;refine⟨iR,i (r.attrs.length-(k+1)) _ _ (by omega) ⟨k+1,q,_,t,X++(be r.attrs[k].1 2++be (r.attrs[k].2.size:Int) 2++r.attrs[k].2.data.toList),rfl,rfl,by omega,?_,?_,?_⟩⟩
   ·rw[<- j];simp
   ·simp[AV];omega
   ·rw[Gl,<- CB,append_assoc]at H
    exact H.Ls
  ·have d:k=r.attrs.length:=by omega
   subst d;simp only[drop_length,EM,List.flatMap_nil,append_nil]at j;subst j;exact⟨a',c',rfl,H⟩
 ·intro J B
  refine⟨?_,?_⟩
  ·((repeat apply Exists.intro);refine⟨H.lo scl9,?_⟩;(repeat apply Exists.intro);refine⟨H.lo GU,?_⟩)
   refine Hp.app Ug (by omega) H EQ4 (Src.ofString _ und9 r.text) (by omega) (by omega) ?_;clear H;intro q t A H
   ((repeat apply Exists.intro);refine⟨H.lo GU,?_⟩;intro _ _ hn;replace H:=H.nw hn;clear hn)
   have o:EL r++r.text.data.toList++be (r.attrs.length:Int) 1=EL r++r.text.data.toList++laid [((n:Int),1)]:=by rw[f,Xa]
   refine AC (SS (bs:=EL r++r.text.data.toList) [((n:Int),1)] (by rw[Gl,<- CB]at H;exact H.Af) (by repeat first|exact .head _|refine .tail _ ?_) (by simp) (by simp<;>rfl) (by simp) (by simp[laid,AV]<;>omega)) ?_;clear H;rintro e L ⟨u,x,rfl,H⟩;refine⟨_,_,_,rfl,B _ _ ⟨u,_,x,rfl,?_,?_⟩⟩
   ·rw[o]
   ·rw[o];exact H.drop1
  ·((repeat apply Exists.intro);refine⟨H.lo scl9,?_⟩;(repeat apply Exists.intro);refine⟨H.lo GU,?_⟩;intro _ _ hn;replace H:=H.nw hn;clear hn;(repeat apply Exists.intro);refine⟨H.lo scl9,?_⟩)
   refine Hp.app Ug (by omega) (n:=(EL r).length) H.Af EQ4 (Src.ofString _ und9 r.text) (by omega) (by omega) ?_;clear H;intro q t A H
   have o:EL r++r.text.data.toList++be (r.attrs.length:Int) 1=EL r++r.text.data.toList++laid [((n:Int),1)]:=by rw[f,Xa]
   refine AC (SS (bs:=EL r++r.text.data.toList) [((n:Int),1)] (by rw[Gl,<- CB]at H;exact H) (by repeat first|exact .head _|refine .tail _ ?_) (by simp) (by simp<;>rfl) (by simp) (by simp[laid,AV]<;>omega)) ?_;clear H;rintro e L ⟨u,x,rfl,H⟩;refine⟨_,_,_,rfl,B _ _ ⟨u,_,x,rfl,?_,?_⟩⟩
   ·rw[o]
   ·rw[o];exact H.drop1
def BV(n:Nat):Nat:=(n+899)/900
def headB(id:Int)(k many:Nat):List UInt8:=laid [(id,4),((k:Int),1),((many:Int),1)]
def Bf(r:Rec)(k:Nat):List UInt8:=headB r.id k (BV (Aj r).length)++((Aj r).drop (900*k)).take 900
def pieces(r:Rec):List (List UInt8):=(List.range (BV (Aj r).length)).map (Bf r)
def out(r:Rec):List (List UInt8):=if Dz r then pieces r else []
def errOf(p:Prop)[Decidable p]:Int:=if p then 0 else 160
theorem tdiv_many(l:Nat):Int.tdiv ((l:Int)+900-1) 900=((BV l:Nat):Int):=by
 rw[Int.tdiv_eq_ediv_of_nonneg (by omega)];unfold BV;omega
theorem F5(r:Rec):(pieces r).length=BV (Aj r).length:=by simp[pieces]
theorem BI(l:List (Int×ByteArray))(h:∀p∈l,p.2.size<=1500):(EM l).length<=1504*l.length:=by
 induction l with
 |nil=>simp[EM]
 |cons p r a=>
  have b:=a fun q c=>h q (.tail _ c);have d:=h p (.head _);simp only[EM,flatMap_cons,length_append,AV,Array.length_toList,length_cons]at b⊢;have:p.2.data.size=p.2.size:=rfl;omega
theorem whole_len(r:Rec):(Aj r).length=30+r.text.size+(EM r.attrs).length:=by
 have a:(EL r).length=29:=by simp[EL,laid,AV]
 simp only[Aj,length_append,AV,Array.length_toList,a];have:r.text.data.size=r.text.size:=rfl;omega
theorem E5{r:Rec}(h:Dz r):30<=(Aj r).length/\(Aj r).length<=30110/\r.attrs.length<=20:=by
 rw[whole_len]
 rcases h.2.2.2.2.2.2.2 with⟨_,a,_,_,b,d⟩|⟨_,_,a,b⟩
 ·have:=BI r.attrs fun p c=>(a p c).2
  rw[b,show(ByteArray.mk #[]).size=0 from rfl];omega
 ·rw[a];simp[EM];omega
theorem QJ(r:Rec)(a:Option Addr)(n c:Nat)(w:World)(x:AtS w a n r.attrs)(hn:n<=maxLen):
  Calls Tryz.prog 115 #[r.val a n c] w fun e w'=>∃a' c',e=.returned (.tuple #[.slice a' (out r).length c',.int .i64 (errOf (Dz r))])/\Hp [] w w' [.own 9 1 a' (out r).length c' ((out r).map sv)]:=by
 apply fEncode.ok;unfold fEncode.vc;have H:=Hp.start w
 have B:maxLen=9223372036854775807:=by simp[maxLen]
 (intro _ _ hn;replace H:=H.nw hn;clear hn;(repeat apply Exists.intro);refine⟨H.loA CW,?_⟩)
 refine AC (right_spec r a n c _ (x.chg H.chg (by simp)) hn) ?_;rintro e w' ⟨rfl,t⟩;replace H:=H.ext0 t;refine⟨_,rfl,Aa (fun h=>⟨none,0,?_,?_⟩) (fun h=>?_)⟩
 ·simp[out,h,errOf]
 ·simpa [out,h]using(H.done.nilS 9 1)
 obtain⟨D,E,F⟩:=E5 h;have C:=x.len
 have l:out r=pieces r:=by rw[out,if_pos h]
 have o:errOf (Dz r)=0:=by rw[errOf,if_pos h]
 have p:=F5 r;rw[l,o]
 ((repeat apply Exists.intro);refine⟨H.loA CW,?_⟩)
 refine AC (whole_spec r a n c _ (x.chg H.chg (by simp)) (by omega) (by omega)) ?_;rintro e T ⟨y,z,rfl,t⟩;replace H:=H.ext1 t;clear t
 have U:BV (Aj r).length<=34:=by unfold BV;omega
 refine⟨_,_,_,rfl,iR,iR,by omega,?_⟩;rw[tdiv_many];refine⟨iR,?_⟩;rename_i b _
 refine AP.mk (fun m s w'=>∃k a' c',m=BV (Aj r).length-k/\s=((a',k,c'),(k:Int))/\k<=BV (Aj r).length/\
   Hp [] w w' [.own 9 1 a' k c' (((pieces r).take k).map sv),.own 5 1 y (Aj r).length z (Ad (Aj r)),.blk b [.int .i64 r.id,.int .i64 r.parent,.int .i64 r.kind,.int .i64 r.name,.int .i64 r.frm,.int .i64 r.to,.string r.text,.slice a n c] 204]) (BV (Aj r).length) ⟨0,none,0,rfl,rfl,Nat.zero_le _,by simpa using H.nilS 9 1⟩ ?_
 clear H
 rintro m s w' next ⟨k,a',c',rfl,rfl,X,H⟩ g
 dsimp only;refine AB (fun G=>?_) (fun G=>?_)
 ·have j:k<BV (Aj r).length:=by omega
  have I:900*k<(Aj r).length:=by unfold BV at j;omega
  ((repeat apply Exists.intro);refine⟨H.lo scl3,?_⟩;intro _ _ hn;replace H:=H.nw hn;clear hn)
  refine AC (SS (bs:=[]) [(r.id,4),((k:Int),1),((BV (Aj r).length:Int),1)] (H.nilS 5 1) (by repeat first|exact .head _|refine .tail _ ?_) (by simp) rfl (by simp) (by simp[laid,AV])) ?_;clear H;rintro e J ⟨Y,Z,rfl,H⟩;rw[nil_append,<- headB]at H⊢
  have K:(headB r.id k (BV (Aj r).length)).length=6:=by simp[headB,laid,AV]
  have d:Own J 0 5 1 y (Aj r).length z (Ad (Aj r)):=H.ownA (by repeat first|exact .head _|refine .tail _ ?_);have L:=d.le;have M:=Ag (Aj r)
  have N:Int.toNat ((k:Int)*900)=900*k:=by omega
  have O:Int.toNat (min ((Aj r).length:Int) (((k:Int)+1)*900))=min (Aj r).length (900*k+900):=by omega
  refine⟨_,_,_,rfl,iR,iR,iR,⟨by omega,by omega,by omega⟩,?_⟩;rw[N,O];have q:=((d.cells.slA (c:=z) (i:=900*k) (by omega)).take 900);rw[<- Ph,<- P8]at q
  have f:(((Aj r).drop (900*k)).take 900).length=min (Aj r).length (900*k+900)-900*k:=by simp only[length_take,length_drop];omega
  refine Hp.app Ug (by omega) H EQ4 (Cells.src UK q (by rw[Ag,f,Nat.mul_one]) (MR _) ?_) (by omega) (by omega) ?_
  ·intro u
   have:y=none:=by
    unfold slA at u;split at u
    ·exact u
    ·simpa using u
   exact absurd this (Own.pos d (by omega))
  clear H;intro a5 c5 w5 H;rw[<- CB,<- Bf]at H
  have A:(Bf r k).length=(headB r.id k (BV (Aj r).length)).length+(min (Aj r).length (900*k+900)-900*k):=by rw[Bf,length_append,f]
  rw[<- A]at H⊢;refine⟨⟨(Bf r k).toArray⟩,b2s UK und5 und9 (by rw[CP];exact Own.cells (H.ok _ (.head _))) (by simp[ByteArray.size]),?_⟩
  (intro _ _ hn;replace H:=H.nw hn;clear hn)
  refine Hp.app elt26 (by omega) H.D7 EQ4 (Blk.src (P:=Tryz.prog) (show Tryz.prog.underlying 106=some (.slice 9) by kernel_rfl) (H.blk (.head _)) rfl rfl) (by omega) (by omega) ?_;clear H;intro Q R w6 H;refine⟨iR,g (BV (Aj r).length-(k+1)) _ _ (by omega) ⟨k+1,Q,R,rfl,rfl,by omega,?_⟩⟩
  have S:((pieces r).take (k+1)).map sv=((pieces r).take k).map sv++[.string ⟨(Bf r k).toArray⟩]:=by
   rw[take_succ_eq_append_getElem (by omega),map_append];simp[pieces,sv]
  rw[S];exact H.del1.del1.del1
 ·have j:k=BV (Aj r).length:=by omega
  subst j;rw[<- p,take_length]at H;rw[<- p];exact⟨a',c',rfl,H.Ls⟩
def valN(l:List UInt8):Nat:=l.foldl (fun n x=>n*256+x.toNat) 0
def num(l:List UInt8):Int:=IntKind.i64.wrap (valN l:Int)
theorem DI(x:Int):IntKind.i64.wrap x=if x%18446744073709551616≥9223372036854775808 then x%18446744073709551616-18446744073709551616 else x%18446744073709551616:=by
 simp[IntKind.wrap,IntKind.signed,IntKind.bits]
theorem Ko{x y:Int}(h:x%18446744073709551616=y%18446744073709551616):IntKind.i64.wrap x=IntKind.i64.wrap y:=by
 rw[DI,DI,h]
theorem Ep(x:Int):IntKind.i64.wrap x%18446744073709551616=x%18446744073709551616:=by
 rw[DI];split<;>omega
theorem HY{x y:Int}(h:x%18446744073709551616=y%18446744073709551616):BitVec.ofInt 64 x=BitVec.ofInt 64 y:=by
 apply BitVec.eq_of_toNat_eq;rw[BitVec.toNat_ofInt,BitVec.toNat_ofInt]
 have:(((2^64:Nat):Int))=18446744073709551616:=by decide
 rw[this,h]
theorem WQ(v y:Nat)(f:y<256):Vc.bits .or .i64 (IntKind.i64.wrap (IntKind.i64.wrap (v:Int)*2^min (Int.toNat 8) (IntKind.bits .i64))) (IntKind.i64.wrap (y:Int))=IntKind.i64.wrap ((v*256+y:Nat):Int):=by
 have a:(2:Int)^min (Int.toNat 8) (IntKind.bits .i64)=256:=by decide
 rw[a];show IntKind.i64.wrap ((BitVec.ofInt 64 (IntKind.i64.wrap (IntKind.i64.wrap (v:Int)*256))|||BitVec.ofInt 64 (IntKind.i64.wrap (y:Int))).toNat:Int)=_
 have b:BitVec.ofInt 64 (IntKind.i64.wrap (IntKind.i64.wrap (v:Int)*256))=BitVec.ofInt 64 (((v%2^56)*256:Nat):Int):=by
  apply HY;rw[Ep];have:=Ep (v:Int);omega
 have c:BitVec.ofInt 64 (IntKind.i64.wrap (y:Int))=BitVec.ofInt 64 (y:Int):=HY (Ep _);rw[b,c];apply Ko;rw[BitVec.toNat_or,BitVec.toNat_ofInt,BitVec.toNat_ofInt]
 have d:((((v%2^56)*256:Nat):Int)%((2^64:Nat):Int)).toNat=(v%2^56)<<<8:=by
  rw[Nat.shiftLeft_eq];omega
 have e:((y:Int)%((2^64:Nat):Int)).toNat=y:=by omega
 rw[d,e,<- Nat.shiftLeft_add_eq_or_of_lt (by omega),Nat.shiftLeft_eq];omega
def tk(l:List UInt8)(n:Nat):List UInt8:=if n<=l.length then l.take n else []
def dr(l:List UInt8)(n:Nat):List UInt8:=if n<=l.length then l.drop n else []
def rdrP(b:Nat)(f:List Nat)(bs:List UInt8)(sh:Bool)(w:World):Prop:=
 b∉f/\∃a c,Blk w b [.slice a bs.length c,.bool sh] 266/\Cells w a (Ad bs)/\bs.length<=c/\∀k∈blks a,k∈f
def rdr(b:Nat)(f:List Nat)(bs:List UInt8)(sh:Bool):Asn:=.any (b::f) (rdrP b f bs sh)
theorem ai{b:Nat}{f:List Nat}{bs:List UInt8}{a:Bool}{w:World}(h:(rdr b f bs a).ok w):rdrP b f bs a w:=h.2 w fun _ _=>rfl
theorem cells_of{w w':World}{a:Option Addr}{vs:List Value}(h:Cells w a vs)(e:∀k∈blks a,w'.heap[k]? =w.heap[k]?):Cells w' a vs:=by
 intro j v d;obtain⟨c,rfl,b⟩:=h j v d;refine⟨c,rfl,?_⟩
 have f:(c.add j).block=c.block:=by unfold Addr.add;split<;>rfl
 rw[World.cell?_of_block (e _ (by rw[f];simp[blks]))];exact b
theorem YZ{b:Nat}{f:List Nat}{bs:List UInt8}{e:Bool}{w:World}(h:rdrP b f bs e w)(l:∀k∈f,k<w.heap.size):(rdr b f bs e).ok w:=by
 obtain⟨m,a,c,g,n,o,i⟩:=h;refine⟨?_,?_⟩
 ·intro k d
  rcases mem_cons.1 d with rfl|d
  ·exact g.lt
  ·exact l k d
 ·intro p j
  exact⟨m,a,c,(j b (.head _)).trans g,cells_of n fun k d=>j k (.tail _ (i k d)),o,i⟩
theorem Oo(b:Nat)(f:List Nat)(bs:List UInt8)(sh:Bool)(long:Nat)(w:World)(h:(rdr b f bs sh).ok w):
  Calls Tryz.prog 193 #[.pointer (some ⟨b,0,none⟩),.int .i64 long] w fun e w'=>e=.returned (.string ⟨(tk bs long).toArray⟩)/\Hp (b::f) w w' [rdr b f (dr bs long) (sh||decide (bs.length<long))]:=by
 obtain⟨h1,a,c,h2,h3,h4,h5⟩:=ai h;have hlt:∀k∈f,k<w.heap.size:=fun k hk=>h.1 k (.tail _ hk);have H:Hp [b] w w [.blk b [.slice a bs.length c,.bool sh] 266]:=Hp.Ii (a:=.blk b [.slice a bs.length c,.bool sh] 266) h2
 have fin:∀(w':World)(a':Option Addr)(c':Nat)(bs':List UInt8)(sh':Bool),Hp [b] w w' [.blk b [.slice a' bs'.length c',.bool sh'] 266]->Cells w a' (Ad bs')->bs'.length<=c'->(∀k∈blks a',k∈f)->Hp (b::f) w w' [rdr b f bs' sh']:=by
  intro w' a' c' bs' sh' H' hc hl hk;refine⟨H'.chg.more (by simp),?_,?_,by simp⟩
  ·intro x hx
   simp only[mem_singleton]at hx;subst hx;exact YZ ⟨h1,a',c',H'.blk (.head _),hc.chg H'.chg (fun k hk' he=>by simp at he;subst he;exact h1 (hk _ hk')),hl,hk⟩ fun k hk=>Nat.lt_of_lt_of_le (hlt k hk) H'.chg.size
  ·intro x hx k hk
   simp only[mem_singleton]at hx;subst hx;exact .inl hk
 apply fText.ok;unfold fText.vc
 ((repeat apply Exists.intro);refine⟨H.lo VD,?_⟩)
 refine AB (fun hs=>?_) (fun hs=>?_)
 ·(apply Hp.st;(case H=>exact H);(case e=>exact⟨rfl,rfl,rfl,rfl⟩);(case S=>exact VD);(case hv=>exact rfl);(case h1=>exact rfl);(case ho=>exact Nat.le_of_ble_eq_true rfl);(case hc=>exact rfl);clear H;intro _ H;(try simp only[over,set_cons_zero,set_cons_succ]at H);apply Hp.st;(case H=>exact H);(case e=>exact⟨rfl,rfl,rfl,rfl⟩);(case S=>exact scl4);(case hv=>exact rfl);(case h1=>exact rfl);(case ho=>exact Nat.le_of_ble_eq_true rfl);(case hc=>exact rfl);clear H;intro _ H;(try simp only[over,set_cons_zero,set_cons_succ]at H))
  have e1:¬long<=bs.length:=by omega
  refine⟨by simp[tk,e1],?_⟩;rw[dr,if_neg e1,decide_eq_true (by omega),Bool.or_true];exact fin _ none 0 [] true H (by intro j v hj;simp[Ad]at hj) (by simp) (by simp[blks])
 ·((repeat apply Exists.intro);refine⟨H.lo VD,?_⟩)
  have e1:long<=bs.length:=by omega
  refine⟨⟨by omega,by omega⟩,⟨(bs.take long).toArray⟩,b2s UK und5 und9 (by rw[CP,P8];exact h3.take _) (by simp[ByteArray.size];omega),AA rfl ?_⟩
  ((repeat apply Exists.intro);refine⟨H.lo VD,?_⟩)
  refine⟨⟨by omega,by omega⟩,AA rfl ?_⟩
  (apply Hp.st;(case H=>exact H);(case e=>exact⟨rfl,rfl,rfl,rfl⟩);(case S=>exact VD);(case hv=>exact rfl);(case h1=>exact rfl);(case ho=>exact Nat.le_of_ble_eq_true rfl);(case hc=>exact rfl);clear H;intro _ H;(try simp only[over,set_cons_zero,set_cons_succ]at H))
  refine⟨by simp[tk,e1],?_⟩;rw[dr,if_pos e1,decide_eq_false (by omega),Bool.or_false];refine fin _ _ (c-long) (bs.drop long) sh ?_ (by rw[Ph];exact h3.slA (c:=c) (i:=long) (by rw[Ag];exact h4)) (by simp;omega) ?_
  ·simpa using H
  ·intro k hk
   refine h5 k ?_;unfold slA at hk;split at hk
   ·exact hk
   ·cases a with
    |none=>simp[blks]at hk
    |some ad=>
     simp only[Option.map_some,blks,mem_singleton]at hk⊢;rw[hk];unfold Addr.add;split<;>rfl
end Go.Proofs.YtljenkbpnioipaaGreat.Fol
