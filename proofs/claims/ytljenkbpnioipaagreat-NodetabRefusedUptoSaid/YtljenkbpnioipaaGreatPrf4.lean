/- Part 4 of 6 of the proof of nodetabRefused_holds: for every input, from every world that may be reached. -/
import Derived.Test.YtljenkbpnioipaaGreatPrf3
set_option linter.unusedVariables false
set_option linter.unusedSimpArgs false
set_option linter.defProp false
set_option maxRecDepth 100000
set_option maxHeartbeats 4000000
open List(cons_append nil_append)
namespace Go.Nod
abbrev Sp:=Int×Int
structure LSt where
 op:LN0
 at_:Int
 out:List Sp
def Nz(out:List Sp)(k:Nat)(z:Int):List Sp:=out.set k ((out[k]?.getD (0,0)).1,z)
def UL(out:List Sp)(k:Nat)(z:Int):List Sp:=out.set k (z,(out[k]?.getD (0,0)).2)
def popL(s:LSt):LSt:=⟨s.op.dropLast,s.at_+1099511627776,Nz s.out (s.op.getLastD 0) (s.at_+1099511627776)⟩
def popN:Nat->LSt->LSt
 |0,s=>s
 |n+1,s=>popN n (popL s)
def FX(d:Int)(s:LSt):LSt:=popN (s.op.length-d.toNat) s
def begL(k:Nat)(s:LSt):LSt:=⟨s.op++[k],s.at_+1099511627776,UL s.out k (s.at_+1099511627776)⟩
def labF:List It->Nat->LSt->LSt
 | [],_,s=>FX 0 s
 |x::r,k,s=>labF r (k+1) (begL k (FX x.level s))
def Kv(l:List It):List Sp:=(labF l 0 ⟨[],0,List.replicate l.length (0,0)⟩).out
def qB(s:LSt):(popL s).op.length=s.op.length-1:=by rw[popL,nU]
def pop_out(s:LSt):(popL s).out.length=s.out.length:=by rw[popL,Nz,bV]
theorem Ur:∀(j:Nat)(s:LSt),popN (j+1) s=popL (popN j s)
 |0,s=>rfl
 |j+1,s=>by rw[popN,Ur j];rfl
theorem NE:∀(n:Nat)(s:LSt),n<=s.op.length->(popN n s).op=s.op.take (s.op.length-n)/\(popN n s).at_=s.at_+1099511627776*(n:Int)/\(popN n s).out.length=s.out.length
 |0,s,_=>by simp[popN]
 |n+1,s,h=>by
  obtain⟨a,b,c⟩:=NE n (popL s) (by rw[qB];omega);rw[popN];refine⟨?_,?_,by rw[c,pop_out]⟩
  ·rw[a,qB];show(s.op.dropLast).take _=_;rw[jg,jF];congr 1;omega
  ·rw[b];show s.at_+1099511627776+_=_;omega
end Go.Nod
namespace Go.Proofs.YtljenkbpnioipaaGreat
noncomputable section
open Go Go.Vc Go.Nod
def BM(l:List Sp):LV:=l.flatMap λp=>[I p.1,I p.2]
theorem PT(l:List Sp):(BM l).length=l.length*2:=by
 induction l with
 |nil=>rfl
 |cons p r a=>simp only[BM,bU,aF,aK,dI]at a⊢;omega
def FI(p:Sp)(r:List Sp):BM (p::r)=I p.1::I p.2::BM r:=rfl
def VI(a b:List Sp):BM (a++b)=BM a++BM b:=by simp[BM]
theorem Kq:∀{l:List Sp}{k:Nat}{p:Sp},l[k]? =some p->((BM l).drop (k*2)).take 2=[I p.1,I p.2]
 |x::r,0,p,h=>by simp at h;subst h;rfl
 |x::r,k+1,p,h=>by
  rw[bJ]at h;rw[FI,dY,eQ,eQ];exact Kq h
theorem RG:∀{l:List Sp}{k:Nat}{p:Sp},l[k]? =some p->(BM l)[k*2]? =some (I p.1)
 |x::r,0,p,h=>by simp at h;subst h;rfl
 |x::r,k+1,p,h=>by
  rw[bJ]at h;rw[FI,dY,bJ,bJ];exact RG h
theorem Qe:∀(l:List Sp)(k:Nat)(z:Int),k<l.length->(BM l).set (k*2+1) (I z)=BM (Nz l k z)
 |x::r,0,z,_=>rfl
 |x::r,k+1,z,h=>by
  have a:=Qe r k z (by simpa using h);have e:Nz (x::r) (k+1) z=x::Nz r k z:=by simp[Nz]
  rw[e,FI,FI,dY];show _::_::(BM r).set (k*2+1) _=_;rw[a]
theorem QN:∀(l:List Sp)(k:Nat)(z:Int),k<l.length->(BM l).set (k*2) (I z)=BM (UL l k z)
 |x::r,0,z,_=>rfl
 |x::r,k+1,z,h=>by
  have a:=QN r k z (by simpa using h);have e:UL (x::r) (k+1) z=x::UL r k z:=by simp[UL]
  rw[e,FI,FI,dY];show _::_::(BM r).set (k*2) _=_;rw[a]
theorem made_sp(n:Nat):(madeCells (Value.agg #[I 0,I 0]).cells (n*2)).toList=BM (List.replicate n (0,0)):=by
 apply dK;intro k;have c:(Value.agg #[I 0,I 0]).cells= #[I 0,I 0]:=rfl
 have a:∀(m:Nat),BM (List.replicate m (0,0))=List.replicate (m*2) (I 0):=λm=>by
  induction m with
  |zero=>rfl
  |succ m d=>rw[nZ,FI,d,dY];rfl
 rw[a,c];by_cases b:k<n*2
 ·have:(madeCells #[I 0,I 0] (n*2)).toList.length=n*2:=by rw[bP,size_madeCells]
  rw[aB om,iw,if_pos b];rcases Nat.mod_two_eq_zero_or_one k with h|h
  ·simp[madeCells,h]
  ·simp[madeCells,h]
 ·rw[bF (by rw[bP,size_madeCells];omega),iw,if_neg b]
def rQ:Elt PP 187 62 2 16:=DD (by kernel_rfl)
def wSS:Scl PP 187:=BN (by kernel_rfl)
def Gy:Agg PP 62 2:=DF (by kernel_rfl)
def wundS:PP.underlying 187=some (.slice 62):=by kernel_rfl
def natC(l:LN0):LV:=AO (l.map λ(k:Nat)=>(k:Int))
def natC_app(a b:LN0):natC (a++b)=natC a++natC b:=by simp[natC,AO]
def natC_take(l:LN0)(n:Nat):(natC l).take n=natC (l.take n):=by simp[natC,AO,iC]
def natC_at{l:LN0}{k v:Nat}(h:l[k]? =some v):(natC l)[k]? =some (I (v:Int)):=by simp[natC,AO,h]
def labL(b0 b1 b2:Nat)(oa:OA)(oc:Nat)(ua:OA)(un:Nat)(s:LSt):List Asn:=
 [.blk b0 [.slice oa s.op.length oc] 59,.own 3 1 oa s.op.length oc (natC s.op),.blk b1 [I s.at_] 3,.blk b2 [.slice ua un un] 187,.own 62 2 ua un un (BM s.out)]
def Ob{B:LN0}{w0:World}{L:List Asn}(d:Int)(n b1 p:Nat)(a:OA)(Y:Nat)(f:OA)(b:Nat)(s:LSt)(w:World)(r:0<=d)(t:∀k∈s.op,k<s.out.length)(ab:b=s.out.length)(ac:s.op.length<=100000)(ae:0<=s.at_/\s.at_<=1099511627776*1000000)(H:Hp B w0 w (labL n b1 p a Y f b s++L)):
  CP 165 #[I d,pT0 n,pT0 b1,pT0 p] w λe w'=>∃u,e=eE0 (.tuple #[])/\Hp B w0 w' (labL n b1 p a u f b (FX d s)++L):=by
 apply Jey;refine LoopP.mk (λm _ w'=>∃(j:Nat)(c:Nat),m=s.op.length-j/\j<=s.op.length-d.toNat/\Hp B w0 w' (labL n b1 p a c f b (popN j s)++L)) s.op.length ⟨0,Y,rfl,om,H⟩ ?_;rintro m _ w1 nx ⟨j,c,rfl,hj,H⟩ x;obtain⟨y,f2,Z⟩:=NE j s om;obtain⟨s1,h⟩:∃s1,s1=popN j s:=⟨_,rfl⟩;rw[<- h]at H y f2 Z;have af:s1.op.length=s.op.length-j:=by rw[y,aI];omega
 refine⟨a,s1.op.length,c,AA rfl (H.lo nSI),AB (λh1=>?_) (λh1=>?_)⟩
 ·have aa:0<s1.op.length:=om;refine⟨s1.at_,AA rfl (H.lo yInt),iR,AA rfl ?_⟩;refine Hp.s1 H.Am yInt (cs':=[I (s1.at_+1099511627776)]) λw2 i=>?_;refine⟨f,b,b,AA rfl (i.lo wSS),a,s1.op.length,c,AA rfl (i.lo nSI),a,s1.op.length,c,AA rfl (i.lo nSI),iR,?_⟩;obtain⟨z,A⟩:∃z,s1.op[s1.op.length-1]? =some z:=⟨_,aB om⟩
  have C:z=s1.op.getLastD 0:=by
   rw[lW,fA,A];rfl
  have D:z<s1.out.length:=by
   rw[Z];refine t z ?_;have:z∈s1.op:=aG A;rw[y]at this;exact dN this
  obtain⟨ad,G,J⟩:=i.ldO (w':=w2.drew) (o:=s1.op.length-1) EQ4 yInt m2 (natC_at A);have e1:Int.toNat ((s1.op.length:Int)-1)*1=s1.op.length-1:=om;refine AA G ⟨⟨om,om⟩,(z:Int),by rw[e1];exact J,s1.at_+1099511627776,AA rfl (i.lo yInt),?_⟩;have K:Own w2 0 62 2 f b b (BM s1.out):=i.ownA m4;obtain⟨g,hg⟩:=K.Dq om;refine AA hg ⟨⟨om,om⟩,?_⟩;rw[aJ,add_add];refine Hp.stO1 (o:=z*2+1) i.drew.Ij EQ4 yInt hg rfl rfl (by rw[PT];omega) λw3 q=>?_;rw[Qe _ _ _ D]at q;refine⟨a,s1.op.length,c,AA rfl (q.lo nSI),a,s1.op.length,c,AA rfl (q.lo nSI),iR,a,s1.op.length,c,AA rfl (q.lo nSI),iR,?_⟩;have l:Own w3 0 3 1 a s1.op.length c (natC s1.op):=q.ownA m3;have ag:=l.le;have e2:Int.toNat ((s1.op.length:Int)-1)=s1.op.length-1:=om;refine⟨⟨om,om,om⟩,AA rfl ?_⟩;rw[e2];refine Hp.s1 q.Am nSI (cs':=[.slice a (s1.op.length-1) (s1.op.length-1)]) λw4 H4=>?_;have l:Own w4 0 3 1 a s1.op.length c (natC s1.op):=H4.ownA m3
  have H5:Hp B w0 w4 (.own 3 1 a (s1.op.length-1) (s1.op.length-1) (natC (s1.op.take (s1.op.length-1)))::(.blk n [.slice a (s1.op.length-1) (s1.op.length-1)] 59::.own 62 2 f b b (BM (Nz s1.out z (s1.at_+1099511627776)))::.blk b1 [I (s1.at_+1099511627776)] 3::.blk p [.slice f b b] 187::L)):=by
   refine(H4.perm (M:=.own 3 1 a s1.op.length c (natC s1.op)::(.blk n [.slice a (s1.op.length-1) (s1.op.length-1)] 59::.own 62 2 f b b (BM (Nz s1.out z (s1.at_+1099511627776)))::.blk b1 [I (s1.at_+1099511627776)] 3::.blk p [.slice f b b] 187::L)) ?_).set (Chg.refl _ _) ?_ λk hk=>.inl hk
   ·refine AL λff gg r N O R=>?_;simp only[labL,O,N,r,aX,aN];omega
   ·have:=l.only (F:=s1.op.length-1) om;rw[bT,natC_take]at this;exact this
  have T:popN (j+1) s=popL s1:=by rw[h,Ur]
  have U:popL s1=⟨s1.op.take (s1.op.length-1),s1.at_+1099511627776,Nz s1.out z (s1.at_+1099511627776)⟩:=by
   rw[popL,jg,C]
  refine x (s.op.length-(j+1)) _ _ om ⟨j+1,s1.op.length-1,rfl,om,?_⟩;rw[T,U];refine H5.perm ?_;have e3:(s1.op.take (s1.op.length-1)).length=s1.op.length-1:=by rw[aI];omega
  refine AL λff gg r N O R=>?_;simp only[labL,e3,O,N,r];omega
 ·have X:j=s.op.length-d.toNat:=om;refine⟨c,rfl,?_⟩;rw[FX,<- X,<- h];exact H
end
end Go.Proofs.YtljenkbpnioipaaGreat
namespace Go.Nod
def labS:List It->Nat->LSt->LSt
 | [],_,s=>s
 |x::r,k,s=>labS r (k+1) (begL k (FX x.level s))
theorem WL:∀(l:List It)(k:Nat)(s:LSt),labF l k s=FX 0 (labS l k s)
 | [],_,_=>rfl
 |x::r,k,s=>by rw[labF,labS,WL r]
theorem Vj(x:It):∀(l:List It)(k:Nat)(s:LSt),labS (l++[x]) k s=begL (k+l.length) (FX x.level (labS l k s))
 | [],k,s=>rfl
 |y::r,k,s=>by
  rw[aC,labS,labS,Vj x r,aK];congr 1;omega
structure Nj(j n:Nat)(s:LSt):Prop where
 out:s.out.length=n
 op:∀k∈s.op,k<j
 len:s.op.length<=j
 at_:s.at_=1099511627776*(2*(j:Int)-(s.op.length:Int))
def Nj.shut{j n:Nat}{s:LSt}(h:Nj j n s)(d:Int):Nj j n (FX d s)/\(FX d s).op=s.op.take d.toNat:=by
 obtain⟨c,e,f⟩:=NE (s.op.length-d.toNat) s om;have l:=h.len;have g:=h.at_
 have a:(FX d s).op=s.op.take d.toNat:=by
  rw[FX,c];by_cases m:d.toNat<=s.op.length
  ·congr 1;omega
  ·rw[aV om,aV om]
 have i:(FX d s).op.length=s.op.length-(s.op.length-d.toNat):=by rw[a,aI];omega
 refine⟨⟨by rw[FX,f];exact h.out,λk b=>h.op k ?_,om,?_⟩,a⟩
 ·rw[a]at b;exact dN b
 ·rw[i];have:(FX d s).at_=s.at_+1099511627776*((s.op.length-d.toNat:Nat):Int):=e;rw[this,g];omega
def Nj.beg{j n:Nat}{s:LSt}(h:Nj j n s):Nj (j+1) n (begL j s):=by
 have b:=h.len;have c:=h.at_;refine⟨by rw[begL,UL,bV];exact h.out,λk a=>?_,by rw[begL];simp;omega,?_⟩
 ·rw[begL]at a;rcases aW.1 a with a|a
  ·have:=h.op k a;omega
  ·rw[aY.1 a];omega
 ·rw[begL];simp;omega
def lab0(n:Nat):LSt:=⟨[],0,List.replicate n (0,0)⟩
def VB(n:Nat):Nj 0 n (lab0 n):=⟨by simp[lab0],by simp[lab0],by simp[lab0],by simp[lab0]⟩
theorem PX(n:Nat):∀(l:List It)(k:Nat)(s:LSt),Nj k n s->Nj (k+l.length) n (labS l k s)
 | [],k,s,h=>h
 |x::r,k,s,h=>by
  have:=PX n r (k+1) _ (h.shut x.level).1.beg;rw[labS,aK,gU r.length,<- jQ];exact this
def label_len(l:List It):(Kv l).length=l.length:=by
 rw[Kv,WL];exact((PX l.length l 0 _ (VB l.length)).shut 0).1.out
end Go.Nod
namespace Go.Proofs.YtljenkbpnioipaaGreat
noncomputable section
open Go Go.Vc Go.Nod
def sLabel_spec(la:OA)(n lc:Nat)(l:List It)(ss:List Sl3)(w:World)(B:Bi [] w la n l ss)(af:(DU l).2=0)(hn:l.length<=100000)(J:∀x∈l,0<=x.level):
  CP 106 #[.slice la n lc] w λe w'=>∃a,e=eE0 (.tuple #[.slice a n n,I 0])/\Hp [] w w' [.own 62 2 a n n (BM (Kv l))]:=by
 apply Jex;have K:=B.now.len;refine AC (Ip la n lc l ss w B.now B.len B.sls B.small) ?_;rintro _ w1 ⟨rfl,H1⟩;refine⟨_,_,rfl,AQ (λh=>(h af).elim) (λ_=>?_)⟩;refine H1.mkS rQ EQ4 om (by simp only[maxLen];omega) om (z:=.agg #[I 0,I 0]) rfl λd w2 H2=>?_;rw[aJ,made_sp]at H2;rw[aJ];intro D w3 ag;have H3:=H2.nw ag;refine Hp.s1 H3 wSS (cs':=[.slice d n n]) λw4 H4=>?_;intro F w5 ah;have H5:=H4.nw ah;intro G w6 ak;have H6:=H5.nw ak;refine Hp.s1 H6 yInt (cs':=[I 0]) λw7 H7=>?_;have H8:=H7.nilS 3 1;refine LoopP.mk (λm s w'=>∃(j:Nat)(f:OA)(L:Nat)(X:List Asn),m=n-j/\j<=n/\s=(j:Int)/\Hp [] w w' (labL F G D f L d n (labS (l.take j) 0 (lab0 n))++X)) n ⟨0,none,0,[],rfl,om,rfl,H8.perm ?_⟩ ?_
 ·refine AL λff gg i p q r=>?_;have N:natC []=[]:=rfl;simp only[labL,eu,labS,N,dI,q,p,i,lab0];omega
 rintro m s w8 nx ⟨j,f,L,X,rfl,hj,rfl,H⟩ al;have A:=PX n (l.take j) 0 (lab0 n) (VB n);have O:(l.take j).length=j:=by rw[aI];omega
 rw[O,bu]at A;obtain⟨s,hs⟩:∃s,s=labS (l.take j) 0 (lab0 n):=⟨_,rfl⟩;rw[<- hs]at H A;have ba:=A.len;have bb:=A.at_;have bc:=A.out;refine AB (λh1=>?_) (λh1=>?_)
 ·have am:j<l.length:=om;obtain⟨x,sl,hx,an,bd⟩:=(B.rd w8 (H.chg)).at_ (k:=j) om;have hI:=B.rd w8 (H.chg);obtain⟨ad,ao,ap⟩:=hI.some hx an;refine AA ao ⟨⟨om,h1⟩,x.level,x.x.kind,x.x.name,x.x.text,sl.1,sl.2.1,sl.2.2,ap,?_⟩;intro xb w9 aq;have H9:=H.nw aq;refine Hp.sA H9 Bo (cs':=itC x sl) λT U=>?_;refine⟨x.level,U.lo yInt,?_⟩;have ar:=J x (aG hx)
  have av:Hp [] w T (labL F G D f L d n s++(.blk xb (itC x sl) 123::X)):=U.perm (by
   refine AL λff gg i p q r=>?_;simp only[q,p,i];omega)
  refine AC (Ob x.level F G D f L d n s T ar (λk hk=>by have:=A.op k hk;omega) om om ⟨om,om⟩ av) ?_;rintro _ aw ⟨b,rfl,c⟩;obtain⟨u,Y⟩:=A.shut x.level;obtain⟨t,ht⟩:∃t,t=FX x.level s:=⟨_,rfl⟩;rw[<- ht]at c u Y;have a7:=u.len;have a8:=u.at_;have a9:=u.out;refine⟨rfl,t.at_,c.lo yInt,iR,?_⟩;refine Hp.s1 c.Am yInt (cs':=[I (t.at_+1099511627776)]) λa0 y=>?_;refine⟨d,n,n,y.lo wSS,t.at_+1099511627776,y.lo yInt,?_⟩;have a1:Own a0 0 62 2 d n n (BM t.out):=y.ownA m4;obtain⟨g,Z⟩:=a1.Dq om;refine AA Z ⟨⟨om,om⟩,?_⟩;rw[aJ];refine Hp.stO1 (o:=j*2) y.Ij EQ4 yInt Z rfl rfl (by rw[PT];omega) λbh C=>?_;rw[QN _ _ _ om]at C;refine⟨f,t.op.length,b,C.lo nSI,?_⟩;intro kb bi aa;have a2:=C.nw aa
  have ab:=a2.perm (M:=.own 3 1 f t.op.length b (natC t.op)::.blk kb [I (j:Int)] 3::.blk F [.slice f t.op.length b] 59::.own 62 2 d n n (BM (UL t.out j (t.at_+1099511627776)))::.blk G [I (t.at_+1099511627776)] 3::.blk D [.slice d n n] 187::(.blk xb (itC x sl) 123::X)) (by
   refine AL λff gg i p q r=>?_;simp only[labL,q,p,i,aX,aN];omega)
  refine Hp.app J8 om ab EQ4 (Blk.src (P:=PP) J9 (ab.blk m1) rfl rfl) (by simp only[maxLen];omega) om ?_;intro ac ae bj a3;refine Hp.s1 a3.Am nSI (cs':=[.slice ac (t.op.length+1) ae]) λbk a4=>⟨iR,?_⟩;refine al (n-(j+1)) _ _ om ⟨j+1,ac,ae,.blk kb [I (j:Int)] 3::.blk xb (itC x sl) 123::X,rfl,om,rfl,a4.perm ?_⟩
  have N:labS (l.take (j+1)) 0 (lab0 n)=begL j t:=by
   have a5:=(aA.1 hx).2;rw[aH am,a5,Vj,<- hs,<- ht,O,bu]
  have e2:natC (t.op++[j])=natC t.op++[I (j:Int)]:=by rw[natC_app];rfl
  have e3:(t.op++[j]).length=t.op.length+1:=by simp
  rw[N];refine AL λff gg i p q r=>?_;simp only[labL,begL,e2,e3,q,p,i];omega
 ·have a6:j=n:=om;subst a6;refine AC (Ob 0 F G D f L d _ s w8 om (λk hk=>by have:=A.op k hk;omega) om om ⟨om,om⟩ H) ?_;rintro _ aw ⟨b,rfl,c⟩;refine⟨rfl,d,_,_,c.lo wSS,d,rfl,?_⟩
  have N:Kv l=(FX 0 s).out:=by
   rw[Kv,WL,hs,<- K,aV om];rfl
  rw[N];refine Hp.BK (R:=[.blk F [.slice f (FX 0 s).op.length b] 59,.own 3 1 f (FX 0 s).op.length b (natC (FX 0 s).op),.blk G [I (FX 0 s).at_] 3,.blk D [.slice d j j] 187]++X) (c.perm ?_);refine AL λff gg i p q r=>?_;simp only[labL,q,p,i];omega
end
end Go.Proofs.YtljenkbpnioipaaGreat
namespace Go.Nod
noncomputable section
open Classical
def popA:Nat->List Sp->Sp->List Sp
 |0,_,_=>[]
 |n+1,o,x=>match o[n]? with
  |some y=>if y.2<x.1 then popA n o x else o.take (n+1)
  |none=>o.take (n+1)
theorem VA:∀(n:Nat)(o:List Sp)(x:Sp),n<=o.length->∃m,m<=n/\popA n o x=o.take m
 |0,o,x,_=>⟨0,aZ _,by simp[popA]⟩
 |n+1,o,x,h=>by
  rw[popA];have e:o[n]? =some o[n]:=aB om;rw[e];dsimp only;split
  ·obtain⟨m,b,a⟩:=VA n o x om;exact⟨m,om,a⟩
  ·exact⟨n+1,aZ _,rfl⟩
def badS(p:Option Int)(o:List Sp)(x:Sp):Prop:=¬(inS x.1/\inS x.2)\/x.2<=x.1\/(∃z,p=some z/\x.1<=z)\/∃y,o.getLast? =some y/\¬(y.1<x.1/\x.2<y.2)
def levP:Option Int->List Sp->List Sp->Option (List Int)
 |_,_,[]=>some []
 |p,o,x::r=>if badS p (popA o.length o x) x then none else(levP (some x.1) (popA o.length o x++[x]) r).map λl=>((popA o.length o x).length:Int)::l
def Hg(s:List Sp):Option (List Int):=levP none [] s
end
end Go.Nod
namespace Go.Proofs.YtljenkbpnioipaaGreat
noncomputable section
open Go Go.Vc Go.Nod
theorem sLevels_spec(sa:Option Addr)(n sc:Nat)(l:List Sp)(w:World)(hS:Cells w sa (BM l))(hn:n=l.length)(hbig:n<=100000):
  Calls Tryz.prog 134 #[.slice sa n sc] w λe w'=>(Hg l=none/\e=.returned (.tuple #[.slice none 0 0,.bool false])/\Hp [] w w' [])\/
   ∃L a c,Hg l=some L/\L.length=n/\e=.returned (.tuple #[.slice a n c,.bool true])/\Hp [] w w' [.own 3 1 a n c (AO L)]:=by
 apply Jez
 refine LoopP.mk (λm s w'=>∃(j:Nat)(oa:Option Addr)(oc:Nat)(ba:Option Addr)(bc:Nat)(O:List Sp)(L:List Int)(X:List Asn),m=n-j/\j<=n/\L.length=j/\O.length<=j/\s=((oa,j,oc),(ba,O.length,bc),(j:Int))/\
   Hg l=(levP (if j=0 then none else(l[j-1]?).map (·.1)) O (l.drop j)).map (λr=>L++r)/\Hp [] w w' (.own 3 1 oa j oc (AO L)::.own 62 2 ba O.length bc (BM O)::X)) n
  ⟨0,none,0,none,0,[],[],[],rfl,by omega,rfl,aZ _,rfl,?_,((Hp.start w).nilS 62 2).nilS 3 1⟩ ?_
 ·rw[if_pos rfl,fC,Hg]
  cases levP none [] l<;>rfl
 rintro m s w1 nx ⟨j,oa,oc,ba,bc,O,L,X,rfl,hj,hL,hO,rfl,hlev,H⟩ hnx
 dsimp only
 refine AB (λh1=>?_) (λh1=>?_)
 rotate_left
 ·have hjn:j=n:=by omega
  subst hjn
  rw[hn,gu,levP]at hlev
  refine .inr ⟨L,oa,oc,?_,hL,rfl,Hp.BK H⟩
  rw[hlev];simp
 have hjl:j<l.length:=by omega
 obtain⟨x,hx⟩:∃x,l[j]? =some x:=⟨_,aB hjl⟩
 have hdr:l.drop j=x::l.drop (j+1):=by
  rw[<- jC hjl,(aA.1 hx).2]
 rw[hdr,levP]at hlev
 have hS1:Cells w1 sa (BM l):=hS.chg H.chg (by simp)
 have hx2:=Kq hx
 obtain⟨ad,had⟩:=hS1.some (λe=>by rw[e]at hx2;simp at hx2)
 refine AA had ⟨⟨by omega,h1⟩,x.1,x.2,hS1.ldA Gy had hx2 rfl,?_⟩
 intro xb w2 hn2
 have H2:=H.new EQ4 hn2
 refine Hp.stA H2 EQ4 Gy rfl rfl (by simp) rfl λw3 H3=>?_
 obtain⟨P,hP⟩:∃P,P=popA O.length O x:=⟨_,rfl⟩
 rw[<- hP]at hlev
 refine JoinP.mk (λs w'=>∃c,s=(ba,P.length,c)/\Hp [] w w' (.blk xb [.int .i64 x.1,.int .i64 x.2] 62::.own 3 1 oa j oc (AO L)::.own 62 2 ba P.length c (BM P)::X)) ?_ ?_
 rotate_left
 ·intro J hJ
  refine LoopP.mk (λq s w'=>∃(k:Nat)(c:Nat),q=k/\k<=O.length/\s=(ba,k,c)/\popA k O x=P/\Hp [] w w' (.blk xb [.int .i64 x.1,.int .i64 x.2] 62::.own 3 1 oa j oc (AO L)::.own 62 2 ba k c (BM (O.take k))::X)) O.length ⟨O.length,bc,rfl,aZ _,rfl,hP.symm,by rw[bK];exact H3⟩ ?_
  rintro q s w4 nx2 ⟨k,c,hq,hk,rfl,hpk,H4⟩ hnx2
  dsimp only
  have hb:Own w4 0 62 2 ba k c (BM (O.take k)):=H4.ownA (.tail _ (.tail _ (.head _)))
  refine AB (λh2=>?_) (λh2=>?_)
  ·obtain⟨k',rfl⟩:∃k',k=k'+1:=⟨k-1,by omega⟩
   obtain⟨y,hy⟩:∃y,O[k']? =some y:=⟨_,aB (by omega)⟩
   have hyt:(O.take (k'+1))[k']? =some y:=by rw[bn (by omega)];exact hy
   have hy2:=Kq hyt
   obtain⟨g,hg⟩:=hb.Dq (by omega)
   have e1:Int.toNat (((k'+1:Nat):Int)-1)=k':=by omega
   rw[e1]
   have hbd:Cells w4.drew ba (BM (O.take (k'+1))):=hb.cells
   refine⟨DC.2 (by omega),AA hg ⟨⟨by omega,by omega⟩,y.1,y.2,hbd.ldA Gy hg hy2 rfl,x.1,x.2,H4.ldA EQ4 Gy (.head _) rfl rfl,?_⟩⟩
   refine AC (sAhead_spec y.1 y.2 x.1 x.2 w4.drew) ?_
   rintro _ w5 ⟨rfl,H'⟩
   have H5:=H4.drew.ext0 H'
   have hle:=hb.le
   rw[popA,hy]at hpk
   dsimp only at hpk
   refine⟨_,rfl,AB (λh3=>⟨DC.2 (by omega),DC.2 (by omega),⟨by omega,by omega,by omega⟩,?_⟩) (λh3=>?_)⟩
   ·rw[if_pos h3]at hpk
    refine hnx2 k' _ _ (by omega) ⟨k',k',rfl,by omega,rfl,hpk,?_⟩
    have hb5:Own w5 0 62 2 ba (k'+1) c (BM (O.take (k'+1))):=H5.ownA (.tail _ (.tail _ (.head _)))
    have hb6:=hb5.only (F:=k') (by omega)
    have e2:(BM (O.take (k'+1))).take (k'*2)=BM (O.take k'):=by
     rw[aH (by omega),VI]
     have:(BM (O.take k')).length=k'*2:=by rw[PT,aI];omega
     rw[<- this,iJ]
    rw[e2]at hb6
    refine(Hp.set (a':=.own 62 2 ba k' k' (BM (O.take k'))) (H5.Am) (Chg.refl _ _) hb6 λk hk=>.inl hk).perm ?_
    refine AL λff gg h0 hc ha hpm=>?_
    simp only[ha,hc,h0];omega
   ·rw[if_neg h3]at hpk
    refine hJ _ _ ⟨c,?_,?_⟩
    ·rw[<- hpk,aI];congr 2;omega
    ·have e3:P.length=k'+1:=by rw[<- hpk,aI];omega
     rw[e3,<- hpk]
     exact H5
  ·have hk0:k=0:=by omega
   subst hk0
   rw[popA]at hpk
   subst hpk
   exact hJ _ _ ⟨c,rfl,H4.drew⟩
 clear H3
 rintro _ w3 ⟨c,rfl,H3⟩
 dsimp only
 have hPl:P.length<=O.length:=by
  obtain⟨m,h2,h3⟩:=VA O.length O x (aZ _)
  rw[hP,h3,aI];omega
 have hbad:∀{w':World},badS (if j=0 then none else(l[j-1]?).map (·.1)) P x->Hp [] w w' (.blk xb [.int .i64 x.1,.int .i64 x.2] 62::.own 3 1 oa j oc (AO L)::.own 62 2 ba P.length c (BM P)::X)->
   (Hg l=none/\Ending.returned (.tuple #[.slice none 0 0,.bool false])=.returned (.tuple #[.slice none 0 0,.bool false])/\Hp [] w w' [])\/
   ∃L a c,Hg l=some L/\L.length=n/\Ending.returned (.tuple #[.slice none 0 0,.bool false])=.returned (.tuple #[.slice a n c,.bool true])/\Hp [] w w' [.own 3 1 a n c (AO L)]:=λ{w'} hb H=>by
  rw[if_pos hb]at hlev
  exact .inl ⟨by rw[hlev];rfl,rfl,Hp.BK H⟩
 refine JoinP.mk (λs w'=>s=dec (¬(inS x.1/\inS x.2)\/x.2<=x.1)/\Hp [] w w' (.blk xb [.int .i64 x.1,.int .i64 x.2] 62::.own 3 1 oa j oc (AO L)::.own 62 2 ba P.length c (BM P)::X)) ?_ ?_
 rotate_left
 ·intro J hJ
  have ld0:Ld Tryz.prog 3 w3 ⟨xb,0,none⟩ (.int .i64 x.1):=H3.ld EQ4 yInt (.head _) rfl
  have ld1:Ld Tryz.prog 3 w3 ⟨xb,1,none⟩ (.int .i64 x.2):=H3.ld EQ4 yInt (.head _) rfl
  refine⟨x.1,ld0,x.2,ld1,λb1 w4 hn4=>?_⟩
  have H4:=H3.new EQ4 hn4
  have hc:Cells w4 (some ⟨b1,0,none⟩) (AO [x.1,x.2]):=λj v hj=>⟨_,rfl,by rw[add_lit,bu];exact(H4.blk (.head _)).cell hj⟩
  refine AC (Nh _ 2 2 [x.1,x.2] w4 hc rfl (by simp[maxLen])) ?_
  rintro _ _ ⟨rfl,rfl⟩
  have hall:(∀z∈[x.1,x.2],inS z)↔inS x.1/\inS x.2:=by simp
  refine⟨_,rfl,Gf (λh2=>hJ _ _ ⟨DI (.inl λh3=>h2 (hall.2 h3)),H4.drop⟩) (λh2=>⟨x.1,H4.ld EQ4 yInt (.tail _ (.head _)) rfl,x.2,H4.ld EQ4 yInt (.tail _ (.head _)) rfl,hJ _ _ ⟨?_,H4.drop⟩⟩)⟩
  by_cases h3:x.2<=x.1
  ·exact(decide_eq_true h3).trans (DI (.inr h3))
  ·exact(decide_eq_false h3).trans (Bz λh4=>h4.elim (λh5=>h5 (hall.1 h2)) h3)
 clear H3
 rintro _ w4 ⟨rfl,H3⟩
 refine br_d (λh2=>hbad (h2.elim .inl λh3=>.inr (.inl h3)) H3) (λh2=>?_)
 refine JoinP.mk (λs w'=>s=dec (∃z,(if j=0 then none else(l[j-1]?).map (·.1))=some z/\x.1<=z)/\Hp [] w w' (.blk xb [.int .i64 x.1,.int .i64 x.2] 62::.own 3 1 oa j oc (AO L)::.own 62 2 ba P.length c (BM P)::X)) ?_ ?_
 rotate_left
 ·intro J hJ
  refine AB (λh3=>?_) (λh3=>hJ _ _ ⟨Bz λ⟨z,h4,_⟩=>(by rw[if_pos (by omega)]at h4;cases h4),H3.drew⟩)
  obtain⟨p,hp⟩:∃p,l[j-1]? =some p:=⟨_,aB (by omega)⟩
  have hS4:Cells w4.drew sa (BM l):=hS.chg H3.chg (by simp)
  have e1:Int.toNat ((j:Int)-1)=j-1:=by omega
  refine⟨x.1,H3.ld EQ4 yInt (.head _) rfl,DC.2 (by omega),AA had ⟨⟨by omega,by omega⟩,p.1,by rw[e1];exact hS4.ld yInt had (RG hp),hJ _ _ ⟨?_,H3.drew⟩⟩⟩
  rw[if_neg (by omega),hp]
  by_cases h4:x.1<=p.1
  ·exact(decide_eq_true h4).trans (DI ⟨p.1,rfl,h4⟩)
  ·exact(decide_eq_false h4).trans (Bz λ⟨z,h5,h6⟩=>by cases h5;exact h4 h6)
 clear H3
 rintro _ w5 ⟨rfl,H3⟩
 refine br_d (λh3=>hbad (.inr (.inr (.inl h3))) H3) (λh3=>?_)
 have fin:∀{w6:World},Hp [] w w6 (.blk xb [.int .i64 x.1,.int .i64 x.2] 62::.own 3 1 oa j oc (AO L)::.own 62 2 ba P.length c (BM P)::X)->¬badS (if j=0 then none else(l[j-1]?).map (·.1)) P x->
   ∀(b2:Nat)(w7:World),New w6 (.cells #[.int .i64 (P.length:Int)] 3) b2 w7->∃a n m w8,App Tryz.prog #[59,59] 59 w7 (.slice oa j oc) (.slice (some ⟨b2,0,none⟩) 1 1) (.slice a n m) w8/\∃i i5,Ld Tryz.prog 62 w8 ⟨xb,0,none⟩ (.agg #[.int .i64 i,.int .i64 i5])/\
    ∀(b3:Nat)(w9:World),New w8 (.cells #[.int .i64 i,.int .i64 i5] 62) b3 w9->∃a2 n1 m1 w10,App Tryz.prog #[187,187] 187 w9 (.slice ba P.length c) (.slice (some ⟨b3,0,none⟩) 1 1) (.slice a2 n1 m1) w10/\inR .i64 ((j:Int)+1)/\nx ((a,n,m),(a2,n1,m1),(j:Int)+1) w10:=λ{w6} H hb b2 w7 hn7=>by
  rw[if_neg hb]at hlev
  have H7:=H.new (cs:=[.int .i64 (P.length:Int)]) EQ4 hn7
  refine Hp.app J8 (by omega) H7.Am EQ4 (Blk.src (P:=Tryz.prog) J9 (H7.blk (.head _)) rfl rfl) (by simp only[maxLen];omega) (by omega) ?_
  intro a' c' w8 H8
  refine⟨x.1,x.2,H8.ldA (o:=0) (cs:=[.int .i64 x.1,.int .i64 x.2]) EQ4 Gy (.tail _ (.tail _ (.head _))) rfl rfl,λb3 w9 hn9=>?_⟩
  have H9:=H8.new (cs:=[.int .i64 x.1,.int .i64 x.2]) EQ4 hn9
  refine Hp.app rQ (by omega) H9.Ij EQ4 (Blk.src (P:=Tryz.prog) wundS (H9.blk (.head _)) rfl rfl) (by simp only[maxLen];omega) (by omega) ?_
  intro a2 c2 w10 H10
  refine⟨DC.2 (by omega),?_⟩
  have e1:P.length+1=(P++[x]).length:=by simp
  rw[e1]at H10⊢
  refine hnx (n-(j+1)) _ _ (by omega) ⟨j+1,a',c',a2,c2,P++[x],L++[(P.length:Int)],[.blk b3 [.int .i64 x.1,.int .i64 x.2] 62,.blk b2 [.int .i64 (P.length:Int)] 3,.blk xb [.int .i64 x.1,.int .i64 x.2] 62]++X,rfl,by omega,by simp[hL],by simp;omega,rfl,?_,H10.perm ?_⟩
  ·rw[hlev,if_neg (by omega),iW,hx]
   dsimp only[Option.map_some]
   cases levP (some x.1) (P++[x]) (l.drop (j+1))with
   |none=>rfl
   |some r=>simp
  ·have e2:AO (L++[(P.length:Int)])=AO L++[.int .i64 (P.length:Int)]:=by simp[AO]
   have e3:BM (P++[x])=BM P++[.int .i64 x.1,.int .i64 x.2]:=by rw[VI];rfl
   refine AL λff gg h0 hc ha hpm=>?_
   simp only[e2,e3,ha,hc,h0];omega
 have hnot:(∀y,P.getLast? =some y->y.1<x.1/\x.2<y.2)->¬badS (if j=0 then none else(l[j-1]?).map (·.1)) P x:=λh4 hb=>by
  rcases hb with hb|hb|hb|⟨y,hb1,hb2⟩
  ·exact h2 (.inl hb)
  ·exact h2 (.inr hb)
  ·exact h3 hb
  ·exact hb2 (h4 y hb1)
 refine AB (λh4=>?_) (λh4=>?_)
 ·have hP0:0<P.length:=by omega
  obtain⟨y,hy⟩:∃y,P[P.length-1]? =some y:=⟨_,aB (by omega)⟩
  have hyl:P.getLast? =some y:=by rw[fA];exact hy
  have hb:Own w5 0 62 2 ba P.length c (BM P):=H3.ownA (.tail _ (.tail _ (.head _)))
  obtain⟨g,hg⟩:=hb.Dq hP0
  have hbd:Cells w5.drew ba (BM P):=hb.cells
  have e1:Int.toNat ((P.length:Int)-1)=P.length-1:=by omega
  refine⟨x.1,x.2,H3.ldA (o:=0) (cs:=[.int .i64 x.1,.int .i64 x.2]) EQ4 Gy (.head _) rfl rfl,DC.2 (by omega),AA hg ⟨⟨by omega,by omega⟩,y.1,y.2,by rw[e1];exact hbd.ldA Gy hg (Kq hy) rfl,?_⟩⟩
  refine AC (sIn_spec x.1 x.2 y.1 y.2 w5.drew) ?_
  rintro _ w6 ⟨rfl,H'⟩
  have H4:=H3.drew.ext0 H'
  refine⟨_,rfl,Gf (λh5=>hbad (.inr (.inr (.inr ⟨y,hyl,h5⟩))) H4) (λh5=>?_)⟩
  exact fin H4 (hnot λy' hy'=>by rw[hyl]at hy';cases hy';exact h5)
 ·have hP0:P=[]:=bC (by omega)
  exact fin H3.drew (hnot λy hy=>by rw[hP0]at hy;cases hy)
end
end Go.Proofs.YtljenkbpnioipaaGreat
namespace Go.Nod
abbrev none0:ByteArray:=⟨#[]⟩
structure WOk(W:LB0):Prop where
 ok:∀s∈W,s=none0\/CW s
 one:∀(j k:Nat)(s:ByteArray),W[j]? =some s->W[k]? =some s->s≠none0->j=k
 last:W.getLast? ≠some none0
 len:W.length<=4000
def ZP:WOk []:=⟨by simp,by simp,by simp,by simp⟩
def hasW(W:LB0)(n:ByteArray):Prop:=n∈W/\n≠none0
noncomputable instance (W:List ByteArray) (n:ByteArray):Decidable (hasW W n):=Classical.propDecidable _
def posW:LB0->ByteArray->Nat
 | [],_=>0
 |x::r,n=>if x=n then 0 else posW r n+1
theorem UR:∀{W:LB0}{n:ByteArray},n∈W->W[posW W n]? =some n
 |x::r,n,h=>by
  rw[posW];by_cases e:x=n
  ·rw[if_pos e,dH,e]
  ·rw[if_neg e,bJ];exact UR ((aP.1 h).resolve_left λh=>e h.symm)
end Go.Nod
namespace Go.Proofs.YtljenkbpnioipaaGreat
noncomputable section
open Go Go.Vc Go.Nod
def kSW:Scl PP 148:=BN (by kernel_rfl)
def kMSI:Scl PP 147:=BN (by kernel_rfl)
def Ky:Agg PP 167 2:=DF (by kernel_rfl)
def pK:Elt PP 148 167 2 24:=DD (by kernel_rfl)
def Y2:Elt PP 106 9 1 16:=DD (by kernel_rfl)
def Zn:PP.underlying 106=some (.slice 9):=by kernel_rfl
def Zy:PP.underlying 148=some (.slice 167):=by kernel_rfl
def IQ:MapT PP F9 147 9 3 (I 0):=⟨by kernel_rfl,by kernel_rfl,by kernel_rfl⟩
def useW(s:ByteArray):Int:=if s=none0 then 0 else 1
def Ai(W:LB0):LV:=W.flatMap λs=>[.string s,I (useW s)]
theorem FM(l:LB0):(Ai l).length=l.length*2:=by
 induction l with
 |nil=>rfl
 |cons p r a=>simp only[Ai,bU,aF,aK,dI]at a⊢;omega
def wordsC_one(l:LB0):∀u∈Ai l,u.oneCell'=true:=by
 intro u c;obtain⟨p,_,a⟩:=gq.1 c;simp at a;rcases a with rfl|rfl<;>rfl
def FO(p:ByteArray)(r:LB0):Ai (p::r)=.string p::I (useW p)::Ai r:=rfl
def Jk(a b:LB0):Ai (a++b)=Ai a++Ai b:=by simp[Ai]
theorem PR:∀{l:LB0}{k:Nat}{p:ByteArray},l[k]? =some p->((Ai l).drop (k*2)).take 2=[.string p,I (useW p)]
 |x::r,0,p,h=>by simp at h;subst h;rfl
 |x::r,k+1,p,h=>by
  rw[bJ]at h;rw[FO,dY,eQ,eQ];exact PR h
theorem Fv:∀{l:LB0}{k:Nat}{p:ByteArray},l[k]? =some p->(Ai l)[k*2+1]? =some (I (useW p))
 |x::r,0,p,h=>by simp at h;subst h;rfl
 |x::r,k+1,p,h=>by
  rw[bJ]at h;rw[FO,dY];exact Fv h
theorem NZ:∀(l:LB0)(k:Nat)(z:ByteArray),k<l.length->over [.string z,I (useW z)] (k*2) (Ai l)=Ai (l.set k z)
 |x::r,0,z,_=>by
  rw[bf,FO,FO];exact Ey [.string z,I (useW z)] [] [.string x,I (useW x)] (Ai r) rfl
 |x::r,k+1,z,h=>by
  have i:=NZ r k z (by simpa using h);have m:k<r.length:=by simpa using h
  rw[bZ,FO,FO,<- i];have n:=FM r
  have e:Ai r=(Ai r).take (k*2)++(((Ai r).drop (k*2)).take 2++(Ai r).drop (k*2+2)):=by
   rw[<- dM,bz,bz]
  have a:((Ai r).take (k*2)).length=k*2:=by rw[aI];omega
  have c:(((Ai r).drop (k*2)).take 2).length=2:=by rw[aI,cO];omega
  have d:=Ey [.string z,I (useW z)] ((Ai r).take (k*2)) (((Ai r).drop (k*2)).take 2) ((Ai r).drop (k*2+2)) c.symm;rw[a,<- e]at d;have g:=Ey [.string z,I (useW z)] (.string x::I (useW x)::(Ai r).take (k*2)) (((Ai r).drop (k*2)).take 2) ((Ai r).drop (k*2+2)) c.symm;have j:(Value.string x::I (useW x)::(Ai r).take (k*2)).length=(k+1)*2:=by rw[aK,aK,a];omega
  rw[j,aC,aC,<- e]at g;rw[d,g];rfl
structure Fp(W:LB0)(al:List (ByteArray×Value)):Prop where
 apart:Et al
 iff:∀(n:ByteArray)(v:Value),(n,v)∈al↔∃k:Nat,W[k]? =some n/\n≠none0/\v=I ((k:Int)+1)
theorem Fp.get{W:LB0}{al:List (ByteArray×Value)}(h:Fp W al)(g:WOk W)(n:ByteArray):aget al n=if hasW W n then some (I ((posW W n:Nat)+1:Int))else none:=by
 by_cases a:hasW W n
 ·rw[if_pos a];exact(Ez h.apart).2 ((h.iff n _).2 ⟨_,UR a.1,a.2,rfl⟩)
 ·rw[if_neg a];cases e:aget al n with
  |none=>rfl
  |some v=>
   obtain⟨k,c,d,_⟩:=(h.iff n v).1 ((Ez h.apart).1 e);exact(a ⟨aG c,d⟩).elim
def JW(b mb:Nat)(a:OA)(c:Nat)(W:LB0)(al:List (ByteArray×Value)):List Asn:=[.blk b [.slice a W.length c,.map (some mb)] 150,.own 167 2 a W.length c (Ai W),.smap mb al]
def Q7(b:Nat)(W:LB0)(L:List Asn):Prop:=WOk W/\∃mb a c al,Fp W al/\L=JW b mb a c W al
def Ar(f:LN0)(b:Nat)(W:LB0):Asn:=pkA f (Q7 b W)
def V4(w:World):CP 38 #[] w λe w'=>∃b f,e=eE0 (pT0 b)/\Hp [] w w' [Ar f b []]:=by
 apply Jfg;intro a l c;have H:=(Hp.start w).newS EQ4 c;intro b d g;have h:=(H.nw g).nilS 167 2;have i:Hp [] w d (JW b a none 0 [] []++[]):=h.AX;obtain⟨f,j⟩:=i.Dl (Q:=Q7 b []) ⟨ZP,a,none,0,[],⟨lH,by simp⟩,rfl⟩;exact⟨b,f,rfl,j⟩
section
variable{f:List Nat}{b:Nat}{W:List ByteArray}{w:World}
def NI(h:(Ar f b W).ok w)(n:ByteArray):CP 100 #[pT0 b,.string n] w λe w'=>e=eE0 (.tuple #[I (if hasW W n then(posW W n:Int)+1 else 0),.bool (dec (hasW W n))])/\w'=w:=by
 apply Jfc;obtain⟨L,⟨i,j,a,c,l,m,rfl⟩,o,_⟩:=Ep h;have H:=Hp.Cb o;have g:=m.get i n;refine AA rfl ⟨some j,by rw[add_lit];exact H.lo kMSI,(if hasW W n then(posW W n:Int)+1 else 0),(aget l n).isSome,H.VQ IQ EQ4 m2 ?_ rfl,?_,rfl⟩
 ·rw[g];split<;>rfl
 ·rw[g];by_cases d:hasW W n
  ·rw[if_pos d,if_pos d,<- DI d];rfl
  ·rw[if_neg d,if_neg d,<- Bz d];rfl
def xClone_spec(h:(Ar f b W).ok w):Calls Tryz.prog 51 #[.pointer (some ⟨b,0,none⟩)] w λe w'=>∃n o i,e=.returned (.pointer (some ⟨i,0,none⟩))/\Hp f w w' [Ar n b W,Ar o i W]:=by
 apply Jfa;have B:Hp f w w [Ar f b W]:=BQ h;obtain⟨M,⟨p,j,a,c,g,x,rfl⟩,H,Y⟩:=B.unpack;have Z:=p.len;refine AA rfl ⟨a,W.length,c,H.ld EQ4 kSW (.head _) rfl,AA rfl ⟨some j,by rw[add_lit];exact H.ld EQ4 kMSI (.head _) rfl,?_⟩⟩;have y:Own w 0 167 2 a W.length c (Ai W):=H.ownA m1;have q:Cells w.drew a (Ai W):=y.cells;refine AC (lCloneW_spec a W.length c (Ai W) w.drew q (FM W) (wordsC_one W) (Qo y) om) ?_;rintro _ z ⟨l,m,rfl,C⟩;have r:=H.drew.ext1 C;refine⟨l,_,m,rfl,by rw[add_lit];exact r.ld EQ4 kMSI m1 rfl,?_⟩;have D:MapAt F9 z j g:=r.ok _ m3;refine AC (lMCloneSI_spec j g z D) ?_;rintro _ F ⟨d,rfl,G,s,t⟩
 have J:Hp f w F (.smap d g::_):=r.add t s (λk K=>by
  have:k=d:=by simpa [Asn.foot]using K
  omega)
 refine⟨some d,rfl,λi A u=>?_⟩;have L:=J.new (cs:=[.slice l W.length m,.map (some d)]) EQ4 u
 have N:Hp f w A (JW b j a c W g++(JW i d l m W g++[])):=L.perm (by
  refine AL λff gg O t R T=>?_;simp only[JW,R,t,O];omega)
 obtain⟨n,U⟩:=N.Dl (Q:=Q7 b W) ⟨p,j,a,c,g,x,rfl⟩;obtain⟨o,X⟩:=(U.perm bI.symm:Hp f w A (JW i d l m W g++[Ar n b W])).Dl (Q:=Q7 i W) ⟨p,d,l,m,g,x,rfl⟩;exact⟨n,o,i,rfl,X.AX⟩
def BJ(l:LB0):LV:=l.map .string
def Uy(h:(Ar f b W).ok w):CP 97 #[pT0 b] w λe w'=>∃a c,e=eE0 (.slice a W.length c)/\Hp [] w w' [.own 9 1 a W.length c (BJ W)]:=by
 apply Je8;obtain⟨L,⟨y,N,a,c,O,R,rfl⟩,z,_⟩:=Ep h;have H:=Hp.Cb z;have T:=y.len;have A:Own w 0 167 2 a W.length c (Ai W):=H.ownA m1;refine AA rfl ⟨a,W.length,c,H.lo kSW,?_⟩;refine LoopP.mk (λq s w'=>∃(j:Nat)(m:OA)(n:Nat)(X:List Asn),q=W.length-j/\j<=W.length/\s=((m,j,n),(j:Int))/\Hp [] w w' (.own 9 1 m j n (BJ (W.take j))::X)) W.length ⟨0,none,0,[],rfl,om,rfl,(Hp.start w).nilS 9 1⟩ ?_;rintro q s B U ⟨j,m,n,X,rfl,Y,rfl,H⟩ o;dsimp only;refine AB (λt=>?_) (λt=>?_)
 ·have d:j<W.length:=om;have C:W[j]? =some W[j]:=aB d;have i:Cells B a (Ai W):=A.cells.chg H.chg (by simp);have g:=PR C;obtain⟨Z,l⟩:=i.some (λe=>by rw[e]at g;simp at g);refine AA l ⟨⟨om,t⟩,W[j],useW W[j],i.ldA Ky l g rfl,?_⟩;intro D w2 p;have F:=H.nw p;refine Hp.stA F EQ4 Ky rfl rfl (by simp) rfl λw3 u=>?_;refine⟨W[j],u.lo yStr,?_⟩;intro G w4 r;have x:=u.nw r;refine Hp.app Y2 om x.Am EQ4 (Blk.src Zn (x.blk (.head _)) rfl rfl) (by simp only[maxLen];omega) om ?_;intro J K w5 M;refine⟨iR,o (W.length-(j+1)) _ _ om ⟨j+1,J,K,.blk G [.string W[j]] 9::.blk D [.string W[j],I (useW W[j])] 167::X,rfl,om,rfl,?_⟩⟩
  have e:BJ (W.take (j+1))=BJ (W.take j)++[.string W[j]]:=by
   rw[BJ,BJ,aH d,ai];rfl
  rw[e];exact M
 ·have d:j=W.length:=om;subst d;rw[bK]at H;exact⟨m,n,rfl,Hp.BK H⟩
def atW(W:LB0)(n:Int):ByteArray:=if n<1 then none0 else W[n.toNat-1]?.getD none0
def XT(h:(Ar f b W).ok w)(n:Int)(M:n<=1000000):CP 157 #[pT0 b,I n] w λe w'=>e=eE0 (.agg #[.string (atW W n),I (useW (atW W n))])/\Hp [] w w' []:=by
 apply Je9;obtain⟨L,⟨C,y,a,c,N,O,rfl⟩,D,_⟩:=Ep h;have R:=C.len;have z:=Hp.Cb D;have F:Own w 0 167 2 a W.length c (Ai W):=z.ownA m1;have G:Blk w b [.slice a W.length c,.map (some y)] 150:=z.blk (.head _);intro A p r;have H:=(Hp.start w).nw r;have t:Blk p b [.slice a W.length c,.map (some y)] 150:=G.chg H.chg (by simp);have ld0:Ld PP 148 p ⟨b,0,none⟩ (.slice a W.length c):=t.ld kSW.agg rfl
 have j:atW W n=none0->∃d,St PP 167 p ⟨A,0,none⟩ (.agg #[.string none0,I 0]) d/\∃s i,Ld PP 167 d ⟨A,0,none⟩ (.agg #[.string s,I i])/\Ending.returned (.agg #[.string s,I i])=eE0 (.agg #[.string (atW W n),I (useW (atW W n))])/\Hp [] w d []:=λe=>by
  refine Hp.stA H EQ4 Ky rfl rfl (by simp) rfl λJ l=>?_;exact⟨none0,0,l.loA Ky,by rw[e];rfl,l.drop⟩
 refine AB (λq=>j (by rw[atW,if_pos q])) (λq=>AA rfl ⟨a,W.length,c,ld0,AB (λK=>j ?_) (λK=>AA rfl ⟨a,W.length,c,ld0,iR,?_⟩)⟩)
 ·rw[atW,if_neg q,bF om];rfl
 ·obtain⟨k,T⟩:∃k:Nat,n=(k:Int)+1:=⟨n.toNat-1,om⟩;have u:k<W.length:=om;have B:W[k]? =some W[k]:=aB u
  have x:atW W n=W[k]:=by
   rw[atW,if_neg q,show n.toNat-1=k by omega,B];rfl
  have m:Cells p a (Ai W):=F.cells.chg H.chg (by simp);have g:=PR B;obtain⟨U,o⟩:=m.some (λe=>by rw[e]at g;simp at g);rw[x];refine AA o ⟨⟨om,om⟩,W[k],useW W[k],by rw[show(n-1).toNat=k by omega];exact m.ldA Ky o g rfl,?_⟩;refine Hp.stA H EQ4 Ky rfl rfl (by simp) rfl λJ l=>?_;exact⟨W[k],useW W[k],l.loA Ky,rfl,l.drop⟩
def xName_spec(h:(Ar f b W).ok w)(n:Int)(d:n<=1000000):CP 198 #[pT0 b,I n] w λe w'=>e=eE0 (.tuple #[.string (atW W n),.bool (decide (atW W n≠none0))])/\Hp [] w w' []:=by
 apply Jff;refine AC (XT h n d) ?_;rintro _ i ⟨rfl,g⟩;refine⟨_,_,rfl,λj l a=>?_⟩;have H:=g.nw a;refine Hp.stA H EQ4 Ky rfl rfl (by simp) rfl λm c=>?_;refine⟨atW W n,c.lo yStr,useW (atW W n),c.lo yInt,?_,c.drew.drop⟩
 have:decide (0<useW (atW W n))=decide (atW W n≠none0):=by
  rw[useW];by_cases e:atW W n=none0
  ·rw[if_pos e];simp[e]
  ·rw[if_neg e];simp[e]
 rw[this]
end
end
end Go.Proofs.YtljenkbpnioipaaGreat
namespace Go.Nod
noncomputable section
open Classical
theorem Oz:∀(W:LB0)(n:ByteArray),posW W n<=W.length
 | [],_=>aZ _
 |x::r,n=>by
  have:=Oz r n;rw[posW];split<;>simp<;>omega
theorem UB:∀(W:LB0)(n:ByteArray)(k:Nat)(s:ByteArray),W[k]? =some s->k<posW W n->s≠n
 |x::r,n,0,s,h,hk=>by
  rw[dH]at h;cases h;rw[posW]at hk;intro e;rw[if_pos e]at hk;omega
 |x::r,n,k+1,s,h,hk=>by
  rw[bJ]at h;rw[posW]at hk;by_cases e:x=n
  ·rw[if_pos e]at hk;omega
  ·rw[if_neg e]at hk;exact UB r n k s h om
theorem ZQ{W:LB0}{n:ByteArray}(h:n∉W):posW W n=W.length:=by
 induction W with
 |nil=>rfl
 |cons x r a=>
  rw[aP,not_or]at h;rw[posW,if_neg λe=>h.1 e.symm,a h.2,aK]
def addW(W:LB0)(n:ByteArray):LB0:=if posW W none0<W.length then W.set (posW W none0) n else W++[n]
def cntW(W:LB0):Nat:=(W.filter λs=> !decide (s=none0)).length
def MG:Nat->LB0->LB0
 |0,_=>[]
 |n+1,W=>match W[n]? with
  |some s=>if s=none0 then MG n W else W.take (n+1)
  |none=>W.take (n+1)
def Ir(W:LB0)(k:Nat):LB0:=MG W.length (W.set k none0)
def Jw{W:LB0}{n:ByteArray}(k:Nat):(addW W n)[k]? =if k=posW W none0 then some n else W[k]? :=by
 rw[addW];have c:=Oz W none0;split
 ·rename_i h;rw[jh];by_cases e:k=posW W none0
  ·rw[if_pos e.symm,if_pos e,if_pos om]
  ·rw[if_neg λh=>e h.symm,if_neg e]
 ·rename_i h;have a:posW W none0=W.length:=om;rw[a];by_cases e:k=W.length
  ·subst e;simp
  ·rw[if_neg e];by_cases b:k<W.length
   ·rw[bW b]
   ·rw[bF (by simp;omega),bF om]
def cnt_full{W:LB0}(h:none0∉W):cntW W=W.length:=by
 rw[cntW,gX.2];intro s a;have:s≠none0:=λe=>h (e▸a);simp[this]
def WOk.add{W:LB0}(h:WOk W){n:ByteArray}(g:CW n)(i:¬hasW W n)(q:cntW W<4000):WOk (addW W n):=by
 have c:n≠none0:=λe=>by rw[e]at g;exact absurd g.1 (by decide)
 have l:n∉W:=λm=>i ⟨m,c⟩;have r:=Oz W none0;have d:∀k,W[k]? ≠some n:=λk a=>l (aG a);refine⟨λs o=>?_,λj k s f a o=>?_,?_,?_⟩
 ·obtain⟨k,a⟩:=ay o;rw[Jw]at a;split at a
  ·cases a;exact .inr g
  ·exact h.ok s (aG a)
 ·rw[Jw]at f a;split at f<;>split at a
  ·omega
  ·cases f;exact(d _ a).elim
  ·cases a;exact(d _ f).elim
  ·exact h.one j k s f a o
 ·intro e;rw[fA,Jw]at e;split at e
  ·cases e;exact c rfl
  ·rename_i b;rw[addW]at e b;split at e
   ·rw[bV]at e;exact h.last (by rw[fA];exact e)
   ·rename_i p;rw[if_neg p]at b;simp at b;omega
 ·rw[addW];have:=h.len;split
  ·rw[bV];exact this
  ·rename_i p
   have:none0∉W:=λm=>by
    have:=(aA.1 (UR m)).1;omega
   have:=cnt_full this;simp;omega
theorem Y4:∀(n:Nat)(W:LB0),n<=W.length->∃m,m<=n/\MG n W=W.take m/\(∀k s,m<=k->k<n->W[k]? =some s->s=none0)/\(0<m->W[m-1]? ≠some none0)
 |0,W,_=>⟨0,aZ _,by simp[MG],λk s f c=>by omega,λh=>by omega⟩
 |n+1,W,h=>by
  have e:W[n]? =some W[n]:=aB om;rw[MG,e];dsimp only;by_cases b:W[n]=none0
  ·rw[if_pos b];obtain⟨m,f,c,i,j⟩:=Y4 n W om;refine⟨m,om,c,λk s d l a=>?_,j⟩;by_cases o:k=n
   ·subst o;rw[e]at a;cases a;exact b
   ·exact i k s d om a
  ·rw[if_neg b];refine⟨n+1,aZ _,rfl,λk s f c=>by omega,λ_ g=>b ?_⟩;rw[iW,e]at g;exact Option.some.inj g
def drop_at{W:LB0}{k:Nat}(g:k<W.length):∃m,m<=W.length/\Ir W k=(W.set k none0).take m/\(∀(j:Nat)(s:ByteArray),s≠none0->((Ir W k)[j]? =some s↔W[j]? =some s/\j≠k))/\(Ir W k).getLast? ≠some none0:=by
 obtain⟨m,d,c,i,l⟩:=Y4 W.length (W.set k none0) (by rw[bV];exact aZ _);refine⟨m,d,c,λj s f=>?_,?_⟩
 ·rw[Ir,c]
  have a:(W.set k none0)[j]? =some s↔W[j]? =some s/\j≠k:=by
   rw[jh];by_cases e:k=j
   ·subst e;rw[if_pos rfl,if_pos g];exact⟨λh=>(by cases h;exact(f rfl).elim),λh=>(h.2 rfl).elim⟩
   ·rw[if_neg e];exact⟨λh=>⟨h,λh=>e h.symm⟩,λh=>h.1⟩
  rw[<- a];by_cases n:j<m
  ·rw[bn n]
  ·rw[bF (by rw[aI];omega)];refine⟨λh=>(by cases h),λh=>?_⟩;have b:=(aA.1 h).1;rw[bV]at b;exact(f (i j s om b h)).elim
 ·rw[Ir,c];intro e;rw[fA,aI,bV,fQ d]at e;by_cases o:0<m
  ·rw[bn om]at e;exact l o e
  ·have:m=0:=om;subst this;simp at e
def WOk.drop{W:LB0}(h:WOk W){k:Nat}(e:k<W.length):WOk (Ir W k):=by
 obtain⟨m,n,c,d,f⟩:=drop_at e
 have b:∀s∈Ir W k,s=none0\/s∈W:=λs a=>by
  rw[c]at a;exact(fM (dN a)).symm
 refine⟨λs a=>?_,λi j s g l a=>?_,f,?_⟩
 ·rcases b s a with a|a
  ·exact .inl a
  ·exact h.ok s a
 ·exact h.one i j s ((d i s a).1 g).1 ((d j s a).1 l).1 a
 ·rw[c,aI,bV];have:=h.len;omega
end
end Go.Nod
namespace Go.Proofs.YtljenkbpnioipaaGreat
noncomputable section
open Go Go.Vc Go.Nod
def Fp.add{W:LB0}{al:List (ByteArray×Value)}(h:Fp W al)(q:WOk W){n:ByteArray}(d:n≠none0)(f:¬hasW W n):Fp (addW W n) (aput al n (I ((posW W none0:Int)+1))):=by
 have j:=h.get q n;rw[if_neg f]at j;have l:=JH.1 j;rw[LD _ _ _ l];have r:∀k,W[k]? ≠some n:=λk s=>f ⟨aG s,d⟩;refine⟨?_,λm v=>?_⟩
 ·rw[Et,ai,bD];exact⟨h.apart,by simp,λa t c o e=>by rw[aj,iY,aY]at o;subst o;exact l (e▸t)⟩
 ·rw[aW,aY,h.iff];constructor
  ·rintro(⟨k,b,g,i⟩|b)
   ·refine⟨k,?_,g,i⟩;rw[Jw,if_neg,b];intro e;subst e;have u:=Oz W none0;by_cases p:none0∈W
    ·rw[UR p]at b;cases b;exact g rfl
    ·rw[ZQ p,bF (aZ _)]at b;cases b
   ·cases b;exact⟨posW W none0,by rw[Jw,if_pos rfl],d,rfl⟩
  ·rintro⟨k,b,g,i⟩;rw[Jw]at b;split at b
   ·rename_i e;cases b;exact .inr (by rw[i,e])
   ·exact .inl ⟨k,b,g,i⟩
def Fp.drop{W:LB0}{al:List (ByteArray×Value)}(h:Fp W al)(p:WOk W){k:Nat}{n:ByteArray}(f:W[k]? =some n)(g:n≠none0):Fp (Ir W k) (adel al n):=by
 have i:=(aA.1 f).1;obtain⟨m,r,s,o,t⟩:=drop_at i;rw[TC h.apart];refine⟨?_,λa v=>?_⟩
 ·have:(acut al n).Sublist al:=kE;exact h.apart.sublist (this.map _)
 ·rw[acut,dO,h.iff];constructor
  ·rintro⟨⟨j,b,c,l⟩,d⟩;refine⟨j,(o j a c).2 ⟨b,λe=>?_⟩,c,l⟩;subst e;rw[f]at b;cases b;simp at d
  ·rintro⟨j,b,c,l⟩;obtain⟨d,q⟩:=(o j a c).1 b;refine⟨⟨j,d,c,l⟩,?_⟩;have:a≠n:=λe=>q (p.one j k n (e▸d) f g);simp[this]
def Fp.len{W:LB0}{al:List (ByteArray×Value)}(h:Fp W al)(d:WOk W):al.length=cntW W:=by
 have b:(al.map (·.1)).Perm (W.filter λs=> !decide (s=none0)):=by
  refine(jE h.apart ?_).2 λn=>?_
  ·rw[List.Nodup,List.pairwise_filter,dB];intro i j f g l m r e;have:=d.one i j W[i] (aB f) (by rw[aB g,e]) (by simpa using m);omega
  ·rw[aT,dO];constructor
   ·rintro⟨⟨a,v⟩,c,rfl⟩;obtain⟨k,b,o,_⟩:=(h.iff a v).1 c;exact⟨aG b,by simp[o]⟩
   ·rintro⟨c,p⟩;obtain⟨k,q⟩:=ay c;exact⟨(n,_),(h.iff n _).2 ⟨k,q,by simpa using p,rfl⟩,rfl⟩
 have:=b.length_eq;rw[aQ]at this;exact this
end
end Go.Proofs.YtljenkbpnioipaaGreat
namespace Go.Vc
def Hp.delS{P:Program}{B:LN0}{w0 w w':World}{L:List Asn}{t h i:TypeId}{z:Value}{b:Nat}{al:List (ByteArray×Value)}(T:MapT P F9 t h i z){g:Array TypeId}{ty:TypeId}(d:g[0]? =some t)(H:Hp B w0 w (.smap b al::L))(e:Eqw w w'){x:ByteArray}{G:WP}
  (kk:∀w1,Hp B w0 w1 (.smap b (adel al x)::L)->G w1):∃w1,Del P g ty w' (.map (some b)) (.string x) w1/\G w1:=by
 obtain⟨w1,j,l,m⟩:=ZM (ty:=ty) T d ((H.go e).ok _ (.head _)) x;exact⟨w1,j,kk w1 ((H.go e).set m l λk n=>.inl n)⟩
end Go.Vc
namespace Go.Nod
theorem pos_none_of(W:LB0)(n:ByteArray)(j:Nat)(h:∀k<j,∀s,W[k]? =some s->s≠n)(d:j<=W.length):j<=posW W n:=by
 induction W generalizing j with
 |nil=>
  have:j=0:=by simpa using d
  omega
 |cons x r e=>
  cases j with
  |zero=>omega
  |succ j=>
   have g:=h 0 om x rfl;rw[posW,if_neg g];have:=e j (λk l s i=>h (k+1) om s (by rw[bJ];exact i)) (by simpa using d);omega
end Go.Nod
namespace Go.Proofs.YtljenkbpnioipaaGreat
noncomputable section
open Go Go.Vc Go.Nod
def JX(s:ByteArray):useW s=0↔s=none0:=by
 rw[useW];by_cases e:s=none0
 ·rw[if_pos e];exact⟨λ_=>e,λ_=>rfl⟩
 ·rw[if_neg e];exact⟨λh=>by omega,λh=>(e h).elim⟩
section
variable{b mb:Nat}{a:Option Addr}{c:Nat}{W:List ByteArray}{al:List (ByteArray×Value)}{w:World}
def xFree_w(g:Std w (JW b mb a c W al))(A:W.length<=4000):CP 158 #[pT0 b] w λe w'=>e=eE0 (I ((posW W none0:Int)+1))/\w'=w:=by
 apply Jfd;have H:=Hp.Cb g;have ld0:Ld PP 148 w ⟨b,0,none⟩ (.slice a W.length c):=H.lo kSW;have p:Own w 0 167 2 a W.length c (Ai W):=H.ownA m1;refine LoopP.mk (λq s w'=>∃j:Nat,q=W.length-j/\j<=W.length/\s=(j:Int)+1/\(∀k<j,∀s,W[k]? =some s->s≠none0)/\w'=w) W.length ⟨0,rfl,om,rfl,λk r=>by omega,rfl⟩ ?_;rintro q s _ B ⟨j,rfl,t,rfl,d,rfl⟩ n;have u:=pos_none_of W none0 j d t;refine AA rfl ⟨a,W.length,c,ld0,AB (λx=>AA rfl ⟨a,W.length,c,ld0,iR,?_⟩) (λx=>?_)⟩
 ·have i:j<W.length:=om;have m:W[j]? =some W[j]:=aB i;obtain⟨C,l,_⟩:=p.cells _ _ (Fv m);refine AA l ⟨⟨om,om⟩,useW W[j],?_,AB (λo=>?_) (λo=>⟨iR,?_⟩)⟩
  ·rw[add_add,show((j:Int)+1-1).toNat=j by omega];exact p.cells.ld yInt l (Fv m)
  ·have y:=(JX _).1 o
   have:posW W none0=j:=by
    refine Nat.le_antisymm (oz.1 λz=>?_) u;exact UB W none0 j W[j] m z y
   exact⟨by rw[this],rfl⟩
  ·refine n (W.length-(j+1)) _ _ om ⟨j+1,rfl,om,rfl,λk r s g=>?_,rfl⟩;by_cases e:k=j
   ·subst e;rw[m]at g;cases g;exact λh=>o ((JX _).2 h)
   ·exact d k om s g
 ·have i:j=W.length:=om;have:=Oz W none0;exact⟨by rw[show posW W none0=j by omega],rfl⟩
end
section
variable{f:List Nat}{b:Nat}{W:List ByteArray}{w:World}
def addR(W:LB0)(n:ByteArray):LB0×Int×Int:=open Classical in if¬CW n then(W,0,63)else if 4000<=cntW W then(W,0,150)else(addW W n,(posW W none0:Int)+1,0)
def xAdd_spec(h:(Ar f b W).ok w)(n:ByteArray)(m:¬hasW W n):CP 101 #[pT0 b,.string n] w λe w'=>∃F,e=eE0 (.tuple #[I (addR W n).2.1,I (addR W n).2.2])/\Hp f w w' [Ar F b (addR W n).1]:=by
 apply Je7;have r:Hp f w w [Ar f b W]:=BQ h;obtain⟨M,⟨s,mb,a,c,al,G,rfl⟩,H,hf⟩:=r.unpack;have hl:=s.len;have K:=G.get s n;rw[if_neg m]at K;have t:=G.len s;refine AA rfl ⟨some mb,by rw[add_lit];exact H.ld EQ4 kMSI (.head _) rfl,0,false,H.VQ IQ EQ4 (t2 (.head _)) (by rw[K];rfl) (by rw[K];rfl),?_⟩;refine AC (IW n w) ?_;rintro _ w1 ⟨rfl,Hn⟩;replace r:=r.ext0 Hn;replace H:=H.ext0 Hn;refine⟨_,rfl,Gf (λj=>⟨f,by rw[addR,if_pos j],by rw[addR,if_pos j];exact r⟩) (λj=>BC ?_)⟩;have hm:MapAt F9 w1 mb al:=H.ok _ (t2 (.head _));refine AA rfl ⟨some mb,by rw[add_lit];exact H.ld EQ4 kMSI (.head _) rfl,_,run_len_map IQ.und hm,?_⟩;rw[t];refine AB (λh2=>⟨f,by rw[addR,if_neg (λh=>h j),if_pos om],by rw[addR,if_neg (λh=>h j),if_pos om];exact r⟩) (λh2=>?_);have hR:addR W n=(addW W n,(posW W none0:Int)+1,0):=by rw[addR,if_neg (λh=>h j),if_neg om]
 rw[hR];have u:n≠none0:=λe=>by rw[e]at j;exact absurd j.1 (by decide)
 have N:=s.add j m om;have x:=G.add s u m;refine AC (xFree_w H.std1 hl) ?_;rintro _ _ ⟨rfl,rfl⟩;refine⟨_,rfl,?_⟩;have hp:=Oz W none0;obtain⟨p,y⟩:∃p,p=posW W none0:=⟨_,rfl⟩;rw[<- y]at hp x⊢;obtain⟨V,B⟩:∃V,V=if p<W.length then W else W++[none0]:=⟨_,rfl⟩
 have O:p<V.length/\V.length<=4001:=by
  rw[B];split
  ·omega
  ·simp;omega
 have z:V.set p n=addW W n:=by
  rw[B,addW,<- y];split
  ·rfl
  ·have:p=W.length:=om;subst this;simp
 refine JoinP.mk (λ_ w'=>∃(d:OA)(i:Nat)(X:List Asn),Hp f w w' (.blk b [.slice d V.length i,.map (some mb)] 150::.own 167 2 d V.length i (Ai V)::.smap mb al::X)) ?_ ?_;rotate_left
 ·intro J hJ;refine AA rfl ⟨a,W.length,c,H.ld EQ4 kSW (.head _) rfl,AB (λh3=>?_) (λh3=>?_)⟩
  ·have l:V=W++[none0]:=by rw[B,if_neg om]
   refine AA rfl ⟨a,W.length,c,H.ld EQ4 kSW (.head _) rfl,λxb w2 R=>?_⟩;have q:=H.new (cs:=[.string none0,I 0]) EQ4 R;refine Hp.app pK om q.Am EQ4 (Blk.src Zy (q.blk (.head _)) rfl rfl) (by simp only[maxLen];omega) om ?_;intro d i w3 C;refine AA rfl (Hp.st C.Am EQ4 kSW rfl rfl (by simp) (cs':=[.slice d (W.length+1) i,.map (some mb)]) rfl λw4 D=>hJ _ _ ⟨d,i,[.blk xb [.string none0,I 0] 167],D.perm ?_⟩);have T:V.length=W.length+1:=by rw[l];simp
   have e2:Ai V=Ai W++[.string none0,I 0]:=by rw[l,Jk];rfl
   refine AL λff gg U Y Z aa=>?_;simp only[JW,T,e2,Z,Y,U,aX,aU,aN];omega
  ·have l:V=W:=by rw[B,if_pos om]
   refine hJ _ _ ⟨a,c,[],?_⟩;rw[l];rw[aU]at H;exact H
 rintro _ w2 ⟨d,i,X,q⟩;refine AA rfl ⟨d,V.length,i,q.ld (o:=0) (cs:=[.slice d V.length i,.map (some mb)]) EQ4 kSW (.head _) rfl,DC.2 om,?_⟩;have ho:Own w2 0 167 2 d V.length i (Ai V):=q.ownA (.tail _ (.head _));obtain⟨g,A⟩:=ho.Dq om;refine AA A ⟨⟨om,om⟩,?_⟩;rw[show((p:Int)+1-1).toNat=p by omega];have ab:useW n=1:=by rw[useW,if_neg u]
 refine Hp.stO (v:=.agg #[.string n,I 1]) (o:=p*2) q.AX EQ4 A Ky.size rfl (by rw[FM];simp[Value.cells];omega) (xs':=Ai (addW W n)) (by rw[<- z,<- NZ V p n O.1,ab];rfl) λw3 C=>?_;refine AA rfl ⟨some mb,by rw[add_lit];exact C.ld (o:=1) (cs:=[.slice d V.length i,.map (some mb)]) EQ4 kMSI (.tail _ (.head _)) rfl,?_⟩;refine Hp.mupS IQ C.Am EQ4 λw4 D=>?_;have T:V.length=(addW W n).length:=by rw[<- z,bV]
 rw[T]at D
 have H5:Hp f w w4 (JW b mb d i (addW W n) (aput al n (I ((p:Int)+1)))++X):=D.perm (by
  refine AL λff gg U Y Z aa=>?_;simp only[I,JW,Z,Y,U];omega)
 obtain⟨F,H6⟩:=H5.Dl (Q:=Q7 b (addW W n)) ⟨N,mb,d,i,_,x,rfl⟩;exact⟨F,rfl,Hp.BK (L:=[_]) H6⟩
def xDrop_spec(h:(Ar f b W).ok w)(k:Nat)(n:ByteArray)(r:W[k]? =some n)(s:n≠none0):CP 99 #[pT0 b,I ((k:Int)+1)] w λe w'=>∃t,e=eE0 (.bool true)/\Hp f w w' [Ar t b (Ir W k)]:=by
 apply Jfb;have H0:Hp f w w [Ar f b W]:=BQ h;have x:=(aA.1 r).1
 have hl:W.length<=4000:=by
  obtain⟨L,⟨O,_⟩,_⟩:=Ep h;exact O.len
 have Y:atW W ((k:Int)+1)=n:=by
  rw[atW,if_neg om,show((k:Int)+1).toNat-1=k by omega,r];rfl
 have y:useW n=1:=by rw[useW,if_neg s]
 have A:=XT h ((k:Int)+1) om;rw[Y,y]at A;refine AC A ?_;rintro _ w1 ⟨rfl,H1⟩;obtain⟨M,⟨O,mb,a,c,al,hN,rfl⟩,H,hf⟩:=(H0.ext0 H1).unpack;refine⟨_,_,rfl,λxb w2 Z=>?_⟩;have H2:=H.nw Z;refine Hp.sA H2 Ky (cs':=[.string n,I 1]) λw3 R=>?_;refine⟨1,R.lo yInt,AB (λh1=>by omega) (λ_=>?_)⟩;have ho:Own w3 0 167 2 a W.length c (Ai W):=R.ownA m2;obtain⟨g,p⟩:=ho.Dq om;have hu:=Fv r;rw[y]at hu;refine AA rfl ⟨a,W.length,c,R.lo kSW,iR,AA p ⟨⟨om,om⟩,1,?_,by exact iR,AA p ⟨⟨om,om⟩,?_⟩⟩⟩
 ·rw[add_add,show((k:Int)+1-1).toNat=k by omega];exact ho.cells.ld yInt p hu
 rw[add_add,show((k:Int)+1-1).toNat=k by omega];refine Hp.stO1 R.Am EQ4 yInt p rfl rfl (by rw[FM];omega) λw4 T=>?_;refine⟨1,T.lo yInt,AB (λh1=>by omega) (λ_=>?_)⟩;refine AA rfl ⟨some mb,by rw[add_lit];exact T.lo kMSI,n,T.lo yStr,?_⟩;refine Hp.delS IQ rfl T.EQ EQ4 λw5 H5=>?_;refine AA rfl ⟨a,W.length,c,H5.lo kSW,iR,AA p ⟨⟨om,om⟩,?_⟩⟩
 have aa:over [Value.string none0,I 0] (k*2) ((Ai W).set (k*2+1) (I (1-1)))=Ai (W.set k none0):=by
  rw[<- NZ W k none0 x];have e0:useW none0=0:=rfl;have ab:∀(xs:LV)(i:Nat)(u v z:Value),((xs.set (i+1) u).set i v).set (i+1) z=(xs.set i v).set (i+1) z:=λxs i u v z=>by rw[List.set_comm u v om,List.set_set]
  have am:=FM W;rw[e0,over_cons _ _ _ _ (by rw[bV];omega),over_cons _ _ _ _ (by rw[bV,bV];omega),over_cons _ _ _ _ om,over_cons _ _ _ _ (by rw[bV];omega),over_nil,over_nil,ab]
 refine Hp.stO (v:=.agg #[.string none0,I 0]) (o:=k*2) H5.AX EQ4 p Ky.size rfl (by rw[bV,FM];simp[Value.cells];omega) (xs':=Ai (W.set k none0)) aa λw6 H6=>?_;obtain⟨V,hV⟩:∃V,V=W.set k none0:=⟨_,rfl⟩;have B:V.length=W.length:=by rw[hV,bV]
 obtain⟨D,hD⟩:∃D,D=Ir W k:=⟨_,rfl⟩;have ac:MG V.length V=D:=by rw[hD,Ir,hV,bV]
 rw[<- hV,<- B]at H6;have C:=hN.drop O r s;have G:=O.drop x;rw[<- hD]at C G⊢;refine LoopP.mk (λq _ w'=>∃(j c:Nat),q=j/\j<=V.length/\MG j V=D/\Hp f w w' (.blk b [.slice a j c,.map (some mb)] 150::.own 167 2 a j c (Ai (V.take j))::.smap mb (adel al n)::[.blk xb [.string n,I 1] 167])) V.length ⟨V.length,c,rfl,aZ _,ac,?_⟩ ?_
 ·rw[bK];refine H6.perm ?_;refine AL λff gg h0 hc ha an=>?_;simp only[B,ha,hc,h0,aX,aU,aN];omega
 rintro q _ J nx ⟨j,c,hq,hj,l,U⟩ ad
 have done:D=V.take j->∃t,Ending.returned (.bool true)=eE0 (.bool true)/\Hp f w J.drew [Ar t b D]:=λe=>by
  have ae:D.length=j:=by rw[e,aI];omega
  have X:Hp f w J.drew (JW b mb a c D (adel al n)++[.blk xb [.string n,I 1] 167]):=by
   rw[JW,ae,e];exact U.drew
  obtain⟨t,H9⟩:=X.Dl (Q:=Q7 b D) ⟨G,mb,a,c,_,C,rfl⟩;exact⟨t,rfl,Hp.BK (L:=[_]) H9⟩
 have m:∀{W':World},Eqw J W'->Ld PP 148 W' ⟨b,0,none⟩ (.slice a j c):=λhe=>U.ld (o:=0) (cs:=[.slice a j c,.map (some mb)]) he kSW (.head _) rfl;refine AA rfl ⟨a,j,c,m EQ4,AB (λh1=>?_) (λh1=>?_)⟩
 ·obtain⟨d,rfl⟩:∃d,j=d+1:=⟨j-1,om⟩;have hx:V[d]? =some V[d]:=aB om;have af:(V.take (d+1))[d]? =some V[d]:=by rw[bn om];exact hx
  have K:Own J 0 167 2 a (d+1) c (Ai (V.take (d+1))):=U.ownA m1;have ag:Cells J.drew a (Ai (V.take (d+1))):=K.cells;have ao:=K.le;have e1:(((d+1:Nat):Int)-1).toNat=d:=om;refine AA rfl ⟨a,d+1,c,m EQ4,AA rfl ⟨a,d+1,c,m EQ4,iR,AA p ⟨⟨om,om⟩,useW V[d],?_,AB (λh2=>?_) (λh2=>?_)⟩⟩⟩
  ·rw[add_add,e1];exact ag.ld yInt p (Fv af)
  ·have h3:=(JX _).1 h2;rw[MG,hx]at l;dsimp only at l;rw[if_pos h3]at l;refine AA rfl ⟨a,d+1,c,m EQ4,AA rfl ⟨a,d+1,c,m EQ4,iR,AA rfl ⟨a,d+1,c,m EQ4,iR,⟨om,om,om⟩,AA rfl ?_⟩⟩⟩;rw[e1];refine Hp.s1 U.drew.drew kSW (cs':=[.slice a d d,.map (some mb)]) λw8 X=>?_;have ah:Own w8 0 167 2 a (d+1) c (Ai (V.take (d+1))):=X.ownA m1;have N:=ah.only (F:=d) om
   have e2:(Ai (V.take (d+1))).take (d*2)=Ai (V.take d):=by
    rw[aH om,Jk];have:(Ai (V.take d)).length=d*2:=by rw[FM,aI];omega
    rw[<- this,iJ]
   rw[e2]at N;refine ad d _ _ om ⟨d,d,rfl,om,l,?_⟩;exact(Hp.set (a':=.own 167 2 a d d (Ai (V.take d))) X.AX (Chg.refl _ _) N λk r=>.inl r).AX
  ·refine done ?_;rw[MG,hx]at l;dsimp only at l;rw[if_neg (λh=>h2 ((JX _).2 h))]at l;exact l.symm
 ·have ak:j=0:=om;subst ak;rw[MG]at l;exact done (by rw[<- l];simp)
end
end
noncomputable section
open Go Go.Vc Go.Nod
def Bi.go{S S':LN0}{w w':World}{L:List Asn}{a:OA}{n:Nat}{l:List It}{ss:List Sl3}(h:Bi S w a n l ss)(H:Hp S w w' L)(b:∀k∈S',k∈feet L):Bi S' w' a n l ss:=
 ⟨λW c=>h.rd W (H.chgT (c.more b)),h.len,h.sls,h.small⟩
def opC(o:OpP)(la:OA)(n lc:Nat):LV:=[I o.kind,I o.id,I o.to,I o.at_,.string o.name,.string o.text,.slice la n lc]
def RV{f:LN0}{b:Nat}{T:Tr}{w:World}(h:(AV f b T).ok w)(o:OpP)(i:OA)(n lc:Nat)(ss:List Sl3)(L:Bi f w i n o.l ss)(x:n<=140737488355328)(K:o.text.size<=maxLen):
  CP 54 #[pT0 b,.agg (opC o i n lc).toArray] w λe w'=>∃c,e=eE0 (.tuple #[I (T.edit o).2.1,I (T.edit o).2.2])/\Hp f w w' [AV c b (T.edit o).1]:=by
 apply Jce;have M:Hp f w w [AV f b T]:=BQ h;intro D y F;have H:=M.nw F;have A:Bi f y i n o.l ss:=L.go H λk N=>Ap.2 ⟨AV f b T,.tail _ (.head _),N⟩;have m:=H.drop;have d:(AV f b T).ok y:=m.ok _ (.head _);have a:∀{j:Nat}{z:Int},(opC o i n lc)[j]? =some (I z)->Ld PP 3 y ⟨D,j,none⟩ (I z):=λG=>H.ld EQ4 yInt (.head _) G;have p:∀{j:Nat}{z:ByteArray},(opC o i n lc)[j]? =some (.string z)->Ld PP 9 y ⟨D,j,none⟩ (.string z):=λG=>H.ld EQ4 yStr (.head _) G;have ldL:Ld PP 34 y ⟨D,6,none⟩ (.slice i n lc):=H.lo nSIt;refine⟨o.kind,a rfl,AB (λq=>?_) (λq=>AB (λr=>?_) (λr=>AB (λs=>?_) (λs=>AB (λt=>?_) (λt=>AB (λB=>?_) (λB=>AB (λC=>?_) (λC=>AB (λJ=>?_) (λJ=>?_)))))))⟩
 ·have e:T.edit o=T.load o.l:=by rw[Tr.edit,if_pos q]
  refine⟨i,n,lc,ldL,AC (gLoad_spec d i n lc o.l ss A) ?_⟩;rintro _ u ⟨c,rfl,g⟩;exact⟨_,_,rfl,c,by rw[e],by rw[e];exact m.Ba g⟩
 ·have e:T.edit o=T.insert o.id o.at_ o.l:=by rw[Tr.edit,if_neg q,if_pos r]
  refine⟨o.id,a rfl,o.at_,a rfl,i,n,lc,ldL,AC (gInsert_spec d o.id o.at_ i n lc o.l ss A x) ?_⟩;rintro _ u ⟨c,rfl,g⟩;exact⟨_,_,rfl,c,by rw[e],by rw[e];exact m.Ba g⟩
 ·have e:T.edit o=((T.delete o.id).1,0,(T.delete o.id).2):=by rw[Tr.edit,if_neg q,if_neg r,if_pos s]
  refine⟨o.id,a rfl,AC (gDelete_spec d o.id) ?_⟩;rintro _ u ⟨c,rfl,g⟩;exact⟨_,rfl,c,by rw[e],by rw[e];exact m.Ba g⟩
 ·have e:T.edit o=((T.move o.id o.to o.at_).1,0,(T.move o.id o.to o.at_).2):=by rw[Tr.edit,if_neg q,if_neg r,if_neg s,if_pos t]
  refine⟨o.id,a rfl,o.to,a rfl,o.at_,a rfl,AC (gMove_spec d o.id o.to o.at_) ?_⟩;rintro _ u ⟨c,rfl,g⟩;exact⟨_,rfl,c,by rw[e],by rw[e];exact m.Ba g⟩
 ·have e:T.edit o=((T.BX o.id (o.name,o.text)).1,0,(T.BX o.id (o.name,o.text)).2):=by rw[Tr.edit,if_neg q,if_neg r,if_neg s,if_neg t,if_pos B]
  refine⟨o.id,a rfl,o.name,p rfl,o.text,p rfl,AC (gSetAttr_spec d o.id o.name o.text K) ?_⟩;rintro _ u ⟨c,rfl,g⟩;exact⟨_,rfl,c,by rw[e],by rw[e];exact m.Ba g⟩
 ·have e:T.edit o=((T.Bg o.id o.name).1,0,(T.Bg o.id o.name).2):=by rw[Tr.edit,if_neg q,if_neg r,if_neg s,if_neg t,if_neg B,if_pos C]
  refine⟨o.id,a rfl,o.name,p rfl,AC (gDelAttr_spec d o.id o.name) ?_⟩;rintro _ u ⟨c,rfl,g⟩;exact⟨_,rfl,c,by rw[e],by rw[e];exact m.Ba g⟩
 ·have e:T.edit o=((T.Bj o.id o.text).1,0,(T.Bj o.id o.text).2):=by rw[Tr.edit,if_neg q,if_neg r,if_neg s,if_neg t,if_neg B,if_neg C,if_pos J]
  refine⟨o.id,a rfl,o.text,p rfl,AC (gSetText_spec d o.id o.text K) ?_⟩;rintro _ u ⟨c,rfl,g⟩;exact⟨_,rfl,c,by rw[e],by rw[e];exact m.Ba g⟩
 ·have e:T.edit o=(T,0,1):=by rw[Tr.edit,if_neg q,if_neg r,if_neg s,if_neg t,if_neg B,if_neg C,if_neg J]
  exact⟨f,by rw[e],by rw[e];exact m⟩
def Ag(s:ByteArray):ByteArray:=if s=none0 then none0 else if sb s 0=119 then s.extract 0 (min s.size 3)else if sb s 0=110 then s.extract 0 (min s.size 6)else s.extract 0 1
def QQ(s:ByteArray)(w:World):CP 113 #[.string s] w λe w'=>e=eE0 (.string (Ag s))/\w'=w:=by
 apply Jb4;refine AB (λh=>⟨by rw[Ag,if_pos h],rfl⟩) (λh=>?_);have c:0<s.size:=Nat.pos_of_ne_zero λe=>h (Eu.2 (bC (by rw[BL];exact e)));refine⟨⟨om,om⟩,AB (λa=>⟨⟨om,om⟩,?_,rfl⟩) (λa=>⟨⟨om,om⟩,AB (λb=>⟨⟨om,om⟩,?_,rfl⟩) (λb=>⟨⟨om,om⟩,?_,rfl⟩)⟩)⟩
 ·rw[Ag,if_neg h,if_pos a,show(min (s.size:Int) 3).toNat=min s.size 3 by omega]
 ·rw[Ag,if_neg h,if_neg a,if_pos b,show(min (s.size:Int) 6).toNat=min s.size 6 by omega]
 ·rw[Ag,if_neg h,if_neg a,if_neg b];rfl
end
end Go.Proofs.YtljenkbpnioipaaGreat
namespace Go.Vc
open Go
theorem Z5{α:Type}{f:α->LV}{n:Nat}(b:∀x,(f x).length=n):∀{l:List α}{k:Nat}{x:α},l[k]? =some x->((l.flatMap f).drop (k*n)).take n=f x
 |y::r,0,x,h=>by
  cases h;rw[bU,jL,fC,iP (b _)]
 |y::r,k+1,x,h=>by
  rw[bU,dY,gU,<- dM,lC (b _)];exact Z5 b (by simpa using h)
theorem o6{α:Type}{f:α->LV}{n:Nat}(b:∀x,(f x).length=n):∀(l:List α),(l.flatMap f).length=l.length*n
 | []=>by simp
 |x::r=>by rw[bU,aF,b,o6 b r,aK,dY];omega
theorem Zp{α:Type}{f:α->LV}{n:Nat}(b:∀x,(f x).length=n):∀(l:List α)(k:Nat),(l.flatMap f).drop (k*n)=(l.drop k).flatMap f
 | [],k=>by simp
 |x::r,0=>by simp
 |x::r,k+1=>by
  rw[bU,dY,gU,<- dM,lC (b _),Zp b r k,eQ]
def take_snoc{α:Type}{l:List α}{k:Nat}{x:α}(h:l[k]? =some x):l.take (k+1)=l.take k++[x]:=by
 rw[aH (aA.1 h).1,(aA.1 h).2]
end Go.Vc
namespace Go.Proofs.YtljenkbpnioipaaGreat
noncomputable section
open Go Go.Vc Go.Nod
def bSR:Scl PP 27:=BN (by kernel_rfl)
def bT2:Agg PP 29 2:=DF (by kernel_rfl)
def bR6:Agg PP 133 6:=DF (by kernel_rfl)
def bER:Elt PP 27 133 6 80:=DD (by kernel_rfl)
def bUR:PP.underlying 27=some (.slice 133):=by kernel_rfl
abbrev DR:=Rw×Sl3
abbrev rws(M:List DR):List Rw:=M.map (·.1)
def drC(p:DR):LV:=I p.1.id::itC ⟨p.1.level,p.1.x⟩ p.2
def drsC(M:List DR):LV:=M.flatMap drC
def tC(a:OA)(n c:Nat)(nx:Int):LV:=[.slice a n c,I nx]
abbrev tV(a:OA)(n c:Nat)(nx:Int):Value:=.agg #[.slice a n c,I nx]
def OD(p:DR):(drC p).length=6:=rfl
def OB(M:List DR):(drsC M).length=M.length*6:=o6 OD M
def drsC_one(M:List DR):∀u∈drsC M,u.oneCell'=true:=by
 intro u d;obtain⟨p,_,b⟩:=gq.1 d;simp only[drC,itC,aP,iU,or_false]at b;rcases b with rfl|rfl|rfl|rfl|rfl|rfl<;>rfl
def AtA(f:LN0)(w:World)(p:DR):Prop:=∀W,Chg f w W->AtR W p.2.1 p.2.2.1 p.1.x.attrs
structure TrA(f:LN0)(w:World)(a:OA)(c:Nat)(M:List DR):Prop where
 rd:∀W,Chg f w W->Cells W a (drsC M)
 att:∀p∈M,AtA f w p
 cap:M.length<=c
 lt:∀k∈f,k<w.heap.size
variable{f:List Nat}{w w':World}{a:Option Addr}{c:Nat}{M:List DR}{L:List Asn}
def We(H:Hp [] w w' L){S:LN0}{W:World}(h:Chg S w' W)(b:∀k∈S,k∈f\/w.heap.size<=k):Chg f w W:=H.chg.trans h (by simp) b
def AtA.mv{p:DR}(h:AtA f w p)(H:Hp [] w w' L){S:LN0}(b:∀k∈S,k∈f\/w.heap.size<=k):AtA S w' p:=λW d=>h W (We H d b)
def AtA.go{p:DR}(h:AtA f w p)(H:Hp [] w w' L):AtA f w' p:=h.mv H λk b=>.inl b
def Oe(H:Hp [] w w' L){S:LN0}(m:∀k∈S,k∈feet L):(∀k∈S++f,k∈f\/w.heap.size<=k)/\∀k∈S,k<w'.heap.size:=by
 have d:∀k∈S,w.heap.size<=k/\k<w'.heap.size:=λk b=>by
  obtain⟨x,e,g⟩:=Ap.1 (m k b);exact⟨(H.own x e k g).resolve_left (by simp),Asn.Iw (H.ok x e) k g⟩
 exact⟨λk b=>(aW.1 b).elim (λh=>.inr (d k h).1) .inl,λk b=>(d k b).2⟩
def TrA.mv(h:TrA f w a c M)(H:Hp [] w w' L){S:LN0}(m:∀k∈S,k∈feet L):TrA (S++f) w' a c M:=
 ⟨λW d=>h.rd W (We H d (Oe H m).1),λp e=>(h.att p e).mv H (Oe H m).1,h.cap,λk b=>(aW.1 b).elim ((Oe (f:=f) H m).2 k) λb=>fE (h.lt k b) H.chg.size⟩
def TrA.go(h:TrA f w a c M)(H:Hp [] w w' L):TrA f w' a c M:=h.mv H (S:=[]) (by simp)
def TrA.back{S:LN0}(h:TrA (S++f) w a c M)(e:Chg S w w'):TrA f w' a c M:=by
 have g:∀{W:World},Chg f w' W->Chg (S++f) w W:=λb=>e.trans b (λk d=>aS _ d) λk d=>.inl (aO _ d);exact⟨λW b=>h.rd W (g b),λp i W b=>h.att p i W (g b),h.cap,λk d=>fE (h.lt k (aO _ d)) e.size⟩
def Bi.mv2{b:OA}{n:Nat}{l:List It}{ss:List Sl3}(h:Bi f w b n l ss)(H:Hp [] w w' L){S:LN0}(m:∀k∈S,k∈feet L):Bi (S++f) w' b n l ss:=
 ⟨λW d=>h.rd W (We H d (Oe H m).1),h.len,h.sls,h.small⟩
def TrA.cells(h:TrA f w a c M):Cells w a (drsC M):=h.rd w (Chg.refl _ _)
def stay{x:Asn}(H:Hp [] w w' L)(m:x∈L)(lt:∀k∈f,k<w.heap.size){W:World}(h:Chg f w' W):x.ok W:=by
 have b:=H.ok x m;refine Asn.QU b λk d=>h.2.2.2.2 k (Asn.Iw b k d) λg=>?_;rcases H.own x m k d with e|e
 ·cases e
 ·have:=lt k g;omega
def qw{x:Asn}(H:Hp [] w w' (x::L))(lt:∀k∈f,k<w.heap.size){S:LN0}(m:∀k∈S,k∈feet L){W:World}(h:Chg (S++f) w' W):x.ok W:=by
 have b:=H.ok x (.head _);refine Asn.QU b λk d=>h.2.2.2.2 k (Asn.Iw b k d) λj=>?_;rcases aW.1 j with e|e
 ·obtain⟨y,l,g⟩:=Ap.1 (m k e);exact(bH.1 H.sep).1 y l k d g
 ·rcases H.own x (.head _) k d with i|i
  ·cases i
  ·have:=lt k e;omega
def TrA.own(H:Hp [] w w' L)(m:Asn.own 133 6 a M.length c (drsC M)∈L)(lt:∀k∈f,k<w.heap.size)(att:∀p∈M,AtA f w' p):TrA f w' a c M:=
 ⟨λW b=>Own.cells (stay H m lt b),att,(H.ownA m).le.1,λk d=>fE (lt k d) H.chg.size⟩
def TrA.sub(h:TrA f w a c M){i j:Nat}(n:j<=M.length):TrA f w (slA a c i 6) (c-i) ((M.take j).drop i):=by
 refine⟨λW g=>?_,λp l=>h.att p (dN (eU l)),by rw[cO,aI];have:=h.cap;omega,h.lt⟩;have m:=Cells.slAz (i:=i) (sz:=6) (h.rd W g) (OB M) h.cap;intro k v d;refine m k v ?_;rw[drsC,Zp OD]
 have e:M.drop i=(M.take j).drop i++M.drop (max i j):=by
  by_cases b:i<=j
  ·rw[gp,Nat.max_eq_right b];have:=(bz (j-i) (M.drop i)).symm;rw[dM,show i+(j-i)=j by omega]at this;exact this
  ·rw[show(M.take j).drop i=[]from gV (by rw[aI];omega),Nat.max_eq_left om];rfl
 rw[e,dQ];exact(bW (aA.1 d).1).trans d
def TrA.take(h:TrA f w a c M)(j:Nat):TrA f w a c (M.take j):=by
 refine⟨λW d k v b=>h.rd W d k v ?_,λp g=>h.att p (dN g),by rw[aI];have:=h.cap;omega,h.lt⟩;have e:drsC M=drsC (M.take j)++drsC (M.drop j):=by rw[drsC,drsC,drsC,<- dQ,bz]
 rw[e,bW (aA.1 b).1];exact b
theorem TrA.src(h:TrA f w a c M)(n:Nat)(b:n=M.length)(c':Nat):Src PP 6 27 (.slice a n c') n (drsC M) w:=by
 subst b;refine Cells.src bUR h.cells (OB M) (drsC_one M) λe=>?_;subst e;cases hM:M with
 |nil=>rfl
 |cons p r=>
  obtain⟨g,d,_⟩:=h.cells 0 (I p.1.id) (by rw[hM];rfl);cases d
def TrA.ld(h:TrA f w a c M){k:Nat}{p:DR}(l:M[k]? =some p):∃b,a=some b/\(∀{t:TypeId}{j:Nat}{v:Value},Scl PP t->(drC p)[j]? =some v->Ld PP t w (b.add (k*6+j)) v)/\Ld PP 133 w (b.add (k*6)) (.agg (drC p).toArray)/\Ld PP 123 w ((b.add (k*6)).add 1) (.agg (itC ⟨p.1.level,p.1.x⟩ p.2).toArray):=by
 have d:((drsC M).drop (k*6)).take 6=drC p:=Z5 OD l;obtain⟨b,g⟩:=h.cells.some (λe=>by rw[e,List.drop_nil,List.take_nil]at d;cases d);refine⟨b,g,λ{t j v} S i=>h.cells.ld S g ?_,h.cells.ldA bR6 g d rfl,?_⟩
 ·have m:j<6:=by have:=(aA.1 i).1;rwa [OD]at this
  rw[<- d,bn m,eF]at i;exact i
 ·rw[add_add];refine h.cells.ldA Bo g ?_ rfl;rw[<- dM];have e:(((drsC M).drop (k*6)).take 6).drop 1=itC ⟨p.1.level,p.1.x⟩ p.2:=by rw[d];rfl
  rw[<- e,gp]
def FindD(M:List DR)(id z:Int):Prop:=(D6 (rws M) id=none/\atR (rws M) id=none/\z= -1)\/∃(k:Nat)(p:DR),M[k]? =some p/\p.1.id=id/\D6 (rws M) id=some k/\atR (rws M) id=some (k,p.1)/\z=k
def Dk(h:TrA f w a c M)(C:M.length<=1000000)(nx id:Int):
  CP 82 #[tV a M.length c nx,I id] w λe w'=>(∃z,e=eE0 (I z)/\FindD M id z)/\Hp [] w w' []:=by
 apply Jdk;intro b D u;have H:=(Hp.start w).nw u;refine LoopP.mk (λm s w'=>∃k:Nat,m=M.length-k/\k<=M.length/\s=(k:Int)/\(∀(j:Nat)(p:DR),j<k->M[j]? =some p->p.1.id≠id)/\Hp [] w w' [.blk b (tC a M.length c nx) 29]) M.length ⟨0,rfl,om,rfl,λj p h=>by omega,H⟩ ?_;rintro m s F next ⟨k,rfl,G,rfl,d,H⟩ g
 refine⟨_,_,_,H.lo bSR,AB (λA=>?_) (λA=>?_)⟩
 ·obtain⟨p,i⟩:∃p,M[k]? =some p:=⟨_,aB om⟩;obtain⟨J,x,ld,_⟩:=(h.go H).ld i;refine⟨_,_,_,H.lo bSR,AA x ⟨⟨om,A⟩,_,ld (j:=0) yInt rfl,AB (λt=>⟨⟨_,rfl,.inr ⟨k,p,i,?_⟩⟩,H.drop⟩) (λt=>⟨iR,g (M.length-(k+1)) _ _ om ⟨k+1,rfl,om,rfl,λj q l y=>?_,H⟩⟩)⟩⟩
  ·have n:D6 (rws M) id=some k:=by
    rw[D6,kJ];have o:=(aA.1 i);refine⟨by rw[aQ];exact o.1,by rw[jq,o.2,decide_eq_true_eq];exact t,λj l=>?_⟩;rw[jq];have:=d j _ l (aB om);simpa using this
   exact⟨t,n,by rw[atR,n];dsimp only;rw[au,i];rfl,rfl⟩
  ·by_cases e:j=k
   ·subst e;rw[i]at y;cases y;exact t
   ·exact d j q om y
 ·have n:D6 (rws M) id=none:=by
   rw[D6,jJ];intro r B;obtain⟨p,i,rfl⟩:=aT.1 B;obtain⟨j,l⟩:=ay i;have:=d j p (by have:=(aA.1 l).1;omega) l;simpa using this
  exact⟨⟨_,rfl,.inl ⟨n,by rw[atR,n],rfl⟩⟩,H.drop⟩
def RN{k:Nat}{p:DR}(b:M[k]? =some p):(rws M).drop k=p.1::(rws M).drop (k+1):=by
 have h:=aA.1 b;rw[bQ (by rw[aQ];exact h.1),jq,h.2]
def Jq{k:Nat}{p:DR}(b:M[k]? =some p):(rws M)[k]? =some p.1:=by rw[au,b];rfl
theorem ZA(v:Int):∀(l:List Rw)(n:Nat),n<=endF v n l/\endF v n l<=n+l.length
 | [],n=>⟨aZ _,aZ _⟩
 |r::t,n=>by
  have:=ZA v t (n+1);rw[endF,aK];split<;>omega
def Qu{L:List Rw}{k:Nat}{r:Rw}(h:L[k]? =some r):k<endR L k/\endR L k<=L.length:=by
 have:=ZA r.level (L.drop (k+1)) (k+1);have b:=(aA.1 h).1;rw[cO]at this;rw[endR,h];dsimp only;omega
def F5(h:TrA f w a c M)(C:M.length<=1000000)(nx:Int){k:Nat}{p:DR}(l:M[k]? =some p):
  CP 84 #[tV a M.length c nx,I (k:Int)] w λe w'=>e=eE0 (I (endR (rws M) k:Int))/\Hp [] w w' []:=by
 apply Jdj;intro b D n;have H:=(Hp.start w).nw n;have o:=(aA.1 l).1;have A:endR (rws M) k=endF p.1.level (k+1) ((rws M).drop (k+1)):=by rw[endR,Jq l]
 refine⟨iR,LoopP.mk (λm s w'=>∃j:Nat,m=M.length-j/\j<=M.length/\s=(j:Int)/\endR (rws M) k=endF p.1.level j ((rws M).drop j)/\Hp [] w w' [.blk b (tC a M.length c nx) 29]) (M.length-(k+1)) ⟨k+1,rfl,o,rfl,A,H⟩ ?_⟩;rintro m s F next ⟨j,rfl,x,rfl,d,H⟩ g
 refine⟨_,_,_,H.lo bSR,AB (λy=>?_) (λy=>?_)⟩
 ·obtain⟨q,z⟩:∃q,M[j]? =some q:=⟨_,aB om⟩;obtain⟨G,r,ld,_⟩:=(h.go H.drew).ld z;obtain⟨B,i,t,_⟩:=(h.go H.drew).ld l;rw[RN z,endF]at d;refine⟨_,_,_,H.lo bSR,AA r ⟨⟨om,y⟩,_,by rw[aJ,add_add];exact ld yInt rfl,_,_,_,H.lo bSR,AA i ⟨⟨om,om⟩,_,by rw[aJ,add_add];exact t yInt rfl,AB (λu=>⟨?_,H.drew.drop⟩) (λu=>⟨iR,g (M.length-(j+1)) _ _ om ⟨j+1,rfl,om,rfl,?_,H.drew⟩⟩)⟩⟩⟩
  ·rw[if_pos u]at d;rw[d]
  ·rw[if_neg u]at d;exact d
 ·have x:j=M.length:=om;rw[gV (by rw[aQ];omega),endF]at d;exact⟨_,_,_,H.lo bSR,by rw[d,x],H.drop⟩
abbrev natI(l:LN0):List Int:=l.map λ(n:Nat)=>(n:Int)
theorem kids_in{L:List Rw}{k:Nat}{r:Rw}(h:L[k]? =some r){j:Nat}{n:Nat}(g:(D5 L k)[j]? =some n):k<n/\n<endR L k:=by
 have i:∀(l:List Rw)(v:Int)(m:Nat),∀x∈kidF v m l,m<=x/\x<m+l.length:=by
  intro l v
  induction l with
  |nil=>intro m x b;cases b
  |cons q t d=>
   intro m x b;rw[kidF]at b;rw[aK];split at b
   ·rcases aP.1 b with rfl|b
    ·omega
    ·have:=d _ x b;omega
   ·have:=d _ x b;omega
 have e:=aG g;rw[D5,h]at e;have:=i _ _ _ n e;rw[cO,aI]at this;omega
def KZ(h:TrA f w a c M)(C:M.length<=1000000)(nx:Int){k:Nat}{p:DR}(l:M[k]? =some p)(z:∀q∈M,-1000000<=q.1.level/\q.1.level<=1000000):
  CP 204 #[tV a M.length c nx,I (k:Int)] w λe w'=>∃a' c',e=eE0 (.slice a' (D5 (rws M) k).length c')/\Hp [] w w' [.own 3 1 a' (D5 (rws M) k).length c' (AO (natI (D5 (rws M) k)))]:=by
 apply Jdo;intro b w1 o;have H:=(Hp.start w).nw o;have D:=(aA.1 l).1;have F:=z p (aG l);obtain⟨G,K⟩:=Qu (Jq l);rw[aQ]at K;have N:D5 (rws M) k=kidF p.1.level (k+1) (((rws M).take (endR (rws M) k)).drop (k+1)):=by rw[D5,Jq l]
 refine⟨iR,LoopP.mk (λm s w'=>∃(j:Nat)(d:LN0)(a':OA)(c':Nat)(X:List Asn),m=M.length-j/\j<=endR (rws M) k/\s=((a',d.length,c'),(j:Int))/\d.length<=j/\D5 (rws M) k=d++kidF p.1.level j (((rws M).take (endR (rws M) k)).drop j)/\Hp [] w w' (.own 3 1 a' d.length c' (AO (natI d))::.blk b (tC a M.length c nx) 29::X)) (M.length-(k+1)) ⟨k+1,[],none,0,[],rfl,G,rfl,by simp,N,H.nilS 3 1⟩ ?_⟩;clear H;rintro m s w2 next ⟨j,d,a',c',X,rfl,O,rfl,R,g,H⟩ i
 dsimp only;refine⟨_,_,_,_,H.loA bT2,AC (F5 (h.go H) C nx l) ?_⟩;rintro _ w3 ⟨rfl,T⟩;replace H:=H.ext0 T;refine⟨_,rfl,AB (λU=>?_) (λU=>?_)⟩
 ·obtain⟨q,r⟩:∃q,M[j]? =some q:=⟨_,aB om⟩;have Y:=z q (aG r);obtain⟨ad,t,ld,_⟩:=(h.go H.drew).ld r;obtain⟨Z,n,u,_⟩:=(h.go H.drew).ld l
  have hd:((rws M).take (endR (rws M) k)).drop j=q.1::((rws M).take (endR (rws M) k)).drop (j+1):=by
   rw[gp,RN r,show endR (rws M) k-j=(endR (rws M) k-(j+1))+1 by omega,eP,<- gp]
  rw[hd,kidF]at g;refine JoinP.mk (λs w'=>∃(d:LN0)(a':OA)(c':Nat)(X:List Asn),s=(a',d.length,c')/\d.length<=j+1/\D5 (rws M) k=d++kidF p.1.level (j+1) (((rws M).take (endR (rws M) k)).drop (j+1))/\Hp [] w w' (.own 3 1 a' d.length c' (AO (natI d))::.blk b (tC a M.length c nx) 29::X)) ?_ ?_
  ·rintro s w4 ⟨d,a',c',X,rfl,g1,g2,g3⟩;exact⟨iR,i (M.length-(j+1)) _ _ om ⟨j+1,d,a',c',X,rfl,om,rfl,g1,g2,g3⟩⟩
  ·intro J A;refine⟨_,_,_,H.lo bSR,AA t ⟨⟨om,om⟩,_,by rw[aJ,add_add];exact ld yInt rfl,_,_,_,H.lo bSR,AA n ⟨⟨om,om⟩,_,by rw[aJ,add_add];exact u yInt rfl,DC.2 (by dsimp only;omega),AB (λx=>?_) (λx=>?_)⟩⟩⟩
   ·rw[if_pos x]at g;intro b2 w4 y;have B:=(H.drew.nw y).AX;refine Hp.app J8 om B EQ4 (Blk.src J9 (B.blk m1) rfl rfl) (by simp only[maxLen];omega) om ?_;intro a2 c2 w5 H3;refine A _ _ ⟨d++[j],a2,c2,.blk b2 [I (j:Int)] 3::X,by rw[aF];rfl,by rw[aF,fV];omega,by rw[g,ax];rfl,?_⟩;have e:AO (natI (d++[j]))=AO (natI d)++[I (j:Int)]:=by simp[AO]
    rw[e,aF];exact(H3.Am).AX
   ·rw[if_neg x]at g;exact A _ _ ⟨d,a',c',X,rfl,om,g,H.drew⟩
 ·have O:j=endR (rws M) k:=om;rw[gV (by rw[aI];omega),kidF,aU]at g;rw[g];exact⟨a',c',rfl,H.BK (L:=[_])⟩
theorem rgRoot_spec(h:TrA f w a c M)(nx:Int):
  CP 46 #[tV a M.length c nx] w λe w'=>e=eE0 (I (SH ⟨rws M,nx⟩))/\Hp [] w w' []:=by
 apply Jdx;intro b n d;have H:=(Hp.start w).nw d;refine⟨_,_,_,H.lo bSR,AB (λg=>?_) (λg=>?_)⟩
 ·have:M=[]:=bC om;subst this;exact⟨rfl,H.drop⟩
 ·cases hM:M with
  |nil=>rw[hM]at g;exact(g rfl).elim
  |cons p r=>
   have m:M[0]? =some p:=by rw[hM];rfl
   obtain⟨o,i,ld,_⟩:=(h.go H).ld m;have l:=ld (j:=0) yInt rfl;rw[jL,bu,rP]at l;rw[hM]at H;exact⟨_,_,_,H.lo bSR,AA i ⟨⟨om,by rw[aK];omega⟩,_,l,rfl,H.drop⟩⟩
def rgOrder_spec(h:TrA f w a c M)(z:M.length<=1000000)(nx:Int):
  CP 26 #[tV a M.length c nx] w λe w'=>∃a' c',e=eE0 (.slice a' M.length c')/\Hp [] w w' [.own 3 1 a' M.length c' (AO ((rws M).map (·.id)))]:=by
 apply Jdv;intro b A g;have H:=(Hp.start w).nw g;refine LoopP.mk (λm s w'=>∃(k:Nat)(a':OA)(c':Nat)(X:List Asn),m=M.length-k/\k<=M.length/\s=((a',k,c'),(k:Int))/\Hp [] w w' (.own 3 1 a' k c' (AO ((rws (M.take k)).map (·.id)))::.blk b (tC a M.length c nx) 29::X)) M.length ⟨0,none,0,[],rfl,om,rfl,H.nilS 3 1⟩ ?_;rintro m s B next ⟨k,a',c',X,rfl,C,rfl,H⟩ d
 dsimp only;refine⟨_,_,_,H.lo bSR,AB (λn=>?_) (λn=>?_)⟩
 ·obtain⟨p,o⟩:∃p,M[k]? =some p:=⟨_,aB om⟩;obtain⟨D,i,ld,_⟩:=(h.go H).ld o;refine⟨_,_,_,H.lo bSR,AA i ⟨⟨om,n⟩,_,ld (j:=0) yInt rfl,?_⟩⟩;intro r F l;have q:=(H.nw l).AX;refine Hp.app J8 om q EQ4 (Blk.src J9 (q.blk m1) rfl rfl) (by simp only[maxLen];omega) om ?_;intro t u G x;refine⟨iR,d (M.length-(k+1)) _ _ om ⟨k+1,t,u,.blk r [I p.1.id] 3::X,rfl,om,rfl,?_⟩⟩;have e:AO ((rws (M.take (k+1))).map (·.id))=AO ((rws (M.take k)).map (·.id))++[I p.1.id]:=by rw[take_snoc o];simp[AO]
  rw[e];exact(x.Am).AX
 ·have y:k=M.length:=om;subst y;rw[bK]at H;exact⟨a',c',rfl,H.BK (L:=[_])⟩
end
noncomputable section
open Go Go.Vc Go.Nod
variable{f:List Nat}{w w':World}{a:Option Addr}{c:Nat}{M:List DR}{L:List Asn}
def qV{w0 w1:World}{k b:Nat}{a:OA}{c:Nat}{N:List DR}{p:DR}{X:List Asn}(H:Hp [] w w0 (.own 133 6 a N.length c (drsC N)::X))(q:N.length<=100000000)(j:New w0 (.cells (drC p).toArray 133) b w1){G:OA->Nat->Nat->World->Prop}
  (k:∀a' c' d,Hp [] w d (.own 133 6 a' (N++[p]).length c' (drsC (N++[p]))::.blk b (drC p) 133::X)->G a' (N++[p]).length c' d):
  ∃a' g c' d,App PP #[27,27] 27 w1 (.slice a N.length c) (.slice (sP0 b) 1 1) (.slice a' g c') d/\G a' g c' d:=by
 have h:=(H.nw j).AX;refine Hp.app bER om h EQ4 (Blk.src bUR (h.blk m1) rfl rfl) (by simp only[maxLen];omega) om ?_;intro l m n i;have e:N.length+1=(N++[p]).length:=by rw[aF];rfl
 have o:drsC N++drC p=drsC (N++[p]):=by simp[drsC]
 rw[e,o]at i;rw[e];exact k l m n i
def Il(M:List DR)(less:Int):List DR:=M.map λp=>({p.1 with level:=p.1.level-less},p.2)
def rws_part(M:List DR)(b:Int):rws (Il M b)=GZ (rws M) b:=by simp[rws,Il,GZ]
def Qg(h:TrA f w a c M)(N:M.length<=1000000)(c':Nat)(d:Int)(D:∀q∈M,-1000000<=q.1.level/\q.1.level<=1000000)(O: -1000000<=d/\d<=1000000):
  CP 83 #[.slice a M.length c',I d] w λe w'=>∃l c2,e=eE0 (.slice l M.length c2)/\TrA f w' l c2 (Il M d)/\Hp [] w w' []:=by
 apply Jdw;have g:(Il M d).length=M.length:=aQ _;refine LoopP.mk (λm s w'=>∃(k:Nat)(n:OA)(c':Nat)(X:List Asn),m=M.length-k/\k<=M.length/\s=((n,((Il M d).take k).length,c'),(k:Int))/\Hp [] w w' (.own 133 6 n ((Il M d).take k).length c' (drsC ((Il M d).take k))::X)) M.length ⟨0,none,0,[],rfl,om,rfl,(Hp.start w).nilS 133 6⟩ ?_;rintro m s R next ⟨k,n,c',X,rfl,T,rfl,H⟩ i
 refine AB (λz=>?_) (λz=>?_)
 ·obtain⟨p,j⟩:∃p,M[k]? =some p:=⟨_,aB om⟩;have F:=D p (aG j);obtain⟨U,t,_,ld,_⟩:=(h.go H).ld j;refine AA t ⟨⟨om,z⟩,_,_,_,_,_,_,_,_,ld,?_⟩;intro b Y u;have G:=H.nw u;refine Hp.sA G bR6 (cs':=drC p) λZ A=>?_;refine⟨_,A.lo yInt,DC.2 (by dsimp only;omega),?_⟩;obtain⟨q,o⟩:∃q:DR,q=({p.1 with level:=p.1.level-d},p.2):=⟨_,rfl⟩;refine Hp.st A EQ4 yInt rfl rfl (by simp[drC,itC]) (cs':=drC q) (by rw[o];rfl) λw5 B=>?_;refine⟨_,_,_,_,_,_,_,_,B.loA bR6,λb2 w6 x=>?_⟩;have y:(Il M d)[k]? =some q:=by rw[Il,au,j,o];rfl
  have J:((Il M d).take k).length=k:=by rw[aI];omega
  refine qV (k:=k) (p:=q) B.AX om x ?_;intro l c2 w7 C;rw[<- take_snoc y]at C⊢;exact⟨iR,i (M.length-(k+1)) _ _ om ⟨k+1,l,c2,_,rfl,om,rfl,C⟩⟩
 ·have K:k=M.length:=om;subst K;rw[aV om]at H;have r:=H.BK (L:=[_]);rw[aV om,g];rw[g]at r;refine⟨n,c',rfl,TrA.own r (by rw[g];exact .head _) h.lt λp j=>?_,r.drop⟩;obtain⟨q,o,rfl⟩:=aT.1 j;exact(h.att q o).go r
def Zo{X:List Rw}{ss:List Sl3}(h:ss.length=X.length):rws (X.zip ss)=X:=List.map_fst_zip (by omega)
def zip_at{X:List Rw}{ss:List Sl3}{k:Nat}{r:Rw}{s:Sl3}(h:X[k]? =some r)(b:ss[k]? =some s):(X.zip ss)[k]? =some (r,s):=by
 rw[lY];exact⟨h,b⟩
def OL{K:OA}{n lc:Nat}{l:List It}{ss:List Sl3}(N:Bi f w K n l ss)(O:OA)(tn R:Nat)(nx more:Int)(lt:∀k∈f,k<w.heap.size)(hn:n<=1000000)(hl:∀x∈l,-1000000<=x.level/\x.level<=1000000)(hs: -1000000<=more/\more<=1000000)(hx:0<=nx/\nx<=2147483647):
  CP 203 #[tV O tn R nx,.slice K n lc,I more] w λe w'=>∃o c2,e=eE0 (.slice o n c2)/\TrA f w' o c2 ((Ak nx more l).zip ss)/\Hp [] w w' []:=by
 apply Jdt;have q:=N.now;have h1:=q.len;have h2:=q.ssl;obtain⟨Y,r⟩:∃Y,Y=(Ak nx more l).zip ss:=⟨_,rfl⟩;have y:Y.length=n:=by rw[r,nD,EY];omega
 rw[<- r];intro b w1 z;have H:=(Hp.start w).nw z;refine LoopP.mk (λm s w'=>∃(k:Nat)(t:OA)(u:Nat)(X:List Asn),m=n-k/\k<=n/\s=((t,(Y.take k).length,u),(k:Int))/\Hp [] w w' (.own 133 6 t (Y.take k).length u (drsC (Y.take k))::.blk b (tC O tn R nx) 29::X)) n ⟨0,none,0,[],rfl,om,rfl,H.nilS 133 6⟩ ?_;rintro m s w2 next ⟨k,t,u,X,rfl,T,rfl,H⟩ g
 refine AB (λU=>?_) (λU=>?_)
 ·obtain⟨x,s,d,h,_⟩:=q.at_ (k:=k) om;have aa:=hl x (aG d);obtain⟨ad,A,ld⟩:=(q.go H).some d h;refine AA A ⟨⟨om,U⟩,_,_,_,_,_,_,_,ld,?_⟩;intro b1 w3 B;have H2:=H.nw B;refine Hp.sA H2 Bo (cs':=itC x s) λw4 Z=>?_;refine⟨_,Z.lo yInt,iR,?_⟩;refine Hp.st Z EQ4 yInt rfl rfl (by simp[itC]) rfl λw5 C=>?_;refine⟨_,C.lo yInt,iR,_,_,_,_,_,_,_,C.loA Bo,λb2 w6 D=>?_⟩
  have F:Y[k]? =some (⟨nx+k,x.level+more,x.x⟩,s):=by
   rw[r];exact zip_at (by rw[Di,d];rfl) h
  have ab:(Y.take k).length=k:=by rw[aI];omega
  refine qV (k:=k) (p:=(⟨nx+k,x.level+more,x.x⟩,s)) C.AX om D ?_;intro o c2 w7 H5;rw[<- take_snoc F]at H5⊢;exact⟨iR,g (n-(k+1)) _ _ om ⟨k+1,o,c2,_,rfl,om,rfl,(H5.perm (EX [_,_,_] _ _)).AX⟩⟩
 ·have i:k=n:=om;subst i;rw[aV om]at H;rw[aV om,y];have G:=H.BK (L:=[_]);refine⟨t,u,rfl,TrA.own G (.head _) lt λp hp=>?_,G.drop⟩;obtain⟨j,i⟩:=ay hp;rw[r,lY,Di]at i;obtain⟨x,d,J⟩:=cZ.1 i.1;intro W hW;have:=(N.rd W (We G hW λk T=>.inl T)).attrs j x p.2 d i.2;rw[<- J];exact this
def JR(M:List DR)(n:Nat)(N:List DR):List DR:=M.take n++N++M.drop n
def Xn(M:List DR)(n:Nat)(N:List DR):rws (JR M n N)=J5 (rws M) n (rws N):=by simp[rws,JR,J5,ai,iC,jd]
def KI(A B:List DR):drsC (A++B)=drsC A++drsC B:=by simp[drsC]
def Lt{w0:World}{a:OA}{c:Nat}{N:List DR}{X:List Asn}(H:Hp [] w w0 (.own 133 6 a N.length c (drsC N)::X)){d:OA}{c1 c2 n:Nat}{K:List DR}(j:TrA f w0 d c1 K)(g:n=K.length)(o:N.length+K.length<=100000000){G:OA->Nat->Nat->World->Prop}
  (k:∀a' c' b,Hp [] w b (.own 133 6 a' (N++K).length c' (drsC (N++K))::X)->G a' (N++K).length c' b):
  ∃a' h c' b,App PP #[27,27] 27 w0 (.slice a N.length c) (.slice d n c2) (.slice a' h c') b/\G a' h c' b:=by
 refine Hp.app bER om H ⟨rfl,rfl,rfl,rfl⟩ (j.src n g c2) (by simp only[maxLen];omega) om ?_;intro l c2 m i;have e:N.length+n=(N++K).length:=by rw[aF,g]
 rw[e,<- KI]at i;rw[e];exact k l c2 m i
def P5(h:TrA f w a c M)(C:M.length<=1000000)(nx:Int){n:Nat}(x:n<=M.length){q:OA}{c1 c2:Nat}{N:List DR}(r:TrA f w q c1 N)(y:N.length<=1000000):
  CP 207 #[tV a M.length c nx,I (n:Int),.slice q N.length c2] w λe w'=>∃a' c',e=eE0 (tV a' (JR M n N).length c' nx)/\TrA f w' a' c' (JR M n N)/\Hp [] w w' []:=by
 apply Jdp;intro b D j F G l;have H:=(((Hp.start w).nw j).nw l).nilS 133 6;have s:=h.cap;refine⟨_,_,_,H.lo bSR,⟨om,om⟩,?_⟩;refine Lt (N:=[]) H ((h.go H).take n) (by rw[aI];omega) (by rw[aI];simp;omega) ?_;intro J K O m;rw[aN]at m⊢;refine Lt m (r.go m) rfl (by rw[aI];omega) ?_;intro R T U o;refine⟨_,_,_,o.lo bSR,⟨om,om⟩,?_⟩;have t:=(h.go o).sub (i:=n) (aZ _);rw[bK]at t;rw[aJ];refine Lt o t (by rw[cO]) (by rw[aF,aI,cO];omega) ?_;intro z A X B;refine Hp.st (B.Am) EQ4 bSR rfl rfl (by simp[tC]) rfl λY u=>?_;refine⟨_,_,_,_,u.loA bT2,?_⟩;refine Hp.stA u.Am EQ4 bT2 rfl rfl (by simp[tC]) rfl λZ g=>?_;refine⟨_,_,_,_,g.loA bT2,?_⟩;refine⟨z,A,rfl,TrA.own g m2 h.lt λp d=>?_,g.done⟩;rcases aW.1 d with d|d
 ·rcases aW.1 d with d|d
  ·exact(h.att p (dN d)).go g
  ·exact(r.att p d).go g
 ·exact(h.att p (eU d)).go g
def JM(M:List DR)(k:Nat):List DR:=M.take k++M.drop (endR (rws M) k)
def QI(M:List DR)(k:Nat):rws (JM M k)=BR (rws M) k:=by simp[rws,JM,BR,ai,iC,jd]
def KE(h:TrA f w a c M)(s:M.length<=1000000)(nx:Int){k:Nat}{p:DR}(d:M[k]? =some p):
  CP 209 #[tV a M.length c nx,I (k:Int)] w λe w'=>∃a' c',e=eE0 (tV a' (JM M k).length c' nx)/\TrA f w' a' c' (JM M k)/\Hp [] w w' []:=by
 apply Jd5;intro b B l C D m;have H:=(((Hp.start w).nw l).nw m).nilS 133 6;have o:=h.cap;have t:=(aA.1 d).1;obtain⟨F,u⟩:=Qu (Jq d);rw[aQ]at u;refine⟨_,_,_,H.lo bSR,⟨om,om⟩,?_⟩;refine Lt (N:=[]) H ((h.go H).take k) (by rw[aI];omega) (by rw[aI];simp;omega) ?_;intro G J K g;rw[aN]at g⊢;refine⟨_,_,_,g.lo bSR,_,_,_,_,g.loA bT2,AC (F5 (h.go g.drew) s nx d) ?_⟩;rintro _ O ⟨rfl,x⟩;have n:=g.drew.ext0 x;refine⟨_,rfl,n.lo bSR,⟨om,om⟩,?_⟩;have q:=(h.go n).sub (i:=endR (rws M) k) (aZ _);rw[bK]at q;rw[aJ];refine Lt n q (by rw[cO]) (by rw[aI,cO];omega) ?_;intro y z R A;refine Hp.st (A.Am) EQ4 bSR rfl rfl (by simp[tC]) rfl λT r=>?_;refine⟨_,_,_,_,r.loA bT2,?_⟩;refine Hp.stA r.Am EQ4 bT2 rfl rfl (by simp[tC]) rfl λU j=>?_;refine⟨_,_,_,_,j.loA bT2,?_⟩;refine⟨y,z,rfl,TrA.own j m2 h.lt λp d=>?_,j.done⟩;rcases aW.1 d with d|d
 ·exact(h.att p (dN d)).go j
 ·exact(h.att p (eU d)).go j
theorem ZG{L:List Rw}{k:Nat}{r:Rw}(h:L[k]? =some r)(n:Nat):k<Gh L k n/\Gh L k n<=L.length:=by
 have b:=Qu h;rw[Gh,dG];cases hk:(D5 L k)[n]? with
 |none=>exact b
 |some j=>have:=kids_in h hk;rw[fB];omega
def QJ(h:TrA f w a c M)(l:M.length<=1000000)(nx:Int){k:Nat}{p:DR}(m:M[k]? =some p)(t:∀q∈M,-1000000<=q.1.level/\q.1.level<=1000000)(n:Int)(u:0<=n):
  CP 208 #[tV a M.length c nx,I (k:Int),I n] w λe w'=>e=eE0 (I (Gh (rws M) k n.toNat:Int))/\Hp [] w w' []:=by
 apply Jd2;intro b x g;have H:=(Hp.start w).nw g;refine⟨_,_,_,_,H.loA bT2,AC (KZ (h.go H) l nx m t) ?_⟩;rintro _ y ⟨z,A,rfl,i⟩;replace H:=H.ext1 i;refine⟨_,_,_,rfl,AB (λo=>?_) (λo=>?_)⟩
 ·obtain⟨j,r⟩:∃j,(D5 (rws M) k)[n.toNat]? =some j:=⟨_,aB om⟩;have s:(AO (natI (D5 (rws M) k)))[n.toNat]? =some (I (j:Int)):=by rw[AO,au,au,r];rfl
  obtain⟨B,d,_⟩:=(H.ownA (.head _)).cells _ _ s;refine AA d ⟨⟨u,o⟩,_,by rw[bT];exact(H.ownA (.head _)).cells.ld yInt d s,?_,H.done⟩;rw[Gh,dG,r];rfl
 ·refine⟨_,_,_,_,H.loA bT2,AC (F5 (h.go H) l nx m) ?_⟩;rintro _ C ⟨rfl,i⟩;refine⟨_,rfl,?_,(H.ext0 i).done⟩;rw[Gh,dG,bF om];rfl
end
noncomputable section
open Go Go.Vc Go.Nod
variable{f:List Nat}{w w':World}{a:Option Addr}{c:Nat}{M:List DR}{L:List Asn}
def QK(s:ByteArray)(i:s.size<=2000000)(w:World):CP 211 #[.string s] w λe w'=>e=eE0 (I (BD s))/\Hp [] w w' []:=by
 apply Jd3;refine AC (QB s i w) ?_;rintro e j ⟨⟨z,rfl,d⟩,H⟩;refine⟨_,rfl,AB (λh=>⟨by rw[BD,if_pos (d.1 h)],H⟩) (λh=>?_)⟩;have g:¬¬TZ s:=λb=>h (d.2 b);exact AB (λb=>⟨by rw[BD,if_neg g,if_pos om],H⟩) (λb=>⟨by rw[BD,if_neg g,if_neg om],H⟩)
def rgDeepest_spec{n lc:Nat}{l:List It}{ss:List Sl3}(d:ItR w a n l ss)(r:n<=140737488355328):CP 206 #[.slice a n lc] w λe w'=>e=eE0 (I (deepest l))/\Hp [] w w' []:=by
 apply Jdf;have h:=d.len;refine LoopP.mk (λm s w'=>∃k:Nat,m=n-k/\k<=n/\s=(deepest (l.take k),(k:Int))/\w'=w) n ⟨0,rfl,om,rfl,rfl⟩ ?_;rintro m s t next ⟨k,rfl,u,rfl,q⟩ b
 obtain rfl:=q.symm;refine AB (λi=>?_) (λi=>⟨by rw[aV om],Hp.start w⟩);obtain⟨x,s,g,o,_⟩:=d.at_ (k:=k) om;obtain⟨y,p,_⟩:=d.some g o;refine AA p ⟨⟨om,i⟩,_,d.ld g o p yInt (j:=0) rfl,iR,b (n-(k+1)) _ _ om ⟨k+1,rfl,om,?_,rfl⟩⟩;rw[take_snoc g];show _=(JL 0 (l.take k++[x]),_);rw[MW];rfl
theorem rgForest_spec{n lc:Nat}{l:List It}{ss:List Sl3}(Z:ItR w a n l ss)(hn:n<=maxLen)(G:∀s∈ss,s.2.1<=maxLen)(hf:∀x∈l,FitX x.x):CP 205 #[.slice a n lc] w λe w'=>e=eE0 (I (CS l))/\Hp [] w w' []:=by
 apply Jdl;have r:=Z.len;simp only[maxLen]at hn;refine AB (λh=>⟨?_,Hp.start w⟩) (λh=>?_)
 ·have:l=[]:=bC om;rw[CS,if_pos this]
 have K:l≠[]:=λe=>h (by rw[r,e];rfl);rw[CS,if_neg K];refine LoopP.mk (λm s w'=>∃(k:Nat)(p:Option It),m=n-k/\k<=n/\s=(k:Int)/\DK p (l.drop k)=DK none l/\(k=0->p=none)/\(0<k->p=l[k-1]?)/\(∀y,p=some y->0<=y.level/\y.level<=k)/\Hp [] w w' []) n ⟨0,none,rfl,om,rfl,rfl,λ_=>rfl,om,λy h=>(by cases h),Hp.start w⟩ ?_;rintro m s w1 next ⟨k,p,rfl,hk,rfl,b,N,O,u,H⟩ g
 refine AB (λF=>?_) (λF=>?_);rotate_left
 ·rw[gV om,DK]at b;exact⟨by rw[<- b],H⟩
 have q:=Z.go H;obtain⟨x,s,z,R,T⟩:=q.at_ (k:=k) om;have A:=(aA.1 z);obtain⟨ad,d,U⟩:=q.some z R;have l0:=q.ld z R d yInt (j:=0) rfl;rw[bQ A.1,A.2,DK]at b;refine JoinP.mk (λt w'=>t=Gs p/\w'=w1) ?_ ?_
 ·rintro t w2 ⟨rfl,hw⟩;obtain rfl:=hw.symm;refine AA d ⟨⟨om,F⟩,_,l0,AB (λB=>⟨by rw[<- b,if_pos (.inl B)],H⟩) (λB=>AA d ⟨⟨om,F⟩,_,l0,AB (λi=>⟨by rw[<- b,if_pos (.inr i)],H⟩) (λi=>?_)⟩)⟩;rw[if_neg (λh=>h.elim B i)]at b;refine AA d ⟨⟨om,F⟩,_,_,_,_,_,_,_,U,AC (P7 x.level x.x s.1 s.2.1 s.2.2 _ T (G s (aG R)) (hf x (aG z))) ?_⟩;rintro _ w3 ⟨rfl,H'⟩;refine⟨_,rfl,AQ (λX=>⟨by rw[<- b,if_neg X],H.ext0 H'⟩) (λX=>⟨iR,g (n-(k+1)) _ _ om ⟨k+1,some x,rfl,om,rfl,by rw[if_pos X]at b;exact b,om,λ_=>by rw[iW,z],λy C=>?_,H.ext0 H'⟩⟩)⟩;cases C
  have ht:Gs p<=(k:Int)+1:=by
   cases hq:p with
   |none=>show(0:Int)<=_;omega
   |some y=>
    have:=u y hq;show(if y.x.kind=2 then y.level else y.level+1)<=_;split<;>omega
  omega
 ·intro J Y;refine AB (λB=>?_) (λB=>Y _ _ ⟨by rw[N om];rfl,rfl⟩);obtain⟨y,sy,C,D,_⟩:=q.at_ (k:=k-1) om;have o:p=some y:=by rw[O om,C]
  have aa:=u y o;have e1:((k:Int)-1).toNat=k-1:=om;refine⟨iR,AA d ⟨⟨om,om⟩,_,by rw[e1];exact q.ld C D d yInt (j:=0) rfl,iR,AA d ⟨⟨om,om⟩,_,by rw[e1,add_add];exact q.ld C D d yInt rfl,AQ (λi=>⟨iR,Y _ _ ⟨?_,rfl⟩⟩) (λi=>Y _ _ ⟨?_,rfl⟩)⟩⟩⟩
  ·rw[o];exact(if_neg i).symm
  ·rw[o];exact(if_pos i).symm
def WH{w0 w1:World}{b:Nat}{a:OA}{c:Nat}{N:List At}{p:At}{X:List Asn}(H:Hp [] w w0 (.own 142 2 a N.length c (atC N)::X))(o:N.length<=100000000){d:World}(e:Eqw w0 d)(j:New d (.cells #[.string p.1,.string p.2] 142) b w1){G:OA->Nat->Nat->World->Prop}
  (k:∀a' c' d,Hp [] w d (.own 142 2 a' (N++[p]).length c' (atC (N++[p]))::.blk b [.string p.1,.string p.2] 142::X)->G a' (N++[p]).length c' d):
  ∃a' g c' d,App PP #[69,69] 69 w1 (.slice a N.length c) (.slice (sP0 b) 1 1) (.slice a' g c') d/\G a' g c' d:=by
 have h:=(H.new e j).AX;refine Hp.app qg om h EQ4 (Blk.src pz (h.blk m1) rfl rfl) (by simp only[maxLen];omega) om ?_;intro l m n i;have e:N.length+1=(N++[p]).length:=by rw[aF];rfl
 rw[e,show [Value.string p.1,.string p.2]=atC [p]from rfl,<- Fz]at i;rw[e];exact k l m n i
def rgLess_spec{n lc:Nat}{l:List At}(o:AtR w a n l)(F:n<=1000000)(d:ByteArray):
  CP 214 #[.slice a n lc,.string d] w λe w'=>∃a' c',e=eE0 (.slice a' (BP l d).length c')/\Hp [] w w' [.own 142 2 a' (BP l d).length c' (atC (BP l d))]:=by
 apply Jdq;have u:=o.len;refine LoopP.mk (λm s w'=>∃(k:Nat)(a':OA)(c':Nat)(X:List Asn),m=n-k/\k<=n/\s=((a',(BP (l.take k) d).length,c'),(k:Int))/\Hp [] w w' (.own 142 2 a' (BP (l.take k) d).length c' (atC (BP (l.take k) d))::X)) n ⟨0,none,0,[],rfl,om,rfl,(Hp.start w).nilS 142 2⟩ ?_;rintro m s G next ⟨k,a',c',X,rfl,x,rfl,H⟩ g
 refine AB (λq=>?_) (λq=>?_);rotate_left
 ·have x:k=n:=om;subst x;rw[aV om]at H⊢;exact⟨_,_,rfl,H.BK (L:=[_])⟩
 obtain⟨p,r⟩:∃p,l[k]? =some p:=⟨_,aB om⟩;obtain⟨J,h,A,_⟩:=(o.go H).ld r;have i:BP (l.take (k+1)) d=BP (l.take k) d++BP [p] d:=by rw[take_snoc r,BP,gJ];rfl
 refine AA h ⟨⟨om,q⟩,_,A,AQ (λj=>AA h ⟨⟨om,q⟩,_,_,(o.go H).cells.ldA EK h (F6 r) rfl,λb K t=>?_⟩) (λj=>⟨iR,g (n-(k+1)) _ _ om ⟨k+1,a',c',X,rfl,om,?_,?_⟩⟩)⟩
 ·have B:(BP (l.take k) d).length<=k:=by
   have:=jH (λy:At=> !decide (y.1=d)) (l.take k);rw[aI]at this;show(List.filter _ _).length<=k;omega
  refine WH H om EQ4 t ?_;intro C D N z;have e:BP (l.take k) d++[p]=BP (l.take (k+1)) d:=by rw[i,BP,BP,dL,if_pos (by simpa using j)];rfl
  rw[e]at z⊢;exact⟨iR,g (n-(k+1)) _ _ om ⟨k+1,C,D,_,rfl,om,rfl,z⟩⟩
 ·rw[i,BP,BP,dL,if_neg (by simpa using j)];simp[BP]
 ·rw[i,show BP [p] d=[] by rw[BP,dL,if_neg (by simpa using j)];rfl,aU];exact H
def ZH(at_:At):Bool->List At->List At
 |true,l=>BP l at_.1
 |false,l=>CQ l at_
theorem rgWith_spec{n lc:Nat}{l:List At}(Z:AtR w a n l)(hn:n<=1000000)(x:At):
  CP 212 #[.slice a n lc,.agg #[.string x.1,.string x.2]] w λe w'=>∃a' c',e=eE0 (.slice a' (CQ l x).length c')/\Hp [] w w' [.own 142 2 a' (CQ l x).length c' (atC (CQ l x))]:=by
 obtain⟨i,r⟩:=x;apply Jd4;obtain⟨x,G⟩:∃x:At,x=(i,r):=⟨_,rfl⟩;have j:x.1=i:=by rw[G]
 have ab:=Z.len;intro b w1 aa;have H:=(Hp.start w).nw aa;rw[<- G];refine LoopP.mk (λm s w'=>∃(k:Nat)(N:List At)(d:Bool)(a':OA)(c':Nat)(X:List Asn),m=n-k/\k<=n/\s=((a',N.length,c'),d,(k:Int))/\N.length<=2*k/\CQ l x=N++ZH x d (l.drop k)/\Hp [] w w' (.own 142 2 a' N.length c' (atC N)::.blk b [.string i,.string r] 142::X)) n ⟨0,[],false,none,0,[],rfl,om,rfl,by simp,rfl,H.nilS 142 2⟩ ?_;rintro m s w1 next ⟨k,N,d,a',c',X,rfl,hk,rfl,ac,u,H⟩ y
 dsimp only;have sN:∀{w:World}{L:List Asn},Hp [] w w L->True:=λ_=>trivial;refine AB (λK=>?_) (λK=>?_);rotate_left
 ·rw[gV om]at u;refine Ec (λg=>?_) (λg=>?_)
  ·rw[g]at u;refine⟨_,_,H.loA EK,λO w2 o=>?_⟩;refine WH (p:=(i,r)) H om EQ4 o ?_;intro R T w3 z;have e:N++[(i,r)]=CQ l x:=by rw[u,<- G];rfl
   rw[e]at z⊢;exact⟨_,_,rfl,z.BK (L:=[_])⟩
  ·rw[g,show ZH x true []=[]from rfl,aU]at u;rw[u];exact⟨_,_,rfl,H.BK (L:=[_])⟩
 obtain⟨p,U⟩:∃p,l[k]? =some p:=⟨_,aB om⟩;have B:=aA.1 U;rw[bQ B.1,B.2]at u;refine JoinP.mk (λ(s:(OA×Nat×Nat)×Bool) w'=>∃(N:List At)(a':OA)(c':Nat)(X:List Asn),s=((a',N.length,c'),s.2)/\N.length<=2*(k+1)/\CQ l x=N++ZH x s.2 (l.drop (k+1))/\Hp [] w w' (.own 142 2 a' N.length c' (atC N)::.blk b [.string i,.string r] 142::X)) ?_ ?_
 ·rintro⟨s1,d⟩ w4 ⟨N,a',c',X,hs,Y,A,g3⟩;cases hs;exact⟨iR,y (n-(k+1)) _ _ om ⟨k+1,N,d,a',c',X,rfl,om,rfl,Y,A,g3⟩⟩
 intro J hJ;refine JoinP.mk (λ(s:(OA×Nat×Nat)×Bool) w'=>∃(N:List At)(a':OA)(c':Nat)(X:List Asn),s=((a',N.length,c'),s.2)/\N.length<=2*k+1/\CQ l x=N++(BP [p] x.1++ZH x s.2 (l.drop (k+1)))/\Hp [] w w' (.own 142 2 a' N.length c' (atC N)::.blk b [.string i,.string r] 142::X)) ?_ ?_
 ·rintro⟨s1,d⟩ w4 ⟨N,a',c',X,hs,Y,A,H⟩;cases hs;have C:=Z.go H.drew;obtain⟨ad,q,l1,_⟩:=C.ld U;refine AA q ⟨⟨om,K⟩,_,l1,_,H.lo yStr,AQ (λg=>AA q ⟨⟨om,K⟩,_,_,C.cells.ldA EK q (F6 U) rfl,λO w2 o=>?_⟩) (λg=>hJ _ _ ⟨N,a',c',X,rfl,om,?_,H.drew⟩)⟩
  ·refine WH H om EQ4 o ?_;intro R T w3 z;refine hJ _ _ ⟨N++[p],R,T,.blk O [.string p.1,.string p.2] 142::X,rfl,by rw[aF,fV];omega,?_,z.perm (EX [_,_] _ _ |>.trans ((List.Perm.swap _ _ _)))⟩;rw[A,BP,dL,if_pos (by rw[j];simpa using g)];simp
  ·rw[A,BP,dL,if_neg (by rw[j];simpa using g)];simp
 intro J2 D;refine JoinP.mk (λ(s:Bool) w'=>(s=true->d=false/\¬ltB p.1 i)/\(s=false->d=true\/ltB p.1 i)/\Hp [] w w' (.own 142 2 a' N.length c' (atC N)::.blk b [.string i,.string r] 142::X)) ?_ ?_
 ·rintro s w4 ⟨Y,A,H⟩;refine Dp (λg=>?_) (λg=>?_)
  ·obtain⟨rfl,t⟩:=Y g;refine⟨_,_,H.loA EK,λO w2 o=>?_⟩;refine WH (p:=(i,r)) H om EQ4 o ?_;intro R T w3 z;refine D _ _ ⟨N++[(i,r)],R,T,.blk O [.string i,.string r] 142::X,rfl,by rw[aF,fV];omega,?_,z.perm (EX [_,_] _ _ |>.trans ((List.Perm.swap _ _ _)))⟩;rw[u,<- G];show N++CQ (p::l.drop (k+1)) x=N++[x]++(BP [p] x.1++BP (l.drop (k+1)) x.1);rw[CQ,if_neg (by rw[j];exact t),BP,BP,<- gJ];simp
  ·refine D _ _ ⟨N,a',c',X,rfl,om,?_,H⟩;rw[u];congr 1;cases d with
   |true=>show BP (p::_) _=BP [p] _++BP _ _;rw[BP,BP,BP,<- gJ];rfl
   |false=>
    have t:=(A g).resolve_left (by simp);show CQ (p::_) _=BP [p] _++CQ _ _;rw[CQ,if_pos (by rw[j];exact t),BP,dL,if_pos (by rw[j];simp;intro e;rw[e]at t;exact EI _ t)];rfl
 intro J3 F;refine Ec (λg=>?_) (λg=>F _ _ ⟨λh=>(by cases h),λ_=>.inl g,H.drew⟩);obtain⟨ad,q,l1,_⟩:=(Z.go H.drew).ld U;refine AA q ⟨⟨om,K⟩,_,l1,_,H.lo yStr,F _ _ ⟨λh=>⟨g,λt=>?_⟩,λh=>.inr ?_,H.drew⟩⟩
 ·rw[Go.Proofs.bytesLess_eq]at h;simp only[kN,decide_eq_false_iff_not]at h;exact h t
 ·rw[Go.Proofs.bytesLess_eq]at h;exact az λt=>by rw[decide_eq_false (show¬(p.1.data.toList<i.data.toList)from t)]at h;cases h
def setD(M:List DR)(k:Nat)(p:DR)(x:NX)(s:Sl3):List DR:=M.set k ({p.1 with x:=x},s)
def rws_set(M:List DR)(k:Nat)(p:DR)(x:NX)(s:Sl3):rws (setD M k p x s)=setR (rws M) k p.1 x:=by simp[rws,setD,setR,oZ]
def rgSet_spec(h:TrA f w a c M)(hn:M.length<=1000000)(nx:Int){k:Nat}{p:DR}(l:M[k]? =some p)(x:NX)(s:Sl3)(D:AtA f w ({p.1 with x:=x},s)):
  CP 213 #[tV a M.length c nx,I (k:Int),.agg (itC ⟨p.1.level,x⟩ s).toArray] w λe w'=>∃a' c',e=eE0 (tV a' (setD M k p x s).length c' nx)/\TrA f w' a' c' (setD M k p x s)/\Hp [] w w' []:=by
 apply Jdz;intro b w1 m F w2 n G w3 o y J r;have z:=((((Hp.start w).nw m).nw n).nw o).nw r;have H:Hp [] w J (.own 133 6 (sP0 y) ([]:List DR).length 0 (drsC [])::.blk G (tC none 0 0 0) 29::.blk F (itC ⟨p.1.level,x⟩ s) 123::.blk b (tC a M.length c nx) 29::[]):=z.set (Chg.refl _ _) ⟨rfl,.inr ⟨y,#[],(0,0),rfl,bY _,z.blk (.head _),Thaw.zero _,aZ _,bY _,by simp,rfl⟩⟩ (λk K=>.inl K);have d:=(aA.1 l).1;refine⟨_,_,_,H.lo bSR,?_⟩;refine Lt H (h.go H) rfl (by simp;omega) ?_;intro N O w5 j;rw[aN]at j⊢;have A:(setD M k p x s).length=M.length:=by rw[setD,bV]
 obtain⟨ad,g,_⟩:=(j.ownA (.head _)).cells (k*6) (I p.1.id) (by
  have R:=Z5 OD l;have:(((drsC M).drop (k*6)).take 6)[0]? =some (I p.1.id):=by rw[drsC,R];rfl
  rw[bn om,eF]at this;exact this)
 refine⟨_,_,_,_,_,_,_,j.loA Bo,AA g ⟨⟨om,om⟩,?_⟩⟩;rw[aJ,add_add]
 have t:over (itC ⟨p.1.level,x⟩ s) (k*6+1) (drsC M)=drsC (setD M k p x s):=by
  have T:M=M.take k++p::M.drop (k+1):=by
   have:=bz k M;rw[bQ d,(aA.1 l).2]at this;exact this.symm
  have U:(M.take k).length=k:=by rw[aI];omega
  have X:setD M k p x s=M.take k++({p.1 with x:=x},s)::M.drop (k+1):=by
   rw[setD,kK,if_pos d]
  have Y:drsC M=(drsC (M.take k)++[I p.1.id])++(itC ⟨p.1.level,p.1.x⟩ p.2++drsC (M.drop (k+1))):=by
   conv=>lhs;rw[T]
   rw[KI];simp[drsC,drC]
  have Z:drsC (setD M k p x s)=(drsC (M.take k)++[I p.1.id])++(itC ⟨p.1.level,x⟩ s++drsC (M.drop (k+1))):=by
   rw[X,KI];simp[drsC,drC]
  have e5:k*6+1=(drsC (M.take k)++[I p.1.id]).length:=by rw[aF,OB,U];rfl
  rw[Y,Z,e5];exact Ey _ _ _ _ rfl
 refine Hp.stO (v:=.agg (itC ⟨p.1.level,x⟩ s).toArray) (xs':=drsC (setD M k p x s)) j EQ4 g Bo.size rfl (by rw[OB];show k*6+1+5<=_;omega) t λw6 B=>?_;rw[<- A]at B;rw[<- A];refine Hp.st (B.EQ) EQ4 bSR rfl rfl (by simp[tC]) rfl λw7 C=>?_;refine⟨_,_,_,_,C.loA bT2,?_⟩;refine Hp.stA (C.Am) EQ4 bT2 rfl rfl (by simp[tC]) rfl λw8 i=>?_;refine⟨_,_,_,_,i.loA bT2,N,O,rfl,TrA.own i m2 h.lt λq u=>?_,i.done⟩;rcases fM u with u|rfl
 ·exact(h.att q u).go i
 ·exact D.go i
end
noncomputable section
open Go Go.Vc Go.Nod
variable{f:List Nat}{w w':World}{a:Option Addr}{c:Nat}{M:List DR}{L:List Asn}
theorem giv{B:LN0}{w1:World}{b1:Nat}{cs:LV}{n:Nat}{nx:Int}{G:WP}(H:Hp B w w1 (.blk b1 cs 29::L))(d:cs.length=2)(k:∀b,Chg [b1] w1 b->Hp B w b (.blk b1 (tC a n c nx) 29::L)->G b):∃b,St PP 29 w1 ⟨b1,0,none⟩ (tV a n c nx) b/\G b:=by
 have g:Hp [b1] w1 w1 [.blk b1 cs 29]:=Hp.Gn (H.ok _ (.head _))
 refine Hp.stA g EQ4 bT2 rfl rfl (by rw[d];exact aZ _) (by
  match cs,d with
  | [x,y],_=>rfl) λb e=>k b e.chg (H.Ba e)
def give{B:LN0}{w1:World}{b1:Nat}{cs:LV}{n:Nat}{nx:Int}{G:OA->Nat->Nat->Int->World->Prop}(H:Hp B w w1 (.blk b1 cs 29::L))(d:cs.length=2)(k:∀b,Chg [b1] w1 b->Hp B w b []->G a n c nx b):
  ∃b,St PP 29 w1 ⟨b1,0,none⟩ (tV a n c nx) b/\∃a' e c' g,Ld PP 29 b ⟨b1,0,none⟩ (.agg #[.slice a' e c',I g])/\G a' e c' g b:=
 giv H d λb i h=>⟨_,_,_,_,h.loA bT2,k b i h.done⟩
def back{B:LN0}{w1:World}{b b1:Nat}{cs:LV}{n:Nat}{nx:Int}{G:OA->Nat->Nat->Int->World->Prop}(H:Hp B w w1 (.blk b1 cs 29::L))(m:Asn.blk b (tC a n c nx) 29∈L)(h:cs.length=2)(k:∀d,Hp B w d []->G a n c nx d):
  ∃a' e c' g,Ld PP 29 w1 ⟨b,0,none⟩ (.agg #[.slice a' e c',I g])/\∃d,St PP 29 w1 ⟨b1,0,none⟩ (.agg #[.slice a' e c',I g]) d/\∃a' e c' g,Ld PP 29 d ⟨b1,0,none⟩ (.agg #[.slice a' e c',I g])/\G a' e c' g d:=
 ⟨_,_,_,_,H.ldA EQ4 bT2 (.tail _ m) rfl rfl,give H h λd _ i=>k d i⟩
def OutT(f:LN0)(w:World)(T:Tr)(K:Value->Ending)(e:Ending)(w':World):Prop:=
 ∃(a':OA)(c':Nat)(M':List DR),e=K (tV a' M'.length c' T.next)/\rws M'=T.L/\TrA f w' a' c' M'/\Hp [] w w' []
def K2(z:Int)(t:Value):Ending:=eE0 (.tuple #[t,I z])
def K3(i z:Int)(t:Value):Ending:=eE0 (.tuple #[t,I i,I z])
structure TrG(M:List DR)(nx:Int):Prop where
 len:M.length<=1000
 lev:∀q∈M,0<=q.1.level/\q.1.level<40
 next:1<=nx/\nx<=2147483647
def TrG.wide{nx:Int}(g:TrG M nx):∀q∈M,-1000000<=q.1.level/\q.1.level<=1000000:=λq b=>by have:=g.lev q b;omega
def OutT.same(h:TrA f w a c M){nx:Int}{b:World}(H:Hp [] w b [])(K:Value->Ending){T:Tr}(d:T=⟨rws M,nx⟩):OutT f w T K (K (tV a M.length c nx)) b:=by
 subst d;exact⟨a,c,M,rfl,rfl,h.go H,H⟩
theorem deep_len{l:List It}(h:CS l=0):0<=deepest l/\deepest l<=l.length:=by
 have j:l≠[]:=λe=>by rw[CS,if_pos e]at h;cases h
 refine⟨(Ns l 0).1,?_⟩
 have b:∀x∈l,x.level<=l.length:=λx g=>by
  have s:DK none l=0:=by rw[CS,if_neg j]at h;exact h
  have:=HY l none 0 s (iQ _) x g;omega
 have o:∀(i:List It)(d m:Int),d<=m->(∀x∈i,x.level<=m)->JL d i<=m:=by
  intro i
  induction i with
  |nil=>intro d m q _;exact q
  |cons y r t=>
   intro d m q g;have:=g y (.head _);exact t (max d y.level) m om λx p=>g x (.tail _ p)
 exact o l 0 _ om b
section
variable{la:Option Addr}{n lc:Nat}{l:List It}{ss:List Sl3}{nx:Int}
def rgLoad_spec(h:TrA f w a c M)(g:TrG M nx)(e:Bi f w la n l ss)(N:∀x∈l,FitX x.x/\x.level<=9223372036854775807)(hn:n<=140737488355328):
  CP 139 #[tV a M.length c nx,.slice la n lc] w (OutT f w (Tr.load ⟨rws M,nx⟩ l).1 (K3 (Tr.load ⟨rws M,nx⟩ l).2.1 (Tr.load ⟨rws M,nx⟩ l).2.2)):=by
 apply Jdr;intro b w1 q F O r;have H:=((Hp.start w).nw q).nw r;have i:=e.now.len;have s:=g.next;refine AC (rCheck_spec la n lc l ss O (e.now.go H) e.len e.sls N) ?_;rintro _ w3 ⟨rfl,t⟩;replace H:=H.ext0 t;refine⟨_,_,rfl,AQ (λo=>?_) (λo=>?_)⟩
 ·refine back H (.head _) rfl λG u=>?_;rw[Tr.load,if_pos o];exact OutT.same h u _ rfl
 have j:¬(DU l).2≠0:=λy=>y o;refine⟨_,H.lo yInt,iR,AB (λy=>?_) (λy=>?_)⟩
 ·refine back H (.head _) rfl λG u=>?_;rw[Tr.load,if_neg j,if_pos (by dsimp only;omega)];exact OutT.same h u _ rfl
 have z:¬2147483647<nx+(l.length:Int):=om;obtain⟨R,d,T⟩:=NU o s.1 om
 have U:l.length<=1000:=by
  have:=d.len;rw[EY]at this;exact this
 have m:∀x∈l,-1000000<=x.level/\x.level<=1000000:=λx X=>by
  obtain⟨k,Y⟩:=ay X;have J:(Ak nx 0 l)[k]? =some ⟨nx+k,x.level+0,x.x⟩:=by rw[Di,Y];rfl
  have A:=d.deep _ (aG J);have B:=Be R 0 ⟨nx+k,x.level+0,x.x⟩ (by rw[d.fl];exact aG J);dsimp only at A B;omega
 have p:∀{w':World},Hp [] w w' [.blk F (tC none 0 0 0) 29,.blk b (tC a M.length c nx) 29]->Ld PP 3 w' ⟨b,1,none⟩ (I nx):=λH=>H.lo yInt;refine⟨_,_,_,_,H.loA bT2,_,p H.drew,iR,_,p H.drew,AC (OL (e.mv2 H.drew (by simp[feet,Asn.foot])) a M.length c nx 0 (h.mv H.drew (S:=[F]) (by simp[feet,Asn.foot])).lt om m om om) ?_⟩;rintro _ G ⟨Z,c2,rfl,hT,t⟩;replace H:=H.drew.ext0 t;have K:=e.now.ssl;have C:((Ak nx 0 l).zip ss).length=n:=by rw[nD,EY];omega
 refine⟨_,_,_,rfl,p H,p H,giv H rfl λw5 hc D=>⟨D.lo yInt,_,_,_,_,D.loA bT2,?_⟩⟩;rw[Tr.load,if_neg j,if_neg om];exact⟨Z,c2,_,by rw[C,i];rfl,Zo (by rw[EY];omega),hT.back hc,D.done⟩
def rgDelete_spec(h:TrA f w a c M)(g:TrG M nx)(id:Int):
  CP 141 #[tV a M.length c nx,I id] w (OutT f w (Tr.delete ⟨rws M,nx⟩ id).1 (K2 (Tr.delete ⟨rws M,nx⟩ id).2)):=by
 apply Jdh;intro b C e q D i;have H:=((Hp.start w).nw e).nw i;have F:=g.len;refine⟨_,_,_,_,H.loA bT2,AC (Dk (h.go H) om nx id) ?_⟩;rintro _ G ⟨⟨z,rfl,r⟩,j⟩;replace H:=H.ext0 j;rcases r with⟨_,d,rfl⟩|⟨k,p,s,_,_,d,rfl⟩
 ·refine⟨_,rfl,AB (λ_=>back H (.head _) rfl λo m=>?_) (λh=>by omega)⟩;rw[Tr.delete,d];exact OutT.same h m _ rfl
 refine⟨_,rfl,AB (λh=>by omega) (λ_=>AB (λt=>back H (.head _) rfl λo m=>?_) (λt=>⟨_,_,_,_,H.loA bT2,AC (KE (h.mv H (S:=[q]) (by simp[feet,Asn.foot])) om nx s) ?_⟩))⟩
 ·rw[Tr.delete,d];dsimp only;rw[if_pos om];exact OutT.same h m _ rfl
 rintro _ o ⟨u,x,rfl,y,j⟩;refine⟨_,_,_,_,rfl,give (H.ext0 j) rfl λJ A B=>?_⟩;rw[Tr.delete,d];dsimp only;rw[if_neg om];exact⟨u,x,_,rfl,QI M k,y.back A,B⟩
def rgInsert_spec(h:TrA f w a c M)(g:TrG M nx)(id at_:Int)(hA:Bi f w la n l ss)(hf:∀x∈l,FitX x.x)(T:n<=140737488355328):
  CP 140 #[tV a M.length c nx,I id,I at_,.slice la n lc] w (OutT f w (Tr.insert ⟨rws M,nx⟩ id at_ l).1 (K3 (Tr.insert ⟨rws M,nx⟩ id at_ l).2.1 (Tr.insert ⟨rws M,nx⟩ id at_ l).2.2)):=by
 apply Jdm;intro b w1 ab t w2 ak;have H:=((Hp.start w).nw ab).nw ak;have hl:=g.len;have av:=g.next;have af:=hA.now.len;have K:∀{Z:List Asn},Asn.blk b (tC a M.length c nx) 29∈.blk t (tC none 0 0 0) 29::.blk b (tC a M.length c nx) 29::Z:=.tail _ (.head _);refine⟨_,_,_,_,H.ldA EQ4 bT2 K rfl rfl,AC (Dk (h.go H) om nx id) ?_⟩;rintro _ w3 ⟨⟨z,rfl,hz⟩,d⟩;replace H:=H.ext0 d;have same:∀(w':World)(e:Int),Tr.insert ⟨rws M,nx⟩ id at_ l=(⟨rws M,nx⟩,0,e)->Hp [] w w' []->OutT f w (Tr.insert ⟨rws M,nx⟩ id at_ l).1 (K3 (Tr.insert ⟨rws M,nx⟩ id at_ l).2.1 (Tr.insert ⟨rws M,nx⟩ id at_ l).2.2) (K3 0 e (tV a M.length c nx)) w':=λw' e he H=>by rw[he];exact OutT.same h H _ rfl
 rcases hz with⟨_,h1,rfl⟩|⟨k,p,U,_,_,h1,rfl⟩
 ·exact⟨_,rfl,AB (λ_=>back H (.head _) rfl λw4 j=>same _ _ (by rw[Tr.insert,h1]) j) (λh=>by omega)⟩
 have aw:=(aA.1 U).1;have a0:=g.lev p (aG U);obtain⟨ad,ac,ld,_⟩:=(h.go H).ld U;refine⟨_,rfl,AB (λh=>by omega) (λ_=>⟨_,_,_,H.ld EQ4 bSR K rfl,AA ac ⟨⟨om,om⟩,_,by rw[aJ,add_add,add_add];exact ld yInt rfl,AQ (λh2=>back H (.head _) rfl λw4 j=>same _ _ (by rw[Tr.insert,h1];dsimp only;rw[if_pos h2]) j) (λh2=>?_)⟩⟩)⟩;have ab:¬p.1.x.kind≠1:=λh=>h h2
 have X:(Tr.insert ⟨rws M,nx⟩ id at_ l)=(if at_<0\/((D5 (rws M) k).length:Int)<at_ then((⟨rws M,nx⟩:Tr),0,69)else if CS l≠0 then(⟨rws M,nx⟩,0,CS l)else if 40<=p.1.level+1+deepest l then(⟨rws M,nx⟩,0,65)
  else if 1000<M.length+l.length\/2147483647<nx+l.length then(⟨rws M,nx⟩,0,66)
  else(⟨J5 (rws M) (Gh (rws M) k at_.toNat) (Ak nx (p.1.level+1) l),nx+l.length⟩,nx,0)):=by
  rw[Tr.insert,h1];dsimp only;rw[if_neg ab,aQ]
 refine JoinP.mk (λs w'=>(s=true↔at_<0\/((D5 (rws M) k).length:Int)<at_)/\Hp [] w w' [.blk t (tC none 0 0 0) 29,.blk b (tC a M.length c nx) 29]) ?_ ?_;rotate_left
 ·intro J hJ;refine AB (λN=>hJ _ _ ⟨⟨λ_=>.inl N,λ_=>rfl⟩,H⟩) (λN=>⟨_,_,_,_,H.ldA EQ4 bT2 K rfl rfl,AC (KZ (h.go H) om nx U g.wide) ?_⟩);rintro _ w4 ⟨a2,c2,rfl,d⟩;exact⟨_,_,_,rfl,hJ _ _ ⟨decide_eq_true_iff.trans ⟨.inr,λh=>h.resolve_left N⟩,(H.ext1 d).drop⟩⟩
 rintro s w4 ⟨hs,H⟩;refine Dp (λN=>back H (.head _) rfl λw5 A=>same _ _ (by rw[X,if_pos (hs.1 N)]) A) (λN=>?_);have N:¬(at_<0\/((D5 (rws M) k).length:Int)<at_):=λh=>by rw[hs.2 h]at N;cases N
 rw[if_neg N]at X;have al:=hA.mv2 (S:=[]) H (by simp);refine AC (rgForest_spec al.now hA.len hA.sls hf) ?_;rintro _ w5 ⟨rfl,d⟩;replace H:=H.ext0 d;refine⟨_,rfl,AQ (λh4=>back H (.head _) rfl λw5 A=>same _ _ (by rw[X,if_pos h4]) A) (λh4=>?_)⟩;rw[if_neg (λh=>h h4)]at X;obtain⟨d1,d2⟩:=deep_len h4;obtain⟨ad,ac,ld,_⟩:=(h.go H).ld U;refine⟨_,_,_,H.ld EQ4 bSR K rfl,AA ac ⟨⟨om,om⟩,_,by rw[aJ,add_add];exact ld (v:=I p.1.level) yInt rfl,iR,AC (rgDeepest_spec (hA.mv2 (S:=[]) H (by simp)).now T) ?_⟩⟩;rintro _ w6 ⟨rfl,d⟩;replace H:=H.ext0 d;refine⟨_,rfl,iR,AB (λh5=>back H (.head _) rfl λw5 A=>same _ _ (by rw[X,if_pos h5]) A) (λh5=>?_)⟩;rw[if_neg h5]at X;refine JoinP.mk (λs w'=>(s=true↔1000<M.length+l.length\/2147483647<nx+(l.length:Int))/\Hp [] w w' [.blk t (tC none 0 0 0) 29,.blk b (tC a M.length c nx) 29]) ?_ ?_;rotate_left
 ·intro J hJ;refine⟨_,_,_,H.ld (cs:=tC a M.length c nx) EQ4 bSR K rfl,iR,AB (λh6=>hJ _ _ ⟨⟨λ_=>.inl om,λ_=>rfl⟩,H⟩) (λh6=>⟨_,H.ld (o:=1) (cs:=tC a M.length c nx) EQ4 yInt K rfl,iR,hJ _ _ ⟨decide_eq_true_iff.trans ⟨λh=>.inr om,λh=>?_⟩,H⟩⟩)⟩;rcases h with h|h<;>omega
 rintro s w7 ⟨hs,H⟩;refine Dp (λh6=>back H (.head _) rfl λw5 A=>same _ _ (by rw[X,if_pos (hs.1 h6)]) A) (λh6=>?_);have h6:¬(1000<M.length+l.length\/2147483647<nx+(l.length:Int)):=λh=>by rw[hs.2 h]at h6;cases h6
 rw[if_neg h6]at X;obtain⟨Y,hY⟩:∃Y,Y=(Ak nx (p.1.level+1) l).zip ss:=⟨_,rfl⟩;have ar:=hA.now.ssl;have am:rws Y=Ak nx (p.1.level+1) l:=by rw[hY];exact Zo (by rw[EY];omega)
 have an:Y.length=n:=by rw[hY,nD,EY];omega
 obtain⟨q,hq⟩:∃q,q=Gh (rws M) k at_.toNat:=⟨_,rfl⟩
 have ag:=ZG (Jq U) at_.toNat
 rw[<- hq,aQ]at ag
 have ah:∀x∈l,-1000000<=x.level/\x.level<=1000000:=λx hx=>by
  have ao:l≠[]:=λe=>by rw[e]at hx;cases hx
  have h9:DK none l=0:=by rw[CS,if_neg ao]at h4;exact h4
  have:=HY l none 0 h9 (iQ _) x hx;omega
 have cS:∀{w':World}{L':List Asn},Hp [] w w' L'->CP 208 #[tV a M.length c nx,I (k:Int),I at_] w' λe w2=>e=eE0 (I (q:Int))/\Hp [] w' w2 []:=λH=>by
  have:=QJ (h.go H) om nx U g.wide at_ om
  rw[<- hq]at this;exact this
 have cN:∀{S:LN0}{w':World}{L':List Asn},Hp [] w w' L'->(∀k∈S,k∈feet L')->CP 203 #[tV a M.length c nx,.slice la n lc,I (p.1.level+1)] w' λe w2=>∃a2 c2,e=eE0 (.slice a2 n c2)/\TrA (S++f) w2 a2 c2 Y/\Hp [] w' w2 []:=λ{S w' L'} H m=>by
  have:=OL (lc:=lc) (hA.mv2 H m) a M.length c nx (p.1.level+1) (h.mv H m).lt om ah om om;rw[<- hY]at this;exact this
 have cL:∀{S:LN0}{w':World}{L':List Asn}{a1:OA}{c1:Nat},Hp [] w w' L'->(∀k∈S,k∈feet L')->TrA (S++f) w' a1 c1 Y->CP 207 #[tV a M.length c nx,I (q:Int),.slice a1 n c1] w' λe w2=>∃B C,e=eE0 (tV B (JR M q Y).length C nx)/\TrA (S++f) w2 B C (JR M q Y)/\Hp [] w' w2 []:=λ{S w' L' a1 c1} H m r=>by
  have:=P5 (c2:=c1) (h.mv H m) om nx ag.2 r om;rw[an]at this;exact this
 refine JoinP.mk (λs w'=>∃(i:Nat)(B:OA)(C:Nat),s=some ⟨i,0,none⟩/\TrA (i::t::f) w' B C (JR M q Y)/\Hp [] w w' [.blk i (tC B (JR M q Y).length C nx) 29,.blk t (tC none 0 0 0) 29,.blk b (tC a M.length c nx) 29]) ?_ ?_
 ·clear H;rintro s D ⟨i,B,C,rfl,r,H⟩;refine⟨_,H.ld (o:=1) (cs:=tC a M.length c nx) EQ4 yInt (.tail _ K) rfl,iR,AA rfl ?_⟩;rw[add_lit];have H1:Hp [i] D D [.blk i (tC B (JR M q Y).length C nx) 29]:=Hp.Gn (H.ok _ (.head _));refine Hp.st (o:=1) H1 EQ4 yInt rfl rfl (by simp[tC]) (cs':=tC B (JR M q Y).length C (nx+n)) rfl λF y=>?_;have ap:TrA (t::f) F B C (JR M q Y):=TrA.back (S:=[i]) r y.chg;have O:=H.Ba y;refine⟨_,_,_,_,AA rfl (O.drew.loA bT2),_,O.ld (o:=1) (cs:=tC a M.length c nx) EQ4 yInt (.tail _ K) rfl,?_⟩;refine giv (O.drew.AX) rfl λG hc j=>⟨j.lo yInt,_,_,_,_,j.loA bT2,?_⟩;rw[X];exact⟨B,C,_,by rw[af];rfl,by rw[Xn,am,hq],TrA.back (S:=[t]) (ap.go (Hp.start F).drew) hc,j.done⟩
 ·intro J hJ;have u:∀{w':World}{Z:List Asn},Hp [] w w' (.blk t (tC none 0 0 0) 29::.blk b (tC a M.length c nx) 29::Z)->Ld PP 29 w' ⟨b,0,none⟩ (tV a M.length c nx):=λH=>H.ldA (cs:=tC a M.length c nx) EQ4 bT2 K rfl rfl;have R:∀{w':World}{x:Asn}{Z:List Asn},Hp [] w w' (x::.blk t (tC none 0 0 0) 29::.blk b (tC a M.length c nx) 29::Z)->Ld PP 29 w' ⟨b,0,none⟩ (tV a M.length c nx):=λH=>H.ldA (cs:=tC a M.length c nx) EQ4 bT2 (.tail _ K) rfl rfl
  have aa:∀{D:World}{i:Nat}{B:OA}{C:Nat},Hp [] w D [.blk i (tC none 0 0 0) 29,.blk t (tC none 0 0 0) 29,.blk b (tC a M.length c nx) 29]->TrA (i::t::f) D B C (JR M q Y)->∃F,St PP 29 D ⟨i,0,none⟩ (tV B (JR M q Y).length C nx) F/\J (sP0 i) F:=λ{D i B C} H r=>by
   refine giv H rfl λF hc y=>hJ _ _ ⟨i,B,C,rfl,⟨λW hW=>r.rd W ?_,λp U W hW=>r.att p U W ?_,r.cap,λk hk=>fE (r.lt k hk) hc.size⟩,y⟩
   all_goals exact hc.trans hW (by simp) λk hk=>.inl hk
  have m1:∀{Z:List Asn},∀k∈[t],k∈feet (.blk t (tC none 0 0 0) 29::Z):=by intro Z k hk;simp[feet,Asn.foot]at hk⊢;exact .inl hk
  have m2:∀{i:Nat}{Z:List Asn},∀k∈[i,t],k∈feet (.blk i (tC none 0 0 0) 29::.blk t (tC none 0 0 0) 29::Z):=by intro i Z k hk;simp[feet,Asn.foot]at hk⊢;rcases hk with h|h;exact .inl h;exact .inr (.inl h)
  refine⟨⟨_,_,_,_,u H.drew,_,_,_,_,u H.drew,_,_,_,_,u H.drew,AC (cS H.drew) ?_⟩,⟨_,_,_,_,u H.drew,_,_,_,_,u H.drew,_,_,_,_,u H.drew,AC (cS H.drew) ?_⟩,⟨_,_,_,_,u H.drew,_,_,_,_,u H.drew,_,_,_,_,u H.drew,AC (cS H.drew) ?_⟩,⟨_,_,_,_,u H.drew,_,_,_,_,u H.drew,_,_,_,_,u H.drew,λi D aq=>?_⟩⟩
  ·rintro _ D ⟨rfl,d⟩;have y:=H.drew.ext0 d;refine⟨_,rfl,u y,u y,AC (cN y m1) ?_⟩;rintro _ F ⟨a2,c2,rfl,r,d⟩;have O:=y.ext0 d;refine⟨_,_,_,rfl,u O,AC (cL O m1 r) ?_⟩;rintro _ G ⟨a3,c3,rfl,r,d⟩;have j:=O.ext0 d;refine⟨_,_,_,_,rfl,λi ae T=>aa (j.new (cs:=tC none 0 0 0) EQ4 T) (r.mv (S:=[i]) ((Hp.start G).new (cs:=tC none 0 0 0) EQ4 T) (by simp[feet,Asn.foot]))⟩
  ·rintro _ D ⟨rfl,d⟩;have y:=H.drew.ext0 d;refine⟨_,rfl,u y,u y,AC (cN y m1) ?_⟩;rintro _ F ⟨a2,c2,rfl,r,d⟩;have O:=y.ext0 d;refine⟨_,_,_,rfl,u O,λi G T=>?_⟩;have Hn:=(Hp.start F).new (cs:=tC none 0 0 0) EQ4 T;have j:=O.new (cs:=tC none 0 0 0) EQ4 T;refine⟨R j,AC (cL (S:=[i,t]) j m2 (r.mv (S:=[i]) Hn (by simp[feet,Asn.foot]))) ?_⟩;rintro _ ae ⟨a3,c3,rfl,r,d⟩;exact⟨_,_,_,_,rfl,aa (j.ext0 d) r⟩
  ·rintro _ D ⟨rfl,d⟩;have y:=H.drew.ext0 d;refine⟨_,rfl,u y,u y,λi G T=>?_⟩;have j:=y.new (cs:=tC none 0 0 0) EQ4 T;refine⟨R j,R j,AC (cN (S:=[i,t]) j m2) ?_⟩;rintro _ F ⟨a2,c2,rfl,r,d⟩;have A:=j.ext0 d;refine⟨_,_,_,rfl,R A,AC (cL (S:=[i,t]) A m2 r) ?_⟩;rintro _ ae ⟨a3,c3,rfl,r,d⟩;exact⟨_,_,_,_,rfl,aa (A.ext0 d) r⟩
  ·have j:=H.drew.new (cs:=tC none 0 0 0) EQ4 aq;refine⟨R j,R j,R j,AC (cS j) ?_⟩;rintro _ F ⟨rfl,d⟩;have A:=j.ext0 d;refine⟨_,rfl,R A,R A,AC (cN (S:=[i,t]) A m2) ?_⟩;rintro _ G ⟨a2,c2,rfl,r,d⟩;have H6:=A.ext0 d;refine⟨_,_,_,rfl,R H6,AC (cL (S:=[i,t]) H6 m2 r) ?_⟩;rintro _ ae ⟨a3,c3,rfl,r,d⟩;exact⟨_,_,_,_,rfl,aa (H6.ext0 d) r⟩
end
end
noncomputable section
open Go Go.Vc Go.Nod Classical
variable{f:List Nat}{w w':World}{a:Option Addr}{c:Nat}{M:List DR}{L:List Asn}{nx:Int}
def rws_sub(i j:Nat):rws ((M.take j).drop i)=((rws M).take j).drop i:=by simp[rws,jd,iC]
theorem rgMove_spec(h:TrA f w a c M)(g:TrG M nx)(id to at_:Int):
  CP 142 #[tV a M.length c nx,I id,I to,I at_] w (OutT f w (Tr.move ⟨rws M,nx⟩ id to at_).1 (K2 (Tr.move ⟨rws M,nx⟩ id to at_).2)):=by
 apply Jds;intro b w1 ar B w2 av;have H:=((Hp.start w).nw ar).nw av;have hl:=g.len;have mT:∀{Z:List Asn},Asn.blk b (tC a M.length c nx) 29∈.blk B (tC none 0 0 0) 29::.blk b (tC a M.length c nx) 29::Z:=.tail _ (.head _);refine⟨_,_,_,_,H.ldA EQ4 bT2 mT rfl rfl,AC (Dk (h.go H) om nx id) ?_⟩;rintro _ w3 ⟨⟨z,rfl,hz⟩,d⟩;replace H:=H.ext0 d;refine⟨_,rfl,_,_,_,_,H.ldA EQ4 bT2 mT rfl rfl,AC (Dk (h.go H) om nx to) ?_⟩;rintro _ w4 ⟨⟨y,rfl,hy⟩,d⟩;replace H:=H.ext0 d;have same:∀(w':World)(e:Int),Tr.move ⟨rws M,nx⟩ id to at_=(⟨rws M,nx⟩,e)->Hp [] w w' []->OutT f w (Tr.move ⟨rws M,nx⟩ id to at_).1 (K2 (Tr.move ⟨rws M,nx⟩ id to at_).2) (K2 e (tV a M.length c nx)) w':=λw' e he H=>by rw[he];exact OutT.same h H _ rfl
 refine⟨_,rfl,JoinP.mk (λs w'=>(s=true↔z<0\/y<0)/\Hp [] w w' [.blk B (tC none 0 0 0) 29,.blk b (tC a M.length c nx) 29]) ?_ ?_⟩;rotate_left
 ·intro J X;exact AB (λt=>X _ _ ⟨⟨λ_=>.inl t,λ_=>rfl⟩,H⟩) (λt=>X _ _ ⟨decide_eq_true_iff.trans ⟨.inr,λh=>h.resolve_left t⟩,H⟩)
 rintro s w5 ⟨O,H⟩
 have aw:(z<0↔atR (rws M) id=none):=by
  rcases hz with⟨_,t,rfl⟩|⟨k,p,G,_,_,t,rfl⟩
  ·simp[t]
  ·simp[t]
 have a0:(y<0↔atR (rws M) to=none):=by
  rcases hy with⟨_,t,rfl⟩|⟨k,p,G,_,_,t,rfl⟩
  ·simp[t]
  ·simp[t]
 refine Dp (λt=>back H (.head _) rfl λw6 H6=>same _ _ ?_ H6) (λt=>?_)
 ·rcases O.1 t with h2|h2
  ·rw[Tr.move,aw.1 h2]
  ·rw[Tr.move,a0.1 h2];cases atR (rws M) id<;>rfl
 have am:¬(z<0\/y<0):=λh=>by rw[O.2 h]at t;cases t
 rcases hz with⟨_,_,rfl⟩|⟨k,p,G,_,_,a1,rfl⟩
 ·exact(am (.inl (by decide))).elim
 rcases hy with⟨_,_,rfl⟩|⟨j,q,hq,a5,_,a6,rfl⟩
 ·exact(am (.inr (by decide))).elim
 have bk:=(aA.1 G).1;have bl:=(aA.1 hq).1;have bm:=g.lev p (aG G);have bo:=g.lev q (aG hq);obtain⟨e1,e2⟩:=Qu (Jq G);rw[aQ]at e2;obtain⟨ad,l,ld,_⟩:=(h.go H).ld hq
 have C:Tr.move ⟨rws M,nx⟩ id to at_=if k=0 then((⟨rws M,nx⟩:Tr),(62:Int))else if q.1.x.kind≠1 then(⟨rws M,nx⟩,68)else if k<=j/\j<endR (rws M) k then(⟨rws M,nx⟩,61)
  else match D6 (BR (rws M) k) to with
   |none=>(⟨rws M,nx⟩,60)
   |some p'=>
    if at_<0\/((D5 (BR (rws M) k) p').length:Int)<at_ then(⟨rws M,nx⟩,69)
    else if∃x∈GZ (segR (rws M) k) (p.1.level-q.1.level-1),40<=x.level then(⟨rws M,nx⟩,65)
    else(⟨J5 (BR (rws M) k) (Gh (BR (rws M) k) p' at_.toNat) (GZ (segR (rws M) k) (p.1.level-q.1.level-1)),nx⟩,0):=by rw[Tr.move,a1,a6];rfl
 refine AB (λh2=>back H (.head _) rfl λw6 H6=>same _ _ (by rw[C,if_pos om]) H6) (λh2=>?_);rw[if_neg (show¬k=0 by omega)]at C;refine⟨_,_,_,H.ld EQ4 bSR mT rfl,AA l ⟨⟨om,om⟩,_,by rw[aJ,add_add,add_add];exact ld yInt rfl,AQ (λF=>back H (.head _) rfl λw6 H6=>same _ _ (by rw[C,if_pos F]) H6) (λF=>?_)⟩⟩;rw[if_neg (λh=>h F)]at C;refine JoinP.mk (λs w'=>(s=true↔k<=j/\j<endR (rws M) k)/\Hp [] w w' [.blk B (tC none 0 0 0) 29,.blk b (tC a M.length c nx) 29]) ?_ ?_;rotate_left
 ·intro J X;refine AB (λR=>⟨_,_,_,_,H.ldA EQ4 bT2 mT rfl rfl,AC (F5 (h.go H) om nx G) ?_⟩) (λR=>X _ _ ⟨⟨λh=>(by cases h),λh=>by omega⟩,H⟩);rintro _ w6 ⟨rfl,d⟩;exact⟨_,rfl,X _ _ ⟨decide_eq_true_iff.trans om,H.ext0 d⟩⟩
 rintro s w6 ⟨O,H⟩;refine Dp (λR=>back H (.head _) rfl λw6 H6=>same _ _ (by rw[C,if_pos (O.1 R)]) H6) (λR=>?_);have an:¬(k<=j/\j<endR (rws M) k):=λh=>by rw[O.2 h]at R;cases R
 rw[if_neg an]at C;have lS:∀{w':World}{Z:List Asn},Hp [] w w' (.blk B (tC none 0 0 0) 29::.blk b (tC a M.length c nx) 29::Z)->Ld PP 27 w' ⟨b,0,none⟩ (.slice a M.length c):=λH=>H.ld EQ4 bSR mT rfl;have lT:∀{w':World}{Z:List Asn},Hp [] w w' (.blk B (tC none 0 0 0) 29::.blk b (tC a M.length c nx) 29::Z)->Ld PP 29 w' ⟨b,0,none⟩ (tV a M.length c nx):=λH=>H.ldA EQ4 bT2 mT rfl rfl
 have lv:∀{w':World}{Z:List Asn},Hp [] w w' Z->∀{k:Nat}{p:DR},M[k]? =some p->∃ad,a=some ad/\Ld PP 3 w' ((ad.add (k*6)).add 1) (I p.1.level):=λH k p G=>by
  obtain⟨ad,l,ld,_⟩:=(h.go H).ld G;exact⟨ad,l,by rw[add_add];exact ld yInt rfl⟩
 obtain⟨ad,l,l1⟩:=lv H.drew G;obtain⟨bp,Y,l2⟩:=lv H.drew hq;have bj:=h.cap;refine⟨_,_,_,lS H.drew,_,_,_,_,lT H.drew,_,_,_,lS H.drew,AA l ⟨⟨om,om⟩,_,l1,_,_,_,lS H.drew,AA Y ⟨⟨om,om⟩,_,l2,iR,iR,AC (F5 (h.go H.drew) om nx G) ?_⟩⟩⟩;rintro _ w7 ⟨rfl,d⟩;replace H:=H.drew.ext0 d;obtain⟨a7,o,l1⟩:=lv H G;rw[l]at o;cases o;obtain⟨a7,o,l2⟩:=lv H hq;rw[Y]at o;cases o;have aa:=(h.mv H (S:=[B]) (by simp[feet,Asn.foot])).sub (i:=k) om;have ao:((M.take (endR (rws M) k)).drop k).length=endR (rws M) k-k:=by rw[cO,aI];omega
 obtain⟨N,hN⟩:∃N,N=(M.take (endR (rws M) k)).drop k:=⟨_,rfl⟩;rw[<- hN]at aa ao;have a8:rws N=segR (rws M) k:=by rw[hN,rws_sub,segR]
 have cP:CP 83 #[.slice (slA a c k 6) (endR (rws M) k-k) (c-k),I (p.1.level-q.1.level-1)] w7 λe w'=>∃a2 c2,e=eE0 (.slice a2 N.length c2)/\TrA (B::f) w' a2 c2 (Il N (p.1.level-q.1.level-1))/\Hp [] w7 w' []:=by
  have:=Qg aa om (c-k) (p.1.level-q.1.level-1) (λr K=>g.wide r (by rw[hN]at K;exact dN (eU K))) om;rw[ao]at this⊢;exact this
 refine⟨_,rfl,l2,lS H,l1,lS H,lS H,⟨om,om,om⟩,?_⟩;rw[aJ,aJ];refine AC cP ?_;rintro _ w8 ⟨a2,c2,rfl,u,d⟩;replace H:=H.ext0 d;obtain⟨D,hD⟩:∃D,D=Il N (p.1.level-q.1.level-1):=⟨_,rfl⟩;have a9:D.length=N.length:=by rw[hD];exact aQ _
 have ba:rws D=GZ (segR (rws M) k) (p.1.level-q.1.level-1):=by rw[hD,rws_part,a8]
 rw[<- hD]at u;rw[<- a9];have bq:N.length<=1000:=om;refine⟨_,_,_,rfl,_,_,_,_,lT H,AC (KE (h.mv H (S:=[B]) (by simp[feet,Asn.foot])) om nx G) ?_⟩;rintro _ w9 ⟨a3,c3,rfl,A,d⟩;replace H:=H.ext0 d;replace u:=u.go d;obtain⟨U,hU⟩:∃U,U=JM M k:=⟨_,rfl⟩;have bb:rws U=BR (rws M) k:=by rw[hU,QI]
 have bv:U.length<=M.length:=by rw[hU,JM,aF,aI,cO];omega
 have ap:∀r∈U,-1000000<=r.1.level/\r.1.level<=1000000:=λr K=>g.wide r (by
  rw[hU]at K;exact(aW.1 K).elim dN eU)
 rw[<- hU]at A⊢;refine⟨_,_,_,_,rfl,λb2 bw ab=>?_⟩;have Hn:=(Hp.start w9).new (cs:=tC none 0 0 0) EQ4 ab;have u:=u.mv (S:=[b2]) Hn (by simp[feet,Asn.foot]);have A:=A.mv (S:=[b2]) Hn (by simp[feet,Asn.foot]);refine giv (H.new (cs:=tC none 0 0 0) EQ4 ab) rfl λbx hc H=>?_;replace u:=TrA.back (S:=[b2]) (f:=B::f) u hc;replace A:=TrA.back (S:=[b2]) (f:=B::f) A hc;have lU:∀{w':World}{Z:List Asn},Hp [] w w' (.blk b2 (tC a3 U.length c3 nx) 29::Z)->Ld PP 29 w' ⟨b2,0,none⟩ (tV a3 U.length c3 nx):=λH=>H.loA bT2;refine⟨_,_,_,_,lU H,AC (Dk A om nx to) ?_⟩;rintro _ b0 ⟨⟨z2,rfl,bc⟩,d⟩;replace H:=H.ext0 d;replace u:=u.go d;replace A:=A.go d
 have bd:q∈U:=by
  rw[hU];by_cases bh:j<k
  ·exact aS _ (aG (by rw[bn bh];exact hq))
  ·refine aO _ (aG (i:=j-endR (rws M) k) ?_);rw[eF,<- hq];congr 1;omega
 rcases bc with⟨aq,_,_⟩|⟨k2,p2,af,_,bi,_,rfl⟩
 ·rw[D6,jJ]at aq;have:=aq q.1 (aT.2 ⟨q,bd,rfl⟩);simp[a5]at this
 rw[<- bb,bi]at C;dsimp only at C;rw[<- ba]at C;refine⟨_,rfl,JoinP.mk (λs w'=>(s=true↔at_<0\/((D5 (rws U) k2).length:Int)<at_)/\TrA (B::f) w' a2 c2 D/\TrA (B::f) w' a3 c3 U/\Hp [] w w' [.blk b2 (tC a3 U.length c3 nx) 29,.blk B (tC none 0 0 0) 29,.blk b (tC a M.length c nx) 29]) ?_ ?_⟩;rotate_left
 ·intro J X;refine AB (λF=>X _ _ ⟨⟨λ_=>.inl F,λ_=>rfl⟩,u,A,H⟩) (λF=>⟨_,_,_,_,lU H,AC (KZ A om nx af ap) ?_⟩);rintro _ T ⟨a4,c4,rfl,d⟩;exact⟨_,_,_,rfl,X _ _ ⟨decide_eq_true_iff.trans ⟨.inr,λh=>h.resolve_left F⟩,u.go d,A.go d,(H.ext1 d).drop⟩⟩
 rintro s T ⟨O,u,A,H⟩;refine Dp (λF=>back H.AX m1 rfl λw5 H5=>same _ _ (by rw[C,if_pos (O.1 F)]) H5) (λF=>?_);have F:¬(at_<0\/((D5 (rws U) k2).length:Int)<at_):=λh=>by rw[O.2 h]at F;cases F
 rw[if_neg F]at C;clear O;refine LoopP.mk (λm s w'=>∃i:Nat,m=D.length-i/\i<=D.length/\s=(i:Int)/\(∀(n:Nat)(r:DR),n<i->D[n]? =some r->r.1.level<40)/\w'=T) D.length ⟨0,rfl,om,rfl,λn r h=>by omega,rfl⟩ ?_;rintro m s b3 next ⟨i,rfl,hi,rfl,ac,hw⟩ ag
 obtain rfl:=hw.symm;refine AB (λR=>?_) (λR=>?_)
 ·obtain⟨r,K⟩:∃r,D[i]? =some r:=⟨_,aB om⟩;obtain⟨ad,l,ld,_⟩:=u.ld K;refine AA l ⟨⟨om,R⟩,_,by rw[aJ,add_add];exact ld (j:=1) (v:=I r.1.level) yInt rfl,AB (λh5=>back H.AX m1 rfl λw5 H5=>same _ _ (by rw[C,if_pos ⟨r.1,aT.2 ⟨r,aG K,rfl⟩,h5⟩]) H5) (λh5=>⟨iR,ag (D.length-(i+1)) _ _ om ⟨i+1,rfl,om,rfl,λn r' hn ah=>?_,rfl⟩⟩)⟩;by_cases e:n=i
  ·subst e;rw[K]at ah;cases ah;omega
  ·exact ac n r' om ah
 have ak:¬∃x∈rws D,40<=x.level:=by
  rintro⟨x,hx,b4⟩;obtain⟨r,K,rfl⟩:=aT.1 hx;obtain⟨n,hn⟩:=ay K;have:=ac n r (by have:=(aA.1 hn).1;omega) hn;omega
 rw[if_neg ak]at C;obtain⟨s0,al⟩:∃s0,s0=Gh (rws U) k2 at_.toNat:=⟨_,rfl⟩
 have ae:=ZG (Jq af) at_.toNat
 rw[<- al,aQ]at ae;have Hd:=H.drew;have u:=u.go (Hp.start T).drew;have A:=A.go (Hp.start T).drew;refine⟨_,_,_,_,lU Hd,_,_,_,_,lU Hd,AC (QJ A om nx af ap at_ om) ?_⟩;rintro _ b5 ⟨rfl,d⟩;rw[<- al];refine⟨_,rfl,lU (Hd.ext0 d),AC (P5 (c2:=c2) (A.go d) om nx ae.2 (u.go d) om) ?_⟩;rintro _ b6 ⟨a4,c4,rfl,hT,H2⟩;refine⟨_,_,_,_,rfl,give ((Hd.ext0 d).ext0 H2).AX rfl λb7 hc H5=>?_⟩;rw[C];exact⟨a4,c4,_,rfl,by rw[Xn,al],hT.back (S:=[B]) hc,H5⟩
def setT(h:TrA f w a c M)(u:M.length<=1000000){k:Nat}{p:DR}(y:M[k]? =some p){x:NX}{s:Sl3}{w1:World}{b i o:Nat}{cs:LV}(H:Hp [] w w1 (.blk i cs 29::L))(n:cs.length=2)(m:Asn.blk b (tC a M.length c nx) 29∈L)(z:Asn.blk o (itC ⟨p.1.level,x⟩ s) 123∈L)
  (A:AtA (i::f) w1 ({p.1 with x:=x},s)) {R:EW} (B:∀e w',OutT f w ⟨setR (rws M) k p.1 x,nx⟩ (K2 0) e w'->R e w'):
  ∃a' d c' g,Ld PP 29 w1 ⟨b,0,none⟩ (.agg #[.slice a' d c',I g])/\∃z1 q s1 r j t c2,Ld PP 123 w1 ⟨o,0,none⟩ (.agg #[I z1,I q,.string s1,.string r,.slice j t c2])/\
   CallV PP 213 [.agg #[.slice a' d c',I g],I (k:Int),.agg #[I z1,I q,.string s1,.string r,.slice j t c2]] w1 λe w'=>∃a' d c' g,e=eE0 (.agg #[.slice a' d c',I g])/\
    ∃l,St PP 29 w' ⟨i,0,none⟩ (.agg #[.slice a' d c',I g]) l/\∃a' d c' g,Ld PP 29 l ⟨i,0,none⟩ (.agg #[.slice a' d c',I g])/\R (eE0 (.tuple #[.agg #[.slice a' d c',I g],I 0])) l:=by
 refine⟨_,_,_,_,H.ldA EQ4 bT2 (.tail _ m) rfl rfl,_,_,_,_,_,_,_,H.ldA EQ4 Bo (.tail _ z) rfl rfl,AC (rgSet_spec (h.mv H (S:=[i]) (by simp[feet,Asn.foot])) u nx y x s A) ?_⟩;rintro _ l ⟨j,c2,rfl,C,D⟩;exact⟨_,_,_,_,rfl,give (H.ext0 D) n λJ F G=>B _ _ ⟨j,c2,_,rfl,rws_set M k p x s,C.back F,G⟩⟩
def rgSetText_spec(h:TrA f w a c M)(g:TrG M nx)(id:Int)(t:ByteArray)(B:t.size<=2000000):
  CP 145 #[tV a M.length c nx,I id,.string t] w (OutT f w (Tr.Bj ⟨rws M,nx⟩ id t).1 (K2 (Tr.Bj ⟨rws M,nx⟩ id t).2)):=by
 apply Jd1;intro b R n C T o;have H:=((Hp.start w).nw n).nw o;have U:=g.len;refine⟨_,_,_,_,H.loA bT2,AC (Dk (h.go H) om nx id) ?_⟩;rintro _ X ⟨⟨z,rfl,D⟩,q⟩;replace H:=H.ext0 q;have same:∀(w':World)(e:Int),Tr.Bj ⟨rws M,nx⟩ id t=(⟨rws M,nx⟩,e)->Hp [] w w' []->OutT f w (Tr.Bj ⟨rws M,nx⟩ id t).1 (K2 (Tr.Bj ⟨rws M,nx⟩ id t).2) (K2 e (tV a M.length c nx)) w':=λw' e F H=>by rw[F];exact OutT.same h H _ rfl
 rcases D with⟨_,i,rfl⟩|⟨k,p,l,_,_,i,rfl⟩
 ·exact⟨_,rfl,AB (λ_=>back H (.head _) rfl λG j=>same _ _ (by rw[Tr.Bj,i]) j) (λh=>by omega)⟩
 obtain⟨Y,r,_,_,ld⟩:=(h.go H).ld l;have J:=(aA.1 l).1;refine⟨_,rfl,AB (λh=>by omega) (λ_=>⟨_,_,_,H.lo bSR,AA r ⟨⟨om,om⟩,_,_,_,_,_,_,_,ld,λZ G s=>?_⟩⟩)⟩;have K:=H.nw s;refine Hp.sA K Bo (cs':=itC ⟨p.1.level,p.1.x⟩ p.2) λN d=>?_;refine⟨_,d.lo yInt,AQ (λm=>back d.AX m1 rfl λA u=>same _ _ (by rw[Tr.Bj,i];dsimp only;rw[if_pos m]) u) (λm=>AC (QK t B N) ?_)⟩;rintro _ A ⟨rfl,q⟩;replace d:=d.ext0 q;refine⟨_,rfl,AQ (λy=>back d.AX m1 rfl λA u=>same _ _ (by rw[Tr.Bj,i];dsimp only;rw[if_neg (λh=>h m),if_pos y]) u) (λy=>?_)⟩;refine Hp.st d EQ4 yStr rfl rfl (by simp[itC]) (cs':=itC ⟨p.1.level,{p.1.x with text:=t}⟩ p.2) rfl λw7 j=>?_;refine setT h om l j.AX rfl m1 (.head _) (AtA.mv (h.att p (aG l)) j (S:=[C]++f) (Oe j (by simp[feet,Asn.foot])).1) λe w' O=>?_;rw[Tr.Bj,i];dsimp only;rw[if_neg (λh=>h m),if_neg (λh=>h y)];exact O
def rgDelAttr_spec(h:TrA f w a c M)(g:TrG M nx)(r:∀q∈M,q.1.x.attrs.length<=1000)(id:Int)(d:ByteArray):
  CP 144 #[tV a M.length c nx,I id,.string d] w (OutT f w (Tr.Bg ⟨rws M,nx⟩ id d).1 (K2 (Tr.Bg ⟨rws M,nx⟩ id d).2)):=by
 apply Jdg;intro b w1 s G w2 t;have H:=((Hp.start w).nw s).nw t;have hl:=g.len;refine⟨_,_,_,_,H.loA bT2,AC (Dk (h.go H) om nx id) ?_⟩;rintro _ w3 ⟨⟨z,rfl,J⟩,u⟩;replace H:=H.ext0 u;have same:∀(w':World)(e:Int),Tr.Bg ⟨rws M,nx⟩ id d=(⟨rws M,nx⟩,e)->Hp [] w w' []->OutT f w (Tr.Bg ⟨rws M,nx⟩ id d).1 (K2 (Tr.Bg ⟨rws M,nx⟩ id d).2) (K2 e (tV a M.length c nx)) w':=λw' e K H=>by rw[K];exact OutT.same h H _ rfl
 rcases J with⟨_,i,rfl⟩|⟨k,p,n,_,_,i,rfl⟩
 ·exact⟨_,rfl,AB (λ_=>back H (.head _) rfl λN j=>same _ _ (by rw[Tr.Bg,i]) j) (λh=>by omega)⟩
 obtain⟨ad,y,_,_,ld⟩:=(h.go H).ld n;have O:=(aA.1 n).1;have l:=aG n;have R:=r p l;refine⟨_,rfl,AB (λh=>by omega) (λ_=>⟨_,_,_,H.lo bSR,AA y ⟨⟨om,om⟩,_,_,_,_,_,_,_,ld,λb3 N A=>?_⟩⟩)⟩;have T:=H.nw A;refine Hp.sA T Bo (cs':=itC ⟨p.1.level,p.1.x⟩ p.2) λw5 m=>?_;have C:=AtA.go (h.att p l) m _ (Chg.refl _ _);have U:=C.len;refine⟨_,m.lo yInt,AQ (λo=>back m.AX m1 rfl λD B=>same _ _ (by rw[Tr.Bg,i];dsimp only;rw[if_pos o]) B) (λo=>⟨_,_,_,m.lo iSAt,AC (rgLess_spec C om d) ?_⟩)⟩;rintro _ D ⟨X,Y,rfl,u⟩;have j:=m.ext1 u;refine⟨_,_,_,rfl,_,_,_,j.lo iSAt,AB (λZ=>back j.Am m2 rfl λD B=>same _ _ (by rw[Tr.Bg,i];dsimp only;rw[if_neg (λh=>h o),if_pos om]) B) (λZ=>?_)⟩;refine Hp.st j.AX EQ4 iSAt rfl rfl (by simp[itC]) (cs':=itC ⟨p.1.level,{p.1.x with attrs:=BP p.1.x.attrs d}⟩ (X,(BP p.1.x.attrs d).length,Y)) rfl λw7 F=>?_;refine setT h om n F.Am rfl m2 (.head _) (λW hW=>⟨rfl,Own.cells (qw F.AX h.lt (S:=[G]) (by simp[feet,Asn.foot]) hW)⟩) λe w' hO=>?_;rw[Tr.Bg,i];dsimp only;rw[if_neg (λh=>h o),if_neg om];exact hO
def rgSetAttr_spec(h:TrA f w a c M)(g:TrG M nx)(A:∀q∈M,q.1.x.attrs.length<=1000)(id:Int)(d t:ByteArray)(B:d.size<=2000000)(X:t.size<=2000000):
  CP 143 #[tV a M.length c nx,I id,.agg #[.string d,.string t]] w (OutT f w (Tr.BX ⟨rws M,nx⟩ id (d,t)).1 (K2 (Tr.BX ⟨rws M,nx⟩ id (d,t)).2)):=by
 apply Jd0;intro b w1 C b1 Y n Z w2 D;have H:=(((Hp.start w).nw C).nw n).nw D;have hl:=g.len;refine⟨_,_,_,_,H.loA bT2,AC (Dk (h.go H) om nx id) ?_⟩;rintro _ w3 ⟨⟨z,rfl,hz⟩,l⟩;replace H:=H.ext0 l;have same:∀(w':World)(e:Int),Tr.BX ⟨rws M,nx⟩ id (d,t)=(⟨rws M,nx⟩,e)->Hp [] w w' []->OutT f w (Tr.BX ⟨rws M,nx⟩ id (d,t)).1 (K2 (Tr.BX ⟨rws M,nx⟩ id (d,t)).2) (K2 e (tV a M.length c nx)) w':=λw' e he H=>by rw[he];exact OutT.same h H _ rfl
 rcases hz with⟨_,F,rfl⟩|⟨k,p,u,_,_,F,rfl⟩
 ·exact⟨_,rfl,AB (λ_=>back H m1 rfl λw4 G=>same _ _ (by rw[Tr.BX,F]) G) (λh=>by omega)⟩
 obtain⟨ad,J,_,_,ld⟩:=(h.go H).ld u;have aa:=(aA.1 u).1;have r:=aG u;have ab:=A p r;refine⟨_,rfl,AB (λh=>by omega) (λ_=>⟨_,_,_,H.lo bSR,AA J ⟨⟨om,om⟩,_,_,_,_,_,_,_,ld,λb3 w4 K=>?_⟩⟩)⟩;have H2:=H.nw K;refine Hp.sA H2 Bo (cs':=itC ⟨p.1.level,p.1.x⟩ p.2) λw5 i=>?_
 have j:Tr.BX ⟨rws M,nx⟩ id (d,t)=if p.1.x.kind≠1 then((⟨rws M,nx⟩:Tr),68)else if¬CW d then(⟨rws M,nx⟩,63)else if BD t≠0 then(⟨rws M,nx⟩,BD t)
  else if 20<(CQ p.1.x.attrs (d,t)).length then(⟨rws M,nx⟩,67)else(⟨setR (rws M) k p.1 {p.1.x with attrs:=CQ p.1.x.attrs (d,t)},nx⟩,0):=by rw[Tr.BX,F]
 refine⟨_,i.lo yInt,AQ (λN=>back i.AX m2 rfl λs m=>same _ _ (by rw[j,if_pos N]) m) (λN=>⟨_,i.lo yStr,AC (NM d B w5) ?_⟩)⟩;rw[if_neg (λh=>h N)]at j;rintro _ s ⟨rfl,l⟩;replace i:=i.ext0 l;refine⟨_,rfl,Gf (λO=>back i.AX m2 rfl λs m=>same _ _ (by rw[j,if_pos O]) m) (λO=>⟨_,i.lo yStr,AC (QK t X s) ?_⟩)⟩;rw[if_neg (λh=>h O)]at j;rintro _ w7 ⟨rfl,l⟩;replace i:=i.ext0 l;have U:=AtA.go (h.att p r) i _ (Chg.refl _ _);have ac:=U.len;refine⟨_,rfl,AQ (λR=>back i.AX m2 rfl λs m=>same _ _ (by rw[j,if_pos R]) m) (λR=>⟨_,_,_,i.lo iSAt,_,_,i.loA EK,AC (rgWith_spec U om (d,t)) ?_⟩)⟩;rw[if_neg (λh=>h R)]at j;rintro _ w8 ⟨a6,c6,rfl,l⟩;have G:=i.ext1 l;refine⟨_,_,_,rfl,?_⟩;refine Hp.st (o:=4) G.AX EQ4 iSAt rfl rfl (by simp[itC]) (cs':=itC ⟨p.1.level,{p.1.x with attrs:=CQ p.1.x.attrs (d,t)}⟩ (a6,(CQ p.1.x.attrs (d,t)).length,c6)) rfl λw9 y=>?_;refine⟨_,_,_,y.lo iSAt,AB (λT=>back y.Am m3 rfl λs m=>same _ _ (by rw[j,if_pos (by dsimp only at T;omega)]) m) (λT=>?_)⟩;rw[if_neg (by dsimp only at T;omega)]at j;refine setT h om u y.Am rfl m3 (.head _) (λW hW=>⟨rfl,Own.cells (qw y.AX h.lt (S:=[Z]) (by simp[feet,Asn.foot]) hW)⟩) λe w' hO=>?_;rw[j];exact hO
def rgDo_spec(h:TrA f w a c M)(g:TrG M nx)(R:∀q∈M,q.1.x.attrs.length<=1000)(o:OpP)(N:0<=o.kind/\o.kind<=6)(la:OA)(n lc:Nat)(ss:List Sl3)(hA:Bi f w la n o.l ss)(hf:∀x∈o.l,FitX x.x/\x.level<=9223372036854775807)(hn:n<=140737488355328)(hs:o.name.size<=2000000/\o.text.size<=2000000):
  CP 77 #[tV a M.length c nx,.agg (opC o la n lc).toArray] w (OutT f w (Tr.edit ⟨rws M,nx⟩ o).1 (K3 (Tr.edit ⟨rws M,nx⟩ o).2.1 (Tr.edit ⟨rws M,nx⟩ o).2.2)):=by
 apply Jdi;intro b G aa b1 w2 ab u w3 ac;have H:=(((Hp.start w).nw aa).nw ab).nw ac;have m0:∀{x:Asn},Asn.blk b (tC a M.length c nx) 29∈x::.blk b1 (opC o la n lc) 36::.blk b (tC a M.length c nx) 29::[]:=.tail _ m1;have K:Ld PP 29 w3 ⟨b,0,none⟩ (tV a M.length c nx):=H.loA bT2;have d:∀{j:Nat}{t:TypeId}{v:Value},Scl PP t->(opC o la n lc)[j]? =some v->Ld PP t w3 ⟨b1,j,none⟩ v:=λS hv=>H.ld EQ4 S m1 hv;have T:=h.mv H (S:=[u,b]) (by simp[feet,Asn.foot]);have h2:=h.mv H (S:=[u]) (by simp[feet,Asn.foot]);have U:=hA.mv2 H (S:=[u]) (by simp[feet,Asn.foot])
 have X:∀{m:Tr}{e:Ending}{w':World}{i z:Int},Tr.edit ⟨rws M,nx⟩ o=(m,i,z)->OutT (u::f) w3 m (K3 i z) e w'->∃a l c Y Z y,e=eE0 (.tuple #[.agg #[.slice a l c,I Y],I Z,I y])/\∃G,St PP 29 w' ⟨u,0,none⟩ (.agg #[.slice a l c,I Y]) G/\∃a l c i,Ld PP 29 G ⟨u,0,none⟩ (.agg #[.slice a l c,I i])/\OutT f w (Tr.edit ⟨rws M,nx⟩ o).1 (K3 (Tr.edit ⟨rws M,nx⟩ o).2.1 (Tr.edit ⟨rws M,nx⟩ o).2.2) (eE0 (.tuple #[.agg #[.slice a l c,I i],I Z,I y])) G:=by
  rintro m e w' i z he ⟨C,D,B,rfl,hr,F,H'⟩;refine⟨_,_,_,_,_,_,rfl,give (H.ext0 H') rfl λw4 O H4=>?_⟩;rw[he];exact⟨C,D,B,rfl,hr,F.back (S:=[u]) O,H4⟩
 refine JoinP.mk (λs w'=>∃(m:Tr)(C:OA)(D:Nat)(B:List DR),Tr.edit ⟨rws M,nx⟩ o=(m,0,s)/\rws B=m.L/\TrA (u::f) w' C D B/\Hp [] w w' [.blk u (tC none 0 0 0) 29,.blk b (tC C B.length D m.next) 29]) ?_ ?_
 ·rintro s w4 ⟨m,C,D,B,he,hr,F,H⟩;refine⟨_,_,_,_,H.loA bT2,give H rfl λw5 O H5=>?_⟩;rw[he];exact⟨C,D,B,rfl,hr,F.back (S:=[u]) O,H5⟩
 intro J hJ
 have A:∀{m:Tr}{e:Ending}{w':World}{z:Int},Tr.edit ⟨rws M,nx⟩ o=(m,0,z)->OutT ([u,b]++f) w3 m (K2 z) e w'->∃a l c i y,e=eE0 (.tuple #[.agg #[.slice a l c,I i],I y])/\∃G,St PP 29 w' ⟨b,0,none⟩ (.agg #[.slice a l c,I i]) G/\J y G:=by
  rintro m e w' z he ⟨C,D,B,rfl,hr,F,H'⟩;refine⟨_,_,_,_,_,rfl,giv ((H.ext0 H').Am) rfl λw4 O H4=>hJ _ _ ⟨m,C,D,B,he,hr,⟨λW hW=>F.rd W ?_,λp hp W hW=>F.att p hp W ?_,F.cap,λk N=>fE (F.lt k (by simp at N⊢;rcases N with h|h;exact .inl h;exact .inr (.inr h))) O.size⟩,(H4.AX).BK (L:=[_,_])⟩⟩
  all_goals exact O.trans hW (by simp) λk N=>.inl (by simp at N⊢;rcases N with h|h;exact .inl h;exact .inr (.inr h))
 refine⟨_,d (j:=0) yInt rfl,AB (λe=>?_) (λe0=>AB (λe=>?_) (λe1=>AB (λe=>?_) (λe2=>AB (λe=>?_) (λe3=>AB (λe=>?_) (λe4=>AB (λe=>?_) (λe5=>AB (λe=>?_) (λe6=>by omega)))))))⟩
 ·exact⟨_,_,_,_,K,_,_,_,d (j:=6) nSIt rfl,AC (rgLoad_spec h2 g U hf hn) λe w' r=>X (by simp[*,Tr.edit]) r⟩
 ·exact⟨_,_,_,_,K,_,d (j:=1) yInt rfl,_,d (j:=3) yInt rfl,_,_,_,d (j:=6) nSIt rfl,AC (rgInsert_spec h2 g o.id o.at_ U (λx hx=>(hf x hx).1) hn) λe w' r=>X (by simp[*,Tr.edit]) r⟩
 ·exact⟨_,_,_,_,K,_,d (j:=1) yInt rfl,AC (rgDelete_spec T g o.id) λe w' r=>A (by simp[*,Tr.edit]) r⟩
 ·exact⟨_,_,_,_,K,_,d (j:=1) yInt rfl,_,d (j:=2) yInt rfl,_,d (j:=3) yInt rfl,AC (rgMove_spec T g o.id o.to o.at_) λe w' r=>A (by simp[*,Tr.edit]) r⟩
 ·exact⟨_,_,_,_,K,_,d (j:=1) yInt rfl,_,d (j:=4) yStr rfl,_,d (j:=5) yStr rfl,AC (rgSetAttr_spec T g R o.id o.name o.text hs.1 hs.2) λe w' r=>A (by simp[*,Tr.edit]) r⟩
 ·exact⟨_,_,_,_,K,_,d (j:=1) yInt rfl,_,d (j:=4) yStr rfl,AC (rgDelAttr_spec T g R o.id o.name) λe w' r=>A (by simp[*,Tr.edit]) r⟩
 ·exact⟨_,_,_,_,K,_,d (j:=1) yInt rfl,_,d (j:=5) yStr rfl,AC (rgSetText_spec T g o.id o.text hs.2) λe w' r=>A (by simp[*,Tr.edit]) r⟩
def bO7:Agg PP 36 7:=DF (by kernel_rfl)
def rnDo_spec(h:TrA f w a c M)(g:TrG M nx)(p:∀q∈M,q.1.x.attrs.length<=1000)(o:OpP)(i:OA)(n lc:Nat)(ss:List Sl3)(D:Bi f w i n o.l ss)(F:∀x∈o.l,FitX x.x/\x.level<=9223372036854775807)(G:n<=140737488355328)(K:o.name.size<=2000000/\o.text.size<=2000000):
  CP 40 #[tV a M.length c nx,.agg (opC o i n lc).toArray] w (OutT f w (Tr.edit ⟨rws M,nx⟩ o).1 (K3 (Tr.edit ⟨rws M,nx⟩ o).2.1 (Tr.edit ⟨rws M,nx⟩ o).2.2)):=by
 apply Jd8;intro b w1 r N w2 u O z y;have H:=(((Hp.start w).nw r).nw u).nw y;have A:∀{j:Nat}{t:TypeId}{v:Value},Scl PP t->(opC o i n lc)[j]? =some v->Ld PP t z ⟨N,j,none⟩ v:=λS R=>H.ld EQ4 S m1 R;refine JoinP.mk (λs w'=>(s=true↔¬(0<=o.kind/\o.kind<=6))/\w'=z) ?_ ?_
 ·rintro s T ⟨d,U⟩;obtain rfl:=U.symm;refine Dp (λm=>back H m1 rfl λw5 X=>?_) (λm=>?_)
  ·have B:=d.1 m
   have Y:Tr.edit ⟨rws M,nx⟩ o=(⟨rws M,nx⟩,0,1):=by
    unfold Tr.edit
    iterate 7 rw[if_neg om]
   rw[Y];exact OutT.same h X _ rfl
  ·have B:0<=o.kind/\o.kind<=6:=az λh=>by rw[d.2 h]at m;cases m
   refine⟨_,_,_,_,H.loA bT2,_,_,_,_,_,_,_,_,_,H.loA bO7,AC (rgDo_spec (h.mv H (by simp[feet,Asn.foot])) g p o B i n lc ss (D.mv2 H (S:=[O]) (by simp[feet,Asn.foot])) F G K) ?_⟩;rintro e w' ⟨Z,c',M',rfl,hr,hT,H'⟩;refine⟨_,_,_,_,_,_,rfl,give (H.ext0 H') rfl λT hc H4=>⟨Z,c',M',rfl,hr,hT.back hc,H4⟩⟩
 ·intro J C;exact⟨_,A yInt rfl,AB (λe=>C _ _ ⟨⟨λ_=>by omega,λ_=>rfl⟩,rfl⟩) (λe=>⟨_,A yInt rfl,C _ _ ⟨decide_eq_true_iff.trans om,rfl⟩⟩)⟩
end
end Go.Proofs.YtljenkbpnioipaaGreat
namespace Go.Nod
abbrev SM:=List (Int×Sp)
def sget:SM->Int->Option Sp
 | [],_=>none
 |(x,s)::r,k=>if k=x then some s else sget r k
def sput:SM->Int->Sp->SM
 | [],k,v=>[(k,v)]
 |(x,s)::r,k,v=>if k=x then(x,v)::r else(x,s)::sput r k v
def sdel:SM->Int->SM
 | [],_=>[]
 |(x,s)::r,k=>if k=x then r else(x,s)::sdel r k
theorem sput_keys:∀(l:SM)(k:Int)(v:Sp),(sput l k v).map (·.1)=if k∈l.map (·.1)then l.map (·.1)else l.map (·.1)++[k]
 | [],k,v=>rfl
 |(y,u)::r,k,v=>by
  have b:=sput_keys r k v;rw[sput];by_cases h:k=y
  ·rw[if_pos h,if_pos (by rw[h];exact .head _)];rfl
  ·rw[if_neg h,aj,b,aj];by_cases a:k∈r.map (·.1)
   ·rw[if_pos a,if_pos (.tail _ a)]
   ·rw[if_neg a,if_neg λc=>(aP.1 c).elim h a];rfl
theorem sdel_keys:∀(l:SM)(k:Int),((sdel l k).map (·.1)).Sublist (l.map (·.1))
 | [],k=>.slnil
 |(y,u)::r,k=>by
  rw[sdel];by_cases h:k=y
  ·rw[if_pos h];exact jY _ _
  ·rw[if_neg h];exact(sdel_keys r k).cons_cons _
abbrev Bd:=Int×Bool
def atB(s:SM)(b:Bd):Int:=match sget s b.1 with
 |none=> -1
 |some x=>if b.2 then x.2 else x.1
def layB(s:SM)(b:Bd)(n:Int):SM:=sput s b.1 (if b.2 then(((sget s b.1).getD (0,0)).1,n)else(n,((sget s b.1).getD (0,0)).2))
end Go.Nod
namespace Go.Proofs.YtljenkbpnioipaaGreat
noncomputable section
open Go Go.Vc Go.Nod
def spV(s:Sp):Value:=.agg #[I s.1,I s.2]
def smC(l:SM):List (Int×Value):=l.map λp=>(p.1,spV p.2)
theorem Oo:∀(l:SM)(k:Int),aget (smC l) k=(sget l k).map spV
 | [],k=>rfl
 |(x,s)::r,k=>by
  have a:=Oo r k;rw[sget];show(if k=x then some (spV s)else aget (smC r) k)=_;by_cases h:k=x
  ·rw[if_pos h,if_pos h];rfl
  ·rw[if_neg h,if_neg h,a]
theorem MB:∀(l:SM)(k:Int)(v:Sp),aput (smC l) k (spV v)=smC (sput l k v)
 | [],k,v=>rfl
 |(x,s)::r,k,v=>by
  have a:=MB r k v;rw[sput];show(if k=x then(x,spV v)::smC r else(x,spV s)::aput (smC r) k (spV v))=_;by_cases h:k=x
  ·rw[if_pos h,if_pos h];rfl
  ·rw[if_neg h,if_neg h,a];rfl
theorem Yu:∀(l:SM)(k:Int),adel (smC l) k=smC (sdel l k)
 | [],k=>rfl
 |(x,s)::r,k=>by
  have a:=Yu r k;rw[sdel];show(if k=x then smC r else(x,spV s)::adel (smC r) k)=_;by_cases h:k=x
  ·rw[if_pos h,if_pos h]
  ·rw[if_neg h,if_neg h,a];rfl
def JA:MapT PP (Df .i64) 80 3 62 (.agg #[I 0,I 0]):=⟨by kernel_rfl,by kernel_rfl,by kernel_rfl⟩
def Y6:Agg PP 248 2:=DF (by kernel_rfl)
def ZT:Scl PP 4:=BN (by kernel_rfl)
def bdV(b:Bd):Value:=.agg #[I b.1,.bool b.2]
theorem YH(mb:Nat)(s:SM)(d:Bd)(w:World)(h:MapAt (Df .i64) w mb (smC s)):CP 161 #[.map (some mb),bdV d] w λe w'=>e=eE0 (I (atB s d))/\Hp [] w w' []:=by
 apply Jb5;have r:mb<w.heap.size:=h.lt;intro t n f;have H:=(Hp.start w).nw f;have o:MapAt (Df .i64) n mb (smC s):=h.chg H.chg (by simp);have m:=Oo s d.1;obtain⟨z,g⟩:∃z:Sp,z=(sget s d.1).getD (0,0):=⟨_,rfl⟩
 have i:(aget (smC s) d.1).getD (.agg #[I 0,I 0])=.agg #[I z.1,I z.2]:=by
  rw[m,g];cases sget s d.1<;>rfl
 have c:=(MR JA o d.1).2;rw[i]at c;refine⟨d.1,H.lo yInt,z.1,z.2,(aget (smC s) d.1).isSome,c,λu y j=>?_⟩;have p:=H.nw j;refine Hp.stA p EQ4 Gy rfl rfl (by simp) rfl λA b=>?_;have q:(aget (smC s) d.1).isSome=(sget s d.1).isSome:=by rw[m,lu]
 rw[q];refine Ec (λa=>⟨?_,b.drop.drop⟩) (λa=>⟨d.2,b.lo ZT,Dp (λl=>⟨z.2,b.lo yInt,?_,b.drop.drop⟩) (λl=>⟨z.1,b.lo yInt,?_,b.drop.drop⟩)⟩)
 ·rw[atB];cases e:sget s d.1 with
  |none=>rfl
  |some x=>rw[e]at a;cases a
 ·rw[atB,g];cases e:sget s d.1 with
  |none=>rw[e]at a;cases a
  |some x=>dsimp only;rw[if_pos l];rfl
 ·rw[atB,g];cases e:sget s d.1 with
  |none=>rw[e]at a;cases a
  |some x=>dsimp only;rw[if_neg (by rw[l];simp)];rfl
def nLay_spec{B:LN0}{w0:World}{L:List Asn}(mb:Nat)(s:SM)(d:Bd)(n:Int)(w:World)(t:Hp B w0 w (.imap mb .i64 (smC s)::L)):CP 163 #[.map (some mb),bdV d,I n] w λe w'=>e=eE0 (.tuple #[])/\Hp B w0 w' (.imap mb .i64 (smC (layB s d n))::L):=by
 apply Jcj;intro q D c;have H:=t.nw c;have u:=Oo s d.1;obtain⟨z,f⟩:∃z:Sp,z=(sget s d.1).getD (0,0):=⟨_,rfl⟩
 have g:(aget (smC s) d.1).getD (.agg #[I 0,I 0])=.agg #[I z.1,I z.2]:=by
  rw[u,f];cases sget s d.1<;>rfl
 refine⟨d.1,H.lo yInt,z.1,z.2,H.lkI JA EQ4 m1 g,λr F h=>?_⟩;have x:=H.nw h;refine Hp.sA x Gy (cs':=[I z.1,I z.2]) λG i=>?_;refine⟨d.2,i.lo ZT,Dp (λj=>?_) (λj=>?_)⟩
 ·refine Hp.s1 i yInt (cs':=[I z.1,I n]) λy a=>?_;refine⟨d.1,a.lo yInt,z.1,n,a.loA Gy,?_⟩;refine Hp.mupI JA a.Am EQ4 λA b=>⟨rfl,?_⟩
  have e:aput (smC s) d.1 (.agg #[I z.1,I n])=smC (layB s d n):=by
   have:=MB s d.1 (z.1,n);rw[layB,if_pos j,<- f];exact this
  rw[e]at b
  exact Hp.BK (R:=[.blk r [I z.1,I n] 62,.blk q [I d.1,.bool d.2] 248]) (b.perm (by
   refine AL λff C l m o p=>?_;simp only[o,m,l];omega))
 ·refine Hp.s1 i yInt (cs':=[I n,I z.2]) λy a=>?_;refine⟨d.1,a.lo yInt,n,z.2,a.loA Gy,?_⟩;refine Hp.mupI JA a.Am EQ4 λA b=>⟨rfl,?_⟩
  have e:aput (smC s) d.1 (.agg #[I n,I z.2])=smC (layB s d n):=by
   have:=MB s d.1 (n,z.2);rw[layB,if_neg (by rw[j];simp),<- f];exact this
  rw[e]at b
  exact Hp.BK (R:=[.blk r [I n,I z.2] 62,.blk q [I d.1,.bool d.2] 248]) (b.perm (by
   refine AL λff C l m o p=>?_;simp only[o,m,l];omega))
end
end Go.Proofs.YtljenkbpnioipaaGreat
namespace Go.Nod
structure BSt where
 op:List Bd
 out:List Bd
def popB(s:BSt):BSt:=⟨s.op.dropLast,s.out++[s.op.getLastD (0,true)]⟩
def J6:Nat->BSt->BSt
 |0,s=>s
 |n+1,s=>J6 n (popB s)
def Gu(d:Int)(s:BSt):BSt:=J6 (s.op.length-d.toNat) s
def begB(i:Int)(s:BSt):BSt:=⟨s.op++[(i,true)],s.out++[(i,false)]⟩
def bndS:List It->List Int->BSt->BSt
 | [],_,s=>s
 |x::r,ids,s=>bndS r ids.tail (begB (ids.headD 0) (Gu x.level s))
def Hq(l:List It)(ids:List Int):List Bd:=(Gu 0 (bndS l ids ⟨[],[]⟩)).out
theorem Tc:∀(j:Nat)(s:BSt),J6 (j+1) s=popB (J6 j s)
 |0,s=>rfl
 |j+1,s=>by rw[J6,Tc j];rfl
theorem KR:∀(n:Nat)(s:BSt),n<=s.op.length->(J6 n s).op=s.op.take (s.op.length-n)/\(J6 n s).out.length=s.out.length+n
 |0,s,_=>by simp[J6]
 |n+1,s,h=>by
  have a:(popB s).op.length=s.op.length-1:=by rw[popB,nU]
  obtain⟨b,c⟩:=KR n (popB s) om;rw[J6];refine⟨?_,?_⟩
  ·rw[b,a];show(s.op.dropLast).take _=_;rw[jg,jF];congr 1;omega
  ·rw[c,popB];simp;omega
theorem VO(x:It)(i:Int):∀(l:List It)(ids:List Int)(s:BSt),ids.length=l.length->bndS (l++[x]) (ids++[i]) s=begB i (Gu x.level (bndS l ids s))
 | [],[],s,_=>rfl
 |y::r,z::ids,s,h=>by
  rw[aC,aC,bndS,bndS,lL,kG,lL,kG];exact VO x i r ids _ (by simpa using h)
structure Qj(j:Nat)(s:BSt):Prop where
 len:s.op.length+s.out.length=2*j
 op:s.op.length<=j
def Qj.shut{j:Nat}{s:BSt}(h:Qj j s)(d:Int):Qj j (Gu d s):=by
 obtain⟨a,b⟩:=KR (s.op.length-d.toNat) s om;have c:=h.len;have f:=h.op;have e:(Gu d s).op.length=s.op.length-(s.op.length-d.toNat):=by rw[Gu,a,aI];omega
 have g:(Gu d s).out.length=s.out.length+(s.op.length-d.toNat):=b;exact⟨om,om⟩
def Qj.beg{j:Nat}{s:BSt}(h:Qj j s)(i:Int):Qj (j+1) (begB i s):=by
 have a:=h.len;have b:=h.op;exact⟨by rw[begB];simp;omega,by rw[begB];simp;omega⟩
theorem PN:∀(l:List It)(ids:List Int)(k:Nat)(s:BSt),Qj k s->Qj (k+l.length) (bndS l ids s)
 | [],_,k,s,h=>h
 |x::r,ids,k,s,h=>by
  have:=PN r ids.tail (k+1) _ ((h.shut x.level).beg (ids.headD 0));rw[bndS,aK,gU r.length,<- jQ];exact this
def bounds_len(l:List It)(ids:List Int):(Hq l ids).length<=2*l.length:=by
 have h:=(PN l ids 0 ⟨[],[]⟩ ⟨rfl,by simp⟩).shut 0;have:=h.len;rw[Hq];omega
end Go.Nod
namespace Go.Proofs.YtljenkbpnioipaaGreat
noncomputable section
open Go Go.Vc Go.Nod
def bdC(l:List Bd):LV:=l.flatMap λp=>[I p.1,.bool p.2]
def XJ(p:Bd)(r:List Bd):bdC (p::r)=I p.1::.bool p.2::bdC r:=rfl
def Wn(a b:List Bd):bdC (a++b)=bdC a++bdC b:=by simp[bdC]
theorem Yb:∀{l:List Bd}{k:Nat}{p:Bd},l[k]? =some p->((bdC l).drop (k*2)).take 2=[I p.1,.bool p.2]
 |x::r,0,p,h=>by simp at h;subst h;rfl
 |x::r,k+1,p,h=>by
  rw[bJ]at h;rw[XJ,dY,eQ,eQ];exact Yb h
theorem bdC_take(l:List Bd)(k:Nat):(bdC l).take (k*2)=bdC (l.take k):=by
 induction l generalizing k with
 |nil=>simp[bdC]
 |cons p r a=>
  cases k with
  |zero=>simp[bdC]
  |succ k=>rw[XJ,dY,eP,eP,a k];rfl
def qW:Elt PP 185 248 2 16:=DD (by kernel_rfl)
def mSB:Scl PP 185:=BN (by kernel_rfl)
def qA:PP.underlying 185=some (.slice 248):=by kernel_rfl
def bndL(b0 b1:Nat)(oa:OA)(oc:Nat)(ua:OA)(uc:Nat)(s:BSt):List Asn:=
 [.blk b0 [.slice oa s.op.length oc] 185,.own 248 2 oa s.op.length oc (bdC s.op),.blk b1 [.slice ua s.out.length uc] 185,.own 248 2 ua s.out.length uc (bdC s.out)]
def MH{B:LN0}{w0:World}{L:List Asn}(d:Int)(l b1:Nat)(a:OA)(b:Nat)(n:OA)(o:Nat)(s:BSt)(w:World)(T:0<=d)(aa:s.op.length<=100000)(ab:s.out.length<=100000)(H:Hp B w0 w (bndL l b1 a b n o s++L)):
  CP 164 #[I d,pT0 l,pT0 b1] w λe w'=>∃f h X,e=eE0 (.tuple #[])/\Hp B w0 w' (bndL l b1 a b f h (Gu d s)++(X++L)):=by
 apply Jb8;refine LoopP.mk (λm _ w'=>∃(j:Nat)(f:OA)(h:Nat)(X:List Asn),m=s.op.length-j/\j<=s.op.length-d.toNat/\Hp B w0 w' (bndL l b1 a b f h (J6 j s)++(X++L))) s.op.length ⟨0,n,o,[],rfl,om,H⟩ ?_;rintro m _ u nx ⟨j,n,o,X,rfl,hj,H⟩ y;obtain⟨U,f2⟩:=KR j s om;obtain⟨s1,i⟩:∃s1,s1=J6 j s:=⟨_,rfl⟩;rw[<- i]at H U f2;have ac:s1.op.length=s.op.length-j:=by rw[U,aI];omega
 have ldO:∀{W:World},Eqw u W->Ld PP 185 W ⟨l,0,none⟩ (.slice a s1.op.length b):=λA=>H.ld A mSB (.head _) rfl;have C:∀{W:World},Eqw u W->Ld PP 185 W ⟨b1,0,none⟩ (.slice n s1.out.length o):=λA=>H.ld A mSB m2 rfl;refine⟨a,s1.op.length,b,AA rfl (ldO EQ4),AB (λh1=>?_) (λh1=>?_)⟩
 ·have p:0<s1.op.length:=om;obtain⟨z,Y⟩:∃z,s1.op[s1.op.length-1]? =some z:=⟨_,aB om⟩
  have D:z=s1.op.getLastD (0,true):=by
   rw[lW,fA,Y];rfl
  have c:Own u 0 248 2 a s1.op.length b (bdC s1.op):=H.ownA m1;have G:Cells u.drew a (bdC s1.op):=c.cells;obtain⟨g,Z⟩:=c.Dq p;have e1:Int.toNat ((s1.op.length:Int)-1)=s1.op.length-1:=om;refine⟨n,s1.out.length,o,AA rfl (C EQ4),a,s1.op.length,b,AA rfl (ldO EQ4),a,s1.op.length,b,AA rfl (ldO EQ4),iR,AA Z ⟨⟨om,om⟩,z.1,z.2,by rw[e1];exact G.ldA Y6 Z (Yb Y) rfl,λxb w2 J=>?_⟩⟩;have K:=H.drew.nw J;refine⟨AA rfl (K.lo mSB),?_⟩;refine Hp.app qW om K.Ij EQ4 (Blk.src qA (K.blk (.head _)) rfl rfl) (by simp only[maxLen];omega) om ?_;intro q r w3 H3;refine AA rfl (Hp.s1 H3.Ij mSB (cs':=[.slice q (s1.out.length+1) r]) λw4 M=>?_);have ldO:Ld PP 185 w4 ⟨l,0,none⟩ (.slice a s1.op.length b):=M.lo mSB;have c:Own w4 0 248 2 a s1.op.length b (bdC s1.op):=M.ownA m4;have ad:=c.le;refine⟨a,s1.op.length,b,AA rfl ldO,a,s1.op.length,b,AA rfl ldO,iR,⟨om,om⟩,AA rfl ?_⟩;rw[e1];refine Hp.s1 M.EQ mSB (cs':=[.slice a (s1.op.length-1) b]) λw5 H5=>?_;have t:Own w5 0 248 2 a s1.op.length b (bdC s1.op):=H5.ownA m4;have x:=t.keep (F:=s1.op.length-1) om;have e2:(bdC s1.op).take ((s1.op.length-1)*2)=bdC (s1.op.take (s1.op.length-1)):=bdC_take _ _;rw[e2]at x;have H6:=Hp.set (a':=.own 248 2 a (s1.op.length-1) b (bdC (s1.op.take (s1.op.length-1)))) H5.Ij (Chg.refl _ _) x λk x=>.inl x;have N:J6 (j+1) s=popB s1:=by rw[i,Tc]
  have O:popB s1=⟨s1.op.take (s1.op.length-1),s1.out++[z]⟩:=by rw[popB,jg,D]
  refine y (s.op.length-(j+1)) _ _ om ⟨j+1,q,r,.blk xb [I z.1,.bool z.2] 248::X,rfl,om,?_⟩;rw[N,O];refine H6.perm ?_;have e3:(s1.op.take (s1.op.length-1)).length=s1.op.length-1:=by rw[aI];omega
  have e4:(s1.out++[z]).length=s1.out.length+1:=by simp
  have e5:bdC (s1.out++[z])=bdC s1.out++[I z.1,.bool z.2]:=by rw[Wn];rfl
  refine AL λff gg T hc ha ae=>?_;simp only[bndL,e3,e4,e5,ha,hc,T,aX,aN];omega
 ·have R:j=s.op.length-d.toNat:=om;refine⟨n,o,X,rfl,?_⟩;rw[Gu,<- R,<- i];exact H
end
noncomputable section
open Go Go.Vc Go.Nod
def nBounds_spec(la:Option Addr)(n lc:Nat)(l:List It)(ss:List Sl3)(za:Option Addr)(zc:Nat)(ids:List Int)(w:World)(hA:Bi [] w la n l ss)(Z:Cells w za (AO ids))(a0:ids.length=n)(hn:n<=10000)(D:∀x∈l,0<=x.level):
  Calls Tryz.prog 105 #[.slice la n lc,.slice za n zc] w λe w'=>∃a c,e=.returned (.slice a (Hq l ids).length c)/\Hp [] w w' [.own 248 2 a (Hq l ids).length c (bdC (Hq l ids))]:=by
 apply Jb7;have ar:=hA.now.len;intro F w1 aa;have H1:=(Hp.start w).new (cs:=[.slice none 0 0]) EQ4 aa;intro G w2 ab;have H2:=((H1.new (cs:=[.slice none 0 0]) EQ4 ab).nilS 248 2).nilS 248 2;refine LoopP.mk (λm s w'=>∃(j:Nat)(f:Option Addr)(g:Nat)(J:Option Addr)(K:Nat)(X:List Asn),m=n-j/\j<=n/\s=(j:Int)/\Hp [] w w' (bndL G F f g J K (bndS (l.take j) (ids.take j) ⟨[],[]⟩)++X)) n ⟨0,none,0,none,0,[],rfl,om,rfl,H2.perm ?_⟩ ?_
 ·refine AL λff gg p q r u=>?_;have L:bdC []=[]:=rfl;simp only[bndL,eu,bndS,L,dI,r,q,p];omega
 rintro m s w3 nx ⟨j,f,g,J,K,X,rfl,hj,rfl,H⟩ ac;have M:=PN (l.take j) (ids.take j) 0 ⟨[],[]⟩ ⟨rfl,by simp⟩;have ae:(l.take j).length=j:=by rw[aI];omega
 rw[ae,bu]at M;obtain⟨s,hs⟩:∃s,s=bndS (l.take j) (ids.take j) ⟨[],[]⟩:=⟨_,rfl⟩;rw[<- hs]at H M;have a1:=M.len;have a2:=M.op;refine AB (λh1=>?_) (λh1=>?_)
 ·have af:j<l.length:=om;have hI:=hA.rd w3 H.chg;obtain⟨x,sl,hx,ag,a3⟩:=hI.at_ (k:=j) om;obtain⟨ad,ah,ak⟩:=hI.some hx ag;refine AA ah ⟨⟨om,h1⟩,x.level,x.x.kind,x.x.name,x.x.text,sl.1,sl.2.1,sl.2.2,ak,?_⟩;intro xb w4 al;have H4:=H.new EQ4 al;refine Hp.stA H4 EQ4 Bo rfl rfl (by simp) (cs':=itC x sl) rfl λw5 H5=>?_;refine⟨x.level,H5.ld (o:=0) (cs:=itC x sl) EQ4 yInt (.head _) rfl,?_⟩;have am:=D x (aG hx)
  have H6:Hp [] w w5 (bndL G F f g J K s++(.blk xb (itC x sl) 123::X)):=H5.perm (by
   refine AL λff gg p q r u=>?_;simp only[r,q,p];omega)
  refine AC (MH x.level G F f g J K s w5 am om om H6) ?_;rintro _ w6 ⟨b,d,X2,rfl,y⟩;have z:=M.shut x.level;obtain⟨t,ht⟩:∃t,t=Gu x.level s:=⟨_,rfl⟩;rw[<- ht]at y z;have av:=z.len;have aw:=z.op;obtain⟨i,hi⟩:∃i,ids[j]? =some i:=⟨_,aB om⟩;have A:(AO ids)[j]? =some (.int .i64 i):=by simp[AO,hi]
  obtain⟨a4,h,_⟩:=Z _ _ A;refine⟨rfl,b,t.out.length,d,y.ld (o:=0) (cs:=[.slice b t.out.length d]) EQ4 mSB m2 rfl,AA h ⟨⟨om,om⟩,i,?_,?_⟩⟩
  ·rw[aJ,bT];exact(Z.chg (w':=w6.drew) y.chg (by simp)).ld yInt h A
  intro yb w7 an;have H8:=y.drew.new (cs:=[.int .i64 i,.bool false]) EQ4 an;refine⟨H8.ld (o:=0) (cs:=[.slice b t.out.length d]) EQ4 mSB m3 rfl,?_⟩;refine Hp.app qW om H8.Ij EQ4 (Blk.src (P:=Tryz.prog) qA (H8.blk (.head _)) rfl rfl) (by simp only[maxLen];omega) om ?_;intro N O w8 H9;refine Hp.st (o:=0) H9.Ij EQ4 mSB rfl rfl (by simp) (cs':=[.slice N (t.out.length+1) O]) rfl λw9 B=>?_;refine⟨f,t.op.length,g,B.ld (o:=0) (cs:=[.slice f t.op.length g]) EQ4 mSB m3 rfl,AA h ⟨⟨om,om⟩,i,?_,?_⟩⟩
  ·rw[aJ,bT];exact(Z.chg (w':=w9.drew) B.chg (by simp)).ld yInt h A
  intro vb a5 T;have C:=B.drew.new (cs:=[.int .i64 i,.bool true]) EQ4 T;refine⟨C.ld (o:=0) (cs:=[.slice f t.op.length g]) EQ4 mSB m4 rfl,?_⟩;refine Hp.app qW om C.Zt EQ4 (Blk.src (P:=Tryz.prog) qA (C.blk (.head _)) rfl rfl) (by simp only[maxLen];omega) om ?_;intro U Y a6 ao;refine Hp.st (o:=0) ao.Zt EQ4 mSB rfl rfl (by simp) (cs':=[.slice U (t.op.length+1) Y]) rfl λa7 ap=>⟨iR,?_⟩;refine ac (n-(j+1)) _ _ om ⟨j+1,U,Y,N,O,.blk vb [.int .i64 i,.bool true] 248::.blk yb [.int .i64 i,.bool false] 248::(X2++(.blk xb (itC x sl) 123::X)),rfl,om,rfl,ap.perm ?_⟩
  have L:bndS (l.take (j+1)) (ids.take (j+1)) ⟨[],[]⟩=begB i t:=by
   rw[aH af,(aA.1 hx).2,aH om,(aA.1 hi).2,VO _ _ _ _ _ (by rw[aI,aI];omega),<- hs,<- ht]
  have e2:bdC (t.op++[(i,true)])=bdC t.op++[.int .i64 i,.bool true]:=by rw[Wn];rfl
  have e3:(t.op++[(i,true)]).length=t.op.length+1:=by simp
  have e4:bdC (t.out++[(i,false)])=bdC t.out++[.int .i64 i,.bool false]:=by rw[Wn];rfl
  have e5:(t.out++[(i,false)]).length=t.out.length+1:=by simp
  rw[L];refine AL λff gg p q r u=>?_;simp only[bndL,begB,e2,e3,e4,e5,r,q,p,aX,aN];omega
 ·have aq:j=n:=om;subst aq;refine AC (MH 0 G F f g J K s w3 om om om H) ?_;rintro _ w6 ⟨b,d,X2,rfl,y⟩
  have L:Hq l ids=(Gu 0 s).out:=by
   rw[Hq,hs,aV om,aV om]
  rw[L];refine⟨rfl,b,_,d,y.ld (o:=0) (cs:=[.slice b (Gu 0 s).out.length d]) EQ4 mSB m2 rfl,b,d,rfl,?_⟩;refine Hp.BK (R:=[.blk G [.slice f (Gu 0 s).op.length g] 185,.own 248 2 f (Gu 0 s).op.length g (bdC (Gu 0 s).op),.blk F [.slice b (Gu 0 s).out.length d] 185]++(X2++X)) (y.perm ?_);refine AL λff gg p q r u=>?_;simp only[bndL,r,q,p];omega
end
end Go.Proofs.YtljenkbpnioipaaGreat
namespace Go.Nod
def IX(old:SM):List Bd->SM->SM
 | [],s=>s
 |b::r,s=>IX old r (if 0<=atB old b then sput s b.1 ((sget old b.1).getD (0,0))else s)
def layAll:SM->List Bd->List Int->SM
 |s,b::bs,n::ns=>layAll (layB s b n) bs ns
 |s,_,_=>s
def Ro(l:List Bd)(old:SM)(k:Nat):Int:=match l[k]? with
 |some b=>atB old b
 |none=>4611686018427387904
noncomputable def IR(l:List Bd)(old:SM):Nat->Nat->Int->Nat->SM->Option SM
 |0,_,_,_,s=>some s
 |n+1,k,low,from_,s=>
  if Ro l old k<0 then IR l old n (k+1) low from_ s
  else match betP low (Ro l old k) ((k:Int)-(from_:Int))with
   |none=>none
   |some ns=>IR l old n (k+1) (Ro l old k) (k+1) (layAll s (l.drop from_) ns)
noncomputable def Eh(l:List Bd)(old:SM):Option SM:=IR l old (l.length+1) 0 0 0 (IX old l [])
theorem VH(old:SM):∀(a b:List Bd)(s:SM),IX old (a++b) s=IX old b (IX old a s)
 | [],b,s=>rfl
 |x::a,b,s=>by rw[aC,IX,IX,VH old a b]
theorem Ua:∀(a:List Int)(n:Int)(s:SM)(bs:List Bd)(b:Bd),bs[a.length]? =some b->layAll s bs (a++[n])=layB (layAll s bs a) b n
 | [],n,s,c::bs,b,h=>by
  rw[dI,dH]at h;cases h;rw[aN,layAll];cases bs<;>simp[layAll]
 |m::a,n,s,c::bs,b,h=>by
  rw[aK,bJ]at h;rw[aC,layAll,layAll];exact Ua a n (layB s c m) bs b h
def layAll_nil(s:SM)(bs:List Bd):layAll s bs []=s:=by cases bs<;>rfl
end Go.Nod
namespace Go.Proofs.YtljenkbpnioipaaGreat
noncomputable section
open Go Go.Vc Go.Nod
def nSpanned_spec(la:OA)(n lc:Nat)(l:List Bd)(D:Nat)(old:SM)(w:World)(hL:Cells w la (bdC l))(hn:n=l.length)(ao:n<=10000)(hO:MapAt (Df .i64) w D (smC old)):
  CP 104 #[.slice la n lc,.map (some D)] w λe w'=>(Eh l old=none/\e=eE0 (.tuple #[.map none,.bool false])/\Hp [] w w' [])\/
   ∃s mb,Eh l old=some s/\e=eE0 (.tuple #[.map (some mb),.bool true])/\Hp [] w w' [.imap mb .i64 (smC s)]:=by
 apply Jcw;intro mb w1 aa;have H1:Hp [] w w1 [.imap mb .i64 (smC [])]:=(Hp.start w).newI EQ4 .i64 aa
 have cell:∀{w':World}{L:List Asn}{j:Nat}{d:Bd},Hp [] w w' L->l[j]? =some d->∃A,la=some A/\Ld PP 248 w' (A.add (j*2)) (bdV d):=λ{w' L j d} H r=>by
  have hc:Cells w' la (bdC l):=hL.chg H.chg (by simp);have f:=Yb r;obtain⟨A,c⟩:=hc.some (λe=>by rw[e]at f;simp at f);exact⟨A,c,hc.ldA Y6 c f rfl⟩
 refine LoopP.mk (λm s w'=>∃(j:Nat)(X:List Asn),m=n-j/\j<=n/\s=(j:Int)/\Hp [] w w' (.imap mb .i64 (smC (IX old (l.take j) []))::X)) n ⟨0,[],rfl,om,rfl,H1⟩ ?_;rintro m s w2 nx ⟨j,X,rfl,hj,rfl,H⟩ u;refine AB (λh1=>?_) (λh1=>?_)
 ·have F:j<l.length:=om;obtain⟨d,r⟩:∃d,l[j]? =some d:=⟨_,aB F⟩;obtain⟨A,c,h⟩:=cell H r;refine AA c ⟨⟨om,h1⟩,d.1,d.2,h,?_⟩;intro xb w3 ab;have B:=H.nw ab;refine Hp.stA B EQ4 Y6 rfl rfl (by simp) rfl λw4 G=>?_;refine⟨d.1,d.2,G.loA Y6,?_⟩;refine AC (YH D old d w4 (hO.chg G.chg (by simp))) ?_;rintro _ w5 ⟨rfl,C⟩;have H5:=G.ext0 C
  have M:IX old (l.take (j+1)) []=if 0<=atB old d then sput (IX old (l.take j) []) d.1 ((sget old d.1).getD (0,0))else IX old (l.take j) []:=by
   rw[aH F,(aA.1 r).2,VH];rfl
  have ld0:Ld PP 3 w5 ⟨xb,0,none⟩ (I d.1):=H5.lo yInt;refine⟨_,rfl,AB (λf=>?_) (λf=>⟨iR,?_⟩)⟩
  ·obtain⟨z,hz⟩:∃z:Sp,z=(sget old d.1).getD (0,0):=⟨_,rfl⟩
   have ac:(aget (smC old) d.1).getD (.agg #[I 0,I 0])=.agg #[I z.1,I z.2]:=by
    rw[Oo,hz];cases sget old d.1<;>rfl
   have N:=(MR JA (hO.chg H5.chg (by simp):MapAt (Df .i64) w5 D (smC old)) d.1).1;rw[ac]at N;rw[if_pos f,<- hz]at M;refine⟨d.1,ld0,d.1,ld0,z.1,z.2,N,?_⟩;refine Hp.mupI JA H5.AX EQ4 λw6 H6=>⟨iR,u (n-(j+1)) _ _ om ⟨j+1,.blk xb [I d.1,.bool d.2] 248::X,rfl,om,rfl,?_⟩⟩;have:=MB (IX old (l.take j) []) d.1 z;rw[M,<- this];exact H6
  ·rw[if_neg f]at M;refine u (n-(j+1)) _ _ om ⟨j+1,.blk xb [I d.1,.bool d.2] 248::X,rfl,om,rfl,?_⟩;rw[M];exact H5.AX
 have ae:j=n:=om;subst ae;rw[aV om]at H;refine LoopP.mk (λm s w'=>∃(k b:Nat)(x:Int)(S:SM)(X:List Asn),m=l.length+1-k/\k<=l.length+1/\b<=k/\s=(x,(b:Int),(k:Int))/\Eh l old=IR l old (l.length+1-k) k x b S/\Hp [] w w' (.imap mb .i64 (smC S)::X)) (l.length+1) ⟨0,0,0,IX old l [],X,rfl,om,om,rfl,by rw[Eh,jr],H⟩ ?_;rintro m s w3 nx ⟨k,b,x,S,X,rfl,M,ap,rfl,a,H⟩ u;dsimp only;refine AB (λh1=>?_) (λh1=>?_);rotate_left
 ·have O:k=l.length+1:=om;rw[O,iE,IR]at a;exact .inr ⟨S,mb,a,rfl,Hp.BK H⟩
 have O:k<=l.length:=om;have af:l.length+1-k=(l.length-k)+1:=om;rw[af,IR]at a;obtain⟨o,hh⟩:∃o,o=Ro l old k:=⟨_,rfl⟩;rw[<- hh]at a;refine JoinP.mk (λs1 w'=>∃(p:Nat)(S2:SM)(y:List Asn),p<=k+1/\s1.2=(p:Int)/\Eh l old=IR l old (l.length-k) (k+1) s1.1 p S2/\Hp [] w w' (.imap mb .i64 (smC S2)::y)) ?_ ?_
 ·rintro⟨ag,f2⟩ w4 ⟨p,S2,y,g1,g2,g3,g4⟩;subst g2;refine⟨iR,u (l.length+1-(k+1)) _ _ om ⟨k+1,p,ag,S2,y,rfl,om,g1,rfl,?_,g4⟩⟩;rw[show l.length+1-(k+1)=l.length-k by omega];exact g3
 intro J hJ;refine JoinP.mk (λs1 w'=>s1=o/\Hp [] w w' (.imap mb .i64 (smC S)::X)) ?_ ?_;rotate_left
 ·intro K hK;refine AB (λf=>?_) (λf=>hK _ _ ⟨?_,H⟩)
  ·obtain⟨d,r⟩:∃d,l[k]? =some d:=⟨_,aB om⟩;obtain⟨A,c,h⟩:=cell H r;refine AA c ⟨⟨om,f⟩,d.1,d.2,h,?_⟩;refine AC (YH D old d w3 (hO.chg H.chg (by simp))) ?_;rintro _ w5 ⟨rfl,C⟩;refine⟨_,rfl,hK _ _ ⟨?_,H.ext0 C⟩⟩;rw[hh,Ro,r]
  ·rw[hh,Ro,bF om]
 rintro s1 w4 ⟨ah,H⟩;subst ah;refine AB (λf=>?_) (λf=>⟨iR,?_⟩)
 ·rw[if_pos f]at a;exact hJ _ _ ⟨b,S,X,om,rfl,a,H⟩
 rw[if_neg f]at a;have R:=sBetween_spec x s1 ((k:Int)-(b:Int)) w4 ⟨om,om⟩;have ak:((k:Int)-(b:Int)).toNat=k-b:=om;rw[ak]at R;refine AC R ?_;rintro e w5 (⟨hb,rfl,C⟩|⟨g,na,nc,hb,aq,rfl,C⟩)
 ·rw[hb]at a;exact⟨none,0,0,false,rfl,CX (.inl ⟨a,rfl,Hp.BK (H.ext0 C)⟩)⟩
 ·rw[hb]at a;have H2:=H.ext1 C;refine⟨na,k-b,nc,true,rfl,BC ?_⟩;refine LoopP.mk (λq t w'=>∃(i:Nat)(y:List Asn),q=(k-b)-i/\i<=k-b/\t=(i:Int)/\Hp [] w w' (.imap mb .i64 (smC (layAll S (l.drop b) (g.take i)))::.own 3 1 na (k-b) nc (AO g)::y)) (k-b) ⟨0,X,rfl,om,rfl,?_⟩ ?_
  ·rw[eu,layAll_nil];exact H2.AX
  rintro q t w6 ar ⟨i,y,rfl,hi,rfl,B⟩ T;refine AB (λh3=>?_) (λh3=>⟨iR,hJ _ _ ⟨k+1,layAll S (l.drop b) g,.own 3 1 na (k-b) nc (AO g)::y,om,rfl,a,?_⟩⟩)
  ·have U:i<g.length:=om;have al:(AO g)[i]? =some (I g[i]):=by simp[AO,U]
   obtain⟨A,c,h⟩:=B.ldO EQ4 yInt m1 al;obtain⟨d,r⟩:∃d,l[b+i]? =some d:=⟨_,aB om⟩;obtain⟨av,Y,Z⟩:=cell B r;refine AA c ⟨⟨om,h3⟩,g[i],by rw[aJ,bT];exact h,iR,AA Y ⟨⟨om,om⟩,d.1,d.2,?_,?_⟩⟩
   ·rw[show((b:Int)+(i:Int)).toNat=b+i by omega];exact Z
   refine AC (nLay_spec mb _ d g[i] w6 B) ?_;rintro _ w7 ⟨rfl,G⟩;refine⟨rfl,iR,T (k-b-(i+1)) _ _ om ⟨i+1,y,rfl,om,rfl,?_⟩⟩;have am:(g.take i).length=i:=by rw[aI];omega
   rw[aH U,Ua (g.take i) g[i] S (l.drop b) d (by rw[am,eF];exact r)];exact G
  ·have an:i=g.length:=om;rw[an,bK]at B;exact B
end
end Go.Proofs.YtljenkbpnioipaaGreat
namespace Go.Nod
def FZ:SM->List Int->SM
 |s,[]=>s
 |s,i::r=>FZ (sdel s i) r
theorem QR(i:Int):∀(l:List Int)(s:SM),FZ s (l++[i])=sdel (FZ s l) i
 | [],s=>rfl
 |j::l,s=>by rw[aC,FZ,FZ,QR i l]
def Gm:SM->List Int->List Sp->SM
 |m,i::is,s::ss=>Gm (sput m i s) is ss
 |m,_,_=>m
theorem QS(i:Int)(s:Sp):∀(a:List Int)(ss:List Sp)(m:SM),a.length=ss.length->Gm m (a++[i]) (ss++[s])=sput (Gm m a ss) i s
 | [],[],m,_=>rfl
 |j::a,t::ss,m,h=>by
  rw[aC,aC,Gm,Gm];exact QS i s a ss _ (by simpa using h)
noncomputable def LM(T:Tr)(old:SM)(moved:List Int):SM:=
 match Eh (Hq (T.L.map rowI) (T.L.map (·.id))) (FZ old moved)with
 |some s=>s
 |none=>Gm [] (T.L.map (·.id)) (Kv (T.L.map rowI))
end Go.Nod
namespace Go.Proofs.YtljenkbpnioipaaGreat
noncomputable section
open Go Go.Vc Go.Nod
def XO{x:NX}(c:x.kind=1\/x.kind=2)(h:Aj x=0):Ws x:=by
 obtain⟨l,g,i⟩:=Dh h;rcases c with c|c
 ·obtain⟨e,b,f,j⟩:=g c;refine⟨by have:=e.2.1;simp only[maxLen];omega,by rw[f];simp[maxLen];decide,λa d=>⟨by have:=(b.1 a d).2.1;simp only[maxLen];omega,?_⟩⟩;have:=(IB _).1 j a d;rw[BD]at this;split at this
  ·cases this
  ·split at this
   ·cases this
   ·simp only[maxLen];omega
 ·obtain⟨e,b,f⟩:=i c;refine⟨by rw[f];decide,?_,λa d=>by rw[e]at d;cases d⟩;rw[BD]at b;split at b
  ·cases b
  ·split at b
   ·cases b
   ·simp only[maxLen];omega
def OT{x:NX}(h:Aj x=0):x.kind=1\/x.kind=2:=by
 rw[Aj]at h;split at h
 ·rename_i a;exact .inr a
 ·split at h
  ·rename_i a;exact .inl a.1
  ·cases h
def Dx{F:Fo}{T:Tr}(a:BA F T):∀x∈T.L.map rowI,Aj x.x=0:=λx b=>by
 obtain⟨r,c,rfl⟩:=aT.1 b;exact Fb F 0 a.ok r (by rw[a.fl];exact c)
def nLabel_spec{f:LN0}{b:Nat}{T:Tr}{w:World}(h:(AV f b T).ok w)(ob:Nat)(old:SM)(ma:OA)(B mc:Nat)(moved:List Int)(hO:∀W,Chg f w W->MapAt (Df .i64) W ob (smC old))(hM:∀W,Chg f w W->Cells W ma (AO moved))(a2:B=moved.length)(a3:B<=100000):
  CP 58 #[pT0 b,.map (some ob),.slice ma B mc] w λe w'=>∃f' mb,e=eE0 (.map (some mb))/\Hp f w w' [AV f' b T,.imap mb .i64 (smC (LM T old moved))]:=by
 apply Jci;have H0:Hp f w w [AV f b T]:=BQ h;obtain⟨F,a4,a5,C,_⟩:=Em h;have a1:=C.len;refine AC (MS h) ?_;rintro _ w0 ⟨rfl,an⟩;obtain rfl:=an.symm;refine⟨_,rfl,AC (LH h) ?_⟩;rintro _ w1 ⟨f1,D,ic,g,rfl,G,H1⟩;refine⟨_,_,_,rfl,AC (Ik (H1.ok _ (.head _))) ?_⟩;rintro _ w2 ⟨f2,J,zc,rfl,H2⟩;have H3:=H1.use1 H2;refine⟨_,_,_,rfl,?_⟩;refine AC (KH ob (smC old) w2 (hO w2 H3.chg)) ?_;rintro _ w3 ⟨n,rfl,a6,ao,ap⟩
 have H4:=H3.add (a':=.imap n .i64 (smC old)) ap ao (λk hk=>by
  have:k=n:=by simpa [Asn.foot]using hk
  omega)
 refine⟨some n,rfl,?_⟩;obtain⟨Y,hY⟩:∃Y:List Asn,Y=([AV f2 b T,.own 3 1 J T.L.length zc (AO (T.L.map (·.id)))]++(.own 123 5 D T.L.length ic (itsC (T.L.map AZ) g)::Bh (T.L.map AZ) g)):=⟨_,rfl⟩;rw[<- hY]at H4;refine LoopP.mk (λm s w'=>∃j:Nat,m=B-j/\j<=B/\s=(j:Int)/\Hp f w w' (.imap n .i64 (smC (FZ old (moved.take j)))::Y)) B ⟨0,rfl,om,rfl,by rw[eu];exact H4⟩ ?_;rintro m s w4 nx ⟨j,rfl,hj,rfl,H⟩ K;refine AB (λh1=>?_) (λh1=>?_)
 ·have d:j<moved.length:=om;have aa:(AO moved)[j]? =some (I moved[j]):=by simp[AO,d]
  have l:=hM w4 H.chg;obtain⟨ad,q,_⟩:=l _ _ aa;refine AA q ⟨⟨om,h1⟩,moved[j],by rw[aJ,bT];exact l.ld yInt q aa,?_⟩;refine Hp.delI JA rfl H EQ4 λw5 H5=>⟨iR,K (B-(j+1)) _ _ om ⟨j+1,rfl,om,rfl,?_⟩⟩;rw[aH d,QR,<- Yu];exact H5
 rw[aV om]at H;have ab:∀{a:Asn},a∈Y->a∈(Asn.imap n .i64 (smC (FZ old moved))::Y):=λh=>.tail _ h
 have y:∀{w':World}{L:List Asn},Hp f w w' L->(∀a∈Y,a∈L)->Bi [] w' D T.L.length (T.L.map rowI) g:=λ{w' L} H r=>by
  refine⟨λW hW=>?_,by simp only[maxLen];omega,λs M=>?_,λx t=>XO (OT (Dx C x t)) (Dx C x t)⟩
  ·have HW:=H.chg0 hW;exact pR (show Own W 0 123 5 D T.L.length ic (itsC (T.L.map AZ) g)from HW.ownA (r _ (by rw[hY];exact .tail _ m1))) G (by rw[aQ]) λx t=>HW.ok x (r _ (by rw[hY];exact .tail _ (t2 t)))
  ·obtain⟨k,hk⟩:=ay M;have a7:=(aA.1 hk).1;have a8:=G.len;have t:(T.L.map AZ)[k]? =some ((T.L.map AZ)[k]' om):=aB _;have e:=G.att k _ s t hk;have:=(Dh (Dx C _ (aG t))).1;simp only[maxLen];omega
 have ac:∀{w':World}{L:List Asn},Hp f w w' L->(∀a∈Y,a∈L)->Cells w' J (AO (T.L.map (·.id))):=λ{w' L} H r=>by
  have:Own w' 0 3 1 J T.L.length zc (AO (T.L.map (·.id))):=H.ownA (r _ (by rw[hY];exact .tail _ (.head _)));exact this.cells
 have z:∀x∈T.L.map rowI,0<=x.level:=λx t=>by
  obtain⟨k,hk⟩:=ay t;exact(RF (b:=0) C.ok C.fl k x hk).1
 have u:=bounds_len (T.L.map rowI) (T.L.map (·.id));rw[aQ]at u;refine AC (nBounds_spec D _ ic (T.L.map rowI) g J zc (T.L.map (·.id)) w4 (y H λa c=>ab c) (ac H λa c=>ab c) (by rw[aQ]) om z) ?_;rintro _ w5 ⟨ba,bc,rfl,H5⟩;have H6:=H.ext1 H5;obtain⟨bs,N⟩:∃bs,bs=Hq (T.L.map rowI) (T.L.map (·.id)):=⟨_,rfl⟩;rw[<- N]at H6 u⊢;have aq:Own w5 0 248 2 ba bs.length bc (bdC bs):=H6.ownA (.head _);refine⟨_,_,_,rfl,AC (nSpanned_spec ba bs.length bc bs n (FZ old moved) w5 aq.cells rfl om (H6.ok _ m1)) ?_⟩;rintro _ w6 (⟨M,rfl,H7⟩|⟨S,mb,M,rfl,H7⟩);rotate_left
 ·refine⟨_,_,rfl,CX ⟨f2,mb,rfl,?_⟩⟩;have hl:LM T old moved=S:=by rw[LM,<- N,M]
  rw[hl];have H8:=H6.ext1 H7;rw[hY]at H8
  exact Hp.BK (R:=[.own 248 2 ba bs.length bc (bdC bs),.imap n .i64 (smC (FZ old moved)),.own 3 1 J T.L.length zc (AO (T.L.map (·.id)))]++(.own 123 5 D T.L.length ic (itsC (T.L.map AZ) g)::Bh (T.L.map AZ) g)) (H8.perm (by
   refine AL λff gg O l c U=>?_;simp only[c,l,O,aX,aN,aC];omega))
 refine⟨_,_,rfl,BC λnb w7 ar=>?_⟩;have H8:Hp f w w7 (.imap nb .i64 (smC [])::_):=(H6.ext0 H7).newI EQ4 .i64 ar;have ae:∀{a:Asn},a∈Y->a∈(Asn.imap nb .i64 (smC [])::.own 248 2 ba bs.length bc (bdC bs)::.imap n .i64 (smC (FZ old moved))::Y):=λh=>.tail _ (t2 h)
 have av:T.L≠[]:=λe=>by
  have e1:bs=[]:=bC (by rw[e]at u;simpa using u);rw[e1]at M
  have e2:Eh [] (FZ old moved)≠none:=by
   have e3:Ro [] (FZ old moved) 0=4611686018427387904:=rfl;have e4:betP 0 4611686018427387904 (((0:Nat):Int)-((0:Nat):Int))=some []:=by rw[betP,if_pos (by refine⟨⟨?_,?_⟩,⟨?_,?_⟩,?_,?_,?_⟩<;>decide)];rfl
   rw[Eh,dI,IR,e3,if_neg (by decide),e4];dsimp only;rw[IR];simp
  exact e2 M
 have hl:LM T old moved=Gm [] (T.L.map (·.id)) (Kv (T.L.map rowI)):=by rw[LM,<- N,M]
 rw[hl];refine AC (sLabel_spec D _ ic (T.L.map rowI) g w7 (y H8 λa c=>ae c) (UW C av) (by rw[aQ];omega) z) ?_;rintro _ w8 ⟨la,rfl,H9⟩;have af:=H8.ext1 H9;have ag:=label_len (T.L.map rowI);rw[aQ]at ag;obtain⟨P,hP⟩:∃P,P=Kv (T.L.map rowI):=⟨_,rfl⟩;rw[<- hP]at af ag⊢;obtain⟨A,Z⟩:∃A,A=T.L.map (·.id):=⟨_,rfl⟩;have a9:A.length=T.L.length:=by rw[Z,aQ]
 refine⟨_,_,_,_,rfl,LoopP.mk (λm s w'=>∃(j:Nat)(X:List Asn),m=T.L.length-j/\j<=T.L.length/\s=(j:Int)/\Hp f w w' (.imap nb .i64 (smC (Gm [] (A.take j) (P.take j)))::.own 62 2 la T.L.length T.L.length (BM P)::(Y++X))) T.L.length ⟨0,[.own 248 2 ba bs.length bc (bdC bs),.imap n .i64 (smC (FZ old moved))],rfl,om,rfl,af.perm ?_⟩ ?_⟩
 ·refine AL λff gg O l c U=>?_;simp only[eu,Gm,c,l,O,aX,aN,aC];omega
 rintro m s w9 nx ⟨j,X,rfl,hj,rfl,H⟩ K;refine AB (λh2=>?_) (λh2=>?_)
 ·have d:j<P.length:=om;obtain⟨p,hp⟩:∃p,P[j]? =some p:=⟨_,aB d⟩;obtain⟨i,hi⟩:∃i,A[j]? =some i:=⟨_,aB om⟩;obtain⟨ad,q,aw⟩:=H.ldOA (w':=w9) (o:=j*2) EQ4 Gy om m1 (Kq hp) rfl;refine AA q ⟨⟨om,h2⟩,p.1,p.2,aw,λxb bb ah=>?_⟩;have H2:=H.nw ah;refine Hp.sA H2 Gy (cs':=[I p.1,I p.2]) λa0 H3=>?_;have ak:(AO (T.L.map (·.id)))[j]? =some (I i):=by rw[<- Z];simp[AO,hi]
  have al:Cells a0.drew J (AO (T.L.map (·.id))):=ac H3.drew λa c=>.tail _ (t2 (aS _ c));obtain⟨zd,am,_⟩:=al _ _ ak;refine AA am ⟨⟨om,om⟩,i,by rw[aJ,bT];exact al.ld yInt am ak,p.1,p.2,H3.loA Gy,?_⟩;refine Hp.mupI (v:=.agg #[I p.1,I p.2]) JA H3.drew.AX EQ4 λbd H4=>⟨iR,K (T.L.length-(j+1)) _ _ om ⟨j+1,.blk xb [I p.1,I p.2] 62::X,rfl,om,rfl,?_⟩⟩;have e1:=MB (Gm [] (A.take j) (P.take j)) i p
  have e2:Gm [] (A.take (j+1)) (P.take (j+1))=sput (Gm [] (A.take j) (P.take j)) i p:=by
   rw[aH om,(aA.1 hi).2,aH d,(aA.1 hp).2,QS _ _ _ _ _ (by rw[aI,aI];omega)]
  have e3:spV p=.agg #[I p.1,I p.2]:=rfl;rw[e2,<- e1,e3]
  exact H4.perm (by
   refine AL λff gg O l c U=>?_;simp only[c,l,O,aX,aN,aC];omega)
 ·rw[aV om,aV om,Z,hY]at H;refine⟨f2,nb,rfl,?_⟩
  exact Hp.BK (R:=[.own 62 2 la T.L.length T.L.length (BM P),.own 3 1 J T.L.length zc (AO (T.L.map (·.id)))]++((.own 123 5 D T.L.length ic (itsC (T.L.map AZ) g)::Bh (T.L.map AZ) g)++X)) (H.perm (by
   refine AL λff gg O l c U=>?_;simp only[c,l,O,aX,aN,aC];omega))
end
end Go.Proofs.YtljenkbpnioipaaGreat
namespace Go.Nod
open Go Go.Vc
section
variable{K V:Type}
def gC(enc:V->Value)(l:List (K×V)):List (K×Value):=l.map λp=>(p.1,enc p.2)
def Q3(enc:V->Value)(l:List (K×V)):(gC enc l).map (·.1)=l.map (·.1):=by
 rw[gC,dD];rfl
def qX(enc:V->Value)(l:List (K×V)):(gC enc l).length=l.length:=aQ _
end
section
variable{K V:Type}[DecidableEq K]
def gget:List (K×V)->K->Option V
 | [],_=>none
 |(x,s)::r,k=>if k=x then some s else gget r k
def gput:List (K×V)->K->V->List (K×V)
 | [],k,v=>[(k,v)]
 |(x,s)::r,k,v=>if k=x then(x,v)::r else(x,s)::gput r k v
def gdel:List (K×V)->K->List (K×V)
 | [],_=>[]
 |(x,s)::r,k=>if k=x then r else(x,s)::gdel r k
theorem Ku(enc:V->Value):∀(l:List (K×V))(k:K),aget (gC enc l) k=(gget l k).map enc
 | [],k=>rfl
 |(x,s)::r,k=>by
  have a:=Ku enc r k;rw[gget];show(if k=x then some (enc s)else aget (gC enc r) k)=_;by_cases h:k=x
  ·rw[if_pos h,if_pos h];rfl
  ·rw[if_neg h,if_neg h,a]
theorem NY(enc:V->Value):∀(l:List (K×V))(k:K)(v:V),aput (gC enc l) k (enc v)=gC enc (gput l k v)
 | [],k,v=>rfl
 |(x,s)::r,k,v=>by
  have a:=NY enc r k v;rw[gput];show(if k=x then(x,enc v)::gC enc r else(x,enc s)::aput (gC enc r) k (enc v))=_;by_cases h:k=x
  ·rw[if_pos h,if_pos h];rfl
  ·rw[if_neg h,if_neg h,a];rfl
theorem Zq(enc:V->Value):∀(l:List (K×V))(k:K),adel (gC enc l) k=gC enc (gdel l k)
 | [],k=>rfl
 |(x,s)::r,k=>by
  have a:=Zq enc r k;rw[gdel];show(if k=x then gC enc r else(x,enc s)::adel (gC enc r) k)=_;by_cases h:k=x
  ·rw[if_pos h,if_pos h]
  ·rw[if_neg h,if_neg h,a];rfl
theorem ER:∀(l:List (K×V))(k x:K)(v:V),gget (gput l k v) x=if x=k then some v else gget l x
 | [],k,x,v=>rfl
 |(y,u)::r,k,x,v=>by
  have b:=ER r k x v;rw[gput];by_cases h:k=y
  ·subst h;rw[if_pos rfl,gget,gget];by_cases a:x=k<;>simp[a]
  ·rw[if_neg h,gget,gget,b];by_cases a:x=y
   ·subst a;rw[if_pos rfl,if_pos rfl,if_neg λe=>h e.symm]
   ·rw[if_neg a,if_neg a]
theorem JP:∀(l:List (K×V))(k:K)(v:V),(gput l k v).map (·.1)=if k∈l.map (·.1)then l.map (·.1)else l.map (·.1)++[k]
 | [],k,v=>by simp[gput]
 |(y,u)::r,k,v=>by
  have b:=JP r k v;rw[gput];by_cases h:k=y
  ·rw[if_pos h,if_pos (by rw[h];exact .head _)];rfl
  ·rw[if_neg h,aj,b,aj];by_cases a:k∈r.map (·.1)
   ·rw[if_pos a,if_pos (.tail _ a)]
   ·rw[if_neg a,if_neg λc=>(aP.1 c).elim h a];rfl
def GI{l:List (K×V)}(h:(l.map (·.1)).Nodup)(k:K)(v:V):((gput l k v).map (·.1)).Nodup:=by
 rw[JP];split
 ·exact h
 ·rename_i d;rw[bD];exact⟨h,by simp,λa f c b e=>by rw[aY]at b;subst b;exact d (e▸f)⟩
theorem Cc:∀{l:List (K×V)}{k:K},gget l k=none↔k∉l.map (·.1)
 | [],k=>by simp[gget]
 |(y,u)::r,k=>by
  rw[gget,aj,aP,not_or];by_cases h:k=y
  ·rw[if_pos h];exact⟨λe=>(by cases e),λe=>(e.1 h).elim⟩
  ·rw[if_neg h,Cc];exact⟨λe=>⟨h,e⟩,λe=>e.2⟩
theorem Lc:∀{l:List (K×V)}{k:K}{v:V},gget l k=some v->(k,v)∈l
 |(y,u)::r,k,v,h=>by
  rw[gget]at h;by_cases e:k=y
  ·subst e;rw[if_pos rfl]at h;cases h;exact .head _
  ·rw[if_neg e]at h;exact .tail _ (Lc h)
theorem JG:∀(l:List (K×V))(k x:K),(l.map (·.1)).Nodup->gget (gdel l k) x=if x=k then none else gget l x
 | [],k,x,_=>by rw[gdel,gget];split<;>rfl
 |(y,u)::r,k,x,hn=>by
  rw[aj,bM]at hn;have b:=JG r k x hn.2;rw[gdel];by_cases h:k=y
  ·subst h;rw[if_pos rfl,gget];by_cases a:x=k
   ·subst a;rw[if_pos rfl];exact Cc.2 hn.1
   ·rw[if_neg a,if_neg a]
  ·rw[if_neg h,gget,gget,b];by_cases a:x=y
   ·subst a;rw[if_pos rfl,if_pos rfl,if_neg λe=>h e.symm]
   ·rw[if_neg a,if_neg a]
theorem KD:∀(l:List (K×V))(k:K),(gdel l k).Sublist l
 | [],k=>.slnil
 |(y,u)::r,k=>by
  rw[gdel];by_cases h:k=y
  ·rw[if_pos h];exact jY _ _
  ·rw[if_neg h];exact(KD r k).cons_cons _
def MN{l:List (K×V)}(h:(l.map (·.1)).Nodup)(k:K):((gdel l k).map (·.1)).Nodup:=h.sublist ((KD l k).map _)
def RY(l:List (K×V))(k:K)(v:V):(gput l k v).length<=l.length+1:=by
 have h:=congrArg List.length (JP l k v);rw[aQ]at h;rw[h];split<;>simp
theorem JF{l:List (K×V)}{k:K}{v:V}{p:K×V}(h:p∈gput l k v):p=(k,v)\/p∈l:=by
 induction l with
 |nil=>rw[gput,aY]at h;exact .inl h
 |cons q r a=>
  obtain⟨y,u⟩:=q;rw[gput]at h;by_cases e:k=y
  ·rw[if_pos e,aP]at h;rcases h with h|h
   ·exact .inl (by rw[h,e])
   ·exact .inr (.tail _ h)
  ·rw[if_neg e,aP]at h;rcases h with h|h
   ·exact .inr (by rw[h];exact .head _)
   ·rcases a h with h|h
    ·exact .inl h
    ·exact .inr (.tail _ h)
end
noncomputable section
open Classical
def leS(a b:ByteArray):Bool:=decide (a.data.toList<=b.data.toList)
def ET(l:LB0):LB0:=l.mergeSort leS
def DT(l:LB0):(ET l).Perm l:=gY l leS
def IY{l:LB0}(h:l.Nodup):(ET l).Pairwise λx y=>x.data.toList<y.data.toList:=by
 have i:∀a b c:ByteArray,leS a b=true->leS b c=true->leS a c=true:=λa b c d e=>by simp only[leS,decide_eq_true_eq]at*;exact mM d e
 have j:∀a b:ByteArray,(leS a b||leS b a)=true:=λa b=>by simp only[leS,Bool.or_eq_true,decide_eq_true_eq];exact mP _ _
 have d:=gy i j l;have e:(ET l).Nodup:=(DT l).nodup_iff.2 h;refine(d.and e).imp λ⟨g,m⟩=>?_;simp only[leS,decide_eq_true_eq]at g;rcases nS.1 g with f|f
 ·exact f
 ·exact(m (eqB f)).elim
def Dj{l:LB0}{x:ByteArray}:x∈ET l↔x∈l:=(DT l).mem_iff
def Ht(l:LB0):(ET l).length=l.length:=(DT l).length_eq
def addN(l:LB0)(n:ByteArray):LB0:=if n∈l then l else l++[n]
def uniq(l:LB0):LB0:=l.foldl addN []
def Vp(l:LB0)(n:ByteArray):uniq (l++[n])=addN (uniq l) n:=by rw[uniq,iH];rfl
def addN_mem{l:LB0}{n x:ByteArray}:x∈addN l n↔x∈l\/x=n:=by
 rw[addN];split
 ·rename_i h;exact⟨.inl,λa=>a.elim id λe=>e▸h⟩
 ·rw[aW,aY]
def addN_nodup{l:LB0}(h:l.Nodup)(n:ByteArray):(addN l n).Nodup:=by
 rw[addN];split
 ·exact h
 ·rename_i d;rw[bD];exact⟨h,by simp,λa f c b e=>by rw[aY]at b;subst b;exact d (e▸f)⟩
theorem NL(l:LB0):∀(A:LB0),(∀x,x∈l.foldl addN A↔x∈A\/x∈l)/\(A.Nodup->(l.foldl addN A).Nodup)/\(l.foldl addN A).length<=A.length+l.length:=by
 induction l with
 |nil=>intro A;simp
 |cons n r a=>
  intro A;obtain⟨b,c,d⟩:=a (addN A n);refine⟨λx=>?_,λh=>c (addN_nodup h n),?_⟩
  ·rw[dP,b,addN_mem,aP,or_assoc]
  ·have:(addN A n).length<=A.length+1:=by rw[addN];split<;>simp
   rw[dP,aK];omega
def uniq_mem{l:LB0}{x:ByteArray}:x∈uniq l↔x∈l:=by
 rw[uniq,(NL l []).1];simp
def Rl(l:LB0):(uniq l).Nodup:=(NL l []).2.1 .nil
def Xq(l:LB0):(uniq l).length<=l.length:=by
 have:=(NL l []).2.2;simpa [uniq]using this
def Ea(x:It):LB0:=(if x.x.kind=1 then [x.x.name]else [])++x.x.attrs.map (·.1)
def FD(l:List It):LB0:=ET (uniq (l.flatMap Ea))
def Pj{l:List It}{n:ByteArray}:n∈FD l↔∃x∈l,n∈Ea x:=by
 rw[FD,Dj,uniq_mem,gq]
theorem PD:∀(al:List (ByteArray×Value))(n:ByteArray)(v:Value),(aput al n v).map (·.1)=addN (al.map (·.1)) n
 | [],n,v=>by simp[aput,addN]
 |(y,u)::r,n,v=>by
  have b:=PD r n v;rw[aput];by_cases h:n=y
  ·rw[if_pos h,addN,if_pos (by rw[h];exact .head _)];rfl
  ·rw[if_neg h,aj,b,aj,addN,addN];by_cases a:n∈r.map (·.1)
   ·rw[if_pos a,if_pos (.tail _ a)]
   ·rw[if_neg a,if_neg λc=>(aP.1 c).elim h a];rfl
end
end Go.Nod
namespace Go.Proofs.YtljenkbpnioipaaGreat
noncomputable section
open Go Go.Vc Go.Nod Classical
def Fe(l:LB0):LB0->Nat->LB0->LB0
 | [],_,W=>W
 |s::r,k,W=>Fe l r (k+1) (if s≠none0/\s∉l then Ir W k else W)
def Fg:LB0->LB0->LB0×Int
 | [],W=>(W,0)
 |s::r,W=>if hasW W s then Fg r W else if(addR W s).2.2≠0 then((addR W s).1,94)else Fg r (addR W s).1
def Ii(W l:LB0):LB0×Int:=Fg l (Fe l W 0 W)
end
open Go Go.Vc Go.Proofs Go.RowKit Go.Maps Go.Sort Go.Shelf
def Ud{w w':World}(h:Below w.heap.size w w'):Chg [] w w':=⟨h.os,h.tape,h.output,h.size,λk a _=>h.block k a⟩
def WT{w w':World}{e:TypeId}{v:Value}{n:Nat}{xs:LV}(i:Below w.heap.size w w')(h:w'.ownsRow w.heap.size e 1 v n xs):
  ∃a c,v=.slice a n c/\Hp [] w w' [.own e 1 a n c xs]:=by
 obtain⟨j,⟨rfl,rfl⟩|⟨g,d,f,rfl,m,o,p,q,r,s⟩⟩:=h
 ·refine⟨none,0,rfl,Ud i,?_,by simp[Asn.foot,blks],by simp⟩;intro a b;rw[aY]at b;subst b;exact⟨j,.inl ⟨rfl,rfl,rfl⟩⟩
 ·refine⟨some ⟨g,0,none⟩,d,rfl,Ud i,?_,?_,by simp⟩
  ·intro a b;rw[aY]at b;subst b;exact⟨j,.inr ⟨g,f,(0,0),rfl,bY _,o,Thaw.zero _,p,q,jb r.symm,s⟩⟩
  ·intro a b k l;rw[aY]at b;subst b;simp[Asn.foot,blks]at l;subst l;exact .inr m
section
variable{K:Type}[DecidableEq K]{kt:KeyT K}
def RR:Value->Option (DataW Unit×List MemPlace):=λ_=>some (.nil,[])
theorem Qq{P:Program}{k:TypeId}{w:World}{b:Nat}{al:List (K×Value)}(h:MapAt kt w b al)(t:(al.map (·.1)).Nodup)(u:al.length<=maxLen)(enc:K->Lit)(m:∀x y,kt.enc x=kt.enc y->x=y)
  (g:∀p∈al,keyOf P k (kt.enc p.1)=some (enc p.1)):
  ∃D:DataW Unit,w.ownsMap P k RR b al.length D/\Maps.size D=al.length/\∃l:List (Lit×DataW Unit),D=.map l/\l.Perm (al.map λp=>(enc p.1,DataW.nil)):=by
 obtain⟨f,d,z,j,A,B⟩:=h
 have a:f.size=al.length:=by
  have:=congrArg List.length j;simpa using this
 have n:∀x∈f.toList,∃p∈al,x.key=kt.enc p.1:=by
  intro x o;have:(x.key,x.val)∈al.map λp=>(kt.enc p.1,p.2):=j▸aT.2 ⟨x,o,rfl⟩;obtain⟨p,i,e⟩:=aT.1 this;exact⟨p,i,(congrArg Prod.fst e).symm⟩
 have c:f.toList.map (WideElems.rg P k RR)=al.map λp=>(enc p.1,DataW.nil):=by
  have q:f.toList.map (·.key)=al.map λp=>kt.enc p.1:=by
   have:=congrArg (List.map Prod.fst) j;simpa [dD,lw]using this
  have C:∀(l:List MapEntry)(al:List (K×Value)),(∀p∈al,keyOf P k (kt.enc p.1)=some (enc p.1))->l.map (·.key)=(al.map λp=>kt.enc p.1)->l.map (WideElems.rg P k RR)=al.map λp=>(enc p.1,(DataW.nil:DataW Unit)):=by
   intro l
   induction l with
   |nil=>intro al _ h;cases al with
    |nil=>rfl
    |cons _ _=>cases h
   |cons x r F=>
    intro al g h;cases al with
    |nil=>cases h
    |cons p al=>
     simp at h⊢;refine⟨?_,F al (λp i=>g p (.tail _ i)) h.2⟩;simp only[WideElems.rg,WideElems.rd,h.1,g p (.head _)];rfl
  exact C _ _ g q
 refine⟨_,⟨f,d,z,⟨by rw[a];exact u,⟨B,A,?_⟩,?_⟩,by rw[a];exact aZ _,rfl⟩,?_,_,rfl,?_⟩
 ·have q:f.toList.map (·.key)=(al.map (·.1)).map kt.enc:=by
   have:=congrArg (List.map Prod.fst) j;simpa [dD,lw]using this
  rw[q];exact dV.2 (t.imp λs G=>s (m _ _ G))
 ·intro x o;obtain⟨p,i,e⟩:=n x o;exact⟨(enc p.1,.nil),by simp only[WideElems.rd,e,g p i];rfl⟩
 ·rw[c];have:=(WideShapes.sorted_perm (al.map λp=>(enc p.1,(DataW.nil:DataW Unit)))).length_eq;simpa [Maps.size]using this
 ·rw[c];exact WideShapes.sorted_perm _
end
def Yl(m:Nat):AnyZ.SortsIn PP XD Fence.wide m:=
 ⟨λblk c a e W f b d=>callsIn_wide.2 (AnyM.slices_Sort_string WF blk c a e W f b d),
  λp a W=>callsIn_wide.2 (AnyM.slices_Sort_string_none WF p a W)⟩
def sortsI(m:Nat):AnyZI.SortsIn PP YK Fence.wide m:=
 ⟨λblk c a e W f b d=>callsIn_wide.2 (AnyM.slices_Sort_int qf blk c a e W f b d),
  λp a W=>callsIn_wide.2 (AnyM.slices_Sort_int_none qf p a W)⟩
def keysS_spec(mb:Option Nat)(w:World):CP 103 #[.map mb] w λe w'=>
  ∃q,e=eE0 (.func (.func 160) #[] #[pT0 q])/\Hp [] w w' [.blk q [.map mb] 147]:=by
 refine Calls.mono (callsIn_wide.1 (AnyZ.keys_in Zu Fence.wide 5 trivial rfl mb w)) ?_;rintro e w' ⟨rfl,rfl⟩;exact⟨_,rfl,(Hp.start w).new ⟨rfl,rfl,rfl,rfl⟩ ⟨rfl,rfl⟩⟩
def sortedS_spec(q b:Nat)(al:List (ByteArray×Value))(w:World)(G:Blk w q [.map (some b)] 147)(N:MapAt F9 w b al)(l:LB0)(B:l.Perm (al.map (·.1)))
  (J:l.Pairwise λx y=>x.data.toList<y.data.toList) (O:∀x∈l,x.size<=maxLen) (o:al.length*16<=140737488355328):
  CP 102 #[.func (.func 160) #[] #[pT0 q]] w λe w'=>
   ∃a c,e=eE0 (.slice a l.length c)/\Hp [] w w' [.own 9 1 a l.length c (l.map .string)]:=by
 have C:(al.map (·.1)).Nodup:=B.nodup_iff.1 (J.imp λh e=>by subst e;exact lJ _ h);have r:al.length<=maxLen:=by simp only[maxLen];omega
 obtain⟨D,n,i,t,rfl,R⟩:=Qq N C r (λs=>.string s.data.toList) (λx y h=>by injection h) (λp F=>WideMaps.keyOf_string_mk (by kernel_rfl) (O _ (B.mem_iff.2 (aT.2 ⟨p,F,rfl⟩))));have u:=G.lt
 have z:SeqGives Fence.wide 2 PP 160 #[pT0 q] encStr (λj=>j.Perm (strKeys (.map t))) (Maps.size (.map t)) w:=
  AnyZ.keys_gives (ρ:=pX) {Zu with} Fence.wide _ trivial rfl om q b al.length (.map t) w u (G.cell rfl) n
 have L:=AnyZ.sorted_in SQ Fence.wide 5 trivial trivial trivial trivial rfl om (Yl _) (enters_of Tryz.func130 (by kernel_rfl) rfl) 160 #[pT0 q] trivial (enters_of Tryz.func160 (by kernel_rfl) rfl) _ _ (by rw[i];exact r) (by rw[i];exact o) w z;change CallsIn _ _ PP 102 _ _ _ at L;refine Calls.mono (callsIn_wide.1 L) ?_;rintro e w' ⟨v,j,rfl,T,g,M,U⟩
 have f:j.Perm (l.map λx=>x.data.toList):=by
  refine T.trans ?_;have X:strKeys (.map t)=t.map λp=>strOf p.1:=rfl;rw[X];refine(R.map _).trans ?_;rw[dD];have Y:((λp:Lit×DataW Unit=>strOf p.1)∘λp:ByteArray×Value=>(Lit.string p.1.data.toList,DataW.nil))=(λx:ByteArray=>x.data.toList)∘(·.1):=rfl;rw[Y,<- dD];exact(B.symm.map _)
 have m:j.mergeSort (λx y=>decide (x<=y))=l.map λx=>x.data.toList:=by
  have Z:∀a b c:LU,decide (a<=b)=true->decide (b<=c)=true->decide (a<=c)=true:=λa b c n i=>by simp only[decide_eq_true_eq]at*;exact mM n i
  have to:∀a b:LU,(decide (a<=b)||decide (b<=a))=true:=λa b=>by simp;exact mP a b
  refine eY (le:=λa b=>decide (a<=b)=true) (λa b _ _ n i=>?_) (gy Z to j) (dV.2 (J.imp λh=>?_)) ((gY j _).trans f)
  ·simp at n i;exact mQ n i
  ·rw[decide_eq_true_eq];exact ny h
 have A:j.length=l.length:=by simpa using f.length_eq
 rw[m,A,dD]at g;obtain⟨a,c,rfl,H⟩:=WT U g;refine⟨a,c,rfl,?_⟩
 have e3:(encStr∘λx:ByteArray=>x.data.toList)=Value.string:=by
  funext x;obtain⟨d⟩:=x;simp[encStr]
 rw[e3]at H;exact H
def keysP_spec(mb:Option Nat)(w:World):CP 107 #[.map mb] w λe w'=>
  ∃q,e=eE0 (.func (.func 166) #[] #[pT0 q])/\Hp [] w w' [.blk q [.map mb] 83]:=by
 refine Calls.mono (callsIn_wide.1 (AnyZ.keys_in qH Fence.wide 5 trivial rfl mb w)) ?_;rintro e w' ⟨rfl,rfl⟩;exact⟨_,rfl,(Hp.start w).new ⟨rfl,rfl,rfl,rfl⟩ ⟨rfl,rfl⟩⟩
def sortedP_spec(q b:Nat)(al:List (ByteArray×Value))(w:World)(G:Blk w q [.map (some b)] 83)(N:MapAt F9 w b al)(l:LB0)(B:l.Perm (al.map (·.1)))
  (J:l.Pairwise λx y=>x.data.toList<y.data.toList) (O:∀x∈l,x.size<=maxLen) (o:al.length*16<=140737488355328):
  CP 102 #[.func (.func 166) #[] #[pT0 q]] w λe w'=>
   ∃a c,e=eE0 (.slice a l.length c)/\Hp [] w w' [.own 9 1 a l.length c (l.map .string)]:=by
 have C:(al.map (·.1)).Nodup:=B.nodup_iff.1 (J.imp λh e=>by subst e;exact lJ _ h);have r:al.length<=maxLen:=by simp only[maxLen];omega
 obtain⟨D,n,i,t,rfl,R⟩:=Qq N C r (λs=>.string s.data.toList) (λx y h=>by injection h) (λp F=>WideMaps.keyOf_string_mk (by kernel_rfl) (O _ (B.mem_iff.2 (aT.2 ⟨p,F,rfl⟩))));have u:=G.lt
 have z:SeqGives Fence.wide 2 PP 166 #[pT0 q] encStr (λj=>j.Perm (strKeys (.map t))) (Maps.size (.map t)) w:=
  AnyZ.keys_gives (ρ:=qJ) {qH with} Fence.wide _ trivial rfl om q b al.length (.map t) w u (G.cell rfl) n
 have L:=AnyZ.sorted_in SQ Fence.wide 5 trivial trivial trivial trivial rfl om (Yl _) (enters_of Tryz.func130 (by kernel_rfl) rfl) 166 #[pT0 q] trivial (enters_of Tryz.func166 (by kernel_rfl) rfl) _ _ (by rw[i];exact r) (by rw[i];exact o) w z;change CallsIn _ _ PP 102 _ _ _ at L;refine Calls.mono (callsIn_wide.1 L) ?_;rintro e w' ⟨v,j,rfl,T,g,M,U⟩
 have f:j.Perm (l.map λx=>x.data.toList):=by
  refine T.trans ?_;have X:strKeys (.map t)=t.map λp=>strOf p.1:=rfl;rw[X];refine(R.map _).trans ?_;rw[dD];have Y:((λp:Lit×DataW Unit=>strOf p.1)∘λp:ByteArray×Value=>(Lit.string p.1.data.toList,DataW.nil))=(λx:ByteArray=>x.data.toList)∘(·.1):=rfl;rw[Y,<- dD];exact(B.symm.map _)
 have m:j.mergeSort (λx y=>decide (x<=y))=l.map λx=>x.data.toList:=by
  have Z:∀a b c:LU,decide (a<=b)=true->decide (b<=c)=true->decide (a<=c)=true:=λa b c n i=>by simp only[decide_eq_true_eq]at*;exact mM n i
  have to:∀a b:LU,(decide (a<=b)||decide (b<=a))=true:=λa b=>by simp;exact mP a b
  refine eY (le:=λa b=>decide (a<=b)=true) (λa b _ _ n i=>?_) (gy Z to j) (dV.2 (J.imp λh=>?_)) ((gY j _).trans f)
  ·simp at n i;exact mQ n i
  ·rw[decide_eq_true_eq];exact ny h
 have A:j.length=l.length:=by simpa using f.length_eq
 rw[m,A,dD]at g;obtain⟨a,c,rfl,H⟩:=WT U g;refine⟨a,c,rfl,?_⟩
 have e3:(encStr∘λx:ByteArray=>x.data.toList)=Value.string:=by
  funext x;obtain⟨d⟩:=x;simp[encStr]
 rw[e3]at H;exact H
def keysR_spec(mb:Option Nat)(w:World):CP 109 #[.map mb] w λe w'=>
  ∃q,e=eE0 (.func (.func 168) #[] #[pT0 q])/\Hp [] w w' [.blk q [.map mb] 114]:=by
 refine Calls.mono (callsIn_wide.1 (AnyZ.keys_in qR Fence.wide 5 trivial rfl mb w)) ?_;rintro e w' ⟨rfl,rfl⟩;exact⟨_,rfl,(Hp.start w).new ⟨rfl,rfl,rfl,rfl⟩ ⟨rfl,rfl⟩⟩
def sortedR_spec(q b:Nat)(al:List (ByteArray×Value))(w:World)(G:Blk w q [.map (some b)] 114)(N:MapAt F9 w b al)(l:LB0)(B:l.Perm (al.map (·.1)))
  (J:l.Pairwise λx y=>x.data.toList<y.data.toList) (O:∀x∈l,x.size<=maxLen) (o:al.length*16<=140737488355328):
  CP 102 #[.func (.func 168) #[] #[pT0 q]] w λe w'=>
   ∃a c,e=eE0 (.slice a l.length c)/\Hp [] w w' [.own 9 1 a l.length c (l.map .string)]:=by
 have C:(al.map (·.1)).Nodup:=B.nodup_iff.1 (J.imp λh e=>by subst e;exact lJ _ h);have r:al.length<=maxLen:=by simp only[maxLen];omega
 obtain⟨D,n,i,t,rfl,R⟩:=Qq N C r (λs=>.string s.data.toList) (λx y h=>by injection h) (λp F=>WideMaps.keyOf_string_mk (by kernel_rfl) (O _ (B.mem_iff.2 (aT.2 ⟨p,F,rfl⟩))));have u:=G.lt
 have z:SeqGives Fence.wide 2 PP 168 #[pT0 q] encStr (λj=>j.Perm (strKeys (.map t))) (Maps.size (.map t)) w:=
  AnyZ.keys_gives (ρ:=pG) {qR with} Fence.wide _ trivial rfl om q b al.length (.map t) w u (G.cell rfl) n
 have L:=AnyZ.sorted_in SQ Fence.wide 5 trivial trivial trivial trivial rfl om (Yl _) (enters_of Tryz.func130 (by kernel_rfl) rfl) 168 #[pT0 q] trivial (enters_of Tryz.func168 (by kernel_rfl) rfl) _ _ (by rw[i];exact r) (by rw[i];exact o) w z;change CallsIn _ _ PP 102 _ _ _ at L;refine Calls.mono (callsIn_wide.1 L) ?_;rintro e w' ⟨v,j,rfl,T,g,M,U⟩
 have f:j.Perm (l.map λx=>x.data.toList):=by
  refine T.trans ?_;have X:strKeys (.map t)=t.map λp=>strOf p.1:=rfl;rw[X];refine(R.map _).trans ?_;rw[dD];have Y:((λp:Lit×DataW Unit=>strOf p.1)∘λp:ByteArray×Value=>(Lit.string p.1.data.toList,DataW.nil))=(λx:ByteArray=>x.data.toList)∘(·.1):=rfl;rw[Y,<- dD];exact(B.symm.map _)
 have m:j.mergeSort (λx y=>decide (x<=y))=l.map λx=>x.data.toList:=by
  have Z:∀a b c:LU,decide (a<=b)=true->decide (b<=c)=true->decide (a<=c)=true:=λa b c n i=>by simp only[decide_eq_true_eq]at*;exact mM n i
  have to:∀a b:LU,(decide (a<=b)||decide (b<=a))=true:=λa b=>by simp;exact mP a b
  refine eY (le:=λa b=>decide (a<=b)=true) (λa b _ _ n i=>?_) (gy Z to j) (dV.2 (J.imp λh=>?_)) ((gY j _).trans f)
  ·simp at n i;exact mQ n i
  ·rw[decide_eq_true_eq];exact ny h
 have A:j.length=l.length:=by simpa using f.length_eq
 rw[m,A,dD]at g;obtain⟨a,c,rfl,H⟩:=WT U g;refine⟨a,c,rfl,?_⟩
 have e3:(encStr∘λx:ByteArray=>x.data.toList)=Value.string:=by
  funext x;obtain⟨d⟩:=x;simp[encStr]
 rw[e3]at H;exact H
def keysW_spec(mb:Option Nat)(w:World):CP 129 #[.map mb] w λe w'=>
  ∃q,e=eE0 (.func (.func 190) #[] #[pT0 q])/\Hp [] w w' [.blk q [.map mb] 125]:=by
 refine Calls.mono (callsIn_wide.1 (AnyZI.keys_in o9 Fence.wide 5 trivial rfl mb w)) ?_;rintro e w' ⟨rfl,rfl⟩;exact⟨_,rfl,(Hp.start w).new ⟨rfl,rfl,rfl,rfl⟩ ⟨rfl,rfl⟩⟩
def sortedW_spec(q b:Nat)(al:List (Int×Value))(w:World)(F:Blk w q [.map (some b)] 125)(M:MapAt (Df .i64) w b al)(l:List Int)(A:l.Perm (al.map (·.1)))
  (G:l.Pairwise λx y=>x<y) (N:∀x∈l,-9223372036854775808<=x/\x<=9223372036854775807) (j:al.length*8<=140737488355328):
  Calls Tryz.prog 128 #[.func (.func 190) #[] #[.pointer (some ⟨q,0,none⟩)]] w λe w'=>
   ∃a c,e=.returned (.slice a l.length c)/\Hp [] w w' [.own 3 1 a l.length c (l.map (.int .i64))]:=by
 have B:(al.map (·.1)).Nodup:=A.nodup_iff.1 (G.imp λh e=>by omega);have m:al.length<=maxLen:=by simp only[maxLen];omega
 obtain⟨D,z,n,o,rfl,O⟩:=Qq M B m (λs=>.int .i64 s) (λx y h=>by injection h) (λp C=>keyOf_int_mk (by kernel_rfl) (by
  have:=N _ (A.mem_iff.2 (aT.2 ⟨p,C,rfl⟩));simp only[Lit.wf,dJ,decide_eq_true_eq];exact DC.2 this))
 have r:=F.lt
 have t:SeqGives Fence.wide 2 Tryz.prog 190 #[.pointer (some ⟨q,0,none⟩)] encZ (λg=>g.Perm (intKeys (.map o))) (Maps.size (.map o)) w:=
  AnyZI.keys_gives (ρ:=qY) {o9 with} Fence.wide _ trivial rfl om q b al.length (.map o) w r (F.cell rfl) z
 have J:=AnyZI.sorted_in sortedIL Fence.wide 5 trivial trivial trivial trivial rfl om (sortsI _) (enters_of Tryz.func189 (by kernel_rfl) rfl) 190 #[.pointer (some ⟨q,0,none⟩)] trivial (enters_of Tryz.func190 (by kernel_rfl) rfl) _ _ (by rw[n];exact m) (by rw[n];exact j) w t;change CallsIn _ _ Tryz.prog 128 _ _ _ at J;refine Calls.mono (callsIn_wide.1 J) ?_;rintro e w' ⟨v,g,rfl,R,f,L,T⟩
 have d:g.Perm l:=by
  refine R.trans ?_;have U:intKeys (.map o)=o.map λp=>Go.intOf p.1:=rfl;rw[U];refine(O.map _).trans ?_;rw[dD];have X:((λp:Lit×DataW Unit=>Go.intOf p.1)∘λp:Int×Value=>(Lit.int IntKind.i64 p.1,DataW.nil))=(·.1):=rfl;rw[X];exact A.symm
 have i:g.mergeSort (λx y=>decide (x<=y))=l:=by
  have Y:∀a b c:Int,decide (a<=b)=true->decide (b<=c)=true->decide (a<=c)=true:=λa b c z n=>by simp only[decide_eq_true_eq]at*;omega
  have Z:∀a b:Int,(decide (a<=b)||decide (b<=a))=true:=λa b=>by simp;omega
  refine eY (le:=λa b=>decide (a<=b)=true) (λa b _ _ z n=>?_) (gy Y Z g) (G.imp λh=>?_) ((gY g _).trans d)
  ·simp at z n;omega
  ·rw[decide_eq_true_eq];omega
 have u:g.length=l.length:=d.length_eq;rw[i,u]at f;obtain⟨a,c,rfl,H⟩:=WT T f;exact⟨a,c,rfl,H⟩
end Go.Proofs.YtljenkbpnioipaaGreat
namespace Go.Proofs.YtljenkbpnioipaaGreat.Sl
open Go Go.Vc
def scl3:Scl PP 3:=BN (by kernel_rfl)
def scl5:Scl PP 5:=BN (by kernel_rfl)
def Ed:Scl PP 95:=BN (by kernel_rfl)
def Gv:Scl PP 59:=BN (by kernel_rfl)
def pV:Agg PP 162 4098:=DF (by kernel_rfl)
structure Pg where
 st:LU
 hdr:Nat
 dir:List (Nat×Nat)
 data:LU
 many:Nat
 low:Nat
def dirB(d:List (Nat×Nat)):LU:=d.flatMap λp=>be p.1 2++be p.2 2
def Pg.bs(g:Pg):LU:=g.st++(be g.hdr 2++(dirB g.dir++g.data))
def Pg.cells(g:Pg):LV:=Aa g.bs++[I (g.many:Int),I (g.low:Int)]
structure Pg.Ok(g:Pg):Prop where
 st:g.st.length=8
 hdr:g.hdr<65536
 dir:g.dir.length=120
 data:g.data.length=3606
 many:g.many<=120
 ent:∀p∈g.dir,p.1<65536/\p.2<65536
 low:g.low<=4096
def pgA(b:Nat)(g:Pg):Asn:=.blk b g.cells 162
theorem JY(d:List (Nat×Nat)):(dirB d).length=4*d.length:=by
 induction d with
 |nil=>rfl
 |cons p r a=>
  simp only[dirB,bU,aF,AU,aK]at a⊢;omega
def KJ(x y:List (Nat×Nat)):dirB (x++y)=dirB x++dirB y:=by simp[dirB]
def O6(p:Nat×Nat)(r:List (Nat×Nat)):dirB (p::r)=be p.1 2++be p.2 2++dirB r:=by simp[dirB]
def Ux{d:List (Nat×Nat)}{k:Nat}(h:k<d.length):d=d.take k++d[k]::d.drop (k+1):=by
 rw[<- bQ h,bz]
def Pg.Ok.len{g:Pg}(h:g.Ok):g.bs.length=4096:=by
 simp only[Pg.bs,aF,AU,JY,h.st,h.dir,h.data]
def Pg.Ok.clen{g:Pg}(h:g.Ok):g.cells.length=4098:=by
 simp only[Pg.cells,aF,Af,h.len,aK,dI]
def Pg.Ok.byte{g:Pg}(h:g.Ok){i:Nat}(a:i<4096):g.cells[i]? =some (.int .u8 ((g.bs[i]'(by rw[h.len];exact a)).toNat:Int)):=by
 rw[Pg.cells,bW (by rw[Af,h.len];exact a)];simp[Aa,aB (show i<g.bs.length by rw[h.len];exact a)]
def Pg.Ok.manyC{g:Pg}(h:g.Ok):g.cells[4096]? =some (I (g.many:Int)):=by
 rw[Pg.cells,bg (by rw[Af,h.len];exact aZ _),Af,h.len];rfl
def Pg.Ok.lowC{g:Pg}(h:g.Ok):g.cells[4097]? =some (I (g.low:Int)):=by
 rw[Pg.cells,bg (by rw[Af,h.len];omega),Af,h.len];rfl
def Pg.Ok.entry{g:Pg}(h:g.Ok){k:Nat}(a:k<120):(g.bs.drop (10+4*k)).take 4=be (g.dir[k]'(by rw[h.dir];exact a)).1 2++be (g.dir[k]'(by rw[h.dir];exact a)).2 2:=by
 have b:k<g.dir.length:=by rw[h.dir];exact a
 have e:g.bs=(g.st++be g.hdr 2++dirB (g.dir.take k))++((be g.dir[k].1 2++be g.dir[k].2 2)++(dirB (g.dir.drop (k+1))++g.data)):=by
  conv=>lhs;rw[Pg.bs,Ux b]
  rw[KJ,O6];simp
 have c:(g.st++be g.hdr 2++dirB (g.dir.take k)).length=10+4*k:=by
  simp only[aF,AU,JY,aI,h.st];omega
 rw[e,drop_left _ _ _ c];exact take_left _ _ 4 (by simp[AU])
def take2{l:LU}{i:Nat}(h:i+1<l.length):(l.drop i).take 2=[l[i],l[i+1]]:=by
 rw[bQ om,bQ om];rfl
def valN_two(x y:UInt8):valN [x,y]=x.toNat*256+y.toNat:=by simp[valN]
def Pg.Ok.ent1{g:Pg}(h:g.Ok){k:Nat}(a:k<120):valN ((g.bs.drop (10+4*k)).take 2)=(g.dir[k]'(by rw[h.dir];exact a)).1:=by
 have e:=h.entry a;have b:=h.ent _ (dw (show k<g.dir.length by rw[h.dir];exact a));have:(g.bs.drop (10+4*k)).take 2=((g.bs.drop (10+4*k)).take 4).take 2:=by rw[jF];rfl
 rw[this,e,take_left _ _ 2 (AU _ _)];have:=Fa (n:=((g.dir[k]'(by rw[h.dir];exact a)).1:Int)) (k:=2) om om;omega
def Pg.Ok.ent2{g:Pg}(h:g.Ok){k:Nat}(a:k<120):valN ((g.bs.drop (10+4*k+2)).take 2)=(g.dir[k]'(by rw[h.dir];exact a)).2:=by
 have e:=h.entry a;have b:=h.ent _ (dw (show k<g.dir.length by rw[h.dir];exact a));have:(g.bs.drop (10+4*k+2)).take 2=((g.bs.drop (10+4*k)).take 4).drop 2:=by rw[gp,dM]
 rw[this,e,drop_left _ _ 2 (AU _ _)];have:=Fa (n:=((g.dir[k]'(by rw[h.dir];exact a)).2:Int)) (k:=2) om om;omega
def PgAt(w:World)(b:Nat)(g:Pg):Prop:=g.Ok/\Blk w b g.cells 162
def PgAt.chg{w w':World}{b:Nat}{g:Pg}{S:LN0}(h:PgAt w b g)(a:Chg S w w')(c:b∉S):PgAt w' b g:=⟨h.1,h.2.chg a c⟩
def PgAt.ldB{w:World}{b:Nat}{g:Pg}(h:PgAt w b g){i:Nat}(a:i<4096):Ld PP 5 w ⟨b,i,none⟩ (.int .u8 ((g.bs[i]'(by rw[h.1.len];exact a)).toNat:Int)):=h.2.ld scl5.agg (h.1.byte a)
def PgAt.Ib{w:World}{b:Nat}{g:Pg}(h:PgAt w b g):Ld PP 3 w ⟨b,4096,none⟩ (I (g.many:Int)):=h.2.ld scl3.agg h.1.manyC
def PgAt.QY{w:World}{b:Nat}{g:Pg}(h:PgAt w b g):Ld PP 3 w ⟨b,4097,none⟩ (I (g.low:Int)):=h.2.ld scl3.agg h.1.lowC
def addB(b i:Nat):(⟨b,0,none⟩:Addr).add i=⟨b,i,none⟩:=by rw[add_lit,bu]
def Tq(b:Nat)(g:Pg)(i:Nat)(l:i+1<4096)(w:World)(h:PgAt w b g):
  CP 146 #[pT0 b,I (i:Int)] w λe w'=>e=eE0 (I (valN ((g.bs.drop i).take 2):Int))/\Hp [] w w' []:=by
 apply Je6;have H:=(Hp.start w).drew;have a:=h.chg H.chg (by simp);have m:=h.1.len;have c:Int.toNat (i:Int)*1=i:=om;have d:Int.toNat ((i:Int)+1)*1=i+1:=om;refine AA rfl ⟨⟨om,om⟩,_,by rw[c,addB];exact a.ldB om,om,?_⟩;have n:=(g.bs[i]' om).toNat_lt;have f:=(g.bs[i+1]' om).toNat_lt;rw[wrapByte];have j:(2:Int)^min (Int.toNat 8) (IntKind.bits .i64)=256:=by decide
 refine⟨DC.2 (by rw[j];omega),iR,AA rfl ⟨⟨om,om⟩,_,by rw[d,addB];exact a.ldB om,?_,H⟩⟩;rw[XM _ _ om f,take2 om,valN_two]
def JZ(b:Nat)(g:Pg)(k:Int)(w:World)(h:PgAt w b g):
  CP 86 #[pT0 b,I k] w λe w'=>e=eE0 (.tuple #[I (if 0<=k/\k<g.many then((g.dir.getD k.toNat (0,0)).1:Int)else 0),I (if 0<=k/\k<g.many then((g.dir.getD k.toNat (0,0)).2:Int)else 0)])/\Hp [] w w' []:=by
 apply Je2;have H:=Hp.start w;have m:=h.1.many;refine AB (λd=>?_) (λd=>AA rfl ⟨_,by rw[addB];exact h.Ib,AB (λf=>?_) (λf=>?_)⟩)
 ·rw[if_neg om,if_neg om];exact⟨rfl,H⟩
 ·rw[if_neg om,if_neg om];exact⟨rfl,H⟩
 ·obtain⟨K,rfl⟩:∃K:Nat,k=K:=⟨k.toNat,om⟩;have c:K<120:=om;rw[if_pos om,if_pos om];have i:(10:Int)+4*(K:Int)=((10+4*K:Nat):Int):=om;have j:((10+4*K:Nat):Int)+2=((10+4*K+2:Nat):Int):=om;rw[i,j];refine⟨iR,iR,AC (Tq b g _ om _ h) ?_⟩
  (rintro _ _ ⟨rfl,a⟩;(first|replace H:=H.ext0 a|replace H:=H.drew.ext0 a|replace H:=H.drew.drew.ext0 a);clear a;refine⟨_,rfl,?_⟩)
  refine⟨iR,iR,iR,AC (Tq b g _ om _ (h.chg H.chg (by simp))) ?_⟩
  (rintro _ _ ⟨rfl,a⟩;(first|replace H:=H.ext0 a|replace H:=H.drew.ext0 a|replace H:=H.drew.drew.ext0 a);clear a;refine⟨_,rfl,?_⟩)
  have l:K<g.dir.length:=by rw[h.1.dir];exact c
  rw[h.1.ent1 c,h.1.ent2 c];simp only[aJ,dG,aB l,fB];exact⟨trivial,H⟩
def ND(l:LU)(i:Nat)(x:UInt8):(Aa l).set i (.int .u8 (x.toNat:Int))=Aa (l.set i x):=by simp[Aa,oZ]
def Pg.cells_set{g:Pg}(h:g.Ok){i:Nat}(a:i<4096)(x:UInt8):g.cells.set i (.int .u8 (x.toNat:Int))=Aa (g.bs.set i x)++[I (g.many:Int),I (g.low:Int)]:=by
 rw[Pg.cells,jK,if_pos (by rw[Af,h.len];exact a),ND]
theorem set2(l:LU)(a x c:LU)(p q:UInt8)(b:x.length=2)(i:Nat)(d:i=a.length)(e:l=a++(x++c)):(l.set i p).set (i+1) q=a++([p,q]++c):=by
 subst e d
 match x,b with
 | [x1,x2],_=>
  rw[jK,if_neg om,iE];rw[jK,if_neg om,show a.length+1-a.length=1 by omega];rfl
def be2(n:Nat):be (n:Int) 2=[bt n 1,bt n 0]:=rfl
def lay_bytes(n:Nat):IntKind.u8.wrap (Int.fdiv (n:Int) (2^min (Int.toNat 8) (IntKind.bits .i64)))=((bt n 1).toNat:Int)/\IntKind.u8.wrap (n:Int)=((bt n 0).toNat:Int):=by
 have a:=Oq (n:Int) 1 om 1 rfl;have b:=Oq (n:Int) 0 om 0 rfl;refine⟨a,?_⟩;rw[<- b];simp
def Jb(b:Nat)(g d:Pg)(a x c:LU)(i n:Nat)(o:x.length=2)(p:a.length=i)(y:i+1<4096)(q:g.bs=a++(x++c))(f:d.bs=a++(be (n:Int) 2++c))(j:d.many=g.many)(l:d.low=g.low)(w:World)(h:PgAt w b g):
  CP 172 #[pT0 b,I (i:Int),I (n:Int)] w λe w'=>e=eE0 (.tuple #[])/\Hp [b] w w' [pgA b d]:=by
 apply Jb3;have H:Hp [b] w w [pgA b g]:=Hp.Gn (a:=pgA b g) h.2;replace H:=H.drew;have m:=h.1.clen;obtain⟨r,s⟩:=lay_bytes n;have t:Int.toNat (i:Int)*1=i:=om;have u:Int.toNat ((i:Int)+1)*1=i+1:=om;refine⟨iR,om,AA rfl ⟨⟨om,om⟩,AA rfl ?_⟩⟩;rw[t,u,addB,addB,r,s];refine Hp.st H EQ4 scl5 rfl rfl (by rw[m];omega) rfl ?_;intro z H;rw[Pg.cells_set h.1 om]at H;refine⟨⟨om,om⟩,Hp.st H EQ4 scl5 rfl rfl (by rw[aF,Af,bV,h.1.len];simp;omega) rfl ?_⟩;intro A H;rw[jK,if_pos (by rw[Af,bV,h.1.len];omega),ND,set2 g.bs a x c _ _ o i p.symm q,<- be2,<- f,<- j,<- l,<- Pg.cells]at H;exact⟨rfl,H⟩
def Pg.pU{g:Pg}(h:g.Ok){k:Nat}(b:k<120)(p q:Nat):({g with dir:=g.dir.set k (p,q)}:Pg).bs=(g.st++be g.hdr 2++dirB (g.dir.take k))++(be p 2++(be q 2++(dirB (g.dir.drop (k+1))++g.data))):=by
 have a:k<g.dir.length:=by rw[h.dir];exact b
 have e:g.dir.set k (p,q)=g.dir.take k++(p,q)::g.dir.drop (k+1):=by
  rw[kK,if_pos a]
 simp only[Pg.bs,e,KJ,O6,ax]
def setD(g:Pg)(k at_ long:Nat):Pg:= {g with dir:=g.dir.set k (at_,long)}
def Y9{g:Pg}(h:g.Ok){k at_ a:Nat}(c:at_<65536)(d:a<65536):(setD g k at_ a).Ok:=
 ⟨h.st,h.hdr,by simp[setD,h.dir],h.data,h.many,λp b=>by
  rcases fM b with b|rfl
  ·exact h.ent p b
  ·exact⟨c,d⟩,h.low⟩
def Om(b:Nat)(g:Pg)(k at_ a:Nat)(l:k<120)(o:at_<65536)(r:a<65536)(w:World)(h:PgAt w b g):
  CP 171 #[pT0 b,I (k:Int),I (at_:Int),I (a:Int)] w λe w'=>e=eE0 (.tuple #[])/\(setD g k at_ a).Ok/\Hp [b] w w' [pgA b (setD g k at_ a)]:=by
 apply Je1;have d:k<g.dir.length:=by rw[h.1.dir];exact l
 have s:(10:Int)+4*(k:Int)=((10+4*k:Nat):Int):=om;have t:((10+4*k:Nat):Int)+2=((10+4*k+2:Nat):Int):=om;rw[s,t]
 have p:(g.st++be g.hdr 2++dirB (g.dir.take k)).length=10+4*k:=by
  simp only[aF,AU,JY,aI,h.1.st];omega
 have c:g.bs=(g.st++be g.hdr 2++dirB (g.dir.take k))++(be g.dir[k].1 2++(be g.dir[k].2 2++(dirB (g.dir.drop (k+1))++g.data))):=by
  conv=>lhs;rw[Pg.bs,Ux d]
  rw[KJ,O6];simp
 have f:=h.1.ent _ (dw d);refine⟨iR,iR,AC (Jb b g (setD g k at_ g.dir[k].2) _ _ _ _ at_ (AU _ 2) p om c (Pg.pU h.1 l _ _) rfl rfl w h) ?_⟩;rintro e q ⟨rfl,H⟩;have m:=Y9 (k:=k) h.1 o f.2;have u:PgAt q b (setD g k at_ g.dir[k].2):=⟨m,H.ok _ (.head _)⟩;refine⟨rfl,iR,iR,iR,?_⟩;have n:(g.st++be g.hdr 2++dirB (g.dir.take k)++be (at_:Int) 2).length=10+4*k+2:=by rw[aF,p,AU]
 have i:=Pg.pU h.1 l at_ g.dir[k].2
 have j:=Pg.pU h.1 l at_ a
 rw[<- ax]at i j;refine AC (Jb b _ (setD g k at_ a) _ _ _ _ a (AU _ 2) n om i j rfl rfl q u) ?_;rintro e y ⟨rfl,x⟩;exact⟨rfl,rfl,Y9 h.1 o r,H.Ba x⟩
def atOf(g:Pg)(k:Nat):Nat:=(g.dir.getD k (0,0)).1
def lenOf(g:Pg)(k:Nat):Nat:=(g.dir.getD k (0,0)).2
theorem Pg.Ok.atB{g:Pg}(h:g.Ok)(k:Nat):atOf g k<65536/\lenOf g k<65536:=by
 simp only[atOf,lenOf,dG];cases hk:g.dir[k]? with
 |none=>simp
 |some p=>exact h.ent p (aG hk)
def Qy(b:Nat)(g:Pg)(k:Nat)(a:k<g.many)(w:World)(h:PgAt w b g):
  CP 86 #[pT0 b,I (k:Int)] w λe w'=>e=eE0 (.tuple #[I (atOf g k:Int),I (lenOf g k:Int)])/\Hp [] w w' []:=by
 refine Calls.mono (JZ b g k w h) ?_;rintro e w' ⟨rfl,H⟩;rw[if_pos om,if_pos om];exact⟨rfl,H⟩
def each_spec(b:Nat)(q:Value)(N:Nat)(I:Nat->World->Prop)(J:World->Prop)(w:World)(r:I 0 w)(l:∃g,PgAt w b g/\g.many=N)
  (t:∀k w,k<N->I k w->∃g,PgAt w b g/\g.many=N/\∀w',Hp [] w w' []->(atOf g k=0->I (k+1) w')/\(0<atOf g k->CallX Tryz.prog q [.int .i64 (k:Int)] w' λe d=>(e=.returned (.bool true)/\I (k+1) d)\/(e=.returned (.bool false)/\J d))):
  Calls Tryz.prog 85 #[.pointer (some ⟨b,0,none⟩),q] w λe w'=>e=.returned (.tuple #[])/\(I N w'\/J w'):=by
 apply Jaf;obtain⟨B,f,i⟩:=l;have C:N<=120:=by rw[<- i];exact f.1.many
 refine AA rfl ⟨_,by rw[addB];exact f.Ib,?_⟩;rw[i];refine LoopP.mk (λm s w'=>∃k:Nat,m=N-k/\s=(k:Int)/\k<=N/\I k w') N ⟨0,rfl,rfl,bY _,r⟩ ?_;rintro m s w' next ⟨k,rfl,rfl,D,j⟩ a
 refine AB (λh=>?_) (λh=>?_)
 ·obtain⟨g,u,x,c⟩:=t k w' om j;refine AC (Qy b g k om _ u) ?_;rintro e y ⟨rfl,H⟩;obtain⟨n,o⟩:=c y H;refine⟨_,_,rfl,AB (λz=>?_) (λz=>?_)⟩
  ·refine Y3 (o om) ?_;rintro e F (⟨rfl,p⟩|⟨rfl,A⟩)
   ·exact⟨_,rfl,Ec (λh=>by cases h) λ_=>⟨iR,a (N-(k+1)) _ _ om ⟨k+1,rfl,by simp,om,p⟩⟩⟩
   ·exact⟨_,rfl,Ec (λ_=>⟨rfl,.inr A⟩) λh=>by cases h⟩
  ·exact⟨iR,a (N-(k+1)) _ _ om ⟨k+1,rfl,by simp,om,n om⟩⟩
 ·have:k=N:=om;subst this;exact⟨rfl,.inl j⟩
def FQ{B:LN0}{w0 w:World}{L R:List Asn}{x:Asn}(H:Hp B w0 w (L++x::R)):Hp B w0 w (x::(L++R)):=H.perm bI
def front_mid{B:LN0}{w0 w:World}{L R:List Asn}{x:Asn}(H:Hp B w0 w (x::(L++R))):Hp B w0 w (L++x::R):=H.perm bI.symm
def UD{B:LN0}{w0 w:World}{L R:List Asn}{l:Nat}{o o':Obj}(H:Hp B w0 w (L++objA l o::R)):Hp B w0 (w.putObj l o') (L++objA l o'::R):=front_mid (FQ H).putO
def Jh{σ ρ:Type}{d:Int->World->(World->(World->Prop)->Prop)->(World->Prop)->(World->Prop)->(Nat->World->Prop)->Prop}{Z Qr:Nat->World->Prop}{Qx:Nat->Nat->World->Prop}{B:LN0}{w0 w:World}
  (b N:Nat) (G:Nat->σ->Pg) (Lk:Nat->σ->List Asn) (a:Nat->σ->Prop) (J:ρ->List Asn) (f:ρ->Prop) (o:σ) (t:a 0 o) (H:Hp B w0 w (Lk 0 o))
  (u:∀k x w' T,a k x->Hp B w0 w' (Lk k x++T)->PgAt w' b (G k x)/\(G k x).many=N)
  (j:∀k x,k<N->a k x->atOf (G k x) k=0->∃x',a (k+1) x'/\Lk (k+1) x'=Lk k x)
  (i:∀k x,k<N->a k x->0<atOf (G k x) k->∀(w':World)(T0 K:List Asn)(g:World->(World->Prop)->Prop)(kn kr:WP)(kx:Nat->World->Prop),Hp B w0 w' (Lk k x++T0)->
   (∀L:World->Prop,(∀p,Hp B w0 p (Lk k x++K)->L p)->g w' L)->(∀m x',a (k+1) x'->Hp B w0 m (Lk (k+1) x'++K)->kn m)->(∀m y,f y->Hp B w0 m (J y++K)->kr m)->d (k:Int) w' g kn kr kx)
  (z:∀x D w',a N x->Hp B w0 w' (Lk N x++[objA D (.deferred (some []))])->Z D w')
  (A:∀y D w',f y->Hp B w0 w' (J y++[objA D (.deferred (some []))])->Qr D w'):
  RangeP PP 85 [pT0 b] [] (λs:Int=>[I s]) d w Z Qr Qx:=by
 refine⟨λD l wa M h hD hl hy=>?_⟩
 have H2:Hp B w0 M (Lk 0 o++[objA l (h .ready none),objA D (.deferred (some []))]):=by
  have h1:=H.newO ⟨rfl,rfl,rfl,rfl⟩ hD;have h2:=h1.newO ⟨rfl,rfl,rfl,rfl⟩ hl;refine h2.perm ?_;exact(dS (l₁:=[objA l (h .ready none),objA D (.deferred (some []))]) (l₂:=Lk 0 o))
 refine AC (each_spec b _ N (λk w'=>∃x,a k x/\Hp B w0 w' (Lk k x++[objA l (h .ready none),objA D (.deferred (some []))])) (λw'=>∃y,f y/\Hp B w0 w' (J y++[objA l (h .done (some .ret)),objA D (.deferred (some []))])) M ⟨o,t,H2⟩ ⟨_,u 0 o M _ t H2⟩ ?_) ?_
 ·rintro k w' hk ⟨x,C,q⟩;obtain⟨O,R⟩:=u k x w' _ C q;refine⟨_,O,R,λp Hw=>⟨λU=>?_,λU=>?_⟩⟩
  ·obtain⟨x',n,he⟩:=j k x hk C U;exact⟨x',n,by rw[he];exact q.ext0 Hw⟩
  ·have r:=q.ext0 Hw;have c:=(FQ r).obj (.head _);refine hy (k:Int) p _ (i k x hk C U p _ [objA l (h .busy none),objA D (.deferred (some []))] _ _ _ _ r ?_ ?_ ?_) c
   ·intro L X;exact⟨c,X _ (UD r)⟩
   ·intro m x' n F;exact⟨(FQ F).obj (.head _),.inl ⟨rfl,x',n,UD F⟩⟩
   ·intro m y Y F;exact⟨(FQ F).obj (.head _),.inr ⟨rfl,y,Y,UD F⟩⟩
 ·rintro e p ⟨rfl,⟨x,C,q⟩|⟨y,Y,r⟩⟩
  ·exact⟨_,rfl,.inl ⟨(FQ q).obj (.head _),z x D _ C (FQ q).putO.drop⟩⟩
  ·exact⟨_,rfl,.inr (.inl ⟨(FQ r).obj (.head _),A y D _ Y (FQ r).putO.drop⟩)⟩
def live(g:Pg)(k:Nat):LN0:=(List.range k).filter λj=>decide (0<atOf g j)
def JK(g:Pg)(k:Nat):live g (k+1)=if 0<atOf g k then live g k++[k]else live g k:=by
 simp only[live,iT,gJ];split<;>rename_i h<;>simp[h]
def SX(g:Pg)(k:Nat):(live g k).length<=k:=by
 have:=jH (λj=>decide (0<atOf g j)) (List.range k)
 rwa [fZ]at this
def intC(l:LN0):LV:=l.map λ(k:Nat)=>I (k:Int)
def ZK:Elt PP 59 3 1 8:=DD (by kernel_rfl)
def Y8:PP.underlying 59=some (.slice 3):=by kernel_rfl
def slots_spec(b:Nat)(g:Pg)(w:World)(h:PgAt w b g):
  CP 47 #[pT0 b] w λe w'=>∃a c,e=eE0 (.slice a (live g g.many).length c)/\Hp [] w w' [.own 3 1 a (live g g.many).length c (intC (live g g.many))]:=by
 apply Je3;have H:=Hp.start w;have l:maxLen=9223372036854775807:=by simp[maxLen]
 have z:=h.1.many
 (intro _ _ d;replace H:=H.nw d;clear d)
 rename_i n _;refine⟨_,_,_,rfl,⟨_,_,Tryz.func85,rfl⟩,?_⟩
 refine Jh b g.many (λ_ _=>g) (λk (x:OA×Nat)=>[.own 3 1 x.1 (live g k).length x.2 (intC (live g k)),.blk n [.slice x.1 (live g k).length x.2] 59]) (λ_ _=>True) (λ_:Unit=>[]) (λ_=>False) (none,0) trivial (by simpa [live,intC]using H.nilS 3 1)
  (λk x w' T _ H=>⟨h.chg H.chg (by simp),rfl⟩) (λk x o _ m=>⟨x,trivial,by rw[JK,if_neg om]⟩) ?_ ?_ (λy D w' p _=>p.elim)
 ·clear H;intro k x o _ m w' A B i C F G _ f j _;refine f _ λJ H=>?_;simp at H;have q:=SX g k
  (refine⟨_,_,_,H.lo Gv,?_⟩;intro _ _ d;replace H:=H.nw d;clear d)
  refine Hp.app ZK om H.AX EQ4 (Blk.src Y8 (H.blk (.head _)) rfl rfl) om om ?_;intro r s K H
  (refine H.Am.sx Gv ?_;clear H;intro _ H;(try simp only[over,bf,bZ]at H))
  have e:live g (k+1)=live g k++[k]:=by rw[JK,if_pos m]
  refine j _ (r,s) trivial ?_;have t:(live g (k+1)).length=(live g k).length+1:=by rw[e];simp
  have u:intC (live g (k+1))=intC (live g k)++[I (k:Int)]:=by rw[e];simp[intC]
  rw[t,u];exact H.del2.AX
 ·clear H;intro x D w' _ H;simp at H
  (refine⟨_,_,_,H.lo Gv,?_⟩)
  refine Hp.shut H.Am λL H=>?_;exact⟨x.1,x.2,rfl,H.MI⟩
def total(g:Pg)(k:Nat):Nat:=((live g k).map (lenOf g)).sum
def MV(g:Pg)(k:Nat):total g (k+1)=if 0<atOf g k then total g k+lenOf g k else total g k:=by
 simp only[total,JK];split<;>simp
theorem total_le{g:Pg}(h:g.Ok)(k:Nat):total g k<=65535*k:=by
 induction k with
 |zero=>exact jb rfl
 |succ k a=>
  rw[MV,Nat.mul_succ];have:=(h.atB k).2;generalize 65535*k=y at a⊢;split<;>omega
def room_spec(b:Nat)(g:Pg)(w:World)(h:PgAt w b g):
  CP 169 #[pT0 b] w λe w'=>e=eE0 (I (3600-(total g g.many:Int)))/\Hp [] w w' []:=by
 apply Jeb;have H:=Hp.start w;have p:=h.1.many
 (intro _ _ a;replace H:=H.nw a;clear a;intro _ _ a;replace H:=H.nw a;clear a;refine H.sx scl3 ?_;clear H;intro _ H;(try simp only[over,bf,bZ]at H);refine⟨_,H.lo Ed,?_⟩)
 rename_i l _ m _ _;refine⟨_,_,_,rfl,⟨_,_,Tryz.func85,rfl⟩,?_⟩
 refine Jh b g.many (λ_ _=>g) (λk (_:Unit)=>[.blk m [I (3600-(total g k:Int))] 3,.blk l [pT0 b] 95]) (λ_ _=>True) (λ_:Unit=>[]) (λ_=>False) () trivial (by simpa [total,live]using H)
  (λk x w' T _ H=>⟨h.chg H.chg (by simp),rfl⟩) (λk x i _ j=>⟨x,trivial,by rw[MV,if_neg om]⟩) ?_ ?_ (λy D w' n _=>n.elim)
 ·clear H;intro k x i _ j w' q r d s t u _ c f _;refine c _ λz H=>?_;simp at H;have A:=(h.1.atB k).2;have B:=total_le h.1 k
  (refine⟨_,H.lo Ed,?_⟩)
  refine AC (Qy b g k i _ (h.chg H.chg (by simp))) ?_;rintro e C ⟨rfl,o⟩;replace H:=H.ext0 o;refine⟨_,_,rfl,?_⟩
  (refine⟨_,H.lo scl3,?_⟩)
  refine⟨iR,?_⟩
  (refine H.sx scl3 ?_;clear H;intro _ H;(try simp only[over,bf,bZ]at H))
  refine f _ () trivial ?_;have e:(3600:Int)-(total g (k+1):Int)=3600-(total g k:Int)-(lenOf g k:Int):=by rw[MV,if_pos j];omega
  rw[e];exact H
 ·clear H;intro x D w' _ H;simp at H
  (refine⟨_,H.lo scl3,?_⟩)
  refine Hp.shut H.Am λF H=>?_;exact⟨rfl,H.done⟩
def XU:PP.underlying 159=some (.slice 5):=by kernel_rfl
def und5:PP.underlying 5=some (.int .u8):=by kernel_rfl
def und9:PP.underlying 9=some .string:=by kernel_rfl
def PgAt.cellsB{w:World}{b:Nat}{g:Pg}(h:PgAt w b g)(i:Nat)(n:Nat)(e:i+n<=4096):Cells w (slA (sP0 b) 4096 i 1) (Aa ((g.bs.drop i).take n)):=by
 intro j v a;have f:=h.1.len
 have c:j<n:=by
  have:=(aA.1 a).1;rw[Af,aI,cO]at this;omega
 have d:v=.int .u8 ((g.bs[i+j]' om).toNat:Int):=by
  simp only[Aa,au,fF,eF,if_pos c,aB (show i+j<g.bs.length by omega),dF,Option.some.injEq]at a;exact a.symm
 subst d;unfold slA;rw[if_neg om];refine⟨_,rfl,?_⟩;rw[bT,add_add,addB];exact h.2.cell (h.1.byte om)
def recB(g:Pg)(k:Nat):LU:=(g.bs.drop (atOf g k)).take (lenOf g k)
def get_spec(b:Nat)(g:Pg)(k:Int)(w:World)(h:PgAt w b g)(a:∀j,j<g.many->atOf g j+lenOf g j<=4096):
  CP 48 #[pT0 b,I k] w λe w'=>e=eE0 (if 0<=k/\k<g.many/\0<atOf g k.toNat then .tuple #[sv (recB g k.toNat),.bool true]else .tuple #[sv [],.bool false])/\Hp [] w w' []:=by
 apply Jbj;have H:=Hp.start w;refine AC (JZ b g k w h) ?_;rintro e f ⟨rfl,i⟩;replace H:=H.ext0 i;refine⟨_,_,rfl,?_⟩;by_cases c:0<=k/\k<g.many
 ·rw[if_pos c,if_pos c];obtain⟨K,rfl⟩:∃K:Nat,k=K:=⟨k.toNat,om⟩;have l:K<g.many:=om;have m:=a K l;rw[aJ];show br (decide ((atOf g K:Int)=0)) _ _;refine AB (λn=>?_) (λn=>AA rfl ?_)
  ·rw[if_neg om];exact⟨rfl,H⟩
  ·rw[if_pos ⟨om,om,om⟩];have o:Int.toNat (atOf g K:Int)=atOf g K:=om;have p:Int.toNat ((atOf g K:Int)+(lenOf g K:Int))=atOf g K+lenOf g K:=om;show inR .i64 ((atOf g K:Int)+(lenOf g K:Int))/\_;refine⟨iR,⟨om,om,by show(atOf g K:Int)+(lenOf g K:Int)<=4096;omega⟩,⟨(recB g K).toArray⟩,?_,rfl,H⟩;show B2S PP 159 9 f (.slice (slA (sP0 b) 4096 (Int.toNat (atOf g K:Int)) 1) (Int.toNat ((atOf g K:Int)+(lenOf g K:Int))-Int.toNat (atOf g K:Int)) _) _;rw[o,p];have q:=h.1.len;exact b2s XU und5 und9 (by rw[Cj];exact(h.chg H.chg (by simp)).cellsB _ _ m) (by simp[ByteArray.size,recB];omega)
 ·rw[if_neg c,if_neg c,if_neg (λd=>c ⟨d.1,d.2.1⟩)];exact AB (λ_=>⟨rfl,H⟩) (λh=>absurd rfl h)
abbrev Recs:=List (Nat×LU)
def tot(L:Recs):Nat:=(L.map (·.2.length)).sum
def Laid(d:List (Nat×Nat)):Nat→Recs→Prop
  |a,[]=>a=4096
  |a,(k,s)::r=>d[k]? =some (a,s.length)∧Laid d (a+s.length) r
structure Rep(g:Pg)(L:Recs)(stamp:Nat):Prop where
  ok:g.Ok
  st:g.st=be (stamp:Int) 8
  stamp:stamp≤4611686018427387904
  hdr:g.hdr=g.many
  sorted:L.Pairwise λx y=>x.1<y.1
  below:∀p∈L,p.1<g.many
  last:g.many=0∨∃s,(g.many-1,s)∈L
  free:∀k,k<g.many→(∀s,(k,s)∉L)→g.dir.getD k (0,0)=(0,0)
  ord:∃ord:Recs,ord.Perm L∧Laid g.dir g.low ord∧g.data.drop (g.low-490)=ord.flatMap (·.2)
  small:tot L≤3600
  low:g.low+tot L=4096
def OZ{x y:Recs}(h:x.Perm y):tot x=tot y:=(h.map _).sum_nat
def Sr(x y:Recs):tot (x++y)=tot x+tot y:=by simp[tot]
def Dt(p:Nat×LU)(y:Recs):tot (p::y)=p.2.length+tot y:=by simp[tot]
theorem BU(x:Recs):(x.flatMap (·.2)).length=tot x:=by
  induction x with
  |nil=>rfl
  |cons p r a=>rw[bU,aF,a,Dt]
theorem NP{d:List (Nat×Nat)}:∀(b:Recs){a k:Nat}{s:LU}{c:Recs},Laid d a (b++(k,s)::c)→d[k]? =some (a+tot b,s.length)∧Laid d (a+tot b+s.length) c
  | [],a,k,s,c,h=>by simpa [tot,Laid]using h
  |(j,t)::b,a,k,s,c,h=>by
    obtain⟨_,e⟩:=h;have:=NP b e;rw[Dt,show a+(t.length+tot b)=a+t.length+tot b by omega];exact this
theorem YQ{d:List (Nat×Nat)}:∀(x:Recs){a:Nat},Laid d a x→a+tot x=4096
  | [],a,h=>by simpa [tot,Laid]using h
  |(k,s)::r,a,h=>by
    have:=YQ r h.2;rw[Dt];simp only;omega
def sorted_nodup{L:Recs}(h:L.Pairwise λx y=>x.1<y.1):(L.map (·.1)).Nodup:=by
  rw[List.nodup_iff_pairwise_ne,dV];exact h.imp λh=>by omega
theorem one_key{L:Recs}(h:L.Pairwise λx y=>x.1<y.1){k:Nat}{s t:LU}(b:(k,s)∈L)(i:(k,t)∈L):s=t:=by
  induction L with
  |nil=>cases b
  |cons p r j=>
    obtain⟨c,l⟩:=bH.1 h;rcases aP.1 b with d|e<;>rcases aP.1 i with a|f
    · rw[← d]at a;exact(Prod.mk.inj a).2.symm
    · have:=c _ f;rw[← d]at this;simp at this
    · have:=c _ e;rw[← a]at this;simp at this
    · exact j l e f
theorem Ve:∀{x y:LN0},x.Pairwise (· < ·)→y.Pairwise (· < ·)→(∀k,k∈x↔k∈y)→x=y
  | [],[],_,_,_=>rfl
  | [],b::y,_,_,h=>by have:=(h b).2 (.head _);cases this
  |a::x,[],_,_,h=>by have:=(h a).1 (.head _);cases this
  |a::x,b::y,hx,hy,h=>by
    obtain⟨c,i⟩:=bH.1 hx;obtain⟨d,j⟩:=bH.1 hy
    have l:a=b:=by
      rcases aP.1 ((h a).1 (.head _))with e|m
      · exact e
      · rcases aP.1 ((h b).2 (.head _))with e|n
        · exact e.symm
        · have:=d a m;have:=c b n;omega
    subst l;congr 1;refine Ve i j λk=>⟨λf=>?_,λf=>?_⟩
    · rcases aP.1 ((h k).1 (.tail _ f))with e|m
      · subst e;have:=c k f;omega
      · exact m
    · rcases aP.1 ((h k).2 (.tail _ f))with e|m
      · subst e;have:=d k f;omega
      · exact m
section
variable {g : Pg} {L : Recs} {stamp : Nat}
def Rep.entry(h:Rep g L stamp){k:Nat}{s:LU}(i:(k,s)∈L):∃b a:Recs,(b++(k,s)::a).Perm L∧Laid g.dir g.low (b++(k,s)::a)∧g.data.drop (g.low-490)=(b++(k,s)::a).flatMap (·.2)∧g.dir[k]? =some (g.low+tot b,s.length)∧g.low+tot b+s.length+tot a=4096∧496≤g.low:=by
  obtain⟨j,c,d,l⟩:=h.ord;obtain⟨b,a,e⟩:=fO (c.mem_iff.2 i);subst e;have f:=NP b d;have m:=YQ a f.2;have:=h.low;have:=h.small;exact⟨b,a,c,d,l,f.1,m,om⟩
def Oc{d:List (Nat×Nat)}{k:Nat}{p:Nat×Nat}(h:d[k]? =some p):d.getD k (0,0)=p:=by rw[dG,h];rfl
def Rep.at_(h:Rep g L stamp){k:Nat}{s:LU}(f:(k,s)∈L):496≤atOf g k∧lenOf g k=s.length∧atOf g k+lenOf g k≤4096∧recB g k=s:=by
  obtain⟨a,b,o,p,i,j,q,r⟩:=h.entry f;have e:=Oc j;have l:atOf g k=g.low+tot a:=by rw[atOf,e]
  have c:lenOf g k=s.length:=by rw[lenOf,e]
  refine⟨om,c,om,?_⟩
  have m:g.bs.drop 490=g.data:=by
    have:g.bs=(g.st++(be g.hdr 2++dirB g.dir))++g.data:=by simp[Pg.bs]
    rw[this];exact drop_left _ _ _ (by simp only[aF,AU,JY,h.ok.st,h.ok.dir])
  have d:=h.ok.low
  have:g.bs.drop (atOf g k)=(g.data.drop (g.low-490)).drop (tot a):=by
    have n:atOf g k=490+(g.low-490)+tot a:=by
      rw[l];omega
    rw[← m,dM,dM,n,jQ]
  rw[recB,this,i,c,dQ,bU];rw[drop_left _ _ _ (BU a)];exact take_left _ _ _ rfl
def Rep.JO(h:Rep g L stamp){k:Nat}:(k<g.many∧0<atOf g k)↔∃s,(k,s)∈L:=by
  constructor
  · rintro⟨c,b⟩
    refine az λd=>?_;have:=h.free k c λs a=>d ⟨s,a⟩;rw[atOf,this]at b;simp at b
  · rintro⟨s,a⟩
    have:=h.at_ a;exact⟨h.below _ a,om⟩
def Rep.Qz(h:Rep g L stamp):live g g.many=L.map (·.1):=by
  refine Ve ?_ ?_ λk=>?_
  · exact mi.filter _
  · rw[dV];exact h.sorted
  · simp only[live,dO,dh,decide_eq_true_eq,h.JO,aT]
    constructor
    · rintro⟨s,a⟩;exact⟨_,a,rfl⟩
    · rintro⟨⟨b,s⟩,a,rfl⟩;exact⟨s,a⟩
def Rep.total_eq(h:Rep g L stamp):total g g.many=tot L:=by
  rw[total,h.Qz,tot,dD];congr 1;refine lF λp a=>?_;exact(h.at_ (s:=p.2) a).2.1
def Rep.fit(h:Rep g L stamp)(j:Nat)(b:j<g.many):atOf g j+lenOf g j≤4096:=by
  by_cases a:∃s,(j,s)∈L
  · obtain⟨s,a⟩:=a;exact(h.at_ a).2.2.1
  · have:=h.free j b λs c=>a ⟨s,c⟩
    rw[atOf,lenOf,this];simp
end
def Bl(d:List (Nat×Nat))(a n k:Nat):List (Nat×Nat):=d.mapIdx λj p=>if j<k∧0<p.1∧p.1≤a then(p.1+n,p.2)else p
def Ce(d:List (Nat×Nat))(a n k j:Nat):(Bl d a n k)[j]? =d[j]?.map λp=>if j<k∧0<p.1∧p.1≤a then(p.1+n,p.2)else p:=by
  simp[Bl]
def shiftD_zero(d:List (Nat×Nat))(a n:Nat):Bl d a n 0=d:=by
  apply dK;intro j;rw[Ce];cases d[j]? <;>simp
def Jt(d:List (Nat×Nat))(a n k:Nat):(Bl d a n k).length=d.length:=by simp[Bl]
def VJ(d:List (Nat×Nat))(a n k:Nat):(Bl d a n k).getD k (0,0)=d.getD k (0,0):=by
  simp only[dG,Ce];cases d[k]? <;>simp
theorem QP(d:List (Nat×Nat))(a n k:Nat):Bl d a n (k+1)=if 0<(d.getD k (0,0)).1∧(d.getD k (0,0)).1≤a then(Bl d a n k).set k ((d.getD k (0,0)).1+n,(d.getD k (0,0)).2)else Bl d a n k:=by
  apply dK;intro j;by_cases h:j=k
  · subst h
    by_cases i:j<d.length
    · have e:d[j]? =some d[j]:=aB i
      have f:d.getD j (0,0)=d[j]:=Oc e;rw[f];split
      · rename_i c
        rw[iG (by rw[Jt];exact i),Ce,e];simp[c.1,c.2]
      · rename_i c
        rw[Ce,Ce,e];simp only[dF];rw[if_neg (λl=>c l.2),if_neg om]
    · have e:d[j]? =none:=bF om
      have f:d.getD j (0,0)=(0,0):=by rw[dG,e];rfl
      rw[f,if_neg (by simp),Ce,Ce,e];rfl
  · have m:(Bl d a n (k+1))[j]? =(Bl d a n k)[j]? :=by
      rw[Ce,Ce];cases d[j]? with
      |none=>rfl
      |some p=>
        simp;by_cases b:j<k
        · simp[b,show j<k+1 by omega]
        · simp[b,show¬j<k+1 by omega]
    rw[m];split
    · rw[iq (Ne.symm h)]
    · rfl
def trim(d:List (Nat×Nat)):Nat→Nat
  |0=>0
  |m+1=>if(d.getD m (0,0)).1=0 then trim d m else m+1
theorem OU(d:List (Nat×Nat)):∀m,trim d m≤m
  |0=>aZ _
  |m+1=>by
    rw[trim];split
    · exact jk (OU d m)
    · exact aZ _
theorem Vt(d:List (Nat×Nat)):∀m,trim d m=0∨(d.getD (trim d m-1) (0,0)).1≠0
  |0=>.inl rfl
  |m+1=>by
    rw[trim];split
    · exact Vt d m
    · right;simpa using ‹_›
theorem NG(d:List (Nat×Nat)):∀m k,trim d m≤k→k<m→(d.getD k (0,0)).1=0
  |0,k,_,h=>by omega
  |m+1,k,h1,h2=>by
    rw[trim]at h1;split at h1
    · by_cases a:k=m
      · subst a;assumption
      · exact NG d m k h1 om
    · omega
def EG (g : Pg) (k : Nat) : Pg :=
  let a := atOf g k
  let n := lenOf g k
  let d := (Bl g.dir a n g.many).set k (0,0)
  { g with dir := d,low := g.low + n,many := trim d g.many,hdr := trim d g.many
           data := g.data.take (g.low - 490) ++ (List.replicate n 0 ++ ((g.data.drop (g.low - 490)).take (a - g.low) ++ g.data.drop (a + n - 490))) }
theorem Rep.drop{g:Pg}{L:Recs}{stamp:Nat}(h:Rep g L stamp){k:Nat}{s:LU}(hm:(k,s)∈L):Rep (EG g k) (L.filter λp=>p.1 !=k) stamp:=by
  obtain⟨pre,post,h1,h2,h3,h4,h5,h6⟩:=h.entry hm;have hat:=h.at_ hm;have hkm:=h.below _ hm;have e:=Oc h4;have ea:atOf g k=g.low+tot pre:=by rw[atOf,e]
  have el:lenOf g k=s.length:=by rw[lenOf,e]
  have hok:=h.ok;have hdl:=hok.data;have hml:=hok.many;have hnd:((pre++(k,s)::post).map (·.1)).Nodup:=(h1.map _).nodup_iff.2 (sorted_nodup h.sorted)
  have hkpre:∀p∈pre,p.1≠k:=by
    intro p hp he;rw[ai,aj,bD]at hnd;exact hnd.2.2 _ (iM hp) _ (.head _) he
  have hkpost:∀p∈post,p.1≠k:=by
    intro p hp he;rw[ai,aj,bD]at hnd;exact(bM.1 hnd.2.1).1 (by show k∈post.map (·.1);rw[← he];exact iM hp)
  have hfilt:(pre++(k,s)::post).filter (λp=>p.1 !=k)=pre++post:=by
    rw[gJ,dL];have a1:pre.filter (λp=>p.1 !=k)=pre:=gX.2 λp hp=>by simpa using hkpre p hp
    have a2:post.filter (λp=>p.1 !=k)=post:=gX.2 λp hp=>by simpa using hkpost p hp
    simp[a1,a2]
  have hperm:(pre++post).Perm (L.filter λp=>p.1 !=k):=by rw[← hfilt];exact h1.filter _
  have htot:tot (pre++(k,s)::post)=tot L:=OZ h1;rw[Sr,Dt]at htot;simp only at htot;have hlow:=h.low;have hsmall:=h.small
  have hd':∀j t a,(j,t)∈pre++post→g.dir[j]? =some (a,t.length)→(EG g k).dir[j]? =some (if 0<a∧a≤atOf g k then a+s.length else a,t.length):=by
    intro j t a hj hd
    have hjk:j≠k:=by
      rcases aW.1 hj with hj|hj
      · exact hkpre _ hj
      · exact hkpost _ hj
    have hjm:j<g.many:=h.below (j,t) (h1.mem_iff.1 (by simp at hj⊢;rcases hj with hj|hj<;>simp[hj]));show((Bl g.dir (atOf g k) (lenOf g k) g.many).set k (0,0))[j]? =_;rw[iq (Ne.symm hjk),Ce,hd];simp only[dF,hjm,true_and,el];split<;>simp
  have hfree:∀j,j<g.many→(∀t,(j,t)∉pre++post)→(EG g k).dir.getD j (0,0)=(0,0):=by
    intro j hj hn;show((Bl g.dir (atOf g k) (lenOf g k) g.many).set k (0,0)).getD j (0,0)=_;rw[dG];by_cases hjk:j=k
    · subst hjk
      rw[iG (by rw[Jt,hok.dir];omega)];rfl
    · rw[iq (Ne.symm hjk),Ce]
      have:=h.free j hj λt ht=>by
        rcases aW.1 (h1.mem_iff.2 ht)with h7|h7
        · exact hn t (aS _ h7)
        · rcases aP.1 h7 with h8|h8
          · exact hjk (Prod.mk.inj h8).1
          · exact hn t (aO _ h8)
      rw[dG]at this;cases hd:g.dir[j]? with
      |none=>rfl
      |some p=>rw[hd]at this;simp at this;subst this;simp
  have hlaid:Laid (EG g k).dir (EG g k).low (pre++post):=by
    have hpo:=(NP pre h2).2
    have hpre:∀(x:Recs)(a:Nat)(y:Recs),Laid g.dir a (x++(k,s)::y)→(∀p∈x,p∈pre++post)→0<a→a+tot x=atOf g k→Laid (EG g k).dir (a+s.length+tot x) y→Laid (EG g k).dir (a+s.length) (x++y):=by
      intro x
      induction x with
      |nil=>intro a y _ _ _ _ hy;simpa [tot]using hy
      |cons p x ih=>
        intro a y hl hx h0 hle hy;obtain⟨j,t⟩:=p;obtain⟨hl1,hl2⟩:=hl;rw[Dt]at hle hy;simp only at hle hy;refine⟨?_,?_⟩
        · rw[hd' j t a (hx _ (.head _)) hl1,if_pos ⟨h0,om⟩]
        · rw[show a+s.length+t.length=a+t.length+s.length by omega]
          refine ih (a+t.length) y hl2 (λq hq=>hx q (.tail _ hq)) om om ?_;rw[show a+t.length+s.length+tot x=a+s.length+(t.length+tot x) by omega];exact hy
    have hpost:∀(y:Recs)(a:Nat),Laid g.dir a y→(∀p∈y,p∈pre++post)→atOf g k+s.length≤a→Laid (EG g k).dir a y:=by
      intro y
      induction y with
      |nil=>intro a hl _ _;exact hl
      |cons p y ih=>
        intro a hl hy hle;obtain⟨j,t⟩:=p;obtain⟨hl1,hl2⟩:=hl;refine⟨?_,ih _ hl2 (λq hq=>hy q (.tail _ hq)) om⟩;rw[hd' j t a (hy _ (.head _)) hl1];split
        · rename_i hc
          have:s.length=0:=om;rw[this];rfl
        · rfl
    have:=hpre pre g.low post h2 (λp hp=>aS _ hp) om om (by
      rw[show g.low+s.length+tot pre=g.low+tot pre+s.length by omega];exact hpost post _ hpo (λp hp=>aO _ hp) om)
    show Laid (EG g k).dir (g.low+lenOf g k) (pre++post);rw[el];exact this
  have hmany:(EG g k).many=trim (EG g k).dir g.many:=rfl
  have hin:∀j t,(j,t)∈pre++post→j<g.many∧0<((EG g k).dir.getD j (0,0)).1:=by
    intro j t hj;have hjm:(j,t)∈L:=h1.mem_iff.1 (by simp only[aW,aP]at hj⊢;rcases hj with hj|hj<;>simp[hj]);obtain⟨_,_,_,_,_,hj4,_,_⟩:=h.entry hjm;refine⟨h.below _ hjm,?_⟩;rw[Oc (hd' j t _ hj hj4)];simp only;split<;>omega
  have hpt:tot (pre++post)+s.length=tot L:=by rw[Sr];omega
  have hpt2:tot (L.filter λp=>p.1 !=k)=tot (pre++post):=(OZ hperm).symm;refine⟨⟨hok.st,?_,?_,?_,?_,?_,?_⟩,h.st,h.stamp,rfl,h.sorted.filter _,?_,?_,?_,⟨pre++post,hperm,hlaid,?_⟩,om,?_⟩
  · have:=OU (EG g k).dir g.many
    show trim (EG g k).dir g.many<65536;omega
  · show((Bl g.dir (atOf g k) (lenOf g k) g.many).set k (0,0)).length=120
    rw[bV,Jt,hok.dir]
  · show(g.data.take (g.low-490)++(List.replicate (lenOf g k) 0++((g.data.drop (g.low-490)).take (atOf g k-g.low)++g.data.drop (atOf g k+lenOf g k-490)))).length=3606
    simp only[aF,aI,dX,cO,hdl];omega
  · have:=OU (EG g k).dir g.many
    show trim (EG g k).dir g.many≤120;omega
  · intro p hp
    have hp':p∈(Bl g.dir (atOf g k) (lenOf g k) g.many).set k (0,0):=hp;rcases fM hp' with hp'|rfl
    · obtain⟨j,hj⟩:=ay hp'
      rw[Ce]at hj;cases hd:g.dir[j]? with
      |none=>rw[hd]at hj;cases hj
      |some q=>
        rw[hd]at hj;simp only[dF,Option.some.injEq]at hj;have:=hok.ent q (aG hd);rw[← hj];split
        · simp only;omega
        · exact this
    · simp
  · show g.low+lenOf g k≤4096
    omega
  · rintro⟨j,t⟩ hp
    obtain⟨hj1,hj2⟩:=hin j t (hperm.mem_iff.2 hp);rw[hmany];refine az λhn=>?_;have:=NG (EG g k).dir g.many j (by simp only at hn;omega) hj1;omega
  · rw[hmany]
    rcases Vt (EG g k).dir g.many with h0|h0
    · exact .inl h0
    · refine .inr ?_
      have htl:=OU (EG g k).dir g.many;by_cases hz:trim (EG g k).dir g.many=0
      · exfalso
        apply h0;rw[hz];by_cases hmz:0<g.many
        · exact NG (EG g k).dir g.many 0 om hmz
        · omega
      refine az λhn=>h0 ?_;rw[hfree _ om λt ht=>hn ⟨t,hperm.mem_iff.1 ht⟩]
  · intro j hj hn
    rw[hmany]at hj;have htl:=OU (EG g k).dir g.many;exact hfree j om λt ht=>hn t (hperm.mem_iff.1 ht)
  · show(g.data.take (g.low-490)++(List.replicate (lenOf g k) 0++((g.data.drop (g.low-490)).take (atOf g k-g.low)++g.data.drop (atOf g k+lenOf g k-490)))).drop (g.low+lenOf g k-490)=_
    rw[← ax,drop_left _ _ _ (by simp only[aF,aI,dX,hdl];omega)]
    have e6:(g.data.drop (g.low-490)).take (atOf g k-g.low)=pre.flatMap (·.2):=by
      rw[h3,dQ];exact take_left _ _ _ (by rw[BU];omega)
    have e7:g.data.drop (atOf g k+lenOf g k-490)=post.flatMap (·.2):=by
      have:atOf g k+lenOf g k-490=(g.low-490)+(tot pre+s.length):=om;rw[this,← dM,h3,dQ,bU,← ax];exact drop_left _ _ _ (by rw[aF,BU])
    rw[e6,e7,dQ]
  · show g.low+lenOf g k+_=4096
    omega
def Pg.W9{g:Pg}(h:g.Ok)(m:Nat):g.cells.set 4096 (I (m:Int))=({g with many:=m}:Pg).cells:=by
 rw[Pg.cells,jK,if_neg (by rw[Af,h.len];omega),Af,h.len];rfl
def Pg.Yn{g:Pg}(h:g.Ok)(m:Nat):g.cells.set 4097 (I (m:Int))=({g with low:=m}:Pg).cells:=by
 rw[Pg.cells,jK,if_neg (by rw[Af,h.len];omega),Af,h.len];rfl
def sl(i:Nat):Nat:=if 4096=i then 0 else i
def Rf(b i:Nat):slA (sP0 b) 4096 i 1=some ⟨b,sl i,none⟩:=by
 unfold slA sl;split
 ·rfl
 ·rw[dF,bT,addB]
def WO(x:LV)(i:Nat)(cs:LV)(h:i+x.length<=4096):over x (sl i) cs=over x i cs:=by
 unfold sl;split
 ·have:x=[]:=bC om;subst this;rw[over_nil,over_nil]
 ·rfl
def Z8(i:Nat):sl i<=i:=by unfold sl;split<;>omega
def GU(g:Pg)(i:Nat)(x:LU):Pg:= {g with data:=g.data.take (i-490)++(x++g.data.drop (i-490+x.length))}
def MO{g:Pg}(h:g.Ok){i:Nat}{x:LU}(a:490<=i)(b:i+x.length<=4096):(GU g i x).Ok:=
 ⟨h.st,h.hdr,h.dir,by simp only[GU,aF,aI,cO,h.data];omega,h.many,h.ent,h.low⟩
def PQ{g:Pg}(h:g.Ok){i:Nat}{x:LU}(q:490<=i)(r:i+x.length<=4096):over (Aa x) i g.cells=(GU g i x).cells:=by
 have f:=h.data
 have e:g.data=g.data.take (i-490)++((g.data.drop (i-490)).take x.length++g.data.drop (i-490+x.length)):=by
  rw[<- dM,bz,bz]
 obtain⟨p,j⟩:∃p,p=g.st++(be g.hdr 2++dirB g.dir):=⟨_,rfl⟩;have c:p.length=490:=by rw[j];simp only[aF,AU,JY,h.st,h.dir]
 have l:∀d:LU,({g with data:=d}:Pg).bs=p++d:=λd=>by rw[j];simp[Pg.bs]
 have a:g.bs=p++g.data:=l g.data
 have m:g.cells=Aa (p++g.data.take (i-490))++(Aa ((g.data.drop (i-490)).take x.length)++(Aa (g.data.drop (i-490+x.length))++[I (g.many:Int),I (g.low:Int)])):=by
  conv=>lhs;rw[Pg.cells,a,e]
  simp only[Cm,ax]
 have n:(GU g i x).cells=Aa (p++g.data.take (i-490))++(Aa x++(Aa (g.data.drop (i-490+x.length))++[I (g.many:Int),I (g.low:Int)])):=by
  show Aa ({g with data:=g.data.take (i-490)++(x++g.data.drop (i-490+x.length))}:Pg).bs++_=_;rw[l];simp only[Cm,ax];rfl
 have o:(Aa (p++g.data.take (i-490))).length=i:=by rw[Af,aF,c,aI,f];omega
 rw[m,n];have b:=Ey (Aa x) (Aa (p++g.data.take (i-490))) (Aa ((g.data.drop (i-490)).take x.length)) (Aa (g.data.drop (i-490+x.length))++[I (g.many:Int),I (g.low:Int)]) (by rw[Af,Af,aI,cO,f];omega);rw[o]at b;exact b
def QX(n:Nat):List.replicate n (Value.int .u8 0)=Aa (List.replicate n 0):=by simp[Aa]
def zero5:zeroOf PP 5=some (.int .u8 0):=by kernel_rfl
def pgOf{B:LN0}{w0 w w':World}{L:List Asn}{b:Nat}{g:Pg}(a:g.Ok)(H:Hp B w0 w L)(e:Eqw w w')(m:pgA b g∈L):PgAt w' b g:=⟨a,(H.go e).ok _ m⟩
def nodrop_spec(b:Nat)(g:Pg)(k:Int)(f:¬(0<=k/\k<g.many/\0<atOf g k.toNat))(w:World)(h:PgAt w b g):
  CP 170 #[pT0 b,I k] w λe w'=>e=eE0 (.tuple #[])/\Hp [] w w' []:=by
 apply Jae;have H:=Hp.start w
 (intro _ _ a;replace H:=H.nw a;clear a)
 (refine⟨_,H.lo Ed,?_⟩)
 refine AC (JZ b g k _ (h.chg H.chg (by simp))) ?_;rintro e j ⟨rfl,i⟩;replace H:=H.ext0 i
 have c:(if 0<=k/\k<(g.many:Int)then((g.dir.getD k.toNat (0,0)).1:Int)else 0)=0:=by
  split
  ·rename_i d;have:¬0<atOf g k.toNat:=λc=>f ⟨d.1,d.2,c⟩;have l:(g.dir.getD k.toNat (0,0)).1=atOf g k.toNat:=rfl;omega
  ·rfl
 rw[c];refine⟨_,_,rfl,?_⟩
 (intro _ _ a;replace H:=H.nw a;clear a)
 (intro _ _ a;replace H:=H.nw a;clear a)
 (refine H.AX.sx scl3 ?_;clear H;intro _ H;(try simp only[over,bf,bZ]at H))
 (refine H.AX.sx scl3 ?_;clear H;intro _ H;(try simp only[over,bf,bZ]at H))
 (refine⟨_,H.lo scl3,?_⟩)
 exact AB (λ_=>⟨rfl,H.done⟩) (λh=>absurd rfl h)
theorem drop_spec(b:Nat)(g:Pg)(L:Recs)(stamp:Nat)(hR:Rep g L stamp)(K:Nat)(s:LU)(hK:(K,s)∈L)(w:World)(h:Blk w b g.cells 162):
  CP 170 #[pT0 b,I (K:Int)] w λe w'=>e=eE0 (.tuple #[])/\Hp [b] w w' [pgA b (EG g K)]:=by
 apply Jae;have H:Hp [b] w w [pgA b g]:=Hp.Gn (a:=pgA b g) h;have hok:=hR.ok;have hml:=hok.many;have hdl:=hok.data;obtain⟨pre,post,p1,p2,p3,p4,p5,p6⟩:=hR.entry hK;obtain⟨q1,q2,q3,q4⟩:=hR.at_ hK;have hkm:=hR.below _ hK;have ea:atOf g K=g.low+tot pre:=by rw[atOf,Oc p4]
 (intro _ _ hn;replace H:=H.nw hn;clear hn)
 (refine⟨_,H.lo Ed,?_⟩)
 refine AC (Qy b g K hkm _ ⟨hok,H.ok _ m1⟩) ?_;rintro e w1 ⟨rfl,H'⟩;replace H:=H.ext0 H';refine⟨_,_,rfl,?_⟩
 (intro _ _ hn;replace H:=H.nw hn;clear hn)
 (intro _ _ hn;replace H:=H.nw hn;clear hn)
 (refine H.AX.sx scl3 ?_;clear H;intro _ H;(try simp only[over,bf,bZ]at H))
 (refine H.AX.sx scl3 ?_;clear H;intro _ H;(try simp only[over,bf,bZ]at H))
 (refine⟨_,H.lo scl3,?_⟩)
 rename_i b0 _ b1 _ b2 _ _ _;generalize hat:atOf g K=at_ at*
 generalize hln:lenOf g K=n at*;refine AB (λh0=>absurd h0 om) (λ_=>?_);replace H:=H.drew;have hpl:∀w',Hp [b] w w' [.blk b2 [I (n:Int)] 3,.blk b1 [I (at_:Int)] 3,.blk b0 [pT0 b] 95,pgA b g]->PgAt w' b g:=λw' H=>⟨hok,H.ok _ m3⟩
 (refine⟨_,H.lo Ed,?_⟩)
 refine AA rfl ?_
 (refine⟨_,H.lo Ed,?_⟩)
 refine AA rfl ⟨_,by rw[addB];exact(hpl _ H).QY,?_⟩
 (refine⟨_,H.lo scl3,?_⟩)
 refine⟨iR,?_⟩
 (refine⟨_,H.lo scl3,?_⟩)
 (refine⟨_,H.lo scl3,?_⟩)
 have e1:Int.toNat ((g.low:Int)+(n:Int))=g.low+n:=om;have e2:Int.toNat ((at_:Int)+(n:Int))=at_+n:=om
 have e3:Int.toNat (g.low:Int)=g.low:=om;have e4:Int.toNat (at_:Int)=at_:=om
 dsimp only;rw[e1,e2];refine⟨iR,⟨om,om,om⟩,?_⟩
 (refine⟨_,H.lo Ed,?_⟩)
 refine AA rfl ?_
 (refine⟨_,H.lo Ed,?_⟩)
 refine AA rfl ⟨_,by rw[addB];exact(hpl _ H).QY,?_⟩
 (refine⟨_,H.lo scl3,?_⟩)
 dsimp only;rw[e3,e4];refine⟨⟨om,om,om⟩,?_⟩;have hcell:=(hpl _ H).cellsB g.low (at_-g.low) om;rw[Rf]at hcell;rw[Rf,Rf];have hbl:((g.bs.drop g.low).take (at_-g.low)).length=at_-g.low:=by rw[aI,cO,hok.len];omega
 have hsl:=Z8 (g.low+n);refine Hp.cpy H.EQ EQ4 XU scl5.size (Cells.src XU hcell (by rw[Af,hbl,bT]) (NQ _) (λh=>by cases h)) om (by rw[hok.clen];omega) ?_;intro w3 H
 have hd490:g.bs.drop 490=g.data:=by
  have:g.bs=(g.st++(be g.hdr 2++dirB g.dir))++g.data:=by simp[Pg.bs]
  rw[this];exact drop_left _ _ _ (by simp only[aF,AU,JY,hok.st,hok.dir])
 have hmv:(g.bs.drop g.low).take (at_-g.low)=(g.data.drop (g.low-490)).take (at_-g.low):=by
  rw[<- hd490,dM,show 490+(g.low-490)=g.low by omega]
 rw[WO _ _ _ (by rw[Af,hbl];omega),PQ hok om (by rw[hbl];omega)]at H;have ok1:=MO hok (i:=g.low+n) om (by rw[hbl];omega);obtain⟨g1,hg1⟩:∃g1,g1=GU g (g.low+n) ((g.bs.drop g.low).take (at_-g.low)):=⟨_,rfl⟩;rw[<- hg1]at H ok1;have hdir1:g1.dir=g.dir:=by rw[hg1];rfl
 have hmany1:g1.many=g.many:=by rw[hg1];rfl
 have hlow1:g1.low=g.low:=by rw[hg1];rfl
 have okS:∀k,({g1 with dir:=Bl g.dir at_ n k}:Pg).Ok:=λk=>⟨ok1.st,ok1.hdr,by rw[Jt];exact hok.dir,ok1.data,ok1.many,λp hp=>by
  obtain⟨j,hj⟩:=ay hp;rw[Ce]at hj;cases hd:g.dir[j]? with
  |none=>rw[hd]at hj;cases hj
  |some q=>
   rw[hd]at hj;simp at hj;have:=hok.ent q (aG hd);rw[<- hj];split
   ·simp only;omega
   ·exact this,ok1.low⟩
 have hatS:∀k,atOf {g1 with dir:=Bl g.dir at_ n k} k=atOf g k/\lenOf {g1 with dir:=Bl g.dir at_ n k} k=lenOf g k:=λk=>by
  refine⟨?_,?_⟩
  ·show((Bl g.dir at_ n k).getD k (0,0)).1=_;rw[VJ];rfl
  ·show((Bl g.dir at_ n k).getD k (0,0)).2=_;rw[VJ];rfl
 have H:Hp [b] w w3 [pgA b {g1 with dir:=Bl g.dir at_ n 0},.blk b2 [I (n:Int)] 3,.blk b1 [I (at_:Int)] 3,.blk b0 [pT0 b] 95]:=by
  rw[shiftD_zero,<- hdir1];exact H
 replace H:=H.EQ
 (refine⟨_,H.lo Ed,?_⟩)
 refine⟨_,_,_,rfl,⟨_,_,Tryz.func85,rfl⟩,?_⟩
 refine Jh b g.many (λk (_:Unit)=> {g1 with dir:=Bl g.dir at_ n k}) (λk (_:Unit)=>[pgA b {g1 with dir:=Bl g.dir at_ n k},.blk b2 [I (n:Int)] 3,.blk b1 [I (at_:Int)] 3,.blk b0 [pT0 b] 95]) (λ_ _=>True) (λ_:Unit=>[]) (λ_=>False) () trivial (by((try dsimp only[cons_append,nil_append]);(try dsimp only[cons_append,nil_append]at H);refine Hp.perm H ?_;(repeat(apply JJ;(focus first|exact OC|exact Na|exact Oh|exact perm_p3|exact perm_p4|exact perm_p5|exact perm_p6|exact perm_p7|exact perm_p8|exact perm_p9)));exact jU _))
  (λk x w' T _ H=>⟨⟨okS k,H.ok _ (.head _)⟩,hmany1⟩) (λk x hk _ h0=>⟨x,trivial,by
   rw[(hatS k).1]at h0;have h0':(g.dir.getD k (0,0)).1=0:=h0;rw[QP,if_neg om]⟩) ?_ ?_ (λy D w' hs _=>hs.elim)
 ·clear H;intro k x hk _ h0 w' T0 T1 begin kn kr kx _ hbeg hkn _;refine hbeg _ λw2 H=>?_;simp at H;replace H:=H.EQ
  (refine⟨_,H.lo Ed,?_⟩)
  replace H:=H.AX;have hA:=pgOf (okS k) H EQ4 (by repeat first|exact .head _|refine .tail _ ?_);refine AC (Qy b _ k (by rw[hmany1];exact hk) _ hA) ?_;rintro e w4 ⟨rfl,H'⟩;replace H:=H.ext0 H';rw[(hatS k).1,(hatS k).2];rw[(hatS k).1]at h0;have hb:=hok.atB k;refine⟨_,_,rfl,?_⟩;replace H:=H.EQ
  (refine⟨_,H.lo scl3,?_⟩)
  have key:=QP g.dir at_ n k
  refine AB (λhle=>?_) (λhle=>?_)
  ·(refine⟨_,H.lo Ed,?_⟩)
   (refine⟨_,H.lo scl3,?_⟩)
   refine⟨iR,?_⟩;have e5:(atOf g k:Int)+(n:Int)=((atOf g k+n:Nat):Int):=om
   try dsimp only
   rw[e5];replace H:Hp [b] w w4 (pgA b {g1 with dir:=Bl g.dir at_ n k}::.blk b2 [I (n:Int)] 3::.blk b1 [I (at_:Int)] 3::.blk b0 [pT0 b] 95::T1):=by((try dsimp only[cons_append,nil_append]);(try dsimp only[cons_append,nil_append]at H);refine Hp.perm H ?_;(repeat(apply JJ;(focus first|exact OC|exact Na|exact Oh|exact perm_p3|exact perm_p4|exact perm_p5|exact perm_p6|exact perm_p7|exact perm_p8|exact perm_p9)));exact jU _)
   refine AC (Om b _ k (atOf g k+n) (lenOf g k) om om om _ (pgOf (okS k) H EQ4 (by repeat first|exact .head _|refine .tail _ ?_))) ?_;rintro e w5 ⟨rfl,_,H'⟩;replace H:=Hp.Ba H H'
   have hs:setD {g1 with dir:=Bl g.dir at_ n k} k (atOf g k+n) (lenOf g k)= {g1 with dir:=Bl g.dir at_ n (k+1)}:=by
    rw[key,if_pos ⟨h0,by show atOf g k<=at_;omega⟩];rfl
   rw[hs]at H;exact⟨rfl,hkn _ () trivial (by((try dsimp only[cons_append,nil_append]);(try dsimp only[cons_append,nil_append]at H);refine Hp.perm H ?_;(repeat(apply JJ;(focus first|exact OC|exact Na|exact Oh|exact perm_p3|exact perm_p4|exact perm_p5|exact perm_p6|exact perm_p7|exact perm_p8|exact perm_p9)));exact jU _))⟩
  ·refine hkn _ () trivial ?_;have hs:Bl g.dir at_ n (k+1)=Bl g.dir at_ n k:=by rw[key,if_neg (λhh=>hle (by have h9:atOf g k<=at_:=hh.2;omega))]
   rw[hs]
   ((try dsimp only[cons_append,nil_append]);(try dsimp only[cons_append,nil_append]at H);refine Hp.perm H ?_;(repeat(apply JJ;(focus first|exact OC|exact Na|exact Oh|exact perm_p3|exact perm_p4|exact perm_p5|exact perm_p6|exact perm_p7|exact perm_p8|exact perm_p9)));exact jU _)
 ·clear H;intro x D w' _ H;simp only[aC,aN]at H;obtain⟨gS,hgS⟩:∃gS:Pg,gS= {g1 with dir:=Bl g.dir at_ n g.many}:=⟨_,rfl⟩;have okg:gS.Ok:=by rw[hgS];exact okS _
  rw[<- hgS]at H;have hlowS:gS.low=g.low:=by rw[hgS];exact hlow1
  have hmanyS:gS.many=g.many:=by rw[hgS];exact hmany1
  (refine⟨_,H.lo Ed,?_⟩)
  refine AA rfl ?_
  (refine⟨_,H.lo Ed,?_⟩)
  refine AA rfl ⟨_,by rw[addB];exact(pgOf okg H EQ4 (by repeat first|exact .head _|refine .tail _ ?_)).QY,?_⟩
  (refine⟨_,H.lo Ed,?_⟩)
  refine AA rfl ⟨_,by rw[addB];exact(pgOf okg H EQ4 (by repeat first|exact .head _|refine .tail _ ?_)).QY,?_⟩
  (refine⟨_,H.lo scl3,?_⟩)
  try dsimp only
  rw[hlowS,e1,e3];refine⟨iR,⟨om,om,om⟩,?_⟩;rw[Rf,show g.low+n-g.low=n by omega];refine Hp.clr (e:=5) H EQ4 XU zero5 rfl rfl (by rw[okg.clen];have:=Z8 g.low;omega) ?_;intro w4 H;rw[WO _ _ _ (by rw[dX];omega),QX,PQ okg om (by rw[dX];omega)]at H;have okc:=MO okg (i:=g.low) (x:=List.replicate n 0) om (by rw[dX];omega);obtain⟨gC,hgC⟩:∃gC:Pg,gC=GU gS g.low (List.replicate n 0):=⟨_,rfl⟩;rw[<- hgC]at H okc;have hlowC:gC.low=g.low:=by rw[hgC];exact hlowS
  have hmanyC:gC.many=g.many:=by rw[hgC];exact hmanyS
  replace H:Hp [b] w w4 [.blk b gC.cells 162,.blk b2 [I (n:Int)] 3,.blk b1 [I (at_:Int)] 3,.blk b0 [pT0 b] 95,objA D (.deferred (some []))]:=by((try dsimp only[cons_append,nil_append]);(try dsimp only[cons_append,nil_append]at H);refine Hp.perm H ?_;(repeat(apply JJ;(focus first|exact OC|exact Na|exact Oh|exact perm_p3|exact perm_p4|exact perm_p5|exact perm_p6|exact perm_p7|exact perm_p8|exact perm_p9)));exact jU _)
  (refine⟨_,H.lo Ed,?_⟩)
  refine AA rfl ⟨_,by rw[addB];exact(pgOf okc H EQ4 (.head _)).QY,?_⟩
  (refine⟨_,H.lo scl3,?_⟩)
  rw[hlowC];refine⟨iR,AA rfl ?_⟩;have e6:(g.low:Int)+(n:Int)=((g.low+n:Nat):Int):=om;rw[addB,e6];refine Hp.st H EQ4 scl3 rfl rfl (by rw[okc.clen];omega) (Pg.Yn okc _) ?_;intro w5 H;have okl:({gC with low:=g.low+n}:Pg).Ok:=⟨okc.st,okc.hdr,okc.dir,okc.data,okc.many,okc.ent,by show g.low+n<=4096;omega⟩
  (refine⟨_,H.lo Ed,?_⟩)
  refine AC (Om b _ K 0 0 om om om _ (pgOf okl H EQ4 (.head _))) ?_;rintro e w6 ⟨rfl,okk,H'⟩;replace H:=Hp.Ba (a:=pgA b _) H H';refine⟨rfl,?_⟩;obtain⟨gK,hgK⟩:∃gK:Pg,gK=setD {gC with low:=g.low+n} K 0 0:=⟨_,rfl⟩;rw[<- hgK]at H okk;have hmanyK:gK.many=g.many:=by rw[hgK];exact hmanyC
  have okM:∀m,m<=g.many->({gK with many:=m}:Pg).Ok:=λm hm=>⟨okk.st,okk.hdr,okk.dir,okk.data,by show m<=120;omega,okk.ent,okk.low⟩
  have hfin: {gK with many:=trim gK.dir g.many,hdr:=trim gK.dir g.many}=EG g K:=by
   have hD:gK.dir=(Bl g.dir at_ n g.many).set K (0,0):=by rw[hgK,hgC,hgS];rfl
   have hdat:gK.data=g.data.take (g.low-490)++(List.replicate n 0++((g.data.drop (g.low-490)).take (at_-g.low)++g.data.drop (at_+n-490))):=by
    have a1:gK.data=gS.data.take (g.low-490)++(List.replicate n 0++gS.data.drop (g.low-490+n)):=by rw[hgK,hgC];simp[setD,GU]
    have a2:gS.data=g.data.take (g.low+n-490)++((g.data.drop (g.low-490)).take (at_-g.low)++g.data.drop (at_+n-490)):=by
     rw[hgS,hg1,hmv];show g.data.take (g.low+n-490)++((g.data.drop (g.low-490)).take (at_-g.low)++g.data.drop (g.low+n-490+((g.data.drop (g.low-490)).take (at_-g.low)).length))=_;congr 3;rw[<- hmv,hbl];omega
    rw[a1,a2];congr 1
    ·rw[kw (by rw[aI,hdl];omega),jF];congr 1;omega
    ·congr 1;exact drop_left _ _ _ (by rw[aI,hdl];omega)
   have hst:gK.st=g.st:=by rw[hgK,hgC,hgS,hg1];rfl
   have hlw:gK.low=g.low+n:=by rw[hgK];rfl
   unfold EG;simp only[hat,hln];rw[hD,hdat,hst,hlw]
  refine LoopP.mk (λmm s w'=>mm<=g.many/\trim gK.dir mm=trim gK.dir g.many/\Hp [b] w w' [.blk b ({gK with many:=mm}:Pg).cells 162,.blk b2 [I (n:Int)] 3,.blk b1 [I (at_:Int)] 3,.blk b0 [pT0 b] 95,objA D (.deferred (some []))]) g.many ⟨aZ _,rfl,by rw[<- hmanyK];exact H⟩ ?_;rintro m s w7 next ⟨hm,htr,H⟩ hnext
  have fin:∀w7,m<=g.many->trim gK.dir m=m->trim gK.dir m=trim gK.dir g.many->Hp [b] w w7 [.blk b ({gK with many:=m}:Pg).cells 162,.blk b2 [I (n:Int)] 3,.blk b1 [I (at_:Int)] 3,.blk b0 [pT0 b] 95,objA D (.deferred (some []))]->
    CallV PP 172 [pT0 b,I 8,I (m:Int)] w7 λe w'=>e=eE0 (.tuple #[])/\∃w1,ShutD w' D w1/\(λe w'=>e=Ending.returned (.tuple #[])/\Hp [b] w w' [pgA b (EG g K)]) (eE0 (.tuple #[])) w1:=by
   intro w7 hm h1 h2 H;have hb:∀k,({gK with many:=m,hdr:=k}:Pg).bs=gK.st++(be (k:Int) 2++(dirB gK.dir++gK.data)):=λk=>rfl;refine AC (Jb b {gK with many:=m} {gK with many:=m,hdr:=m} gK.st (be gK.hdr 2) (dirB gK.dir++gK.data) 8 m (AU _ 2) okk.st om rfl (hb m) rfl rfl _ (pgOf (okM m hm) H EQ4 (.head _))) ?_;rintro e w8 ⟨rfl,H'⟩;replace H:=Hp.Ba (a:=pgA b _) H H';refine⟨rfl,Hp.shut H.Ij λw9 H=>⟨rfl,?_⟩⟩;rw[<- hfin,<- h2,h1];exact H.MI
  (refine⟨_,H.lo Ed,?_⟩)
  refine AA rfl ⟨_,by rw[addB];exact(pgOf (okM m hm) H EQ4 (.head _)).Ib,?_⟩;refine AB (λh0=>?_) (λh0=>?_)
  ·obtain⟨m,rfl⟩:∃m',m=m'+1:=⟨m-1,by have:(0:Int)<((m:Nat):Int):=h0;omega⟩
   (refine⟨_,H.lo Ed,?_⟩)
   (refine⟨_,H.lo Ed,?_⟩)
   refine AA rfl ⟨_,by rw[addB];exact(pgOf (okM _ hm) H EQ4 (.head _)).Ib,?_⟩;have e7:(((m+1:Nat):Int))-1=(m:Int):=om;have e8:(10:Int)+4*(m:Int)=((10+4*m:Nat):Int):=om;show inR .i64 (((m+1:Nat):Int)-1)/\inR .i64 (4*(((m+1:Nat):Int)-1))/\inR .i64 (10+4*(((m+1:Nat):Int)-1))/\CallV PP 146 [_,I (10+4*(((m+1:Nat):Int)-1))] _ _
   try dsimp only
   rw[e7,e8];refine⟨iR,iR,iR,?_⟩;refine AC (Tq b _ _ om _ (pgOf (okM _ hm) H EQ4 (.head _))) ?_;rintro e w8 ⟨rfl,H'⟩;replace H:=H.drew.ext0 H';refine⟨_,rfl,?_⟩;have hmd:m<gK.dir.length:=by rw[okk.dir];omega
   rw[Pg.Ok.ent1 (okM _ hm) om];have hgd:gK.dir.getD m (0,0)=gK.dir[m]:=by rw[dG,aB hmd];rfl
   refine AB (λhz=>?_) (λhz=>?_)
   ·have hz':(gK.dir[m]).1=0:=by have:((gK.dir[m]).1:Int)=0:=hz;omega
    (refine⟨_,H.lo Ed,?_⟩)
    refine AA rfl ⟨_,by rw[addB];exact(pgOf (okM _ hm) H EQ4 (.head _)).Ib,?_⟩;show inR .i64 (((m+1:Nat):Int)-1)/\onP _ λa=>∃w1,St PP 3 _ (Addr.add a 4096) (I (((m+1:Nat):Int)-1)) w1/\_
    try dsimp only
    rw[e7];refine⟨iR,AA rfl ?_⟩;rw[addB];refine Hp.st H EQ4 scl3 rfl rfl (by rw[(okM _ hm).clen];omega) (Pg.W9 (okM _ hm) _) ?_;intro w9 H;refine hnext m _ _ om ⟨om,?_,H⟩;rw[<- htr,trim,hgd,if_pos hz']
   ·have hz':¬(gK.dir[m]).1=0:=λh=>hz (by rw[h];rfl)
    (refine⟨_,H.lo Ed,?_⟩)
    (refine⟨_,H.lo Ed,?_⟩)
    refine AA rfl ⟨_,by rw[addB];exact(pgOf (okM _ hm) H EQ4 (.head _)).Ib,?_⟩;exact fin _ hm (by rw[trim,hgd,if_neg hz']) htr H.drew
  ·have hm0:m=0:=by have:¬(0:Int)<(m:Int):=h0;omega
   (refine⟨_,H.lo Ed,?_⟩)
   (refine⟨_,H.lo Ed,?_⟩)
   refine AA rfl ⟨_,by rw[addB];exact(pgOf (okM m hm) H EQ4 (.head _)).Ib,?_⟩;exact fin _ hm (by rw[hm0];rfl) htr H.drew.drew
def insR(x:Nat×LU):Recs→Recs
  | []=>[x]
  |p::r=>if x.1<p.1 then x::p::r else p::insR x r
theorem Le(x:Nat×LU):∀L:Recs,(insR x L).Perm (x::L)
  | []=>.refl _
  |p::r=>by
    rw[insR];split
    · exact .refl _
    · exact((Le x r).cons p).trans (.swap x p r)
def IU(x y:Nat×LU)(L:Recs):y∈insR x L↔y=x∨y∈L:=by rw[(Le x L).mem_iff,aP]
theorem Kr(x:Nat×LU):∀L:Recs,L.Pairwise (λa b=>a.1<b.1)→(∀p∈L,p.1≠x.1)→(insR x L).Pairwise λa b=>a.1<b.1
  | [],_,_=>by simp[insR]
  |p::r,h,hn=>by
    obtain⟨e,f⟩:=bH.1 h;rw[insR];split
    · rename_i d
      refine bH.2 ⟨λq c=>?_,h⟩;rcases aP.1 c with rfl|c
      · exact d
      · have:=e q c;omega
    · rename_i d
      refine bH.2 ⟨λq c=>?_,Kr x r f λq c=>hn q (.tail _ c)⟩;rcases(IU _ _ _).1 c with rfl|c
      · have:=hn p (.head _);omega
      · exact e q c
def wo(L:Recs)(k:Nat):Recs:=L.filter λp=>p.1 !=k
def Wl{L:Recs}{k:Nat}(h:∀s,(k,s)∉L):wo L k=L:=by
  refine gX.2 λp a=>?_;have:p.1≠k:=λe=>h p.2 (by rw[← e];exact a);simpa using this
def YY{L:Recs}{k:Nat}{p:Nat×LU}:p∈wo L k↔p∈L∧p.1≠k:=by simp[wo]
theorem wo_tot{L:Recs}(f:L.Pairwise λa b=>a.1<b.1){k:Nat}{s:LU}(h:(k,s)∈L):tot (wo L k)+s.length=tot L:=by
  induction L with
  |nil=>cases h
  |cons p r g=>
    obtain⟨d,i⟩:=bH.1 f;by_cases c:p.1=k
    · have j:p=(k,s):=by
        rcases aP.1 h with e|m
        · exact e.symm
        · have:=d _ m;simp only at this;omega
      have l:wo r k=r:=Wl λt n=>by have:=d _ n;simp only at this;omega
      have e:wo (p::r) k=r:=by
        show List.filter _ (p::r)=r;rw[dL,if_neg (by simp[c])];exact l
      rw[e,Dt,j];simp only;omega
    · have o:(k,s)∈r:=by
        rcases aP.1 h with e|m
        · exact absurd (by rw[← e]) c
        · exact m
      have e:wo (p::r) k=p::wo r k:=by
        show List.filter _ (p::r)=_;rw[dL,if_pos (by simp[c])];rfl
      rw[e,Dt,Dt];have:=g i o;omega
def Xt(b:Nat)(g:Pg)(L:Recs)(c:Nat)(f:Rep g L c)(K:Nat)(w:World)(h:Blk w b g.cells 162):
    CP 170 #[pT0 b,I (K:Int)] w λe w'=>e=eE0 (.tuple #[])∧∃l,Rep l (wo L K) c∧Hp [b] w w' [pgA b l]:=by
  by_cases j:∃s,(K,s)∈L
  · obtain⟨s,i⟩:=j
    exact Calls.mono (drop_spec b g L c f K s i w h) λe w' d=>⟨d.1,_,f.drop i,d.2⟩
  · refine Calls.mono (nodrop_spec b g (K:Int) (λd=>j (f.JO.1 ⟨om,by have:=d.2.2;rwa [aJ]at this⟩)) w ⟨f.ok,h⟩) λe w' d=>⟨d.1,g,?_,?_⟩
    · rw[Wl λs i=>j ⟨s,i⟩];exact f
    · have H:Hp [b] w w [pgA b g]:=Hp.Gn (a:=pgA b g) h
      exact H.ext0 d.2
def extD(d:List (Nat×Nat))(a n:Nat):List (Nat×Nat):=d.mapIdx λj p=>if a≤j∧j<n then(0,0)else p
def II(d:List (Nat×Nat))(a n j:Nat):(extD d a n)[j]? =d[j]?.map λp=>if a≤j∧j<n then(0,0)else p:=by
  simp[extD]
def LC(d:List (Nat×Nat))(a n:Nat):(extD d a n).length=d.length:=by simp[extD]
theorem extD_self(d:List (Nat×Nat))(a:Nat):extD d a a=d:=by
  apply dK;intro j;rw[II];cases d[j]? with
  |none=>rfl
  |some p=>rw[dF,if_neg om]
theorem extD_succ (d : List (Nat × Nat)) (a m : Nat) (h : a ≤ m) : (extD d a m).set m (0,0) = extD d a (m + 1) := by
  apply dK;intro j;by_cases hj : m = j
  · subst hj
    rw [II];cases hd : d[m]? with
    | none => rw [bF]; · rfl
              rw [bV,LC]; exact jv.1 hd
    | some p =>
      rw [iG (by rw [LC]; exact (aA.1 hd).1),dF,if_pos ⟨h,om⟩]
  · rw [iq hj,II,II]
    cases d[j]? with
    | none => rfl
    | some p =>
      rw [dF,dF];congr 1;by_cases hc : a ≤ j ∧ j < m
      · rw [if_pos hc,if_pos ⟨hc.1,om⟩]
      · rw [if_neg hc,if_neg om]
def extG(g:Pg)(m:Nat):Pg:= {g with dir:=extD g.dir g.many m,many:=m}
theorem ZB{g:Pg}(h:g.Ok){m:Nat}(b:m≤120):(extG g m).Ok:=⟨h.st,h.hdr,by show(extD _ _ _).length=120;rw[LC,h.dir],h.data,b,λp c=>by
    obtain⟨j,a⟩:=ay c;have a:(extD g.dir g.many m)[j]? =some p:=a;rw[II]at a;cases hd:g.dir[j]? with
    |none=>rw[hd]at a;cases a
    |some q=>
      rw[hd]at a;simp at a;have:=h.ent q (aG hd);rw[← a];split
      · simp
      · exact this,h.low⟩
def putG (g : Pg) (k : Nat) (s : LU) : Pg :=
  let m := max g.many (k + 1)
  { g with dir := (extD g.dir g.many m).set k (g.low - s.length,s.length),many := m,hdr := m,low := g.low - s.length
           data := g.data.take (g.low - s.length - 490) ++ (s ++ g.data.drop (g.low - s.length - 490 + s.length)) }
theorem Rep.put{g:Pg}{L:Recs}{stamp:Nat}(h:Rep g L stamp){k:Nat}{s:LU}(hk:k<120)(hn:∀t,(k,t)∉L)(hs:tot L+s.length≤3600):Rep (putG g k s) (insR (k,s) L) stamp:=by
  obtain⟨ord,o1,o2,o3⟩:=h.ord;have hok:=h.ok;have hlow:=h.low;have hdl:=hok.data;have hml:=hok.many;have hp:=Le (k,s) L;have htot:tot (insR (k,s) L)=s.length+tot L:=by rw[OZ hp,Dt]
  have hmax:g.many≤max g.many (k+1)∧k+1≤max g.many (k+1)∧(max g.many (k+1)=g.many∨max g.many (k+1)=k+1):=om;obtain⟨m,hm⟩:∃m,m=max g.many (k+1):=⟨_,rfl⟩;rw[← hm]at hmax;have em:(putG g k s).many=m:=hm.symm;have ed:(putG g k s).dir=(extD g.dir g.many m).set k (g.low-s.length,s.length):=by rw[hm];rfl
  have hdk:(putG g k s).dir[k]? =some (g.low-s.length,s.length):=by
    rw[ed,iG (by rw[LC,hok.dir];exact hk)]
  have hdj:∀j,j≠k→j<g.many→(putG g k s).dir[j]? =g.dir[j]? :=by
    intro j hj hjm;rw[ed,iq (Ne.symm hj),II];cases g.dir[j]? with
    |none=>rfl
    |some p=>rw[dF,if_neg om]
  have okp:(putG g k s).Ok:=by
    have e1:=ZB hok (m:=m) om;have e2:=e1.ent;refine⟨hok.st,by show max g.many (k+1)<65536;omega,?_,?_,by rw[em];omega,?_,by show g.low-s.length≤4096;omega⟩
    · rw[ed,bV,LC,hok.dir]
    · show(g.data.take (g.low-s.length-490)++(s++g.data.drop (g.low-s.length-490+s.length))).length=3606
      simp;omega
    · intro p hp
      rw[ed]at hp;rcases fM hp with hp|rfl
      · exact e2 p hp
      · exact⟨by simp only;omega,by simp only;omega⟩
  refine⟨okp,h.st,h.stamp,rfl,Kr _ _ h.sorted λp hp e=>hn p.2 (by have e':p.1=k:=e;rw[← e'];exact hp),?_,?_,?_,⟨(k,s)::ord,(o1.cons _).trans hp.symm,?_,?_⟩,om,?_⟩
  · intro p hp
    rw[em];rcases(IU _ _ _).1 hp with rfl|hp
    · simp only;omega
    · have:=h.below _ hp;omega
  · rw[em]
    rcases hmax.2.2 with e|e
    · right
      rcases h.last with h0|⟨t,ht⟩
      · omega
      · exact⟨t,by rw[e];exact(IU _ _ _).2 (.inr ht)⟩
    · exact .inr ⟨s,by rw[e];exact(IU _ _ _).2 (.inl rfl)⟩
  · intro j hj hn'
    rw[em]at hj;have hjk:j≠k:=λe=>hn' s (by rw[e];exact(IU _ _ _).2 (.inl rfl));by_cases hjm:j<g.many
    · rw[dG,hdj j hjk hjm,← dG]
      exact h.free j hjm λt ht=>hn' t ((IU _ _ _).2 (.inr ht))
    · rw[dG,ed,iq (Ne.symm hjk),II]
      cases g.dir[j]? with
      |none=>rfl
      |some p=>rw[dF,if_pos ⟨om,hj⟩];rfl
  · refine⟨hdk,?_⟩
    show Laid (putG g k s).dir (g.low-s.length+s.length) ord;rw[show g.low-s.length+s.length=g.low by omega]
    have:∀(x:Recs)(a:Nat),Laid g.dir a x→(∀p∈x,p∈L)→Laid (putG g k s).dir a x:=by
      intro x
      induction x with
      |nil=>intro a h _;exact h
      |cons p x ih=>
        intro a hl hx;obtain⟨j,t⟩:=p;have hjL:=hx (j,t) (.head _);refine⟨?_,ih _ hl.2 λq hq=>hx q (.tail _ hq)⟩;rw[hdj j (λe=>hn t (by rw[← e];exact hjL)) (h.below _ hjL)];exact hl.1
    exact this ord g.low o2 λp hp=>o1.mem_iff.1 hp
  · show(g.data.take (g.low-s.length-490)++(s++g.data.drop (g.low-s.length-490+s.length))).drop (g.low-s.length-490)=_
    rw[drop_left _ _ _ (by rw[aI,hdl];omega),bU];congr 1;rw[← o3];congr 1;omega
  · show g.low-s.length+tot (insR (k,s) L)=4096
    omega
def aput(L:Recs)(k:Int)(s:LU):Recs×Int:=
  if k<0∨120≤k then(L,110)else if 3600<tot (wo L k.toNat)+s.length then(L,111)else(insR (k.toNat,s) (wo L k.toNat),0)
def Si(b:Nat)(g:Pg)(L:Recs)(stamp:Nat)(hR:Rep g L stamp)(k:Int)(s:LU)(w:World)(h:Blk w b g.cells 162):
    CP 110 #[pT0 b,I k,sv s] w λe w'=>e=eE0 (I (aput L k s).2)∧∃g',Rep g' (aput L k s).1 stamp∧Hp [b] w w' [pgA b g']:=by
  apply Jdc;have H:Hp [b] w w [pgA b g]:=Hp.Gn (a:=pgA b g) h;have hmax:maxLen=9223372036854775807:=by simp[maxLen]
  refine AB (λh1=>?_) (λh1=>AB (λh2=>?_) (λh2=>?_))
  · rw[aput,if_pos (.inl h1)];exact⟨rfl,g,hR,H⟩
  · rw[aput,if_pos (.inr h2)];exact⟨rfl,g,hR,H⟩
  obtain⟨K,rfl⟩:∃K:Nat,k=K:=⟨k.toNat,om⟩;have hK:K<120:=om;have hsm:=hR.small;rw[aput,if_neg om,aJ];refine AC (room_spec b g _ (pgOf hR.ok H EQ4 (by repeat first|exact .head _|refine .tail _ ?_))) ?_;rintro e w1 ⟨rfl,H'⟩;replace H:=H.ext0 H';refine⟨_,rfl,?_⟩;rw[hR.total_eq];refine AC (JZ b g K _ (pgOf hR.ok H EQ4 (by repeat first|exact .head _|refine .tail _ ?_))) ?_;rintro e w2 ⟨rfl,H'⟩;replace H:=H.ext0 H';refine⟨_,_,rfl,?_⟩;rw[GN]
  have hmem:(if 0≤(K:Int)∧(K:Int)<(g.many:Int)then((g.dir.getD (K:Int).toNat (0,0)).1:Int)else 0)=if K<g.many then(atOf g K:Int)else 0:=by
    rw[aJ];by_cases hc:K<g.many
    · rw[if_pos om,if_pos hc];rfl
    · rw[if_neg om,if_neg hc]
  have hmem2:(if 0≤(K:Int)∧(K:Int)<(g.many:Int)then((g.dir.getD (K:Int).toNat (0,0)).2:Int)else 0)=if K<g.many then(lenOf g K:Int)else 0:=by
    rw[aJ];by_cases hc:K<g.many
    · rw[if_pos om,if_pos hc];rfl
    · rw[if_neg om,if_neg hc]
  rw[hmem,hmem2];have hlive:=hR.JO (k:=K);refine JoinP.mk (λf w'=>f=3600-(tot (wo L K):Int)∧Hp [b] w w' [pgA b g]) ?_ ?_
  · clear H hmem hmem2
    rintro f w2 ⟨rfl,H⟩;refine AB (λhf=>?_) (λhf=>?_)
    · rw[if_pos om];exact⟨rfl,g,hR,H⟩
    rw[if_neg om];refine AC (Xt b g L stamp hR K _ (H.ok _ (.head _))) ?_;rintro e w3 ⟨rfl,g',hR',H'⟩;replace H:=Hp.Ba H H';refine⟨rfl,?_⟩;have hno:∀t,(K,t)∉wo L K:=λt ht=>(YY.1 ht).2 rfl;have hfin:=hR'.put hK hno (s:=s) om;have hgm:=hR'.ok.many;have hgl:=hR'.low;have hgd:=hR'.ok.data;refine LoopP.mk (λmm _ w'=>∃m,mm=121-m∧g'.many≤m∧m≤max g'.many (K+1)∧Hp [b] w w' [pgA b (extG g' m)]) (121-g'.many) ⟨g'.many,rfl,aZ _,om,by unfold extG;rw[extD_self];exact H⟩ ?_;rintro mm u w4 next ⟨m,rfl,hm1,hm2,H⟩ hnext
    have okm:=ZB hR'.ok (m:=m) om;refine AA rfl ⟨_,by rw[addB];exact(pgOf okm H EQ4 (.head _)).Ib,?_⟩;refine AB (λhle=>?_) (λhle=>?_)
    · have hle':m≤K:=by have h9:((m:Nat):Int)≤(K:Int):=hle;omega
      refine AA rfl ⟨_,by rw[addB];exact(pgOf okm H EQ4 (.head _)).Ib,?_⟩;refine AC (Om b _ m 0 0 om om om _ (pgOf okm H EQ4 (.head _))) ?_;rintro e w5 ⟨rfl,ok2,H'⟩;replace H:=Hp.Ba H H';refine⟨rfl,AA rfl ⟨_,by rw[addB];exact(pgOf ok2 H EQ4 (.head _)).Ib,?_⟩⟩;show inR .i64 ((m:Int)+1)∧onP _ λa=>∃w1,St PP 3 _ (Addr.add a 4096) (I ((m:Int)+1)) w1∧_;refine⟨DC.2 om,AA rfl ?_⟩;rw[addB,show(m:Int)+1=((m+1:Nat):Int) by omega];refine Hp.st H EQ4 scl3 rfl rfl (by rw[ok2.clen];omega) (Pg.W9 ok2 _) ?_;intro w6 H;refine hnext (121-(m+1)) _ _ om ⟨m+1,rfl,om,om,?_⟩
      have e:({setD (extG g' m) m 0 0 with many:=m+1}:Pg)=extG g' (m+1):=by
        show({g' with dir:=(extD g'.dir g'.many m).set m (0,0),many:=m+1}:Pg)=_;rw[extD_succ _ _ _ hm1];rfl
      rw[e]at H;exact H
    · have hle':¬m≤K:=λh9=>hle (by show((m:Nat):Int)≤(K:Int);omega)
      have hmm:m=max g'.many (K+1):=om;have hb:∀k,({extG g' m with hdr:=k}:Pg).bs=g'.st++(be (k:Int) 2++(dirB (extG g' m).dir++g'.data)):=λk=>rfl;refine AA rfl ⟨_,by rw[addB];exact(pgOf okm H EQ4 (.head _)).Ib,?_⟩;refine AC (Jb b (extG g' m) {extG g' m with hdr:=m} g'.st (be g'.hdr 2) (dirB (extG g' m).dir++g'.data) 8 m (AU _ 2) hR'.ok.st om rfl (hb m) rfl rfl _ (pgOf okm H EQ4 (.head _))) ?_;rintro e w5 ⟨rfl,H'⟩;replace H:=Hp.Ba H H';have ok3:({extG g' m with hdr:=m}:Pg).Ok:=⟨okm.st,by show m<65536;omega,okm.dir,okm.data,okm.many,okm.ent,okm.low⟩;refine⟨rfl,AA rfl ⟨_,by rw[addB];exact(pgOf ok3 H EQ4 (.head _)).QY,?_⟩⟩;show inR .i64 ((g'.low:Int)-(s.length:Int))∧onP _ λa=>∃w1,St PP 3 _ (Addr.add a 4097) (I ((g'.low:Int)-(s.length:Int))) w1∧_;have e1:(g'.low:Int)-(s.length:Int)=((g'.low-s.length:Nat):Int):=om;rw[e1];refine⟨DC.2 om,AA rfl ?_⟩;rw[addB];refine Hp.st H EQ4 scl3 rfl rfl (by rw[ok3.clen];omega) (Pg.Yn ok3 _) ?_;intro w6 H;obtain⟨g4,hg4⟩:∃g4:Pg,g4= {({extG g' m with hdr:=m}:Pg)with low:=g'.low-s.length}:=⟨_,rfl⟩;have ok4:g4.Ok:=by rw[hg4];exact⟨ok3.st,ok3.hdr,ok3.dir,ok3.data,ok3.many,ok3.ent,by show g'.low-s.length≤4096;omega⟩
      rw[← hg4]at H;have hlow4:g4.low=g'.low-s.length:=by rw[hg4]
      refine AA rfl (AA rfl ⟨_,by rw[addB];exact(pgOf ok4 H EQ4 (.head _)).QY,?_⟩);dsimp only;rw[hlow4,aJ,Rf];refine⟨⟨om,om⟩,?_⟩;have hsl2:=Z8 (g'.low-s.length);refine Hp.cpy H EQ4 XU scl5.size (Src.ofString _ und9 ⟨s.toArray⟩) (by rw[GN];omega) (by rw[GN,ok4.clen];omega) ?_;intro w7 H;rw[Cj,WO _ _ _ (by rw[Af];omega),PQ ok4 om om]at H;have ok5:=MO ok4 (i:=g'.low-s.length) (x:=s) om om;refine AA rfl ⟨_,by rw[addB];exact(pgOf ok5 H EQ4 (.head _)).QY,?_⟩;have hlow5:(GU g4 (g'.low-s.length) s).low=g'.low-s.length:=hlow4;rw[hlow5];refine AC (Om b _ K (g'.low-s.length) s.length hK om om _ (pgOf ok5 H EQ4 (.head _))) ?_;rintro e w8 ⟨rfl,_,H'⟩;replace H:=Hp.Ba (a:=pgA b _) H H';refine⟨rfl,rfl,_,hfin,?_⟩
      have e:setD (GU g4 (g'.low-s.length) s) K (g'.low-s.length) s.length=putG g' K s:=by
        rw[hg4];unfold putG setD GU extG;simp only[← hmm]
      rw[e]at H;exact H
  · intro J hJ
    refine AB (λh0=>?_) (λh0=>?_)
    · have hkm:K<g.many:=by
        refine az λhn=>?_;rw[if_neg hn]at h0;omega
      rw[if_pos hkm]at h0⊢;obtain⟨t,ht⟩:=hR.JO.1 ⟨hkm,om⟩;have hat:=hR.at_ ht;have hwt:=wo_tot hR.sorted ht;exact⟨DC.2 om,hJ _ _ ⟨om,H⟩⟩
    · refine hJ _ _ ⟨?_,H⟩
      rw[Wl];intro t ht;have hat:=hR.at_ ht;have:=hR.below _ ht;rw[if_pos this]at h0;omega
end Go.Proofs.YtljenkbpnioipaaGreat.Sl
