/- Part 3 of 6 of the proof of nodetabBack_holds: for every input, from every world that may be reached. -/
import Derived.Test.YtljenkbpnioipaaGreatPbk2
set_option linter.unusedVariables false
set_option linter.unusedSimpArgs false
set_option linter.defProp false
set_option maxRecDepth 100000
set_option maxHeartbeats 4000000
open List(drop_one)
namespace Go.Proofs.YtljenkbpnioipaaGreat
open Go Go.Vc Go.Nod
def yx:Scl PP 69:=BQ (by kernel_rfl)
def EX:Agg PP 142 2:=DN (by kernel_rfl)
def CB:Agg PP 123 5:=DN (by kernel_rfl)
def uy:Elt PP 69 142 2 32:=DU (by kernel_rfl)
def qN:Elt PP 34 123 5 72:=DU (by kernel_rfl)
def uj:PP.underlying 69=some (.slice 142):=by kernel_rfl
def Zq:PP.underlying 34=some (.slice 123):=by kernel_rfl
abbrev Sl3:=OA×Nat×Nat
def atC(l:List At):LV:=l.flatMap λp=>[.string p.1,.string p.2]
theorem NP(l:List At):(atC l).length=l.length*2:=by
 induction l with
 |nil=>rfl
 |cons p r a=>simp only[atC,bW,aF,aK,dK]at a⊢;omega
def Gp(a b:List At):atC (a++b)=atC a++atC b:=by simp[atC]
def Na(l:List At):∀u∈atC l,u.oneCell'=true:=by
 intro u b;obtain⟨p,_,a⟩:=fH.1 b;simp at a;rcases a with rfl|rfl<;>rfl
theorem Gg:∀{l:List At}{k:Nat}{p:At},l[k]? =some p->((atC l).drop (k*2)).take 2=[.string p.1,.string p.2]
 |q::r,0,p,h=>by cases h;rfl
 |q::r,k+1,p,h=>by
  rw[show(k+1)*2=2+k*2 by omega,<- dS];exact Gg (by simpa using h)
theorem Yk(l:List At)(k:Nat):(atC l).drop (k*2)=atC (l.drop k):=by
 induction l generalizing k with
 |nil=>simp[atC]
 |cons p r a=>
  cases k with
  |zero=>rfl
  |succ k=>
   rw[show(k+1)*2=2+k*2 by omega,<- dS,eF,<- a];rfl
structure AtR(w:Wq)(a:OA)(n:Nat)(l:List At):Prop where
 len:n=l.length
 cells:Cells w a (atC l)
def AtR.chg{w w':Wq}{a:OA}{n:Nat}{l:List At}{B:Nq}(h:AtR w a n l)(b:Chg B w w')(c:∀k∈x9 a,k∉B):AtR w' a n l:=⟨h.len,h.cells.chg b c⟩
def AtR.go{w w':Wq}{a:OA}{n:Nat}{l:List At}{L:List Asn}(h:AtR w a n l)(H:Hp [] w w' L):AtR w' a n l:=h.chg H.chg (by simp)
def itC(x:It)(s:Sl3):LV:=[I x.level,I x.x.kind,.string x.x.name,.string x.x.text,.slice s.1 s.2.1 s.2.2]
def yK(l:List It)(ss:List Sl3):LV:=(List.zipWith itC l ss).flatten
theorem YE:∀{l:List It}{ss:List Sl3}{k:Nat}{x:It}{s:Sl3},l[k]? =some x->ss[k]? =some s->((yK l ss).drop (k*5)).take 5=itC x s
 |y::l,t::ss,0,x,s,h,h'=>by cases h;cases h';rfl
 |y::l,t::ss,k+1,x,s,h,h'=>by
  rw[show(k+1)*5=5+k*5 by omega,<- dS];exact YE (ss:=ss) (by simpa using h) (by simpa using h')
 | [],_,k,x,s,h,h'=>by simp at h
 |_::_,[],k,x,s,h,h'=>by simp at h'
def itsC_one{l:List It}{ss:List Sl3}{k j:Nat}{x:It}{s:Sl3}{v:Value}(h:l[k]? =some x)(b:ss[k]? =some s)(a:(itC x s)[j]? =some v):(yK l ss)[k*5+j]? =some v:=by
 have c:=YE h b
 have d:j<5:=by
  have:=(aA.1 a).1;simpa [itC]using this
 rw[<- c,bn d,dm]at a;exact a
structure ItR(w:Wq)(a:OA)(n:Nat)(l:List It)(ss:List Sl3):Prop where
 len:n=l.length
 ssl:ss.length=l.length
 cells:Cells w a (yK l ss)
 FP:∀(k:Nat)(x:It)(s:Sl3),l[k]? =some x->ss[k]? =some s->AtR w s.1 s.2.1 x.x.FP
def ItR.go{w w':Wq}{a:OA}{n:Nat}{l:List It}{ss:List Sl3}{L:List Asn}(h:ItR w a n l ss)(H:Hp [] w w' L):ItR w' a n l ss:=
 ⟨h.len,h.ssl,h.cells.chg H.chg (by simp),λk x s b c=>(h.FP k x s b c).go H⟩
def ItR.at_{w:Wq}{a:OA}{n:Nat}{l:List It}{ss:List Sl3}(h:ItR w a n l ss){k:Nat}(d:k<n):∃x s,l[k]? =some x/\ss[k]? =some s/\AtR w s.1 s.2.1 x.x.FP:=by
 have e:=h.len;have f:=h.ssl;have b:l[k]? =some (l[k]' om):=aB om;have c:ss[k]? =some (ss[k]' om):=aB om;exact⟨_,_,b,c,h.FP k _ _ b c⟩
def ItR.some{w:Wq}{a:OA}{n:Nat}{l:List It}{ss:List Sl3}(h:ItR w a n l ss){k:Nat}{x:It}{s:Sl3}(f:l[k]? =some x)(g:ss[k]? =some s):∃b,a=Option.some b/\Ld PP 123 w (b.add (k*5)) (.agg (itC x s).toArray):=by
 have c:=YE f g;obtain⟨b,d⟩:=h.cells.some (λe=>by rw[e]at c;simp[itC]at c);exact⟨b,d,h.cells.ldA CB d c rfl⟩
def ItR.ld{w:Wq}{a:OA}{n:Nat}{l:List It}{ss:List Sl3}(h:ItR w a n l ss){k:Nat}{x:It}{s:Sl3}(c:l[k]? =Option.some x)(d:ss[k]? =Option.some s){b:Addr}(e:a=Option.some b){t:TypeId}(S:Scl PP t){j:Nat}{v:Value}(f:(itC x s)[j]? =Option.some v):Ld PP t w (b.add (k*5+j)) v:=
 h.cells.ld S e (itsC_one c d f)
def SY(s:BA)(d:s.size<=maxLen)(w:Wq):CP 179 #[.string s] w λe w'=>e=Ej (I (BH s))/\Hp [] w w' []:=by
 apply Jc6;refine AC (Qz s d w) ?_;rintro _ f ⟨⟨z,rfl,b⟩,H⟩;refine⟨_,rfl,AB (λh=>⟨?_,H⟩) (λh=>?_)⟩
 ·rw[BH,if_pos (b.1 h)]
 have c:¬¬Uk s:=λa=>h (b.2 a);refine AB (λa=>⟨?_,H⟩) (λa=>⟨?_,H⟩)
 ·rw[BH,if_neg c,if_pos om]
 rw[BH,if_neg c,if_neg om]
def TF{a b:BA}:(Op.bytesLess a.data.toList b.data.toList||decide (a=b))=true↔¬ltB b a:=by
 rw[Go.Proofs.bytesLess_eq,nz,decide_eq_true_eq,decide_eq_true_eq];constructor
 ·rintro(h|rfl)
  ·exact λc=>V7 h c
  exact EF _
 intro h;rcases P6 a b with c|c|c
 ·exact .inl c
 ·exact .inr c
 exact(h c).elim
def Xp(x:NX):Prop:=x.name.size<=maxLen/\x.text.size<=maxLen/\∀a∈x.FP,a.1.size<=maxLen/\a.2.size<=maxLen
def name_ne{s:BA}(h:CZ s):ltB ⟨#[]⟩ s:=by
 have a:s.data.toList≠[]:=λe=>by
  have:=h.1;rw[<- BO,e]at this;simp at this
 obtain⟨x,t,b⟩:=dX a;show([]:LU)<s.data.toList;rw[b];exact List.nil_lt_cons _ _
theorem O1{l:List At}{k:Nat}{p:At}(f:l[k]? =some p)(h:Rs (l.take k))(i:∀q,(l.take k).getLast? =some q->ltB q.1 p.1):Rs (l.take (k+1)):=by
 have j:=(aA.1 f).1
 have e:l.take (k+1)=l.take k++[p]:=by
  rw[aG j,(aA.1 f).2]
 rw[e];refine eP.2 ⟨h,by simp,λa c b m=>?_⟩;rw[aW.1 m];cases hlast:(l.take k).getLast? with
 |none=>rw[List.getLast?_eq_none_iff.1 hlast]at c;cases c
 |some q=>
  have g:=i q hlast;obtain⟨n,d⟩:=List.getLast?_eq_some_iff.1 hlast;rw[d]at c;rcases aT.1 c with c|c
  ·rw[d,Rs,eP]at h;exact Fq (h.2.2 a c q (by simp)) g
  rw[aW.1 c];exact g
def uO{l:List At}{k:Nat}{p q:At}(h:Rs l)(c:l[k]? =some p)(d:(l.take k).getLast? =some q):ltB q.1 p.1:=by
 have e:=(aA.1 c).1;have f:=mD d;obtain⟨j,a⟩:=bD f;have b:=(aA.1 a).1;rw[aJ]at b;rw[bn om]at a;have:=dE.1 h j k om e om;rw[(aA.1 a).2,(aA.1 c).2]at this;exact this
theorem pNames_spec(N:Int)(x:NX)(a:OA)(n c:Nat)(w:Wq)(O:AtR w a n x.FP)(Z:n<=maxLen):CP 180 #[.agg (itC ⟨N,x⟩ (a,n,c)).toArray] w λe w'=>e=Ej (I (CG x))/\Hp [] w w' []:=by
 apply Jc8;simp only[maxLen]at Z;have R:=O.len;intro b w1 G;have H:=(Hp.start w).nw G;refine⟨x.name,H.lo xx,AC (Iz x.name w1) ?_⟩;rintro _ w2 ⟨rfl,J⟩;replace H:=H.xN J;refine⟨_,rfl,Hg (λh=>⟨?_,H.drop⟩) (λh=>?_)⟩
 ·rw[CG,if_pos h]
 refine⟨a,n,c,H.lo yx,?_⟩;have j:¬¬CZ x.name:=λK=>K h;have y:∀w',¬Nj x.FP->Hp [] w w' []->Ending.returned (I 63)=Ej (I (CG x))/\Hp [] w w' []:=λw' g H=>⟨by rw[CG,if_neg j,if_pos g],H⟩;refine xI.mk (λm s w'=>∃k:Nat,m=n-k/\k<=n/\s.2=(k:Int)/\(∀p∈x.FP.take k,CZ p.1)/\Rs (x.FP.take k)/\s.1=(((x.FP.take k).getLast?).map (·.1)).getD ⟨#[]⟩/\Hp [] w w' [.blk b (itC ⟨N,x⟩ (a,n,c)) 123]) n ⟨0,rfl,om,rfl,by simp,by simp[Rs],rfl,H⟩ ?_;rintro m ⟨z,i⟩ w3 next ⟨k,rfl,hk,T,l,o,d,H⟩ r
 dsimp only at T d⊢;subst T;refine AB (λU=>?_) (λU=>?_)
 ·have A:k<x.FP.length:=om;obtain⟨p,B⟩:∃p,x.FP[k]? =some p:=⟨_,aB A⟩;have t:=Gg B;have C:=O.chg H.chg (by simp);obtain⟨ad,X⟩:=C.cells.some (λe=>by rw[e]at t;simp at t);refine AA X ⟨⟨om,U⟩,p.1,p.2,?_,?_⟩
  ·rw[aN];exact C.cells.ldA EX X t rfl
  intro b2 w4 L;replace H:=H.nw L;refine Hp.stA H EQ4 EX rfl rfl (by simp) rfl λw5 H=>?_;refine⟨p.1,H.lo xx,AC (Iz p.1 w5) ?_⟩;rintro _ w6 ⟨rfl,J⟩;replace H:=H.xN J;refine⟨_,rfl,Hg (λu=>y _ (λg=>u (g.1 p (aC B))) H.drop.drop) (λu=>?_)⟩;refine⟨p.1,H.lo xx,Du (λF=>?_) (λF=>?_)⟩
  ·refine y _ (λg=>TF.1 F ?_) H.drop.drop;rw[d];cases f:(x.FP.take k).getLast? with
   |none=>exact name_ne u
   |some q=>exact uO g.2 B f
  have Y:ltB z p.1:=az λh7=>by rw[TF.2 h7]at F;cases F
  have D:x.FP.take (k+1)=x.FP.take k++[p]:=by
   rw[aG A,(aA.1 B).2]
  refine⟨p.1,H.lo xx,iR,r (n-(k+1)) _ _ om ⟨k+1,rfl,om,by simp,λq f=>?_,O1 B o (λq f=>?_),?_,H.drop⟩⟩
  ·rw[D]at f;rcases aT.1 f with f|f
   ·exact l q f
   rw[aW.1 f];exact u
  ·rw[d,f]at Y;exact Y
  rw[D,List.getLast?_append];rfl
 have M:x.FP.take k=x.FP:=aV om;rw[M]at l o;have g:¬¬Nj x.FP:=λK=>K ⟨l,o⟩;refine⟨a,n,c,H.lo yx,AB (λu=>⟨?_,H.drop⟩) (λu=>⟨?_,H.drop⟩)⟩
 ·rw[CG,if_neg j,if_neg g,if_pos om]
 rw[CG,if_neg j,if_neg g,if_neg om]
noncomputable section
theorem MG:∀(a b:List At),valsE (a++b)=if valsE a=0 then valsE b else valsE a
 | [],b=>by simp[valsE]
 |x::a,b=>by
  rw[aH,valsE,valsE,MG a b];by_cases h:BH x.2=0
  ·simp only[if_pos h]
  simp only[if_neg h]
def Qs{l:List At}{k:Nat}{p:At}(a:l[k]? =some p):valsE (l.take (k+1))=if valsE (l.take k)=0 then BH p.2 else valsE (l.take k):=by
 have b:=(aA.1 a).1;rw[aG b,(aA.1 a).2,MG]
 have:valsE [p]=BH p.2:=by
  rw[valsE,valsE];by_cases h:BH p.2=0
  ·rw[if_pos h,h]
  rw[if_neg h]
 rw[this]
def MP(x:NX)(k:Nat):Int:=if CG x=0 then valsE (x.FP.take k)else CG x
def pParts_spec(z:Int)(x:NX)(a:OA)(n c:Nat)(w:Wq)(B:AtR w a n x.FP)(L:n<=maxLen)(M:Xp x):CP 121 #[.agg (itC ⟨z,x⟩ (a,n,c)).toArray] w λe w'=>e=Ej (I (Ap x))/\Hp [] w w' []:=by
 apply Jc9;have C:=L;simp only[maxLen]at L;have r:=B.len;intro b X D;have H:=(Hp.start w).nw D;refine xM.mk (λs w'=>s=dec (x.kind=2/\x.name=⟨#[]⟩/\x.FP=[])/\Hp [] w w' [.blk b (itC ⟨z,x⟩ (a,n,c)) 123]) ?_ ?_
 ·rintro s N ⟨rfl,H⟩;refine KAl (λh=>⟨x.text,H.lo xx,AC (SY x.text M.2.1 N) ?_⟩) (λh=>⟨x.kind,H.lo xK,AQ (λo=>⟨?_,H.drop⟩) (λo=>?_)⟩)
  ·rintro _ R ⟨rfl,t⟩;exact⟨_,rfl,by rw[Ap,if_pos h.1,if_pos h.2],H.drop.xN t⟩
  ·rw[Ap];by_cases d:x.kind=2
   ·rw[if_pos d,if_neg λf=>h ⟨d,f⟩]
   rw[if_neg d,if_neg λf=>o f.1]
  have u:¬x.kind=2:=om;refine⟨x.text,H.lo xx,AQ (λd=>⟨by rw[Ap,if_neg u,if_neg λf=>d f.2],H.drop⟩) (λd=>?_)⟩;refine⟨z,x.kind,x.name,x.text,a,n,c,H.loA CB,AC (pNames_spec z x a n c N (B.go H) C) ?_⟩;rintro _ R ⟨rfl,t⟩;replace H:=H.xN t;refine⟨_,rfl,a,n,c,H.lo yx,?_⟩;refine xI.mk (λm s w'=>∃k:Nat,m=n-k/\k<=n/\s=(MP x k,(k:Int))/\Hp [] w w' []) n ⟨0,rfl,om,?_,H.drop⟩ ?_
  ·rw[MP,fD,valsE];by_cases f:CG x=0
   ·rw[if_pos f,f];rfl
   rw[if_neg f];rfl
  rintro m s Y next ⟨k,rfl,Z,rfl,H⟩ i
  refine AB (λf=>?_) (λf=>⟨?_,H⟩)
  ·have F:k<x.FP.length:=om;obtain⟨p,A⟩:∃p,x.FP[k]? =some p:=⟨_,aB F⟩;have j:=Gg A;have y:=B.go H;obtain⟨ad,O⟩:=y.cells.some (λe=>by rw[e]at j;simp at j);refine xM.mk (λs w'=>s=MP x (k+1)/\Hp [] w w' []) ?_ ?_
   ·rintro s T ⟨rfl,H⟩;exact⟨iR,i (n-(k+1)) _ _ om ⟨k+1,rfl,om,rfl,H⟩⟩
   intro J q;refine AA O ⟨⟨om,f⟩,p.1,p.2,?_,?_⟩
   ·rw[aN];exact y.cells.ldA EX O j rfl
   intro b2 T G;replace H:=H.nw G;refine Hp.stA H EQ4 EX rfl rfl (by simp) rfl λU H=>?_;refine AB (λg=>⟨p.2,H.lo xx,AC (SY p.2 (M.2.2 p (aC A)).2 U) ?_⟩) (λg=>q _ _ ⟨?_,H.drop⟩)
   ·rintro _ w7 ⟨rfl,t⟩;refine⟨_,rfl,q _ _ ⟨?_,(H.xN t).drop⟩⟩;rw[MP]at g⊢;split at g
    ·rename_i l;rw[if_pos l,Qs A,if_pos g]
    exact absurd g (by assumption)
   rw[MP]at g;rw[MP,MP];split at g
   ·rename_i l;rw[if_pos l,if_pos l,Qs A,if_neg g]
   rename_i l;rw[if_neg l,if_neg l]
  have K:x.FP.take k=x.FP:=aV om;have e:Ap x=if CG x=0 then valsE x.FP else CG x:=by rw[Ap,if_neg u,if_pos ⟨om,d⟩]
  rw[MP,K,e]
 intro J q;refine⟨x.kind,H.lo xK,AB (λh=>⟨x.name,H.lo xx,AB (λo=>⟨a,n,c,H.lo yx,q _ _ ⟨?_,H⟩⟩) (λo=>q _ _ ⟨?_,H⟩)⟩) (λh=>q _ _ ⟨?_,H⟩)⟩
 ·refine MR ⟨λd=>⟨h,o,ay om⟩,λd=>?_⟩;rw[r,d.2.2];rfl
 ·exact Bz λd=>o d.2.1
 exact Bz λd=>h d.1
def pPlace_spec(a:OA)(n c:Nat)(l:List It)(ss:List Sl3)(k:Nat)(x:It)(N:l[k]? =some x)(w:Wq)(A:ItR w a n l ss)(hn:n<=maxLen)
  (B:∀y,0<k->l[k-1]? =some y->0<=y.level/\y.level<1000000):CP 120 #[.slice a n c,I (k:Int)] w λe w'=>e=Ej (I (Bi l k x))/\Hp [] w w' []:=by
 apply Jda;simp only[maxLen]at hn;have X:=A.len;have aa:=(aA.1 N).1;obtain⟨x',s,C,hs,ab⟩:=A.at_ (k:=k) om;rw[N]at C;cases C;obtain⟨Y,u,O⟩:=A.some N hs;refine AA u ⟨⟨om,om⟩,_,_,_,_,_,_,_,O,?_⟩;intro b w1 R;have H:=(Hp.start w).nw R;refine Hp.stA H EQ4 CB rfl rfl (by simp) rfl λw2 H=>?_
 have D:0<k->∃y M,l[k-1]? =some y/\ss[k-1]? =some M/\0<=y.level/\y.level<1000000/\Int.toNat ((k:Int)-1)=k-1:=λh=>by
  obtain⟨y,M,g,m,_⟩:=A.at_ (k:=k-1) om;exact⟨y,M,g,m,(B y h g).1,(B y h g).2,om⟩
 refine xM.mk (λT w'=>T=dec (k=0/\(x.level≠0\/x.x.kind≠1))/\Hp [] w w' [.blk b (itC x s) 123]) ?_ ?_
 ·clear H;rintro _ Z ⟨rfl,H⟩;refine KAl (λh=>⟨by rw[Bi,if_pos h],H.drop⟩) (λh=>?_);refine xM.mk (λT w'=>T=dec (0<k/\(x.level<1\/∃y,l[k-1]? =some y/\(y.level+1<x.level\/(y.level<x.level/\y.x.kind=2))))/\Hp [] w w' [.blk b (itC x s) 123]) ?_ ?_
  ·clear H;rintro _ w4 ⟨rfl,H⟩;refine KAl (λo=>⟨by rw[Bi,if_neg h,if_pos o],H.drop⟩) (λo=>?_);refine⟨_,H.lo xK,AB (λd=>⟨by rw[Bi,if_neg h,if_neg o,if_pos d],H.drop⟩) (λd=>AB (λi=>⟨?_,H.drop⟩) (λi=>⟨?_,H.drop⟩))⟩
   ·rw[Bi,if_neg h,if_neg o,if_neg d,if_pos om]
   rw[Bi,if_neg h,if_neg o,if_neg d,if_neg om]
  intro J p;refine AB (λo=>?_) (λo=>p _ _ ⟨Bz λd=>by omega,H.drew⟩);have q:0<k:=om;obtain⟨y,M,g,m,ac,ae,t⟩:=D q;have F:=(A.go H.drop.drew);have G:Ld PP 3 Z.drew (Y.add ((k-1)*5)) (I y.level):=F.ld g m u xK (j:=0) rfl;have U:Ld PP 3 Z.drew ((Y.add ((k-1)*5)).add 1) (I y.x.kind):=by rw[add_add];exact F.ld g m u xK rfl
  refine⟨_,H.lo xK,AB (λd=>p _ _ ⟨DV ⟨q,.inl d⟩,H.drew⟩) (λd=>?_)⟩;refine⟨_,H.lo xK,iR,AA u ⟨⟨om,om⟩,y.level,by rw[t];exact G,iR,AB (λi=>p _ _ ⟨DV ⟨q,.inr ⟨y,g,.inl i⟩⟩,H.drew⟩) (λi=>?_)⟩⟩;refine⟨_,H.lo xK,iR,AA u ⟨⟨om,om⟩,y.level,by rw[t];exact G,AB (λK=>?_) (λK=>p _ _ ⟨Bz ?_,H.drew⟩)⟩⟩
  ·refine⟨iR,AA u ⟨⟨om,om⟩,y.x.kind,by rw[t];exact U,p _ _ ⟨MR ⟨λf=>⟨q,.inr ⟨y,g,.inr ⟨K,f⟩⟩⟩,?_⟩,H.drew⟩⟩⟩;rintro⟨_,f|⟨z,r,f|f⟩⟩
   ·exact(d f).elim
   ·rw[g]at r;cases r;exact(i f).elim
   rw[g]at r;cases r;exact f.2
  rintro⟨_,f|⟨z,r,f|f⟩⟩
  ·exact(d f).elim
  ·rw[g]at r;cases r;exact(i f).elim
  rw[g]at r;cases r;exact(K f.1).elim
 intro J p;refine AB (λo=>?_) (λo=>p _ _ ⟨Bz λd=>by omega,H⟩);have L:k=0:=om;refine⟨_,H.lo xK,AQ (λd=>p _ _ ⟨DV ⟨L,.inl d⟩,H⟩) (λd=>⟨_,H.lo xK,p _ _ ⟨not_dec_of ⟨λi=>⟨L,.inr i⟩,λi=>i.2.resolve_left (λK=>K d)⟩,H⟩⟩)⟩
def JS(a:OA)(n c:Nat)(l:List It)(ss:List Sl3)(w:Wq)(z:ItR w a n l ss)(R:n<=maxLen)(B:∀s∈ss,s.2.1<=maxLen)(C:∀x∈l,Xp x.x):
  CP 62 #[.slice a n c] w λe w'=>e=Ej (.tuple #[I ((Dp l).1:Int),I (Dp l).2])/\Hp [] w w' []:=by
 apply Jc7;have D:=R;simp only[maxLen]at R;have q:=z.len;refine AB (λh=>⟨?_,Hp.start w⟩) (λh=>?_)
 ·have:l=[]:=ay om;rw[Dp,if_pos this];rfl
 have F:l≠[]:=λe=>h (by rw[q,e];rfl);rw[Dp,if_neg F];refine xI.mk (λm s w'=>∃k:Nat,m=n-k/\k<=n/\s=(k:Int)/\Ep l k (l.drop k)=Ep l 0 l/\(∀y,0<k->l[k-1]? =some y->0<=y.level/\y.level<1000000)/\Hp [] w w' []) n ⟨0,rfl,om,rfl,rfl,om,Hp.start w⟩ ?_;rintro m s w1 next ⟨k,rfl,T,rfl,d,G,H⟩ f
 refine AB (λU=>?_) (λU=>⟨?_,H⟩)
 ·have J:k<n:=om;have r:=z.go H;obtain⟨x,s,i,K,_⟩:=r.at_ J;obtain⟨ad,Y,L⟩:=r.some i K;have M:=(aA.1 i).1;have N:l.drop k=x::l.drop (k+1):=by rw[bM M,(aA.1 i).2]
  rw[N,Ep]at d;refine AA Y ⟨⟨om,U⟩,_,_,_,_,_,_,_,L,?_⟩;intro b w2 t;replace H:=H.nw t;refine Hp.stA H EQ4 CB rfl rfl (by simp) rfl λZ H=>?_;refine AC (pPlace_spec a n c l ss k x i Z (z.go H) D G) ?_;rintro _ w4 ⟨rfl,O⟩;replace H:=H.xN O
  have on:∀w',Hp [] w w' []->zN l k x=0->gB ((k:Int)+1)/\next ((k:Int)+1) w':=λw' H p=>by
   rw[if_pos p]at d;refine⟨iR,f (n-(k+1)) _ _ om ⟨k+1,rfl,om,by simp,d,λy _ X=>?_,H⟩⟩;rw[jB,i]at X;cases X;rw[zN]at p;split at p
   ·rename_i j;rw[Bi]at j;split at j
    ·cases j
    split at j
    ·cases j
    split at j
    ·cases j
    rename_i g1 g2 g3;refine⟨?_,om⟩;rcases iO k with e|e
    ·exact az λg=>g1 ⟨e,.inl om⟩
    exact az λg=>g2 ⟨e,.inl om⟩
   exact absurd p (by assumption)
  have u:∀w',Hp [] w w' []->zN l k x≠0->Ending.returned (.tuple #[I (k:Int),I (zN l k x)])=Ej (.tuple #[I ((Ep l 0 l).1:Int),I (Ep l 0 l).2])/\Hp [] w w' []:=λw' H p=>by
   rw[if_neg p]at d;rw[<- d];exact⟨rfl,H⟩
  refine⟨_,rfl,AB (λA=>?_) (λA=>?_)⟩
  ·refine⟨_,_,_,_,_,_,_,H.loA CB,AC (pParts_spec x.level x.x s.1 s.2.1 s.2.2 w4 ((z.go H).FP k x s i K) (B s (aC K)) (C x (aC i))) ?_⟩;rintro _ w5 ⟨rfl,O⟩;replace H:=H.xN O;have e:zN l k x=Ap x.x:=by rw[zN,if_pos A]
   rw[<- e];exact⟨_,rfl,AQ (λo=>u _ H.drop o) (λo=>on _ H.drop o)⟩
  have e:zN l k x=Bi l k x:=by rw[zN,if_neg A]
  rw[<- e];exact AQ (λo=>u _ H.drop o) (λo=>(A (by rw[<- e];exact o)).elim)
 have T:l.drop k=[]:=ik om;rw[T,Ep]at d;rw[<- d];rfl
end
def rChar_spec(c:Int)(w:Wq):CP 316 #[iJ c] w λe w'=>e=Ej (.bool (dec (CS c)))/\w'=w:=by
 apply Jem;have t:CS c->Ending.returned (.bool true)=Ej (.bool (dec (CS c)))/\w=w:=λh=>⟨by rw[<- DV h],rfl⟩;have f:¬CS c->Ending.returned (.bool false)=Ej (.bool (dec (CS c)))/\w=w:=λh=>⟨by rw[<- Bz h],rfl⟩;have d:∀{p:Prop} [Decidable p],(p↔CS c)->Ending.returned (.bool (decide p))=Ej (.bool (dec (CS c)))/\w=w:=λh=>⟨by rw[MR h],rfl⟩;unfold CS at*
 repeat' refine AB (λ_=>?_) (λ_=>?_)
 all_goals first|exact t om|exact f om|exact d om
def RP(c:Int)(w:Wq):CP 262 #[iJ c] w λe w'=>e=Ej (.bool (dec (EH c)))/\w'=w:=by
 apply Jet;have t:EH c->Ending.returned (.bool true)=Ej (.bool (dec (EH c)))/\w=w:=λh=>⟨by rw[<- DV h],rfl⟩;have f:¬EH c->Ending.returned (.bool false)=Ej (.bool (dec (EH c)))/\w=w:=λh=>⟨by rw[<- Bz h],rfl⟩;have d:∀{p:Prop} [Decidable p],(p↔EH c)->Ending.returned (.bool (decide p))=Ej (.bool (dec (EH c)))/\w=w:=λh=>⟨by rw[MR h],rfl⟩;unfold EH at*;refine xM.mk (λs b=>(s=true↔(65<=c/\c<=90)\/c=95\/(97<=c/\c<=122)\/(192<=c/\c<=214)\/(216<=c/\c<=246))/\b=w) ?_ ?_;rotate_left
 ·intro J a
  repeat' refine AB (λ_=>?_) (λ_=>?_)
  all_goals first|exact a _ _ ⟨⟨λ_=>by omega,λ_=>rfl⟩,rfl⟩|exact a _ _ ⟨⟨λh=>(by cases h),λh=>by omega⟩,rfl⟩|exact a _ _ ⟨decide_eq_true_iff.trans om,rfl⟩
 rintro s b ⟨g,rfl⟩;refine Du (λh=>t (by have:=g.1 h;omega)) (λh=>?_);rw[h]at g;refine xM.mk (λs i=>(s=true↔(248<=c/\c<=767)\/(880<=c/\c<=893)\/(895<=c/\c<=8191)\/c=8204\/c=8205)/\i=b) ?_ ?_;rotate_left
 ·intro J a
  repeat' refine AB (λ_=>?_) (λ_=>?_)
  all_goals first|exact a _ _ ⟨⟨λ_=>by omega,λ_=>rfl⟩,rfl⟩|exact a _ _ ⟨⟨λh=>(by cases h),λh=>by omega⟩,rfl⟩|exact a _ _ ⟨decide_eq_true_iff.trans om,rfl⟩
 rintro s i ⟨j,rfl⟩;refine Du (λh=>t (by have:=j.1 h;omega)) (λh=>?_);rw[h]at j;refine xM.mk (λs b=>(s=true↔(8304<=c/\c<=8591)\/(11264<=c/\c<=12271)\/(12289<=c/\c<=55295))/\b=i) ?_ ?_;rotate_left
 ·intro J a
  repeat' refine AB (λ_=>?_) (λ_=>?_)
  all_goals first|exact a _ _ ⟨⟨λ_=>by omega,λ_=>rfl⟩,rfl⟩|exact a _ _ ⟨⟨λh=>(by cases h),λh=>by omega⟩,rfl⟩|exact a _ _ ⟨decide_eq_true_iff.trans om,rfl⟩
 rintro s b ⟨l,rfl⟩;refine Du (λh=>t (by have:=l.1 h;omega)) (λh=>?_);rw[h]at l;simp at g j l
 repeat' refine AB (λ_=>?_) (λ_=>?_)
 all_goals first|exact t om|exact f om|exact d om
def rPart_spec(c:Int)(w:Wq):CP 263 #[iJ c] w λe w'=>e=Ej (.bool (dec (IB c)))/\w'=w:=by
 apply Jeq;have t:IB c->Ending.returned (.bool true)=Ej (.bool (dec (IB c)))/\w=w:=λh=>⟨by rw[<- DV h],rfl⟩;have d:∀{p:Prop} [Decidable p],(p↔IB c)->Ending.returned (.bool (decide p))=Ej (.bool (dec (IB c)))/\w=w:=λh=>⟨by rw[MR h],rfl⟩;refine AC (RP c w) ?_;rintro _ _ ⟨rfl,rfl⟩;unfold IB at*;refine⟨_,rfl,KAl (λh=>t (by simp[h])) (λh=>?_)⟩;simp only[h,or_false]at t d⊢
 repeat' refine AB (λ_=>?_) (λ_=>?_)
 all_goals first|exact t om|exact d om
def Ic(c n:Int)(a:0<=c/\c<=1114111)(g:0<n)(w:Wq):CP 317 #[iJ c,iJ n] w λe w'=>e=Ej (iU ((u8 (128+c/n%64)).toNat:Int))/\w'=w:=by
 apply Jes;have b:Int.tdiv c n=c/n:=iw a.1;have d:0<=c/n:=oC a.1 om;have h:c/n<=c:=Int.ediv_le_self _ a.1;have f:Int.tmod (c/n) 64=c/n%64:=mV d;rw[b,f];exact⟨om,IP.2 om,om,IP.2 om,by rw[IK om om,Fh,qB om om],rfl⟩
def rPut_spec(c:Int)(w:Wq):CP 313 #[iJ c] w λe w'=>((CS c/\e=Ej (.tuple #[sv (yD c),.bool true]))\/(¬CS c/\e=Ej (.tuple #[sv [],.bool false])))/\Hp [] w w' []:=by
 apply Jer;refine AC (rChar_spec c w) ?_;rintro _ w' ⟨rfl,a⟩;obtain rfl:=a.symm;refine⟨_,rfl,Hg (λh=>⟨.inr ⟨h,rfl⟩,Hp.start _⟩) (λh=>?_)⟩;have j:0<=c/\c<=1114111:=by unfold CS at h;omega
 have f:∀{g:Wq}(b:Nat)(l:LU),yD c=l->New w (.cells (Ae l).toArray 5) b g->
   ∃s,B2S PP 159 9 g (.slice (Pq b) l.length l.length) (.string s)/\((CS c/\Ending.returned (.tuple #[.string s,.bool true])=Ej (.tuple #[sv (yD c),.bool true]))\/(¬CS c/\Ending.returned (.tuple #[.string s,.bool true])=Ej (.tuple #[sv [],.bool false])))/\Hp [] w g []:=by
  intro g b l e d;have H:=(Hp.start w).nw d;refine⟨⟨l.toArray⟩,b2s XX ZY Yv ?_ (by rw[Gy]),.inl ⟨h,by rw[e];rfl⟩,H.drop⟩;rw[DF];exact(H.blk (.head _)).cells
 have wr:∀z:Int,0<=z->z<256->IntKind.u8.wrap z=((u8 z).toNat:Int):=λz i m=>by rw[Fh,IK i m,qB i m]
 have p:∀n:Int,Int.tdiv c n=c/n:=λn=>iw j.1;rw[p,p,p];refine AB (λi=>?_) (λi=>AB (λm=>⟨om,IP.2 om,IP.2 om,?_⟩) (λm=>AB (λq=>⟨om,IP.2 om,IP.2 om,?_⟩) (λq=>⟨om,IP.2 om,IP.2 om,?_⟩)))
 ·intro b g d;rw[wr _ om om]at d;exact f b [u8 c] (by rw[yD,if_pos i]) d
 ·refine AC (Ic c 1 j om _) ?_;rintro _ o ⟨rfl,a⟩;obtain rfl:=a.symm;refine⟨_,rfl,λb g d=>?_⟩;rw[wr _ om om]at d;exact f b [u8 (192+c/64),u8 (128+c/1%64)] (by rw[yD,if_neg i,if_pos m,qC]) d
 ·refine AC (Ic c 64 j om _) ?_;rintro _ o ⟨rfl,a⟩;obtain rfl:=a.symm;refine⟨_,rfl,AC (Ic c 1 j om _) ?_⟩;rintro _ o ⟨rfl,a⟩;obtain rfl:=a.symm;refine⟨_,rfl,λb g d=>?_⟩;rw[wr _ om om]at d;exact f b [u8 (224+c/4096),u8 (128+c/64%64),u8 (128+c/1%64)] (by rw[yD,if_neg i,if_neg m,if_pos q,qC]) d
 refine AC (Ic c 4096 j om _) ?_;rintro _ o ⟨rfl,a⟩;obtain rfl:=a.symm;refine⟨_,rfl,AC (Ic c 64 j om _) ?_⟩;rintro _ o ⟨rfl,a⟩;obtain rfl:=a.symm;refine⟨_,rfl,AC (Ic c 1 j om _) ?_⟩;rintro _ o ⟨rfl,a⟩;obtain rfl:=a.symm;refine⟨_,rfl,λb g d=>?_⟩;rw[wr _ om om]at d;exact f b [u8 (240+c/262144),u8 (128+c/4096%64),u8 (128+c/64%64),u8 (128+c/1%64)] (by rw[yD,if_neg i,if_neg m,if_neg q,qC]) d
def stepD(x a b k:Int)(p:Int×Int):Int×Int:=if a<=x/\x<b then(k,p.2-a)else p
def Zz{x a b k:Int}{p:Int×Int}{w:Wq}{D:Prop}{C:Int×Int->Wq->Prop}(g:D)(i:a<=x->x<b->inR .i32 (p.2-a))(j:C (stepD x a b k p) w):
  xM C λJ=>xM (λ(e:Bool) w=>br e (inR .i32 (p.2-a)/\J (k,p.2-a) w) (J (p.1,p.2) w)) λJ=>D/\br (decide (a<=x)) (D/\J (decide (x<b)) w) (J false w):=by
 refine xM.mk (λq v=>q=stepD x a b k p/\v=w) (λq v h=>by rw[h.1,h.2];exact j) λJ d=>?_;refine xM.mk (λe v=>(e=true↔a<=x/\x<b)/\v=w) ?_ λJ d=>⟨g,AB (λh=>⟨g,d _ _ ⟨decide_eq_true_iff.trans ⟨λc=>⟨h,c⟩,λc=>c.2⟩,rfl⟩⟩) (λh=>d _ _ ⟨⟨λc=>(by cases c),λc=>(h c.1).elim⟩,rfl⟩)⟩;rintro e v ⟨f,rfl⟩;refine Du (λh=>⟨i (f.1 h).1 (f.1 h).2,d _ _ ⟨by rw[stepD,if_pos (f.1 h)],rfl⟩⟩) (λh=>d _ _ ⟨by rw[stepD,if_neg λc=>by rw[f.2 c]at h;cases h],rfl⟩)
def KFR(x:Int):Int×Int:=stepD x 240 248 4 (stepD x 224 240 3 (stepD x 192 224 2 (1,x)))
def docN_facts(x:Nat)(f:x<256):∃(n:Nat)(a:Int),KFR x=((n:Int),a)/\1<=n/\n<=4/\0<=a/\(n≠1->a<32)/\((Dc x).1≠0->Dc x=(n,a)):=by
 unfold KFR stepD Dc;by_cases b:x<192
 ·refine⟨1,x,by rw[if_neg om,if_neg om,if_neg om];rfl,om,om,om,om,?_⟩;split
  ·exact λ_=>rfl
  exact λh=>(h rfl).elim
 by_cases c:x<224
 ·refine⟨2,(x:Int)-192,by rw[if_neg om,if_neg om,if_pos om];rfl,om,om,om,om,λ_=>?_⟩;rw[if_neg om,if_neg b,if_pos c,Prod.mk.injEq];omega
 by_cases d:x<240
 ·refine⟨3,(x:Int)-224,by rw[if_neg om,if_pos om,if_neg om];rfl,om,om,om,om,λ_=>?_⟩;rw[if_neg om,if_neg b,if_neg c,if_pos d,Prod.mk.injEq];omega
 by_cases e:x<248
 ·refine⟨4,(x:Int)-240,by rw[if_pos om,if_neg om,if_neg om];rfl,om,om,om,om,λ_=>?_⟩;rw[if_neg om,if_neg b,if_neg c,if_neg d,if_pos e,Prod.mk.injEq];omega
 refine⟨1,x,by rw[if_neg om,if_neg om,if_neg om];rfl,om,om,om,om,?_⟩;rw[if_neg om,if_neg b,if_neg c,if_neg d,if_neg e];exact λh=>(h rfl).elim
def LY(c:Int)(l:LU):Int:=l.foldl (λc x=>c*64+(x.toNat:Int)-128) c
def TL(c:Int)(l:LU)(x:UInt8):LY c (l++[x])=LY c l*64+(x.toNat:Int)-128:=by simp[LY]
theorem Yu:∀(l:LU)(c:Int),(∀y∈l,128<=y.toNat/\y.toNat<192)->LY c l=FT c l
 | [],_,_=>rfl
 |x::l,c,h=>by
  have:=h x (.head _);rw[LY,dP,FT,dP,show c*64+(x.toNat:Int)-128=c*64+(x.toNat:Int)%64 by omega];exact Yu l _ λy a=>h y (.tail _ a)
def rNext_spec(s:BA)(hs:s.size<=maxLen)(w:Wq):CP 299 #[.string s] w λe w'=>uM s.data.toList e/\Hp [] w w' []:=by
 apply Jep;obtain⟨l,i⟩:∃l,l=s.data.toList:=⟨_,rfl⟩;have G:l.length=s.size:=by rw[i];exact BO s
 simp only[maxLen]at hs;rw[<- i];have f:∀(z:Int)(w':Wq),(∀c,¬Dec l c)->Hp [] w w' []->uM l (Ej (.tuple #[iJ z,I 0]))/\Hp [] w w' []:=λz w' h H=>⟨.inr ⟨h,z,rfl⟩,H⟩;refine AB (λh=>?_) (λh=>?_)
 ·refine f 0 w (λc a=>?_) (Hp.start w);rw[i,FQ.1 h]at a;exact Xw a
 have J:l≠[]:=λe=>h (FQ.2 (by rw[<- i];exact e));obtain⟨x,t,K⟩:=dX J
 have L:sb s 0=(x.toNat:Int):=by
  have:s.data.toList[(0:Int).toNat]? =some x:=by rw[<- i,K];rfl
  rw[sb,this];rfl
 have Z:0<s.size:=by rw[<- G,K];simp
 have j:l.headD 0=x:=by rw[K];rfl
 have aa:=x.toNat_lt;have hw:IntKind.i32.wrap (x.toNat:Int)=x.toNat:=F6 om;simp only[L,hw];have D:(0:Int)<=0/\(0:Int)<(s.size:Int):=⟨om,om⟩;refine⟨D,?_⟩;refine Zz (p:=(1,(x.toNat:Int))) D (λ_ _=>IP.2 om) (Zz D (λ_ _=>IP.2 ?_) (Zz D (λ_ _=>IP.2 ?_) ?_))
 ·unfold stepD;split<;>(dsimp only;omega)
 ·unfold stepD;repeat' split
  all_goals (dsimp only;omega)
 obtain⟨n,d,hn,n1,n4,c1,c2,hh⟩:=docN_facts x.toNat om;rw[KFR]at hn;rw[hn]
 have o:∀c,Dec l c->n=(yD c).length/\(yD c).length<=l.length/\LD l=c/\∀y∈(l.take n).drop 1,128<=y.toNat/\y.toNat<192:=λc a=>by
  have r:=a.next;have M:=KP a.1;rw[j]at r;rw[hh om]at r;exact r
 have N:∀c,Dec l c->LD l=FT d ((l.take n).drop 1):=λc a=>by
  have r:=a.next.1;have M:=KP a.1;rw[j]at r;rw[LD,j,hh om]
 refine AB (λM=>?_) (λM=>?_)
 ·exact f _ _ (λc a=>by have:=o c a;omega) (Hp.start w)
 obtain⟨T,F⟩:∃T,T=(l.take n).drop 1:=⟨_,rfl⟩;have ab:T.length=n-1:=by rw[F,bf,aJ];omega
 refine xI.mk (λm st w'=>∃k:Nat,m=n-1-k/\k<=n-1/\st=(LY d (T.take k),(k:Int)+1)/\(n≠1->LY d (T.take k)+3<=40*64^k/\3-40*64^k<=LY d (T.take k))/\Hp [] w w' []) (n-1)
  ⟨0,om,om,rfl,λh=>by rw[nY];have:=c2 h;show d+3<=40*1/\3-40*1<=d;omega,Hp.start w⟩ ?_
 rintro m st w3 next ⟨k,rfl,hk,rfl,hf,H⟩ q
 refine AB (λh3=>?_) (λh3=>?_)
 ·have u:k<T.length:=om;have ac:=T[k].toNat_lt
  have O:sb s ((k:Int)+1)=(T[k].toNat:Int):=by
   have:s.data.toList[((k:Int)+1).toNat]? =some T[k]:=by
    rw[<- i,show((k:Int)+1).toNat=1+k by omega,<- dm,<- aB u,F,gu,bn om]
   rw[sb,this];rfl
  have A:T.take (k+1)=T.take k++[T[k]]:=aG u;obtain⟨f1,f2⟩:=hf om
  have ad:0<(64:Int)^k/\(64:Int)^k<=4096:=by
   have h:k=0\/k=1\/k=2:=om;rcases h with e|e|e<;>rw[e]<;>decide
  rw[O,F6 om];refine⟨IP.2 om,⟨om,om⟩,IP.2 om,IP.2 om,iR,?_⟩;refine q (n-1-(k+1)) _ _ om ⟨k+1,rfl,om,by rw[A,TL];rfl,λ_=>?_,H⟩;rw[A,TL,qA];omega
 have R:k=T.length:=om;rw[R,bJ];refine AC (rPut_spec _ w3) ?_;have B:(s.extract 0 n).data.toList=l.take n:=by rw[J8,fF,i]
 have g:∀c,Dec l c->LY d T=c:=λc a=>by
  obtain⟨_,_,g3,g4⟩:=o c a;rw[Yu T d (by rw[F];exact g4),F,<- N c a,g3]
 rintro e w4 ⟨⟨U,rfl⟩|⟨U,rfl⟩,H'⟩
 ·replace H:=H.xN H';refine⟨_,_,rfl,Au ⟨⟨om,om⟩,?_⟩⟩;rw[aN];refine AQ (λX=>?_) (λX=>?_)
  ·refine f _ _ (λc a=>X (eqB ?_)) H;obtain⟨g1,g2,g3,_⟩:=o c a;rw[B,g c a];obtain⟨t2,Y⟩:=a.2;rw[g1,<- Y,iq]
  have C:=congrArg (λb:BA=>b.data.toList) X;rw[B]at C;have C:yD (LY d T)=l.take n:=by simpa using C
  have h7:(yD (LY d T)).length=n:=by rw[C,aJ];omega
  refine⟨.inl ⟨_,⟨U,by rw[C];exact List.take_prefix _ _⟩,?_⟩,H⟩;rw[h7]
 exact⟨_,_,rfl,Cc (f _ _ (λc a=>U (by rw[g c a];exact a.1)) (H.xN H'))⟩
def reltR:Elt PP 332 21 1 4:=DU (by kernel_rfl)
def rundR:PP.underlying 332=some (.slice 21):=by kernel_rfl
def KEV(l:lI):LV:=l.map λc=>iJ c
theorem UL:∀(l:lI),(∀c∈l,CS c)->l.length<=(l.flatMap yD).length
 | [],_=>bZ _
 |c::r,h=>by
  have b:=UL r λd a=>h d (.tail _ a);have e:=KP (h c (.head _));rw[bW,aF,aK];omega
def AllR(w:Wq)(l:LU)(e:Ending)(w':Wq):Prop:=
 (∃cs a c,Hm l cs/\e=Ej (.tuple #[.slice a cs.length c,.bool true])/\Hp [] w w' [.own 21 1 a cs.length c (KEV cs)])\/((∀cs,¬Hm l cs)/\e=Ej (.tuple #[.slice none 0 0,.bool false])/\Hp [] w w' [])
def Wx(s:BA)(Z:s.size<=2000000)(w:Wq):CP 261 #[.string s] w λe w'=>AllR w s.data.toList e w':=by
 apply Jel;obtain⟨l,x⟩:∃l,l=s.data.toList:=⟨_,rfl⟩;have G:l.length=s.size:=by rw[x];exact BO s
 rw[<- x];refine xI.mk (λm st w'=>∃(f:lI)(a:OA)(c:Nat),m=st.1.size/\st.2=(a,f.length,c)/\(∀c∈f,CS c)/\f.flatMap yD++st.1.data.toList=l/\Hp [] w w' [.own 21 1 a f.length c (KEV f)]) s.size ⟨[],none,0,rfl,rfl,by simp,by rw[x];rfl,(Hp.start w).yS 21 1⟩ ?_;rintro m ⟨t,q⟩ J next ⟨f,a,K,rfl,L,o,g,H⟩ i
 dsimp only at*;obtain rfl:=L.symm;have h1:=UL f o;have M:=congrArg List.length g;rw[aF,BO]at M;refine AQ (λh=>?_) (λh=>?_)
 ·refine AC (rNext_spec t (by simp only[maxLen];omega) J) ?_;rintro e w3 ⟨⟨c,p,rfl⟩|⟨y,z,rfl⟩,C⟩
  ·have N:=KP p.1;have A:=p.2.length_le;rw[BO]at A;refine⟨_,_,rfl,AB (λh=>by omega) (λ_ b w4 O=>?_)⟩;have D:=((H.xN C).nw O).AX;dsimp only;refine Hp.app reltR om D EQ4 (Blk.src rundR (D.blk m1) rfl rfl) (by simp only[maxLen];omega) om ?_;intro R T w5 U;refine⟨⟨om,om⟩,?_⟩;rw[aN]
   have F:(t.extract (yD c).length t.size).data.toList=t.data.toList.drop (yD c).length:=by
    rw[J8,aV (by rw[BO];exact aZ _)]
   have B:(t.extract (yD c).length t.size).size=t.size-(yD c).length:=by rw[<- BO,F,bf,BO]
   refine i (t.size-(yD c).length) _ _ om ⟨f++[c],R,T,B.symm,by rw[aF];rfl,λd j=>?_,?_,?_⟩
   ·rcases aT.1 j with h|h
    ·exact o d h
    rw[aW.1 h];exact p.1
   ·show(f++[c]).flatMap yD++(t.extract (yD c).length t.size).data.toList=l;rw[F,<- g,dR,ax];congr 1;obtain⟨u,X⟩:=p.2;rw[<- X,jg];simp
   rw[aF,KEV,ai];exact U.KBe
  refine⟨_,_,rfl,AB (λ_=>.inr ⟨λcs n=>?_,rfl,(H.xN C).drop⟩) (λh=>(h rfl).elim)⟩;rw[<- g]at n;obtain⟨r,rfl,Y⟩:=NQ f o n;obtain⟨d,r2,rfl,j,_⟩:=Y.cons (λe=>h (FQ.2 e));exact y d j
 have h:=FQ.1 h;rw[h,aX]at g;exact .inl ⟨f,a,K,⟨o,g⟩,rfl,H⟩
def Qy(s:BA)(f:s.size<=2000000)(w:Wq):CP 264 #[.string s] w λe w'=>(∃z,e=Ej (I z)/\(z<0↔¬Uk s))/\Hp [] w w' []:=by
 apply Jen;refine AC (Wx s f w) ?_;rintro e g (⟨b,a,c,d,rfl,H⟩|⟨d,rfl,H⟩)
 ·refine⟨_,_,_,_,rfl,Au ?_⟩;exact⟨⟨_,rfl,⟨om,λh=>(h ⟨b,d⟩).elim⟩⟩,H.drop⟩
 refine⟨_,_,_,_,rfl,Cc ?_⟩;exact⟨⟨_,rfl,⟨λ_ ⟨b,h⟩=>d b h,λ_=>by omega⟩⟩,H⟩
def wC{w:Wq}{a:OA}{l:lI}(h:Cells w a (KEV l)){k:Nat}(d:k<l.length):∃c,a=some c/\Ld PP 21 w (c.add (k*1)) (iJ l[k]):=by
 have e:(KEV l)[k]? =some (iJ l[k]):=by simp[KEV,d]
 obtain⟨c,b,_⟩:=h k _ e;exact⟨c,b,by rw[bV];exact h.ld KFd b e⟩
def Oi(s:ByteArray)(D:s.size<=2000000)(w:World):Calls Tryz.prog 210 #[.string s] w λe w'=>e=.returned (.bool (dec (CZ s)))/\Hp [] w w' []:=by
 apply Jeo;refine AC (Wx s D w) ?_;rintro e F (⟨b,a,c,l,rfl,H⟩|⟨l,rfl,H⟩);rotate_left
 ·refine⟨_,_,_,_,rfl,Cc ⟨?_,H⟩⟩;rw[Bz (q:=CZ s) λp=>p.2.2.elim λb h=>l b h.1]
 refine⟨_,_,_,_,rfl,Au (AB (λh=>⟨by rw[Bz λp:CZ s=>by have:=p.1;omega],H.drop⟩) (λh=>AB (λp=>⟨by rw[Bz λg:CZ s=>by have:=g.2.1;omega],H.drop⟩) (λp=>?_)))⟩
 have y:b≠[]:=λe=>by
  have g:=congrArg List.length l.2;rw[e,BO]at g;have g:0=s.size:=g;omega
 have r:=fC.2 y;have G:=l.2▸UL b l.1;rw[BO]at G
 have z:CZ s↔(∀c∈b,IB c)/\EH b[0]:=by
  refine⟨λ⟨_,_,N,A,B,J⟩=>?_,λ⟨A,B⟩=>⟨om,om,b,l,A,λd i=>?_⟩⟩
  ·obtain rfl:=l.one A;exact⟨B,J _ (by rw[gJ];exact aB _)⟩
  rw[gJ,aB r]at i;cases i;exact B
 obtain⟨K,n,j⟩:=wC (H.xh (.head _)).cells r;refine AA n ⟨⟨om,om⟩,_,by rw[jV]at j;exact j,AC (RP _ _) ?_⟩;rintro _ L ⟨rfl,t⟩;obtain rfl:=t.symm;refine⟨_,rfl,Hg (λg=>⟨by rw[Bz λx=>g (z.1 x).2],H.drop⟩) (λg=>?_)⟩;refine xI.mk (λm st w'=>∃k:Nat,m=b.length-k/\k<=b.length/\st=(k:Int)/\(∀c∈b.take k,IB c)/\w'=F) b.length ⟨0,rfl,om,rfl,by simp,rfl⟩ ?_;rintro m st O next ⟨k,rfl,R,rfl,f,t⟩ o
 obtain rfl:=t.symm;refine AB (λx=>?_) (λx=>?_)
 ·have u:k<b.length:=om;obtain⟨K,n,j⟩:=wC (H.xh (.head _)).cells u;refine AA n ⟨⟨om,x⟩,_,j,AC (rPart_spec _ _) ?_⟩;rintro _ L ⟨rfl,t⟩;obtain rfl:=t.symm;refine⟨_,rfl,Hg (λC=>⟨by rw[Bz λM=>C ((z.1 M).1 _ (eY _))],H.drop⟩) (λC=>⟨iR,o _ _ _ om ⟨k+1,rfl,om,rfl,λd i=>?_,rfl⟩⟩)⟩;rw[aG u]at i;rcases aT.1 i with i|i
  ·exact f d i
  rw[aW.1 i];exact C
 rw[aV om]at f;exact⟨by rw[DV (z.2 ⟨f,g⟩)],H.drop⟩
def SV(s:BA)(d:s.size<=2000000)(w:Wq):CP 260 #[.string s] w λe w'=>e=Ej (I (BH s))/\Hp [] w w' []:=by
 apply Jed;refine AC (Qy s d w) ?_;rintro e f ⟨⟨z,rfl,b⟩,H⟩;refine⟨_,rfl,AB (λh=>⟨by rw[BH,if_pos (b.1 h)],H⟩) (λh=>?_)⟩;have c:¬¬Uk s:=λa=>h (b.2 a);exact AB (λa=>⟨by rw[BH,if_neg c,if_pos om],H⟩) (λa=>⟨by rw[BH,if_neg c,if_neg om],H⟩)
noncomputable section
def KCX(x:NX):Prop:=x.name.size<=2000000/\x.text.size<=2000000/\∀a∈x.FP,a.1.size<=2000000/\a.2.size<=2000000
def AtR.ld{w:Wq}{a:OA}{n:Nat}{l:List At}(h:AtR w a n l){k:Nat}{p:At}(g:l[k]? =some p):∃b,a=some b/\Ld PP 9 w (b.add (k*2)) (.string p.1)/\Ld PP 9 w ((b.add (k*2)).add 1) (.string p.2):=by
 have c:=Gg g;obtain⟨b,d⟩:=h.cells.some (λe=>by rw[e]at c;simp at c)
 have at_:∀{o:Nat}{v:Value},o<2->([Value.string p.1,.string p.2])[o]? =some v->(atC l)[k*2+o]? =some v:=λ{o v} i f=>by
  rw[<- c,bn i,dm]at f;exact f
 exact⟨b,d,h.cells.ld xx d (at_ (o:=0) om rfl),by rw[add_add];exact h.cells.ld xx d (at_ om rfl)⟩
def RS(R:Int)(x:NX)(a:OA)(n c:Nat)(w:Wq)(G:AtR w a n x.FP)(hn:n<=maxLen)(T:KCX x):CP 202 #[.agg (itC ⟨R,x⟩ (a,n,c)).toArray] w λe w'=>e=Ej (I (Ap x))/\Hp [] w w' []:=by
 apply Jeg;simp only[maxLen]at hn;have J:=G.len;intro b w1 X;have H:=(Hp.start w).nw X;have sl:∀{v v':Wq},Hp [] w v [.blk b (itC ⟨R,x⟩ (a,n,c)) 123]->Eqw v v'->Ld PP 69 v' ⟨b,4,none⟩ (.slice a n c):=λH e=>H.ld e yx (.head _) rfl;have ne:x.FP=[]↔¬(0:Int)<(n:Int):=⟨λh=>by rw[J,h];decide,λh=>ay om⟩;refine⟨x.kind,H.lo xK,AB (λh=>?_) (λh=>⟨x.kind,H.lo xK,AQ (λB=>⟨by rw[Ap,if_neg h,if_neg λf=>B f.1],H.drop⟩) (λB=>?_)⟩)⟩
 ·refine⟨x.name,H.lo xx,AQ (λB=>⟨by rw[Ap,if_pos h,if_neg λf=>B f.1],H.drop⟩) (λB=>⟨a,n,c,sl H EQ4,AB (λo=>⟨by rw[Ap,if_pos h,if_neg λf=>ne.1 f.2 o],H.drop⟩) (λo=>⟨x.text,H.lo xx,AC (SV _ T.2.1 w1) ?_⟩)⟩)⟩;rintro _ w3 ⟨rfl,y⟩;exact⟨_,rfl,by rw[Ap,if_pos h,if_pos ⟨B,ne.2 o⟩],H.drop.xN y⟩
 refine⟨x.text,H.lo xx,AQ (λo=>⟨by rw[Ap,if_neg h,if_neg λf=>o f.2],H.drop⟩) (λo=>?_)⟩;have hP:Ap x=if CG x=0 then valsE x.FP else CG x:=by rw[Ap,if_neg h,if_pos ⟨B,o⟩]
 rw[hP];refine⟨x.name,H.lo xx,AC (Oi _ T.1 w1) ?_⟩;rintro _ w2 ⟨rfl,y⟩;replace H:=H.xN y;refine⟨_,rfl,Hg (λf=>⟨by rw[CG,if_pos f];rfl,H.drop⟩) (λf=>?_)⟩;have C:¬¬CZ x.name:=λh=>h f;have K:∀w',¬Nj x.FP->Hp [] w w' []->Ending.returned (I 63)=Ej (I (if CG x=0 then valsE x.FP else CG x))/\Hp [] w w' []:=λw' z H=>⟨by rw[CG,if_neg C,if_pos z];rfl,H⟩;refine xI.mk (λm s w'=>∃k:Nat,m=n-k/\k<=n/\s=(k:Int)/\(∀p∈x.FP.take k,CZ p.1)/\Rs (x.FP.take k)/\Hp [] w w' [.blk b (itC ⟨R,x⟩ (a,n,c)) 123]) n ⟨0,rfl,om,rfl,by simp,by simp[Rs],H⟩ ?_;rintro m s w3 next ⟨k,rfl,hk,rfl,D,F,H⟩ d
 refine⟨a,n,c,sl H EQ4,AB (λY=>?_) (λY=>?_)⟩
 ·have t:k<x.FP.length:=om;obtain⟨p,l⟩:∃p,x.FP[k]? =some p:=⟨_,aB t⟩;have L:=aC l;obtain⟨ad,g,M,_⟩:=(G.go H.drew.drop).ld l;refine⟨a,n,c,sl H EQ4,AA g ⟨⟨om,Y⟩,p.1,M,AC (Oi _ (T.2.2 p L).1 _) ?_⟩⟩;rintro _ w4 ⟨rfl,y⟩;replace H:=H.drew.xN y;refine⟨_,rfl,Hg (λN=>K _ (λz=>N (z.1 p L)) H.drop) (λN=>?_)⟩;have Z:x.FP.take (k+1)=x.FP.take k++[p]:=by rw[aG t,(aA.1 l).2]
  have on:(∀q,(x.FP.take k).getLast? =some q->ltB q.1 p.1)->gB ((k:Int)+1)/\next ((k:Int)+1) w4:=λhl=>⟨iR,d (n-(k+1)) _ _ om ⟨k+1,rfl,om,rfl,λq i=>by
   rw[Z]at i;rcases aT.1 i with i|i
   ·exact D q i
   rw[aW.1 i];exact N,O1 l F hl,H⟩⟩
  refine AB (λU=>?_) (λU=>on λq i=>?_)
  ·obtain⟨q,i⟩:∃q,x.FP[k-1]? =some q:=⟨_,aB om⟩
   have j:(x.FP.take k).getLast? =some q:=by
    rw[dZ,aJ,fE om,bn om,i]
   obtain⟨ad,g,M,_⟩:=(G.go H.drop).ld l;obtain⟨ab,O,l2,_⟩:=(G.go H.drop).ld i;have e1:((k:Int)-1).toNat=k-1:=om;refine⟨a,n,c,sl H EQ4,AA g ⟨⟨om,Y⟩,p.1,M,a,n,c,sl H EQ4,iR,AA O ⟨⟨om,om⟩,q.1,by rw[e1];exact l2,Du (λA=>K _ (λz=>TF.1 A (uO z.2 l j)) H.drop) (λA=>on λr hr=>?_)⟩⟩⟩;rw[j]at hr;cases hr;exact az λh8=>by rw[TF.2 h8]at A;cases A
  have h0:k=0:=om;subst h0;simp at i
 have aa:x.FP.take k=x.FP:=aV om;rw[aa]at D F;have z:¬¬Nj x.FP:=λo=>o ⟨D,F⟩;refine⟨a,n,c,sl H EQ4,AB (λN=>⟨?_,H.drop⟩) (λN=>?_)⟩
 ·have hN:CG x=67:=by rw[CG,if_neg C,if_neg z,if_pos om]
  rw[hN];rfl
 have hN:CG x=0:=by rw[CG,if_neg C,if_neg z,if_neg om]
 rw[if_pos hN];refine xI.mk (λm s w'=>∃k:Nat,m=n-k/\k<=n/\s=(k:Int)/\valsE (x.FP.take k)=0/\Hp [] w w' [.blk b (itC ⟨R,x⟩ (a,n,c)) 123]) n ⟨0,rfl,om,rfl,rfl,H⟩ ?_;rintro m s w4 next ⟨k,rfl,hk,rfl,hv,H⟩ d
 refine⟨a,n,c,sl H EQ4,AB (λU=>?_) (λU=>?_)⟩
 ·have t:k<x.FP.length:=om;obtain⟨p,l⟩:∃p,x.FP[k]? =some p:=⟨_,aB t⟩;obtain⟨ad,g,_,M⟩:=(G.go H.drop).ld l;refine⟨a,n,c,sl H EQ4,AA g ⟨⟨om,U⟩,p.2,M,AC (SV _ (T.2.2 p (aC l)).2 _) ?_⟩⟩;rintro _ w5 ⟨rfl,y⟩;have u:=Qs l;rw[if_pos hv]at u;refine⟨_,rfl,AQ (λA=>⟨?_,(H.xN y).drop⟩) (λA=>⟨iR,d (n-(k+1)) _ _ om ⟨k+1,rfl,om,rfl,by rw[u,A],H.xN y⟩⟩)⟩;have e:=MG (x.FP.take (k+1)) (x.FP.drop (k+1));rw[bY,if_neg (by rw[u];exact A),u]at e;rw[e]
 rw[aV om]at hv;exact⟨by rw[hv],H.drop⟩
def rTail{w v:Wq}{b k:Nat}{l:List It}{x:It}{s:Sl3}(j:AtR w s.1 s.2.1 x.x.FP)(m:s.2.1<=maxLen)(o:KCX x.x)(H:Hp [] w v [.blk b (itC x s) 123])(d:Bi l k x=if 40<=x.level then 42 else if 1000<=k then 43 else 0){R:EW}(f:∀a,Hp [] w a []->R (Ej (I (zN l k x))) a):
  ∃z,Ld PP 3 v ⟨b,0,none⟩ (I z)/\br (decide (40<=z)) (R (Ej (I 42)) v) (br (decide (1000<=(k:Int))) (R (Ej (I 43)) v) (∃(z1 g:Int)(s1 i:BA)(p:OA)(n c:Nat),Ld PP 123 v ⟨b,0,none⟩ (.agg #[I z1,I g,.string s1,.string i,.slice p n c])/\xk PP 202 [.agg #[I z1,I g,.string s1,.string i,.slice p n c]] v λe a=>∃z,e=Ej (I z)/\R (Ej (I z)) a)):=by
 refine⟨x.level,H.lo xK,AB (λh=>?_) (λh=>AB (λq=>?_) (λq=>?_))⟩
 ·have:=f v H.drop;rw[zN,d,if_pos h]at this;exact this
 ·have:=f v H.drop;rw[zN,d,if_neg h,if_pos (show 1000<=k by omega)]at this;exact this
 refine⟨_,_,_,_,_,_,_,H.loA CB,AC (RS x.level x.x s.1 s.2.1 s.2.2 v (j.go H.drop) m o) ?_⟩;rintro _ a ⟨rfl,r⟩;have:=f a (H.drop.xN r);rw[zN,d,if_neg h,if_neg (show¬1000<=k by omega),if_pos rfl]at this;exact⟨_,rfl,this⟩
def rOne_spec(a:OA)(n c:Nat)(l:List It)(ss:List Sl3)(k:Nat)(x:It)(G:l[k]? =some x)(w:Wq)(q:ItR w a n l ss)(hn:n<=maxLen)(J:∀s∈ss,s.2.1<=maxLen)(hf:KCX x.x)
  (aa:x.level<=9223372036854775807) (K:∀y,0<k->l[k-1]? =some y->0<=y.level/\y.level<1000000):CP 138 #[.slice a n c,I (k:Int)] w λe w'=>e=Ej (I (zN l k x))/\Hp [] w w' []:=by
 apply Jef;simp only[maxLen]at hn;have X:=q.len;have ab:=(aA.1 G).1;obtain⟨x',s,r,Y,L⟩:=q.at_ (k:=k) om;rw[G]at r;cases r;have M:=J s (aC Y);obtain⟨Z,o,N⟩:=q.some G Y;refine AA o ⟨⟨om,om⟩,_,_,_,_,_,_,_,N,?_⟩;intro b w1 O;have H:=(Hp.start w).nw O;refine Hp.stA H EQ4 CB rfl rfl (by simp) rfl λw2 H=>?_;have d:∀w',Bi l k x=69->Hp [] w w' [.blk b (itC x s) 123]->Ending.returned (I 69)=Ej (I (zN l k x))/\Hp [] w w' []:=λw' h H=>⟨by rw[zN,h];rfl,H.drop⟩;have T:=λhp=>rTail (R:=λe w'=>e=Ej (I (zN l k x))/\Hp [] w w' []) L M hf H.drew hp λv' H'=>⟨rfl,H'⟩;by_cases hk:k=0
 ·subst hk;refine AB (λ_=>⟨x.level,H.lo xK,AQ (λh=>d _ (by rw[Bi,if_pos ⟨rfl,.inl h⟩]) H) (λh=>⟨x.x.kind,H.lo xK,AQ (λt=>d _ (by rw[Bi,if_pos ⟨rfl,.inr t⟩]) H) (λt=>AB (λu=>by omega) (λ_=>T ?_))⟩)⟩) (λh=>(h rfl).elim);rw[Bi,if_neg (λu=>u.2.elim (λi=>i h) (λi=>i t)),if_neg (λu=>by omega)]
 obtain⟨y,f⟩:∃y,l[k-1]? =some y:=⟨_,aB om⟩;have ac:=K y om f;obtain⟨y',sy,A,B,_⟩:=q.at_ (k:=k-1) om;rw[f]at A;cases A;have m:((k:Int)-1).toNat=k-1:=om;have C:=q.go H.drop.drew;have D:Ld PP 3 w2.drew (Z.add ((k-1)*5)) (I y.level):=C.ld f B o xK (j:=0) rfl;have U:Ld PP 3 w2.drew ((Z.add ((k-1)*5)).add 1) (I y.x.kind):=by rw[add_add];exact C.ld f B o xK rfl
 have F:¬(k=0/\(x.level≠0\/x.x.kind≠1)):=λh=>hk h.1;have kk:(0:Int)<k:=om;refine AB (λh=>by omega) (λ_=>AB (λ_=>⟨x.level,H.lo xK,AB (λh=>d _ (by rw[Bi,if_neg F,if_pos ⟨om,.inl h⟩]) H.drew) (λh=>?_)⟩) (λh=>(h kk).elim));refine⟨x.level,H.lo xK,iR,iR,AA o ⟨⟨om,om⟩,y.level,by rw[m];exact D,AB (λt=>d _ (by rw[Bi,if_neg F,if_pos ⟨om,.inr ⟨y,f,.inl om⟩⟩]) H.drew) (λt=>?_)⟩⟩;refine⟨x.level,H.lo xK,iR,iR,AA o ⟨⟨om,om⟩,y.level,by rw[m];exact D,AB (λu=>⟨iR,AA o ⟨⟨om,om⟩,y.x.kind,by rw[m];exact U,AB (λi=>d _ (by rw[Bi,if_neg F,if_pos ⟨om,.inr ⟨y,f,.inr ⟨om,i⟩⟩⟩]) H.drew) (λi=>T ?_)⟩⟩) (λu=>T ?_)⟩⟩
 ·rw[Bi,if_neg F,if_neg];rintro⟨_,p|⟨z,g,p|p⟩⟩
  ·omega
  ·rw[f]at g;cases g;omega
  rw[f]at g;cases g;exact i p.2
 rw[Bi,if_neg F,if_neg];rintro⟨_,p|⟨z,g,p|p⟩⟩
 ·omega
 ·rw[f]at g;cases g;omega
 rw[f]at g;cases g;omega
def one_level{l:List It}{k:Nat}{x:It}(h:zN l k x=0):(0<k->1<=x.level)/\(k=0->x.level=0)/\x.level<40:=by
 rw[zN]at h;split at h
 ·rename_i a;rw[Bi]at a;split at a
  ·cases a
  rename_i d;split at a
  ·cases a
  rename_i e;split at a
  ·cases a
  exact⟨λb=>jH.1 λc=>e ⟨b,.inl c⟩,λb=>az λc=>d ⟨b,.inl c⟩,om⟩
 rename_i a;exact(a h).elim
def rCheck_spec(a:OA)(n c:Nat)(l:List It)(ss:List Sl3)(w:Wq)(z:ItR w a n l ss)(A:n<=maxLen)(p:∀s∈ss,s.2.1<=maxLen)(D:∀x∈l,KCX x.x/\x.level<=9223372036854775807):
  CP 71 #[.slice a n c] w λe w'=>e=Ej (.tuple #[I ((Dp l).1:Int),I (Dp l).2])/\Hp [] w w' []:=by
 apply Jee;have q:=A;simp only[maxLen]at q;have g:=z.len;refine AB (λh=>⟨?_,Hp.start w⟩) (λh=>?_)
 ·have:l=[]:=ay om;rw[Dp,if_pos this];rfl
 have r:l≠[]:=λe=>h (by rw[g,e];rfl);rw[Dp,if_neg r];refine xI.mk (λm s w'=>∃k:Nat,m=n-k/\k<=n/\s=(k:Int)/\Ep l k (l.drop k)=Ep l 0 l/\(∀y,0<k->l[k-1]? =some y->0<=y.level/\y.level<1000000)/\Hp [] w w' []) n ⟨0,rfl,om,rfl,rfl,om,Hp.start w⟩ ?_;rintro m s F next ⟨k,rfl,L,rfl,b,t,H⟩ d
 refine AB (λG=>?_) (λG=>⟨?_,H⟩)
 ·have f:k<l.length:=om;have B:l[k]? =some l[k]:=aB f;have i:=D _ (eY f);rw[bM f,Ep]at b;refine AC (rOne_spec a n c l ss k l[k] B F (z.go H) A p i.1 i.2 t) ?_;rintro _ M ⟨rfl,C⟩;refine⟨_,rfl,AQ (λj=>⟨?_,H.xN C⟩) (λj=>⟨iR,d (n-(k+1)) _ _ om ⟨k+1,rfl,om,rfl,by rw[if_pos j]at b;exact b,λy _ o=>?_,H.xN C⟩⟩)⟩
  ·rw[if_neg j]at b;rw[<- b]
  have o:l[k]? =some y:=o;rw[B]at o;cases o;obtain⟨J,K,N⟩:=one_level j;by_cases u:k=0
  ·have:=K u;omega
  have:=J om;omega
 rw[eu om,Ep]at b;rw[<- b];rfl
end
end Go.Proofs.YtljenkbpnioipaaGreat
namespace Go.Vc
open Go
def Cells.KEo{w:Wq}{a:OA}{xs:LV}(h:Cells w a xs){c i sz n:Nat}(l:xs.length=n*sz)(f:n<=c):Cells w (Go.Vc.slA a c i sz) (xs.drop (i*sz)):=by
 intro j v e;rw[dm]at e;obtain⟨m,rfl,b⟩:=h _ v e;have g:=(aA.1 e).1;unfold Go.Vc.slA;by_cases d:c=i
 ·subst d;have:n*sz<=c*sz:=dF _ f;omega
 rw[if_neg d];exact⟨_,rfl,by rw[add_add];exact b⟩
def over_ins1(A D V ys:LV)(h:ys.length=V.length+D.length):over D (A.length+V.length) (over V A.length (A++ys))=A++(V++D):=by
 have a:ys=ys.take V.length++ys.drop V.length:=(bY _ _).symm
 have b:over V A.length (A++ys)=A++(V++ys.drop V.length):=by
  rw[a];have:=FU V A (ys.take V.length) (ys.drop V.length) (by rw[aJ];omega);rw[this,bY]
 rw[b];have:=FU D (A++V) (ys.drop V.length) [] (by rw[bf];omega);rw[aX,aX,aF,ax,ax]at this;exact this
def over_ins2(A D V ys:LV)(h:V.length<=ys.length):(over V A.length (over D (A.length+V.length) ((A++D)++ys))).take (A.length+V.length+D.length)=A++(V++D):=by
 obtain⟨b,c,a,f,d,g⟩:∃b c a:LV,D++ys=b++(c++a)/\b.length=V.length/\c.length=D.length:=by
  refine⟨(D++ys).take V.length,((D++ys).drop V.length).take D.length,((D++ys).drop V.length).drop D.length,by rw[bY,bY],?_,?_⟩
  ·rw[aJ,aF];omega
  rw[aJ,bf,aF];omega
 rw[ax,f];have e:=FU D (A++b) c a g.symm;rw[aF,d,ax]at e;rw[e,ax];have i:=FU V A b (D++a) d.symm;rw[i];have j:A++(V++(D++a))=(A++(V++D))++a:=by simp
 rw[j];exact iM (by simp;omega)
def Hp.rP{w w':Wq}{B:Nq}{e:TypeId}{sz n c:Nat}{a:OA}{xs:LV}(h:Own w' 0 e sz a n c xs)(d:Chg B w w')(f:∀k∈x9 a,k∈B\/w.heap.size<=k):Hp B w w' [.own e sz a n c xs]:=
 ⟨d,λq b=>by rw[aW]at b;subst b;exact h,λq b k g=>by rw[aW]at b;subst b;exact f k g,by simp⟩
end Go.Vc
namespace Go.Proofs.YtljenkbpnioipaaGreat
open Go Go.Vc Go.Nod
theorem qV{i f:TypeId}{sz by_:Nat}(d:PP.underlying i=some (.slice f))(g:Elt PP i f sz by_)(q:0<sz){a:OA}{n c:Nat}{xs:LV}{w:Wq}(h:Cells w a xs)(r:xs.length=n*sz)(s:∀u∈xs,u.oneCell'=true)(m:a=none->n=0)(t:n*by_<=140737488355328)(j:n<=maxLen):
  @KEh w (λe w'=>∃a' c',e=Ej (.slice a' n c')/\Hp [] w w' [.own f sz a' n c' xs]) a n c i f:=by
 unfold KEh;refine⟨_,eqv_slcE d,Du (λo=>?_) (λo=>?_)⟩
 ·have x:a=none:=by cases a with
   |none=>rfl
   |some _=>cases o
  have:=m x;subst this;have:xs=[]:=ay om;subst this;exact⟨none,0,rfl,(Hp.start w).yS f sz⟩
 intro b p l;have H:=(Hp.start w).nw l;have y:Hp [] w p [.own f sz (Pq b) 0 0 []]:=H.set (Chg.refl _ _) ⟨by simp,.inr ⟨b,#[],(0,0),rfl,bZ _,H.blk (.head _),KBc.zero _,aZ _,bZ _,by simp,by simp⟩⟩ (λk z=>.inl z);have A:Cells p a xs:=h.chg H.chg (by simp);refine Hp.app g q y ⟨rfl,rfl,rfl,rfl⟩ (Cells.src d A r s m) (by rw[cZ];exact j) (by rw[cZ];exact t) ?_;intro a' c' B H;rw[cZ]at H⊢;exact⟨a',c',rfl,H⟩
def HY(a:OA)(n c:Nat)(xs:LV)(w:Wq)(h:Cells w a xs)(b:xs.length=n*2)(d:∀u∈xs,u.oneCell'=true)(f:a=none->n=0)(g:n*32<=140737488355328):
  CP 70 #[.slice a n c] w λe w'=>∃a' c',e=Ej (.slice a' n c')/\Hp [] w w' [.own 142 2 a' n c' xs]:=
 by apply Jbn;exact qV (by kernel_rfl) (DU (by kernel_rfl)) om h b d f g (by simp only[maxLen];omega)
def lCloneI_spec(a:OA)(n c:Nat)(xs:LV)(w:Wq)(h:Cells w a xs)(b:xs.length=n*1)(d:∀u∈xs,u.oneCell'=true)(f:a=none->n=0)(g:n*8<=140737488355328):
  CP 87 #[.slice a n c] w λe w'=>∃a' c',e=Ej (.slice a' n c')/\Hp [] w w' [.own 3 1 a' n c' xs]:=
 by apply Jbo;exact qV (by kernel_rfl) (DU (by kernel_rfl)) om h b d f g (by simp only[maxLen];omega)
def lCloneW_spec(a:OA)(n c:Nat)(xs:LV)(w:Wq)(h:Cells w a xs)(b:xs.length=n*2)(d:∀u∈xs,u.oneCell'=true)(f:a=none->n=0)(g:n*24<=140737488355328):
  CP 89 #[.slice a n c] w λe w'=>∃a' c',e=Ej (.slice a' n c')/\Hp [] w w' [.own 167 2 a' n c' xs]:=
 by apply Jbp;exact qV (by kernel_rfl) (DU (by kernel_rfl)) om h b d f g (by simp only[maxLen];omega)
def uu{o s:TypeId}{sz by_:Nat}{z:Value}{ov al:FuncId}(f:PP.underlying o=some (.slice s))(C:Elt PP o s sz by_)(hs:0<sz)(p:yj PP s=some sz)(hz:zeroOf PP s=some z)
  (am:∀(args:Array Value)(w:Wq),(callFunc ov args).run PP w=((Extern.SlicesOverlaps.overlaps #[o,o] #[4] args).run PP w).andThen λv w'=>.ok (.value v) w')
  {a:OA} {n c i b:Nat} {xs vs:LV} {T:TypeId} {w:Wq} (h:Own w 0 s sz a n c xs) (h1:∀u∈xs,u.oneCell'=true) (hi:i<=n) (Z:Blk w b vs T) (y:vs.length=sz) (aa:∀u∈vs,u.oneCell'=true) (hb:b∉x9 a) (hn:(n+1)*by_<=140737488355328) (q:n+1<=maxLen):
  @KFD w (λe w'=>∃a' c',e=Ej (.slice a' (n+1) c')/\Hp (x9 a) w w' [.own s sz a' (n+1) c' (xs.take (i*sz)++(vs++xs.drop (i*sz)))]) a (Pq b) n c 1 1 (i:Int) o sz ov al:=by
 unfold KFD;have ab:=h.1;have ac:=h.le;have ba:n<9223372036854775807:=by simp only[maxLen]at q;omega
 have p1:i*sz<=n*sz:=dF _ hi;have p2:(i+1)*sz=i*sz+sz:=di ..;have p3:(n+1)*sz=n*sz+sz:=di ..;have p4:(n-i)*sz=n*sz-i*sz:=nH ..;have p5:(n+1-i)*sz=n*sz+sz-i*sz:=by rw[nH,p3]
 have ae:(xs.take (i*sz)).length=i*sz:=by rw[aJ];omega
 have A:(xs.drop (i*sz)).length=(n-i)*sz:=by rw[bf];omega
 have D:∀w',w'.heap[b]? =w.heap[b]? ->Frm PP sz (.slice (Pq b) 1 1) 1 1 vs w':=λw' hw=>Frm.of (Blk.cells (T:=T) (hw.trans Z)) om aa;have af:∀u∈xs.drop (i*sz),u.oneCell'=true:=λu hu=>h1 u (fA hu);refine⟨⟨om,om⟩,AB (λe=>by omega) (λ_=>AB (λe=>?_) (λe=>⟨iR,AB (λhg=>?_) (λhg=>?_)⟩))⟩
 ·have an:i=n:=om;subst an;obtain⟨a',c',r,U,r2,X,G⟩:=rO (P:=PP) (ty:=o) C hs h (Cells.src (n:=1) (c:=1) f Z.cells om aa (λe=>by cases e)) q hn (bZ _);refine⟨a',_,c',r,U,a',c',rfl,?_⟩;rw[aV om,ik om,aX];exact Hp.rP r2 X G
 ·have hK:=h.keep (F:=i) om;have em:((n:Int)+((1:Nat):Int)-(i:Int))=((n+1-i:Nat):Int):=om;have en:i+(n+1-i)=n+1:=om;obtain⟨a',c',Y,r,U,r2,X,G,r5⟩:=Own.KEf (P:=PP) (t:=o) (tn:=3) (ty:=o) (kn:=.i64) (kq:=.i64) (m:=n+1-i) C hs hK (by kernel_rfl) hz om om (by rw[en];exact q) (by rw[en];exact hn);rw[en]at U X;refine⟨⟨om,om⟩,iR,iR,a',n+1,c',r,?_,⟨om,om⟩,?_⟩
  ·rw[em,aN];exact U
  have ei:Int.toNat (i:Int)=i:=aN i;have B:Int.toNat ((i:Int)+((1:Nat):Int))=i+1:=om;rw[ei,B];have ao:=Z.lt;obtain⟨H,q1,q2,q3⟩:=Own.cpy (tx:=o) (ty:=3) (N:=n+1-i) (c':=c'-i) (i:=i) X f p (D r (G.2.2.2.2 b ao (by simp))) om om;refine⟨_,H,q1,iR,⟨om,om⟩,⟨om,om⟩,?_⟩;have ap:∀k,k<w.heap.size->k∉x9 a':=λk l hm=>by have:=r5 k hm;omega
  have aq:Cells H.drew (slA a c i sz) (xs.drop (i*sz)):=by
   have h9:Cells r a xs:=h.cells.chg G (by simp);have ar:Cells H a xs:=h9.chg q3 (λk l hm=>ap k (h.mem k l).2 hm);have L:Cells H.drew a xs:=ar;exact L.KEo ab ac.1
  obtain⟨w3,p1,p2,p3⟩:=Own.cpy (w:=H.drew) (tx:=o) (ty:=3) (N:=n+1-(i+1)) (c':=c'-(i+1)) (i:=i+1) (x:=.slice (slA a c i sz) (n-i) (c-i)) q2 f p (Frm.of (k:=n-i) aq A af) om om;refine⟨_,w3,p1,a',c',rfl,?_⟩
  have M:Chg (x9 a) w w3:=by
   have av:Chg (x9 a) w r:=G.more (by simp);have aw:=av.trans q3 (λk l=>l) (λk l=>.inr (r5 k l));have a0:Chg (x9 a) w H.drew:=aw;exact a0.trans p3 (λk l=>l) (λk l=>.inr (r5 k l))
  have j:over (xs.drop (i*sz)) ((i+1)*sz) (over vs (i*sz) (xs.take (i*sz)++Y))=xs.take (i*sz)++(vs++xs.drop (i*sz)):=by
   have:=over_ins1 (xs.take (i*sz)) (xs.drop (i*sz)) vs Y (by rw[r2,A,y];omega);rw[ae,y,show i*sz+sz=(i+1)*sz by omega]at this;exact this
  rw[j]at p2;exact Hp.rP p2 M (λk l=>.inr (r5 k l))
 have O:n+1<=c:=om
 have ha:a≠none:=λe=>by
  obtain⟨g,hg⟩:=h.D6 om;rw[e]at hg;cases hg
 obtain⟨Y,a1,hF⟩:=h.full ha;have p6:(n+1)*sz<=c*sz:=dF _ O;have p7:(c-n)*sz=c*sz-n*sz:=nH ..;have ei:Int.toNat (i:Int)=i:=aN i;have B:Int.toNat ((i:Int)+((1:Nat):Int))=i+1:=om;have ag:Int.toNat ((n:Int)+((1:Nat):Int))=n+1:=om;refine⟨iR,⟨om,om⟩,iR,⟨om,om⟩,⟨.bool false,w,?_,?_⟩⟩
 ·rw[am];obtain⟨g,a2⟩:=h.D6 (n:=n) om
  have ah:∀(J:Addr) lb cb,slA a c (i+1) sz=some J->(Extern.SlicesOverlaps.overlaps #[o,o] #[4] #[.slice (Pq b) 1 1,.slice (some J) lb cb]).run PP w=.ok (.bool false) w:=by
   intro J lb cb d;rcases h.2 with⟨rfl,_⟩|⟨g,ak,fz,rfl,bb,a3,hf,bc,bd,bh,ht⟩
   ·exact(ha rfl).elim
   have K:J.block=g:=by
    unfold Vc.slA at d;split at d
    ·cases d;rfl
    rw[dG,add_lit]at d;cases d;rfl
   have R:w.heap[b]? =some (.cells vs.toArray T (0,0)):=Z;have a4:b≠g:=λe=>hb (by simp[x9,e]);have a5:w.shape? J.block=some (s,ak.size):=by rw[K];simp[World.shape?,a3]
   have a6:w.shape? b=some (T,vs.length):=by simp[World.shape?,R]
   refine Go.Lib.run_overlaps_apart (P:=PP) w o 4 s f sz (λw=>yI p w) ⟨b,0,none⟩ J 1 1 lb cb (by rw[K];exact a4) T s vs.length ak.size a6 a5 om ?_ ?_
   ·simp[World.frozen?,R]
   simp[World.frozen?,R]
  rw[B,ag]
  have d:slA a c (i+1) sz≠none:=by
   rw[a2];unfold Vc.slA;split<;>simp
  obtain⟨J,d⟩:=dw.1 d;rw[d];have:=ah J (n+1-(i+1)) (c-(i+1)) d;rw[this];rfl
 refine⟨false,rfl,Cc ⟨iR,⟨om,om⟩,⟨om,om⟩,?_⟩⟩;rw[ei,B,ag]
 have a7:Cells w.drew (slA a c i sz) (xs.drop (i*sz)):=by
  have L:Cells w.drew a xs:=h.cells;exact L.KEo ab ac.1
 have a8:Own w.drew 0 s sz a c c (xs++Y):=hF;obtain⟨r,q1,q2,q3⟩:=Own.cpy (w:=w.drew) (tx:=o) (ty:=3) (N:=n+1-(i+1)) (c':=c-(i+1)) (i:=i+1) (x:=.slice (slA a c i sz) (n+1-i) (c-i)) a8 f p (Frm.of (k:=n-i) a7 A af) om om;refine⟨_,r,q1,⟨om,om⟩,?_⟩;have a9:r.heap[b]? =w.heap[b]? :=q3.2.2.2.2 b Z.lt hb;obtain⟨H,U,r2,X⟩:=Own.cpy (tx:=o) (ty:=3) (N:=n+1-i) (c':=c-i) (i:=i) q2 f p (D r a9) om om;refine⟨_,H,U,a,c,rfl,?_⟩;have G:=r2.keep (F:=n+1) om
 have j:(over vs (i*sz) (over (xs.drop (i*sz)) ((i+1)*sz) (xs++Y))).take ((n+1)*sz)=xs.take (i*sz)++(vs++xs.drop (i*sz)):=by
  have:=over_ins2 (xs.take (i*sz)) (xs.drop (i*sz)) vs Y (by rw[a1,y];omega);rw[ae,y,A,bY,show i*sz+sz=(i+1)*sz by omega,show(i+1)*sz+(n-i)*sz=(n+1)*sz by omega]at this;exact this
 rw[j]at G;have M:Chg (x9 a) w r:=q3;exact Hp.rP G (M.trans X (λk l=>l) (λk l=>.inl l)) (λk l=>.inl l)
def UI(a:OA)(n c i b:Nat)(xs vs:LV)(T:TypeId)(w:Wq)(h:Own w 0 3 1 a n c xs)(g:∀u∈xs,u.oneCell'=true)(j:i<=n)(l:Blk w b vs T)(d:vs.length=1)(f:∀u∈vs,u.oneCell'=true)(m:b∉x9 a)(o:(n+1)*8<=140737488355328):
  CP 122 #[.slice a n c,I (i:Int),.slice (Pq b) 1 1] w λe w'=>∃a' c',e=Ej (.slice a' (n+1) c')/\Hp (x9 a) w w' [.own 3 1 a' (n+1) c' (xs.take (i*1)++(vs++xs.drop (i*1)))]:=
 by apply Jbw;exact uu (z:=I 0) (by kernel_rfl) (DU (by kernel_rfl)) om (by kernel_rfl) (by kernel_rfl) (run_callFunc_extern Tryz.func181 (by kernel_rfl) (by kernel_rfl) (by kernel_rfl) (e:=Extern.SlicesOverlaps.overlaps #[59,59] #[4]) (by kernel_rfl)) h g j l d f m o (by simp only[maxLen];omega)
def lInsAt_spec(a:OA)(n c i b:Nat)(xs vs:LV)(T:TypeId)(w:Wq)(h:Own w 0 142 2 a n c xs)(g:∀u∈xs,u.oneCell'=true)(j:i<=n)(l:Blk w b vs T)(d:vs.length=2)(f:∀u∈vs,u.oneCell'=true)(m:b∉x9 a)(o:(n+1)*32<=140737488355328):
  CP 153 #[.slice a n c,I (i:Int),.slice (Pq b) 1 1] w λe w'=>∃a' c',e=Ej (.slice a' (n+1) c')/\Hp (x9 a) w w' [.own 142 2 a' (n+1) c' (xs.take (i*2)++(vs++xs.drop (i*2)))]:=
 by apply Jbv;exact uu (z:=.agg #[.string ⟨#[]⟩,.string ⟨#[]⟩]) (by kernel_rfl) (DU (by kernel_rfl)) om (by kernel_rfl) (by kernel_rfl) (run_callFunc_extern Tryz.func220 (by kernel_rfl) (by kernel_rfl) (by kernel_rfl) (e:=Extern.SlicesOverlaps.overlaps #[69,69] #[4]) (by kernel_rfl)) h g j l d f m o (by simp only[maxLen];omega)
def uw{f d:TypeId}{sz by_:Nat}{z:Value}(b:PP.underlying f=some (.slice d))(j:Elt PP f d sz by_)(D:zeroOf PP d=some z)(m:z.cells.size=sz)(o:∀u∈z.cells.toList,u.oneCell'=true){a:OA}{n c i:Nat}{xs:LV}{w:Wq}(h:Own w 0 d sz a n c xs)(G:∀u∈xs,u.oneCell'=true)(Y:i<n):
  @KEv w (λe w'=>e=Ej (.slice a (n-1) c)/\Hp (x9 a) w w' [.own d sz a (n-1) c (xs.take (i*sz)++xs.drop ((i+1)*sz))]) a n c (i:Int) ((i:Int)+1) f sz:=by
 unfold KEv;have p:=h.1;have q:=h.le;obtain⟨g,y⟩:=h.D6 om;refine⟨⟨om,om,om,om⟩,AB (λe=>by omega) (λ_=>⟨⟨om,om⟩,⟨om,om⟩,?_⟩)⟩;have H:Int.toNat (i:Int)=i:=aN i;have r:Int.toNat ((i:Int)+1)=i+1:=om;rw[H,r];have J:Own w.drew 0 d sz a i c (xs.take (i*sz)):=h.keep (F:=i) om
 have K:Cells w.drew (slA a c (i+1) sz) (xs.drop ((i+1)*sz)):=by
  have s:Cells w.drew a xs:=h.cells;exact s.KEo p q.1
 have t:(xs.drop ((i+1)*sz)).length=(n-(i+1))*sz:=by rw[bf,nH];omega
 obtain⟨A,B,C,L⟩:=Own.appIn (ty:=f) j J (by rw[y];simp) (Cells.src (P:=PP) (c:=c-(i+1)) b K t (λu M=>G u (fA M)) (λe=>by
  rw[y]at e;unfold Vc.slA at e;split at e<;>cases e)) om
 have O:i+(n-(i+1))=n-1:=om;rw[O]at B C;refine⟨a,n-1,c,A,B,⟨om,om,om⟩,?_⟩;rw[aN,aN];obtain⟨R,T,U,X⟩:=Own.clrBehind (P:=PP) (dT:=f) (ty:=0) (N:=n-(n-1)) (c':=c-(n-1)) C b D m o om;refine⟨R,T,rfl,?_⟩;have x:Chg (x9 a) w A:=L;exact Hp.rP U (x.trans X (λk l=>l) (λk l=>.inl l)) (λk l=>.inl l)
def lDelI_spec(a:OA)(n c i:Nat)(xs:LV)(w:Wq)(h:Own w 0 3 1 a n c xs)(b:∀u∈xs,u.oneCell'=true)(d:i<n):
  CP 216 #[.slice a n c,I (i:Int),I ((i:Int)+1)] w λe w'=>e=Ej (.slice a (n-1) c)/\Hp (x9 a) w w' [.own 3 1 a (n-1) c (xs.take (i*1)++xs.drop ((i+1)*1))]:=
 by apply Jbt;exact uw (by_:=8) (z:=I 0) (by kernel_rfl) (DU (by kernel_rfl)) (by kernel_rfl) (by rfl) (by decide) h b d
def lDelAt_spec(a:OA)(n c i:Nat)(xs:LV)(w:Wq)(h:Own w 0 142 2 a n c xs)(b:∀u∈xs,u.oneCell'=true)(d:i<n):
  CP 154 #[.slice a n c,I (i:Int),I ((i:Int)+1)] w λe w'=>e=Ej (.slice a (n-1) c)/\Hp (x9 a) w w' [.own 142 2 a (n-1) c (xs.take (i*2)++xs.drop ((i+1)*2))]:=
 by apply Jbs;exact uw (by_:=32) (z:=.agg #[.string ⟨#[]⟩,.string ⟨#[]⟩]) (by kernel_rfl) (DU (by kernel_rfl)) (by kernel_rfl) (by rfl) (by decide) h b d
theorem SS{v:Int}:∀(a:lI)(k:Nat),a[k]? =some v->(∀j,j<k->a[j]? ≠some v)->a.idxOf v=k
 | [],k,h,_=>by simp at h
 |x::r,0,h,_=>by cases h;exact List.idxOf_cons_self
 |x::r,k+1,h,hno=>by
  have b:x≠v:=λe=>hno 0 om (by rw[e];rfl);have e:(x==v)=false:=by simpa using b
  rw[List.idxOf_cons,e,cond_false,SS r k (by simpa using h) λj c=>by simpa using hno (j+1) om]
def lIdxI_spec(a:OA)(n c:Nat)(b:lI)(v:Int)(w:Wq)(h:Cells w a (b.map (.int .i64)))(x:n=b.length)(u:n<=maxLen):
  CP 215 #[.slice a n c,I v] w λe w'=>e=Ej (I (if v∈b then(b.idxOf v:Int)else-1))/\w'=w:=by
 apply Jbu;simp only[maxLen]at u;refine xI.mk (λm s w'=>∃k:Nat,m=n-k/\k<=n/\s=(k:Int)/\w'=w/\∀j,j<k->b[j]? ≠some v) n ⟨0,rfl,om,rfl,rfl,om⟩ ?_;rintro m s y next ⟨k,rfl,z,rfl,rfl,f⟩ g
 refine AB (λr=>?_) (λr=>⟨?_,rfl⟩)
 ·have d:k<b.length:=om;have i:(b.map (Value.int IntKind.i64))[k]? =some (I b[k]):=by simp[d]
  obtain⟨A,t,_⟩:=h k _ i;refine AA t ⟨⟨om,r⟩,b[k],?_,AB (λo=>⟨?_,rfl⟩) (λo=>⟨iR,g (n-(k+1)) _ _ om ⟨k+1,rfl,om,by simp,rfl,λj p=>?_⟩⟩)⟩
  ·rw[aN,bV];exact h.ld xK t i
  ·have q:v∈b:=o▸eY d;have l:b.idxOf v=k:=SS b k (by rw[aB d,<- o]) f;rw[if_pos q,l]
  by_cases e:j=k
  ·subst e;rw[aB d];exact λe=>o (Option.some.inj e).symm
  exact f j om
 rw[if_neg];intro q;obtain⟨j,p⟩:=bD q;exact f j (by have:=(aA.1 p).1;omega) p
def qQ{d TK TV:TypeId}(c:PP.underlying d=some (.map TK TV)){K:Type}[DecidableEq K]{g:KCY K}{b:Nat}{al:List (K×Value)}{w:Wq}(i:MapAt g w b al):
  @KEk w (λe w'=>∃f,e=Ej (.map (some f))/\f=w.heap.size/\MapAt g w' f al/\Chg [] w w') (some b) d:=by
 unfold KEk;obtain⟨h,a,j,l⟩:=i;refine⟨false,?_,Au (x:=_) ⟨⟨.iface d (.map (some w.heap.size)),w.alloc (.map h a),?_,?_⟩⟩⟩
 ·have:=run_eql_map_nil_sl (P:=PP) w d _ _ (some b) c;simp only[Eqv,Sem.run_bind,eqGuard];simp[this]
 ·rw[run_callFunc_extern Tryz.func88 (by kernel_rfl) (by kernel_rfl) (by kernel_rfl) (e:=Extern.MapsClone.clone) (by kernel_rfl),run_maps_clone_sl w d j];rfl
 refine⟨_,rfl,some w.heap.size,run_typeAssert_map_sl _ d 20 _ _ _ c,w.heap.size,rfl,rfl,⟨h,a,Ii w _,l⟩,⟨rfl,rfl,rfl,by simp,λk m _=>alloc_old w _ k m⟩⟩
def Mc{K:Type}[DecidableEq K]{c:KCY K}(b:Nat)(al:List (K×Value))(w:Wq)(d:MapAt c w b al):
  CP 50 #[.map (some b)] w λe w'=>∃a,e=Ej (.map (some a))/\a=w.heap.size/\MapAt c w' a al/\Chg [] w w':=
 by apply Jb0;exact qQ (TK:=3) (TV:=62) (by kernel_rfl) d
def lMClonePl_spec{K:Type}[DecidableEq K]{c:KCY K}(b:Nat)(al:List (K×Value))(w:Wq)(d:MapAt c w b al):
  CP 52 #[.map (some b)] w λe w'=>∃a,e=Ej (.map (some a))/\a=w.heap.size/\MapAt c w' a al/\Chg [] w w':=
 by apply Jby;exact qQ (TK:=9) (TV:=101) (by kernel_rfl) d
def lMCloneSI_spec{K:Type}[DecidableEq K]{c:KCY K}(b:Nat)(al:List (K×Value))(w:Wq)(d:MapAt c w b al):
  CP 90 #[.map (some b)] w λe w'=>∃a,e=Ej (.map (some a))/\a=w.heap.size/\MapAt c w' a al/\Chg [] w w':=
 by apply Jbz;exact qQ (TK:=9) (TV:=3) (by kernel_rfl) d
noncomputable section
def nPT:Scl PP 49:=BQ (by kernel_rfl)
def nMN:Scl PP 117:=BQ (by kernel_rfl)
def nSI:Scl PP 59:=BQ (by kernel_rfl)
def KDo:Scl PP 34:=BQ (by kernel_rfl)
def wQ:Scl PP 104:=BQ (by kernel_rfl)
def LG:Agg PP 71 7:=DN (by kernel_rfl)
def wH:Agg PP 139 8:=DN (by kernel_rfl)
def Kz:Elt PP 59 3 1 8:=DU (by kernel_rfl)
def LH:PP.underlying 59=some (.slice 3):=by kernel_rfl
def Ei:KAa PP (Dn .i64) 117 3 136 (.pointer none):=⟨by kernel_rfl,by kernel_rfl,by kernel_rfl⟩
structure NW where
 b:Nat
 aa:OA
 ac:Nat
 ka:OA
 kc:Nat
def AO(l:lI):LV:=l.map (.int .i64)
def yL(y:NW)(e:En):LV:=[I e.id,I e.par,I e.x.kind,I 0,.string e.x.name,.string e.x.text,.slice y.aa e.x.FP.length y.ac,.slice y.ka e.kids.length y.kc]
def yl(p:NW×En):List Asn:=[.blk p.1.b (yL p.1 p.2) 139,.own 142 2 p.1.aa p.2.x.FP.length p.1.ac (atC p.2.x.FP),.own 3 1 p.1.ka p.2.kids.length p.1.kc (AO p.2.kids)]
def Bl(ws:List (NW×En)):List Asn:=ws.flatMap yl
def xe(ws:List (NW×En)):List (Int×Value):=ws.map λp=>(p.2.id,pq p.1.b)
def yX(mb:Nat)(root next:Int):LV:=[.map (some mb),I root,I next]
def xU(b mb:Nat)(root next:Int)(ws:List (NW×En)):List Asn:=.blk b (yX mb root next) 119::.Z6 mb .i64 (xe ws)::Bl ws
def Af:Fo->Int
 |.nil=>0
 |.cons i _ _ _=>i
def Dv(F:Fo)(ws:List (NW×En)):Prop:=(ws.map (·.2)).Perm (xO F 0)
def treeF(b:Nat)(F:Fo)(next:Int)(L:List Asn):Prop:=∃mb ws,Dv F ws/\L=xU b mb (Af F) next ws
def Md(b:Nat)(T:Tr)(L:List Asn):Prop:=∃F,Am F T/\treeF b F T.next L
def AV(f:Nq)(b:Nat)(T:Tr):Asn:=pkA f (Md b T)
def ZM{F:Fo}{p i q:Int}{x:NX}{k:Fo}(a:(ids F).Nodup)(h:AZ F p i=some (q,x,k)):(⟨i,q,x,xJ k⟩:En)∈xO F p:=by
 obtain⟨R,c,_⟩:=EY F p i a h;exact c.mem_iff.2 (.head _)
section
variable{F:Fo}{ws:List (NW×En)}
def Dv.ids(h:Dv F ws):((xe ws).map (·.1)).Perm (Nod.ids F):=by
 have:=h.map (·.id);rw[Ce,dB]at this;rw[xe,dB];exact this
def Dv.apart(h:Dv F ws)(a:(Nod.ids F).Nodup):FN (xe ws):=h.ids.nodup_iff.2 a
def Dv.at_(h:Dv F ws)(c:(Nod.ids F).Nodup){i q:Int}{x:NX}{k:Fo}(j:AZ F 0 i=some (q,x,k)):
  ∃A y B,ws=A++(y,⟨i,q,x,xJ k⟩)::B/\xZ (xe ws) i=some (pq y.b):=by
 have l:=h.mem_iff.2 (ZM c j);obtain⟨⟨y,e⟩,d,g⟩:=aU.1 l;dsimp only at g;subst g;obtain⟨A,B,a⟩:=gI d;exact⟨A,y,B,a,(FV (h.apart c)).2 (aU.2 ⟨_,d,rfl⟩)⟩
def Dv.none(h:Dv F ws){i:Int}(a:AZ F 0 i=none):xZ (xe ws) i=none:=by
 rw[Jo];intro c;exact(BI F 0 i).2 (h.ids.mem_iff.1 c) a
structure PN(F:Fo)(ws:List (NW×En)):Prop where
 at_:∀{i q:Int}{x:NX}{k:Fo},AZ F 0 i=some (q,x,k)->∃A y q' B,ws=A++(y,(⟨i,q',x,xJ k⟩:En))::B/\xZ (xe ws) i=some (pq y.b)
 none:∀{i:Int},AZ F 0 i=none->xZ (xe ws) i=none
def Nh(e:En):En:= {e with par:=0}
def PN.of(l:(Nod.ids F).Nodup)(h:(ws.map λp=>Nh p.2).Perm ((xO F 0).map Nh)):PN F ws:=by
 have m:((xe ws).map (·.1)).Perm (Nod.ids F):=by
  have a:=h.map (·.id);rw[dB,dB]at a;have r:(xO F 0).map ((λx=>x.id)∘Nh)=Nod.ids F:=by rw[<- Ce F 0];rfl
  rw[r]at a;rw[xe,dB];exact a
 have c:FN (xe ws):=m.nodup_iff.2 l;refine⟨λ{i q x k} d=>?_,λ{i} d=>?_⟩
 ·have g:=h.mem_iff.2 (aU.2 ⟨_,ZM l d,rfl⟩);obtain⟨⟨y,e⟩,n,o⟩:=aU.1 g;obtain⟨t,s,ex,u⟩:=e;simp at o;obtain⟨rfl,_,rfl,rfl⟩:=o;obtain⟨A,B,j⟩:=gI n;exact⟨A,y,s,B,j,(FV c).2 (aU.2 ⟨_,n,rfl⟩)⟩
 rw[Jo];intro g;exact(BI F 0 i).2 (m.mem_iff.1 g) d
def Dv.v(h:Dv F ws)(a:(Nod.ids F).Nodup):PN F ws:=PN.of a (by
 have:=h.map Nh
 rwa [dB]at this)
def nods_split(A:List (NW×En))(p:NW×En)(B:List (NW×En)):(Bl (A++p::B)).Perm (yl p++Bl (A++B)):=by
 rw[Bl,Bl,dR,bW,dR,<- ax,<- ax];exact dU.append_right _
def Ze{p:NW×En}(h:p∈ws):∀a∈yl p,a∈Bl ws:=λa c=>fH.2 ⟨p,h,c⟩
def Ea{b mb:Nat}{root next:Int}{p:NW×En}(h:p∈ws){a:Asn}(c:a∈yl p):a∈xU b mb root next ws:=.tail _ (.tail _ (Ze h a c))
def Dv.len(h:Dv F ws):ws.length=(Nod.ids F).length:=by
 have:=h.length_eq;rw[aQ]at this;rw[this,<- Ce F 0,aQ]
end
def NE(l:lI):∀u∈AO l,u.oneCell'=true:=by
 intro u a;obtain⟨_,_,rfl⟩:=aU.1 a;rfl
def XG(l:lI):(AO l).length=l.length:=aQ _
theorem tJ{F:Fo}{T:Tr}(G:Am F T):Af F=(T.L.head?.map (·.id)).getD 0:=by
 rw[<- G.fl];cases F with
 |nil=>rfl
 |cons i x k s=>rfl
def TU(T:Tr):Int:=(T.L.head?.map (·.id)).getD 0
section
variable{b mb:Nat}{root next:Int}{F:Fo}{ws:List (NW×En)}{w:World}
def gRoot_w(h:Blk w b (yX mb root next) 119):CP 33 #[pq b] w λe w'=>e=Ej (I root)/\w'=w:=by
 apply Jbf;exact AA rfl ⟨root,h.ld xK.agg rfl,rfl,rfl⟩
def gNext_w(h:Blk w b (yX mb root next) 119):CP 39 #[pq b] w λe w'=>e=Ej (I next)/\w'=w:=by
 apply Jbc;exact AA rfl ⟨next,h.ld xK.agg rfl,rfl,rfl⟩
end
def run_len_map{P:Program}{w:Wq}{t c d ty:TypeId}{K:Type}[DecidableEq K]{e:KCY K}{b:Nat}{al:List (K×Value)}(g:P.underlying t=some (.map c d))(h:MapAt e w b al):LenM P #[t] ty w (.map (some b)) (I (al.length:Int)):=by
 obtain⟨i,a,j,l,_⟩:=h
 have m:i.size=al.length:=by
  have:=congrArg List.length l;simpa using this
 simp[LenM,Builtin.len_,Builtin.lenOf,Go.Vc.run_getObj_map j,xQ g,goInt,m]
section
variable{f:List Nat}{b:Nat}{T:Tr}{w:World}
def FD(h:(AV f b T).ok w):∃F mb ws,Am F T/\Dv F ws/\Std w (xU b mb (Af F) T.next ws)/\∀k∈xq (xU b mb (Af F) T.next ws),k∈f:=by
 obtain⟨L,⟨F,a,mb,ws,c,rfl⟩,d,e⟩:=E5 h;exact⟨F,mb,ws,a,c,d,e⟩
def OW(h:(AV f b T).ok w):CP 33 #[pq b] w λe w'=>e=Ej (I (TU T))/\w'=w:=by
 obtain⟨F,mb,ws,a,d,c,_⟩:=FD h;have:=gRoot_w (c.ok _ (.head _));rw[tJ a]at this;exact this
def Oc(h:(AV f b T).ok w):CP 39 #[pq b] w λe w'=>e=Ej (I T.next)/\w'=w:=by
 obtain⟨F,mb,ws,c,d,a,_⟩:=FD h;exact gNext_w (a.ok _ (.head _))
def gLen_spec(h:(AV f b T).ok w):CP 30 #[pq b] w λe w'=>e=Ej (I (T.L.length:Int))/\w'=w:=by
 obtain⟨F,mb,ws,c,d,a,_⟩:=FD h;apply Ja7;have g:MapAt (Dn .i64) w mb (xe ws):=a.ok _ m1;have i:Blk w b (yX mb (Af F) T.next) 119:=a.ok _ (.head _);refine AA rfl ⟨some mb,i.ld nMN.agg rfl,_,run_len_map Ei.und g,?_,rfl⟩;have e:(xe ws).length=T.L.length:=by rw[xe,aQ,d.len,Bf c]
 rw[e]
end
section
variable{b mb:Nat}{root next:Int}{F:Fo}{ws:List (NW×En)}{w:World}
theorem row_one:∀(L:List Rw),(L.map (·.id)).Nodup->∀a∈L,∀c∈L,a.id=c.id->a=c:=by
 intro L
 induction L with
 |nil=>intro _ a i;cases i
 |cons r t n=>
  intro h a i b l e;rw[aj,bH]at h;rcases aP.1 i with m|g
  ·rcases aP.1 l with j|d
   ·rw[m,j]
   exact(h.1 (aU.2 ⟨b,d,by rw[<- e,m]⟩)).elim
  rcases aP.1 l with j|d
  ·exact(h.1 (aU.2 ⟨a,g,by rw[e,j]⟩)).elim
  exact n h.2 a g b d e
theorem OE(g:(ids F).Nodup)(d:Dv F ws)(j:Std w (xU b mb root next ws))(i:Int):
  CP 147 #[pq b,I i] w λe w'=>w'=w/\
   ((AZ F 0 i=none/\e=Ej (.tuple #[.pointer none,I 60]))\/
    (∃q x k,AZ F 0 i=some (q,x,k)/\x.kind≠1/\e=Ej (.tuple #[.pointer none,I 68]))\/
    (∃q x k A y B,AZ F 0 i=some (q,x,k)/\x.kind=1/\ws=A++(y,⟨i,q,x,xJ k⟩)::B/\e=Ej (.tuple #[pq y.b,I 0]))):=by
 apply Jay;have H:=Hp.Cb j;refine AA rfl ⟨some mb,H.lo nMN,?_⟩;cases hl:AZ F 0 i with
 |none=>
  have a:=d.none hl;exact⟨none,false,H.Np Ei EQ4 m1 (by rw[a];rfl) (by rw[a];rfl),Cc ⟨rfl,.inl ⟨rfl,rfl⟩⟩⟩
 |some z=>
  obtain⟨q,x,k⟩:=z;obtain⟨A,y,B,c,a⟩:=d.at_ g hl;have l:Asn.blk y.b (yL y ⟨i,q,x,xJ k⟩) 139∈xU b mb root next ws:=Ea (p:=(y,⟨i,q,x,xJ k⟩)) (by rw[c];simp) (.head _)
  refine⟨some ⟨y.b,0,none⟩,true,H.Np Ei EQ4 m1 (by rw[a];rfl) (by rw[a];rfl),Au (AA rfl ⟨x.kind,H.ld EQ4 xK l rfl,AQ (λh=>⟨rfl,.inr (.inl ⟨q,x,k,rfl,h,rfl⟩)⟩) (λh=>⟨rfl,.inr (.inr ⟨q,x,k,A,y,B,rfl,h,c,rfl⟩)⟩)⟩)⟩
theorem ZH(K:(ids F).Nodup)(m:∀j∈ids F,j≠0)(aa:∃j z kk,F=.cons j z kk .nil)(hw:Dv F ws)(hs:Std w (xU b mb root next ws)){i q:Int}{x:NX}{k:Fo}{A B:List Rw}{v:Int}(hl:AZ F 0 i=some (q,x,k))(hm:Mid F 0 i 0 q x k A B v)(hv:v<=1000000):
  CP 149 #[pq b,I i] w λe w'=>e=Ej (I v)/\w'=w:=by
 apply Ja8;have H:=Hp.Cb hs;have L:=hm.le;refine xI.mk (λn s w'=>∃q x k A B u,n=u.toNat/\w'=w/\AZ F 0 s.1=some (q,x,k)/\Mid F 0 s.1 0 q x k A B u/\s.2=v-u/\0<=u/\u<=v) v.toNat ⟨q,x,k,A,B,v,rfl,rfl,hl,hm,(Int.sub_self v).symm,L,gz _⟩ ?_;rintro n ⟨j,c⟩ M nx ⟨a,x1,k1,A1,B1,u,rfl,rfl,N,d,hc,ab,ac⟩ O;obtain⟨A2,y,B2,R,ha⟩:=hw.at_ K N;have o:Asn.blk y.b (yL y ⟨j,a,x1,xJ k1⟩) 139∈xU b mb root next ws:=Ea (p:=(y,⟨j,a,x1,xJ k1⟩)) (by rw[R];simp) (.head _)
 have t:Ld PP 117 M ⟨b,0,none⟩ (.map (some mb)):=H.lo nMN;have C:Lk PP 117 false M (.map (some mb)) (I j) (pq y.b):=H.lkI Ei EQ4 m1 (by rw[ha];rfl);have D:Ld PP 3 M ⟨y.b,1,none⟩ (I a):=H.ld EQ4 xK o rfl;refine AA rfl ⟨_,t,_,C,AA rfl ⟨a,by rw[add_lit];exact D,AQ (λh=>AA rfl ⟨_,t,_,C,AA rfl ⟨a,by rw[add_lit];exact D,iR,?_⟩⟩) (λh=>⟨?_,rfl⟩)⟩⟩
 ·rcases d.up with⟨G,_⟩|⟨G,A3,z,A4,U,_⟩
  ·exact(h G).elim
  have g:(⟨a,u-1,z⟩:Rw)∈flat F 0:=by rw[d.fl,U];simp
  have X:a∈ids F:=by rw[<- BK F 0];exact aU.2 ⟨_,g,rfl⟩
  have Y:=(BI F 0 a).2 X;cases hlq:AZ F 0 a with
  |none=>exact(Y hlq).elim
  |some r=>
   obtain⟨q2,x2,k2⟩:=r;obtain⟨A5,B5,Z,l⟩:=CV F 0 a 0 K hlq;have J:=l.level;have:=row_one (flat F 0) (by rw[BK];exact K) _ g _ J rfl;injection this with _ e2 _
   have ad:Z=u-1:=e2.symm;have:=l.le;refine O Z.toNat _ _ om ⟨q2,x2,k2,A5,B5,Z,rfl,rfl,hlq,l,om,om,om⟩
 rcases d.up with⟨_,G⟩|⟨G,A3,z,A4,U,_⟩
 ·rw[hc,G,Int.sub_zero]
 have g:(⟨a,u-1,z⟩:Rw)∈flat F 0:=by rw[d.fl,U];simp
 have X:a∈ids F:=by rw[<- BK F 0];exact aU.2 ⟨_,g,rfl⟩
 exact(m a X h).elim
end
end
end Go.Proofs.YtljenkbpnioipaaGreat
namespace Go.Nod
theorem NI:∀(F G:Fo),ids (app F G)=ids F++ids G
 |.nil,G=>rfl
 |.cons i x k s,G=>by rw[app,ids,ids,NI s G];simp
theorem XV:∀(F G H:Fo),app (app F G) H=app F (app G H)
 |.nil,G,H=>rfl
 |.cons i x k s,G,H=>by rw[app,app,app,XV s G H]
theorem Jn:∀(F:Fo),(xJ F).length<=(ids F).length
 |.nil=>aZ _
 |.cons i x k s=>by
  have:=Jn s;rw[xJ,ids,aK,aK,aF];omega
theorem look_in:∀(F:Fo)(p i c:Int){q:Int}{x:NX}{k:Fo}{r:Int×NX×Fo},(ids F).Nodup->AZ F p i=some (q,x,k)->AZ k i c=some r->AZ F p c=some r
 |.nil,p,i,c,q,x,k,r,_,h,_=>by cases h
 |.cons j y kk s,p,i,c,q,x,k,r,hn,h,hc=>by
  rw[ids,bH,bG]at hn;obtain⟨d,l,m,n⟩:=hn;rw[AZ]at h⊢;split at h
  ·rename_i e;cases h;subst e;have f:c∈ids kk:=(BI kk j c).1 (by rw[hc];simp);have a:¬j=c:=λe=>d (aS _ (e▸f));rw[if_neg a,hc]
  rename_i e;split at h
  ·rename_i u o;cases h;have g:=look_in kk j i c l o hc;have f:c∈ids kk:=(BI kk j c).1 (by rw[g];simp);have a:¬j=c:=λe=>d (aS _ (e▸f));rw[if_neg a,g]
  rename_i o;have g:=look_in s p i c m h hc;have f:c∈ids s:=(BI s p c).1 (by rw[g];simp);have a:¬j=c:=λe=>d (aI _ (e▸f))
  have t:AZ kk j c=none:=by
   cases h9:AZ kk j c with
   |none=>rfl
   |some w=>exact(n c ((BI kk j c).1 (by rw[h9];simp)) c f rfl).elim
  rw[if_neg a,t];exact g
theorem ZW:∀(K:Fo)(i c:Int)(y:NX)(kk s:Fo),(ids (app K (.cons c y kk s))).Nodup->AZ (app K (.cons c y kk s)) i c=some (i,y,kk)
 |.nil,i,c,y,kk,s,_=>by rw[app,AZ,if_pos rfl]
 |.cons j z a t,i,c,y,kk,s,h=>by
  rw[app,ids,bH,bG]at h;have f:c∈ids (app t (.cons c y kk s)):=by rw[NI,ids];simp
  have d:¬j=c:=λe=>h.1 (aI _ (e▸f))
  have g:AZ a j c=none:=by
   cases h9:AZ a j c with
   |none=>rfl
   |some l=>exact(h.2.2.2 c ((BI a j c).1 (by rw[h9];simp)) c f rfl).elim
  rw[app,AZ,if_neg d,g];exact ZW t i c y kk s h.2.2.1
def row_in{i c:Int}{x y:NX}{K kk s:Fo}{a:Int}{j:Nat}{r:Rw}(h:(flat (.cons c y kk .nil) (a+1))[j]? =some r):(flat (.cons i x (app K (.cons c y kk s)) .nil) a)[1+(ids K).length+j]? =some r:=by
 have e:flat (.cons i x (app K (.cons c y kk s)) .nil) a=(⟨i,a,x⟩::flat K (a+1))++(flat (.cons c y kk .nil) (a+1)++flat s (a+1)):=by
  simp[flat,Vh]
 have d:(⟨i,a,x⟩::flat K (a+1):List Rw).length=1+(ids K).length:=by rw[aK,BZ];omega
 have f:=(aA.1 h).1;rw[e,bg om,d,gq,bQ f];exact h
end Go.Nod
namespace Go.Proofs.YtljenkbpnioipaaGreat
noncomputable section
open Go Go.Vc Go.Nod
def dA(D:Nat):Asn:=yE D (.deferred (some []))
theorem shutAll{B:Nq}{w0:Wq}:∀(a:Nq)(w:Wq)(L:List Asn),Hp B w0 w (a.map dA++L)->∃w1,KAD a w w1/\Hp B w0 w1 L
 | [],w,L,H=>⟨w,rfl,H⟩
 |D::a,w,L,H=>by
  have H:Hp B w0 w (dA D::(a.map dA++L)):=H;obtain⟨w1,c,d⟩:=shutAll a _ L ((H.KBh (o':=.deferred none)).drop);exact⟨w1,⟨_,⟨H.obj (.head _),rfl⟩,c⟩,d⟩
def IE(b:Nat)(i a:Int)(w:Wq):CP 69 #[pq b,I i,I a] w λe w'=>
  ∃c d f,e=Ej (.func (.func 137) #[] #[pq c,pq d,pq f])/\
   Hp [] w w' [.blk f [I a] 3,.blk d [I i] 3,.blk c [pq b] 49]:=by
 apply Jas;intro c l g;have H:=(Hp.start w).nw g;intro d m h;replace H:=H.nw h;intro f n j;replace H:=H.nw j;exact⟨c,d,f,rfl,H⟩
def wY{B:Nq}{w0 w:Wq}{L R:List Asn}{x:Asn}(H:Hp B w0 w (x::(L++R))):Hp B w0 w (L++x::R):=H.perm bP.symm
def OL{B:Nq}{w0 w:Wq}{L R:List Asn}{x:Asn}(H:Hp B w0 w (L++x::R)):Hp B w0 w (x::(L++R)):=H.perm bP
def Yld(B:Nq)(w0:Wq)(G' J:List Asn->Prop)(Fr:List Asn)(e:Ending)(w':Wq):Prop:=
 (e=Ej (.bool true)/\∃L',G' L'/\Hp B w0 w' (L'++Fr))\/(e=Ej (.bool false)/\∃L',J L'/\Hp B w0 w' (L'++Fr))
section
variable{B:List Nat}{w0:World}(b mb:Nat)(root next:Int)(ws:List (NW×En))(F:Fo)
theorem below1(ac:(ids F).Nodup)(hw:PN F ws):∀(n:Nat)(i q:Int)(x:NX)(k:Fo)(d:Int)(m l:Nat)(G:Nat->List Asn->Prop)(J:List Asn->Prop)(f0 f1 f2:Nat)(Fr L:List Asn)(w:Wq),
  (ids k).length<n->AZ F 0 i=some (q,x,k)->0<=d->d+(ids k).length<=1000000->
  (∀j L,G j L->∀a∈xU b mb root next ws,a∈L)->
  (∀(j:Nat)(r:Rw),(flat (.cons i x k .nil) d)[j]? =some r->∀(Fr L:List Asn)(w:Wq),G (m+j) L->Hp B w0 w (L++Fr)->
   zC PP (.func (.yield l) #[] #[]) [I r.id,I r.level] w λe w'=>Yld B w0 (G (m+j+1)) J Fr e w')->
  Asn.blk f0 [pq b] 49∈Fr->Asn.blk f1 [I i] 3∈Fr->Asn.blk f2 [I d] 3∈Fr->
  G m L->Hp B w0 w (L++Fr)->
  CP 137 #[.func (.yield l) #[] #[],pq f0,pq f1,pq f2] w λe w'=>
   e=Ej (.tuple #[])/\((∃L',G (m+1+(ids k).length) L'/\Hp B w0 w' (L'++Fr))\/∃L',J L'/\Hp B w0 w' (L'++Fr)):=by
 intro n
 induction n with
 |zero=>intro i q x k d m l G J f0 f1 f2 Fr L w hn;omega
 |succ n ih=>
 intro i q x k d m l G J f0 f1 f2 Fr L w hn ae a1 a2 hT hy m0 m1 m2 hG H;apply Jat;intro t w1 ao;have M:=wY (H.nw ao);obtain⟨A,y,q',Bw,ap,ha⟩:=hw.at_ ae;have ab:∀a∈yl (y,⟨i,q',x,xJ k⟩),a∈xU b mb root next ws:=λa ha=>Ea (by rw[ap];simp) ha
 have u:∀{a:Asn}{L Fr:List Asn},a∈Fr->a∈L++Fr:=λh=>aI _ h;have X:∀{a:Asn}{j:Nat}{L Fr:List Asn},G j L->a∈xU b mb root next ws->a∈L++Fr:=λhg h=>aS _ (hT _ _ hg _ h)
 refine⟨_,AA rfl (M.ld EQ4 nPT (u (.tail _ m0)) rfl),AA rfl ⟨some mb,M.ld EQ4 nMN (X hG (.head _)) rfl,i,AA rfl (M.ld EQ4 xK (u (.tail _ m1)) rfl),?_⟩⟩;refine⟨some ⟨y.b,0,none⟩,true,M.Np Ei EQ4 (X hG (.tail _ (.head _))) (by rw[ha];rfl) (by rw[ha];rfl),Au ?_⟩;refine⟨.func (.yield l) #[] #[],M.ld EQ4 wQ (u (.head _)) rfl,i,AA rfl (M.ld EQ4 xK (u (.tail _ m1)) rfl),d,AA rfl (M.ld EQ4 xK (u (.tail _ m2)) rfl),?_⟩;refine uK (hy 0 ⟨i,d,x⟩ rfl (.blk t [.func (.yield l) #[] #[]] 104::Fr) L w1.drew hG (M.go EQ4)) ?_;rintro e w2 (⟨rfl,L1,ah,M⟩|⟨rfl,L1,hJ,M⟩);rotate_left
 ·exact⟨false,rfl,Cc ⟨w2,rfl,rfl,.inr ⟨L1,hJ,(OL M).drop⟩⟩⟩
 refine⟨true,rfl,Au (AA rfl ⟨y.ka,(xJ k).length,y.kc,by rw[add_lit];exact M.ld EQ4 nSI (X ah (ab _ (.head _))) rfl,?_⟩)⟩;obtain⟨Aq,Bq,vq,ak⟩:=CV F 0 i 0 ac ae
 have al:(ids k).Nodup:=by
  have:=ac;rw[ak.ids,bG,bH,bG]at this;exact this.2.1.2.1
 refine xI.mk (λm' s w'=>∃(g K:Fo)(L:List Asn),k=app g K/\m'=(xJ K).length/\s.1=((xJ g).length:Int)/\G (m+1+(ids g).length) L/\Hp B w0 w' (L++(s.2.map dA++(.blk t [.func (.yield l) #[] #[]] 104::Fr)))) (xJ k).length ⟨.nil,k,L1,rfl,rfl,rfl,ah,M⟩ ?_;rintro m' ⟨s,p⟩ w3 nx ⟨g,K,L2,rfl,rfl,hs,af,H2⟩ aq;subst hs
 have am:∀(p:Nq)(w4:Wq)(L4:List Asn),Hp B w0 w4 (L4++(p.map dA++(.blk t [.func (.yield l) #[] #[]] 104::Fr)))->∃T,KAD p w4 T/\Hp B w0 T (L4++Fr):=λp w4 L4 h=>by
  have h1:=h.perm (gm _ _ _);obtain⟨T,h2,h3⟩:=shutAll p w4 _ h1;exact⟨T,h2,(OL h3).drop⟩
 refine AB (λh3=>?_) (λh3=>?_);rotate_left
 ·have hK:K=.nil:=by
   cases K with
   |nil=>rfl
   |cons c z N s=>
    exfalso;rw[I5,xJ,aF,aK]at h3;omega
  subst hK;obtain⟨T,h4,h5⟩:=am p w3 L2 H2;refine⟨T,h4,rfl,.inl ⟨L2,?_,h5⟩⟩;rw[NI,ids,aX];exact af
 cases K with
 |nil=>rw[I5,xJ,aX]at h3;omega
 |cons c z N s=>
 have a3:=Jn (app g (.cons c z N s));have a4:(xJ g).length<(xJ (app g (.cons c z N s))).length:=by rw[I5,xJ,aF,aK];omega
 have ar:(AO (xJ (app g (.cons c z N s))))[(xJ g).length]? =some (I c):=by
  rw[AO,au,I5,bg (aZ _),iL];rfl
 obtain⟨ad,av,aw⟩:=H2.ldO EQ4 xK (X af (ab _ (t2 (.head _)))) ar;have a0:AZ F 0 c=some (i,z,N):=look_in F 0 i c ac ae (ZW g i c z N s al)
 have a5:(ids N).length+1+(ids g).length<=(ids (app g (.cons c z N s))).length:=by
  rw[NI,ids,aF,aK,aF];omega
 refine AA av ⟨⟨om,h3⟩,c,by rw[aN,bV];exact aw,_,AA rfl (H2.ld EQ4 nPT (u (aI _ (.tail _ m0))) rfl),d,AA rfl (H2.ld EQ4 xK (u (aI _ (.tail _ m2))) rfl),DT.2 om,?_⟩;refine AC (IE b c (d+1) w3) ?_;rintro _ w4 ⟨Y,Z,g2,rfl,Hb⟩;replace H2:=H2.ext Hb;refine⟨_,rfl,137,#[],_,rfl,⟨_,_,Tryz.func137,rfl⟩,⟨λD U wa wb f hD hl aa=>?_⟩⟩;have H3:=(H2.KED EQ4 hD).KED EQ4 hl
 have H4:Hp B w0 wb ((yE U (f .ready none)::.blk t [.func (.yield l) #[] #[]] 104::L2)++(.blk g2 [I (d+1)] 3::.blk Z [I c] 3::.blk Y [pq b] 49::dA D::(p.map dA++Fr))):=by
  refine H3.perm ?_;refine List.Perm.cons _ ?_
  have e1:(L2++(p.map dA++.blk t [.func (.yield l) #[] #[]] 104::Fr)).Perm (.blk t [.func (.yield l) #[] #[]] 104::(L2++(p.map dA++Fr))):=by
   refine((bP (l₁:=p.map dA)).append_left L2).trans ?_;exact bP
  refine(e1.append_left [dA D,.blk g2 [I (d+1)] 3,.blk Z [I c] 3,.blk Y [pq b] 49]).trans ?_;refine(bP (l₁:=[dA D,.blk g2 [I (d+1)] 3,.blk Z [I c] 3,.blk Y [pq b] 49])).trans ?_;refine List.Perm.cons _ ?_;refine(gm _ _ _).trans ?_;refine kC L2 ?_;exact(bP (l₁:=[.blk g2 [I (d+1)] 3,.blk Z [I c] 3,.blk Y [pq b] 49]) (l₂:=p.map dA++Fr)).symm
 refine AC (ih c i z N (d+1) (m+1+(ids g).length) U (λj L=>∃O,G j O/\L=yE U (f .ready none)::.blk t [.func (.yield l) #[] #[]] 104::O) (λL=>∃O,J O/\L=yE U (f .done (some .ret))::.blk t [.func (.yield l) #[] #[]] 104::O) Y Z g2 _ _ wb om a0 om om ?_ ?_ (t2 (.head _)) (.tail _ (.head _)) (.head _) ⟨L2,af,rfl⟩ H4) ?_
 ·rintro j _ ⟨O,h0,rfl⟩ a ha;exact .tail _ (.tail _ (hT j O h0 a ha))
 ·rintro j r hr an _ T ⟨O,h0,rfl⟩ H5;have C:T.heap[U]? =some (f .ready none):=H5.obj (.head _);refine aa (r.id,r.level) T _ ⟨C,?_⟩ C;have H6:=H5.KBh (o':=f .busy none);refine⟨.func (.yield l) #[] #[],H6.ld EQ4 wQ (.tail _ (.head _)) rfl,?_⟩
  have H7:Hp B w0 (T.putObj U (f .busy none)) (O++(yE U (f .busy none)::.blk t [.func (.yield l) #[] #[]] 104::an)):=by
   refine H6.perm ?_;exact gm [yE U (f .busy none),.blk t [.func (.yield l) #[] #[]] 104] O an
  refine uK (hy (1+(ids g).length+j) r (row_in hr) _ O _ ?_ H7) ?_
  ·rw[show m+(1+(ids g).length+j)=m+1+(ids g).length+j by omega];exact h0
  rintro e w6 (⟨rfl,L8,h8,R⟩|⟨rfl,L8,h8,R⟩)
  ·have H9:=OL R;refine⟨true,rfl,Au ⟨H9.obj (.head _),.inl ⟨rfl,_,⟨L8,?_,rfl⟩,?_⟩⟩⟩
   ·rw[show m+1+(ids g).length+j+1=m+(1+(ids g).length+j)+1 by omega];exact h8
   have ag:=H9.KBh (o':=f .ready none);exact ag.perm (List.Perm.cons _ bP)
  have H9:=OL R;refine⟨false,rfl,Cc ⟨H9.obj (.head _),.inr ⟨rfl,_,⟨L8,h8,rfl⟩,?_⟩⟩⟩;have ag:=H9.KBh (o':=f .done (some .ret));exact ag.perm (List.Perm.cons _ bP)
 --behind the inner range
 have back:∀{o:Obj}{w6:Wq}{L8:List Asn}(o':Obj),Hp B w0 w6 ((yE U o::.blk t [.func (.yield l) #[] #[]] 104::L8)++(.blk g2 [I (d+1)] 3::.blk Z [I c] 3::.blk Y [pq b] 49::dA D::(p.map dA++Fr)))->
   Hp B w0 (w6.putObj U o') (L8++((D::p).map dA++(.blk t [.func (.yield l) #[] #[]] 104::Fr))):=by
  intro o w6 L8 o' R;have H9:=(R.KBh (o':=o')).drop
  have e2:((.blk t [.func (.yield l) #[] #[]] 104::L8)++(.blk g2 [I (d+1)] 3::.blk Z [I c] 3::.blk Y [pq b] 49::dA D::(p.map dA++Fr)):List Asn).Perm ([.blk g2 [I (d+1)] 3,.blk Z [I c] 3,.blk Y [pq b] 49]++(L8++((D::p).map dA++(.blk t [.func (.yield l) #[] #[]] 104::Fr)))):=by
   refine(gm (.blk t [.func (.yield l) #[] #[]] 104::L8) [.blk g2 [I (d+1)] 3,.blk Z [I c] 3,.blk Y [pq b] 49] (dA D::(p.map dA++Fr))).trans ?_;refine kC _ ?_
   have e3:(L8++((D::p).map dA++(.blk t [.func (.yield l) #[] #[]] 104::Fr))).Perm (.blk t [.func (.yield l) #[] #[]] 104::(L8++((D::p).map dA++Fr))):=by
    refine((bP (l₁:=(D::p).map dA)).append_left L8).trans ?_;exact bP
   exact e3.symm
  exact(H9.perm e2).drop.drop.drop
 rintro e w6 ⟨rfl,⟨_,⟨L8,h8,rfl⟩,R⟩|⟨_,⟨L8,h8,rfl⟩,R⟩⟩
 ·refine⟨_,rfl,.inl ⟨R.obj (.head _),DT.2 om,?_⟩⟩;refine aq (xJ s).length _ _ (by rw[xJ,aK];omega) ⟨app g (.cons c z N .nil),s,L8,?_,rfl,?_,?_,back _ R⟩
  ·rw[XV];rfl
  ·show((xJ g).length:Int)+1=_;rw[I5,aF];rfl
  rw[NI,aF,ids,ids,aX,aK];rw[show m+1+((ids g).length+((ids N).length+1))=m+1+(ids g).length+1+(ids N).length by omega];exact h8
 refine⟨_,rfl,.inr (.inl ⟨R.obj (.head _),?_⟩)⟩;obtain⟨w7,h7,H7⟩:=am (D::p) _ L8 (back (f .exhausted (some .ret)) R);exact⟨w7,h7,rfl,.inr ⟨L8,h8,H7⟩⟩
end
end
noncomputable section
open Go Go.Vc Go.Nod
def Ba(F:Fo)(i:Int):List Rw:=match AZ F 0 i with
 |some (_,x,k)=>flat (.cons i x k .nil) 0
 |none=>[]
section
variable{B:List Nat}{w0:World}(b mb:Nat)(root next:Int)(ws:List (NW×En))(F:Fo)
def below1_none(p:PN F ws)(i q:Int)(l m n r:Nat)(Fr L:List Asn)(w:Wq)(g:AZ F 0 i=none)
  (s:∀a∈xU b mb root next ws,a∈L) (t:Asn.blk m [pq b] 49∈Fr) (u:Asn.blk n [I i] 3∈Fr) (H:Hp B w0 w (L++Fr)):
  CP 137 #[.func (.yield l) #[] #[],pq m,pq n,pq r] w λe w'=>e=Ej (.tuple #[])/\Hp B w0 w' (L++Fr):=by
 apply Jat;intro x y j;have c:=wY (H.nw j);have o:=p.none g;have d:∀{a:Asn}{L Fr:List Asn},a∈Fr->a∈L++Fr:=λh=>aI _ h;have f:∀{a:Asn}{Fr:List Asn},a∈xU b mb root next ws->a∈L++Fr:=λh=>aS _ (s _ h)
 refine⟨_,AA rfl (c.ld EQ4 nPT (d (.tail _ t)) rfl),AA rfl ⟨some mb,c.ld EQ4 nMN (f (.head _)) rfl,i,AA rfl (c.ld EQ4 xK (d (.tail _ u)) rfl),?_⟩⟩;refine⟨none,false,c.Np Ei EQ4 (f (.tail _ (.head _))) (by rw[o];rfl) (by rw[o];rfl),Cc ⟨_,rfl,rfl,?_⟩⟩;exact(OL c).drop.go EQ4
theorem JJ{g:Int×Int->Wq->(Wq->(Wq->Prop)->Prop)->(Wq->Prop)->(Wq->Prop)->(Nat->Wq->Prop)->Prop}{Qn Qr:Nat->Wq->Prop}{Qx:Nat->Nat->Wq->Prop}
  (N:(ids F).Nodup) (hw:PN F ws) (ad:(ids F).length<=1000) (i:Int) (U X Y:Nat) (G:Nat->List Asn->Prop) (J:List Asn->Prop) (d Fr:List Asn) (w:Wq)
  (hT:∀j L,G j L->∀a∈xU b mb root next ws,a∈L)
  (m0:Asn.blk U [pq b] 49∈Fr) (m1:Asn.blk X [I i] 3∈Fr) (m2:Asn.blk Y [I 0] 3∈Fr)
  (hG:G 0 d) (H:Hp B w0 w (d++Fr))
  (p:∀(j:Nat)(r:Rw),(Ba F i)[j]? =some r->∀(w':Wq)(T0 T1 L:List Asn)(m:Wq->(Wq->Prop)->Prop)(kn kr:WP)(kx:Nat->Wq->Prop),G j L->Hp B w0 w' (L++T0)->
   (∀k0:Wq->Prop,(∀w2,Hp B w0 w2 (L++T1)->k0 w2)->m w' k0)->(∀A t,G (j+1) t->Hp B w0 A (t++T1)->kn A)->(∀A t,J t->Hp B w0 A (t++T1)->kr A)->g (r.id,r.level) w' m kn kr kx)
  (y:∀D w' L,G (Ba F i).length L->Hp B w0 w' (dA D::(L++Fr))->Qn D w')
  (O:∀D w' L,J L->Hp B w0 w' (dA D::(L++Fr))->Qr D w'):
  KAA PP 137 [] [pq U,pq X,pq Y] (λs:Int×Int=>[I s.1,I s.2]) g w Qn Qr Qx:=by
 refine⟨λD l wa wb f hD hl aa=>?_⟩;have H2:=(H.KED EQ4 hD).KED EQ4 hl
 have H3:Hp B w0 wb ((yE l (f .ready none)::d)++(dA D::Fr)):=by
  refine H2.perm (List.Perm.cons _ ?_);exact bP.symm
 have out:∀{o:Obj}{Z:Wq}{L8:List Asn}(o':Obj),Hp B w0 Z ((yE l o::L8)++(dA D::Fr))->Hp B w0 (Z.putObj l o') (dA D::(L8++Fr)):=by
  intro o Z L8 o' n;have C:=(n.KBh (o':=o')).drop;exact C.perm bP
 cases hlk:AZ F 0 i with
 |none=>
  have u:Ba F i=[]:=by rw[Ba,hlk]
  refine AC (below1_none b mb root next ws F hw i 0 l U X Y (dA D::Fr) (yE l (f .ready none)::d) wb hlk (λa ha=>.tail _ (hT 0 d hG a ha)) (.tail _ m0) (.tail _ m1) H3) ?_;rintro e w2 ⟨rfl,H4⟩;exact⟨_,rfl,.inl ⟨H4.obj (.head _),y D _ d (by rw[u];exact hG) (out _ H4)⟩⟩
 |some z=>
  obtain⟨q,x,k⟩:=z;have u:Ba F i=flat (.cons i x k .nil) 0:=by rw[Ba,hlk]
  have ab:(Ba F i).length=0+1+(ids k).length:=by rw[u,flat,flat,aX,aK,BZ];omega
  obtain⟨Aq,Bq,vq,R⟩:=CV F 0 i 0 N hlk;have ae:(ids k).length<=(ids F).length:=by rw[R.ids];simp;omega
  refine AC (below1 b mb root next ws F N hw ((ids k).length+1) i q x k 0 0 l (λj L=>∃d,G j d/\L=yE l (f .ready none)::d) (λL=>∃d,J d/\L=yE l (f .done (some .ret))::d) U X Y (dA D::Fr) _ wb om hlk om om ?_ ?_ (.tail _ m0) (.tail _ m1) (.tail _ m2) ⟨d,hG,rfl⟩ H3) ?_
  ·rintro j _ ⟨L1,h1,rfl⟩ a ha;exact .tail _ (hT j L1 h1 a ha)
  ·rintro j r hr K _ w5 ⟨L1,h1,rfl⟩ H5;rw[cZ]at h1⊢;have c:w5.heap[l]? =some (f .ready none):=H5.obj (.head _);refine aa (r.id,r.level) w5 _ ?_ c;have T:∀{o:Obj}{W:Wq}{L:List Asn},Hp B w0 W ((yE l o::L)++K)->Hp B w0 W (L++(yE l o::K)):=λh=>h.perm bP.symm;refine p j r (by rw[u];exact hr) w5 _ (yE l (f .busy none)::K) L1 _ _ _ _ h1 (T H5) ?_ ?_ ?_
   ·intro k0 ac;exact⟨c,ac _ (T H5.KBh)⟩
   ·intro A t M n;have C:=OL n;exact⟨C.obj (.head _),.inl ⟨rfl,_,⟨t,M,rfl⟩,C.KBh⟩⟩
   intro A t M n;have C:=OL n;exact⟨C.obj (.head _),.inr ⟨rfl,_,⟨t,M,rfl⟩,C.KBh⟩⟩
  rintro e Z ⟨rfl,⟨_,⟨L8,M,rfl⟩,n⟩|⟨_,⟨L8,M,rfl⟩,n⟩⟩
  ·exact⟨_,rfl,.inl ⟨n.obj (.head _),y D _ L8 (by rw[ab];exact M) (out _ n)⟩⟩
  exact⟨_,rfl,.inr (.inl ⟨n.obj (.head _),O D _ L8 M (out _ n)⟩)⟩
end
def Vx{F:Fo}{T:Tr}(G:Am F T):Ba F (Af F)=T.L:=by
 rw[<- G.fl];rcases G.one with rfl|⟨i,x,k,rfl,_⟩
 ·rfl
 rw[Af,Ba,AZ,if_pos rfl]
section
variable{b mb:Nat}{root next:Int}{F:Fo}{ws:List (NW×En)}{w:World}
def gOrder_w(d:(ids F).Nodup)(f:(ids F).length<=1000)(K:Dv F ws)(M:Std w (xU b mb root next ws)):
  CP 28 #[pq b] w λe w'=>∃a c,e=Ej (.slice a (Ba F root).length c)/\Hp (xq (xU b mb root next ws)) w w' (.own 3 1 a (Ba F root).length c (AO ((Ba F root).map (·.id)))::xU b mb root next ws):=by
 apply Jbd;intro l N m;have H:=(Hp.Cb M).nw m;refine AA rfl ⟨root,by rw[add_lit];exact H.lo xK,AC (IE b root 0 N) ?_⟩;rintro _ O ⟨n,o,p,rfl,R⟩;replace H:=H.ext R;refine⟨_,rfl,137,#[],_,rfl,⟨_,_,Tryz.func137,rfl⟩,?_⟩
 refine JJ (B:=xq (xU b mb root next ws)) (w0:=w) b mb root next ws F d (K.v d) f root n o p
  (λj L=>∃a c,L=.blk l [.slice a j c] 59::.own 3 1 a j c (AO (((Ba F root).take j).map (·.id)))::xU b mb root next ws) (λ_=>False)
  (.blk l [.slice none 0 0] 59::.own 3 1 none 0 0 []::xU b mb root next ws) [.blk p [I 0] 3,.blk o [I root] 3,.blk n [pq b] 49] O
  ?_ m2 m1 (.head _) ⟨none,0,rfl⟩ ?_ ?_ ?_ (λ_ _ _ h=>h.elim)
 ·rintro j _ ⟨a,c,rfl⟩ x T;exact .tail _ (.tail _ T)
 ·have U:=H.yS 3 1;refine U.perm ?_;refine List.Perm.trans ?_ dU;exact(bP (l₁:=[Asn.blk p [I 0] 3,Asn.blk o [I root] 3,Asn.blk n [pq b] 49,Asn.blk l [.slice none 0 0] 59])).symm
 ·rintro j r G X T0 T1 _ s kn kr kx ⟨a,c,rfl⟩ t Y u _;refine Y _ λZ g=>?_;have y:=(aA.1 G).1
  have z:(Ba F root).length<=1000:=by
   have:((Ba F root).map (·.id)).length<=(ids F).length:=by
    rw[Ba];split
    ·rename_i q x k A;obtain⟨Aq,Bq,vq,i⟩:=CV F 0 root 0 d A;rw[BK,i.ids,ids,ids];simp;omega
    simp
   rw[aQ]at this;omega
  refine⟨a,j,c,g.lo nSI,?_⟩;intro b2 w5 C;have J:=g.nw C;have H6:=J.BF;refine Hp.app Kz om H6 EQ4 (Blk.src LH (J.blk (.head _)) rfl rfl) (by simp only[maxLen];omega) om ?_;intro a' c' w6 H7;have H8:=H7.BF;refine Hp.st H8 EQ4 nSI rfl rfl (by simp) rfl λw7 H9=>?_;refine u w7 _ ⟨a',c',rfl⟩ ?_
  have e:AO (((Ba F root).take (j+1)).map (·.id))=AO (((Ba F root).take j).map (·.id))++[I r.id]:=by
   rw[aG y,(aA.1 G).2];simp[AO]
  rw[e];exact H9.KDJ
 rintro D X _ ⟨a,c,rfl⟩ t;refine⟨a,_,c,t.lo nSI,t.shut λZ g=>⟨a,c,rfl,?_⟩⟩;rw[bJ]at g;exact g.drop.BM
end
end
end Go.Proofs.YtljenkbpnioipaaGreat
namespace Go.Nod
theorem VL:∀(F:Fo)(p l:Int)(r:Rw),(ids F).Nodup->r∈flat F l->∃q k,AZ F p r.id=some (q,r.x,k)
 |.nil,p,l,r,_,h=>by cases h
 |.cons j y kk s,p,l,r,hn,h=>by
  rw[ids,bH,bG]at hn;obtain⟨c,f,g,i⟩:=hn;rw[flat]at h;rw[AZ];rcases aP.1 h with rfl|h
  ·exact⟨p,kk,by rw[if_pos rfl]⟩
  rcases aT.1 h with h|h
  ·obtain⟨q,k,m⟩:=VL kk j (l+1) r f h;have d:r.id∈ids kk:=by rw[<- BK kk (l+1)];exact aU.2 ⟨r,h,rfl⟩
   have a:¬j=r.id:=λe=>c (aS _ (e▸d));exact⟨q,k,by rw[if_neg a,m]⟩
  obtain⟨q,k,m⟩:=VL s p l r g h;have d:r.id∈ids s:=by rw[<- BK s l];exact aU.2 ⟨r,h,rfl⟩
  have a:¬j=r.id:=λe=>c (aI _ (e▸d))
  have n:AZ kk j r.id=none:=by
   cases h9:AZ kk j r.id with
   |none=>rfl
   |some o=>exact(i _ ((BI kk j r.id).1 (by rw[h9];simp)) _ d rfl).elim
  exact⟨q,k,by rw[if_neg a,n];exact m⟩
end Go.Nod
namespace Go.Proofs.YtljenkbpnioipaaGreat
noncomputable section
open Go Go.Vc Go.Nod
def Bo(l:List It)(ss:List Sl3):List Asn:=List.zipWith (λx s=>Asn.own 142 2 s.1 x.x.FP.length s.2.2 (atC x.x.FP)) l ss
structure KCh(l:List It)(ss:List Sl3):Prop where
 len:ss.length=l.length
 att:∀(k:Nat)(x:It)(s:Sl3),l[k]? =some x->ss[k]? =some s->s.2.1=x.x.FP.length
def KCh.snoc{l:List It}{ss:List Sl3}(h:KCh l ss){x:It}{s:Sl3}(g:s.2.1=x.x.FP.length):KCh (l++[x]) (ss++[s]):=by
 have d:=h.len;refine⟨by simp[d],λk y t a c=>?_⟩;by_cases e:k<l.length
 ·rw[bQ e]at a;rw[bQ om]at c;exact h.att k y t a c
 rw[bg om]at a c
 have f:k-l.length=0:=by
  have:=(aA.1 a).1;simp at this;omega
 rw[f]at a;rw[d,f]at c;cases a;cases c;exact g
def XK{l:List It}{ss:List Sl3}(h:ss.length=l.length)(x:It)(s:Sl3):yK (l++[x]) (ss++[s])=yK l ss++itC x s:=by
 rw[yK,yK,jJ h.symm];simp
def Vf{l:List It}{ss:List Sl3}(h:ss.length=l.length)(x:It)(s:Sl3):Bo (l++[x]) (ss++[s])=Bo l ss++[.own 142 2 s.1 x.x.FP.length s.2.2 (atC x.x.FP)]:=by
 rw[Bo,Bo,jJ h.symm];rfl
def ul{w:Wq}{a:OA}{n c:Nat}{l:List It}{ss:List Sl3}(g:Own w 0 123 5 a n c (yK l ss))(d:KCh l ss)(h:n=l.length)(j:∀x∈Bo l ss,x.ok w):ItR w a n l ss:=by
 refine⟨h,d.len,g.cells,λk x s e f=>⟨d.att k x s e f,?_⟩⟩
 have m:Asn.own 142 2 s.1 x.x.FP.length s.2.2 (atC x.x.FP)∈Bo l ss:=by
  refine aC (i:=k) ?_;rw[Bo,oJ,e,f]
 exact Own.cells (show Own w 0 _ _ _ _ _ _ from j _ m)
section
variable{b mb:Nat}{root next:Int}{F:Fo}{ws:List (NW×En)}{w:World}
def QZ(c:(ids F).Nodup)(i:Int):(Ba F i).length<=(ids F).length:=by
 have:((Ba F i).map (·.id)).length<=(ids F).length:=by
  rw[Ba];split
  ·rename_i q x k d;obtain⟨e,f,g,a⟩:=CV F 0 i 0 c d;rw[BK,a.ids,ids,ids];simp;omega
  simp
 rwa [aQ]at this
def rowsB_look(a:(ids F).Nodup)(i:Int){r:Rw}(c:r∈Ba F i):∃q k,AZ F 0 r.id=some (q,r.x,k):=by
 rw[Ba]at c;split at c
 ·rename_i q x k d;rw[flat,flat,aX]at c;rcases aP.1 c with rfl|c
  ·exact⟨q,k,d⟩
  obtain⟨l,m,n,e⟩:=CV F 0 i 0 a d
  have f:(ids k).Nodup:=by
   have:=a;rw[e.ids,bG,bH,bG]at this;exact this.2.1.2.1
  obtain⟨g,h,j⟩:=VL k i 1 r f c;exact⟨g,h,look_in F 0 i r.id a d j⟩
 cases c
def Ac(r:Rw):It:=⟨r.level,r.x⟩
def gItems_w(f:(ids F).Nodup)(J:(ids F).length<=1000)(K:∀p∈ws,p.2.x.FP.length<=1000)(hw:Dv F ws)(i:Int)(hs:Std w (xU b mb root next ws)):
  CP 32 #[pq b,I i] w λe w'=>∃a c ss,e=Ej (.slice a (Ba F i).length c)/\KCh ((Ba F i).map Ac) ss/\
   Hp (xq (xU b mb root next ws)) w w' (.own 123 5 a (Ba F i).length c (yK ((Ba F i).map Ac) ss)::(Bo ((Ba F i).map Ac) ss++xU b mb root next ws)):=by
 apply Ja6;intro X an Y;have H0:=(Hp.Cb hs).nw Y;intro N w1 Z;have H:=H0.nw Z;refine⟨_,H.lo nPT,AC (IE b i 0 w1) ?_⟩;rintro _ w2 ⟨f0,f1,f2,rfl,Hb⟩;replace H:=H.ext Hb;have ao:=QZ f i;refine⟨_,rfl,137,#[],_,rfl,⟨_,_,Tryz.func137,rfl⟩,?_⟩
 refine JJ (B:=xq (xU b mb root next ws)) (w0:=w) b mb root next ws F f (hw.v f) J i f0 f1 f2
  (λj L=>∃a c ss,KCh (((Ba F i).map Ac).take j) ss/\L=.blk N [.slice a j c] 34::.own 123 5 a j c (yK (((Ba F i).map Ac).take j) ss)::.blk X [pq b] 49::(Bo (((Ba F i).map Ac).take j) ss++xU b mb root next ws)) (λ_=>False)
  (.blk N [.slice none 0 0] 34::.own 123 5 none 0 0 []::.blk X [pq b] 49::xU b mb root next ws) [.blk f2 [I 0] 3,.blk f1 [I i] 3,.blk f0 [pq b] 49] w2
  ?_ m2 m1 (.head _) ⟨none,0,[],⟨rfl,by simp⟩,rfl⟩ ?_ ?_ ?_ (λ_ _ _ h=>h.elim)
 ·rintro j _ ⟨a,c,ss,_,rfl⟩ x hx;exact .tail _ (t2 (aI _ hx))
 ·have H2:=H.yS 123 5;refine H2.perm ?_;refine List.Perm.trans ?_ dU;exact(bP (l₁:=[Asn.blk f2 [I 0] 3,Asn.blk f1 [I i] 3,Asn.blk f0 [pq b] 49,Asn.blk N [.slice none 0 0] 34])).symm
 ·rintro j r hr w3 T0 T1 _ ab kn kr kx ⟨a,c,ss,d,rfl⟩ O hb ad _;refine hb _ λR s=>?_;have ae:=(aA.1 hr).1;obtain⟨q,k,af⟩:=rowsB_look f i (aC hr);obtain⟨A,y,Bw,ag,ha⟩:=hw.at_ f af;have M:(y,(⟨r.id,q,r.x,xJ k⟩:En))∈ws:=by rw[ag];simp
  have ah:=K _ M;have l:∀{x:Asn},x∈xU b mb root next ws->x∈(Asn.blk N [.slice a j c] 34::.own 123 5 a j c (yK (((Ba F i).map Ac).take j) ss)::.blk X [pq b] 49::(Bo (((Ba F i).map Ac).take j) ss++xU b mb root next ws))++T1:=λh=>aS _ (t3 (aI _ h))
  have m:∀x∈yl (y,(⟨r.id,q,r.x,xJ k⟩:En)),x∈xU b mb root next ws:=λx hx=>Ea M hx
  have u:∀{W:Wq}{o:Nat}{v:Value}{t:TypeId},Eqw R W->Scl PP t->(yL y ⟨r.id,q,r.x,xJ k⟩)[o]? =some v->Ld PP t W ⟨y.b,o,none⟩ v:=λhe S hv=>s.ld he S (l (m _ (.head _))) hv;refine⟨_,s.lo nPT,AA rfl ⟨some mb,s.ld EQ4 nMN (l (.head _)) rfl,some ⟨y.b,0,none⟩,s.lkI Ei EQ4 (l m1) (by rw[ha];rfl),a,j,c,s.lo KDo,?_⟩⟩;refine AA rfl ⟨r.x.kind,by rw[add_lit];exact u EQ4 xK rfl,AA rfl ⟨r.x.name,by rw[add_lit];exact u EQ4 xx rfl,AA rfl ⟨r.x.text,by rw[add_lit];exact u EQ4 xx rfl,AA rfl ⟨y.aa,r.x.FP.length,y.ac,by rw[add_lit];exact u EQ4 yx rfl,?_⟩⟩⟩⟩;have C:=s.xh (l (m _ m1));have G:Cells R.drew y.aa (atC r.x.FP):=C.cells
  refine AC (HY y.aa r.x.FP.length y.ac (atC r.x.FP) R.drew G (NP _) (Na _) (λe=>by
   rcases C.2 with⟨_,h0,_⟩|⟨g,_,_,hg,_⟩
   ·exact h0
   rw[e]at hg;cases hg) (by dsimp only at ah;omega)) ?_
  rintro _ w5 ⟨T,U,rfl,Hc⟩;have H5:=(s.go EQ4).yC Hc;have n:∀{o:Nat}{v:Value}{t:TypeId},Scl PP t->(yL y ⟨r.id,q,r.x,xJ k⟩)[o]? =some v->Ld PP t w5 ⟨y.b,o,none⟩ v:=λS hv=>H5.ld EQ4 S (.tail _ (l (m _ (.head _)))) hv;refine⟨T,_,U,rfl,by rw[add_lit];exact n xx rfl,by rw[add_lit];exact n xx rfl,by rw[add_lit];exact n xK rfl,H5.lo KDo,?_⟩;intro b2 w6 ak;have H6:=H5.nw ak;refine⟨H6.lo KDo,?_⟩;have al:(((Ba F i).map Ac).take j).length=j:=by rw[aJ,aQ];omega
  have H7:=H6.ET;refine Hp.app qN om H7 EQ4 (Blk.src (P:=PP) Zq (H6.blk (.head _)) rfl rfl) (by simp only[maxLen];omega) om ?_;intro a2 c2 w7 H8;have H9:=H8.ET;refine Hp.s1 H9 KDo (cs':=[.slice a2 (j+1) c2]) λw8 am=>?_
  have z:((Ba F i).map Ac).take (j+1)=((Ba F i).map Ac).take j++[Ac r]:=by
   rw[aG (by rw[aQ];exact ae),kM,(aA.1 hr).2]
  refine ad w8 _ ⟨a2,c2,ss++[(T,r.x.FP.length,U)],?_,rfl⟩ ?_
  ·rw[z];exact d.snoc rfl
  rw[z,XK d.len,Vf d.len];refine am.KDJ.perm (List.Perm.cons _ (List.Perm.cons _ ?_));refine(List.Perm.swap _ _ _).trans (List.Perm.cons _ ?_);show(Asn.own 142 2 T r.x.FP.length U (atC r.x.FP)::((Bo (((Ba F i).map Ac).take j) ss++xU b mb root next ws)++T1)).Perm (((Bo (((Ba F i).map Ac).take j) ss++[Asn.own 142 2 T r.x.FP.length U (atC r.x.FP)])++xU b mb root next ws)++T1);rw[ax,ax,ax];exact bP.symm
 rintro D w3 _ ⟨a,c,ss,d,rfl⟩ O;have z:((Ba F i).map Ac).take (Ba F i).length=(Ba F i).map Ac:=aV (by rw[aQ];exact aZ _);rw[z]at d O;refine⟨a,_,c,O.lo KDo,O.shut λR s=>⟨a,c,ss,rfl,d,?_⟩⟩;exact(s.BM).drop.drop1
end
end
noncomputable section
open Go Go.Vc Go.Nod
def XZ(w:Wq):CP 37 #[] w λe w'=>∃b f,e=Ej (pq b)/\Hp [] w w' [AV f b ⟨[],1⟩]:=by
 apply Jbb;intro mb i a;have H:=(Hp.start w).KDN EQ4 .i64 a;intro b c d;replace H:=H.nw d;have g:Hp [] w c (xU b mb 0 1 []++[]):=H;obtain⟨f,h⟩:=g.D5 (Q:=Md b ⟨[],1⟩) ⟨.nil,good_new,mb,[],jh _,rfl⟩;exact⟨b,f,rfl,h⟩
theorem MZ{K:Type}[DecidableEq K]:∀(al:List (K×Value))(k:K)(v:Value),k∉al.map (·.1)->xY al k v=al++[(k,v)]
 | [],k,v,_=>rfl
 |(x,u)::r,k,v,h=>by
  rw[aj,aP,not_or]at h;rw[xY,if_neg h.1,MZ r k v h.2];rfl
section
variable{b mb:Nat}{root next:Int}{ws:List (NW×En)}{w:World}
def ZO(l:Std w (xU b mb root next ws))(n:Nat)(t:n<=2000)(u:0<=next)(x:next+n<=2147483647):
  CP 64 #[pq b,I (n:Int)] w λe w'=>∃a c,e=Ej (.slice a n c)/\
   Hp (xq (xU b mb root next ws)) w w' (.own 3 1 a n c (AO ((List.range n).map λ(k:Nat)=>next+(k:Int)))::xU b mb root (next+n) ws):=by
 apply Ja3;refine xI.mk (λm s w'=>∃(k:Nat)(a:OA)(c:Nat),m=n-k/\k<=n/\s=((a,k,c),(k:Int))/\Hp (xq (xU b mb root next ws)) w w' (.own 3 1 a k c (AO ((List.range k).map λ(j:Nat)=>next+(j:Int)))::xU b mb root (next+k) ws)) n ⟨0,none,0,rfl,om,rfl,?_⟩ ?_
 ·have H:=(Hp.Cb l).yS 3 1;rw[show next+((0:Nat):Int)=next by omega];exact H
 rintro m s y z ⟨k,a,c,rfl,A,rfl,H⟩ d;dsimp only;refine AB (λh=>?_) (λh=>?_)
 ·refine AA rfl ⟨next+k,by rw[add_lit];exact H.lo xK,?_⟩;intro B C f;have g:=H.nw f;refine Hp.app Kz om g.AX EQ4 (Blk.src LH (g.blk (.head _)) rfl rfl) (by simp only[maxLen];omega) om ?_;intro o p D q;have i:=q.BF;refine AA rfl ⟨next+k,by rw[add_lit];exact i.lo xK,iR,AA rfl ?_⟩;rw[add_lit];refine Hp.st i EQ4 xK rfl rfl (by simp[yX]) rfl λF r=>⟨iR,?_⟩;refine d (n-(k+1)) _ _ om ⟨k+1,o,p,rfl,om,rfl,?_⟩
  have e:AO ((List.range (k+1)).map λ(j:Nat)=>next+(j:Int))=AO ((List.range k).map λ(j:Nat)=>next+(j:Int))++[I (next+(k:Int))]:=by
   rw[gQ];simp[AO]
  rw[e,show next+((k+1:Nat):Int)=next+(k:Int)+1 by omega];exact(r.KDJ).AX
 have:k=n:=om;subst this;exact⟨a,c,rfl,H⟩
end
def Ye{A Bw:List (NW×En)}{y y' yn:NW}{e e' en:En}{R:List En}(h:((A++(y,e)::Bw).map (·.2)).Perm (e::R)):
  ((A++(y',e')::(Bw++[(yn,en)])).map (·.2)).Perm (en::e'::R):=by
 rw[ai,aj]at h;have a:(A.map (·.2)++Bw.map (·.2)).Perm R:=(bP.symm.trans h).cons_inv;rw[ai,aj,ai];refine bP.trans ?_;refine(List.Perm.cons e' ?_).trans (.swap _ _ _);rw[<- ax];refine dU.trans ?_;exact List.Perm.cons en a
def Jr(b mb:Nat)(root next:Int)(A:List (NW×En))(p:NW×En)(Bw:List (NW×En)):(xU b mb root next (A++p::Bw)).Perm (yl p++(.blk b (yX mb root next) 119::.Z6 mb .i64 (xe (A++p::Bw))::Bl (A++Bw))):=by
 refine(List.Perm.cons _ (List.Perm.cons _ (nods_split A p Bw))).trans ?_;exact(gm [_,_] (yl p) (Bl (A++Bw)))
theorem Qa:∀(F:Fo),∀i∈Ag F,i∈ids F
 |.nil,i,h=>by simp[Ag]at h
 |.cons j y k .nil,i,h=>by
  rw[Ag]at h;rw[ids];rcases aP.1 h with rfl|h
  ·exact .head _
  exact .tail _ (aS _ (Qa k i h))
 |.cons j y k (.cons j2 y2 k2 s2),i,h=>by
  rw[Ag]at h;rw[ids];exact .tail _ (aI _ (Qa _ i h))
def WE(parent at0 root0:Int)(e0:En)(R0:List En)(N:Fo)(E:List En)(root:Int):Prop:=
 (parent=0/\E.Perm (xO N parent)/\root=Af N)\/
 (parent≠0/\e0.id=parent/\root=root0/\E.Perm (xO N parent++ {e0 with kids:=Ee e0.kids at0.toNat (xJ N)}::R0))
def JM(parent:Int)(e0:En)(R0:List En):lI:=if parent=0 then []else e0.id::R0.map (·.id)
def WE.ids{parent c a:Int}{f:En}{g:List En}{N:Fo}{E:List En}{root:Int}(h:WE parent c a f g N E root):(E.map (·.id)).Perm (Nod.ids N++JM parent f g):=by
 rcases h with⟨d,e,_⟩|⟨d,_,_,e⟩
 ·rw[JM,if_pos d,aX];have:=e.map (·.id)
  rwa [Ce]at this
 rw[JM,if_neg d];have:=e.map (·.id);rw[ai,Ce,aj]at this;exact this
structure Zb(parent at0 root0:Int)(e0:En)(R0:List En)(zs:lI)(l:List It)(k:Nat)(at':Int)(N:Fo)(E:List En)(root:Int):Prop where
 fl:flat N 0=LC (zs.take k) (l.take k)
 nil:k=0->N=.nil
 deep:∀y,0<k->l[k-1]? =some y->((Ag N).length:Int)=y.level+1
 at_:at'=at0+(if parent=0 then 0 else((xJ N).length:Int))
 xO:WE parent at0 root0 e0 R0 N E root
end
noncomputable section
open Go Go.Vc Go.Nod
def PH(A B:List (NW×En)):Bl (A++B)=Bl A++Bl B:=by rw[Bl,dR];rfl
def nodM_append(A B:List (NW×En)):xe (A++B)=xe A++xe B:=by rw[xe,ai];rfl
def LP{A Bw:List (NW×En)}{y y':NW}{e e':En}(a:y'.b=y.b)(c:e'.id=e.id):xe (A++(y',e')::Bw)=xe (A++(y,e)::Bw):=by
 simp[xe,a,c]
def grow_step{parent c a:Int}{g:En}{i:List En}{j:lI}{l:List It}{k:Nat}{m:Int}{N:Fo}{E:List En}{root:Int}(h:Zb parent c a g i j l k m N E root)
  {z:Int} {x:It} {d:Nat} (r:j[k]? =some z) (n:l[k]? =some x) (o:x.level=d) (e:d<=(Ag N).length) {f:Int} {p:List En} {b:Int}
  (s:f=c+(if parent=0 then 0 else((xJ (snoc d z x.x N)).length:Int))) (t:WE parent c a g i (snoc d z x.x N) p b):Zb parent c a g i j l (k+1) f (snoc d z x.x N) p b:=by
 refine⟨?_,om,λy _ q=>?_,s,t⟩
 ·rw[NV d z x.x N 0 e,h.fl,rowsZ_snoc r n,o,Int.zero_add]
 rw[jB,n]at q;cases q;rw[Fg d z x.x N e,aF,aJ,o,fE e];simp
theorem Ik:∀(F:Fo)(p:Int),∀e∈xO F p,e.kids.length<=(ids F).length
 |.nil,p,e,h=>by cases h
 |.cons i x k s,p,e,h=>by
  rw[xO]at h;rw[ids,aK,aF];rcases aP.1 h with rfl|h
  ·have:=Jn k;show(xJ k).length<=_;omega
  rcases aT.1 h with h|h
  ·have:=Ik k i e h;omega
  have:=Ik s p e h;omega
theorem Xv{b mb:Nat}{i next:Int}{ao:List (NW×En)}{w:Wq}(hs:Std w (xU b mb i next ao))(parent L:Int)(la:OA)(n lc:Nat)(l:List It)(ss:List Sl3)(za:OA)(zc:Nat)(zs:lI)
  (a8:∀W,Chg (xq (xU b mb i next ao)) w W->ItR W la n l ss) (cj:∀W,Chg (xq (xU b mb i next ao)) w W->Cells W za (AO zs)) (d8:zs.length=l.length) (c6:l≠[]) (hn:n<=2000) (c7:∀s∈ss,s.2.1<=1000)
  (a9:Vu l) (ck:parent=0->∀(k:Nat)(x:It),0<k->l[k]? =some x->1<=x.level) (e0:En) (R0:List En)
  (hB:WE parent L i e0 R0 .nil (ao.map (·.2)) i) (O:(zs++JM parent e0 R0).Nodup) (c8:∀z∈zs,z≠0) (d9:0<=L/\L<=e0.kids.length) (ea:e0.kids.length<=2000):
  CP 63 #[pq b,I parent,I L,.slice la n lc,.slice za n zc] w λe w'=>
   ∃K N root ba,e=Ej (I (zs.headD 0))/\Zb parent L i e0 R0 zs l n ba N (K.map (·.2)) root/\Hp (xq (xU b mb i next ao)) w w' (xU b mb root next K):=by
 apply Ja4;generalize c9:xq (xU b mb i next ao)=BB at*;have da:Hp BB w w (xU b mb i next ao):=c9▸Hp.Cb hs;have eb:n=l.length:=(a8 w (Chg.refl _ _)).len;have d4:ss.length=l.length:=(a8 w (Chg.refl _ _)).ssl;have cl:zs.length=n:=om;have ec:0<l.length:=fC.2 c6;intro pb w1 db;have H:=(da.nw db).xB 1 1 rfl (by simp[maxLen])
 refine xI.mk (λm s w'=>∃(k:Nat)(oa:OA)(oc:Nat)(K:List (NW×En))(N:Fo)(root:Int),m=n-k/\k<=n/\s.2.1=(oa,(Ag N).length+1,oc)/\s.2.2=(k:Int)/\Zb parent L i e0 R0 zs l k s.1 N (K.map (·.2)) root/\
  Hp BB w w' (.own 3 1 oa ((Ag N).length+1) oc (AO (parent::Ag N))::xU b mb root next K)) n ⟨0,some ⟨pb,0,none⟩,1,ao,.nil,i,rfl,om,rfl,rfl,⟨rfl,λ_=>rfl,om,?_,hB⟩,H⟩ ?_
 ·dsimp only;split<;>simp[xJ]
 rintro m ⟨ba,⟨oa,on,oc⟩,k'⟩ w2 nx ⟨k,ed,ee,K,N,root,rfl,ef,ho,hk,hI,H⟩ dc;dsimp only at ho hk hI⊢;cases ho;subst hk;refine AB (λh=>?_) (λh=>?_);rotate_left
 ·have cm:k=n:=om;subst cm;have bb:=cj w2 H.chg;obtain⟨z,zr,cn⟩:=dX (l:=zs) (λe=>by rw[e]at cl;simp at cl;omega);have h0:(AO zs)[0]? =some (I z):=by rw[cn];rfl
  obtain⟨ad,bx,_⟩:=bb 0 _ h0;have b0:=bb.ld xK bx h0;rw[wR]at b0;refine AA bx ⟨⟨om,om⟩,z,b0,K,N,root,ba,by rw[cn];rfl,hI,H.drop⟩
 have hk:k<n:=om;obtain⟨x,s,hx,b6,_⟩:=(a8 w2 H.chg).at_ hk;obtain⟨z,hz⟩:∃z,zs[k]? =some z:=⟨_,aB om⟩;have co:=a9 k x hx;have eg:=a9.le k x hx;obtain⟨d,hd⟩:∃d:Nat,x.level=d:=⟨x.level.toNat,om⟩
 have ab:d<=(Ag N).length:=by
  rcases iO k with e|e
  ·have:=co.2.1 e;omega
  have hy:l[k-1]? =some (l[k-1]' om):=aB om;have X:=hI.deep _ e hy;have h2:=co.2.2 _ e hy;omega
 have d5:(Ag N).length<=k:=by
  rcases iO k with e|e
  ·rw[hI.nil e];simp[Ag]
  have hy:l[k-1]? =some (l[k-1]' om):=aB om;have X:=hI.deep _ e hy;have h2:=a9.le _ _ hy;omega
 refine xM.mk (λs1 w'=>∃(oa:OA)(oc:Nat)(K:List (NW×En))(N:Fo)(root:Int),s1.2=(oa,(Ag N).length+1,oc)/\Zb parent L i e0 R0 zs l (k+1) s1.1 N (K.map (·.2)) root/\
  Hp BB w w' (.own 3 1 oa ((Ag N).length+1) oc (AO (parent::Ag N))::xU b mb root next K)) ?_ ?_
 ·rintro⟨eh,D,ei,G⟩ w' ⟨ej,ek,dd,N3,b7,X,h2,h3⟩;cases X;exact⟨DT.2 om,dc (n-(k+1)) _ _ om ⟨k+1,D,G,dd,N3,b7,rfl,om,rfl,rfl,h2,h3⟩⟩
 intro J hJ;have de:=a8 w2 H.chg;obtain⟨ad,bx,b0⟩:=de.some hx b6;refine AA bx ⟨⟨om,h⟩,_,_,_,_,_,_,_,b0,?_⟩;intro xb w3 dg;have H3:=H.nw dg;refine Hp.sA H3 CB (cs':=itC x s) λw4 H4=>?_;have bb:=cj w4 H4.chg;have b2:(AO zs)[k]? =some (I z):=by rw[AO,au,hz];rfl
 obtain⟨el,b4,_⟩:=bb k _ b2;have b8:=H4.xh (.tail _ (.head _));have em:=b8.le;have dj:Int.toNat (x.level+1)=d+1:=om;refine AA b4 ⟨⟨om,om⟩,z,by rw[aN,bV];exact bb.ld xK b4 b2,x.level,H4.lo xK,DT.2 om,x.level,H4.lo xK,DT.2 om,⟨om,om,om⟩,?_⟩;intro bi w5 dk;have H5:=H4.nw dk;rw[dj];have H6:=(H5.BF).front (F:=d+1) om;have bc:Src PP 1 59 (.slice (Pq bi) 1 1) 1 [I z] w5:=Blk.src (P:=PP) LH (H5.blk (.head _)) rfl rfl;refine Hp.app Kz om H6 EQ4 bc (by simp only[maxLen];omega) om ?_;intro D G w6 H7
 have dl:(AO (parent::Ag N)).take ((d+1)*1)++[I z]=AO (parent::Ag (snoc d z x.x N)):=by
  rw[Fg d z x.x N ab,bV];simp[AO,iE]
 have ag:(Ag (snoc d z x.x N)).length+1=d+1+1:=by
  rw[Fg d z x.x N ab,aF,aJ,fE ab];rfl
 rw[dl]at H7;have H8:=H7.KBe;obtain⟨q,hq⟩:∃q,(parent::Ag N)[d]? =some q:=⟨_,aB (by rw[aK];omega)⟩
 have dn:(AO (parent::Ag (snoc d z x.x N)))[d]? =some (I q):=by
  rw[AO,au,Fg d z x.x N ab]
  have:(parent::((Ag N).take d++[z]))[d]? =some q:=by
   rw[<- aH,<- dY,bQ (by rw[aJ,aK];omega),bn om];exact hq
  rw[this];rfl
 obtain⟨eo,cp,cq⟩:=H8.ldO (w':=w6) (o:=d) EQ4 xK (.head _) dn;refine⟨x.level,H8.ld (o:=0) (cs:=itC x s) EQ4 xK (.tail _ (.head _)) rfl,AA cp ⟨⟨om,om⟩,q,?_,?_⟩⟩
 ·have:Int.toNat x.level*1=d:=om;rw[this];exact cq
 have bd:=((a8 w6.drew (H8.drew).chg).FP k x s hx b6);have d6:=c7 s (aC b6);have av:=bd.len;refine AA rfl ⟨some mb,H8.ld (o:=0) (cs:=yX mb root next) EQ4 nMN (t2 (.head _)) rfl,x.x.kind,H8.ld (o:=1) (cs:=itC x s) EQ4 xK (.tail _ (.head _)) rfl,x.x.name,H8.ld (o:=2) (cs:=itC x s) EQ4 xx (.tail _ (.head _)) rfl,x.x.text,H8.ld (o:=3) (cs:=itC x s) EQ4 xx (.tail _ (.head _)) rfl,s.1,s.2.1,s.2.2,H8.ld (o:=4) (cs:=itC x s) EQ4 yx (.tail _ (.head _)) rfl,?_⟩
 refine AC (HY s.1 s.2.1 s.2.2 (atC x.x.FP) w6.drew bd.cells (by rw[NP,av]) (Na _) (λe=>by
  rw[av];cases hatt:x.x.FP with
  |nil=>rfl
  |cons p r=>
   have hc:=bd.cells;rw[hatt,e]at hc;obtain⟨_,h9,_⟩:=hc 0 (.string p.1) rfl;cases h9) om) ?_
 rintro _ w7 ⟨a5,c5,rfl,Hc⟩;have H9:=(H8.drew).yC Hc;refine⟨a5,s.2.1,c5,rfl,H9.ld (o:=3) (cs:=itC x s) EQ4 xx (t2 (.head _)) rfl,H9.ld (o:=2) (cs:=itC x s) EQ4 xx (t2 (.head _)) rfl,H9.ld (o:=1) (cs:=itC x s) EQ4 xK (t2 (.head _)) rfl,H9.ld (o:=0) (cs:=yX mb root next) EQ4 nMN (t3 (.head _)) rfl,?_⟩;intro nb w8 cr;obtain⟨B,a7⟩:∃B:En,B=⟨z,q,x.x,[]⟩:=⟨_,rfl⟩;obtain⟨C,b9⟩:∃C:NW,C=⟨nb,a5,c5,none,0⟩:=⟨_,rfl⟩
 have dp:yL C B=[I z,I q,I x.x.kind,I 0,.string x.x.name,.string x.x.text,.slice a5 s.2.1 c5,.slice none 0 0]:=by
  rw[b9,a7,av];rfl
 rw[<- dp]at cr;have ct:=(H9.new (cs:=yL C B) EQ4 cr).yS 3 1;have b5:=hI.xO.ids
 have ah:ids N=zs.take k:=by
  rw[<- BK N 0,hI.fl,Vt (by rw[aJ,aJ];omega)]
 rw[ah]at b5
 have bh:((xe K).map (·.1)).Perm (zs.take k++JM parent e0 R0):=by
  have e:(xe K).map (·.1)=(K.map (·.2)).map (·.id):=by rw[xe,dB,dB];rfl
  rw[e];exact b5
 have cu:zs=zs.take k++z::zs.drop (k+1):=by
  have X:=(aA.1 hz);rw[<- X.2,<- bM X.1,bY]
 have bj:z∉(xe K).map (·.1):=λhm=>by
  have hm:=bh.mem_iff.1 hm;rw[cu,ax,bG]at O;rcases aT.1 hm with hm|hm
  ·exact O.2.2 z hm z (.head _) rfl
  have h3:=O.2.1;rw[aH,bH]at h3;exact h3.1 (aI _ hm)
 have a6:FN (xe K++[(z,Value.pointer (Pq nb))]):=by
  rw[FN,ai,bG];refine⟨?_,by simp,λa ha c hc e=>bj ?_⟩
  ·refine bh.nodup_iff.2 ?_;rw[cu,ax,bG]at O;obtain⟨g1,g2,g3⟩:=O;rw[aH,bH,bG]at g2;exact bG.2 ⟨g1,g2.2.2.1,λa ha c hc=>g3 a ha c (.tail _ (aI _ hc))⟩
  simp at hc;rw[<- hc,<- e];exact ha
 refine⟨ct.ld (o:=0) (cs:=yX mb root next) EQ4 nMN (t5 (.head _)) rfl,?_⟩;have dq:=ct.perm (Em [_,_,_,_,_,_] _ _);refine Hp.KCj Ei dq EQ4 ?_;intro w9 ca;rw[MZ _ _ _ bj]at ca;have ds:xe K++[(z,Value.pointer (Pq nb))]=xe (K++[(C,B)]):=by rw[nodM_append,b9,a7];rfl
 rw[ds]at ca a6
 have Z:Hp BB w w9 (.own 3 1 D (d+1+1) G (AO (parent::Ag (snoc d z x.x N)))::.blk xb (itC x s) 123::xU b mb root next (K++[(C,B)])):=by
  have e1:yl (C,B)=[.blk nb (yL C B) 139,.own 142 2 a5 s.2.1 c5 (atC x.x.FP),.own 3 1 none 0 0 []]:=by
   rw[av];subst b9;subst a7;rfl
  have e2:xU b mb root next (K++[(C,B)])=.blk b (yX mb root next) 119::.Z6 mb .i64 (xe (K++[(C,B)]))::(Bl K++yl (C,B)):=by
   rw[xU,PH];simp[Bl]
  rw[e2,e1];refine ca.perm ?_;refine AL λff gg h0 hc ha ak=>?_;simp only[ha,hc,h0];omega
 have al:(d=0/\q=parent)\/(0<d/\(Ag N)[d-1]? =some q/\q≠0):=by
  cases d with
  |zero=>exact .inl ⟨rfl,by simpa using hq.symm⟩
  |succ d=>
   rw[bI]at hq;refine .inr ⟨om,by simpa using hq,?_⟩;have hm:q∈zs.take k:=by rw[<- ah];exact Qa N q (aC hq)
   exact c8 q (dJ hm)
 have dt:((K++[(C,B)]).map (·.2)).Perm (B::K.map (·.2)):=by
  rw[ai];exact dU
 refine AB (λbk=>?_) (λbk=>⟨x.level,Z.ld (o:=0) (cs:=itC x s) EQ4 xK (.tail _ (.head _)) rfl,?_⟩)
 ·--the root
  obtain⟨b1,aw⟩:d=0/\q=parent:=by
   rcases al with X|⟨_,_,X⟩
   ·exact X
   exact(X bk).elim
  have am:parent=0:=by rw[<- aw];exact bk
  have cv:k=0:=by
   rcases iO k with e|e
   ·exact e
   have:=ck am k x e hx;omega
  have hN:=hI.nil cv;subst hN;subst b1;refine AA rfl ?_;rw[add_lit];refine Hp.st (o:=1) Z.BF EQ4 xK rfl rfl (by simp[yX]) (cs':=yX mb z next) rfl λae af=>hJ _ _ ⟨D,G,K++[(C,B)],snoc 0 z x.x .nil,z,?_,grow_step hI hz hx hd ab ?_ ?_,?_⟩
  ·show(D,0+1+1,G)=_;rw[<- ag]
  ·have:=hI.at_;rw[if_pos am]at this⊢;exact this
  ·rcases hI.xO with⟨X,h2,h3⟩|⟨X,_⟩
   ·refine .inl ⟨X,?_,rfl⟩;rw[xO]at h2;refine dt.trans ?_;rw[h2.eq_nil,a7,bk,snoc,xO,xO,xO,am];exact .refl _
   exact(X am).elim
  refine Hp.drop (a:=.blk xb (itC x s) 123) (af.perm (M:=.blk xb (itC x s) 123::.own 3 1 D ((Ag (snoc 0 z x.x .nil)).length+1) G (AO (parent::Ag (snoc 0 z x.x .nil)))::xU b mb z next (K++[(C,B)])) ?_);rw[ag];refine AL λff gg h0 hc ha ak=>?_;simp only[xU,ha,hc,h0];omega
 --below a node that is there
 have cw:∀{e:En}{R:List En},(K.map (·.2)).Perm (e::R)->e.id=q->∃A f Bw,K=A++(f,e)::Bw/\xZ (xe (K++[(C,B)])) q=some (pq f.b):=by
  intro e R hp hi;have hm:=hp.mem_iff.2 (.head _);obtain⟨⟨f,g⟩,cx,he⟩:=aU.1 hm;dsimp only at he;subst he;obtain⟨A,Bw,du⟩:=gI cx;refine⟨A,f,Bw,du,(FV a6).2 (aU.2 ⟨(f,g),aS _ cx,?_⟩)⟩;rw[hi]
 refine AB (λdv=>?_) (λdv=>?_)
 ·--at a place among its kids
  obtain⟨b1,aw⟩:d=0/\q=parent:=by
   rcases al with X|⟨X,_⟩
   ·exact X
   omega
  subst b1;have am:parent≠0:=by rw[<- aw];exact bk
  rcases hI.xO with⟨X,_⟩|⟨_,cy,cb,hE⟩
  ·exact(am X).elim
  obtain⟨g,a0⟩:∃g:En,g= {e0 with kids:=Ee e0.kids L.toNat (xJ N)}:=⟨_,rfl⟩;rw[<- a0]at hE;have a1:(K.map (·.2)).Perm (g::(xO N parent++R0)):=hE.trans bP;obtain⟨A,f,Bw,bl,an⟩:=cw a1 (by rw[a0,aw];exact cy);have bm:K++[(C,B)]=A++(f,g)::(Bw++[(C,B)]):=by rw[bl];simp
  rw[bm]at Z an;have bo:∀{W:Wq},Eqw w9 W->Ld PP 117 W ⟨b,0,none⟩ (.map (some mb)):=λhe=>Z.ld (o:=0) (cs:=yX mb root next) he nMN (t2 (.head _)) rfl;have bp:∀{W:Wq},Eqw w9 W->Lk PP 117 false W (.map (some mb)) (I q) (pq f.b):=λhe=>Z.lkI Ei he (t3 (.head _)) (by rw[an];rfl);have ap:∀a∈yl (f,g),a∈(Asn.own 3 1 D (0+1+1) G (AO (parent::Ag (snoc 0 z x.x N))))::.blk xb (itC x s) 123::xU b mb root next (A++(f,g)::(Bw++[(C,B)])):=λa ha=>.tail _ (.tail _ (Ea (p:=(f,g)) (by simp) ha))
  have cc:∀{W:Wq},Eqw w9 W->Ld PP 59 W ⟨f.b,7,none⟩ (.slice f.ka g.kids.length f.kc):=λhe=>Z.ld (o:=7) (cs:=yL f g) he nSI (ap _ (.head _)) rfl;refine AA rfl ⟨_,bo EQ4,_,bp EQ4,AA rfl ⟨_,bo EQ4,_,bp EQ4,AA rfl ⟨_,_,_,by rw[add_lit];exact cc EQ4,?_⟩⟩⟩;intro b3 ae bq;have af:=Z.nw bq;have aq:Ld PP 117 ae ⟨b,0,none⟩ (.map (some mb)):=af.ld (o:=0) (cs:=yX mb root next) EQ4 nMN (t3 (.head _)) rfl;have ar:Lk PP 117 false ae (.map (some mb)) (I q) (pq f.b):=af.lkI Ei EQ4 (t4 (.head _)) (by rw[an];rfl);have bv:Ld PP 59 ae ⟨f.b,7,none⟩ (.slice f.ka g.kids.length f.kc):=af.ld (o:=7) (cs:=yL f g) EQ4 nSI (.tail _ (ap _ (.head _))) rfl;refine⟨by rw[add_lit];exact bv,ar,aq,ar,aq,?_⟩
  have a2:=af.perm (M:=.own 3 1 f.ka g.kids.length f.kc (AO g.kids)::.blk f.b (yL f g) 139::.own 142 2 f.aa g.x.FP.length f.ac (atC g.x.FP)::.blk b3 [I z] 3::.own 3 1 D (0+1+1) G (AO (parent::Ag (snoc 0 z x.x N)))::.blk xb (itC x s) 123::.blk b (yX mb root next) 119::.Z6 mb .i64 (xe (A++(f,g)::(Bw++[(C,B)])))::Bl (A++(Bw++[(C,B)]))) (by
   have e1:=Jr b mb root next A (f,g) (Bw++[(C,B)])
   refine AL λff gg h0 hc ha ak=>?_;have:=ak _ _ e1;simp only[yl,ha,hc,h0]at this⊢;omega)
  have cd:Own ae 0 3 1 f.ka g.kids.length f.kc (AO g.kids):=a2.xh (.head _);have dx:b3∉x9 f.ka:=λhm=>(bF.1 a2.sep).1 (.blk b3 [I z] 3) (t2 (.head _)) b3 hm (.head _);have cz:g.kids.length=e0.kids.length+(xJ N).length:=by rw[a0];exact Qp _ _ _
  have ep:=Jn N;have d7:(ids N).length<=2000:=by rw[ah,aJ];omega
  have c0:=hI.at_;rw[if_neg am]at c0;obtain⟨ix,dy⟩:∃ix:Nat,ix=L.toNat+(xJ N).length:=⟨_,rfl⟩;have c1:ba=(ix:Int):=om;rw[c1];refine AC (UI f.ka g.kids.length f.kc ix b3 (AO g.kids) [I z] 3 ae cd (NE _) om (a2.blk (t3 (.head _))) rfl (by intro u hu;rw[aW.1 hu];rfl) dx om) ?_;rintro _ dz ⟨T,U,rfl,a3⟩;replace a3:=a2.Bg a3
  have ce:(AO g.kids).take (ix*1)++([I z]++(AO g.kids).drop (ix*1))=AO (Ee e0.kids L.toNat (xJ N++[z])):=by
   have h9:=insAt_snoc e0.kids L.toNat (xJ N) z om;rw[<- h9,dy,a0,bV];simp[AO,iE,jd]
  rw[ce]at a3;have a4:=a3.AX;obtain⟨e2,Y⟩:∃e2:En,e2= {e0 with kids:=Ee e0.kids L.toNat (xJ N++[z])}:=⟨_,rfl⟩;have bw:g.kids.length+1=e2.kids.length:=by rw[cz,Y];show _=(Ee _ _ _).length;rw[Qp,aF];rfl
  refine⟨T,g.kids.length+1,U,rfl,a4.lkI Ei EQ4 (t7 (.head _)) (by rw[an];rfl),a4.ld (o:=0) (cs:=yX mb root next) EQ4 nMN (t6 (.head _)) rfl,AA rfl ?_⟩;rw[add_lit];refine Hp.st (o:=7) a4 EQ4 nSI rfl rfl (by simp[yL]) (cs':=yL {f with ka:=T,kc:=U} e2) (by rw[bw,Y,a0];rfl) λd0 cf=>⟨DT.2 om,?_⟩;refine hJ _ _ ⟨D,G,A++({f with ka:=T,kc:=U},e2)::(Bw++[(C,B)]),snoc 0 z x.x N,root,?_,grow_step hI hz hx hd ab ?_ ?_,?_⟩
  ·show(D,0+1+1,G)=_;rw[<- ag]
  ·show(ix:Int)+1=_;rw[if_neg am,KO,aF,gY];omega
  ·refine .inr ⟨am,cy,cb,?_⟩;rw[bl]at a1;have h9:=Ye (y':= {f with ka:=T,kc:=U}) (yn:=C) (e':=e2) (en:=B) a1;refine h9.trans ?_;rw[KO,<- Y];have c2:=Ob z x.x N parent;rw[<- aw]at c2;rw[a7];refine List.Perm.trans ?_ ((c2.symm.append_right _).trans (by rw[<- aw]));rw[aH];refine List.Perm.cons _ ?_;rw[aw];exact bP.symm
  have e1:=Jr b mb root next A ({f with ka:=T,kc:=U},e2) (Bw++[(C,B)])
  have hM:xe (A++(({f with ka:=T,kc:=U}:NW),e2)::(Bw++[(C,B)]))=xe (A++(f,g)::(Bw++[(C,B)])):=LP rfl (by rw[Y,a0]);rw[hM]at e1;have cg:e2.x=g.x:=by rw[Y,a0]
  refine Hp.drop (Hp.drop (a:=.blk b3 [I z] 3) (cf.perm (M:=.blk b3 [I z] 3::.blk xb (itC x s) 123::.own 3 1 D ((Ag (snoc 0 z x.x N)).length+1) G (AO (parent::Ag (snoc 0 z x.x N)))::xU b mb root next (A++({f with ka:=T,kc:=U},e2)::(Bw++[(C,B)]))) ?_));rw[ag];refine AL λff gg h0 hc ha ak=>?_;have:=ak _ _ e1;simp only[yl,ha,hc,h0,cg,<- bw]at this⊢;have ch:Ee e0.kids L.toNat (xJ N++[z])=e2.kids:=by rw[Y]
  rw[ch];omega
 --behind its kids
 obtain⟨b1,c3,eq⟩:0<d/\(Ag N)[d-1]? =some q/\q≠0:=by
  rcases al with⟨X,_⟩|X
  ·omega
  exact X
 obtain⟨d',rfl⟩:∃d',d=d'+1:=⟨d-1,om⟩;obtain⟨g,R,d1,ci,d2⟩:=OB d' z x.x N parent ab;rw[jB,d1]at c3;have c4:g.id=q:=Option.some.inj c3
 obtain⟨R2,a1,d3⟩:∃R2,(K.map (·.2)).Perm (g::R2)/\∀(E2:List En),E2.Perm (B:: {g with kids:=g.kids++[z]}::R2)->WE parent L i e0 R0 (snoc (d'+1) z x.x N) E2 root:=by
  have av:(xO (snoc (d'+1) z x.x N) parent).Perm (B:: {g with kids:=g.kids++[z]}::R):=by
   have:B=⟨z,g.id,x.x,[]⟩:=by rw[a7,c4]
   rw[this];exact d2
  rcases hI.xO with⟨X,h2,h3⟩|⟨X,h2,h3,h4⟩
  ·refine⟨R,h2.trans ci,λE2 h5=>.inl ⟨X,h5.trans av.symm,?_⟩⟩;rw[h3];cases N with
   |nil=>simp[Ag]at ab
   |cons j y kk t=>
    cases t with
    |nil=>rfl
    |cons _ _ _ _=>rfl
  refine⟨R++({e0 with kids:=Ee e0.kids L.toNat (xJ N)}::R0),?_,λE2 h5=>.inr ⟨X,h2,h3,?_⟩⟩
  ·exact h4.trans (ci.append_right _)
  rw[KI d' z x.x N ab];exact h5.trans (av.append_right _).symm
 obtain⟨A,f,Bw,bl,an⟩:=cw a1 c4;have bm:K++[(C,B)]=A++(f,g)::(Bw++[(C,B)]):=by rw[bl];simp
 rw[bm]at Z an;have bo:∀{W:Wq},Eqw w9 W->Ld PP 117 W ⟨b,0,none⟩ (.map (some mb)):=λhe=>Z.ld (o:=0) (cs:=yX mb root next) he nMN (t2 (.head _)) rfl;have bp:∀{W:Wq},Eqw w9 W->Lk PP 117 false W (.map (some mb)) (I q) (pq f.b):=λhe=>Z.lkI Ei he (t3 (.head _)) (by rw[an];rfl);have ap:∀a∈yl (f,g),a∈(Asn.own 3 1 D (d'+1+1+1) G (AO (parent::Ag (snoc (d'+1) z x.x N))))::.blk xb (itC x s) 123::xU b mb root next (A++(f,g)::(Bw++[(C,B)])):=λa ha=>.tail _ (.tail _ (Ea (p:=(f,g)) (by simp) ha))
 have cc:∀{W:Wq},Eqw w9 W->Ld PP 59 W ⟨f.b,7,none⟩ (.slice f.ka g.kids.length f.kc):=λhe=>Z.ld (o:=7) (cs:=yL f g) he nSI (ap _ (.head _)) rfl;refine AA rfl ⟨_,bo EQ4,_,bp EQ4,AA rfl ⟨_,bo EQ4,_,bp EQ4,AA rfl ⟨_,_,_,by rw[add_lit];exact cc EQ4,?_⟩⟩⟩;intro b3 ae bq;have af:=Z.nw bq;have aq:Ld PP 117 ae ⟨b,0,none⟩ (.map (some mb)):=af.ld (o:=0) (cs:=yX mb root next) EQ4 nMN (t3 (.head _)) rfl;have ar:Lk PP 117 false ae (.map (some mb)) (I q) (pq f.b):=af.lkI Ei EQ4 (t4 (.head _)) (by rw[an];rfl);have bv:Ld PP 59 ae ⟨f.b,7,none⟩ (.slice f.ka g.kids.length f.kc):=af.ld (o:=7) (cs:=yL f g) EQ4 nSI (.tail _ (ap _ (.head _))) rfl;refine⟨by rw[add_lit];exact bv,ar,aq,ar,aq,?_⟩
 have a2:=af.perm (M:=.own 3 1 f.ka g.kids.length f.kc (AO g.kids)::.blk f.b (yL f g) 139::.own 142 2 f.aa g.x.FP.length f.ac (atC g.x.FP)::.blk b3 [I z] 3::.own 3 1 D (d'+1+1+1) G (AO (parent::Ag (snoc (d'+1) z x.x N)))::.blk xb (itC x s) 123::.blk b (yX mb root next) 119::.Z6 mb .i64 (xe (A++(f,g)::(Bw++[(C,B)])))::Bl (A++(Bw++[(C,B)]))) (by
  have e1:=Jr b mb root next A (f,g) (Bw++[(C,B)])
  refine AL λff gg h0 hc ha ak=>?_;have:=ak _ _ e1;simp only[yl,ha,hc,h0]at this⊢;omega)
 have cz:g.kids.length<=10000:=by
  have X:=Ik N parent g (ci.mem_iff.2 (.head _));rw[ah,aJ]at X;omega
 have bc:Src PP 1 59 (.slice (Pq b3) 1 1) 1 [I z] ae:=Blk.src (P:=PP) LH (a2.blk (t3 (.head _))) rfl rfl;refine Hp.app Kz om a2 EQ4 bc (by simp only[maxLen];omega) om ?_;intro T U dz a3;have ce:AO g.kids++[I z]=AO (g.kids++[z]):=by simp[AO]
 rw[ce]at a3;have a4:=a3.AX;obtain⟨e2,Y⟩:∃e2:En,e2= {g with kids:=g.kids++[z]}:=⟨_,rfl⟩;have bw:g.kids.length+1=e2.kids.length:=by rw[Y];simp
 refine⟨a4.lkI Ei EQ4 (t7 (.head _)) (by rw[an];rfl),a4.ld (o:=0) (cs:=yX mb root next) EQ4 nMN (t6 (.head _)) rfl,AA rfl ?_⟩;rw[add_lit];refine Hp.st (o:=7) a4 EQ4 nSI rfl rfl (by simp[yL]) (cs':=yL {f with ka:=T,kc:=U} e2) (by rw[bw,Y];rfl) λd0 cf=>?_;refine hJ _ _ ⟨D,G,A++({f with ka:=T,kc:=U},e2)::(Bw++[(C,B)]),snoc (d'+1) z x.x N,root,?_,grow_step hI hz hx hd ab ?_ ?_,?_⟩
 ·show(D,d'+1+1+1,G)=_;rw[<- ag]
 ·show ba=_;rw[KI d' z x.x N ab];exact hI.at_
 ·rw[bl]at a1;have h9:=Ye (y':= {f with ka:=T,kc:=U}) (yn:=C) (e':=e2) (en:=B) a1;rw[Y]at h9⊢;exact d3 _ h9
 have e1:=Jr b mb root next A ({f with ka:=T,kc:=U},e2) (Bw++[(C,B)])
 have hM:xe (A++(({f with ka:=T,kc:=U}:NW),e2)::(Bw++[(C,B)]))=xe (A++(f,g)::(Bw++[(C,B)])):=LP rfl (by rw[Y]);rw[hM]at e1;have cg:e2.x=g.x:=by rw[Y]
 refine Hp.drop (Hp.drop (a:=.blk b3 [I z] 3) (cf.perm (M:=.blk b3 [I z] 3::.blk xb (itC x s) 123::.own 3 1 D ((Ag (snoc (d'+1) z x.x N)).length+1) G (AO (parent::Ag (snoc (d'+1) z x.x N)))::xU b mb root next (A++({f with ka:=T,kc:=U},e2)::(Bw++[(C,B)]))) ?_));rw[ag];refine AL λff gg h0 hc ha ak=>?_;have:=ak _ _ e1;simp only[yl,ha,hc,h0,cg,<- bw]at this⊢;have ch:g.kids++[z]=e2.kids:=by rw[Y]
 rw[ch];omega
end
end Go.Proofs.YtljenkbpnioipaaGreat
namespace Go.Nod
theorem Qi{l:Int}:∀(X Y:List Rw),(∀r∈X,l<r.level)->(∀r,Y.head? =some r->r.level<=l)->(X++Y).takeWhile (λr=>decide (l<r.level))=X
 | [],[],_,_=>rfl
 | [],y::Y,_,h=>by
  have:=h y rfl;have:¬l<y.level:=om;rw[aO,ou,decide_eq_false this];rfl
 |x::X,Y,h,h'=>by
  have:=h x (.head _);rw[aH,ou,decide_eq_true this];simp;rw[Qi X Y (λr a=>h r (.tail _ a)) h']
theorem MX:∀(F G:Fo)(l:Int),flat F l=flat G l->F=G
 |.nil,.nil,_,_=>rfl
 |.nil,.cons i x k s,l,h=>by rw[flat,flat]at h;cases h
 |.cons i x k s,.nil,l,h=>by rw[flat,flat]at h;cases h
 |.cons i x k s,.cons i' x' k' s',l,h=>by
  rw[flat,flat,List.cons.injEq]at h;obtain⟨d,b⟩:=h;have e:=Qi (flat k (l+1)) (flat s l) (λr a=>by have:=Bh k _ r a;omega) (λr a=>pz (Fj s l r a));have f:=Qi (flat k' (l+1)) (flat s' l) (λr a=>by have:=Bh k' _ r a;omega) (λr a=>pz (Fj s' l r a));have c:flat k (l+1)=flat k' (l+1):=by rw[<- e,<- f,b]
  have g:flat s l=flat s' l:=by rw[c]at b;exact List.append_cancel_left b
  have j:=MX k k' (l+1) c;have m:=MX s s' l g;injection d with a1 a2 a3
  rw[j,m,a1,a3]
theorem S9:∀(L:List Rw)(k:Nat)(p r:Rw),Adj L->L[k]? =some p->L[k+1]? =some r->KFL p r
 | [],k,p,r,_,h,_=>by simp at h
 | [x],k,p,r,_,_,h=>by simp at h
 |x::y::t,0,p,r,h,h1,h2=>by cases h1;cases h2;exact h.1
 |x::y::t,k+1,p,r,h,h1,h2=>S9 (y::t) k p r h.2 (by simpa using h1) (by simpa using h2)
def Yt{F:Fo}{l:List It}{n b:Int}(h:flat F b=Ar n b l)(f:FOk F):Vu l:=by
 intro k x c;have a:∀{k:Nat}{x:It},l[k]? =some x->(flat F b)[k]? =some ⟨n+k,x.level+b,x.x⟩:=λc=>by rw[h,Dz,c];rfl
 refine⟨?_,λe=>?_,λy m g=>?_⟩
 ·have:=Bh F b _ (aC (a c));dsimp only at this;omega
 ·subst e;have:=Fj F b _ (by rw[gJ];exact a c);dsimp only at this;omega
 have i:=a g;have j:=a c;obtain⟨d,rfl⟩:∃d,k=d+1:=⟨k-1,om⟩;have:=(S9 _ d _ _ (Ll F b f) i j).1;dsimp only at this;omega
def one_lev{F:Fo}{i:Int}{x:NX}{k:Fo}(e:F=.cons i x k .nil){l:List It}{n:Int}(h:flat F 0=Ar n 0 l):∀(k:Nat)(x:It),0<k->l[k]? =some x->1<=x.level:=by
 intro j y d c;have a:(flat F 0)[j]? =some ⟨n+j,y.level+0,y.x⟩:=by rw[h,Dz,c];rfl
 rw[e,flat,flat,aX]at a;obtain⟨b,rfl⟩:∃b,j=b+1:=⟨j-1,om⟩;rw[bI]at a;have:=Bh k (0+1) _ (aC a);dsimp only at this;omega
def DC{x:NX}(h:Ap x=0):x.FP.length<=20/\(x.kind=1->CZ x.name/\Nj x.FP/\x.text=⟨#[]⟩/\valsE x.FP=0)/\(x.kind=2->x.FP=[]/\BH x.text=0/\x.name=⟨#[]⟩):=by
 rw[Ap]at h;split at h
 ·rename_i c;split at h
  ·rename_i b;exact⟨by rw[b.2];simp,λe=>by omega,λ_=>⟨b.2,h,b.1⟩⟩
  cases h
 rename_i c;split at h
 ·rename_i b;split at h
  ·rename_i a;rw[CG]at a;split at a
   ·cases a
   rename_i d;split at a
   ·cases a
   rename_i f;split at a
   ·cases a
   rename_i g;exact⟨om,λ_=>⟨eU.1 d,eU.1 f,b.2,h⟩,λe=>(c e).elim⟩
  rename_i a;exact(a h).elim
 cases h
end Go.Nod
namespace Go.Vc
def Hp.stays{B:Nq}{w0 w W:Wq}{L1:List Asn}{a:Asn}(H:Hp B w0 w (a::L1))(h:Chg (xq L1) w W):a.ok W:=by
 have b:=H.ok a (.head _);refine Asn.Ri b λk d=>h.2.2.2.2 k (Asn.Jb b k d) λe=>?_;obtain⟨x,f,c⟩:=BD.1 e;exact(bF.1 H.sep).1 x f k d c
def Hp.KDH{B:Nq}{w0 w W:Wq}{L:List Asn}(H:Hp B w0 w L)(h:Chg (xq L) w W):Chg B w0 W:=
 H.chg.trans h (λk a=>a) λk a=>by
  obtain⟨x,c,b⟩:=BD.1 a;exact H.own x c k b
end Go.Vc
namespace Go.Proofs.YtljenkbpnioipaaGreat
noncomputable section
open Go Go.Vc Go.Nod
structure CW(S:Nq)(w:Wq)(a:OA)(n:Nat)(l:List It)(ss:List Sl3):Prop where
 rd:∀W,Chg S w W->ItR W a n l ss
 len:n<=maxLen
 sls:∀s∈ss,s.2.1<=maxLen
 small:∀x∈l,Xp x.x
def CW.now{S:Nq}{w:Wq}{a:OA}{n:Nat}{l:List It}{ss:List Sl3}(h:CW S w a n l ss):ItR w a n l ss:=h.rd w (Chg.refl _ _)
def CW.att{S:Nq}{w:Wq}{a:OA}{n:Nat}{l:List It}{ss:List Sl3}(h:CW S w a n l ss)(f:∀x∈l,Ap x.x=0):∀s∈ss,s.2.1<=1000:=by
 intro s g;obtain⟨k,c⟩:=bD g;have d:=h.now;have b:=(aA.1 c).1;have e:l[k]? =some (l[k]'(by rw[<- d.ssl];exact b)):=aB _;have i:=(d.FP k _ s e c).len;have j:=(DC (f _ (aC e))).1;omega
def Yz(n:Int)(l:List It)(a:lI)(h:a=(List.range l.length).map λ(k:Nat)=>n+(k:Int)):LC (a.take l.length) (l.take l.length)=Ar n 0 l:=by
 have b:a.length=l.length:=by rw[h];simp
 rw[aV om,aV (aZ _),h,<- named_rowsZ 0]
def Ur(n:Int)(m:Nat):((List.range m).map λ(k:Nat)=>n+(k:Int)).Nodup:=by
 refine dD.2 (List.nodup_range.imp λh e=>h ?_);omega
def gLoad_spec{f:Nq}{b:Nat}{T:Tr}{w:Wq}(h:(AV f b T).ok w)(G:OA)(n lc:Nat)(l:List It)(ss:List Sl3)(j:CW f w G n l ss):
  CP 23 #[pq b,.slice G n lc] w λe w'=>∃L,e=Ej (.tuple #[I (T.load l).2.1,I (T.load l).2.2])/\Hp f w w' [AV L b (T.load l).1]:=by
 apply Ja9;have y:Hp f w w [AV f b T]:=BU h;have c:=j.now.len;refine AC (JS G n lc l ss w j.now j.len j.sls j.small) ?_;rintro _ w1 ⟨rfl,H'⟩;replace y:=y.xN H';refine⟨_,_,rfl,AQ (λm=>⟨f,by rw[Tr.load,if_pos m],by rw[Tr.load,if_pos m];exact y⟩) (λm=>?_)⟩;have o:¬(Dp l).2≠0:=λp=>p m;obtain⟨M,⟨F,hG,O,J,hw,rfl⟩,H,hf⟩:=y.unpack;have R:=hG.next;refine AA rfl ⟨T.next,by rw[add_lit];exact H.lo xK,iR,AB (λp=>?_) (λp=>?_)⟩
 ·have:2147483647<T.next+l.length:=om;refine⟨f,by rw[Tr.load,if_neg o,if_pos this],by rw[Tr.load,if_neg o,if_pos this];exact y⟩
 have q:¬2147483647<T.next+l.length:=om;obtain⟨K,a,U⟩:=OT m R.1 om
 have ah:l.length<=1000:=by
  have:=a.len;rw[Eo]at this;exact this
 have A:l≠[]:=λe=>by rw[Dp,if_pos e]at m;cases m
 intro g w2 X;have H2:=H.KDN EQ4 .i64 X
 have H3:Hp f w w2 (.blk b (yX O (Af F) T.next) 119::.Z6 g .i64 []::(.Z6 O .i64 (xe J)::Bl J)):=H2.perm (by
  refine AL λff gg h0 hc ha ak=>?_;simp only[xU,ha,hc,h0];omega)
 refine AA rfl (Hp.st H3 EQ4 nMN rfl rfl (by simp[yX]) rfl λw3 H4=>AA rfl ?_);rw[add_lit];refine Hp.st H4 EQ4 xK rfl rfl (by simp[yX]) rfl λw4 H5=>?_
 have H6:Hp f w w4 (xU b g 0 T.next []):=by
  have:Hp f w w4 (xU b g 0 T.next []++(.Z6 O .i64 (xe J)::Bl J)):=H5;exact this.BM
 refine AC (ZO H6.std n om om om) ?_;rintro _ w5 ⟨Y,Z,rfl,H7⟩;have B:=H6.GR H7;refine⟨Y,n,Z,rfl,?_⟩;obtain⟨s,d⟩:∃s:lI,s=(List.range n).map λ(k:Nat)=>T.next+(k:Int):=⟨_,rfl⟩;rw[<- d]at B;have aa:s.length=l.length:=by rw[d];simp;omega
 have i:∀x∈l,Ap x.x=0:=λx hx=>by
  obtain⟨k,hk⟩:=bD hx;have h9:(flat K 0)[k]? =some ⟨T.next+k,x.level+0,x.x⟩:=by rw[a.fl];rw[Dz,hk];rfl
  exact GH K 0 a.ok _ (aC h9)
 obtain⟨i1,x1,k1,ab,_⟩:=a.one.resolve_left U;refine AC (Xv (B.drop).std 0 0 G n lc l ss Y Z s (λW hW=>j.rd W ((B.drop).KDH hW)) (λW hW=>?_) aa A om (j.att i) (Yt a.fl a.ok) (λ_=>one_lev ab a.fl) ⟨0,0,⟨0,⟨#[]⟩,⟨#[]⟩,[]⟩,[]⟩ [] ?_ ?_ (λz hz=>?_) ⟨om,by simp⟩ (by simp)) ?_
 ·exact Own.cells (show Own W 0 3 1 Y n Z (AO s)from Hp.stays B hW)
 ·exact .inl ⟨rfl,.refl _,rfl⟩
 ·rw[JM,if_pos rfl,aX,d];exact Ur _ _
 ·rw[d]at hz;obtain⟨k,_,rfl⟩:=aU.1 hz;omega
 rintro _ w6 ⟨t,N,C,al,rfl,hI,H9⟩;have D:=(B.drop).GR H9
 have ac:flat N 0=Ar T.next 0 l:=by
  rw[hI.fl,c];exact Yz T.next l s (by rw[d,c])
 have ad:N=K:=MX N K 0 (by rw[ac];exact a.fl.symm);subst ad;have ae:T.load l=(⟨Ar T.next 0 l,T.next+l.length⟩,T.next,0):=by rw[Tr.load,if_neg o,if_neg q]
 rw[ae]
 obtain⟨hE,u⟩:(t.map (·.2)).Perm (xO N 0)/\C=Af N:=by
  rcases hI.xO with⟨_,p,h3⟩|⟨p,_⟩
  ·exact⟨p,h3⟩
  exact(p rfl).elim
 rw[u,c]at D;have af:Hp f w w6 (xU b g (Af N) (T.next+l.length) t++[]):=by rw[aX];exact D
 obtain⟨L,ag⟩:=af.D5 (Q:=Md b ⟨Ar T.next 0 l,T.next+l.length⟩) ⟨N,a,g,t,hE,rfl⟩;refine⟨_,rfl,L,?_,ag⟩
 have:s.headD 0=T.next:=by
  obtain⟨x,r,e⟩:=dX A;rw[d,c,e,aK,jq];simp
 rw[this]
end
end Go.Proofs.YtljenkbpnioipaaGreat
namespace Go.Nod
theorem OX:∀(l:List It)(d:Int)(x:It),J9 d (l++[x])=max (J9 d l) x.level
 | [],d,x=>rfl
 |y::l,d,x=>by rw[aH,J9,OX l,J9]
def xName:BA:=⟨#[120]⟩
def xName_ok:CZ xName:=by
 refine⟨by decide,by decide,[120],⟨λc a=>?_,by decide⟩,λc a=>?_,λc a=>?_⟩
 ·rw[aW.1 a];decide
 ·rw[aW.1 a];decide
 cases a;decide
def xIt:It:=⟨0,⟨1,xName,⟨#[]⟩,[]⟩⟩
def xIt_parts:Ap xIt.x=0:=by
 have a:¬¬CZ xIt.x.name:=λh=>h xName_ok;have b:¬¬Nj xIt.x.FP:=λh=>h ⟨by simp[xIt],by simp[xIt,Rs]⟩;have c:CG xIt.x=0:=by rw[CG,if_neg a,if_neg b,if_neg (by simp[xIt])]
 rw[Ap,if_neg (by decide),if_pos ⟨rfl,rfl⟩,if_pos c];rfl
def check_two(x:NX):(Dp [xIt,⟨1,x⟩]).2=Ap x:=by
 have c:zN [xIt,⟨1,x⟩] 0 xIt=0:=by
  have:Bi [xIt,⟨1,x⟩] 0 xIt=0:=by
   rw[Bi,if_neg,if_neg,if_neg,if_neg]
   ·omega
   ·show¬(40:Int)<=0;omega
   ·rintro⟨h,_⟩;omega
   rintro⟨_,h|h⟩
   ·exact h rfl
   exact h rfl
  rw[zN,if_pos this,xIt_parts]
 have a:Bi [xIt,⟨1,x⟩] 1 ⟨1,x⟩=0:=by
  rw[Bi,if_neg,if_neg,if_neg,if_neg]
  ·omega
  ·show¬(40:Int)<=1;omega
  ·rintro⟨_,h|⟨y,b,h|h⟩⟩
   ·exact absurd h (by show¬(1:Int)<1;omega)
   ·cases b;exact absurd h (by show¬(0:Int)+1<1;omega)
   cases b;exact absurd h.2 (by decide)
  rintro⟨h,_⟩;omega
 rw[Dp,if_neg (by simp),Ep,if_pos c,Ep];by_cases h:Ap x=0
 ·have:zN [xIt,⟨1,x⟩] (0+1) ⟨1,x⟩=0:=by rw[zN,if_pos a];exact h
  rw[if_pos this,Ep,h]
 have:zN [xIt,⟨1,x⟩] (0+1) ⟨1,x⟩=Ap x:=by rw[zN,if_pos a]
 rw[this,if_neg h]
end Go.Nod
namespace Go.Proofs.YtljenkbpnioipaaGreat
noncomputable section
open Go Go.Vc Go.Nod
theorem IV:∀(l:List It)(p:Option It)(m:Int),DW p l=0->IR p<=m->∀x∈l,0<=x.level/\x.level<=m+l.length
 | [],p,m,_,_,x,a=>by cases a
 |y::r,p,m,h,hm,x,a=>by
  rw[DW]at h;split at h
  ·cases h
  rename_i b;have f:0<=y.level/\y.level<=IR p:=⟨jH.1 λe=>b (.inl e),jH.1 λe=>b (.inr e)⟩;split at h
  ·rw[aK];rcases aP.1 a with rfl|a
   ·omega
   have c:IR (some y)<=m+1:=by
    show(if y.x.kind=2 then y.level else y.level+1)<=m+1;split<;>omega
   have:=IV r (some y) (m+1) h c x a;omega
  rename_i d;exact(d h).elim
theorem gForest_spec(a:OA)(n c:Nat)(l:List It)(ss:List Sl3)(w:Wq)(B:CW [] w a n l ss)(hn:n<=140737488355328):
  CP 148 #[.slice a n c] w λe w'=>(∃d,e=Ej (.tuple #[I d,I (CX l)])/\(CX l=0->d=deepest l))/\Hp [] w w' []:=by
 apply Ja1;have M:=B.now.len;refine AB (λh=>⟨⟨0,?_,λg=>?_⟩,Hp.start w⟩) (λh=>?_)
 ·have:l=[]:=ay om;rw[CX,if_pos this]
 ·have:l=[]:=ay om;rw[CX,if_pos this]at g;cases g
 have aa:l≠[]:=λe=>h (by rw[M,e];rfl);rw[CX,if_neg aa]
 refine xI.mk (λm s w'=>∃k:Nat,m=n-k/\k<=n/\s=(deepest (l.take k),(k:Int))/\(∃p,DW p (l.drop k)=DW none l/\(k=0->p=none)/\(0<k->p=l[k-1]?))/\(∀(j:Nat)(y:It),j<k->l[j]? =some y->0<=y.level/\y.level<=j)/\Hp [] w w' []) n
  ⟨0,rfl,om,rfl,⟨none,rfl,λ_=>rfl,om⟩,om,Hp.start w⟩ ?_
 rintro m s w1 next ⟨k,rfl,hk,rfl,⟨p,o,ab,N⟩,i,H⟩ C
 refine AB (λh1=>?_) (λh1=>?_);rotate_left
 ·have q:k=l.length:=om;rw[q,iQ,DW]at o;rw[q,bJ,<- o];exact⟨⟨_,rfl,λ_=>rfl⟩,H⟩
 have q:k<n:=om;have D:=B.now.go H;obtain⟨x,s,r,Z,_⟩:=D.at_ q;obtain⟨ad,F,ac⟩:=D.some r Z;have O:=(aA.1 r).1;have ae:l.drop k=x::l.drop (k+1):=by rw[bM O,(aA.1 r).2]
 rw[ae,DW]at o;refine AA F ⟨⟨om,h1⟩,_,_,_,_,_,_,_,ac,?_⟩;intro xb w2 af;replace H:=H.nw af;refine Hp.stA H EQ4 CB rfl rfl (by simp) rfl λw3 H=>?_;refine xM.mk (λt w'=>((k=0/\t=(0,false))\/∃y,0<k/\l[k-1]? =some y/\t=(y.level+1,decide (y.x.kind=2)))/\Hp [] w w' [.blk xb (itC x s) 123]) ?_ ?_
 ·rintro⟨R,T⟩ w4 ⟨u,U⟩
  have f:(k=0/\p=none/\R=0/\T=false)\/∃y,0<k/\p=some y/\R=y.level+1/\T=decide (y.x.kind=2):=by
   rcases u with⟨g,G⟩|⟨y,g,G,z⟩
   ·cases G;exact .inl ⟨g,ab g,rfl,rfl⟩
   cases z;exact .inr ⟨y,g,by rw[N g,G],rfl,rfl⟩
  have K:(x.level<0\/IR p<x.level)->(∃d,Ending.returned (.tuple #[I 0,I 69])=Ej (.tuple #[I d,I (DW none l)])/\(DW none l=0->d=deepest l))/\Hp [] w w4 []:=λhb=>by
   rw[if_pos hb]at o;exact⟨⟨0,by rw[<- o],λh9=>by omega⟩,U.drop⟩
  refine⟨x.level,U.lo xK,AB (λg=>K (.inl g)) (λg=>⟨x.level,U.lo xK,AB (λG=>K (.inr ?_)) (λG=>?_)⟩)⟩
  ·rcases f with⟨_,rfl,rfl,_⟩|⟨y,_,rfl,rfl,_⟩
   ·exact G
   show(if y.x.kind=2 then y.level else y.level+1)<x.level;split<;>omega
  refine(λ(kk:¬(x.level<0\/IR p<x.level)->_)=>Du (λz=>⟨x.level,U.lo xK,AB (λh5=>K (.inr ?b1)) (λh5=>kk (?c1:¬(x.level<0\/IR p<x.level)))⟩) (λz=>kk (?c2:¬(x.level<0\/IR p<x.level)))) ?_
  case b1=>
   rcases f with⟨_,_,_,rfl⟩|⟨y,_,rfl,rfl,rfl⟩
   ·cases z
   have:=of_decide_eq_true z;show(if y.x.kind=2 then y.level else y.level+1)<x.level;rw[if_pos this];omega
  case c1=>
   rintro(A|A)
   ·exact g A
   rcases f with⟨_,_,_,rfl⟩|⟨y,_,rfl,rfl,rfl⟩
   ·cases z
   have:=of_decide_eq_true z;have h7:(if y.x.kind=2 then y.level else y.level+1)<x.level:=A;rw[if_pos this]at h7;omega
  case c2=>
   rintro(A|A)
   ·exact g A
   rcases f with⟨_,rfl,rfl,_⟩|⟨y,_,rfl,rfl,rfl⟩
   ·exact G A
   have:=of_decide_eq_false z;have h7:(if y.x.kind=2 then y.level else y.level+1)<x.level:=A;rw[if_neg this]at h7;omega
  intro L;rw[if_neg L]at o;have ag:0<=x.level:=jH.1 λe=>L (.inl e);have ah:x.level<=IR p:=jH.1 λe=>L (.inr e)
  have ak:x.level<=k:=by
   rcases f with⟨_,rfl,_⟩|⟨y,h0,rfl,_⟩
   ·have:IR none=0:=rfl;omega
   have b:l[k-1]? =some y:=by rw[<- N h0]
   have h8:=(i (k-1) y om b).2;have h9:x.level<=(if y.x.kind=2 then y.level else y.level+1):=ah;split at h9<;>omega
  refine Hp.st U EQ4 xK rfl rfl (by simp[itC]) rfl λw5 H5=>?_;refine⟨_,_,_,_,_,_,_,H5.loA CB,?_⟩;intro b2 w6 al;have H6:=H5.nw al;have am:=((B.now.go H6.drop.drop).FP k x s r Z)
  have an:ItR w6 (Pq b2) 2 [xIt,⟨1,x.x⟩] [(none,0,0),s]:=⟨rfl,rfl,(H6.blk (.head _)).cells,λj y t b u=>by
   cases j with
   |zero=>cases b;cases u;exact⟨rfl,λj v hv=>by simp[xIt,atC]at hv⟩
   |succ j=>cases j with
    |zero=>cases b;cases u;exact am
    |succ j=>simp at b⟩
  refine AC (JS _ 2 2 _ _ w6 an (by simp[maxLen]) (λt u=>?_) (λy b=>?_)) ?_
  ·rcases aP.1 u with rfl|u
   ·exact bZ _
   rw[aW.1 u];exact B.sls s (aC Z)
  ·rcases aP.1 b with rfl|b
   ·exact⟨by simp[xIt,xName,maxLen,ByteArray.size],by simp[xIt,maxLen,ByteArray.size],by simp[xIt]⟩
   rw[aW.1 b];exact B.small x (aC r)
  rintro _ w7 ⟨rfl,H'⟩;have H7:=H6.xN H';rw[check_two];refine⟨_,_,rfl,AQ (λh8=>?_) (λh8=>?_)⟩
  ·rw[if_neg h8]at o;exact⟨⟨0,by rw[<- o],λh9=>by omega⟩,H7.drop.drop⟩
  rw[if_pos h8]at o;have ao:=B.now.go H7.drop.drop;refine AA F ⟨⟨om,h1⟩,x.level,?_,iR,C (n-(k+1)) _ _ om ⟨k+1,rfl,om,?_,⟨some x,o,om,λ_=>by rw[jB];exact r.symm⟩,λj y hj b=>?_,H7.drop.drop⟩⟩
  ·have:=ao.ld r Z F xK (j:=0) rfl;rw[aN];exact this
  ·have e:l.take (k+1)=l.take k++[x]:=by rw[aG O,(aA.1 r).2]
   have e2:deepest (l.take k++[x])=max (J9 0 (l.take k)) x.level:=OX _ 0 x;rw[e,e2];rfl
  by_cases e:j=k
  ·subst e;rw[r]at b;cases b;exact⟨ag,ak⟩
  exact i j y om b
 intro J hJ;refine AB (λg=>?_) (λg=>hJ _ _ ⟨.inl ⟨om,rfl⟩,H⟩);have ap:0<k:=om;obtain⟨y,sy,b,X,_⟩:=D.at_ (k:=k-1) om;have Y:=B.now.go H.drop.drew;have ek:Int.toNat ((k:Int)-1)=k-1:=om;have aq:=i (k-1) y om b;refine⟨iR,AA F ⟨⟨om,om⟩,y.level,?_,iR,iR,AA F ⟨⟨om,om⟩,y.x.kind,?_,hJ _ _ ⟨.inr ⟨y,ap,b,rfl⟩,H.drew⟩⟩⟩⟩
 ·rw[ek];exact Y.ld b X F xK (j:=0) rfl
 rw[ek,add_add];exact Y.ld b X F xK (j:=1) rfl
end
end Go.Proofs.YtljenkbpnioipaaGreat
namespace Go.Nod
theorem named_shift(l:List It)(b:Int):∀(n:Int),Ho (Ar n b l) b=Ar n 0 l:=by
 induction l with
 |nil=>intro n;rfl
 |cons x l a=>
  intro n;have:=a (n+1);rw[Ho]at this⊢;rw[Ar,Ar,aj,this];congr 2;show x.level+b-b=x.level+0;omega
section
variable{F:Fo}{p i l q:Int}{x:NX}{k:Fo}{A B:List Rw}{v:Int}
def Mid.qg(h:Mid F p i l q x k A B v):(EK (flat F l) A.length).length=(xJ k).length:=by rw[h.kids,UG]
end
def Am.rows{F:Fo}{T:Tr}(G:Am F T){i q:Int}{x:NX}{k:Fo}(h:AZ F 0 i=some (q,x,k)):∃A B v,Mid F 0 i 0 q x k A B v/\EI T.L i=some A.length/\atR T.L i=some (A.length,⟨i,v,x⟩)/\v<40/\0<=v:=by
 rcases G.at_ i with⟨a,_⟩|⟨e,f,g,A,B,v,a,b,c,d⟩
 ·rw[h]at a;cases a
 rw[h]at a;cases a;refine⟨A,B,v,b,c,d,?_,b.le⟩;have:=b.level;rw[G.fl]at this;exact G.deep _ this
def Am.noRow{F:Fo}{T:Tr}(G:Am F T){i:Int}(h:AZ F 0 i=none):EI T.L i=none/\atR T.L i=none:=by
 rcases G.at_ i with⟨_,b,c⟩|⟨d,e,f,A,B,v,a,_⟩
 ·exact⟨c,b⟩
 rw[h]at a;cases a
end Go.Nod
namespace Go.Proofs.YtljenkbpnioipaaGreat
noncomputable section
open Go Go.Vc Go.Nod
def Gw(F:Fo):Af F=(xJ F).headD 0:=by cases F<;>rfl
def VF(i:Int)(f:Fo->Fo)(F:Fo):Af (under i f F)=Af F:=by rw[Gw,Gw,Oj]
theorem gInsert_spec{f:Nq}{b:Nat}{T:Tr}{w:Wq}(h:(AV f b T).ok w)(id at_:Int)(la:OA)(n lc:Nat)(l:List It)(ss:List Sl3)(hA:CW f w la n l ss)(aq:n<=140737488355328):
  CP 91 #[pq b,I id,I at_,.slice la n lc] w λe w'=>∃f',e=Ej (.tuple #[I (T.insert id at_ l).2.1,I (T.insert id at_ l).2.2])/\Hp f w w' [AV f' b (T.insert id at_ l).1]:=by
 apply Ja5;have H0:Hp f w w [AV f b T]:=BU h;have O:=hA.now.len;obtain⟨M,⟨F,u,mb,ws,hw,rfl⟩,H,hf⟩:=H0.unpack;have bq:=u.next;have same:∀(w':Wq)(c:Int),Hp f w w' [AV f b T]->T.insert id at_ l=(T,0,c)->∃f',Ending.returned (.tuple #[I 0,I c])=Ej (.tuple #[I (T.insert id at_ l).2.1,I (T.insert id at_ l).2.2])/\Hp f w w' [AV f' b (T.insert id at_ l).1]:=λw' c H9 e=>⟨f,by rw[e],by rw[e];exact H9⟩
 refine AC (OE u.nodup hw H.KCE id) ?_;rintro e w1 ⟨rfl,⟨o,rfl⟩|⟨q,x,k,o,aa,rfl⟩|⟨q,x,k,Aw,y,Bw,o,aa,a8,rfl⟩⟩
 ·refine⟨_,_,rfl,AQ (λ_=>same _ _ H0 (by rw[Tr.insert,(u.noRow o).2])) (λe=>by omega)⟩
 ·obtain⟨A,B,v,hm,a9,s,hv,ba⟩:=u.rows o;refine⟨_,_,rfl,AQ (λ_=>same _ _ H0 (by rw[Tr.insert,s];dsimp only;rw[if_pos aa])) (λe=>by omega)⟩
 obtain⟨A,B,v,hm,a9,s,hv,ba⟩:=u.rows o;have D:¬x.kind≠1:=λh=>h aa;have ar:(EK T.L A.length).length=(xJ k).length:=by rw[<- u.fl];exact hm.qg
 refine⟨_,_,rfl,AQ (λe=>by omega) (λ_=>AB (λh1=>?_) (λh1=>?_))⟩
 ·refine same _ _ H0 ?_;rw[Tr.insert,s];dsimp only;rw[if_neg D,if_pos (.inl h1)]
 have av:Asn.blk y.b (yL y ⟨id,q,x,xJ k⟩) 139∈xU b mb (Af F) T.next ws++[]:=aS _ (Ea (p:=(y,⟨id,q,x,xJ k⟩)) (by rw[a8];simp) (.head _));refine AA rfl ⟨_,_,_,by rw[add_lit];exact H.ld EQ4 nSI av rfl,AB (λh2=>?_) (λh2=>?_)⟩
 ·refine same _ _ H0 ?_;have:((xJ k).length:Int)<at_:=h2
  rw[Tr.insert,s];dsimp only;rw[if_neg D,if_pos (.inr (by rw[ar];exact this))]
 have bv:at_<=((xJ k).length:Int):=jH.1 h2
 have g:¬(at_<0\/((EK T.L A.length).length:Int)<at_):=by rw[ar];omega
 refine AC (gForest_spec la n lc l ss w1 ⟨λW hW=>hA.rd W (hW.more (by simp)),hA.len,hA.sls,hA.small⟩ aq) ?_;rintro _ w2 ⟨⟨d,rfl,hd⟩,Hf⟩;have ab:=H0.xN Hf;have H':=H.xN Hf;refine⟨_,_,rfl,AQ (λh3=>same _ _ ab ?_) (λh3=>?_)⟩
 ·rw[Tr.insert,s];dsimp only;rw[if_neg D,if_neg g,if_pos h3]
 have G:CX l=0:=h3;have ac:¬CX l≠0:=λh=>h G;have hd:=hd G;subst hd;obtain⟨N,ad,ah,bw,bb⟩:=forest_good G (v+1) T.next;have ak:l≠[]:=λe=>by rw[CX,if_pos e]at G;cases G
 obtain⟨i1,x1,k1,bc⟩:∃i1 x1 k1,F=.cons i1 x1 k1 .nil:=by
  rcases u.one with e|⟨i1,x1,k1,e,_⟩
  ·rw[e]at o;cases o
  exact⟨i1,x1,k1,e⟩
 have C:∀j∈ids F,j≠0:=λj hj=>by have:=u.pos j hj;omega
 have t:id∈ids F:=(BI F 0 id).1 (by rw[o];simp);refine AC (ZH u.nodup C ⟨i1,x1,k1,bc⟩ hw H'.KCE o hm om) ?_;rintro _ w3 ⟨rfl,rfl⟩
 have bx:0<=deepest l/\deepest l<=l.length:=by
  refine⟨(PK l 0).1,?_⟩
  have aw:∀x∈l,x.level<=l.length:=λx hx=>by
   have h9:DW none l=0:=by rw[CX,if_neg ak]at G;exact G
   have:=IV l none 0 h9 (gz _) x hx;omega
  have bd:∀(l':List It)(d m:Int),d<=m->(∀x∈l',x.level<=m)->J9 d l'<=m:=by
   intro l'
   induction l' with
   |nil=>intro d m hd _;exact hd
   |cons y r ih=>
    intro d m hd hx;have:=hx y (.head _);exact ih (max d y.level) m om λx bh=>hx x (.tail _ bh)
  exact bd l 0 _ om aw
 refine⟨_,rfl,iR,iR,AB (λh4=>same _ _ ab ?_) (λh4=>?_)⟩
 ·rw[Tr.insert,s];dsimp only;rw[if_neg D,if_neg g,if_neg ac,if_pos h4]
 have a0:MapAt (Dn .i64) w3 mb (xe ws):=H'.ok _ m1;have al:(xe ws).length=T.L.length:=by rw[xe,aQ,hw.len,Bf u]
 have b0:=u.len;refine AA rfl ⟨some mb,H'.lo nMN,_,run_len_map Ei.und a0,DT.2 (by rw[al];omega),AB (λh5=>same _ _ ab ?_) (λh5=>?_)⟩
 ·rw[al]at h5;rw[Tr.insert,s];dsimp only;rw[if_neg D,if_neg g,if_neg ac,if_neg h4,if_pos (.inl om)]
 rw[al]at h5;refine AA rfl ⟨T.next,by rw[add_lit];exact H'.lo xK,iR,AB (λh6=>same _ _ ab ?_) (λh6=>?_)⟩
 ·rw[Tr.insert,s];dsimp only;rw[if_neg D,if_neg g,if_neg ac,if_neg h4,if_pos (.inr om)]
 have am:¬(1000<T.L.length+l.length\/2147483647<T.next+l.length):=om;refine AC (ZO H'.KCE n om om om) ?_;rintro _ w5 ⟨za,zc,rfl,H7⟩;have H8:=H'.KEX H7;rw[aX]at H8;refine⟨za,n,zc,rfl,?_⟩;obtain⟨zs,J⟩:∃zs:lI,zs=(List.range n).map λ(k:Nat)=>T.next+(k:Int):=⟨_,rfl⟩;rw[<- J]at H8;have a1:zs.length=l.length:=by rw[J];simp;omega
 have ae:∀z∈zs,T.next<=z/\z<T.next+n:=λz hz=>by
  rw[J]at hz;obtain⟨k,hk,rfl⟩:=aU.1 hz;have:=dW.1 hk;omega
 have af:∀x∈l,Ap x.x=0:=λx hx=>by
  obtain⟨k,hk⟩:=bD hx;have h9:(flat N (v+1))[k]? =some ⟨T.next+k,x.level+(v+1),x.x⟩:=by rw[ad,Dz,hk];rfl
  exact GH N _ ah _ (aC h9)
 obtain⟨R,a2,bi,_⟩:=EY F 0 id u.nodup o;obtain⟨an,a3⟩:∃an:Nat,at_=an:=⟨at_.toNat,om⟩
 have U:an<=(xJ k).length:=om;have a4:(xO F 0).map (·.id)=ids F:=Ce F 0
 have Y:(ids F).Perm (id::(xO k id++R).map (·.id)):=by
  have:=a2.map (·.id)
  rwa [a4]at this
 have b1:=Jn k;have b2:(ids k).length<=(ids F).length:=by rw[hm.ids];simp;omega
 have b3:=Bf u;refine AC (Xv (H8.drop).std id at_ la n lc l ss za zc zs (λW hW=>hA.rd W ((H8.drop).KDH hW)) (λW hW=>?_) a1 ak om (hA.att af) (Yt ad ah) (λe=>(C id t e).elim) ⟨id,q,x,xJ k⟩ (xO k id++R) ?_ ?_ (λz hz=>by have:=ae z hz;omega) ⟨om,by dsimp only;omega⟩ (by dsimp only;omega)) ?_
 ·exact Own.cells (show Own W 0 3 1 za n zc (AO zs)from Hp.stays H8 hW)
 ·refine .inr ⟨C id t,rfl,rfl,?_⟩;rw[xJ,insAt_nil,xO,aO];exact hw.trans a2
 ·rw[JM,if_neg (C id t)];refine bG.2 ⟨by rw[J];exact Ur _ _,Y.nodup_iff.1 u.nodup,λa ha c hc e=>?_⟩;have h1:=ae a ha;have h2:=u.pos c (Y.mem_iff.2 hc);omega
 rintro _ w6 ⟨ag,K,a5,b4,rfl,hI,H9⟩;have a6:=(H8.drop).GR H9
 have bj:flat K 0=Ar T.next 0 l:=by
  rw[hI.fl,O];exact Yz T.next l zs (by rw[J,O])
 have bk:K=N:=MX K N 0 (by
  have:=Gj N (v+1) (v+1);rw[ad,named_shift,Int.sub_self]at this;rw[bj,this])
 subst bk
 have X:ids K=zs:=by
  rw[<- BK K 0,hI.fl,Vt (by rw[aJ,aJ];omega),aV om]
 obtain⟨hE,ao⟩:(ag.map (·.2)).Perm (xO K id++ {(⟨id,q,x,xJ k⟩:En)with kids:=Ee (xJ k) at_.toNat (xJ K)}::(xO k id++R))/\a5=Af F:=by
  rcases hI.xO with⟨h2,_⟩|⟨_,_,h3,h4⟩
  ·exact(C id t h2).elim
  exact⟨h4,h3⟩
 have ap:=u.put (next:=T.next+l.length) o hm aa U ah (by rw[X,J];exact Ur _ _) (λj hj bl=>by
  have h1:=ae j (by rw[<- X];exact hj);have h2:=u.pos j bl;omega) (λr hr=>by have:=bb r hr;omega) (by rw[X,a1];omega) (λj hj=>by
  have:=ae j (by rw[<- X];exact hj);omega) om
 have Z:=hm.laid U K;rw[ad,u.fl]at Z
 have a7:T.insert id at_ l=(⟨flat (under id (putAt an K) F) 0,T.next+l.length⟩,T.next,0):=by
  rw[Tr.insert,s];dsimp only;rw[if_neg D,if_neg g,if_neg ac,if_neg h4,if_neg am,<- Z,a3,aN]
 have bm:Dv (under id (putAt an K) F) ag:=by
  refine hE.trans (List.Perm.trans ?_ (bi (putAt an K)).symm);rw[UO U,a3,aN];have h7:=PU an K k id U;refine List.Perm.trans ?_ ((h7.append_right R).cons _).symm;rw[ax];exact bP
 rw[a7];rw[ao,O,<- VF id (putAt an K) F]at a6;have bo:Hp f w1 w6 (xU b mb (Af (under id (putAt an K) F)) (T.next+l.length) ag++[]):=by rw[aX];exact a6
 obtain⟨f',bp⟩:=bo.D5 (Q:=Md b ⟨flat (under id (putAt an K) F) 0,T.next+l.length⟩) ⟨_,ap,mb,ag,bm,rfl⟩;refine⟨_,rfl,f',?_,bp⟩
 have:zs.headD 0=T.next:=by
  obtain⟨x,r,e⟩:=dX ak;rw[J,O,e,aK,jq];simp
 rw[this]
end
end Go.Proofs.YtljenkbpnioipaaGreat
namespace Go.Vc
def Hp.delI{P:Program}{B:Nq}{w0 w w':Wq}{L:List Asn}{t d f:TypeId}{z:Value}{b:Nat}{k:IntKind}{al:List (Int×Value)}(T:KAa P (Dn k) t d f z){c:Array TypeId}{ty:TypeId}(a:c[0]? =some t)(H:Hp B w0 w (.Z6 b k al::L))(e:Eqw w w'){x:Int}{G:WP}
  (kk:∀w1,Hp B w0 w1 (.Z6 b k (zx al x)::L)->G w1):∃w1,Del P c ty w' (.map (some b)) (.int k x) w1/\G w1:=by
 obtain⟨w1,g,h,i⟩:=qx (ty:=ty) T a ((H.go e).ok _ (.head _)) x;exact⟨w1,g,kk w1 ((H.go e).set i h λk j=>.inl j)⟩
end Go.Vc
namespace Go.Nod
theorem WL:∀(l:lI)(v:Int),v∈l->l.erase v=l.take (l.idxOf v)++l.drop (l.idxOf v+1)
 | [],v,h=>by cases h
 |x::r,v,h=>by
  by_cases e:x=v
  ·subst e;simp
  have a:(x==v)=false:=by simpa using e
  have c:v∈r:=(aP.1 h).resolve_left λh=>e h.symm;rw[List.erase_cons,a,List.idxOf_cons,a,cond_false,dY,eF,if_neg (by simp),WL r v c];rfl
theorem V3:∀(F G:Fo)(p i:Int),i∉ids F->AZ (app F G) p i=AZ G p i
 |.nil,G,p,i,_=>rfl
 |.cons j x k s,G,p,i,h=>by
  rw[ids,aP,aT,not_or,not_or]at h
  have a:AZ k j i=none:=by
   cases h9:AZ k j i with
   |none=>rfl
   |some c=>exact(h.2.1 ((BI k j i).1 (by rw[h9];simp))).elim
  rw[app,AZ,if_neg (λe=>h.1 e.symm),a];exact V3 s G p i h.2.2
end Go.Nod
namespace Go.Proofs.YtljenkbpnioipaaGreat
noncomputable section
open Go Go.Vc Go.Nod
def YF{ws:List (NW×En)}{e:En}{R:List En}(c:(ws.map (·.2)).Perm (e::R)):∃A y Bw,ws=A++(y,e)::Bw:=by
 obtain⟨⟨y,f⟩,d,a⟩:=aU.1 (c.mem_iff.2 (.head _));dsimp only at a;subst a;obtain⟨A,B,h⟩:=gI d;exact⟨A,y,B,h⟩
def NL{A Bw:List (NW×En)}{y y':NW}{e e':En}{R:List En}(h:((A++(y,e)::Bw).map (·.2)).Perm (e::R)):((A++(y',e')::Bw).map (·.2)).Perm (e'::R):=by
 rw[ai,aj]at h⊢;exact bP.trans (List.Perm.cons e' (bP.symm.trans h).cons_inv)
def Iy{B:Nq}{w0 w:Wq}{b mb:Nat}{root next:Int}{A Bw:List (NW×En)}{p:NW×En}{X:List Asn}(H:Hp B w0 w (xU b mb root next (A++p::Bw)++X)):
  Hp B w0 w (yl p++(.blk b (yX mb root next) 119::.Z6 mb .i64 (xe (A++p::Bw))::(Bl (A++Bw)++X))):=by
 have:=H.perm ((Jr b mb root next A p Bw).append_right X);rw[ax]at this;exact this
def KU{B:Nq}{w0 w:Wq}{b mb:Nat}{root next:Int}{A Bw:List (NW×En)}{y y':NW}{e e':En}{X:List Asn}(c:y'.b=y.b)(d:e'.id=e.id)
  (H:Hp B w0 w (yl (y',e')++(.blk b (yX mb root next) 119::.Z6 mb .i64 (xe (A++(y,e)::Bw))::(Bl (A++Bw)++X)))):Hp B w0 w (xU b mb root next (A++(y',e')::Bw)++X):=by
 have a:=(Jr b mb root next A (y',e') Bw).append_right X;rw[LP c d,ax]at a;exact H.perm a.symm
section
variable{b mb:Nat}{root next:Int}{F:Fo}{ws:List (NW×En)}{w:World}
def uk(N:(ids F).Nodup)(t:Dv F ws)(Y:Std w (xU b mb root next ws)){i q:Int}{x:NX}{k:Fo}(u:AZ F 0 i=some (q,x,k)){r:En}{R:List En}(Z:r.id=q)(m:i∈r.kids)(hE:(xO F 0).Perm (⟨i,q,x,xJ k⟩::(xO k i++r::R)))(ab:r.kids.length<=100000):
  CP 150 #[pq b,I i] w λe w'=>∃ws',e=Ej (.tuple #[])/\(ws'.map (·.2)).Perm (⟨i,q,x,xJ k⟩::(xO k i++ {r with kids:=r.kids.erase i}::R))/\xe ws'=xe ws/\Hp (xq (xU b mb root next ws)) w w' (xU b mb root next ws'):=by
 apply Jav;have H:Hp (xq (xU b mb root next ws)) w w.drew (xU b mb root next ws):=(Hp.Cb Y).drew;generalize xq (xU b mb root next ws)=BB at*
 have d:(ws.map (·.2)).Perm (r::(⟨i,q,x,xJ k⟩::(xO k i++R))):=by
  refine(t.trans hE).trans ?_;have:(⟨i,q,x,xJ k⟩::(xO k i++r::R):List En)=(⟨i,q,x,xJ k⟩::xO k i)++r::R:=rfl;rw[this];exact bP
 obtain⟨A1,z,B1,f,B⟩:=t.at_ N u;obtain⟨A,y,n,c⟩:=YF d;have g:xZ (xe ws) q=some (pq y.b):=(FV (t.apart N)).2 (aU.2 ⟨(y,r),by rw[c];simp,by rw[Z]⟩);have m1:Asn.blk z.b (yL z ⟨i,q,x,xJ k⟩) 139∈xU b mb root next ws:=Ea (p:=(z,⟨i,q,x,xJ k⟩)) (by rw[f];simp) (.head _)
 have C:∀a∈yl (y,r),a∈xU b mb root next ws:=λa h=>Ea (by rw[c];simp) h
 refine AA rfl ⟨some mb,H.ld EQ4 nMN (.head _) rfl,AA rfl ⟨some mb,H.ld EQ4 nMN (.head _) rfl,_,H.lkI Ei EQ4 (.tail _ (.head _)) (by rw[B];rfl),AA rfl ⟨q,by rw[add_lit];exact H.ld EQ4 xK m1 rfl,_,H.lkI Ei EQ4 (.tail _ (.head _)) (by rw[g];rfl),?_⟩⟩⟩;have j:=H.xh (C _ (t2 (.head _)));have ad:(AO r.kids).length=r.kids.length:=XG _;refine AA rfl ⟨_,_,_,by rw[add_lit];exact H.ld EQ4 nSI (C _ (.head _)) rfl,?_⟩;refine AC (lIdxI_spec y.ka r.kids.length y.kc r.kids i w.drew j.cells rfl (by simp only[maxLen];omega)) ?_;rintro _ w2 ⟨rfl,rfl⟩;rw[if_pos m];have D:r.kids.idxOf i<r.kids.length:=List.idxOf_lt_length_of_mem m;refine⟨_,rfl,AA rfl ⟨_,_,_,by rw[add_lit];exact H.ld (o:=7) (cs:=yL y r) EQ4 nSI (C _ (.head _)) rfl,DT.2 om,?_⟩⟩;rw[c]at H;have H1:=Iy (X:=[]) (by rw[aX];exact H)
 have O:=H1.perm (M:=.own 3 1 y.ka r.kids.length y.kc (AO r.kids)::.blk y.b (yL y r) 139::.own 142 2 y.aa r.x.FP.length y.ac (atC r.x.FP)::(.blk b (yX mb root next) 119::.Z6 mb .i64 (xe (A++(y,r)::n))::(Bl (A++n)++[]))) (by
  refine AL λff gg G J g K=>?_;simp only[yl,g,J,G];omega)
 refine AC (lDelI_spec y.ka r.kids.length y.kc (r.kids.idxOf i) (AO r.kids) _ (O.xh (.head _)) (NE _) D) ?_;rintro _ w3 ⟨rfl,s⟩;replace s:=O.Bg s
 have L:(AO r.kids).take (r.kids.idxOf i*1)++(AO r.kids).drop ((r.kids.idxOf i+1)*1)=AO (r.kids.erase i):=by
  rw[WL _ _ m,bV,bV];simp[AO,iE,jd]
 have l:r.kids.length-1=(r.kids.erase i).length:=by rw[kW m]
 rw[L]at s;refine⟨_,_,_,rfl,AA rfl ?_⟩;rw[add_lit];refine Hp.st (o:=7) s.AX EQ4 nSI rfl rfl (by simp[yL]) (cs':=yL y {r with kids:=r.kids.erase i}) (by rw[l];rfl) λw4 T=>?_;refine⟨A++(y,{r with kids:=r.kids.erase i})::n,rfl,?_,?_,?_⟩
 ·rw[c]at d;refine(NL (y':=y) d).trans ?_;have:(⟨i,q,x,xJ k⟩::(xO k i++ {r with kids:=r.kids.erase i}::R):List En)=(⟨i,q,x,xJ k⟩::xO k i)++ {r with kids:=r.kids.erase i}::R:=rfl;rw[this];exact(bP (l₁:=(⟨i,q,x,xJ k⟩:En)::xO k i)).symm
 ·rw[c];exact LP rfl rfl
 rw[l]at T
 have U:=KU (b:=b) (mb:=mb) (root:=root) (next:=next) (A:=A) (Bw:=n) (y:=y) (e:=r) (y':=y) (e':= {r with kids:=r.kids.erase i}) (X:=[]) rfl rfl (T.perm (by
  refine AL λff gg G J g K=>?_;simp only[yl,g,J,G];omega))
 rw[aX]at U;exact U
end
end
noncomputable section
open Go Go.Vc Go.Nod
def IX{F:Fo}{T:Tr}(G:Am F T){i q:Int}{x:NX}{k:Fo}{A B:List Rw}{v:Int}(a:AZ F 0 i=some (q,x,k))(m:Mid F 0 i 0 q x k A B v):i=Af F↔A.length=0:=by
 rw[G.KFc m a];rcases G.one with e|⟨j,y,b,e,_⟩
 ·rw[e]at a;cases a
 rw[e,Af,xJ,xJ,aW]
def GZ(ws:List (NW×En))(zs:lI):List (NW×En):=ws.filter λp=> !decide (p.2.id∈zs)
def leftW_nil(a:List (NW×En)):GZ a []=a:=by simp[GZ]
def leftW_snoc(a:List (NW×En))(b:lI)(z:Int):xe (GZ a (b++[z]))=KDi (xe (GZ a b)) z:=by
 have e:GZ a (b++[z])=(GZ a b).filter λp=> !decide (p.2.id=z):=by
  rw[GZ,GZ,pM];congr 1;funext p;rw[iD];simp;exact⟨λh=>⟨h.2,h.1⟩,λh=>⟨h.2,h.1⟩⟩
 rw[e,xe,xe,KDi,List.filter_map];rfl
def leftW_apart{a:List (NW×En)}(h:FN (xe a))(b:lI):FN (xe (GZ a b)):=by
 have:(xe (GZ a b)).Sublist (xe a):=by
  rw[xe,xe];exact kV.map _
 exact h.sublist (this.map _)
def leftW_nods(a:List (NW×En))(b:lI):∃X,(Bl a).Perm (Bl (GZ a b)++X):=by
 refine⟨Bl (a.filter λp=> !(!decide (p.2.id∈b))),?_⟩;rw[<- PH];exact(List.filter_append_perm (λp:NW×En=> !decide (p.2.id∈b)) a).symm.flatMap_right _
theorem gDelete_spec{f:Nq}{b:Nat}{T:Tr}{w:Wq}(h:(AV f b T).ok w)(id:Int):
  CP 92 #[pq b,I id] w λe w'=>∃f',e=Ej (I (T.delete id).2)/\Hp f w w' [AV f' b (T.delete id).1]:=by
 apply Jax;have H0:Hp f w w [AV f b T]:=BU h;obtain⟨M,⟨F,l,n,ws,hw,rfl⟩,H,hf⟩:=H0.unpack;have same:∀(c:Int),T.delete id=(T,c)->∃f',Ending.returned (I c)=Ej (I (T.delete id).2)/\Hp f w w [AV f' b (T.delete id).1]:=λc e=>⟨f,by rw[e],by rw[e];exact H0⟩;refine AA rfl ⟨some n,H.lo nMN,?_⟩;cases i:AZ F 0 id with
 |none=>
  have p:=hw.none i;exact⟨none,false,H.Np Ei EQ4 m1 (by rw[p];rfl) (by rw[p];rfl),Cc (same _ (by rw[Tr.delete,(l.noRow i).2]))⟩
 |some z=>
 obtain⟨q,x,k⟩:=z;obtain⟨Aw,y,Bw,bc,p⟩:=hw.at_ l.nodup i;obtain⟨A,B,v,N,bd,al,hv,bh⟩:=l.rows i;refine⟨some ⟨y.b,0,none⟩,true,H.Np Ei EQ4 m1 (by rw[p];rfl) (by rw[p];rfl),Au (AA rfl ⟨Af F,by rw[add_lit];exact H.lo xK,AB (λh1=>same _ ?_) (λh1=>?_)⟩)⟩
 ·rw[Tr.delete,al];dsimp only;rw[if_pos ((IX l i N).1 h1)]
 have am:¬A.length=0:=λe=>h1 ((IX l i N).2 e);have t:id∉xJ F:=λhh=>am ((l.KFc N i).2 hh)
 have Y:T.delete id=(⟨flat (yJ id F) 0,T.next⟩,0):=by
  rw[Tr.delete,al];dsimp only;rw[if_neg am,<- N.KFP,l.fl]
 rcases P9 F 0 id l.nodup i with⟨ht,_⟩|⟨_,r,R,aq,ar,hE,aa⟩
 ·exact(t ht).elim
 have bi:=Bf l;have bb:=l.len;have bj:r.kids.length<=(ids F).length:=Ik F 0 r (hE.mem_iff.2 (.tail _ (aI _ (.head _))));refine AC (uk l.nodup hw H.KCE i aq ar hE om) ?_;rintro _ w1 ⟨g,rfl,Z,hM,H1⟩;have H2:=H.KEX H1;rw[aX]at H2;refine⟨rfl,λlb w2 av=>?_⟩;have H3:=H2.nw av;refine AC (IE b id 0 w2) ?_;rintro _ w3 ⟨f0,f1,f2,rfl,Hb⟩;have H4:=H3.ext Hb;obtain⟨K,ab⟩:∃K,K=app (yJ id F) (.cons id x k .nil):=⟨_,rfl⟩
 have C:(ids K).Perm (ids F):=by
  rw[ab,NI,N.YI,N.ids,ids,ids,aX];refine List.Perm.trans ?_ (bP (l₁:=A.map (·.id))).symm;refine(dU).trans (List.Perm.cons _ ?_);rw[<- ax];have:(Nod.ids k++(A.map (·.id)++B.map (·.id))).Perm (A.map (·.id)++(Nod.ids k++B.map (·.id))):=gm _ _ _;rw[ax];exact this
 have G:(ids K).Nodup:=C.nodup_iff.2 l.nodup
 have hV:PN K g:=by
  refine PN.of G ?_;have h7:=Z.map Nh;rw[dB]at h7;refine h7.trans ?_;rw[ab,VS,ai,xO,xO,aX];have h8:=aa.map Nh;have e1:((⟨id,q,x,xJ k⟩::(xO k id++ {r with kids:=r.kids.erase id}::R):List En).map Nh)=((⟨id,0,x,xJ k⟩::xO k id:List En).map Nh)++(({r with kids:=r.kids.erase id}::R:List En).map Nh):=by simp[Nh]
  rw[e1];exact(h8.symm.append_left _).trans dU
 have an:id∉ids (yJ id F):=λhh=>((N.VV l.nodup id).1 hh).2.1 rfl
 have ac:Ba K id=flat (.cons id x k .nil) 0:=by
  rw[Ba,ab,V3 _ _ _ _ an,AZ,if_pos rfl]
 obtain⟨d,ae⟩:∃d,d=(Ba K id).map (·.id):=⟨_,rfl⟩;have J:d=id::ids k:=by rw[ae,ac,BK,ids,ids,aX]
 have aw:d.length=(Ba K id).length:=by rw[ae,aQ]
 have bk:=QZ G id;have a0:(ids K).length<=1000:=by rw[C.length_eq];omega
 refine⟨_,rfl,137,#[],_,rfl,⟨_,_,Tryz.func137,rfl⟩,?_⟩
 refine JJ (B:=f) (w0:=w) b n (Af F) T.next g K G hV a0 id f0 f1 f2
  (λj L=>∃a c,L=.blk lb [.slice a j c] 59::.own 3 1 a j c (AO (d.take j))::xU b n (Af F) T.next g) (λ_=>False)
  (.blk lb [.slice none 0 0] 59::.own 3 1 none 0 0 []::xU b n (Af F) T.next g) [.blk f2 [I 0] 3,.blk f1 [I id] 3,.blk f0 [pq b] 49] w3
  ?_ m2 m1 (.head _) ⟨none,0,rfl⟩ ?_ ?_ ?_ (λ_ _ _ h=>h.elim)
 ·rintro j _ ⟨a,c,rfl⟩ u hu;exact .tail _ (.tail _ hu)
 ·have H5:=H4.yS 3 1;refine H5.perm ?_;refine AL λff gg h0 hc p af=>?_;simp only[p,hc,h0];omega
 ·rintro j r0 ao w4 T0 T1 _ a1 kn kr kx ⟨a,c,rfl⟩ H5 hb a2 _;refine hb _ λw5 H6=>?_;have ag:=(aA.1 ao).1;refine⟨a,j,c,H6.lo nSI,?_⟩;intro b2 w6 a3;have H7:=H6.nw a3;refine Hp.app Kz om H7.BF EQ4 (Blk.src LH (H7.blk (.head _)) rfl rfl) (by simp only[maxLen];omega) om ?_;intro a' c' w7 H8;refine Hp.s1 H8.BF nSI (cs':=[.slice a' (j+1) c']) λw8 H9=>?_;refine a2 w8 _ ⟨a',c',rfl⟩ ?_;have O:d[j]? =some r0.id:=by rw[ae,au,ao];rfl
  have e:AO (d.take (j+1))=AO (d.take j)++[I r0.id]:=by
   rw[aG (aA.1 O).1,(aA.1 O).2];simp[AO]
  rw[e];exact H9.KDJ
 rintro D w4 _ ⟨a,c,rfl⟩ H5;rw[<- aw,bJ]at H5;refine⟨a,d.length,c,H5.lo nSI,?_⟩
 have H6:Hp f w w4 (.Z6 n .i64 (xe (GZ g (d.take 0)))::.own 3 1 a d.length c (AO d)::dA D::.blk b (yX n (Af F) T.next) 119::Bl g):=by
  rw[fD,leftW_nil];refine Hp.BM (R:=[.blk lb [.slice a d.length c] 59,.blk f2 [I 0] 3,.blk f1 [I id] 3,.blk f0 [pq b] 49]) (H5.perm ?_);refine AL λff gg h0 hc p af=>?_;simp only[xU,p,hc,h0];omega
 have a4:FN (xe g):=by rw[hM];exact hw.apart l.nodup
 refine xI.mk (λm s w'=>∃j:Nat,m=d.length-j/\j<=d.length/\s=(j:Int)/\Hp f w w' (.Z6 n .i64 (xe (GZ g (d.take j)))::.own 3 1 a d.length c (AO d)::dA D::.blk b (yX n (Af F) T.next) 119::Bl g)) d.length ⟨0,rfl,om,rfl,H6⟩ ?_;rintro m s w5 nx ⟨j,rfl,hj,rfl,H7⟩ a5;refine AB (λh2=>?_) (λh2=>?_)
 ·have ag:j<d.length:=om;have O:(AO d)[j]? =some (I d[j]):=by simp[AO,ag]
  obtain⟨ad,a6,a7⟩:=H7.ldO (w':=w5) (o:=j) EQ4 xK m1 O;refine AA a6 ⟨⟨om,h2⟩,d[j],by rw[aN,bV];exact a7,AA rfl ⟨some n,H7.lo nMN,?_⟩⟩;refine Hp.delI Ei rfl H7 EQ4 λw6 H8=>⟨iR,a5 (d.length-(j+1)) _ _ om ⟨j+1,rfl,om,rfl,?_⟩⟩;rw[VB (leftW_apart a4 _),<- leftW_snoc,<- aG ag]at H8;exact H8
 have a8:j=d.length:=om;subst a8;rw[bJ]at H7;have H8:=H7.BF;refine Hp.shut H8 λw6 H9=>?_;obtain⟨X,hX⟩:=leftW_nods g d
 have ap:Hp f w w6 (xU b n (Af F) T.next (GZ g d)++[]):=by
  rw[aX];refine Hp.BM (R:=.own 3 1 a d.length c (AO d)::X) (H9.perm ?_);refine AL λff gg h0 hc p af=>?_;have:=af _ _ hX;simp only[xU,p,hc,h0]at this⊢;omega
 have ah:Af F=Af (yJ id F):=by
  rcases l.one with e|⟨j,yy,kk,e,_⟩
  ·rw[e]at i;cases i
  rw[e]at t⊢;rw[xJ,xJ,aW]at t;rw[yJ,if_neg (λe=>t e.symm)];rfl
 rw[ah]at ap
 have a9:Dv (yJ id F) (GZ g d):=by
  have e1:(GZ g d).map (·.2)=(g.map (·.2)).filter λe=> !decide (e.id∈d):=by rw[GZ,List.filter_map];rfl
  have h7:=Z.filter λe=> !decide (e.id∈d);show((GZ g d).map (·.2)).Perm _;rw[e1];refine h7.trans (List.Perm.trans (List.Perm.of_eq ?_) aa.symm)
  have U:∀e∈({r with kids:=r.kids.erase id}::R:List En),e.id∈ids (yJ id F):=λe he=>by
   rw[<- Ce (yJ id F) 0];exact aU.2 ⟨e,aa.mem_iff.2 he,rfl⟩
  rw[dL,if_neg (by rw[J];simp),iC]
  have h8:(xO k id).filter (λe=> !decide (e.id∈d))=[]:=by
   rw[nZ];intro e he;have:e.id∈ids k:=by rw[<- Ce k id];exact aU.2 ⟨e,he,rfl⟩
   rw[J];simp[this]
  rw[h8,aO,gV];intro e he;have h9:=(N.VV l.nodup e.id).1 (U e he);rw[J];simp[h9.2.1,h9.2.2]
 have ak:=l.cut i N t;obtain⟨f',ba⟩:=ap.D5 (Q:=Md b ⟨flat (yJ id F) 0,T.next⟩) ⟨_,ak,n,_,a9,rfl⟩;exact⟨f',by rw[Y],by rw[Y];exact ba⟩
end
end Go.Proofs.YtljenkbpnioipaaGreat
namespace Go.Nod
theorem Va:∀(F:Fo)(p i j:Int){q t:Int}{x u:NX}{k f:Fo},(ids F).Nodup->AZ F p i=some (q,x,k)->AZ F p j=some (t,u,f)->j≠i->j∉ids k->AZ (yJ i F) p j=some (t,u,yJ i f)
 |.nil,p,i,j,q,t,x,u,k,f,_,h,_,_,_=>by cases h
 |.cons a y kk s,p,i,j,q,t,x,u,k,f,hn,h,hj,hji,hjk=>by
  rw[ids,bH,bG]at hn;obtain⟨w,g,m,z⟩:=hn;rw[AZ]at h;rw[yJ];split at h
  ·rename_i e;cases h;rw[if_pos e];subst e;rw[AZ,if_neg (λe=>hji e.symm)]at hj
   have H:AZ kk a j=none:=by
    cases h9:AZ kk a j with
    |none=>rfl
    |some J=>exact(hjk ((BI kk a j).1 (by rw[h9];simp))).elim
   rw[H]at hj;dsimp only at hj;have C:j∈ids s:=(BI s p j).1 (by rw[hj];simp)
   have c:a∉ids f:=λl=>by
    obtain⟨A,B,v,b⟩:=CV s p j 0 m hj;have:a∈ids s:=by rw[b.ids];simp[l]
    exact w (aI _ this)
   rw[hj,GL f c]
  rename_i e;rw[if_neg e];rw[AZ]at hj⊢;split at hj
  ·rename_i D;cases hj;rw[if_pos D]
  rename_i D;rw[if_neg D];split at h
  ·rename_i M o;cases h;have K:i∈ids kk:=(BI kk a i).1 (by rw[o];simp);split at hj
   ·rename_i L d;cases hj;rw[Va kk a i j g o d hji hjk]
   rename_i d
   have G:AZ (yJ i kk) a j=none:=by
    cases h9:AZ (yJ i kk) a j with
    |none=>rfl
    |some J=>
     obtain⟨A,B,v,b⟩:=CV kk a i 0 g o;have:=(b.VV g j).1 ((BI (yJ i kk) a j).1 (by rw[h9];simp));exact((BI kk a j).2 this.1 d).elim
   have C:j∈ids s:=(BI s p j).1 (by rw[hj];simp);have r:i∉ids s:=λl=>z i K i l rfl
   have c:i∉ids f:=λl=>by
    obtain⟨A,B,v,b⟩:=CV s p j 0 m hj;exact r (by rw[b.ids];simp[l])
   rw[G,GL s r,hj,GL f c]
  rename_i o;have n:i∉ids kk:=λl=>(BI kk a i).2 l o;split at hj
  ·rename_i L d;cases hj
   have c:i∉ids f:=λl=>by
    obtain⟨A,B,v,b⟩:=CV kk a j 0 g d;exact n (by rw[b.ids];simp[l])
   rw[GL kk n,d,GL f c]
  rename_i d;rw[GL kk n,d];exact Va s p i j m h hj hji hjk
theorem ZG:∀(F:Fo)(p i:Int),(ids F).Nodup->i∈xJ F->∃x k,AZ F p i=some (p,x,k)
 |.cons j y k s,p,i,hn,h=>by
  rw[ids,bH,bG]at hn;rw[xJ]at h;rw[AZ];by_cases e:j=i
  ·exact⟨y,k,by rw[if_pos e]⟩
  have a:=(aP.1 h).resolve_left λb=>e b.symm
  have c:AZ k j i=none:=by
   cases h9:AZ k j i with
   |none=>rfl
   |some d=>exact(hn.2.2.2 i ((BI k j i).1 (by rw[h9];simp)) i (TJ s i a) rfl).elim
  rw[if_neg e,c];exact ZG s p i hn.2.2.1 a
def kid_par{F:Fo}{p i j q f:Int}{x g:NX}{k b:Fo}(c:(ids F).Nodup)(l:AZ F p i=some (q,x,k))(e:AZ F p j=some (f,g,b))(h:i∈xJ b):q=j:=by
 obtain⟨A,B,v,a⟩:=CV F p j 0 c e
 have d:(ids b).Nodup:=by
  have:=c;rw[a.ids,bG,bH,bG]at this;exact this.2.1.2.1
 obtain⟨n,o,m⟩:=ZG b j i d h;have:=look_in F p j i c e m;rw[l]at this;cases this;rfl
def seg_mem{A S B:List Rw}{p:Nat}{r:Rw}(a:((A++(S++B)).map (·.id)).Nodup)(h:(A++(S++B))[p]? =some r):(A.length<=p/\p<A.length+S.length)↔r.id∈S.map (·.id):=by
 constructor
 ·rintro⟨d,g⟩;rw[bg d,bQ om]at h;exact aU.2 ⟨r,aC h,rfl⟩
 intro b;rw[ai,ai,bG,bG]at a;obtain⟨_,⟨_,_,e⟩,f⟩:=a;refine⟨qL.1 λc=>?_,Nat.not_le.1 λc=>?_⟩
 ·rw[bQ c]at h;exact f r.id (aU.2 ⟨r,aC h,rfl⟩) r.id (aS _ b) rfl
 rw[bg om,bg om]at h;exact e r.id b r.id (aU.2 ⟨r,aC h,rfl⟩) rfl
def ED(d:Int)(l:List Rw):Int:=l.foldl (λd r=>max d r.level) d
def topLev_snoc(l:List Rw)(d:Int)(r:Rw):ED d (l++[r])=max (ED d l) r.level:=by simp[ED]
theorem QQ:∀(l:List Rw)(d m:Int),m<=ED d l↔m<=d\/∃r∈l,m<=r.level
 | [],d,m=>by simp[ED]
 |x::l,d,m=>by
  have a:=QQ l (max d x.level) m;have e:ED d (x::l)=ED (max d x.level) l:=rfl;rw[e,a];simp;constructor
  ·rintro(h|h)
   ·by_cases b:m<=d
    ·exact .inl b
    exact .inr (.inl om)
   exact .inr (.inr h)
  rintro(h|h|h)
  ·exact .inl om
  ·exact .inl om
  exact .inr h
def flat_up(F:Fo)(d:Int):flat F d=(flat F 0).map λr=> {r with level:=r.level+d}:=by
 have:=Gj F 0 (-d);rw[show(0:Int)- -d=d by omega]at this;rw[<- this,Ho];refine je λr _=>?_;rw[show r.level- -d=r.level+d by omega]
def YZ(i:Int)(x:NX)(k s:Fo)(d m:Int):(∃r∈flat (.cons i x k s) d,m<=r.level)↔m<=d+ED 0 (flat (.cons i x k s) 0):=by
 have h:=QQ (flat (.cons i x k s) 0) 0 (m-d);rw[flat_up _ d];constructor
 ·rintro⟨r,e,c⟩;obtain⟨a,b,rfl⟩:=aU.1 e;dsimp only at c;have:=h.2 (.inr ⟨a,b,om⟩);omega
 intro c;rcases h.1 om with f|⟨a,b,f⟩
 ·exact⟨_,aU.2 ⟨⟨i,0,x⟩,by rw[flat];exact .head _,rfl⟩,by dsimp only;omega⟩
 exact⟨_,aU.2 ⟨a,b,rfl⟩,by dsimp only;omega⟩
end Go.Nod
namespace Go.Proofs.YtljenkbpnioipaaGreat
noncomputable section
open Go Go.Vc Go.Nod
def KEl:Scl PP 41:=BQ (by kernel_rfl)
def Zy{f:Nq}{b mb:Nat}{F:Fo}{T:Tr}{a:List (NW×En)}{w w':Wq}{X:List Asn}(c:Am F T)(d:Dv F a)(H:Hp f w w' (xU b mb (Af F) T.next a++X)):∃e,Hp f w w' [AV e b T]:=by
 have g:Hp f w w' (xU b mb (Af F) T.next a++[]):=by rw[aX];exact H.BM
 exact g.D5 ⟨F,c,mb,a,d,rfl⟩
theorem Xi{F:Fo}{a:List (NW×En)}(f:(ids F).Nodup)(d:Dv F a)(i:Int):∃e:OA,(xZ (xe a) i).getD (.pointer none)=.pointer e/\((xZ (xe a) i).isSome=true↔AZ F 0 i≠none)/\
  ∀{q:Int}{x:NX}{k:Fo},AZ F 0 i=some (q,x,k)->∃A y B,a=A++(y,⟨i,q,x,xJ k⟩)::B/\e=some ⟨y.b,0,none⟩/\xZ (xe a) i=some (pq y.b):=by
 cases hl:AZ F 0 i with
 |none=>
  have:=d.none hl;exact⟨none,by rw[this];rfl,by rw[this];simp,λh=>by cases h⟩
 |some z=>
  obtain⟨q,x,k⟩:=z;obtain⟨A,y,B,g,c⟩:=d.at_ f hl;refine⟨some ⟨y.b,0,none⟩,by rw[c];rfl,by rw[c];simp,λh=>?_⟩;cases h;exact⟨A,y,B,g,rfl,c⟩
def ents_same{F:Fo}(f:(ids F).Nodup){a c:En}(g:a∈xO F 0)(b:c∈xO F 0)(e:a.id=c.id):a=c:=by
 have h:((xO F 0).map (·.id)).Nodup:=by rw[Ce];exact f
 obtain⟨A,B,d⟩:=gI g;rw[d,ai,aj,bG,bH]at h;rw[d]at b;rcases aT.1 b with b|b
 ·exact(h.2.2 _ (aU.2 ⟨c,b,rfl⟩) _ (.head _) e.symm).elim
 rcases aP.1 b with b|b
 ·exact b.symm
 exact(h.2.1.1 (aU.2 ⟨c,b,e.symm⟩)).elim
def wF{T:Tr}{id to at_:Int}(h:atR T.L id=none\/atR T.L to=none):T.move id to at_=(T,60):=by
 unfold Tr.move;split
 ·rename_i a b;rcases h with h|h
  ·rw[h]at a;cases a
  rw[h]at b;cases b
 rfl
theorem gMove_spec{f:Nq}{b:Nat}{T:Tr}{w:Wq}(h:(AV f b T).ok w)(id to at_:Int):
  CP 93 #[pq b,I id,I to,I at_] w λe w'=>∃f',e=Ej (I (T.move id to at_).2)/\Hp f w w' [AV f' b (T.move id to at_).1]:=by
 apply Jba;have H0:Hp f w w [AV f b T]:=BU h;obtain⟨M,⟨F,l,t,ws,hw,rfl⟩,H,hf⟩:=H0.unpack;rw[aX]at H;have N:=l.nodup;intro pb w1 cz;have H1:=H.nw cz;intro O w2 c1;have H2:=H1.nw c1
 have bb:∀{T':Tr}{F':Fo}{U:List (NW×En)}{X:List Asn}{w':Wq}{c c0:Int}{G:WP},Am F' T'->Dv F' U->T.move id to at_=(T',c)->Hp f w w' (.blk O [I c0] 41::(X++xU b t (Af F') T'.next U))->
   (∀w3,Hp f w w3 (.blk O [I c] 41::(X++xU b t (Af F') T'.next U))->G w3)->∃w3,St PP 41 w' ⟨O,0,none⟩ (I c) w3/\G w3:=λ_ _ _ H3 kk=>Hp.st H3 EQ4 KEl rfl rfl (by simp) rfl kk
 have ak:∀{T':Tr}{F':Fo}{U:List (NW×En)}{X:List Asn}{w':Wq}{c:Int},Am F' T'->Dv F' U->T.move id to at_=(T',c)->Hp f w w' (.blk O [I c] 41::(X++xU b t (Af F') T'.next U))->
   ∃i,Ld PP 41 w' ⟨O,0,none⟩ (I i)/\∃f',Ending.returned (I i)=Ej (I (T.move id to at_).2)/\Hp f w w' [AV f' b (T.move id to at_).1]:=λ{T' F' U X w' c} c2 c3 e H3=>by
  refine⟨c,H3.lo KEl,?_⟩;obtain⟨f',H4⟩:=Zy c2 c3 (H3.drop.perm dU);exact⟨f',by rw[e],by rw[e];exact H4⟩
 obtain⟨pv,c4,bv,c5⟩:=Xi N hw id;obtain⟨qv,c6,bw,c7⟩:=Xi N hw to;have bx:∀{W:Wq},Eqw w2 W->Ld PP 117 W ⟨b,0,none⟩ (.map (some t)):=λhe=>H2.ld he nMN m2 rfl;refine AA rfl ⟨_,bx EQ4,pv,(xZ (xe ws) id).isSome,H2.Np Ei EQ4 m3 c4 rfl,AA rfl ⟨_,bx EQ4,to,H2.lo xK,qv,(xZ (xe ws) to).isSome,H2.Np Ei EQ4 m3 c6 rfl,?_⟩⟩;refine xM.mk (λs w'=>s=dec (AZ F 0 id=none\/AZ F 0 to=none)/\Hp f w w' (.blk O [I 0] 41::([.blk pb [I to] 3]++xU b t (Af F) T.next ws))) ?_ ?_;rotate_left
 ·intro J hJ;refine Es (λh1=>hJ _ _ ⟨DV (.inl ?_),H2.drew⟩) (λh1=>hJ _ _ ⟨?_,H2.drew⟩)
  ·exact az λh2=>by rw[bv.2 h2]at h1;cases h1
  have h2:=bv.1 h1;cases hq:(xZ (xe ws) to).isSome with
  |true=>exact Bz λh3=>h3.elim h2 (bw.1 hq)
  |false=>exact DV (.inr (az λh3=>by rw[bw.2 h3]at hq;cases hq))
 rintro _ w3 ⟨rfl,H3⟩;refine KAl (λh1=>bb l hw ?_ H3 λw4 H4=>ak l hw ?_ H4) (λh1=>?_)
 ·exact wF (h1.imp (λh=>(l.noRow h).2) λh=>(l.noRow h).2)
 ·exact wF (h1.imp (λh=>(l.noRow h).2) λh=>(l.noRow h).2)
 obtain⟨⟨q,x,k⟩,p⟩:∃z,AZ F 0 id=some z:=dw.1 λe=>h1 (.inl e);obtain⟨⟨q2,Z,k2⟩,K⟩:∃z,AZ F 0 to=some z:=dw.1 λe=>h1 (.inr e);obtain⟨Aw,y,Bw,c8,rfl,c9⟩:=c5 p;obtain⟨eo,y2,ep,b0,rfl,b1⟩:=c7 K;obtain⟨A,B,v,hm,eq,da,hv,er⟩:=l.rows p;obtain⟨A2,B2,v2,am,eh,b2,es,ei⟩:=l.rows K;have my:∀a∈yl (y,(⟨id,q,x,xJ k⟩:En)),a∈xU b t (Af F) T.next ws:=λa ha=>Ea (by rw[c8];simp) ha;have b3:∀a∈yl (y2,(⟨to,q2,Z,xJ k2⟩:En)),a∈xU b t (Af F) T.next ws:=λa ha=>Ea (by rw[b0];simp) ha;have mt:∀{a:Asn},a∈xU b t (Af F) T.next ws->a∈(Asn.blk O [I 0] 41::([.blk pb [I to] 3]++xU b t (Af F) T.next ws)):=λh=>.tail _ (.tail _ h)
 have g:T.move id to at_=if A.length=0 then((T,62):Tr×Int)else if Z.kind≠1 then(T,68)else if A.length<=A2.length/\A2.length<yg T.L A.length then(T,61)
  else match EI (BX T.L A.length) to with
   |none=>(T,60)
   |some p'=>
    if at_<0\/((EK (BX T.L A.length) p').length:Int)<at_ then(T,69)
    else if∃x∈Ho (KBS T.L A.length) (v-v2-1),40<=x.level then(T,65)
    else(⟨Ky (BX T.L A.length) (IA (BX T.L A.length) p' at_.toNat) (Ho (KBS T.L A.length) (v-v2-1)),T.next⟩,0):=by
  simp only[Tr.move,da,b2];rfl
 refine AA rfl ⟨Af F,by rw[add_lit];exact H3.ld EQ4 xK (mt (.head _)) rfl,AB (λh2=>?_) (λh2=>?_)⟩
 ·have hA:=(IX l p hm).1 h2;rw[if_pos hA]at g;exact bb l hw g H3 λw4 H4=>ak l hw g H4
 have b4:¬A.length=0:=λe=>h2 ((IX l p hm).2 e);rw[if_neg b4]at g;refine AA rfl ⟨Z.kind,by rw[add_lit];exact H3.ld EQ4 xK (mt (b3 _ (.head _))) rfl,AQ (λh3=>?_) (λh3=>?_)⟩
 ·rw[if_pos h3]at g;exact bb l hw g H3 λw4 H4=>ak l hw g H4
 have dc:¬Z.kind≠1:=λh=>h h3;rw[if_neg dc]at g;have bc:id∉xJ F:=λhh=>b4 ((l.KFc hm p).2 hh);have dd:=Bf l;have b6:=l.len;obtain⟨rows,ad⟩:∃rows,rows=Ba F id:=⟨_,rfl⟩;have Y:rows=flat (.cons id x k .nil) 0:=by rw[ad,Ba,p]
 have a6:rows.map (·.id)=id::ids k:=by rw[Y,BK,ids,ids,aX]
 have a7:(A.length<=A2.length/\A2.length<yg T.L A.length)↔to∈rows.map (·.id):=by
  have e1:T.L=A++(flat (.cons id x k .nil) v++B):=by rw[<- l.fl,hm.fl,flat,flat,aX,aH]
  have de:((A++(flat (.cons id x k .nil) v++B)).map (·.id)).Nodup:=by rw[<- e1,<- l.fl,BK];exact N
  have b7:(A++(flat (.cons id x k .nil) v++B))[A2.length]? =some ⟨to,v2,Z⟩:=by rw[<- e1,<- l.fl];exact am.here
  have b8:yg T.L A.length=A.length+(flat (.cons id x k .nil) v).length:=by
   rw[<- l.fl,hm.KEi,BZ,ids,ids,aX,aK];omega
  rw[b8,seg_mem de b7,BK,Y,BK]
 intro db w4 dg;have H4:=H3.nw dg;refine Hp.s1 H4 xK (cs':=[I 0]) λw5 H5=>?_;refine AC (IE b id 0 w5) ?_;rintro _ w6 ⟨f0,f1,f2,rfl,Hb⟩;replace H5:=H5.ext Hb;have et:=QZ N id;refine⟨_,rfl,137,#[],_,rfl,⟨_,_,Tryz.func137,rfl⟩,?_⟩
 refine JJ (B:=f) (w0:=w) b t (Af F) T.next ws F N (hw.v N) om id f0 f1 f2
  (λj L=>(∀r∈rows.take j,r.id≠to)/\L=.blk db [I (ED 0 (rows.take j))] 3::.blk O [I 0] 41::.blk pb [I to] 3::xU b t (Af F) T.next ws)
  (λL=>to∈rows.map (·.id)/\∃d,L=.blk db [I d] 3::.blk O [I 61] 41::.blk pb [I to] 3::xU b t (Af F) T.next ws)
  (.blk db [I 0] 3::.blk O [I 0] 41::.blk pb [I to] 3::xU b t (Af F) T.next ws) [.blk f2 [I 0] 3,.blk f1 [I id] 3,.blk f0 [pq b] 49] w6
  ?_ m2 m1 (.head _) ⟨by simp,rfl⟩ ?_ ?_ ?_ ?_
 ·rintro j _ ⟨_,rfl⟩ u hu;exact .tail _ (t2 hu)
 ·exact H5.perm dU
 ·rintro j r hr w7 T0 T1 _ dj kn kr kx ⟨a1,rfl⟩ H6 hb dk dl;rw[<- ad]at hr;have b9:=(aA.1 hr).1;refine hb _ λw8 H7=>⟨to,H7.lo xK,AB (λh4=>?_) (λh4=>?_)⟩
  ·refine Hp.s1 H7.AX KEl (cs':=[I 61]) λw9 H8=>dl w9 _ ⟨aU.2 ⟨r,aC hr,h4⟩,_,rfl⟩ H8.AX
  refine⟨_,H7.lo xK,Hp.st (o:=0) H7 EQ4 xK rfl rfl (by simp) (cs':=[I (ED 0 (rows.take (j+1)))]) ?_ λw9 H8=>dk w9 _ ⟨λr2 ae=>?_,rfl⟩ H8⟩
  ·rw[aG b9,(aA.1 hr).2,topLev_snoc];rfl
  rw[aG b9,(aA.1 hr).2]at ae;rcases aT.1 ae with ae|ae
  ·exact a1 r2 ae
  rw[aW.1 ae];exact h4
 rotate_left
 ·rintro D w7 _ ⟨dn,d,rfl⟩ H6;rw[if_pos (a7.2 dn)]at g;refine Hp.shut H6 λw8 H7=>?_
  have H8:Hp f w w8 (.blk O [I 61] 41::(([.blk db [I d] 3,.blk pb [I to] 3,.blk f2 [I 0] 3,.blk f1 [I id] 3,.blk f0 [pq b] 49]:List Asn)++xU b t (Af F) T.next ws)):=H7.perm (by
   refine AL λff gg h0 hc ha ao=>?_;simp only[ha,hc,h0];omega)
  exact ak l hw g H8
 rintro D w7 _ ⟨a1,rfl⟩ H6;have dp:(Ba F id).length=rows.length:=by rw[ad]
 rw[dp,bJ]at a1 H6
 have ap:to∉rows.map (·.id):=λhh=>by
  obtain⟨r,hr,e⟩:=aU.1 hh;exact a1 r hr e
 rw[if_neg (λh=>ap (a7.1 h))]at g;have dq:to≠id:=λe=>ap (by rw[a6,e];exact .head _);have ds:to∉Nod.ids k:=λe=>ap (by rw[a6];exact .tail _ e);have af:=Va F 0 id to N p K dq ds;have bd:=l.cut p hm bc;obtain⟨A3,B3,v3,aq,ca,ej,ew,ek⟩:=bd.rows af;obtain⟨rfl,_⟩:=hm.Za N am aq;have cb:BX T.L A.length=flat (yJ id F) 0:=by rw[<- l.fl];exact hm.KFP
 have bh:EI (BX T.L A.length) to=some A3.length:=by rw[cb];exact ca
 rw[bh]at g;dsimp only at g;obtain⟨n,cc⟩:∃n,n=yJ id k2:=⟨_,rfl⟩;rw[<- cc]at af aq;have bi:xJ n=(xJ k2).erase id:=by rw[cc,MF]
 have cd:(EK (BX T.L A.length) A3.length).length=(xJ n).length:=by rw[cb];exact aq.qg
 rw[cd]at g;rcases P9 F 0 id N p with⟨ht,_⟩|⟨_,r,R,ce,bj,hE,dt⟩
 ·exact(bc ht).elim
 have ey:r.kids.length<=(Nod.ids F).length:=Ik F 0 r (hE.mem_iff.2 (.tail _ (aI _ (.head _))))
 have el:(xJ k2).length<=(Nod.ids F).length:=by
  have h1:=Jn k2;have h2:(Nod.ids k2).length<=(Nod.ids F).length:=by rw[am.ids];simp;omega
  omega
 have a8:q=to↔id∈xJ k2:=by
  constructor
  ·intro e;obtain⟨R2,du,_⟩:=EY F 0 to N K;have m1:r∈xO F 0:=hE.mem_iff.2 (.tail _ (aI _ (.head _)));have m2:(⟨to,q2,Z,xJ k2⟩:En)∈xO F 0:=du.mem_iff.2 (.head _);have:=ents_same N m1 m2 (by rw[ce,e]);rw[this]at bj;exact bj
  exact kid_par N p K
 have H7:=H6.perm (M:=xU b t (Af F) T.next ws++[dA D,.blk db [I (ED 0 rows)] 3,.blk O [I 0] 41,.blk pb [I to] 3,.blk f2 [I 0] 3,.blk f1 [I id] 3,.blk f0 [pq b] 49]) (by
  refine AL λff gg h0 hc ha ao=>?_;simp only[ha,hc,h0];omega)
 have dv:∀{W:Wq},Eqw w7 W->Ld PP 59 W ⟨y2.b,7,none⟩ (.slice y2.ka (xJ k2).length y2.kc):=λhe=>H7.ld (o:=7) (cs:=yL y2 ⟨to,q2,Z,xJ k2⟩) he nSI (aS _ (b3 _ (.head _))) rfl;refine AA rfl ⟨_,_,_,by rw[add_lit];exact dv EQ4,?_⟩
 have a9:∀{c:Int}{w8:Wq},T.move id to at_=(T,c)->Hp f w w8 (xU b t (Af F) T.next ws++[dA D,.blk db [I (ED 0 rows)] 3,.blk O [I 0] 41,.blk pb [I to] 3,.blk f2 [I 0] 3,.blk f1 [I id] 3,.blk f0 [pq b] 49])->
   ∃w9,St PP 41 w8 ⟨O,0,none⟩ (I c) w9/\∃ar,zS w9 D ar/\∃i,Ld PP 41 ar ⟨O,0,none⟩ (I i)/\∃f',Ending.returned (I i)=Ej (I (T.move id to at_).2)/\Hp f w ar [AV f' b (T.move id to at_).1]:=λ{c w8} e H8=>by
  have H9:Hp f w w8 (.blk O [I 0] 41::(dA D::([.blk db [I (ED 0 rows)] 3,.blk pb [I to] 3,.blk f2 [I 0] 3,.blk f1 [I id] 3,.blk f0 [pq b] 49]++xU b t (Af F) T.next ws))):=H8.perm (by
   refine AL λff gg h0 hc ha ao=>?_;simp only[ha,hc,h0];omega)
  refine Hp.s1 H9 KEl (cs':=[I c]) λw9 bk=>?_;refine Hp.shut bk.AX λar bl=>?_;exact ak l hw e bl
 refine xM.mk (λs w'=>s=((xJ n).length:Int)/\w'=w7.drew) ?_ ?_;rotate_left
 ·intro J hJ;refine AA rfl ⟨q,by rw[add_lit];exact H7.ld (o:=1) (cs:=yL y ⟨id,q,x,xJ k⟩) EQ4 xK (aS _ (my _ (.head _))) rfl,to,H7.ld (o:=0) (cs:=[I to]) EQ4 xK (aI _ m3) rfl,AB (λh4=>?_) (λh4=>?_)⟩
  ·have ag:=a8.1 h4;have:0<(xJ k2).length:=List.length_pos_of_mem ag;refine⟨iR,hJ _ _ ⟨?_,rfl⟩⟩;rw[bi,kW ag];omega
  have ag:id∉xJ k2:=λh=>h4 (a8.2 h);refine hJ _ _ ⟨?_,rfl⟩;rw[bi,lH ag]
 rintro _ w8 ⟨rfl,rfl⟩;refine xM.mk (λs w'=>s=dec (at_<0\/((xJ n).length:Int)<at_)/\w'=w7.drew) ?_ ?_;rotate_left
 ·intro J hJ;refine AB (λh4=>hJ _ _ ⟨DV (.inl h4),rfl⟩) (λh4=>hJ _ _ ⟨?_,rfl⟩);by_cases h5:((xJ n).length:Int)<at_
  ·exact(decide_eq_true h5).trans (DV (.inr h5))
  exact(decide_eq_false h5).trans (Bz (λh=>h.elim h4 h5))
 rintro _ w8 ⟨rfl,rfl⟩;refine KAl (λh4=>?_) (λh4=>?_)
 ·rw[if_pos h4]at g;exact a9 g H7.drew
 rw[if_neg h4]at g;have H8:=H7.drew.drew;refine⟨to,H8.ld (o:=0) (cs:=[I to]) EQ4 xK (aI _ m3) rfl,ED 0 rows,H8.ld (o:=0) (cs:=[I (ED 0 rows)]) EQ4 xK (aI _ m1) rfl,?_⟩;have cf:∀j∈Nod.ids F,j≠0:=λj hj=>by have:=l.pos j hj;omega
 have cg:∃i1 x1 k1,F=.cons i1 x1 k1 .nil:=by
  rcases l.one with e|⟨i1,x1,k1,e,_⟩
  ·rw[e]at p;cases p
  exact⟨i1,x1,k1,e⟩
 refine AC (ZH N cf cg hw H8.KCE K am om) ?_;rintro _ w9 ⟨rfl,rfl⟩;have dx:KBS T.L A.length=flat (.cons id x k .nil) v:=by rw[<- l.fl];exact hm.seg
 have ch:∀r∈flat (.cons id x k .nil) v,r.level<40:=λr hr=>by
  refine l.deep r ?_;rw[<- l.fl,hm.fl];rw[flat,flat,aX]at hr;refine aI _ ?_;rcases aP.1 hr with rfl|hr
  ·exact .head _
  exact .tail _ (aS _ hr)
 have em:0<=ED 0 rows/\ED 0 rows<40:=by
  refine⟨(QQ _ 0 0).2 (.inl om),?_⟩;have m:=(YZ id x k .nil v 40).2;rw[<- Y]at m;refine Int.not_le.1 λh8=>?_;obtain⟨r,hr,ae⟩:=m om;have:=ch r hr;omega
 have ci:Ho (KBS T.L A.length) (v-v3-1)=flat (.cons id x k .nil) (v3+1):=by
  rw[dx,Gj];congr 1;omega
 have a2:=YZ id x k .nil (v3+1) 40;rw[<- Y,<- ci]at a2;refine⟨_,rfl,H8.ld (o:=0) (cs:=[I (ED 0 rows)]) EQ4 xK (aI _ m1) rfl,iR,iR,AB (λh5=>?_) (λh5=>?_)⟩
 ·rw[if_pos (a2.2 h5)]at g;exact a9 g H8
 rw[if_neg (λh=>h5 (a2.1 h))]at g;refine AC (uk N hw H8.KCE p ce bj hE om) ?_;rintro _ ar ⟨U,rfl,cj,hM,H9⟩;have bk:=H8.KEX H9;refine⟨rfl,?_⟩;obtain⟨R3,dy,ck,_⟩:=EY (yJ id F) 0 to bd.nodup af
 have cl:(U.map (·.2)).Perm (⟨to,q2,Z,xJ n⟩::⟨id,q,x,xJ k⟩::(xO k id++(xO n to++R3))):=by
  refine cj.trans (List.Perm.trans (List.Perm.cons _ ?_) (.swap _ _ _));refine((dt.symm.trans dy).append_left (xO k id)).trans ?_;exact bP
 obtain⟨A4,C,B4,rfl⟩:=YF cl;have cm:FN (xe (A4++(C,(⟨to,q2,Z,xJ n⟩:En))::B4)):=by rw[hM];exact hw.apart N
 have dz:y2.b=C.b:=by
  have m:xZ (xe (A4++(C,(⟨to,q2,Z,xJ n⟩:En))::B4)) to=some (pq C.b):=(FV cm).2 (aU.2 ⟨(C,(⟨to,q2,Z,xJ n⟩:En)),by simp,rfl⟩);rw[hM,b1]at m;injection m with m;injection m with m;injection m with m;injection m
 rw[dz];have bl:=Iy bk
 have cn:=bl.perm (M:=.own 3 1 C.ka (xJ n).length C.kc (AO (xJ n))::.blk C.b (yL C ⟨to,q2,Z,xJ n⟩) 139::.own 142 2 C.aa Z.FP.length C.ac (atC Z.FP)::(.blk b (yX t (Af F) T.next) 119::.Z6 t .i64 (xe (A4++(C,(⟨to,q2,Z,xJ n⟩:En))::B4))::(Bl (A4++B4)++[dA D,.blk db [I (ED 0 rows)] 3,.blk O [I 0] 41,.blk pb [I to] 3,.blk f2 [I 0] 3,.blk f1 [I id] 3,.blk f0 [pq b] 49]))) (by
  refine AL λff gg h0 hc ha ao=>?_;simp only[yl,ha,hc,h0];omega)
 refine AA rfl ⟨_,_,_,by rw[add_lit];exact cn.lo nSI,λb5 d0 d1=>?_⟩;have a3:=cn.nw d1;obtain⟨an,co⟩:∃an:Nat,at_=an:=⟨at_.toNat,om⟩
 have ab:an<=(xJ n).length:=om;have d2:b5∉x9 C.ka:=λhh=>(bF.1 a3.sep).1 _ (.head _) b5 (.head _) hh;have en:(xJ n).length<=(xJ k2).length:=by rw[bi];exact List.length_erase_le
 have dd:=Bf l;have b6:=l.len;rw[co];refine AC (UI C.ka (xJ n).length C.kc an b5 (AO (xJ n)) [I id] 3 d0 (a3.xh m1) (NE _) ab (a3.blk (.head _)) rfl (by intro u hu;rw[aW.1 hu];rfl) d2 om) ?_;rintro _ ez ⟨av,aw,rfl,a4⟩;replace a4:=a3.AX.Bg a4
 have d3:(AO (xJ n)).take (an*1)++([I id]++(AO (xJ n)).drop (an*1))=AO (Ee (xJ n) an [id]):=by
  rw[Ee,bV];simp[AO,iE,jd]
 have cp:(xJ n).length+1=(Ee (xJ n) an [id]).length:=by rw[Qp];rfl
 rw[d3]at a4;obtain⟨e5,al⟩:∃e5:En,e5=⟨to,q2,Z,Ee (xJ n) an [id]⟩:=⟨_,rfl⟩;refine⟨_,_,_,rfl,AA rfl ?_⟩;rw[add_lit];refine Hp.st (o:=7) a4.BF EQ4 nSI rfl rfl (by simp[yL]) (cs':=yL {C with ka:=av,kc:=aw} e5) (by rw[al,cp];rfl) λd4 d5=>?_
 have bm:=KU (b:=b) (mb:=t) (root:=Af F) (next:=T.next) (A:=A4) (Bw:=B4) (y:=C) (e:=⟨to,q2,Z,xJ n⟩) (y':= {C with ka:=av,kc:=aw}) (e':=e5) (X:=.blk b5 [I id] 3::[dA D,.blk db [I (ED 0 rows)] 3,.blk O [I 0] 41,.blk pb [I to] 3,.blk f2 [I 0] 3,.blk f1 [I id] 3,.blk f0 [pq b] 49]) (B:=f) (w0:=w) (w:=d4) rfl (by rw[al]) (d5.perm (by
  have e9:e5.kids=Ee (xJ n) an [id]:=by rw[al]
  have e8:e5.x=Z:=by rw[al]
  refine AL λff gg h0 hc ha ao=>?_;simp only[yl,ha,hc,h0,e8,e9,cp];omega))
 refine⟨to,bm.ld (o:=0) (cs:=[I to]) EQ4 xK (aI _ m4) rfl,?_⟩;have bo:((A4++({C with ka:=av,kc:=aw},e5)::B4).map (·.2)).Perm (⟨id,q,x,xJ k⟩::e5::(xO k id++(xO n to++R3))):=(NL cl).trans (.swap _ _ _);have bp:xe (A4++({C with ka:=av,kc:=aw},e5)::B4)=xe ws:=by rw[<- hM];exact LP rfl (by rw[al])
 obtain⟨cq,cr⟩:∃cq,cq=A4++({C with ka:=av,kc:=aw},e5)::B4:=⟨_,rfl⟩;rw[<- cr]at bo bp bm;obtain⟨A6,y6,B6,rfl⟩:=YF bo
 have d6:y.b=y6.b:=by
  have m:xZ (xe (A6++(y6,(⟨id,q,x,xJ k⟩:En))::B6)) id=some (pq y6.b):=(FV (by rw[bp];exact hw.apart N)).2 (aU.2 ⟨(y6,(⟨id,q,x,xJ k⟩:En)),by simp,rfl⟩);rw[bp,c9]at m;injection m with m;injection m with m;injection m with m;injection m
 rw[d6];have d7:=Iy bm;refine AA rfl ?_;rw[add_lit];refine Hp.st (o:=1) d7 EQ4 xK rfl rfl (by simp[yL]) (cs':=yL y6 ⟨id,to,x,xJ k⟩) rfl λct d8=>?_;have d9:=KU (b:=b) (mb:=t) (root:=Af F) (next:=T.next) (A:=A6) (Bw:=B6) (y:=y6) (e:=⟨id,q,x,xJ k⟩) (y':=y6) (e':=⟨id,to,x,xJ k⟩) (B:=f) (w0:=w) (w:=ct) rfl rfl d8;have ea:=NL (y':=y6) (e':=(⟨id,to,x,xJ k⟩:En)) bo
 have ec:Hp f w ct (.blk O [I 0] 41::(dA D::([.blk b5 [I id] 3,.blk db [I (ED 0 rows)] 3,.blk pb [I to] 3,.blk f2 [I 0] 3,.blk f1 [I id] 3,.blk f0 [pq b] 49]++xU b t (Af F) T.next (A6++(y6,(⟨id,to,x,xJ k⟩:En))::B6)))):=d9.perm (by
  refine AL λff gg h0 hc ha ao=>?_;simp only[ha,hc,h0];omega)
 refine Hp.s1 ec KEl (cs':=[I 0]) λe0 ed=>?_;refine Hp.shut ed.AX λe2 cu=>?_;obtain⟨F',a5⟩:∃F',F'=under to (putAt an (.cons id x k .nil)) (yJ id F):=⟨_,rfl⟩;have ba:=hm.move N am aq ab;rw[l.fl]at ba;have cv:at_.toNat=an:=om
 rw[cv,ba,<- a5]at g;have a0:=Lp F 0 id l.ok p;have ah:(Nod.ids (.cons id x k .nil))=id::Nod.ids k:=by rw[Nod.ids,Nod.ids,aX]
 have cw:(id::Nod.ids k).Nodup:=by
  have m:=N;rw[hm.ids,bG,bH,bG]at m;exact bH.2 ⟨λhh=>m.2.1.1 (aS _ hh),m.2.1.2.1⟩
 have cx:∀j∈id::Nod.ids k,j∈Nod.ids F:=λj hj=>by
  rw[hm.ids];rcases aP.1 hj with rfl|hj
  ·simp
  simp[hj]
 have ee:Am F' ⟨flat F' 0,T.next⟩:=by
  rw[a5];refine bd.put af aq h3 ab (show FOk (.cons id x k .nil)from⟨a0.1,a0.2.1,a0.2.2,trivial⟩) (by rw[ah];exact cw) (λj hj ef=>?_) (λr hr=>?_) ?_ (λj hj=>?_) ⟨gz _,l.next.2⟩
  ·have m:=(hm.VV N j).1 ef;rw[ah]at hj;rcases aP.1 hj with e|hj
   ·exact m.2.1 e
   exact m.2.2 hj
  ·refine Int.not_le.1 λm=>h5 (a2.1 ⟨r,?_,m⟩);rw[ci];exact hr
  ·show(Nod.ids (.cons id x k .nil)).length+(flat (yJ id F) 0).length<=1000;rw[BZ,hm.YI,ah];have m:=hm.ids;have h8:=congrArg List.length m;simp only[aF,aK,aQ]at h8⊢;omega
  rw[ah]at hj;exact l.pos j (cx j hj)
 have eg:Dv F' (A6++(y6,(⟨id,to,x,xJ k⟩:En))::B6):=by
  have cy:=ck (putAt an (.cons id x k .nil));rw[<- a5,UO ab,xJ,xJ]at cy;refine ea.trans (List.Perm.trans ?_ cy.symm);have h7:=PU an (.cons id x k .nil) n to ab;have h8:xO (.cons id x k .nil) to=⟨id,to,x,xJ k⟩::xO k id:=by rw[xO,xO,aX]
  rw[h8]at h7;refine List.Perm.trans ?_ ((h7.append_right R3).cons _).symm;rw[al];refine(List.Perm.swap _ _ _).trans (List.Perm.cons _ ?_);rw[aH,aH,ax]
 have bq:Af F'=Af F:=by
  rw[a5,VF,Gw,Gw,MF,lH bc]
 rw[<- bq]at cu;rw[<- co];exact ak ee eg g cu
end
end Go.Proofs.YtljenkbpnioipaaGreat
namespace Go.Nod
noncomputable section
open Classical
def yG:List At->BA->Nat
 | [],_=>0
 |x::r,n=>if ltB x.1 n then yG r n+1 else 0
theorem NS:∀(l:List At)(n:BA),yG l n<=l.length
 | [],_=>aZ _
 |x::r,n=>by
  have:=NS r n;rw[yG];split<;>simp<;>omega
def rs_lt{l:List At}(h:Rs l){j k:Nat}{p q:At}(d:l[j]? =some p)(e:l[k]? =some q)(a:j<k):ltB p.1 q.1:=by
 have b:=(aA.1 d).1;have c:=(aA.1 e).1;have:=dE.1 h j k b c a;rw[(aA.1 d).2,(aA.1 e).2]at this;exact this
theorem PY:∀(l:List At)(n:BA),Rs l->∀(j:Nat)(p:At),l[j]? =some p->(ltB p.1 n↔j<yG l n)
 | [],n,_,j,p,h=>by simp at h
 |x::r,n,hR,j,p,h=>by
  have a:Rs r:=(bF.1 hR).2;cases j with
  |zero=>
   rw[dI]at h;cases h;rw[yG];by_cases e:ltB x.1 n
   ·rw[if_pos e];exact⟨λ_=>by omega,λ_=>e⟩
   rw[if_neg e];exact⟨λh=>(e h).elim,λh=>by omega⟩
  |succ j=>
   rw[bI]at h;have b:=PY r n a j p h;rw[yG];by_cases e:ltB x.1 n
   ·rw[if_pos e,b];omega
   rw[if_neg e];refine⟨λc=>(e ?_).elim,λh=>by omega⟩;exact Fq (rs_lt hR (j:=0) rfl (by rw[bI];exact h) om) c
def KAH(l:List At)(n:BA):Prop:=∃v,l[yG l n]? =some (n,v)
def QS{a b:BA}(h:¬ltB a b)(d:a≠b):ltB b a:=by
 rcases P6 a b with c|c|c
 ·exact(h c).elim
 ·exact(d c).elim
 exact c
def filter_all{l:List At}{n:BA}(h:∀x∈l,ltB n x.1):(l.filter λy=> !decide (y.1=n))=l:=by
 rw[gV];intro x a;have:x.1≠n:=λe=>EF n (by have:=h x a;rwa [e]at this);simp[this]
theorem ZA:∀(l:List At)(a:At),Rs l->CQ l a=l.take (yG l a.1)++a::(if KAH l a.1 then l.drop (yG l a.1+1)else l.drop (yG l a.1))
 | [],a,_=>by
  have:¬KAH [] a.1:=λ⟨v,h⟩=>by simp at h
  rw[if_neg this];rfl
 |x::r,a,hR=>by
  have j:Rs r:=(bF.1 hR).2;rw[CQ];by_cases e:ltB x.1 a.1
  ·have c:yG (x::r) a.1=yG r a.1+1:=by rw[yG,if_pos e]
   have m:KAH (x::r) a.1↔KAH r a.1:=by rw[KAH,KAH,c,bI]
   rw[if_pos e,ZA r a j,c,dY,eF,eF];by_cases i:KAH r a.1
   ·rw[if_pos i,if_pos (m.2 i)];rfl
   rw[if_neg i,if_neg (λh=>i (m.1 h))];rfl
  have c:yG (x::r) a.1=0:=by rw[yG,if_neg e]
  rw[if_neg e,c,fD,fF,aO,cZ,drop_one,lD];congr 1;have b:=bF.1 hR;by_cases d:x.1=a.1
  ·rw[if_pos ⟨x.2,by rw[c,<- d];rfl⟩,dL,if_neg (by simp[d])];exact filter_all λy f=>by rw[<- d];exact b.1 y f
  have n:¬KAH (x::r) a.1:=λ⟨v,h⟩=>by rw[c,dI]at h;cases h;exact d rfl
  rw[if_neg n];have g:=QS e d
  exact filter_all λy f=>by
   rcases aP.1 f with rfl|f
   ·exact g
   exact Fq g (b.1 y f)
theorem Ya:∀(l:List At)(n:BA),Rs l->BR l n=(if KAH l n then l.take (yG l n)++l.drop (yG l n+1)else l)
 | [],n,_=>by
  have:¬KAH [] n:=λ⟨v,h⟩=>by simp at h
  rw[if_neg this];rfl
 |x::r,n,hR=>by
  have a:=bF.1 hR;have j:=Ya r n a.2;rw[BR]at j;rw[BR];by_cases e:ltB x.1 n
  ·have b:yG (x::r) n=yG r n+1:=by rw[yG,if_pos e]
   have m:KAH (x::r) n↔KAH r n:=by rw[KAH,KAH,b,bI]
   have i:x.1≠n:=λh=>EF n (by rwa [h]at e);rw[dL,if_pos (by simp[i]),j,b,dY,eF];by_cases g:KAH r n
   ·rw[if_pos g,if_pos (m.2 g)];rfl
   rw[if_neg g,if_neg (λh=>g (m.1 h))]
  have b:yG (x::r) n=0:=by rw[yG,if_neg e]
  rw[b,fD,aO,cZ,drop_one,lD];by_cases c:x.1=n
  ·rw[if_pos ⟨x.2,by rw[b,<- c];rfl⟩,dL,if_neg (by simp[c])];exact filter_all λy d=>by rw[<- c];exact a.1 y d
  have o:¬KAH (x::r) n:=λ⟨v,h⟩=>by rw[b,dI]at h;cases h;exact c rfl
  rw[if_neg o];have f:=QS e c
  exact filter_all λy d=>by
   rcases aP.1 d with rfl|d
   ·exact f
   exact Fq f (a.1 y d)
end
end Go.Nod
namespace Go.Proofs.YtljenkbpnioipaaGreat
noncomputable section
open Go Go.Vc Go.Nod
def KL(s:BA)(d:s.size<=maxLen)(w:Wq):CP 151 #[.string s] w λe w'=>e=Ej (I (BH s))/\Hp [] w w' []:=by
 apply Jbi;refine AC (Qz s d w) ?_;rintro _ f ⟨⟨z,rfl,b⟩,H⟩;refine⟨_,rfl,AB (λh=>⟨?_,H⟩) (λh=>?_)⟩
 ·rw[BH,if_pos (b.1 h)]
 have c:¬¬Uk s:=λa=>h (b.2 a);refine AB (λa=>⟨?_,H⟩) (λa=>⟨?_,H⟩)
 ·rw[BH,if_neg c,if_pos om]
 rw[BH,if_neg c,if_neg om]
def inRu64{z:Int}:inR .u64 z↔0<=z/\z<=18446744073709551615:=by
 simp[inR,IntKind.min,IntKind.max,IntKind.signed,IntKind.bits]
def qo(i j n:Nat)(d:i+j<2^62):IntKind.i64.wrap (Int.fdiv (IntKind.u64.wrap ((i:Int)+j)) (2^min (Int.toNat 1) (IntKind.bits .u64)))=(((i+j)/2:Nat):Int):=by
 have a:IntKind.u64.wrap ((i:Int)+j)=((i+j:Nat):Int):=by
  have:=KAs (z:=((i+j:Nat):Int)) (inRu64.2 om);rw[<- Int.natCast_add];exact this
 have b:min (Int.toNat 1) (IntKind.bits .u64)=1:=by decide
 rw[a,b,kK _ om];have c:((i+j:Nat):Int)/2^1=(((i+j)/2:Nat):Int):=om;rw[c];exact KAs (iR)
def ltD(a b:BA):Op.bytesLess a.data.toList b.data.toList=dec (ltB a b):=by
 rw[Go.Proofs.bytesLess_eq];by_cases h:ltB a b
 ·rw[<- DV h];exact decide_eq_true h
 rw[<- Bz h];exact decide_eq_false h
def cmpB(a b:BA)(z:Int):Prop:=(z<0↔ltB a b)/\(z=0↔a=b)
def RN(p:At)(n:BA)(w:Wq):CP 219 #[.agg #[.string p.1,.string p.2],.string n] w λe w'=>∃z,e=Ej (I z)/\cmpB p.1 n z/\Hp [] w w' []:=by
 apply Ja0;intro b d f;have H:=(Hp.start w).nw f;have ld:Ld PP 9 d ⟨b,0,none⟩ (.string p.1):=H.lo xx;refine⟨p.1,ld,?_⟩;dsimp only;rw[ltD];refine KAl (λh=>⟨-1,rfl,⟨⟨λ_=>h,λ_=>by omega⟩,⟨λc=>by omega,λc=>by rw[c]at h;exact(EF _ h).elim⟩⟩,H.drop⟩) (λh=>⟨p.1,ld,?_⟩);dsimp only;rw[ltD];rw[<- Bz h,lh];refine AQ (λc=>⟨1,rfl,⟨⟨λa=>by omega,λa=>(h a).elim⟩,⟨λa=>by omega,λa=>(c a).elim⟩⟩,H.drop⟩) (λc=>⟨0,rfl,⟨⟨λa=>by omega,λa=>(h a).elim⟩,⟨λ_=>c,λ_=>rfl⟩⟩,H.drop⟩)
def lBSrAt_spec(a:OA)(n c:Nat)(l:List At)(t:BA)(w:Wq)(J:AtR w a n l)(M:Rs l)(hn:n<=1000000):
  CP 218 #[.slice a n c,.string t,.func (.func 219) #[] #[]] w λe w'=>e=Ej (.tuple #[I (yG l t),.bool (dec (KAH l t))])/\Hp [] w w' []:=by
 apply Jbl;have K:=J.len;have N:=NS l t;refine xI.mk (λm s w'=>∃i j:Nat,m=j-i/\s=((i:Int),(j:Int))/\i<=yG l t/\yG l t<=j/\j<=n/\Hp [] w w' []) n ⟨0,n,rfl,rfl,om,om,aZ _,Hp.start w⟩ ?_;rintro m s B nx ⟨i,j,rfl,rfl,O,R,C,H⟩ u;have f:AtR B a n l:=J.go H;refine AB (λh=>?_) (λh=>?_)
 ·rw[qo i j n om];obtain⟨d,T⟩:∃d,d=(i+j)/2:=⟨_,rfl⟩;rw[<- T];have g:d<l.length:=om;have q:l[d]? =some l[d]:=aB g;have b:=Gg q;obtain⟨U,x⟩:=f.cells.some (λe=>by rw[e]at b;simp at b);refine⟨iR,om,AA x ⟨⟨om,om⟩,l[d].1,l[d].2,f.cells.ldA EX x b rfl,VR Tryz.func219 rfl (AC (RN l[d] t B) ?_)⟩⟩;rintro _ X ⟨z,rfl,⟨o,p⟩,D⟩;have L:=H.xN D;have y:=PY l t M d _ q;refine⟨z,rfl,AB (λF=>⟨iR,?_⟩) (λF=>?_)⟩
  ·have:=y.1 (o.1 F);exact u (j-(d+1)) _ _ om ⟨d+1,j,rfl,by simp,om,R,C,L⟩
  have:¬d<yG l t:=λY=>F (o.2 (y.2 Y));exact u (d-i) _ _ om ⟨i,d,rfl,rfl,O,om,om,L⟩
 have G:i=yG l t:=om;subst G;refine AB (λZ=>?_) (λZ=>?_)
 ·have g:yG l t<l.length:=om;have q:l[yG l t]? =some l[yG l t]:=aB g;have b:=Gg q;obtain⟨U,x⟩:=f.cells.some (λe=>by rw[e]at b;simp at b);refine AA x ⟨⟨om,om⟩,l[yG l t].1,l[yG l t].2,f.cells.ldA EX x b rfl,VR Tryz.func219 rfl (AC (RN l[yG l t] t B) ?_)⟩;rintro _ X ⟨z,rfl,⟨o,p⟩,D⟩;refine⟨z,rfl,?_,H.xN D⟩
  have:(decide (z=0))=dec (KAH l t):=by
   by_cases A:z=0
   ·rw[<- DV (show KAH l t from⟨l[yG l t].2,q.trans (congrArg some (pY (p.1 A) rfl))⟩)];exact decide_eq_true A
   rw[<- Bz (show¬KAH l t from λ⟨v,r⟩=>A (p.2 (by rw[q]at r;injection r with r;rw[r])))];exact decide_eq_false A
  rw[this]
 have:¬KAH l t:=λ⟨v,r⟩=>by
  have:=(aA.1 r).1;omega
 exact⟨by rw[<- Bz this],H⟩
end
end Go.Proofs.YtljenkbpnioipaaGreat
namespace Go.Nod
noncomputable section
open Classical
theorem Gt:∀(l:List At),valsE l=0↔∀a∈l,BH a.2=0
 | []=>by simp[valsE]
 |a::r=>by
  rw[valsE];split
  ·rename_i h;rw[Gt r];exact⟨λb x c=>by rcases aP.1 c with rfl|c;exact h;exact b x c,λb x c=>b x (.tail _ c)⟩
  rename_i h;exact⟨λb=>(h b).elim,λb=>(h (b a (.head _))).elim⟩
theorem ND:∀(l:List At)(a:At),∀y∈CQ l a,y=a\/y∈l
 | [],a,y,h=>.inl (aW.1 h)
 |x::r,a,y,h=>by
  rw[CQ]at h;split at h
  ·rcases aP.1 h with rfl|h
   ·exact .inr (.head _)
   exact(ND r a y h).imp_right (.tail _)
  rcases aP.1 h with rfl|h
  ·exact .inl rfl
  exact .inr (dO.1 h).1
theorem ZT:∀(l:List At)(a:At),Rs l->Rs (CQ l a)
 | [],a,_=>nT _ _
 |x::r,a,h=>by
  have f:=bF.1 h;rw[CQ];split
  ·rename_i e;refine bF.2 ⟨λy b=>?_,ZT r a f.2⟩;rcases ND r a y b with rfl|b
   ·exact e
   exact f.1 y b
  rename_i e;refine bF.2 ⟨λy b=>?_,h.filter _⟩;obtain⟨b,c⟩:=dO.1 b;have c:¬y.1=a.1:=by simpa using c
  rcases aP.1 b with rfl|b
  ·exact QS e c
  rcases P6 a.1 y.1 with d|d|d
  ·exact d
  ·exact(c d.symm).elim
  exact(e (Fq (f.1 y b) d)).elim
def lessA_rs{l:List At}(h:Rs l)(n:BA):Rs (BR l n):=h.filter _
def UZ{x:NX}(h:Ap x=0)(f:x.kind=1):x.text=⟨#[]⟩/\CZ x.name/\Nj x.FP/\x.FP.length<=20/\∀a∈x.FP,BH a.2=0:=by
 rw[Ap,if_neg om]at h;split at h
 ·rename_i e;split at h
  ·rename_i d;rw[CG]at d;split at d
   ·cases d
   split at d
   ·cases d
   split at d
   ·cases d
   rename_i a b c;exact⟨e.2,eU.1 a,eU.1 b,om,(Gt _).1 h⟩
  rename_i d;exact(d h).elim
 cases h
def Vr{x:NX}(b:x.kind=1)(c:x.text=⟨#[]⟩)(d:CZ x.name)(f:Nj x.FP)(i:x.FP.length<=20)(g:∀a∈x.FP,BH a.2=0):Ap x=0:=by
 have e:CG x=0:=by rw[CG,if_neg (λh=>h d),if_neg (λh=>h f),if_neg om]
 rw[Ap,if_neg om,if_pos ⟨b,c⟩,if_pos e];exact(Gt _).2 g
def parts_text{x:NX}(h:Ap x=0)(a:x.kind=2):x.name=⟨#[]⟩/\x.FP=[]:=by
 rw[Ap,if_pos a]at h;split at h
 ·assumption
 cases h
def text_parts{x:NX}(a:x.kind=2)(h:x.name=⟨#[]⟩/\x.FP=[]):Ap x=BH x.text:=by rw[Ap,if_pos a,if_pos h]
def setAttr_eq{T:Tr}{id v:Int}{x:NX}{n:Nat}{a:At}(c:atR T.L id=some (n,⟨id,v,x⟩))(f:x.kind=1):
  (¬CZ a.1->T.Be id a=(T,63))/\(CZ a.1->BH a.2≠0->T.Be id a=(T,BH a.2))/\
  (CZ a.1->BH a.2=0->T.Be id a=if 20<(CQ x.FP a).length then((T,67):Tr×Int)else(⟨KAn T.L n ⟨id,v,x⟩ {x with FP:=CQ x.FP a},T.next⟩,0)):=by
 have d:¬x.kind≠1:=λh=>h f;rw[Tr.Be,c];dsimp only;rw[if_neg d];exact⟨λh=>by rw[if_pos h],λh e=>by rw[if_neg (λb=>b h),if_pos e],λh e=>by rw[if_neg (λb=>b h),if_neg (λb=>b e)]⟩
end
end Go.Nod
namespace Go.Proofs.YtljenkbpnioipaaGreat
noncomputable section
open Go Go.Vc Go.Nod
def Ox{f:Nq}{b mb:Nat}{F:Fo}{T:Tr}{w w':Wq}{X:List Asn}(c:Am F T){id q v:Int}{x x':NX}{k:Fo}{A B:List Rw}(a:AZ F 0 id=some (q,x,k))(g:Mid F 0 id 0 q x k A B v)
  {h Bw:List (NW×En)} {y y':NW} (i:Dv F (h++(y,⟨id,q,x,xJ k⟩)::Bw)) (j:x'.kind=x.kind) (l:Ap x'=0) (H:Hp f w w' (xU b mb (Af F) T.next (h++(y',⟨id,q,x',xJ k⟩)::Bw)++X)):
  ∃m,Hp f w w' [AV m b ⟨KAn T.L A.length ⟨id,v,x⟩ x',T.next⟩]:=by
 obtain⟨R,n,_,o⟩:=EY F 0 id c.nodup a;have d:=c.turn a g (f:=λ_=>x') j l;have e:KAn T.L A.length ⟨id,v,x⟩ x'=flat (Ed id (λ_=>x') F) 0:=by rw[<- c.fl];exact g.KAn λ_=>x'
 have p:Af F=Af (Ed id (λ_=>x') F):=by rw[Gw,Gw,Qd]
 rw[p]at H;rw[e];refine Zy d ?_ H;exact(NL (i.trans n)).trans (o λ_=>x').symm
def sZ{y:NW}{e:En}{L:List Asn}{w:Wq}(f:Std w L)(d:∀a∈yl (y,e),a∈L)(g:Rs e.x.FP)(h:e.x.FP.length<=1000000)(t:BA):
  CP 152 #[pq y.b,.string t] w λen w'=>en=Ej (.tuple #[I (yG e.x.FP t),.bool (dec (KAH e.x.FP t))])/\Hp [] w w' []:=by
 apply Jaz;have H:=Hp.Cb f;have c:Own w 0 142 2 y.aa e.x.FP.length y.ac (atC e.x.FP):=H.xh (d _ m1);refine AA rfl ⟨y.aa,e.x.FP.length,y.ac,by rw[add_lit];exact H.ld EQ4 yx (d _ (.head _)) rfl,?_⟩;refine AC (lBSrAt_spec y.aa e.x.FP.length y.ac e.x.FP t w ⟨rfl,c.cells⟩ g h) ?_;rintro _ j ⟨rfl,i⟩;exact⟨_,_,rfl,rfl,i⟩
theorem ZF(l:List At)(k:Nat):(atC l).take (k*2)=atC (l.take k):=by
 induction l generalizing k with
 |nil=>simp[atC]
 |cons p r a=>
  cases k with
  |zero=>simp[atC]
  |succ k=>
   have e:atC (p::r)=Value.string p.1::.string p.2::atC r:=rfl;rw[e,di,dY,dY,a k];rfl
def Su{F:Fo}{T:Tr}{id q:Int}{x:NX}{k:Fo}(b:Am F T)(a:AZ F 0 id=some (q,x,k)):Ap x=0:=(Lp F 0 id b.ok a).1
def gSetAttr_spec{f:Nq}{b:Nat}{T:Tr}{w:Wq}(h:(AV f b T).ok w)(id:Int)(name value:BA)(hv:value.size<=maxLen):
  CP 94 #[pq b,I id,.string name,.string value] w λe w'=>∃z,e=Ej (I (T.Be id (name,value)).2)/\Hp f w w' [AV z b (T.Be id (name,value)).1]:=by
 apply Jbg;have m:Hp f w w [AV f b T]:=BU h;obtain⟨M,⟨F,C,D,ws,hw,rfl⟩,H,hf⟩:=m.unpack;have same:∀(w':Wq)(c:Int),Hp f w w' [AV f b T]->T.Be id (name,value)=(T,c)->∃z,Ending.returned (I c)=Ej (I (T.Be id (name,value)).2)/\Hp f w w' [AV z b (T.Be id (name,value)).1]:=λw' c H9 e=>⟨f,by rw[e],by rw[e];exact H9⟩;refine AC (OE C.nodup hw H.KCE id) ?_;rintro e w1 ⟨rfl,⟨i,rfl⟩|⟨q,x,k,i,l,rfl⟩|⟨q,x,k,R,y,U,i,l,ab,rfl⟩⟩
 ·refine⟨_,_,rfl,AQ (λ_=>same _ _ m (by rw[Tr.Be,(C.noRow i).2])) (λe=>by omega)⟩
 ·obtain⟨A,B,v,hm,al,G,_⟩:=C.rows i;refine⟨_,_,rfl,AQ (λ_=>same _ _ m (by rw[Tr.Be,G];dsimp only;rw[if_pos l])) (λe=>by omega)⟩
 obtain⟨A,B,v,hm,al,G,_⟩:=C.rows i;have a2:¬x.kind≠1:=λh=>h l;obtain⟨am,an,d⟩:=setAttr_eq G l;obtain⟨ao,ap,s,aq,ar⟩:=UZ (Su C i) l;refine⟨_,_,rfl,AQ (λe=>by omega) (λ_=>?_)⟩;refine AC (Iz name w1) ?_;rintro _ w2 ⟨rfl,r⟩;replace m:=m.xN r;replace H:=H.xN r;refine⟨_,rfl,Hg (λh1=>same _ _ m (am h1)) (λh1=>?_)⟩;refine AC (KL value hv w2) ?_;rintro _ w3 ⟨rfl,r⟩;replace m:=m.xN r;replace H:=H.xN r;refine⟨_,rfl,AQ (λh2=>?_) (λh2=>?_)⟩
 ·refine AC (KL value hv w3) ?_;rintro _ w4 ⟨rfl,r⟩;exact⟨_,rfl,same _ _ (m.xN r) (an h1 h2)⟩
 replace d:=d h1 h2;have hL:∀a∈yl (y,(⟨id,q,x,xJ k⟩:En)),a∈xU b D (Af F) T.next ws++[]:=λa j=>aS _ (Ea (by rw[ab];simp) j);refine AC (sZ H.std hL s.2 (by dsimp only;omega) name) ?_;rintro _ w4 ⟨rfl,r⟩;replace m:=m.xN r;replace H:=H.xN r;dsimp only;have Y:=ZA x.FP (name,value) s.2;have ae:Own w4 0 142 2 y.aa x.FP.length y.ac (atC x.FP):=H.xh (hL _ m1);have av:=NS x.FP name
 have p:∀{n:Nat},(CQ x.FP (name,value)).length=n->n<=20->Ap {x with FP:=CQ x.FP (name,value)}=0:=λe hn=>Vr l ao ap ⟨λa j=>by
  rcases ND _ _ a j with rfl|j
  ·exact h1
  ·exact s.1 a j,ZT _ _ s.2⟩ (by show(CQ x.FP (name,value)).length<=20;omega) (λa j=>by
  rcases ND _ _ a j with rfl|j
  ·exact h2
  exact ar a j)
 have J:Ld PP 69 w4 ⟨y.b,6,none⟩ (.slice y.aa x.FP.length y.ac):=H.ld EQ4 yx (hL _ (.head _)) rfl;subst ab;refine⟨_,_,rfl,KAl (λh3=>?_) (λh3=>?_)⟩
 ·rw[if_pos h3]at Y;obtain⟨v0,K⟩:=h3;have a3:=(aA.1 K).1;have g:(CQ x.FP (name,value)).length=x.FP.length:=by rw[Y];simp;omega
  rw[if_neg om]at d
  have af:atC (CQ x.FP (name,value))=over [.string value] (yG x.FP name*2+1) (atC x.FP):=by
   have e1:atC x.FP=atC (x.FP.take (yG x.FP name))++([.string name]++([.string v0]++atC (x.FP.drop (yG x.FP name+1)))):=by
    have e2:x.FP=x.FP.take (yG x.FP name)++(name,v0)::x.FP.drop (yG x.FP name+1):=by
     have:=(aA.1 K).2;rw[<- this,jL,bY]
    conv=>lhs;rw[e2]
    rw[Gp];rfl
   rw[Y,Gp,e1];have hl:yG x.FP name*2+1=(atC (x.FP.take (yG x.FP name))++[Value.string name]).length:=by rw[aF,NP,aJ];simp;omega
   rw[hl,<- ax,FU [.string value] _ [.string v0] _ rfl,ax];rfl
  have H1:=Iy H
  have H2:=H1.perm (M:=.own 142 2 y.aa x.FP.length y.ac (atC x.FP)::.blk y.b (yL y ⟨id,q,x,xJ k⟩) 139::.own 3 1 y.ka (xJ k).length y.kc (AO (xJ k))::(.blk b (yX D (Af F) T.next) 119::.Z6 D .i64 (xe (R++(y,(⟨id,q,x,xJ k⟩:En))::U))::(Bl (R++U)++[]))) (by
   refine AL λff gg L N j O=>?_;simp only[yl,j,N,L];omega)
  have t:=Gg K;obtain⟨ad,ag⟩:=ae.cells.some (λe=>by rw[e]at t;simp at t);refine AA rfl ⟨y.aa,x.FP.length,y.ac,by rw[add_lit];exact J,AA ag ⟨⟨om,om⟩,?_⟩⟩;rw[aN,add_add];refine Hp.stO H2 (v:=.string value) (o:=yG x.FP name*2+1) EQ4 ag rfl rfl (by rw[NP];simp[Value.cells];omega) af.symm λw5 Z=>?_
  have H4:=KU (b:=b) (mb:=D) (root:=Af F) (next:=T.next) (A:=R) (Bw:=U) (y:=y) (e:=⟨id,q,x,xJ k⟩) (y':=y) (e':=⟨id,q,{x with FP:=CQ x.FP (name,value)},xJ k⟩) (X:=[]) (B:=f) (w0:=_) (w:=w5) rfl rfl (Z.perm (by
   refine AL λff gg L N j O=>?_;simp only[yl,yL,j,N,L,g];omega))
  obtain⟨z,H5⟩:=Ox C i hm hw (x':= {x with FP:=CQ x.FP (name,value)}) rfl (p g aq) H4;exact⟨z,by rw[d],by rw[d];exact H5⟩
 rw[if_neg h3]at Y;have g:(CQ x.FP (name,value)).length=x.FP.length+1:=by rw[Y];simp;omega
 refine AA rfl ⟨y.aa,x.FP.length,y.ac,by rw[add_lit];exact J,AB (λh4=>same _ _ m ?_) (λh4=>?_)⟩
 ·rw[d,if_pos om]
 rw[if_neg om]at d;refine AA rfl ⟨y.aa,x.FP.length,y.ac,by rw[add_lit];exact J,λb5 w5 aw=>?_⟩;have H1:=Iy H
 have H2:=H1.perm (M:=.own 142 2 y.aa x.FP.length y.ac (atC x.FP)::.blk y.b (yL y ⟨id,q,x,xJ k⟩) 139::.own 3 1 y.ka (xJ k).length y.kc (AO (xJ k))::(.blk b (yX D (Af F) T.next) 119::.Z6 D .i64 (xe (R++(y,(⟨id,q,x,xJ k⟩:En))::U))::(Bl (R++U)++[]))) (by
  refine AL λff gg L N j O=>?_;simp only[yl,j,N,L];omega)
 have Z:=H2.nw aw;have a0:b5∉x9 y.aa:=λhh=>(bF.1 Z.sep).1 _ (.head _) b5 (.head _) hh;refine AC (lInsAt_spec y.aa x.FP.length y.ac (yG x.FP name) b5 (atC x.FP) [.string name,.string value] 142 w5 (Z.xh m1) (Na _) av (Z.blk (.head _)) rfl (by intro u hu;simp at hu;rcases hu with rfl|rfl<;>rfl) a0 om) ?_;rintro _ w6 ⟨ah,ak,rfl,H4⟩;replace H4:=Z.AX.Bg H4
 have a1:(atC x.FP).take (yG x.FP name*2)++([Value.string name,.string value]++(atC x.FP).drop (yG x.FP name*2))=atC (CQ x.FP (name,value)):=by
  rw[Y,Gp,ZF,Yk];rfl
 rw[a1]at H4;refine⟨_,_,_,rfl,AA rfl ?_⟩;rw[add_lit];refine Hp.st (o:=6) H4.BF EQ4 yx rfl rfl (by simp[yL]) (cs':=yL {y with aa:=ah,ac:=ak} ⟨id,q,{x with FP:=CQ x.FP (name,value)},xJ k⟩) (by rw[<- g];rfl) λw7 H5=>?_
 have H6:=KU (b:=b) (mb:=D) (root:=Af F) (next:=T.next) (A:=R) (Bw:=U) (y:=y) (e:=⟨id,q,x,xJ k⟩) (y':= {y with aa:=ah,ac:=ak}) (e':=⟨id,q,{x with FP:=CQ x.FP (name,value)},xJ k⟩) (X:=[.blk b5 [.string name,.string value] 142]) (B:=f) (w0:=_) (w:=w7) rfl rfl (H5.perm (by
  refine AL λff gg L N j O=>?_;simp only[yl,j,N,L,g];omega))
 obtain⟨z,H7⟩:=Ox C i hm hw (x':= {x with FP:=CQ x.FP (name,value)}) rfl (p g om) H6;exact⟨z,by rw[d],by rw[d];exact H7⟩
def gDelAttr_spec{f:Nq}{b:Nat}{T:Tr}{w:Wq}(h:(AV f b T).ok w)(id:Int)(name:BA):
  CP 95 #[pq b,I id,.string name] w λe w'=>∃r,e=Ej (I (T.Bj id name).2)/\Hp f w w' [AV r b (T.Bj id name).1]:=by
 apply Jaw;have o:Hp f w w [AV f b T]:=BU h;obtain⟨M,⟨F,p,t,ws,hw,rfl⟩,H,hf⟩:=o.unpack;have same:∀(w':Wq)(c:Int),Hp f w w' [AV f b T]->T.Bj id name=(T,c)->∃r,Ending.returned (I c)=Ej (I (T.Bj id name).2)/\Hp f w w' [AV r b (T.Bj id name).1]:=λw' c H9 e=>⟨f,by rw[e],by rw[e];exact H9⟩;refine AC (OE p.nodup hw H.KCE id) ?_;rintro e w1 ⟨rfl,⟨d,rfl⟩|⟨q,x,k,d,i,rfl⟩|⟨q,x,k,D,y,G,d,i,s,rfl⟩⟩
 ·refine⟨_,_,rfl,AQ (λ_=>same _ _ o (by rw[Tr.Bj,(p.noRow d).2])) (λe=>by omega)⟩
 ·obtain⟨A,B,v,hm,J,n,_⟩:=p.rows d;refine⟨_,_,rfl,AQ (λ_=>same _ _ o (by rw[Tr.Bj,n];dsimp only;rw[if_pos i])) (λe=>by omega)⟩
 obtain⟨A,B,v,hm,J,n,_⟩:=p.rows d;have K:¬x.kind≠1:=λh=>h i
 have g:T.Bj id name=if(BR x.FP name).length=x.FP.length then((T,63):Tr×Int)else(⟨KAn T.L A.length ⟨id,v,x⟩ {x with FP:=BR x.FP name},T.next⟩,0):=by
  rw[Tr.Bj,n];dsimp only;rw[if_neg K]
 obtain⟨N,O,j,ae,R⟩:=UZ (Su p d) i;refine⟨_,_,rfl,AQ (λe=>by omega) (λ_=>?_)⟩;have hL:∀a∈yl (y,(⟨id,q,x,xJ k⟩:En)),a∈xU b t (Af F) T.next ws++[]:=λa l=>aS _ (Ea (by rw[s];simp) l);refine AC (sZ H.std hL j.2 (by dsimp only;omega) name) ?_;rintro _ w4 ⟨rfl,Hn⟩;replace o:=o.xN Hn;replace H:=H.xN Hn;dsimp only;have u:=Ya x.FP name j.2;have af:=NS x.FP name;have U:Ld PP 69 w4 ⟨y.b,6,none⟩ (.slice y.aa x.FP.length y.ac):=H.ld EQ4 yx (hL _ (.head _)) rfl;subst s;refine⟨_,_,rfl,Hg (λz=>same _ _ o ?_) (λz=>?_)⟩
 ·rw[g,u,if_neg z,if_pos rfl]
 rw[if_pos z]at u;obtain⟨v0,Y⟩:=z;have Z:=(aA.1 Y).1;have m:(BR x.FP name).length=x.FP.length-1:=by rw[u];simp;omega
 rw[if_neg om]at g;have H1:=Iy H
 have H2:=H1.perm (M:=.own 142 2 y.aa x.FP.length y.ac (atC x.FP)::.blk y.b (yL y ⟨id,q,x,xJ k⟩) 139::.own 3 1 y.ka (xJ k).length y.kc (AO (xJ k))::(.blk b (yX t (Af F) T.next) 119::.Z6 t .i64 (xe (D++(y,(⟨id,q,x,xJ k⟩:En))::G))::(Bl (D++G)++[]))) (by
  refine AL λff gg h0 hc l ab=>?_;simp only[yl,l,hc,h0];omega)
 refine AA rfl ⟨y.aa,x.FP.length,y.ac,by rw[add_lit];exact U,iR,?_⟩;refine AC (lDelAt_spec y.aa x.FP.length y.ac (yG x.FP name) (atC x.FP) w4 (H2.xh (.head _)) (Na _) Z) ?_;rintro _ w5 ⟨rfl,C⟩;replace C:=H2.Bg C
 have ad:(atC x.FP).take (yG x.FP name*2)++(atC x.FP).drop ((yG x.FP name+1)*2)=atC (BR x.FP name):=by
  rw[u,Gp,ZF,Yk]
 rw[ad]at C;refine⟨_,_,_,rfl,AA rfl ?_⟩;rw[add_lit];refine Hp.st C.AX EQ4 yx rfl rfl (by simp[yL]) (cs':=yL y ⟨id,q,{x with FP:=BR x.FP name},xJ k⟩) (by rw[<- m];rfl) λw7 H5=>?_
 have H6:=KU (b:=b) (mb:=t) (root:=Af F) (next:=T.next) (A:=D) (Bw:=G) (y:=y) (e:=⟨id,q,x,xJ k⟩) (y':=y) (e':=⟨id,q,{x with FP:=BR x.FP name},xJ k⟩) (X:=[]) (B:=f) (w0:=_) (w:=w7) rfl rfl (H5.perm (by
  refine AL λff gg h0 hc l ab=>?_;simp only[yl,l,hc,h0,m];omega))
 obtain⟨r,H7⟩:=Ox p d hm hw (x':= {x with FP:=BR x.FP name}) rfl (Vr i N O ⟨λa l=>j.1 a (dO.1 l).1,lessA_rs j.2 _⟩ (by show(BR x.FP name).length<=20;omega) λa l=>R a (dO.1 l).1) H6;exact⟨r,by rw[g],by rw[g];exact H7⟩
def gSetText_spec{f:Nq}{b:Nat}{T:Tr}{w:Wq}(h:(AV f b T).ok w)(id:Int)(s:BA)(G:s.size<=maxLen):
  CP 96 #[pq b,I id,.string s] w λe w'=>∃l,e=Ej (I (T.Bv id s).2)/\Hp f w w' [AV l b (T.Bv id s).1]:=by
 apply Jbh;have j:Hp f w w [AV f b T]:=BU h;obtain⟨M,⟨F,m,J,K,N,rfl⟩,H,hf⟩:=j.unpack;have same:∀(w':Wq)(c:Int),Hp f w w' [AV f b T]->T.Bv id s=(T,c)->∃l,Ending.returned (I c)=Ej (I (T.Bv id s).2)/\Hp f w w' [AV l b (T.Bv id s).1]:=λw' c O e=>⟨f,by rw[e],by rw[e];exact O⟩;obtain⟨R,u,n,C⟩:=Xi m.nodup N id;refine AA rfl ⟨_,H.lo nMN,R,(xZ (xe K) id).isSome,H.Np Ei EQ4 m1 u rfl,Es (λp=>?_) (λp=>?_)⟩
 ·refine same _ _ j ?_;have g:AZ F 0 id=none:=az λi=>by rw[n.2 i]at p;cases p
  rw[Tr.Bv,(m.noRow g).2]
 obtain⟨⟨q,x,k⟩,g⟩:∃z,AZ F 0 id=some z:=dw.1 (n.1 p);obtain⟨U,y,X,o,rfl,Y⟩:=C g;obtain⟨A,B,v,Z,aa,D,_⟩:=m.rows g
 have d:T.Bv id s=if x.kind≠2 then((T,68):Tr×Int)else if BH s≠0 then(T,BH s)else(⟨KAn T.L A.length ⟨id,v,x⟩ {x with text:=s},T.next⟩,0):=by
  rw[Tr.Bv,D]
 have hL:∀a∈yl (y,(⟨id,q,x,xJ k⟩:En)),a∈xU b J (Af F) T.next K++[]:=λa ha=>aS _ (Ea (by rw[o];simp) ha);refine AA rfl ⟨x.kind,by rw[add_lit];exact H.ld EQ4 xK (hL _ (.head _)) rfl,AQ (λi=>same _ _ j (by rw[d,if_pos i])) (λi=>?_)⟩;rw[if_neg (λh=>h i)]at d;refine AC (KL s G w) ?_;rintro _ w3 ⟨rfl,r⟩;replace j:=j.xN r;replace H:=H.xN r;refine⟨_,rfl,AQ (λt=>?_) (λt=>?_)⟩
 ·refine AC (KL s G w3) ?_;rintro _ w4 ⟨rfl,r⟩;exact⟨_,rfl,same _ _ (j.xN r) (by rw[d,if_pos t])⟩
 rw[if_neg (λh=>h t)]at d;subst o;have H1:=Iy H;refine AA rfl ?_;rw[add_lit];refine Hp.st H1 EQ4 xx rfl rfl (by simp[yL]) rfl λw7 H5=>?_;have H6:=KU (mb:=J) (root:=Af F) (next:=T.next) (A:=U) (Bw:=X) (y:=y) (e:=⟨id,q,x,xJ k⟩) (y':=y) (e':=⟨id,q,{x with text:=s},xJ k⟩) (w0:=_) rfl rfl H5;have ht:=parts_text (Su m g) i;obtain⟨l,H7⟩:=Ox m g Z N (x':= {x with text:=s}) rfl ((text_parts (x:= {x with text:=s}) i ht).trans t) H6;exact⟨l,by rw[d],by rw[d];exact H7⟩
end
end Go.Proofs.YtljenkbpnioipaaGreat
namespace Go.Vc
open Go
def rest_step{α:Type}{kv:α->Value×Value}{c:Array MapEntry}{a:Array Nat}{e:MapEntry}{l:List α}(h:((Ey c a).map λe=>(e.key,e.val)).Perm (l.map kv))(m:(Ey c a).Perm (e::Ey c (a.push e.born))):
  ∃d r g,l=d++r::g/\(e.key,e.val)=kv r/\((Ey c (a.push e.born)).map λe=>(e.key,e.val)).Perm ((d++g).map kv)/\(Ey c (a.push e.born)).length<(Ey c a).length:=by
 have i:(e.key,e.val)∈l.map kv:=h.mem_iff.1 (aU.2 ⟨e,m.mem_iff.2 (.head _),rfl⟩);obtain⟨r,n,j⟩:=aU.1 i;obtain⟨d,g,rfl⟩:=gI n;refine⟨d,r,g,rfl,j.symm,?_,by have:=m.length_eq;simp at this;omega⟩
 have o:((e.key,e.val)::(Ey c (a.push e.born)).map λe=>(e.key,e.val)).Perm ((e.key,e.val)::((d++g).map kv)):=by
  refine((m.map λe=>(e.key,e.val)).symm.trans h).trans ?_;rw[<- j];exact(bP (l₁:=d) (l₂:=g)).map _
 exact(List.perm_cons _).1 o
def Y6{α:Type}{kv:α->Value×Value}{l:List MapEntry}{c:List α}(a:(l.map λe=>(e.key,e.val)).Perm (c.map kv))(h:l=[]):c=[]:=by
 subst h;have:=a.length_eq;simp at this;exact ay this.symm
end Go.Vc
namespace Go.Nod
theorem UQ:∀(F:Fo)(p:Int),FOk F->∀e∈xO F p,Ap e.x=0
 |.nil,_,_,e,h=>by rw[xO]at h;cases h
 |.cons i x k s,p,h,e,a=>by
  rw[xO,aP,aT]at a;rcases a with rfl|a|a
  ·exact h.1
  ·exact UQ k i h.2.2.1 e a
  exact UQ s p h.2.2.2 e a
def Mid.parent{F:Fo}{i q:Int}{x:NX}{k:Fo}{A B:List Rw}{v:Int}(m:Mid F 0 i 0 q x k A B v):AY (flat F 0) A.length=q:=by
 rcases m.up with⟨a,c⟩|⟨_,A1,y,A2,d,e⟩
 ·rw[AY,m.here];rw[m.fl,iq,a];refine KW A 0 λz g=>?_;rw[c];exact Bh F 0 z (by rw[m.fl];exact aS _ g)
 rw[m.fl];subst d;exact parent_mid rfl e
end Go.Nod
namespace Go.Proofs.YtljenkbpnioipaaGreat
noncomputable section
open Go Go.Vc Go.Nod
def Sj{w:Wq}{d:Nat}{e:TypeId}{sz:Nat}{a:OA}{n c:Nat}{xs:LV}(h:Own w d e sz a n c xs):a=none->n=0:=λe=>by
 rcases h.2 with⟨_,j,_⟩|⟨g,_,_,i,_⟩
 ·exact j
 rw[e]at i;cases i
def wB{F:Fo}{T:Tr}(c:Am F T){a:List (NW×En)}(d:Dv F a):∀p∈a,p.2.x.FP.length<=1000:=λp e=>by
 have:=(DC (UQ F 0 c.ok p.2 (d.mem_iff.1 (aU.2 ⟨p,e,rfl⟩)))).1;omega
section
variable{f:List Nat}{b:Nat}{T:Tr}{w:World}
def JZ(h:(AV f b T).ok w):CP 28 #[pq b] w λe w'=>∃g a c,e=Ej (.slice a T.L.length c)/\Hp f w w' [AV g b T,.own 3 1 a T.L.length c (AO (T.L.map (·.id)))]:=by
 have o:Hp f w w [AV f b T]:=BU h;obtain⟨M,⟨F,d,i,j,l,rfl⟩,H,y⟩:=o.unpack;have p:=Vx d;have z:=Bf d;have m:=d.len;refine Calls.mono (gOrder_w d.nodup om l H.KCE) ?_;rintro _ A ⟨a,c,rfl,q⟩;have n:=H.KEX q;rw[p]at n⊢
 obtain⟨g,r⟩:=(n.perm (M:=xU b i (Af F) T.next j++[.own 3 1 a T.L.length c (AO (T.L.map (·.id)))]) (by
  refine AL λff B s t u x=>?_;simp only[u,t,s];omega)).D5 (Q:=Md b T) ⟨F,d,i,j,l,rfl⟩
 exact⟨g,a,c,rfl,r⟩
def MQ(h:(AV f b T).ok w):CP 32 #[pq b,I (TU T)] w λe w'=>∃i a c ss,e=Ej (.slice a T.L.length c)/\KCh (T.L.map Ac) ss/\
  Hp f w w' (AV i b T::.own 123 5 a T.L.length c (yK (T.L.map Ac) ss)::Bo (T.L.map Ac) ss):=by
 have r:Hp f w w [AV f b T]:=BU h;obtain⟨M,⟨F,d,m,j,l,rfl⟩,H,C⟩:=r.unpack;have s:=Vx d;have D:=Bf d;have n:=d.len;have g:∀p∈j,p.2.x.FP.length<=1000:=wB d l;have:=gItems_w d.nodup om g l (Af F) H.KCE;rw[show TU T=Af F from(tJ d).symm];refine Calls.mono this ?_;rintro _ G ⟨a,c,ss,rfl,o,t⟩;have q:=H.KEX t;rw[s]at q o⊢
 obtain⟨i,u⟩:=(q.perm (M:=xU b m (Af F) T.next j++(.own 123 5 a T.L.length c (yK (T.L.map Ac) ss)::Bo (T.L.map Ac) ss)) (by
  refine AL λff J y z A B=>?_;simp only[A,z,y];omega)).D5 (Q:=Md b T) ⟨F,d,m,j,l,rfl⟩
 exact⟨i,a,c,ss,rfl,o,u⟩
def QR(h:(AV f b T).ok w)(id:Int):CP 29 #[pq b,I id] w λe w'=>∃m,
  (atR T.L id=none/\e=Ej (.tuple #[.agg #[I 0,I 0,I 0,I 0,.string ⟨#[]⟩,.string ⟨#[]⟩,.slice none 0 0],.bool false])/\Hp f w w' [AV m b T])\/
  ∃n r a c kd,atR T.L id=some (n,r)/\e=Ej (.tuple #[.agg #[I id,I (AY T.L n),I r.x.kind,I kd,.string r.x.name,.string r.x.text,.slice a r.x.FP.length c],.bool true])/\r.x.FP.length<=20/\
   Hp f w w' [AV m b T,.own 142 2 a r.x.FP.length c (atC r.x.FP)]:=by
 apply Ja2;have H0:Hp f w w [AV f b T]:=BU h;obtain⟨M,⟨F,l,J,C,K,rfl⟩,H,hf⟩:=H0.unpack;rw[aX]at H;intro zb w1 N;have p:=H.nw N;obtain⟨pv,O,s,U⟩:=Xi l.nodup K id;refine AA rfl ⟨_,p.lo nMN,pv,(xZ (xe C) id).isSome,p.Np Ei EQ4 m2 O rfl,Es (λD=>?_) (λD=>?_)⟩
 ·have d:AZ F 0 id=none:=az λh2=>by rw[s.2 h2]at D;cases D
  refine Hp.stA p EQ4 LG rfl rfl (by simp) rfl λw2 G=>?_;refine⟨0,0,0,0,⟨#[]⟩,⟨#[]⟩,none,0,0,G.loA LG,?_⟩;obtain⟨m,o⟩:=Zy l K (by rw[aX];exact G.drop);exact⟨m,.inl ⟨(l.noRow d).2,rfl,o⟩⟩
 obtain⟨⟨q,x,k⟩,d⟩:∃z,AZ F 0 id=some z:=dw.1 (s.1 D);obtain⟨Aw,y,Bw,X,rfl,ae⟩:=U d;obtain⟨A,B,v,hm,af,Y,_⟩:=l.rows d;have t:∀a∈yl (y,(⟨id,q,x,xJ k⟩:En)),a∈xU b J (Af F) T.next C:=λa Z=>Ea (by rw[X];simp) Z;have ab:=(DC (Su l d)).1;refine AA rfl ⟨id,q,x.kind,0,x.name,x.text,y.aa,x.FP.length,y.ac,p.ldA EQ4 LG (.tail _ (t _ (.head _))) rfl rfl,?_⟩;intro b2 w2 ad;have G:=p.nw ad;refine Hp.sA G LG (cs':=[I id,I q,I x.kind,I 0,.string x.name,.string x.text,.slice y.aa x.FP.length y.ac]) λw3 o=>?_;have j:Own w3.drew 0 142 2 y.aa x.FP.length y.ac (atC x.FP):=(o.drew).xh (t2 (t _ m1));refine AA rfl ⟨y.ka,(xJ k).length,y.kc,by rw[add_lit];exact o.ld EQ4 nSI (t2 (t _ (.head _))) rfl,AA rfl ⟨y.aa,x.FP.length,y.ac,by rw[add_lit];exact o.ld EQ4 yx (t2 (t _ (.head _))) rfl,?_⟩⟩;refine AC (HY y.aa x.FP.length y.ac (atC x.FP) w3.drew j.cells (NP _) (Na _) (Sj j) om) ?_;rintro _ w4 ⟨g,i,rfl,Hc⟩;have H4:=o.drew.yC Hc;refine⟨g,_,i,rfl,by rw[add_lit];exact H4.ld EQ4 nSI (t3 (t _ (.head _))) rfl,?_⟩;refine Hp.s1 H4.AX xK (cs':=[I id,I q,I x.kind,I ((xJ k).length:Int),.string x.name,.string x.text,.slice y.aa x.FP.length y.ac]) λw5 H5=>?_;refine Hp.s1 H5 yx (cs':=[I id,I q,I x.kind,I ((xJ k).length:Int),.string x.name,.string x.text,.slice g x.FP.length i]) λw6 H6=>?_;refine⟨id,q,x.kind,((xJ k).length:Int),x.name,x.text,g,x.FP.length,i,H6.loA LG,?_⟩;refine Hp.sA H6.BF LG (cs':=[I id,I q,I x.kind,I ((xJ k).length:Int),.string x.name,.string x.text,.slice g x.FP.length i]) λw7 H7=>?_;refine⟨id,q,x.kind,((xJ k).length:Int),x.name,x.text,g,x.FP.length,i,H7.loA LG,?_⟩
 have H8:Hp f w w7 (xU b J (Af F) T.next C++[.own 142 2 g x.FP.length i (atC x.FP)]):=Hp.BM (R:=[.blk zb [I id,I q,I x.kind,I ((xJ k).length:Int),.string x.name,.string x.text,.slice g x.FP.length i] 71,.blk b2 [I id,I q,I x.kind,I ((xJ k).length:Int),.string x.name,.string x.text,.slice g x.FP.length i] 71]) (H7.perm (by
  refine AL λff gg h0 hc Z ag=>?_;simp only[Z,hc,h0];omega))
 obtain⟨m,H9⟩:=H8.D5 (Q:=Md b T) ⟨F,l,J,C,K,rfl⟩;have u:AY T.L A.length=q:=by rw[<- l.fl];exact hm.parent
 exact⟨m,.inr ⟨A.length,⟨id,v,x⟩,g,i,((xJ k).length:Int),Y,by rw[u],ab,H9⟩⟩
end
end
noncomputable section
open Go Go.Vc Go.Nod
def nundMN:PP.underlying 117=some (.map 3 136):=by kernel_rfl
def nodM_app(a b:List (NW×En)):xe (a++b)=xe a++xe b:=by simp[xe]
def nodsL_app(a b:List (NW×En)):Bl (a++b)=Bl a++Bl b:=by simp[Bl]
def SC{f:List Nat}{b:Nat}{T:Tr}{w:World}(h:(AV f b T).ok w):
  Calls Tryz.prog 49 #[.pointer (some ⟨b,0,none⟩)] w λe w'=>∃f1 f2 b',e=.returned (.pointer (some ⟨b',0,none⟩))/\Hp f w w' [AV f1 b T,AV f2 b' T]:=by
 apply Jau;have H0:Hp f w w [AV f b T]:=BU h;obtain⟨M,⟨F,hG,j,l,hw,rfl⟩,H,hf⟩:=H0.unpack;rw[aX]at H;have ad:=wB hG hw;have hn:=hG.nodup;have a5:=hG.len;have a6:=Bf hG
 have ae:∀p∈l,p.2.kids.length<=1000:=λp hp=>by
  have:=Ik F 0 p.2 (hw.mem_iff.1 (aU.2 ⟨p,hp,rfl⟩));omega
 refine AA rfl ⟨Af F,by rw[add_lit];exact H.lo xK,AA rfl ⟨T.next,by rw[add_lit];exact H.lo xK,?_⟩⟩;intro r w1 am;have H1:=H.KDN EQ4 .i64 am;refine⟨by rw[add_lit];exact H1.lo xK,by rw[add_lit];exact H1.lo xK,?_⟩;intro C w2 an;have L:=H1.new (cs:=yX r (Af F) T.next) EQ4 an;refine AA rfl ⟨some j,L.lo nMN,?_⟩
 replace L:=L.perm (M:=.Z6 j .i64 (xe l)::(.blk C (yX r (Af F) T.next) 119::.Z6 r .i64 []::.blk b (yX j (Af F) T.next) 119::Bl l)) (by
  refine AL λff gg t D u G=>?_;simp only[xU,u,D,t];omega)
 obtain⟨J,d,hb,hr,af,ho⟩:MapAt (Dn .i64) w2 j (xe l):=L.ok _ (.head _);replace L:Hp f w w2 (yE j (.map J d)::(.blk C (yX r (Af F) T.next) 119::.Z6 r .i64 []::.blk b (yX j (Af F) T.next) 119::Bl l)):=L.set (Chg.refl _ _) (TD hb) (λk hk=>.inl hk);refine L.rng EQ4 nundMN hb ?_;intro it w3 H3
 refine xI.mk (λ(m:Nat)(s:PUnit)(w':World)=>∃(g:Array Nat)(N rs n:List (NW×En)),m=(Ey J g).length/\(N++rs).Perm l/\n.map (·.2)=N.map (·.2)/\
  ((Ey J g).map λe=>(e.key,e.val)).Perm (rs.map λp=>(Value.int .i64 p.2.id,Value.pointer (some ⟨p.1.b,0,none⟩)))/\
  Hp f w w' (yE it (.mapIter (some j) d g d)::yE j (.map J d)::.blk b (yX j (Af F) T.next) 119::(Bl l++xU C r (Af F) T.next n))) (Ey J #[]).length
  ⟨#[],[],l,[],rfl,.refl _,rfl,?_,H3.perm ?_⟩ ?_
 ·rw[Ro];have ao:J.toList.map (λe=>(e.key,e.val))=(xe l).map λq=>((Dn .i64).enc q.1,q.2):=hr;rw[ao,xe,dB];exact .refl _
 ·refine AL λff gg t D u G=>?_;simp only[xU,xe,Bl,jC,lY,u,D,t];omega
 rintro m s w4 next ⟨g,N,rs,n,rfl,i,O,ag,H4⟩ R
 refine H4.nxt EQ4 (H4.obj m1) ho af ?_ ?_
 ·intro t;have ap:=Y6 ag t;subst ap;rw[aX]at i
  have aq:Dv F n:=by
   show(n.map (·.2)).Perm _;rw[O];exact(i.map _).trans hw
  have U:=H4.drop;replace U:Hp f w w4 (.Z6 j .i64 (xe l)::(.blk b (yX j (Af F) T.next) 119::(Bl l++xU C r (Af F) T.next n))):=U.set (Chg.refl _ _) ⟨J,d,U.obj (.head _),hr,af,ho⟩ (λk hk=>.inl hk)
  have H6:Hp f w w4 (xU b j (Af F) T.next l++(xU C r (Af F) T.next n++[])):=U.perm (by
   refine AL λff gg t D u G=>?_;simp only[xU,u,D,t];omega)
  obtain⟨f1,H7⟩:=H6.D5 (Q:=Md b T) ⟨F,hG,j,l,hw,rfl⟩;obtain⟨f2,H8⟩:=(H7.perm bP.symm:Hp f w w4 (xU C r (Af F) T.next n++[AV f1 b T])).D5 (Q:=Md C T) ⟨F,hG,r,n,aq,rfl⟩;exact⟨f1,f2,C,rfl,H8.AX⟩
 intro e w5 he hp U A;obtain⟨l1,⟨y,c⟩,l2,rfl,ar,X,av⟩:=rest_step ag hp;injection ar with hk1 hk2
 rw[hk1,hk2]at A;have Y:(y,c)∈l:=i.mem_iff.1 (aI _ (by simp));have aw:=ad _ Y;have a0:=ae _ Y;dsimp only at aw a0 A;have hL:∀a∈yl (y,c),a∈Bl l:=Ze Y;refine⟨c.id,some ⟨y.b,0,none⟩,_,A,?_⟩;refine AA rfl ⟨c.id,c.par,c.x.kind,0,c.x.name,c.x.text,y.aa,c.x.FP.length,y.ac,y.ka,c.kids.length,y.kc,U.ldA (o:=0) (cs:=yL y c) EQ4 wH (t3 (aS _ (hL _ (.head _)))) rfl rfl,?_⟩;intro xb w6 a1;have H6:=U.nw a1;refine Hp.sA H6 wH (cs':=yL y c) λw7 H7=>?_;have B:∀{a:Asn},a∈yl (y,c)->a∈(Asn.blk xb (yL y c) 139::yE it (.mapIter (some j) d (g.push e.born) d)::yE j (.map J d)::.blk b (yX j (Af F) T.next) 119::(Bl l++xU C r (Af F) T.next n)):=λu=>.tail _ (t3 (aS _ (hL _ u)));refine AA rfl ⟨y.ka,c.kids.length,y.kc,by rw[add_lit];exact H7.ld (o:=7) (cs:=yL y c) EQ4 nSI (B (.head _)) rfl,AA rfl ⟨y.aa,c.x.FP.length,y.ac,by rw[add_lit];exact H7.ld (o:=6) (cs:=yL y c) EQ4 yx (B (.head _)) rfl,?_⟩⟩;have ah:Own w7.drew 0 3 1 y.ka c.kids.length y.kc (AO c.kids):=(H7.drew).xh (B m2);refine AC (lCloneI_spec y.ka c.kids.length y.kc (AO c.kids) w7.drew ah.cells (by rw[XG,bV]) (NE _) (Sj ah) om) ?_;rintro _ w8 ⟨Z,kc,rfl,Hk⟩;have H8:=H7.drew.yC Hk;refine⟨Z,_,kc,rfl,by rw[add_lit];exact H8.ld (o:=6) (cs:=yL y c) EQ4 yx (.tail _ (B (.head _))) rfl,?_⟩;have ak:Own w8 0 142 2 y.aa c.x.FP.length y.ac (atC c.x.FP):=H8.xh (.tail _ (B m1));refine AC (HY y.aa c.x.FP.length y.ac (atC c.x.FP) w8 ak.cells (NP _) (Na _) (Sj ak) om) ?_;rintro _ w9 ⟨aa,ac,rfl,Ha⟩;have H9:=H8.yC Ha;refine⟨aa,_,ac,rfl,?_⟩;refine Hp.st (o:=7) H9.BF EQ4 nSI rfl rfl (by simp[yL]) (cs':=yL {y with ka:=Z,kc:=kc} c) rfl λa7 a2=>?_;rw[add_lit];refine Hp.st (o:=6) a2 EQ4 yx rfl rfl (by simp[yL]) (cs':=yL {y with ka:=Z,kc:=kc,aa:=aa,ac:=ac} c) rfl λa8 ab=>?_;obtain⟨z,hz⟩:∃z:NW,z=⟨xb,aa,ac,Z,kc⟩:=⟨_,rfl⟩;have a3:yL {y with ka:=Z,kc:=kc,aa:=aa,ac:=ac} c=yL z c:=by rw[hz];rfl
 rw[a3]at ab;refine⟨some r,ab.ld (o:=0) (cs:=yX r (Af F) T.next) EQ4 nMN (t6 (aI _ (.head _))) rfl,?_⟩
 have a4:=ab.perm (M:=.Z6 r .i64 (xe n)::(.blk C (yX r (Af F) T.next) 119::.blk xb (yL z c) 139::.own 142 2 aa c.x.FP.length ac (atC c.x.FP)::.own 3 1 Z c.kids.length kc (AO c.kids)::yE it (.mapIter (some j) d (g.push e.born) d)::yE j (.map J d)::.blk b (yX j (Af F) T.next) 119::(Bl l++Bl n))) (by
  refine AL λff gg t D u G=>?_;simp only[xU,u,D,t];omega)
 refine Hp.KCj Ei a4 EQ4 λa9 al=>?_
 have K:c.id∉(xe n).map (·.1):=by
  have h1:((N++(l1++(y,c)::l2)).map λp=>p.2.id).Nodup:=by
   have h2:=hw.apart hn;rw[FN,xe,dB]at h2;exact((i.map λp=>p.2.id).nodup_iff).2 h2
  have e1:(xe n).map (·.1)=N.map λp=>p.2.id:=by
   have:=congrArg (List.map En.id) O;rw[dB,dB]at this;rw[xe,dB];exact this
  rw[e1];rw[ai,bG]at h1;intro hm;exact h1.2.2 c.id hm c.id (aU.2 ⟨(y,c),by simp,rfl⟩) rfl
 rw[MZ _ _ _ K]at al;refine R _ _ _ av ⟨g.push e.born,N++[(y,c)],l1++l2,n++[(z,c)],rfl,?_,?_,X,al.perm ?_⟩
 ·refine List.Perm.trans ?_ i;rw[ax];exact(bP (a:=(y,c)) (l₁:=l1) (l₂:=l2)).symm.append_left N
 ·rw[ai,ai,O];rfl
 have e1:xe (n++[(z,c)])=xe n++[(c.id,.pointer (some ⟨xb,0,none⟩))]:=by rw[nodM_app,hz];rfl
 refine AL λff gg t D u G=>?_;have e2:Bl [(z,c)]=[.blk xb (yL z c) 139,.own 142 2 aa c.x.FP.length ac (atC c.x.FP),.own 3 1 Z c.kids.length kc (AO c.kids)]:=by rw[hz];rfl
 simp only[Q,xU,e1,e2,nodsL_app,u,D,t];omega
end
end Go.Proofs.YtljenkbpnioipaaGreat
namespace Go.Nod
noncomputable section
open Classical
def yH(r:Rw):It:=⟨r.level,r.x⟩
theorem rows_row{L:List Rw}{k:Nat}{x:It}(h:(L.map yH)[k]? =some x):∃i,L[k]? =some ⟨i,x.level,x.x⟩:=by
 rw[au]at h;cases hr:L[k]? with
 |none=>rw[hr]at h;cases h
 |some r=>rw[hr]at h;cases h;exact⟨r.id,rfl⟩
theorem UJ:∀(L:List Rw),LC (L.map (·.id)) (L.map yH)=L
 | []=>rfl
 |r::L=>by
  have:=UJ L;rw[LC]at this⊢;rw[aj,aj,nX,this];rfl
def PI{F:Fo}{b:Int}(f:FOk F){L:List Rw}(h:flat F 0=L):Vu (L.map yH):=by
 intro k x g;obtain⟨i,a⟩:=rows_row g;rw[<- h]at a;refine⟨?_,λe=>?_,λy l j=>?_⟩
 ·have:=Bh F 0 _ (aC a);dsimp only at this;omega
 ·subst e;have:=Fj F 0 _ (by rw[gJ];exact a);exact this
 obtain⟨m,d⟩:=rows_row j;rw[<- h]at d;obtain⟨c,rfl⟩:∃c,k=c+1:=⟨k-1,om⟩;have:=(S9 _ c _ _ (Ll F 0 f) d a).1;dsimp only at this;omega
def YQ{F:Fo}{T:Tr}(b:Am F T):∀(k:Nat)(x:It),0<k->(T.L.map yH)[k]? =some x->1<=x.level:=by
 intro j y g d;obtain⟨i,a⟩:=rows_row d;rw[<- b.fl]at a;rcases b.one with e|⟨h,l,f,e,_⟩
 ·rw[e]at a;simp[flat]at a
 rw[e,flat,flat,aX]at a;obtain⟨c,rfl⟩:∃c,j=c+1:=⟨j-1,om⟩;rw[bI]at a;have:=Bh f (0+1) _ (aC a);dsimp only at this;omega
def Tm{F:Fo}{T:Tr}(a:Am F T)(f:T.L≠[]):(Dp (T.L.map yH)).2=0:=by
 rw[Dp,if_neg (by simpa using f),NJ];intro k x g;rw[cZ];obtain⟨i,d⟩:=rows_row g;have c:=PI (b:=0) a.ok a.fl k x g;have n:=a.deep _ (aC d);have s:=(aA.1 d).1;have o:=a.len;have t:Ap x.x=0:=GH F 0 a.ok ⟨i,x.level,x.x⟩ (by rw[a.fl];exact aC d)
 have j:Bi (T.L.map yH) k x=0:=by
  rw[Bi];by_cases u:k=0
  ·subst u
   have w:x.x.kind=1:=by
    rcases a.one with e|⟨D,z,G,e,p⟩
    ·exact(f (by rw[<- a.fl,e];rfl)).elim
    rw[<- a.fl,e,flat,dI]at d;have A:z=x.x:=congrArg Rw.x (Option.some.inj d);rw[<- A];exact p
   have H:=c.2.1 rfl;rw[if_neg om,if_neg om,if_neg (by dsimp only at n;omega),if_neg om]
  have p:=YQ a k x om g
  have B:¬∃y,(T.L.map yH)[k-1]? =some y/\(y.level+1<x.level\/(y.level<x.level/\y.x.kind=2)):=by
   rintro⟨y,q,l⟩;have J:=c.2.2 y om q;obtain⟨K,C⟩:=rows_row q;obtain⟨m,rfl⟩:∃m,k=m+1:=⟨k-1,om⟩;have r:=(S9 T.L m _ _ (by rw[<- a.fl];exact Ll F 0 a.ok) C d).2;dsimp only at r;rcases l with l|⟨l,M⟩
   ·omega
   have:=r om;omega
  rw[if_neg om,if_neg (λh=>h.2.elim om B),if_neg (by dsimp only at n;omega),if_neg om]
 rw[zN,if_pos j,t]
end
end Go.Nod
namespace Go.Proofs.YtljenkbpnioipaaGreat
noncomputable section
open Go Go.Vc Go.Nod
def Z9:KAa PP (Dn .i64) 281 3 3 (I 0):=⟨by kernel_rfl,by kernel_rfl,by kernel_rfl⟩
theorem NU(l:List (Int×Value))(k x:Int)(v:Value):xZ (xY l k v) x=if x=k then some v else xZ l x:=by
 induction l with
 |nil=>simp[xY,xZ]
 |cons p r b=>
  obtain⟨y,u⟩:=p;simp only[xY];by_cases h:k=y
  ·subst h;simp only[if_true,xZ];by_cases a:x=k<;>simp[a]
  simp only[if_neg h,xZ,b];by_cases a:x=y
  ·subst a;simp[Ne.symm h]
  simp[a]
theorem gRestore_spec{F:Fo}{T:Tr}(hG:Am F T)(la:OA)(n lc:Nat)(ss:List Sl3)(za:OA)(zn zc:Nat)(w:Wq)(hA:CW [] w la n (T.L.map yH) ss)(hz:Cells w za (AO (T.L.map (·.id))))(hzn:zn=T.L.length):
  CP 136 #[.slice la n lc,.slice za zn zc,I T.next] w λe w'=>∃f b,e=Ej (.tuple #[pq b,I 0])/\Hp [] w w' [AV f b T]:=by
 apply Jbe;have hlen:=hA.now.len;rw[aQ]at hlen;obtain rfl:zn=n:=om;have hlen2:=hG.len;have hnx:=hG.next;obtain⟨zs,hzs⟩:∃zs,zs=T.L.map (·.id):=⟨_,rfl⟩;rw[<- hzs]at hz;have hzi:zs=Nod.ids F:=by rw[hzs,<- hG.fl,BK]
 have hzl:zs.length=T.L.length:=by rw[hzs,aQ]
 have hpos:∀z∈zs,1<=z/\z<T.next:=λz h=>hG.pos z (by rw[<- hzi];exact h);have hznd:zs.Nodup:=by rw[hzi];exact hG.nodup
 refine AQ (λh=>by omega) (λ_=>AB (λh=>by omega) (λ_=>AB (λh=>by omega) (λ_=>?_)));refine AC (XZ w) ?_;rintro _ w1 ⟨b,f,rfl,H1⟩;obtain⟨M,⟨F0,hG0,mb,ws,hw,rfl⟩,H2,_⟩:=H1.unpack
 have hF0:F0=.nil:=by
  have:=Bf hG0;cases F0 with
  |nil=>rfl
  |cons i x k s=>simp[Nod.ids]at this
 subst hF0
 have hws:ws=[]:=by
  have:=hw.len;exact ay this
 subst hws;refine⟨_,rfl,AA rfl ?_⟩;rw[add_lit];refine Hp.st H2 EQ4 xK rfl rfl (by simp[yX]) rfl λw2 H3=>?_;have H3':Hp [] w w2 (xU b mb 0 T.next []):=H3;intro ub w3 hn3;have H4:=H3'.KDN EQ4 .i64 hn3;refine xI.mk (λm s w'=>∃(j:Nat)(al:List (Int×Value)),m=zn-j/\j<=zn/\s=(j:Int)/\(∀z∈zs.drop j,xZ al z=none)/\Hp [] w w' (.Z6 ub .i64 al::xU b mb 0 T.next [])) zn ⟨0,[],rfl,om,rfl,λz _=>rfl,H4⟩ ?_;rintro m s w4 nx ⟨j,al,rfl,hj,rfl,hal,H5⟩ hnx2;refine AB (λh=>?_) (λh=>?_)
 ·have hjl:j<zs.length:=om;have hzj:(AO zs)[j]? =some (I zs[j]):=by simp[AO,hjl]
  have hzc:Cells w4 za (AO zs):=hz.chg H5.chg (by simp);obtain⟨ad,had,_⟩:=hzc j _ hzj;have hp:=hpos zs[j] (eY hjl);have hno:xZ al zs[j]=none:=hal _ (by rw[<- jL hjl];exact .head _);refine AA had ⟨⟨om,h⟩,zs[j],by rw[aN,bV];exact hzc.ld xK had hzj,AB (λh2=>by omega) (λ_=>AB (λh2=>by omega) (λ_=>?_))⟩;refine⟨0,H5.lkI Z9 EQ4 (.head _) (by rw[hno];rfl),AB (λh2=>by omega) (λ_=>⟨0,H5.lkI Z9 EQ4 (.head _) (by rw[hno];rfl),iR,?_⟩)⟩;refine Hp.KCj Z9 H5 EQ4 λw5 H6=>⟨iR,hnx2 (zn-(j+1)) _ _ om ⟨j+1,_,rfl,om,by simp,λz hzz=>?_,H6⟩⟩;have hd:(zs.drop j).Nodup:=hznd.sublist (lF _ _);rw[<- jL hjl,bH]at hd;have hne:z≠zs[j]:=λe=>hd.1 (by rw[<- e];exact hzz);rw[NU,if_neg hne];exact hal z (by rw[<- jL hjl];exact .tail _ hzz)
 have hres:∀{ws':List (NW×En)}{w':Wq}{X:List Asn},Dv F ws'->Hp [] w w' (xU b mb (Af F) T.next ws'++X)->∃f b',Ending.returned (.tuple #[pq b,I 0])=Ej (.tuple #[pq b',I 0])/\Hp [] w w' [AV f b' T]:=λ{ws' w' X} hw' H=>by
  have H2:Hp [] w w' (xU b mb (Af F) T.next ws'++[]):=by rw[aX];exact H.BM
  obtain⟨f',H3⟩:=H2.D5 (Q:=Md b T) ⟨F,hG,mb,ws',hw',rfl⟩;exact⟨f',b,rfl,H3⟩
 refine AB (λh2=>?_) (λh2=>?_)
 ·have hT:T.L=[]:=ay om
  have hF:F=.nil:=by
   have:=Bf hG;rw[hT]at this;cases F with
   |nil=>rfl
   |cons i x k s=>simp[Nod.ids]at this
  subst hF;exact hres (ws':=[]) (jh _) (by rw[aX];exact H5.drop)
 have hne:T.L≠[]:=λe=>h2 (by rw[hlen,e];rfl);refine AC (JS la _ lc (T.L.map yH) ss w4 (hA.now.go H5) hA.len hA.sls hA.small) ?_;rintro _ w6 ⟨rfl,H'⟩;have H6:=H5.xN H';rw[Tm hG hne];refine⟨_,_,rfl,AQ (λh3=>by omega) (λ_=>?_)⟩;have H7:=H6.drop
 have hparts:∀x∈T.L.map yH,Ap x.x=0:=λx hx=>by
  obtain⟨r,hr,rfl⟩:=aU.1 hx;exact GH F 0 hG.ok r (by rw[hG.fl];exact hr)
 refine AC (Xv H7.std 0 0 la _ lc (T.L.map yH) ss za zc zs (λW hW=>hA.rd W (H7.KDH hW)) (λW hW=>hz.chg (H7.KDH hW) (by simp)) (by rw[hzl,aQ]) (by simpa using hne) om (hA.att hparts) (PI (b:=0) hG.ok hG.fl) (λ_=>YQ hG) ⟨0,0,⟨0,⟨#[]⟩,⟨#[]⟩,[]⟩,[]⟩ [] ?_ ?_ (λz hz=>by have:=hpos z hz;omega) ⟨om,by simp⟩ (by simp)) ?_
 ·exact .inl ⟨rfl,.refl _,rfl⟩
 ·rw[JM,if_pos rfl,aX];exact hznd
 rintro _ w7 ⟨ws',N,root,at',rfl,hI,H9⟩;have H10:=H7.GR H9
 have hfl:flat N 0=flat F 0:=by
  rw[hI.fl,hG.fl,aV om,aV (by rw[aQ];omega),hzs,UJ]
 have hNF:N=F:=MX N F 0 hfl;subst hNF
 obtain⟨hE,hroot⟩:(ws'.map (·.2)).Perm (xO N 0)/\root=Af N:=by
  rcases hI.xO with⟨_,h2,h3⟩|⟨h2,_⟩
  ·exact⟨h2,h3⟩
  exact(h2 rfl).elim
 rw[hroot]at H10;refine⟨_,rfl,hres hE (by rw[aX];exact H10)⟩
end
end Go.Proofs.YtljenkbpnioipaaGreat
namespace Go.Vc
open Go
def Own.only{w:Wq}{e:TypeId}{sz n c:Nat}{a:OA}{xs:LV}(h:Own w 0 e sz a n c xs){F:Nat}(d:F<=n):Own w 0 e sz a F F (xs.take (F*sz)):=by
 have f:F*sz<=n*sz:=dF _ d;refine⟨by rw[aJ,h.1];omega,?_⟩;rcases h.2 with⟨rfl,rfl,rfl⟩|⟨g,b,i,rfl,j,l,m,o,r,s,p⟩
 ·exact .inl ⟨rfl,om,om⟩
 have q:n*sz<=c*sz:=dF _ o;exact .inr ⟨g,b,i,rfl,j,l,m,aZ _,om,om,by rw[<- p,jE,fE f]⟩
end Go.Vc
namespace Go.Nod
noncomputable section
open Classical
def inS(n:Int):Prop:=0<=n/\n<=4611686018427387904
def GI(low wide k n:Int):Int:=low+wide/n*k+wide%n*k/n
def KBd(low high n:Int):Option (lI):=
 if inS low/\inS high/\0<=n/\n<=4096/\n<high-low then some ((List.range n.toNat).map λ(k:Nat)=>GI low (high-low) ((k:Int)+1) (n+1))else none
def part_bound{low wide k n:Int}(i:0<=wide)(f:0<=k)(a:k<=n)(g:0<n):0<=wide/n/\0<=wide%n/\wide%n<n/\0<=wide/n*k/\wide/n*k<=wide/\0<=wide%n*k/\wide%n*k<=n*n/\0<=wide%n*k/n/\wide%n*k/n<=wide%n/\wide/n*k+wide%n*k/n<=wide:=by
 have b:0<=wide/n:=oC i om;have c:0<=wide%n:=ni _ om;have j:wide%n<n:=pJ _ g;have l:0<=wide/n*k:=Int.mul_nonneg b f;have o:wide/n*k<=wide/n*n:=mF a b;have p:wide/n*n+wide%n=wide:=by rw[Int.mul_comm];exact oK wide n
 have h:0<=wide%n*k:=Int.mul_nonneg c f;have m:wide%n*k<=wide%n*n:=mF a c;have q:wide%n*n<=n*n:=Int.mul_le_mul_of_nonneg_right om om;have d:0<=wide%n*k/n:=oC h om
 have e:wide%n*k/n<=wide%n:=by
  have:wide%n*k/n<=wide%n*n/n:=nU g m
  rwa [oz _ om]at this
 exact⟨b,c,j,l,om,h,om,d,e,om⟩
end
end Go.Nod
namespace Go.Proofs.YtljenkbpnioipaaGreat
noncomputable section
open Go Go.Vc Go.Nod
def Pm(a:Option Addr)(n c:Nat)(l:List Int)(w:World)(h:Cells w a (AO l))(x:n=l.length)(r:n<=maxLen):
  Calls Tryz.prog 196 #[.slice a n c] w λe w'=>e=.returned (.bool (dec (∀z∈l,inS z)))/\w'=w:=by
 apply Jex;simp only[maxLen]at r;refine xI.mk (λm s w'=>∃j:Nat,m=n-j/\j<=n/\s=(j:Int)/\(∀z∈l.take j,inS z)/\w'=w) n ⟨0,rfl,om,rfl,by simp,rfl⟩ ?_;rintro m s _ y ⟨j,rfl,A,rfl,b,rfl⟩ o;refine AB (λp=>?_) (λp=>?_)
 ·have d:j<l.length:=om;have g:(AO l)[j]? =some (.int .i64 l[j]):=by simp[AO,d]
  obtain⟨B,i,_⟩:=h j _ g;refine AA i ⟨⟨om,p⟩,l[j],by rw[aN,bV];exact h.ld xK i g,AB (λt=>?_) (λt=>AB (λu=>?_) (λu=>⟨iR,?_⟩))⟩
  ·exact⟨by rw[Bz (q:=∀z∈l,inS z) λh=>by have:=(h _ (eY d)).1;omega],rfl⟩
  ·exact⟨by rw[Bz (q:=∀z∈l,inS z) λh=>by have:=(h _ (eY d)).2;omega],rfl⟩
  refine o (n-(j+1)) _ _ om ⟨j+1,rfl,om,rfl,λz f=>?_,rfl⟩;rw[aG d]at f;rcases aT.1 f with f|f
  ·exact b z f
  rw[aW.1 f];exact⟨om,om⟩
 have:j=l.length:=om;subst this;rw[bJ]at b;exact⟨by rw[DV b],rfl⟩
def sPart_spec(low wide k n:Int)(w:Wq)(m:0<=low)(b:0<=wide)(d:low+wide<=4611686018427387904)(f:0<=k)(c:k<=n)(g:0<n)(a:n<=100000):
  CP 224 #[I low,I wide,I k,I n] w λe w'=>e=Ej (I (GI low wide k n))/\w'=w.drew:=by
 apply Je1;obtain⟨o,p,q,r,s,h,t,u,x,i⟩:=part_bound (low:=low) b f c g;have j:wide/n<=wide:=Int.ediv_le_self n b;have l:n*n<=100000*100000:=Int.mul_le_mul a a om om;rw[iw b,mV b,iw h];exact⟨om,iR,iR,iR,om,iR,om,iR,iR,rfl,rfl⟩
def sBetween_spec(low d n:Int)(w:Wq)(hl: -9223372036854775807<=n/\n<=9223372036854775807):
  CP 162 #[I low,I d,I n] w λe w'=>
   (KBd low d n=none/\e=Ej (.tuple #[.slice none 0 0,.bool false])/\Hp [] w w' [])\/
   ∃l a c,KBd low d n=some l/\l.length=n.toNat/\e=Ej (.tuple #[.slice a n.toNat c,.bool true])/\Hp [] w w' [.own 3 1 a n.toNat c (AO l)]:=by
 apply Jev;refine xM.mk (λs w'=>s=dec (¬(inS low/\inS d/\0<=n/\n<=4096/\n<d-low))/\Hp [] w w' []) ?_ ?_;rotate_left
 ·intro J x b r B;have H:=(Hp.start w).nw B;have O:Cells r (Pq b) (AO [low,d]):=λj v M=>⟨_,rfl,by rw[add_lit,cZ];exact(H.blk (.head _)).cell M⟩;refine AC (Pm _ 2 2 [low,d] r O rfl (by simp[maxLen])) ?_;rintro _ _ ⟨rfl,rfl⟩;have g:(∀z∈[low,d],inS z)↔inS low/\inS d:=by simp
  refine⟨_,rfl,Hg (λh=>x _ _ ⟨DV λf=>h (g.2 ⟨f.1,f.2.1⟩),H.drop⟩) (λh=>?_)⟩;obtain⟨i,f⟩:=g.1 h;refine AB (λC=>x _ _ ⟨DV λt=>by omega,H.drop⟩) (λC=>AB (λt=>x _ _ ⟨DV λt=>by omega,H.drop⟩) (λt=>⟨DT.2 (by have:=i.1;have:=i.2;have:=f.1;have:=f.2;omega),x _ _ ⟨?_,H.drop⟩⟩));by_cases y:d-low<=n
  ·exact(decide_eq_true y).trans (DV λA=>by omega)
  exact(decide_eq_false y).trans (Bz λA=>A ⟨i,f,om,om,om⟩)
 rintro _ r ⟨rfl,H⟩;refine KAl (λh=>.inl ⟨by rw[KBd,if_neg h],rfl,H⟩) (λh=>?_);obtain⟨i,f,C,t,y⟩:=eU.1 h;have D:=i.1;have R:=i.2;have T:=f.1;have U:=f.2;obtain⟨m,rfl⟩:∃m:Nat,n=m:=⟨n.toNat,om⟩;obtain⟨L,F⟩:∃L,L=(List.range m).map λ(k:Nat)=>GI low (d-low) ((k:Int)+1) ((m:Int)+1):=⟨_,rfl⟩;have o:L.length=m:=by rw[F];simp
 have X:KBd low d m=some L:=by rw[KBd,if_pos ⟨i,f,C,t,y⟩,F];rfl
 rw[X];refine xI.mk (λq s w'=>∃(j:Nat)(a:OA)(c:Nat),q=m-j/\j<=m/\s=((a,j,c),(j:Int)+1)/\Hp [] w w' [.own 3 1 a j c (AO (L.take j))]) m ⟨0,none,0,rfl,om,rfl,H.yS 3 1⟩ ?_;rintro q s r nx ⟨j,a,c,rfl,M,rfl,H⟩ G;dsimp only;refine AB (λA=>?_) (λA=>?_)
 ·have p:j<m:=om;refine⟨iR,iR,?_⟩;refine AC (sPart_spec low (d-low) ((j:Int)+1) ((m:Int)+1) r D om om om om om om) ?_;rintro _ _ ⟨rfl,rfl⟩;refine⟨_,rfl,λb w2 K=>?_⟩;have N:=H.drew.nw K;refine Hp.app Kz om N.AX EQ4 (Blk.src LH (N.blk (.head _)) rfl rfl) (by simp only[maxLen];omega) om ?_;intro Y Z w3 H3;refine⟨iR,G (m-(j+1)) _ _ om ⟨j+1,Y,Z,rfl,om,by simp,?_⟩⟩;have u:L[j]? =some (GI low (d-low) ((j:Int)+1) ((m:Int)+1)):=by rw[F];simp[p]
  have e:AO (L.take (j+1))=AO (L.take j)++[I (GI low (d-low) ((j:Int)+1) ((m:Int)+1))]:=by
   rw[aG (aA.1 u).1,(aA.1 u).2];simp[AO]
  rw[e];exact H3.AX.drop
 have p:j=m:=om;subst p;rw[<- o,bJ,o]at H;exact .inr ⟨L,a,c,rfl,o,rfl,H⟩
def sIn_spec(a b c d:Int)(w:World):Calls Tryz.prog 197 #[.agg #[.int .i64 a,.int .i64 b],.agg #[.int .i64 c,.int .i64 d]] w λe w'=>e=.returned (.bool (dec (c<a/\b<d)))/\Hp [] w w' []:=by
 apply Jew;intro m n i;have H:=(Hp.start w).nw i;intro o p j;have f:=H.nw j;refine⟨c,f.lo xK,a,f.lo xK,AB (λh=>⟨b,f.lo xK,d,f.lo xK,?_,f.drop.drop⟩) (λh=>⟨by rw[Bz (q:=c<a/\b<d) λg=>h g.1],f.drop.drop⟩)⟩;by_cases g:b<d
 ·rw[<- DV (show c<a/\b<d from⟨h,g⟩),decide_eq_true g]
 rw[<- Bz (show¬(c<a/\b<d)from λl=>g l.2),decide_eq_false g]
def sAhead_spec(a b c d:Int)(w:Wq):CP 195 #[.agg #[I a,I b],.agg #[I c,I d]] w λe w'=>e=Ej (.bool (decide (b<c)))/\Hp [] w w' []:=by
 apply Jeu;intro i j f;have H:=(Hp.start w).nw f;intro l m g;have h:=H.nw g;exact⟨b,h.lo xK,c,h.lo xK,rfl,h.drop.drop⟩
end
end Go.Proofs.YtljenkbpnioipaaGreat
namespace Go.Nod
abbrev Sp:=Int×Int
structure LSt where
 op:Nq
 at_:Int
 out:List Sp
def Nk(out:List Sp)(k:Nat)(z:Int):List Sp:=out.set k ((out[k]?.getD (0,0)).1,z)
def O7(out:List Sp)(k:Nat)(z:Int):List Sp:=out.set k (z,(out[k]?.getD (0,0)).2)
def KCd(s:LSt):LSt:=⟨s.op.dropLast,s.at_+1099511627776,Nk s.out (s.op.getLastD 0) (s.at_+1099511627776)⟩
def KBA:Nat->LSt->LSt
 |0,s=>s
 |n+1,s=>KBA n (KCd s)
def Dt(d:Int)(s:LSt):LSt:=KBA (s.op.length-d.toNat) s
def KBG(k:Nat)(s:LSt):LSt:=⟨s.op++[k],s.at_+1099511627776,O7 s.out k (s.at_+1099511627776)⟩
def KEB:List It->Nat->LSt->LSt
 | [],_,s=>Dt 0 s
 |x::r,k,s=>KEB r (k+1) (KBG k (Dt x.level s))
def IJ(l:List It):List Sp:=(KEB l 0 ⟨[],0,List.replicate l.length (0,0)⟩).out
def vJ(s:LSt):(KCd s).op.length=s.op.length-1:=by rw[KCd,oW]
def pop_out(s:LSt):(KCd s).out.length=s.out.length:=by rw[KCd,Nk,bU]
theorem QK:∀(j:Nat)(s:LSt),KBA (j+1) s=KCd (KBA j s)
 |0,s=>rfl
 |j+1,s=>by rw[KBA,QK j];rfl
theorem Iq:∀(n:Nat)(s:LSt),n<=s.op.length->(KBA n s).op=s.op.take (s.op.length-n)/\(KBA n s).at_=s.at_+1099511627776*(n:Int)/\(KBA n s).out.length=s.out.length
 |0,s,_=>by simp[KBA]
 |n+1,s,h=>by
  obtain⟨a,b,c⟩:=Iq n (KCd s) (by rw[vJ];omega);rw[KBA];refine⟨?_,?_,by rw[c,pop_out]⟩
  ·rw[a,vJ];show(s.op.dropLast).take _=_;rw[kE,jE];congr 1;omega
  rw[b];show s.at_+1099511627776+_=_;omega
end Go.Nod
namespace Go.Proofs.YtljenkbpnioipaaGreat
noncomputable section
open Go Go.Vc Go.Nod
def BP(l:List Sp):LV:=l.flatMap λp=>[I p.1,I p.2]
theorem QT(l:List Sp):(BP l).length=l.length*2:=by
 induction l with
 |nil=>rfl
 |cons p r a=>simp only[BP,bW,aF,aK,dK]at a⊢;omega
def Ff(p:Sp)(r:List Sp):BP (p::r)=I p.1::I p.2::BP r:=rfl
def Xb(a b:List Sp):BP (a++b)=BP a++BP b:=by simp[BP]
theorem MV:∀{l:List Sp}{k:Nat}{p:Sp},l[k]? =some p->((BP l).drop (k*2)).take 2=[I p.1,I p.2]
 |x::r,0,p,h=>by simp at h;subst h;rfl
 |x::r,k+1,p,h=>by
  rw[bI]at h;rw[Ff,di,eF,eF];exact MV h
theorem Tq:∀{l:List Sp}{k:Nat}{p:Sp},l[k]? =some p->(BP l)[k*2]? =some (I p.1)
 |x::r,0,p,h=>by simp at h;subst h;rfl
 |x::r,k+1,p,h=>by
  rw[bI]at h;rw[Ff,di,bI,bI];exact Tq h
theorem SH:∀(l:List Sp)(k:Nat)(z:Int),k<l.length->(BP l).set (k*2+1) (I z)=BP (Nk l k z)
 |x::r,0,z,_=>rfl
 |x::r,k+1,z,h=>by
  have a:=SH r k z (by simpa using h);have e:Nk (x::r) (k+1) z=x::Nk r k z:=by simp[Nk]
  rw[e,Ff,Ff,di];show _::_::(BP r).set (k*2+1) _=_;rw[a]
theorem Q7:∀(l:List Sp)(k:Nat)(z:Int),k<l.length->(BP l).set (k*2) (I z)=BP (O7 l k z)
 |x::r,0,z,_=>rfl
 |x::r,k+1,z,h=>by
  have a:=Q7 r k z (by simpa using h);have e:O7 (x::r) (k+1) z=x::O7 r k z:=by simp[O7]
  rw[e,Ff,Ff,di];show _::_::(BP r).set (k*2) _=_;rw[a]
theorem made_sp(n:Nat):(madeCells (Value.agg #[I 0,I 0]).cells (n*2)).toList=BP (List.replicate n (0,0)):=by
 apply dN;intro k;have c:(Value.agg #[I 0,I 0]).cells= #[I 0,I 0]:=rfl
 have a:∀(m:Nat),BP (List.replicate m (0,0))=List.replicate (m*2) (I 0):=λm=>by
  induction m with
  |zero=>rfl
  |succ m d=>rw[o6,Ff,d,di];rfl
 rw[a,c];by_cases b:k<n*2
 ·have:(madeCells #[I 0,I 0] (n*2)).toList.length=n*2:=by rw[bT,size_madeCells]
  rw[aB om,gp,if_pos b];rcases Nat.mod_two_eq_zero_or_one k with h|h
  ·simp[madeCells,h]
  simp[madeCells,h]
 rw[bC (by rw[bT,size_madeCells];omega),gp,if_neg b]
def xC:Elt PP 187 62 2 16:=DU (by kernel_rfl)
def wSS:Scl PP 187:=BQ (by kernel_rfl)
def Fz:Agg PP 62 2:=DN (by kernel_rfl)
def wundS:PP.underlying 187=some (.slice 62):=by kernel_rfl
def KAf(l:Nq):LV:=AO (l.map λ(k:Nat)=>(k:Int))
def natC_app(a b:Nq):KAf (a++b)=KAf a++KAf b:=by simp[KAf,AO]
def natC_take(l:Nq)(n:Nat):(KAf l).take n=KAf (l.take n):=by simp[KAf,AO,iE]
def natC_at{l:Nq}{k v:Nat}(h:l[k]? =some v):(KAf l)[k]? =some (I (v:Int)):=by simp[KAf,AO,h]
def KCc(b0 b1 b2:Nat)(oa:OA)(oc:Nat)(ua:OA)(un:Nat)(s:LSt):List Asn:=
 [.blk b0 [.slice oa s.op.length oc] 59,.own 3 1 oa s.op.length oc (KAf s.op),.blk b1 [I s.at_] 3,.blk b2 [.slice ua un un] 187,.own 62 2 ua un un (BP s.out)]
def P7{B:Nq}{w0:Wq}{L:List Asn}(d:Int)(n b1 p:Nat)(a:OA)(Y:Nat)(f:OA)(b:Nat)(s:LSt)(w:Wq)(r:0<=d)(t:∀k∈s.op,k<s.out.length)(ab:b=s.out.length)(ac:s.op.length<=100000)(ae:0<=s.at_/\s.at_<=1099511627776*1000000)(H:Hp B w0 w (KCc n b1 p a Y f b s++L)):
  CP 165 #[I d,pq n,pq b1,pq p] w λe w'=>∃u,e=Ej (.tuple #[])/\Hp B w0 w' (KCc n b1 p a u f b (Dt d s)++L):=by
 apply Jez;refine xI.mk (λm _ w'=>∃(j:Nat)(c:Nat),m=s.op.length-j/\j<=s.op.length-d.toNat/\Hp B w0 w' (KCc n b1 p a c f b (KBA j s)++L)) s.op.length ⟨0,Y,rfl,om,H⟩ ?_;rintro m _ w1 nx ⟨j,c,rfl,hj,H⟩ x;obtain⟨y,f2,Z⟩:=Iq j s om;obtain⟨s1,h⟩:∃s1,s1=KBA j s:=⟨_,rfl⟩;rw[<- h]at H y f2 Z;have af:s1.op.length=s.op.length-j:=by rw[y,aJ];omega
 refine⟨a,s1.op.length,c,AA rfl (H.lo nSI),AB (λh1=>?_) (λh1=>?_)⟩
 ·have aa:0<s1.op.length:=om;refine⟨s1.at_,AA rfl (H.lo xK),iR,AA rfl ?_⟩;refine Hp.s1 H.BF xK (cs':=[I (s1.at_+1099511627776)]) λw2 i=>?_;refine⟨f,b,b,AA rfl (i.lo wSS),a,s1.op.length,c,AA rfl (i.lo nSI),a,s1.op.length,c,AA rfl (i.lo nSI),iR,?_⟩;obtain⟨z,A⟩:∃z,s1.op[s1.op.length-1]? =some z:=⟨_,aB om⟩
  have C:z=s1.op.getLastD 0:=by
   rw[nC,dZ,A];rfl
  have D:z<s1.out.length:=by
   rw[Z];refine t z ?_;have:z∈s1.op:=aC A;rw[y]at this;exact dJ this
  obtain⟨ad,G,J⟩:=i.ldO (w':=w2.drew) (o:=s1.op.length-1) EQ4 xK m2 (natC_at A);have e1:Int.toNat ((s1.op.length:Int)-1)*1=s1.op.length-1:=om;refine AA G ⟨⟨om,om⟩,(z:Int),by rw[e1];exact J,s1.at_+1099511627776,AA rfl (i.lo xK),?_⟩;have K:Own w2 0 62 2 f b b (BP s1.out):=i.xh m4;obtain⟨g,hg⟩:=K.D6 om;refine AA hg ⟨⟨om,om⟩,?_⟩;rw[aN,add_add];refine Hp.KEq (o:=z*2+1) i.drew.JH EQ4 xK hg rfl rfl (by rw[QT];omega) λw3 q=>?_;rw[SH _ _ _ D]at q;refine⟨a,s1.op.length,c,AA rfl (q.lo nSI),a,s1.op.length,c,AA rfl (q.lo nSI),iR,a,s1.op.length,c,AA rfl (q.lo nSI),iR,?_⟩;have l:Own w3 0 3 1 a s1.op.length c (KAf s1.op):=q.xh m3;have ag:=l.le;have e2:Int.toNat ((s1.op.length:Int)-1)=s1.op.length-1:=om;refine⟨⟨om,om,om⟩,AA rfl ?_⟩;rw[e2];refine Hp.s1 q.BF nSI (cs':=[.slice a (s1.op.length-1) (s1.op.length-1)]) λw4 H4=>?_;have l:Own w4 0 3 1 a s1.op.length c (KAf s1.op):=H4.xh m3
  have H5:Hp B w0 w4 (.own 3 1 a (s1.op.length-1) (s1.op.length-1) (KAf (s1.op.take (s1.op.length-1)))::(.blk n [.slice a (s1.op.length-1) (s1.op.length-1)] 59::.own 62 2 f b b (BP (Nk s1.out z (s1.at_+1099511627776)))::.blk b1 [I (s1.at_+1099511627776)] 3::.blk p [.slice f b b] 187::L)):=by
   refine(H4.perm (M:=.own 3 1 a s1.op.length c (KAf s1.op)::(.blk n [.slice a (s1.op.length-1) (s1.op.length-1)] 59::.own 62 2 f b b (BP (Nk s1.out z (s1.at_+1099511627776)))::.blk b1 [I (s1.at_+1099511627776)] 3::.blk p [.slice f b b] 187::L)) ?_).set (Chg.refl _ _) ?_ λk hk=>.inl hk
   ·refine AL λff gg r N O R=>?_;simp only[KCc,O,N,r,aY,aO];omega
   have:=l.only (F:=s1.op.length-1) om;rw[bV,natC_take]at this;exact this
  have T:KBA (j+1) s=KCd s1:=by rw[h,QK]
  have U:KCd s1=⟨s1.op.take (s1.op.length-1),s1.at_+1099511627776,Nk s1.out z (s1.at_+1099511627776)⟩:=by
   rw[KCd,kE,C]
  refine x (s.op.length-(j+1)) _ _ om ⟨j+1,s1.op.length-1,rfl,om,?_⟩;rw[T,U];refine H5.perm ?_;have e3:(s1.op.take (s1.op.length-1)).length=s1.op.length-1:=by rw[aJ];omega
  refine AL λff gg r N O R=>?_;simp only[KCc,e3,O,N,r];omega
 have X:j=s.op.length-d.toNat:=om;refine⟨c,rfl,?_⟩;rw[Dt,<- X,<- h];exact H
end
end Go.Proofs.YtljenkbpnioipaaGreat
namespace Go.Nod
def labS:List It->Nat->LSt->LSt
 | [],_,s=>s
 |x::r,k,s=>labS r (k+1) (KBG k (Dt x.level s))
theorem X9:∀(l:List It)(k:Nat)(s:LSt),KEB l k s=Dt 0 (labS l k s)
 | [],_,_=>rfl
 |x::r,k,s=>by rw[KEB,labS,X9 r]
theorem XL(x:It):∀(l:List It)(k:Nat)(s:LSt),labS (l++[x]) k s=KBG (k+l.length) (Dt x.level (labS l k s))
 | [],k,s=>rfl
 |y::r,k,s=>by
  rw[aH,labS,labS,XL x r,aK];congr 1;omega
structure PR(j n:Nat)(s:LSt):Prop where
 out:s.out.length=n
 op:∀k∈s.op,k<j
 len:s.op.length<=j
 at_:s.at_=1099511627776*(2*(j:Int)-(s.op.length:Int))
def PR.shut{j n:Nat}{s:LSt}(h:PR j n s)(d:Int):PR j n (Dt d s)/\(Dt d s).op=s.op.take d.toNat:=by
 obtain⟨c,e,f⟩:=Iq (s.op.length-d.toNat) s om;have l:=h.len;have g:=h.at_
 have a:(Dt d s).op=s.op.take d.toNat:=by
  rw[Dt,c];by_cases m:d.toNat<=s.op.length
  ·congr 1;omega
  rw[aV om,aV om]
 have i:(Dt d s).op.length=s.op.length-(s.op.length-d.toNat):=by rw[a,aJ];omega
 refine⟨⟨by rw[Dt,f];exact h.out,λk b=>h.op k ?_,om,?_⟩,a⟩
 ·rw[a]at b;exact dJ b
 rw[i];have:(Dt d s).at_=s.at_+1099511627776*((s.op.length-d.toNat:Nat):Int):=e;rw[this,g];omega
def PR.beg{j n:Nat}{s:LSt}(h:PR j n s):PR (j+1) n (KBG j s):=by
 have b:=h.len;have c:=h.at_;refine⟨by rw[KBG,O7,bU];exact h.out,λk a=>?_,by rw[KBG];simp;omega,?_⟩
 ·rw[KBG]at a;rcases aT.1 a with a|a
  ·have:=h.op k a;omega
  rw[aW.1 a];omega
 rw[KBG];simp;omega
def KCi(n:Nat):LSt:=⟨[],0,List.replicate n (0,0)⟩
def Wy(n:Nat):PR 0 n (KCi n):=⟨by simp[KCi],by simp[KCi],by simp[KCi],by simp[KCi]⟩
theorem QY(n:Nat):∀(l:List It)(k:Nat)(s:LSt),PR k n s->PR (k+l.length) n (labS l k s)
 | [],k,s,h=>h
 |x::r,k,s,h=>by
  have:=QY n r (k+1) _ (h.shut x.level).1.beg;rw[labS,aK,iG r.length,<- jb];exact this
def Wl(l:List It):(IJ l).length=l.length:=by
 rw[IJ,X9];exact((QY l.length l 0 _ (Wy l.length)).shut 0).1.out
end Go.Nod
namespace Go.Proofs.YtljenkbpnioipaaGreat
noncomputable section
open Go Go.Vc Go.Nod
def sLabel_spec(la:OA)(n lc:Nat)(l:List It)(ss:List Sl3)(w:Wq)(B:CW [] w la n l ss)(af:(Dp l).2=0)(hn:l.length<=100000)(J:∀x∈l,0<=x.level):
  CP 106 #[.slice la n lc] w λe w'=>∃a,e=Ej (.tuple #[.slice a n n,I 0])/\Hp [] w w' [.own 62 2 a n n (BP (IJ l))]:=by
 apply Jey;have K:=B.now.len;refine AC (JS la n lc l ss w B.now B.len B.sls B.small) ?_;rintro _ w1 ⟨rfl,H1⟩;refine⟨_,_,rfl,AQ (λh=>(h af).elim) (λ_=>?_)⟩;refine H1.mkS xC EQ4 om (by simp only[maxLen];omega) om (z:=.agg #[I 0,I 0]) rfl λd w2 H2=>?_;rw[aN,made_sp]at H2;rw[aN];intro D w3 ag;have H3:=H2.nw ag;refine Hp.s1 H3 wSS (cs':=[.slice d n n]) λw4 H4=>?_;intro F w5 ah;have H5:=H4.nw ah;intro G w6 ak;have H6:=H5.nw ak;refine Hp.s1 H6 xK (cs':=[I 0]) λw7 H7=>?_;have H8:=H7.yS 3 1;refine xI.mk (λm s w'=>∃(j:Nat)(f:OA)(L:Nat)(X:List Asn),m=n-j/\j<=n/\s=(j:Int)/\Hp [] w w' (KCc F G D f L d n (labS (l.take j) 0 (KCi n))++X)) n ⟨0,none,0,[],rfl,om,rfl,H8.perm ?_⟩ ?_
 ·refine AL λff gg i p q r=>?_;have N:KAf []=[]:=rfl;simp only[KCc,fD,labS,N,dK,q,p,i,KCi];omega
 rintro m s w8 nx ⟨j,f,L,X,rfl,hj,rfl,H⟩ al;have A:=QY n (l.take j) 0 (KCi n) (Wy n);have O:(l.take j).length=j:=by rw[aJ];omega
 rw[O,cZ]at A;obtain⟨s,hs⟩:∃s,s=labS (l.take j) 0 (KCi n):=⟨_,rfl⟩;rw[<- hs]at H A;have ba:=A.len;have bb:=A.at_;have bc:=A.out;refine AB (λh1=>?_) (λh1=>?_)
 ·have am:j<l.length:=om;obtain⟨x,sl,hx,an,bd⟩:=(B.rd w8 (H.chg)).at_ (k:=j) om;have hI:=B.rd w8 (H.chg);obtain⟨ad,ao,ap⟩:=hI.some hx an;refine AA ao ⟨⟨om,h1⟩,x.level,x.x.kind,x.x.name,x.x.text,sl.1,sl.2.1,sl.2.2,ap,?_⟩;intro xb w9 aq;have H9:=H.nw aq;refine Hp.sA H9 CB (cs':=itC x sl) λT U=>?_;refine⟨x.level,U.lo xK,?_⟩;have ar:=J x (aC hx)
  have av:Hp [] w T (KCc F G D f L d n s++(.blk xb (itC x sl) 123::X)):=U.perm (by
   refine AL λff gg i p q r=>?_;simp only[q,p,i];omega)
  refine AC (P7 x.level F G D f L d n s T ar (λk hk=>by have:=A.op k hk;omega) om om ⟨om,om⟩ av) ?_;rintro _ aw ⟨b,rfl,c⟩;obtain⟨u,Y⟩:=A.shut x.level;obtain⟨t,ht⟩:∃t,t=Dt x.level s:=⟨_,rfl⟩;rw[<- ht]at c u Y;have a7:=u.len;have a8:=u.at_;have a9:=u.out;refine⟨rfl,t.at_,c.lo xK,iR,?_⟩;refine Hp.s1 c.BF xK (cs':=[I (t.at_+1099511627776)]) λa0 y=>?_;refine⟨d,n,n,y.lo wSS,t.at_+1099511627776,y.lo xK,?_⟩;have a1:Own a0 0 62 2 d n n (BP t.out):=y.xh m4;obtain⟨g,Z⟩:=a1.D6 om;refine AA Z ⟨⟨om,om⟩,?_⟩;rw[aN];refine Hp.KEq (o:=j*2) y.JH EQ4 xK Z rfl rfl (by rw[QT];omega) λbh C=>?_;rw[Q7 _ _ _ om]at C;refine⟨f,t.op.length,b,C.lo nSI,?_⟩;intro kb bi aa;have a2:=C.nw aa
  have ab:=a2.perm (M:=.own 3 1 f t.op.length b (KAf t.op)::.blk kb [I (j:Int)] 3::.blk F [.slice f t.op.length b] 59::.own 62 2 d n n (BP (O7 t.out j (t.at_+1099511627776)))::.blk G [I (t.at_+1099511627776)] 3::.blk D [.slice d n n] 187::(.blk xb (itC x sl) 123::X)) (by
   refine AL λff gg i p q r=>?_;simp only[KCc,q,p,i,aY,aO];omega)
  refine Hp.app Kz om ab EQ4 (Blk.src (P:=PP) LH (ab.blk m1) rfl rfl) (by simp only[maxLen];omega) om ?_;intro ac ae bj a3;refine Hp.s1 a3.BF nSI (cs':=[.slice ac (t.op.length+1) ae]) λbk a4=>⟨iR,?_⟩;refine al (n-(j+1)) _ _ om ⟨j+1,ac,ae,.blk kb [I (j:Int)] 3::.blk xb (itC x sl) 123::X,rfl,om,rfl,a4.perm ?_⟩
  have N:labS (l.take (j+1)) 0 (KCi n)=KBG j t:=by
   have a5:=(aA.1 hx).2;rw[aG am,a5,XL,<- hs,<- ht,O,cZ]
  have e2:KAf (t.op++[j])=KAf t.op++[I (j:Int)]:=by rw[natC_app];rfl
  have e3:(t.op++[j]).length=t.op.length+1:=by simp
  rw[N];refine AL λff gg i p q r=>?_;simp only[KCc,KBG,e2,e3,q,p,i];omega
 have a6:j=n:=om;subst a6;refine AC (P7 0 F G D f L d _ s w8 om (λk hk=>by have:=A.op k hk;omega) om om ⟨om,om⟩ H) ?_;rintro _ aw ⟨b,rfl,c⟩;refine⟨rfl,d,_,_,c.lo wSS,d,rfl,?_⟩
 have N:IJ l=(Dt 0 s).out:=by
  rw[IJ,X9,hs,<- K,aV om];rfl
 rw[N];refine Hp.BM (R:=[.blk F [.slice f (Dt 0 s).op.length b] 59,.own 3 1 f (Dt 0 s).op.length b (KAf (Dt 0 s).op),.blk G [I (Dt 0 s).at_] 3,.blk D [.slice d j j] 187]++X) (c.perm ?_);refine AL λff gg i p q r=>?_;simp only[KCc,q,p,i];omega
end
end Go.Proofs.YtljenkbpnioipaaGreat
