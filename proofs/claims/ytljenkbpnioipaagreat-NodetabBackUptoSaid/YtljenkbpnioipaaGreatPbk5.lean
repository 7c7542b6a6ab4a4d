/- Part 5 of 6 of the proof of nodetabBack_holds: for every input, from every world that may be reached. -/
import Derived.Test.YtljenkbpnioipaaGreatPbk4
set_option linter.unusedVariables false
set_option linter.unusedSimpArgs false
set_option linter.defProp false
set_option maxRecDepth 100000
set_option maxHeartbeats 4000000
namespace Go.Proofs.YtljenkbpnioipaaGreat.Fol
open Go Go.Vc
def yF:Scl PP 3:=BQ (by kernel_rfl)
def KBR:Scl PP 9:=BQ (by kernel_rfl)
def IM:Scl PP 202:=BQ (by kernel_rfl)
def Wv:Scl PP 159:=BQ (by kernel_rfl)
def scl4:Scl PP 4:=BQ (by kernel_rfl)
def KEE:Scl PP 5:=BQ (by kernel_rfl)
def Dh:Agg PP 204 8:=DN (by kernel_rfl)
def wz:Agg PP 258 2:=DN (by kernel_rfl)
def vG:Agg PP 62 2:=DN (by kernel_rfl)
def Wu:Agg PP 260 2:=DN (by kernel_rfl)
def XO:Elt PP 159 5 1 1:=DU (by kernel_rfl)
def elt26:Elt PP 106 9 1 16:=DU (by kernel_rfl)
def ry:Elt PP 202 260 2 24:=DU (by kernel_rfl)
def KCf:PP.underlying 9=some .string:=by kernel_rfl
def XP:PP.underlying 159=some (.slice 5):=by kernel_rfl
def KEW:PP.underlying 5=some (.int .u8):=by kernel_rfl
structure Rec where
 id:Int
 parent:Int
 kind:Int
 name:Int
 frm:Int
 to:Int
 text:BA
 FP:List (Int×BA)
def JC(p:Int×BA):LV:=[I p.1,.string p.2]
def BL(l:List (Int×BA)):LV:=l.flatMap JC
structure AtS(w:Wq)(a:OA)(n:Nat)(l:List (Int×BA)):Prop where
 len:n=l.length
 cells:Cells w a (BL l)
def AtS.chg{w w':Wq}{a:OA}{n:Nat}{l:List (Int×BA)}{B:Nq}(h:AtS w a n l)(b:Chg B w w')(c:∀k∈x9 a,k∉B):AtS w' a n l:=⟨h.len,h.cells.chg b c⟩
def JI(n:Int):Prop:=1<=n/\n<=4000
instance (n:Int):Decidable (JI n):=by unfold JI;infer_instance
def Zh(r:Rec):Prop:=(∀p∈r.FP,JI p.1/\p.2.size<=1500)/\(r.FP.map (·.1)).Nodup/\JI r.name/\r.text=⟨#[]⟩/\r.FP.length<=20
instance (r:Rec):Decidable (Zh r):=by unfold Zh;infer_instance
def Df(r:Rec):Prop:=1<=r.id/\r.id<=2147483647/\0<=r.parent/\r.parent<=2147483647/\0<=r.frm/\r.frm<r.to/\r.to<=4611686018427387904/\((r.kind=1/\Zh r)\/(r.kind=2/\r.name=0/\r.FP=[]/\r.text.size<=1500))
instance (r:Rec):Decidable (Df r):=by unfold Df;infer_instance
def Rec.val(r:Rec)(a:OA)(n c:Nat):Value:=.agg #[I r.id,I r.parent,I r.kind,I r.name,I r.frm,I r.to,.string r.text,.slice a n c]
def KCD{p:Prop}[Decidable p](h:¬p):Ending.returned (Value.bool false)=Ej (.bool (decide p)):=by rw[decide_eq_false h]
def Un(n:Int)(w:Wq):CP 266 #[I n] w λe w'=>e=Ej (.bool (decide (JI n)))/\Hp [] w w' []:=by
 apply Jam;refine AB (λh=>?_) (λh=>?_)
 ·exact⟨by simp[JI,h],Hp.start w⟩
 exact⟨by simp[JI,h],Hp.start w⟩
theorem flat_get:∀(l:List (Int×BA))(k j:Nat)(p:Int×BA)(v:Value),l[k]? =some p->(JC p)[j]? =some v->(BL l)[k*2+j]? =some v
 |x::r,0,j,p,v,hk,hj=>by
  simp at hk;subst hk;simp only[BL,bW,jV,cZ];rw[bQ (aA.1 hj).1];exact hj
 |x::r,k+1,j,p,v,hk,hj=>by
  simp at hk;have:=flat_get r k j p v hk hj;simp only[BL,bW]at this⊢;rw[bg (by simp only[JC,aK,dK];omega)];rw[show(k+1)*2+j-(JC x).length=k*2+j by simp only[JC,aK,dK];omega];exact this
def AtS.ld{w:Wq}{a:OA}{n:Nat}{l:List (Int×BA)}(h:AtS w a n l){t:TypeId}(b:Agg PP t 2){k:Nat}{p:Int×BA}(d:l[k]? =some p){c:Addr}(e:a=some c):
  Ld PP t w (c.add (k*2)) (.agg #[I p.1,.string p.2]):=by
 subst e;refine Xt b.agg b.size λj v f=>?_;obtain⟨g,i,m⟩:=h.cells (k*2+j) v (flat_get l k j p v d f);cases i;rw[add_add];exact m
def AtS.some{w:Wq}{a:OA}{n:Nat}{l:List (Int×BA)}(h:AtS w a n l){k:Nat}(c:k<l.length):∃b,a=some b:=by
 obtain⟨b,d,_⟩:=h.cells (k*2) _ (flat_get l k 0 _ _ (aB c) rfl);exact⟨b,d⟩
def vS(l:List (Int×BA)):Prop:=(∀p∈l,JI p.1/\p.2.size<=1500)/\(l.map (·.1)).Nodup
theorem aget_put(l:List (Int×Value))(k x:Int)(v:Value):xZ (xY l k v) x=if x=k then some v else xZ l x:=by
 induction l with
 |nil=>simp[xY,xZ]
 |cons p r b=>
  obtain⟨y,u⟩:=p;simp only[xY];by_cases h:k=y
  ·subst h;simp only[if_true,xZ];by_cases a:x=k<;>simp[a]
  simp only[if_neg h,xZ,b];by_cases a:x=y
  ·subst a;simp[Ne.symm h]
  simp[a]
def Xl:KAa PP (Dn .i64) 281 3 3 (I 0):=⟨by kernel_rfl,by kernel_rfl,by kernel_rfl⟩
def elem_spec(r:Rec)(a:OA)(n c:Nat)(w:Wq)(hA:AtS w a n r.FP)(hn:n<=maxLen):
  CP 225 #[r.val a n c] w λe w'=>e=Ej (.bool (decide (Zh r)))/\Hp [] w w' []:=by
 apply Jah;have H:=Hp.start w
 (intro _ _ hn;replace H:=H.nw hn;clear hn)
 intro _ b2 hn2;replace H:=H.KDN EQ4 .i64 hn2
 (refine⟨_,_,_,H.lo IM,?_⟩)
 rename_i b _ _;have hlen:=hA.len;have hmax:maxLen<=9223372036854775807:=by simp[maxLen]
 refine xI.mk (λm s w'=>∃k al,m=n-k/\s=(k:Int)/\k<=n/\vS (r.FP.take k)/\(∀x,xZ al x=if x∈(r.FP.take k).map (·.1)then some (I 1)else none)/\
  Hp [] w w' [.Z6 _ .i64 al,.blk b [I r.id,I r.parent,I r.kind,I r.name,I r.frm,I r.to,.string r.text,.slice a n c] 204]) n ⟨0,[],rfl,rfl,bZ _,by simp[vS],by simp[xZ],H⟩ ?_
 rintro m s w' next ⟨k,al,rfl,rfl,hk,hup,hal,H⟩ hnext
 refine AB (λh=>?_) (λh=>?_)
 ·have hkl:k<r.FP.length:=om;have hAw:=hA.chg H.chg (by simp);obtain⟨ad,had⟩:=hA.some hkl;have hp:r.FP[k]? =some r.FP[k]:=aB hkl;refine AA had ⟨⟨om,h⟩,_,_,hAw.ld Wu hp had,?_⟩
  (intro _ _ hn;replace H:=H.nw hn;clear hn;refine H.sxA Wu ?_;clear H;intro _ H;(try simp only[over,bz,bu]at H);refine⟨_,H.lo yF,?_⟩)
  refine AC (Un _ _) ?_;rintro e w2 ⟨rfl,H'⟩;replace H:=H.xN H';refine⟨_,rfl,AQ (λh1=>⟨KCD λhh=>h1 (hh.1 _ (eY hkl)).1,H.done⟩) (λh1=>?_)⟩
  (refine⟨_,H.lo yF,?_⟩)
  by_cases hm:r.FP[k].1∈(r.FP.take k).map (·.1)
  ·refine⟨1,H.lkI Xl EQ4 (by repeat first|exact .head _|refine .tail _ ?_) (by rw[hal,if_pos hm];rfl),AB (λh2=>⟨KCD λhh=>?_,H.done⟩) (λh2=>absurd h2 om)⟩;have h3:=hh.2.1;rw[<- bY k r.FP,ai,bM hkl,aj,bG]at h3;exact h3.2.2 _ hm _ (fK ..) rfl
  refine⟨0,H.lkI Xl EQ4 (by repeat first|exact .head _|refine .tail _ ?_) (by rw[hal,if_neg hm];rfl),AB (λh2=>absurd h2 om) (λh2=>?_)⟩
  (refine⟨_,H.lo KBR,?_⟩)
  refine AB (λh3=>⟨KCD λhh=>?_,H.done⟩) (λh3=>?_)
  ·have:=(hh.1 _ (eY hkl)).2;omega
  (refine⟨_,H.lo yF,?_⟩)
  refine⟨0,H.lkI Xl EQ4 (by repeat first|exact .head _|refine .tail _ ?_) (by rw[hal,if_neg hm];rfl),iR,Hp.KCj Xl H.AX EQ4 ?_⟩;intro w5 H;refine⟨iR,hnext (n-(k+1)) _ _ om ⟨k+1,_,rfl,by simp,om,?_,?_,H.drop1⟩⟩
  ·rw[aG hkl];refine⟨λp hp=>?_,?_⟩
   ·rcases aT.1 hp with hp|hp
    ·exact hup.1 p hp
    rw[aW]at hp;subst hp;exact⟨h1,om⟩
   rw[ai,bG];refine⟨hup.2,by simp,λx hx y hy=>?_⟩;simp at hy;subst hy;intro he;subst he;exact hm hx
  intro x;rw[aget_put,hal,aG hkl,ai,aj,jC];by_cases hx:x=r.FP[k].1
  ·subst hx;simp
  rw[if_neg hx];simp only[aT,aW,hx,or_false]
 have hkn:k=n:=om;subst hkn;rw[hlen,bJ]at hup
 (refine⟨_,H.lo yF,?_⟩)
 refine AC (Un _ _) ?_;rintro e w2 ⟨rfl,H'⟩;replace H:=H.xN H';refine⟨_,rfl,AB (λh1=>?_) (λh1=>⟨KCD λhh=>h1 hh.2.2.1,H.done⟩)⟩
 (refine⟨_,H.lo KBR,?_⟩)
 refine AB (λh2=>?_) (λh2=>⟨KCD λhh=>h2 hh.2.2.2.1,H.done⟩)
 (refine⟨_,_,_,H.lo IM,?_⟩)
 refine⟨?_,H.done⟩;congr 2;rw[decide_eq_decide];exact⟨λh3=>⟨hup.1,hup.2,h1,h2,om⟩,λh3=>by have:=h3.2.2.2.2;omega⟩
def right_spec(r:Rec)(a:Option Addr)(n c:Nat)(w:World)(hA:AtS w a n r.FP)(hn:n<=maxLen):
  Calls Tryz.prog 174 #[r.val a n c] w λe w'=>e=.returned (.bool (decide (Df r)))/\Hp [] w w' []:=by
 apply Jao;have H:=Hp.start w
 (intro _ _ hn;replace H:=H.nw hn;clear hn;refine⟨_,_,H.loA vG,?_⟩;intro _ _ hn;replace H:=H.nw hn;clear hn;refine H.sxA vG ?_;clear H;intro _ H;(try simp only[over,bz,bu]at H);refine⟨_,H.lo yF,?_⟩)
 refine AB (λh1=>⟨KCD λh=>by obtain⟨_,_,_,_,_,_,_,_⟩:=h;omega,H.done⟩) (λh1=>?_)
 (refine⟨_,H.lo yF,?_⟩)
 refine AB (λh2=>⟨KCD λh=>by obtain⟨_,_,_,_,_,_,_,_⟩:=h;omega,H.done⟩) (λh2=>?_)
 (refine⟨_,H.lo yF,?_⟩)
 refine AB (λh3=>⟨KCD λh=>by obtain⟨_,_,_,_,_,_,_,_⟩:=h;omega,H.done⟩) (λh3=>?_)
 (refine⟨_,H.lo yF,?_⟩)
 refine AB (λh4=>⟨KCD λh=>by obtain⟨_,_,_,_,_,_,_,_⟩:=h;omega,H.done⟩) (λh4=>?_)
 (refine⟨_,H.lo yF,?_⟩)
 refine AB (λh5=>⟨KCD λh=>by obtain⟨_,_,_,_,_,_,_,_⟩:=h;omega,H.done⟩) (λh5=>?_)
 (refine⟨_,H.lo yF,?_⟩;refine⟨_,H.lo yF,?_⟩)
 refine AB (λh6=>⟨KCD λh=>by obtain⟨_,_,_,_,_,_,_,_⟩:=h;omega,H.done⟩) (λh6=>?_)
 (refine⟨_,H.lo yF,?_⟩)
 refine AB (λh7=>⟨KCD λh=>by obtain⟨_,_,_,_,_,_,_,_⟩:=h;omega,H.done⟩) (λh7=>?_)
 (refine⟨_,H.lo yF,?_⟩)
 have hb:∀X:Prop,(Df r↔X)↔(((r.kind=1/\Zh r)\/(r.kind=2/\r.name=0/\r.FP=[]/\r.text.size<=1500))↔X):=λX=>by
  unfold Df;constructor
  ·intro h;rw[<- h];constructor
   ·intro h;exact⟨om,om,om,om,om,om,om,h⟩
   intro h;exact h.2.2.2.2.2.2.2
  intro h;rw[<- h];constructor
  ·intro h;exact h.2.2.2.2.2.2.2
  intro h;exact⟨om,om,om,om,om,om,om,h⟩
 refine AB (λh8=>?_) (λh8=>AB (λh9=>?_) (λh9=>?_))
 ·(refine⟨_,_,_,_,_,_,_,_,_,_,H.loA Dh,?_⟩)
  refine AC (elem_spec r a n c _ (hA.chg H.chg (by simp)) hn) ?_;rintro e w' ⟨rfl,H'⟩;refine⟨_,rfl,?_,(H.xN H').done⟩;congr 2;rw[decide_eq_decide,Iff.comm,hb];simp[h8]
 ·(refine⟨_,H.lo yF,?_⟩)
  refine AB (λh10=>?_) (λh10=>⟨?_,H.done⟩)
  ·(refine⟨_,_,_,H.lo IM,?_⟩)
   refine AB (λh11=>?_) (λh11=>⟨?_,H.done⟩)
   ·(refine⟨_,H.lo KBR,?_⟩)
    refine⟨?_,H.done⟩;have h12:r.FP=[]:=ay (by have:=hA.len;omega);congr 2;rw[decide_eq_decide,Iff.comm,hb];simp[h9,h10,h12];omega
   have h12:r.FP≠[]:=λh=>h11 (by have:=hA.len;rw[h]at this;simp[this]);congr 2;rw[eq_comm,decide_eq_false_iff_not];have:=(hb False).2 (by simp[h9,h12]);exact this.1
  congr 2;rw[eq_comm,decide_eq_false_iff_not];have:=(hb False).2 (by simp[h9,h10]);exact this.1
 refine⟨?_,H.done⟩;congr 2;rw[eq_comm,decide_eq_false_iff_not];have:=(hb False).2 (by simp[h8,h9]);exact this.1
def Ji(l:List (Int×Nat)):LV:=l.flatMap λf=>[I f.1,I (f.2:Int)]
def laid(l:List (Int×Nat)):LU:=l.flatMap λf=>be f.1 f.2
theorem uH:∀(l:List (Int×Nat))(k j:Nat)(p:Int×Nat)(v:Value),l[k]? =some p->([I p.1,I (p.2:Int)]:LV)[j]? =some v->(Ji l)[k*2+j]? =some v
 |x::r,0,j,p,v,hk,hj=>by
  simp at hk;subst hk;simp only[Ji,bW,jV,cZ];rw[bQ (aA.1 hj).1];exact hj
 |x::r,k+1,j,p,v,hk,hj=>by
  simp at hk;have:=uH r k j p v hk hj;simp only[Ji,bW]at this⊢;rw[bg (by simp;omega)];rw[show(k+1)*2+j-([I x.1,I (x.2:Int)]:LV).length=k*2+j by simp;omega];exact this
def fld_ld{w:Wq}{a:Addr}{l:List (Int×Nat)}(h:Cells w (some a) (Ji l)){t:TypeId}(b:Agg PP t 2){k:Nat}{p:Int×Nat}(c:l[k]? =some p):
  Ld PP t w (a.add (k*2)) (.agg #[I p.1,I (p.2:Int)]):=by
 refine Xt b.agg b.size λj v d=>?_;obtain⟨e,f,g⟩:=h (k*2+j) v (uH l k j p v c d);cases f;rw[add_add];exact g
theorem Jy(a:OA)(n c:Nat)(bs:LU)(z:Addr)(lc:Nat)(l:List (Int×Nat))(A:∀f∈l,f.2<=8)(w:Wq)
  (p:(Asn.own 5 1 a n c (Ae bs)).ok w) (x:n=bs.length) (K:Cells w (some z) (Ji l)) (q:z.block∉x9 a) (F:l.length<=1000000) (r:(bs++laid l).length<=140737488355328):
  CP 176 #[.slice a n c,.slice (some z) l.length lc] w λe w'=>∃a' c',e=Ej (.slice a' (bs++laid l).length c')/\Hp (x9 a) w w' [.own 5 1 a' (bs++laid l).length c' (Ae (bs++laid l))]:=by
 apply Jal;have H:=Hp.II p;have G:maxLen=9223372036854775807:=by simp[maxLen]
 refine xI.mk (λm s w'=>∃k a' j c' X,m=l.length-k/\s=((a',j,c'),(k:Int))/\k<=l.length/\X++laid (l.drop k)=bs++laid l/\j=X.length/\
  Hp (x9 a) w w' [.own 5 1 a' j c' (Ae X)]) l.length ⟨0,a,n,c,bs,rfl,rfl,bZ _,rfl,x,H⟩ ?_
 rintro m s w' next ⟨k,a',j,c',X,rfl,rfl,U,t,rfl,H⟩ o
 refine AB (λh=>?_) (λh=>?_)
 ·have d:k<l.length:=by simpa using h
  have L:l[k]? =some l[k]:=aB d;have B:=K.chg H.chg (by simpa [x9]using q);refine AA rfl ⟨⟨by simp,h⟩,_,_,fld_ld B wz L,?_⟩
  (intro _ _ x;replace H:=H.nw x;clear x;refine H.sxA wz ?_;clear H;intro _ H;(try simp only[over,bz,bu]at H);refine⟨_,H.lo yF,?_⟩)
  have Y:=A _ (eY d);refine⟨iR,?_⟩;rename_i b _ _;rw[bM d,laid,bW,<- laid]at t
  refine xI.mk (λm s w'=>∃a' j c' X,m<=l[k].2/\s=((a',j,c'),(m:Int)-1)/\X++(be l[k].1 m++laid (l.drop (k+1)))=bs++laid l/\j=X.length/\
   Hp (x9 a) w w' [.own 5 1 a' j c' (Ae X),.blk b [I l[k].1,I (l[k].2:Int)] 258]) l[k].2 ⟨a',_,c',X,aZ _,rfl,t,rfl,H.AX⟩ ?_
  rintro m s Z C ⟨M,n2,N,y,hm,rfl,g,rfl,H⟩ i;dsimp only;refine AB (λJ=>?_) (λJ=>?_)
  ·cases m with
   |zero=>simp at J
   |succ m=>
    (refine⟨_,H.lo yF,?_⟩)
    have O:(y++(be l[k].1 (m+1)++laid (l.drop (k+1)))).length=(bs++laid l).length:=by rw[g]
    simp only[aF,AU]at O r;refine⟨iR,om,?_⟩;intro b2 w3 u;rw[PO _ m om _ om]at u;replace H:=H.nw u;refine Hp.app XO om H.AX EQ4 (Blk.src XP (H.blk (.head _)) rfl rfl) om om ?_;intro R T w4 H;refine⟨iR,i m _ _ om ⟨R,y.length+1,T,y++[bt l[k].1 m],om,?_,?_,by simp,?_⟩⟩
    ·simp only[Prod.mk.injEq,true_and];omega
    ·rw[<- g,be];simp
    rw[DK];exact H.drop1
  have D:m=0:=om;subst D;simp only[be,aO]at g;refine⟨iR,o (l.length-(k+1)) _ _ om ⟨k+1,M,_,N,y,rfl,?_,om,g,rfl,H.Nb⟩⟩;simp
 have d:k=l.length:=om;subst d;simp only[iQ,laid,lY,aX]at t;rw[<- laid]at t;subst t;exact⟨a',c',rfl,H⟩
def EQ(l:List (Int×BA)):LU:=l.flatMap λp=>be p.1 2++be (p.2.size:Int) 2++p.2.data.toList
def FK(r:Rec):LU:=laid [(r.id,4),(r.parent,4),(r.frm,8),(r.to,8),(r.kind,1),(r.name,2),((r.text.size:Int),2)]
def Ad(r:Rec):LU:=FK r++r.text.data.toList++be (r.FP.length:Int) 1++EQ r.FP
def Y5(n:Int)(k:Nat):laid [(n,k)]=be n k:=by simp[laid]
def laid_two(n m:Int)(k j:Nat):laid [(n,k),(m,j)]=be n k++be m j:=by simp[laid]
def Uc{B:Nq}{w0 w:Wq}{L:List Asn}{a:OA}{n c:Nat}{bs:LU}{b lc:Nat}{T:TypeId}(l:List (Int×Nat))(H:Hp B w0 w (.own 5 1 a n c (Ae bs)::L))(i:Asn.blk b (Ji l) T∈L)
  (h:∀f∈l,f.2<=8) (j:n=bs.length) (d:l.length<=1000000) (g:(bs++laid l).length<=140737488355328):
  CP 176 #[.slice a n c,.slice (Pq b) l.length lc] w λe w'=>∃a' c',e=Ej (.slice a' (bs++laid l).length c')/\Hp B w0 w' (.own 5 1 a' (bs++laid l).length c' (Ae (bs++laid l))::L):=by
 refine Calls.mono (Jy a n c bs ⟨b,0,none⟩ lc l h w (H.ok _ (.head _)) j (Blk.cells (H.blk (.tail _ i))) ?_ d g) ?_
 ·intro m;exact(bF.1 H.sep).1 _ i b m (by simp[Asn.foot])
 rintro e w' ⟨a',c',rfl,o⟩;exact⟨a',c',rfl,H.Bg o⟩
def whole_spec(r:Rec)(a:OA)(n c:Nat)(w:Wq)(q:AtS w a n r.FP)(d:n<=1000)(z:(Ad r).length<=100000000):
  CP 175 #[r.val a n c] w λe w'=>∃a' c',e=Ej (.slice a' (Ad r).length c')/\Hp [] w w' [.own 5 1 a' (Ad r).length c' (Ae (Ad r))]:=by
 apply Jaq;have H:=Hp.start w;have A:maxLen=9223372036854775807:=by simp[maxLen]
 have g:=q.len
 have D:(Ad r).length=(FK r).length+r.text.size+1+(EQ r.FP).length:=by
  simp only[Ad,aF,AU,bT];rfl
 have F:(FK r).length=29:=by simp[FK,laid,AU]
 (intro _ _ d;replace H:=H.nw d;clear d)
 rename_i b _
 (refine⟨_,H.lo yF,?_⟩;refine⟨_,H.lo yF,?_⟩;refine⟨_,H.lo yF,?_⟩;refine⟨_,H.lo yF,?_⟩;refine⟨_,H.lo yF,?_⟩;refine⟨_,H.lo yF,?_⟩;refine⟨_,H.lo KBR,?_⟩;intro _ _ d;replace H:=H.nw d;clear d)
 refine AC (Uc (bs:=[]) [(r.id,4),(r.parent,4),(r.frm,8),(r.to,8),(r.kind,1),(r.name,2),((r.text.size:Int),2)] (H.yS 5 1) (by repeat first|exact .head _|refine .tail _ ?_) (by simp) rfl (by simp) (by simp[laid,AU])) ?_;rintro e R ⟨T,U,rfl,H⟩;refine⟨_,_,_,rfl,?_⟩;rw[aO,<- FK]at H⊢;replace H:=H.drop1;refine xM.mk (λs w'=>∃a' i c',s=(a',i,c')/\i=(FK r++r.text.data.toList++be (r.FP.length:Int) 1).length/\Hp [] w w' [.own 5 1 a' i c' (Ae (FK r++r.text.data.toList++be (r.FP.length:Int) 1)),.blk b [I r.id,I r.parent,I r.kind,I r.name,I r.frm,I r.to,.string r.text,.slice a n c] 204]) ?_ ?_
 ·clear H;rintro s Y ⟨G,Z,K,rfl,rfl,H⟩
  (refine⟨_,_,_,H.lo IM,?_⟩)
  refine xI.mk (λm s w'=>∃k a' i c' X,m=r.FP.length-k/\s=((a',i,c'),(k:Int))/\k<=r.FP.length/\X++EQ (r.FP.drop k)=Ad r/\i=X.length/\
   Hp [] w w' [.own 5 1 a' i c' (Ae X)]) r.FP.length ⟨0,G,_,K,_,rfl,rfl,bZ _,rfl,rfl,H.Nb⟩ ?_
  rintro m s w' next ⟨k,a',i,c',X,rfl,rfl,hk,l,rfl,H⟩ j
  refine AB (λh=>?_) (λh=>?_)
  ·have f:k<r.FP.length:=om;have L:r.FP[k]? =some r.FP[k]:=aB f;obtain⟨ad,o⟩:=q.some f;rw[bM f,EQ,bW,<- EQ]at l;have M:(X++(be r.FP[k].1 2++be (r.FP[k].2.size:Int) 2++r.FP[k].2.data.toList++EQ (r.FP.drop (k+1)))).length=(Ad r).length:=by rw[l]
   simp at M;have N:r.FP[k].2.data.size=r.FP[k].2.size:=rfl;refine AA o ⟨⟨om,h⟩,_,_,(q.chg H.chg (by simp)).ld Wu L o,?_⟩
   (intro _ _ d;replace H:=H.nw d;clear d;refine H.sxA Wu ?_;clear H;intro _ H;(try simp only[over,bz,bu]at H);refine⟨_,H.lo yF,?_⟩;refine⟨_,H.lo KBR,?_⟩;refine⟨_,H.lo KBR,?_⟩;intro _ _ d;replace H:=H.nw d;clear d;refine⟨H.lo KBR,?_⟩)
   refine AC (Uc (bs:=X) [(r.FP[k].1,2),((r.FP[k].2.size:Int),2)] H.BF (by repeat first|exact .head _|refine .tail _ ?_) (by simp) rfl (by simp) (by simp[laid,AU]<;>omega)) ?_;rintro e w4 ⟨a4,c4,rfl,H⟩;refine⟨_,_,_,rfl,?_⟩
   (refine⟨H.lo KBR,?_⟩)
   rw[laid_two]at H⊢;refine Hp.app XO om H EQ4 (Src.ofString _ KCf _) (by simp[AU];omega) (by simp[AU];omega) ?_;intro t u B H;refine⟨iR,j (r.FP.length-(k+1)) _ _ om ⟨k+1,t,_,u,X++(be r.FP[k].1 2++be (r.FP[k].2.size:Int) 2++r.FP[k].2.data.toList),rfl,rfl,om,?_,?_,?_⟩⟩
   ·rw[<- l];simp
   ·simp[AU];omega
   rw[Ib,<- DK,ax]at H;exact H.Nb
  have f:k=r.FP.length:=om;subst f;simp only[iQ,EQ,lY,aX]at l;subst l;exact⟨a',c',rfl,H⟩
 intro J C;refine⟨?_,?_⟩
 ·(refine⟨_,H.lo KBR,?_⟩;refine⟨_,_,_,H.lo IM,?_⟩)
  refine Hp.app XO om H EQ4 (Src.ofString _ KCf r.text) om om ?_;intro t u B H
  (refine⟨H.lo IM,?_⟩;intro _ _ d;replace H:=H.nw d;clear d)
  have p:FK r++r.text.data.toList++be (r.FP.length:Int) 1=FK r++r.text.data.toList++laid [((n:Int),1)]:=by rw[g,Y5]
  refine AC (Uc (bs:=FK r++r.text.data.toList) [((n:Int),1)] (by rw[Ib,<- DK]at H;exact H.AX) (by repeat first|exact .head _|refine .tail _ ?_) (by simp) (by simp<;>rfl) (by simp) (by simp[laid,AU]<;>omega)) ?_;rintro e O ⟨x,y,rfl,H⟩;refine⟨_,_,_,rfl,C _ _ ⟨x,_,y,rfl,?_,?_⟩⟩
  ·rw[p]
  rw[p];exact H.drop1
 (refine⟨_,H.lo KBR,?_⟩;refine⟨_,_,_,H.lo IM,?_⟩;intro _ _ d;replace H:=H.nw d;clear d;refine⟨H.lo KBR,?_⟩)
 refine Hp.app XO om H.AX EQ4 (Src.ofString _ KCf r.text) om om ?_;intro t u B H;have p:FK r++r.text.data.toList++be (r.FP.length:Int) 1=FK r++r.text.data.toList++laid [((n:Int),1)]:=by rw[g,Y5]
 refine AC (Uc (bs:=FK r++r.text.data.toList) [((n:Int),1)] (by rw[Ib,<- DK]at H;exact H) (by repeat first|exact .head _|refine .tail _ ?_) (by simp) (by simp<;>rfl) (by simp) (by simp[laid,AU]<;>omega)) ?_;rintro e O ⟨x,y,rfl,H⟩;refine⟨_,_,_,rfl,C _ _ ⟨x,_,y,rfl,?_,?_⟩⟩
 ·rw[p]
 rw[p];exact H.drop1
def BG(n:Nat):Nat:=(n+899)/900
def headB(id:Int)(k many:Nat):LU:=laid [(id,4),((k:Int),1),((many:Int),1)]
def BC(r:Rec)(k:Nat):LU:=headB r.id k (BG (Ad r).length)++((Ad r).drop (900*k)).take 900
def pieces(r:Rec):List (LU):=(List.range (BG (Ad r).length)).map (BC r)
def out(r:Rec):List (LU):=if Df r then pieces r else []
def errOf(p:Prop)[Decidable p]:Int:=if p then 0 else 160
def tdiv_many(l:Nat):Int.tdiv ((l:Int)+900-1) 900=((BG l:Nat):Int):=by
 rw[iw om];unfold BG;omega
def Gz(r:Rec):(pieces r).length=BG (Ad r).length:=by simp[pieces]
theorem BZ(l:List (Int×BA))(h:∀p∈l,p.2.size<=1500):(EQ l).length<=1504*l.length:=by
 induction l with
 |nil=>simp[EQ]
 |cons p r a=>
  have b:=a λq c=>h q (.tail _ c);have d:=h p (.head _);simp only[EQ,bW,aF,AU,bT,aK]at b⊢;have:p.2.data.size=p.2.size:=rfl;omega
def XY(r:Rec):(Ad r).length=30+r.text.size+(EQ r.FP).length:=by
 have a:(FK r).length=29:=by simp[FK,laid,AU]
 simp only[Ad,aF,AU,bT,a];have:r.text.data.size=r.text.size:=rfl;omega
def ES{r:Rec}(h:Df r):30<=(Ad r).length/\(Ad r).length<=30110/\r.FP.length<=20:=by
 rw[XY];rcases h.2.2.2.2.2.2.2 with⟨_,a,_,_,b,d⟩|⟨_,_,a,b⟩
 ·have:=BZ r.FP λp c=>(a p c).2;rw[b,show(ByteArray.mk #[]).size=0 from rfl];omega
 rw[a];simp[EQ];omega
def RY(r:Rec)(a:OA)(n c:Nat)(w:Wq)(y:AtS w a n r.FP)(f:n<=maxLen):
  CP 115 #[r.val a n c] w λe w'=>∃a' c',e=Ej (.tuple #[.slice a' (out r).length c',I (errOf (Df r))])/\Hp [] w w' [.own 9 1 a' (out r).length c' ((out r).map sv)]:=by
 apply Jai;have H:=Hp.start w;have C:maxLen=9223372036854775807:=by simp[maxLen]
 (intro _ _ f;replace H:=H.nw f;clear f;refine⟨_,_,_,_,_,_,_,_,_,_,H.loA Dh,?_⟩)
 refine AC (right_spec r a n c _ (y.chg H.chg (by simp)) f) ?_;rintro e w' ⟨rfl,u⟩;replace H:=H.xN u;refine⟨_,rfl,AQ (λh=>⟨none,0,?_,?_⟩) (λh=>?_)⟩
 ·simp[out,h,errOf]
 ·simpa [out,h]using(H.done.yS 9 1)
 obtain⟨F,G,J⟩:=ES h;have D:=y.len;have o:out r=pieces r:=by rw[out,if_pos h]
 have p:errOf (Df r)=0:=by rw[errOf,if_pos h]
 have q:=Gz r;rw[o,p]
 (refine⟨_,_,_,_,_,_,_,_,_,_,H.loA Dh,?_⟩)
 refine AC (whole_spec r a n c _ (y.chg H.chg (by simp)) om om) ?_;rintro e w2 ⟨z,A,rfl,u⟩;replace H:=H.yC u;clear u;have hm:BG (Ad r).length<=34:=by unfold BG;omega
 refine⟨_,_,_,rfl,iR,iR,om,?_⟩;rw[tdiv_many];refine⟨iR,?_⟩;rename_i b _
 refine xI.mk (λm s w'=>∃k a' c',m=BG (Ad r).length-k/\s=((a',k,c'),(k:Int))/\k<=BG (Ad r).length/\
   Hp [] w w' [.own 9 1 a' k c' (((pieces r).take k).map sv),.own 5 1 z (Ad r).length A (Ae (Ad r)),.blk b [I r.id,I r.parent,I r.kind,I r.name,I r.frm,I r.to,.string r.text,.slice a n c] 204]) (BG (Ad r).length) ⟨0,none,0,rfl,rfl,bZ _,by simpa using H.yS 9 1⟩ ?_
 rintro m s w' next ⟨k,a',c',rfl,rfl,hk,H⟩ j
 dsimp only;refine AB (λK=>?_) (λK=>?_)
 ·have l:k<BG (Ad r).length:=om;have L:900*k<(Ad r).length:=by unfold BG at l;omega
  (refine⟨_,H.lo yF,?_⟩;intro _ _ f;replace H:=H.nw f;clear f)
  refine AC (Uc (bs:=[]) [(r.id,4),((k:Int),1),((BG (Ad r).length:Int),1)] (H.yS 5 1) (by repeat first|exact .head _|refine .tail _ ?_) (by simp) rfl (by simp) (by simp[laid,AU])) ?_;rintro e M ⟨a4,c4,rfl,H⟩;rw[aO,<- headB]at H⊢;have N:(headB r.id k (BG (Ad r).length)).length=6:=by simp[headB,laid,AU]
  have d:Own M 0 5 1 z (Ad r).length A (Ae (Ad r)):=H.xh (by repeat first|exact .head _|refine .tail _ ?_);have O:=d.le;have R:=Ah (Ad r);have T:Int.toNat ((k:Int)*900)=900*k:=om;have U:Int.toNat (min ((Ad r).length:Int) (((k:Int)+1)*900))=min (Ad r).length (900*k+900):=om;refine⟨_,_,_,rfl,iR,iR,iR,⟨om,om,om⟩,?_⟩;rw[T,U];have t:=((d.cells.slA (c:=A) (i:=900*k) om).take 900);rw[<- SG,<- Ru]at t;have g:(((Ad r).drop (900*k)).take 900).length=min (Ad r).length (900*k+900)-900*k:=by simp;omega
  refine Hp.app XO om H EQ4 (Cells.src XP t (by rw[Ah,g,bV]) (OZ _) ?_) om om ?_
  ·intro x
   have:z=none:=by
    unfold slA at x;split at x
    ·exact x
    simpa using x
   exact absurd this (Own.pos d om)
  intro a5 c5 w5 H;rw[<- DK,<- BC]at H;have B:(BC r k).length=(headB r.id k (BG (Ad r).length)).length+(min (Ad r).length (900*k+900)-900*k):=by rw[BC,aF,g]
  rw[<- B]at H⊢;refine⟨⟨(BC r k).toArray⟩,b2s XP KEW KCf (by rw[DF];exact Own.cells (H.ok _ (.head _))) (by simp[ByteArray.size]),?_⟩
  (intro _ _ f;replace H:=H.nw f;clear f)
  refine Hp.app elt26 om H.ET EQ4 (Blk.src (show PP.underlying 106=some (.slice 9) by kernel_rfl) (H.blk (.head _)) rfl rfl) om om ?_;intro X Y w6 H;refine⟨iR,j (BG (Ad r).length-(k+1)) _ _ om ⟨k+1,X,Y,rfl,rfl,om,?_⟩⟩
  have Z:((pieces r).take (k+1)).map sv=((pieces r).take k).map sv++[.string ⟨(BC r k).toArray⟩]:=by
   rw[aG om,ai];simp[pieces,sv]
  rw[Z];exact H.KBe.KBe.KBe
 have l:k=BG (Ad r).length:=om;subst l;rw[<- q,bJ]at H;rw[<- q];exact⟨a',c',rfl,H.Nb⟩
def yM(l:LU):Nat:=l.foldl (λn x=>n*256+x.toNat) 0
def num(l:LU):Int:=IntKind.i64.wrap (yM l:Int)
def EE(x:Int):IntKind.i64.wrap x=if x%18446744073709551616≥9223372036854775808 then x%18446744073709551616-18446744073709551616 else x%18446744073709551616:=by
 simp[IntKind.wrap,IntKind.signed,IntKind.bits]
def LX{x y:Int}(h:x%18446744073709551616=y%18446744073709551616):IntKind.i64.wrap x=IntKind.i64.wrap y:=by
 rw[EE,EE,h]
def Fe(x:Int):IntKind.i64.wrap x%18446744073709551616=x%18446744073709551616:=by
 rw[EE];split<;>omega
def Iu{x y:Int}(h:x%18446744073709551616=y%18446744073709551616):BitVec.ofInt 64 x=BitVec.ofInt 64 y:=by
 apply BitVec.eq_of_toNat_eq;rw[BitVec.toNat_ofInt,BitVec.toNat_ofInt];have:(((2^64:Nat):Int))=18446744073709551616:=by decide
 rw[this,h]
def YL(v y:Nat)(f:y<256):Vc.bits .or .i64 (IntKind.i64.wrap (IntKind.i64.wrap (v:Int)*2^min (Int.toNat 8) (IntKind.bits .i64))) (IntKind.i64.wrap (y:Int))=IntKind.i64.wrap ((v*256+y:Nat):Int):=by
 have a:(2:Int)^min (Int.toNat 8) (IntKind.bits .i64)=256:=by decide
 rw[a];show IntKind.i64.wrap ((BitVec.ofInt 64 (IntKind.i64.wrap (IntKind.i64.wrap (v:Int)*256))|||BitVec.ofInt 64 (IntKind.i64.wrap (y:Int))).toNat:Int)=_
 have b:BitVec.ofInt 64 (IntKind.i64.wrap (IntKind.i64.wrap (v:Int)*256))=BitVec.ofInt 64 (((v%2^56)*256:Nat):Int):=by
  apply Iu;rw[Fe];have:=Fe (v:Int);omega
 have c:BitVec.ofInt 64 (IntKind.i64.wrap (y:Int))=BitVec.ofInt 64 (y:Int):=Iu (Fe _);rw[b,c];apply LX;rw[BitVec.toNat_or,BitVec.toNat_ofInt,BitVec.toNat_ofInt]
 have d:((((v%2^56)*256:Nat):Int)%((2^64:Nat):Int)).toNat=(v%2^56)<<<8:=by
  rw[jf];omega
 have e:((y:Int)%((2^64:Nat):Int)).toNat=y:=om;rw[d,e,<- ji om,jf];omega
def tk(l:LU)(n:Nat):LU:=if n<=l.length then l.take n else []
def dr(l:LU)(n:Nat):LU:=if n<=l.length then l.drop n else []
def KFW(b:Nat)(f:Nq)(bs:LU)(sh:Bool)(w:Wq):Prop:=
 b∉f/\∃a c,Blk w b [.slice a bs.length c,.bool sh] 266/\Cells w a (Ae bs)/\bs.length<=c/\∀k∈x9 a,k∈f
def rdr(b:Nat)(f:Nq)(bs:LU)(sh:Bool):Asn:=.any (b::f) (KFW b f bs sh)
def wU{b:Nat}{f:Nq}{bs:LU}{a:Bool}{w:Wq}(h:(rdr b f bs a).ok w):KFW b f bs a w:=h.2 w λ_ _=>rfl
def cells_of{w w':Wq}{a:OA}{vs:LV}(h:Cells w a vs)(e:∀k∈x9 a,w'.heap[k]? =w.heap[k]?):Cells w' a vs:=by
 intro j v d;obtain⟨c,rfl,b⟩:=h j v d;refine⟨c,rfl,?_⟩;have f:(c.add j).block=c.block:=by unfold Addr.add;split<;>rfl
 rw[World.cell?_of_block (e _ (by rw[f];simp[x9]))];exact b
def qU{b:Nat}{f:Nq}{bs:LU}{e:Bool}{w:Wq}(h:KFW b f bs e w)(l:∀k∈f,k<w.heap.size):(rdr b f bs e).ok w:=by
 obtain⟨m,a,c,g,n,o,i⟩:=h;refine⟨?_,?_⟩
 ·intro k d;rcases aP.1 d with rfl|d
  ·exact g.lt
  exact l k d
 intro p j;exact⟨m,a,c,(j b (.head _)).trans g,cells_of n λk d=>j k (.tail _ (i k d)),o,i⟩
theorem Ql(b:Nat)(f:Nq)(bs:LU)(sh:Bool)(long:Nat)(w:Wq)(h:(rdr b f bs sh).ok w):
  CP 193 #[pq b,I long] w λe w'=>e=Ej (.string ⟨(tk bs long).toArray⟩)/\Hp (b::f) w w' [rdr b f (dr bs long) (sh||decide (bs.length<long))]:=by
 obtain⟨h1,a,c,h2,h3,h4,h5⟩:=wU h;have hlt:∀k∈f,k<w.heap.size:=λk hk=>h.1 k (.tail _ hk);have H:Hp [b] w w [.blk b [.slice a bs.length c,.bool sh] 266]:=Hp.II (a:=.blk b [.slice a bs.length c,.bool sh] 266) h2
 have fin:∀(w':Wq)(a':OA)(c':Nat)(bs':LU)(sh':Bool),Hp [b] w w' [.blk b [.slice a' bs'.length c',.bool sh'] 266]->Cells w a' (Ae bs')->bs'.length<=c'->(∀k∈x9 a',k∈f)->Hp (b::f) w w' [rdr b f bs' sh']:=by
  intro w' a' c' bs' sh' H' hc hl hk;refine⟨H'.chg.more (by simp),?_,?_,by simp⟩
  ·intro x hx;simp at hx;subst hx;exact qU ⟨h1,a',c',H'.blk (.head _),hc.chg H'.chg (λk hk' he=>by simp at he;subst he;exact h1 (hk _ hk')),hl,hk⟩ λk hk=>fM (hlt k hk) H'.chg.size
  intro x hx k hk;simp at hx;subst hx;exact .inl hk
 apply Jap
 (refine⟨_,_,_,H.lo Wv,?_⟩)
 refine AB (λhs=>?_) (λhs=>?_)
 ·(refine H.sx Wv ?_;clear H;intro _ H;(try simp only[over,bz,bu]at H);refine H.sx scl4 ?_;clear H;intro _ H;(try simp only[over,bz,bu]at H))
  have e1:¬long<=bs.length:=om;refine⟨by simp[tk,e1],?_⟩;rw[dr,if_neg e1,decide_eq_true om,qF];exact fin _ none 0 [] true H (by intro j v hj;simp[Ae]at hj) (by simp) (by simp[x9])
 (refine⟨_,_,_,H.lo Wv,?_⟩)
 have e1:long<=bs.length:=om;refine⟨⟨om,om⟩,⟨(bs.take long).toArray⟩,b2s XP KEW KCf (by rw[DF,Ru];exact h3.take _) (by simp[ByteArray.size];omega),AA rfl ?_⟩
 (refine⟨_,_,_,H.lo Wv,?_⟩)
 refine⟨⟨om,om⟩,AA rfl ?_⟩
 (refine H.sx Wv ?_;clear H;intro _ H;(try simp only[over,bz,bu]at H))
 refine⟨by simp[tk,e1],?_⟩;rw[dr,if_pos e1,decide_eq_false om,lw];refine fin _ _ (c-long) (bs.drop long) sh ?_ (by rw[SG];exact h3.slA (by rw[Ah];exact h4)) (by simp;omega) ?_
 ·simpa using H
 intro k hk;refine h5 k ?_;unfold slA at hk;split at hk
 ·exact hk
 cases a with
 |none=>simp[x9]at hk
 |some ad=>
  simp only[dG,x9,aW]at hk⊢;rw[hk];unfold Addr.add;split<;>rfl
def QO(l:LU)(x:UInt8):yM (l++[x])=yM l*256+x.toNat:=by simp[yM,ig]
theorem O8(l:LU):yM l<256^l.length:=by
 have:∀(l:LU)(a:Nat),l.foldl (λn x=>n*256+x.toNat) a<(a+1)*256^l.length:=by
  intro l
  induction l with
  |nil=>intro a;simp
  |cons x r b=>
   intro a;have c:=b (a*256+x.toNat);have d:=x.toNat_lt;rw[dP,aK,nV];have e:(a*256+x.toNat+1)*256^r.length<=((a+1)*256)*256^r.length:=dF _ om;have f:(a+1)*(256^r.length*256)=((a+1)*256)*256^r.length:=by rw[jk (256^r.length) 256,nO]
   omega
 simpa [yM]using this l 0
def Qc{l:LU}(h:l.length<=7):num l=(yM l:Int):=by
 have a:=O8 l;have b:256^l.length<=256^7:=kL om h;rw[num,EE,if_neg om];omega
def JQ(b:Nat)(f:Nq)(bs:LU)(n:Bool)(d:Nat)(t:d<=8)(w:Wq)(h:(rdr b f bs n).ok w):
  CP 183 #[pq b,I d] w λe w'=>e=Ej (I (num (tk bs d)))/\Hp (b::f) w w' [rdr b f (dr bs d) (n||decide (bs.length<d))]:=by
 apply Jan;refine AC (Ql b f bs n d w h) ?_;rintro e u ⟨rfl,H⟩;have x:(tk bs d).length<=8:=by unfold tk;split<;>simp;omega
 have p:maxLen=9223372036854775807:=by simp[maxLen]
 have i:(ByteArray.mk (tk bs d).toArray).size=(tk bs d).length:=by simp[ByteArray.size]
 refine⟨_,rfl,Hp.s2b H EQ4 KCf XP KEW (by rw[i];omega) ?_⟩;intro a c y H;rw[DF,i]at H;rw[i];refine xI.mk (λm s w'=>∃k,m=(tk bs d).length-k/\s=(num ((tk bs d).take k),(k:Int))/\k<=(tk bs d).length/\Hp (b::f) w w' [.own 5 1 a (tk bs d).length c (Ae (tk bs d)),rdr b f (dr bs d) (n||decide (bs.length<d))]) (tk bs d).length ⟨0,rfl,by simp[num,yM,EE],bZ _,H⟩ ?_;rintro m s w' next ⟨k,rfl,rfl,z,H⟩ j
 refine AB (λq=>?_) (λq=>?_)
 ·have g:k<(tk bs d).length:=om;have r:=(H.xh (.head _)).cells;obtain⟨A,o,l⟩:=r k (iU ((tk bs d)[k].toNat:Int)) (by simp[Ae,au,aB g]);refine AA o ⟨⟨om,q⟩,_,PD KEE.agg (by rw[bV];exact l),om,iR,?_⟩;refine j ((tk bs d).length-(k+1)) _ _ om ⟨k+1,rfl,?_,om,H⟩;rw[num,YL _ _ (tk bs d)[k].toNat_lt,aG g,num,QO];simp
 have g:k=(tk bs d).length:=om;subst g;rw[bJ];exact⟨rfl,H.drop⟩
def EU(l:LU):Option (Nat×Nat×Nat):=
 if l.length<6\/906<l.length then none
 else if yM (l.take 4)<1\/2147483647<yM (l.take 4)\/yM ((l.drop 5).take 1)<=yM ((l.drop 4).take 1)then none
 else some (yM (l.take 4),yM ((l.drop 4).take 1),yM ((l.drop 5).take 1))
def wS:Option (Nat×Nat×Nat)->Value
 |none=>.tuple #[I 0,I 0,I 0,.bool false]
 |some (a,b,c)=>.tuple #[I a,I b,I c,.bool true]
def QW(s:BA)(w:Wq):CP 126 #[.string s] w λe w'=>e=Ej (wS (EU s.data.toList))/\Hp [] w w' []:=by
 have i:s.data.toList.length=s.size:=bT;have H:=Hp.start w;have o:maxLen=9223372036854775807:=by simp[maxLen]
 apply Jaj;refine AB (λr=>⟨by rw[EU,if_pos om];rfl,H⟩) (λr=>AB (λt=>⟨by rw[EU,if_pos om];rfl,H⟩) (λt=>?_));refine Hp.s2b H EQ4 KCf XP KEW om ?_;intro a c N H;intro b p q;replace H:=H.nw q;have d:=H.xh m1
 have l:(rdr b (x9 a) s.data.toList false).ok p:=by
  refine qU ⟨?_,a,c,?_,d.cells,by rw[i];exact d.le.1,λk f=>f⟩ λk f=>(d.mem k f).2
  ·exact λu=>(bF.1 H.sep).1 _ (.head _) b (by simp[Asn.foot]) u
  rw[i];exact H.blk (.head _)
 have g:∀k∈b::x9 a,∃x∈[Asn.blk b [.slice a s.size c,.bool false] 266,.own 5 1 a s.size c (byteCells s)],k∈x.foot:=by
  intro k f;rcases aP.1 f with rfl|f
  ·exact⟨_,.head _,by simp[Asn.foot]⟩
  exact⟨_,.tail _ (.head _),f⟩
 refine AC (JQ b (x9 a) s.data.toList false 4 om p l) ?_;rintro e y ⟨rfl,h⟩;replace H:=Hp.use (L1:=[_,_]) (L2:=[]) H h g;refine⟨_,rfl,AC (JQ b (x9 a) _ _ 1 om y (H.ok _ (.head _))) ?_⟩;rintro e z ⟨rfl,h⟩;replace H:=H.Bg h;refine⟨_,rfl,AC (JQ b (x9 a) _ _ 1 om z (H.ok _ (.head _))) ?_⟩;rintro e O ⟨rfl,h⟩;replace H:=H.Bg h;refine⟨_,rfl,?_⟩;have A:tk s.data.toList 4=s.data.toList.take 4:=by rw[tk,if_pos om]
 have B:dr s.data.toList 4=s.data.toList.drop 4:=by rw[dr,if_pos om]
 have C:(s.data.toList.drop 4).length=s.size-4:=by rw[bf,i]
 have D:tk (s.data.toList.drop 4) 1=(s.data.toList.drop 4).take 1:=by rw[tk,if_pos om]
 have F:dr (s.data.toList.drop 4) 1=s.data.toList.drop 5:=by rw[dr,if_pos om,dS]
 have G:(s.data.toList.drop 5).length=s.size-5:=by rw[bf,i]
 have J:tk (s.data.toList.drop 5) 1=(s.data.toList.drop 5).take 1:=by rw[tk,if_pos om]
 rw[B,F,A,D,J];have m:∀(x:LU)(n:Nat),n<=7->num (x.take n)=(yM (x.take n):Int):=λx n q=>Qc (by rw[aJ];omega);rw[m _ 4 om,m _ 1 om,m _ 1 om];have j:¬(s.data.toList.length<6\/906<s.data.toList.length):=om;refine AB (λK=>⟨by rw[EU,if_neg j,if_pos om];rfl,H.done⟩) (λK=>AB (λL=>⟨by rw[EU,if_neg j,if_pos om];rfl,H.done⟩) (λL=>AB (λM=>⟨by rw[EU,if_neg j,if_pos om];rfl,H.done⟩) (λM=>⟨by rw[EU,if_neg j,if_neg om];rfl,H.done⟩)))
theorem X8(n:Int)(d:0<=n):∀k,yM (be n k)=n.toNat%256^k:=by
 have b:∀k (a:Nat),(be n k).foldl (λn x=>n*256+x.toNat) a=a*256^k+n.toNat%256^k:=by
  intro k
  induction k with
  |zero=>intro a;simp[be,oU]
  |succ k e=>
   intro a
   have f:(bt n k).toNat=n.toNat/256^k%256:=by
    have c:=UU n k
    have g:(2:Int)^(8*k)=((256^k:Nat):Int):=by
     rw[qI];simp
    rw[g]at c
    have h:n/((256^k:Nat):Int)=((n.toNat/256^k:Nat):Int):=by
     rw[Int.natCast_ediv,jI d]
    rw[h]at c;omega
   rw[be,dP,e,f,nV];have i:n.toNat%(256^k*256)=n.toNat%256^k+256^k*(n.toNat/256^k%256):=Nat.mod_mul;rw[i,iK,nO,jk 256 (256^k),jk (n.toNat/256^k%256)];omega
 intro k;simpa [yM]using b k 0
def Ec{n:Int}{k:Nat}(a:0<=n)(b:n<256^k):(yM (be n k):Int)=n:=by
 rw[X8 n a,lQ]
 ·omega
 have:((256^k:Nat):Int)=256^k:=by simp
 omega
def Jc{n:Int}{k:Nat}(a:0<=n)(b:n<256^k)(c:n<9223372036854775808):num (be n k)=n:=by
 rw[num,Ec a b,EE,if_neg om];omega
def fid(l:List (LU)):Nat:=match l with
 | []=>0
 |s::_=>match EU s with
  |none=>0
  |some (a,_,_)=>a
def good(l:List (LU)):Prop:=∀k s,l[k]? =some s->EU s=some (fid l,k,l.length)
def F5(l:List (LU)):LU:=l.flatMap (·.drop 6)
def take_left{α:Type}(a b:List α)(n:Nat)(h:a.length=n):(a++b).take n=a:=by subst h;simp
def drop_left{α:Type}(a b:List α)(n:Nat)(h:a.length=n):(a++b).drop n=b:=by subst h;simp
theorem chunks{α:Type}(l:List α)(m:Nat):(List.range m).flatMap (λk=>(l.drop (900*k)).take 900)=l.take (900*m):=by
 induction m with
 |zero=>simp
 |succ m a=>
  rw[gQ,dR,a];simp;rw[show 900*(m+1)=900*m+900 by omega,List.take_add]
def ZI(id:Int)(k m:Nat):(headB id k m).length=6:=by simp[headB,laid,AU]
def piece_drop(r:Rec)(k:Nat):(BC r k).drop 6=((Ad r).drop (900*k)).take 900:=drop_left _ _ 6 (ZI _ _ _)
def join_pieces(r:Rec):F5 (pieces r)=Ad r:=by
 rw[F5,pieces,List.flatMap_map];have:(λk=>(BC r k).drop 6)=λk=>((Ad r).drop (900*k)).take 900:=funext λk=>piece_drop r k;rw[this,chunks];exact aV (by unfold BG;omega)
def Qk(r:Rec)(k:Nat):(BC r k).length=6+min 900 ((Ad r).length-900*k):=by
 rw[BC,aF,ZI,aJ,bf]
def head_piece{r:Rec}(h:Df r){k:Nat}(j:k<BG (Ad r).length):EU (BC r k)=some (r.id.toNat,k,BG (Ad r).length):=by
 obtain⟨l,m,n⟩:=ES h;have o:BG (Ad r).length<=34:=by unfold BG;omega
 have c:=h.1;have a:=h.2.1;have p:=Qk r k
 have e:BC r k=be r.id 4++(be (k:Int) 1++(be (BG (Ad r).length:Int) 1++((Ad r).drop (900*k)).take 900)):=by
  rw[BC,headB];simp[laid]
 have d:(BC r k).take 4=be r.id 4:=by rw[e];exact take_left _ _ 4 (AU _ _)
 have b:(BC r k).drop 4=be (k:Int) 1++(be (BG (Ad r).length:Int) 1++((Ad r).drop (900*k)).take 900):=by rw[e];exact drop_left _ _ 4 (AU _ _)
 have f:(BC r k).drop 5=be (BG (Ad r).length:Int) 1++((Ad r).drop (900*k)).take 900:=by
  rw[show 5=4+1 from rfl,<- dS,b];exact drop_left _ _ 1 (AU _ _)
 have q:(yM (be r.id 4):Int)=r.id:=Ec om om;have s:(yM (be (k:Int) 1):Int)=k:=Ec om om;have t:(yM (be (BG (Ad r).length:Int) 1):Int)=BG (Ad r).length:=Ec om om;have g:((BC r k).drop 4).take 1=be (k:Int) 1:=by rw[b];exact take_left _ _ 1 (AU _ _)
 have i:((BC r k).drop 5).take 1=be (BG (Ad r).length:Int) 1:=by rw[f];exact take_left _ _ 1 (AU _ _)
 rw[EU,if_neg om,d,g,i,if_neg om];simp;omega
theorem good_pieces{r:Rec}(h:Df r):good (pieces r):=by
 obtain⟨f,g,i⟩:=ES h;have c:0<BG (Ad r).length:=by unfold BG;omega
 have e:fid (pieces r)=r.id.toNat:=by
  have a:(pieces r)[0]? =some (BC r 0):=by simp[pieces,c]
  cases hp:pieces r with
  |nil=>rw[hp]at a;cases a
  |cons s t=>
   rw[hp]at a;simp at a;subst a;simp only[fid,head_piece h c]
 intro k s b;rw[Gz,e]
 have d:k<BG (Ad r).length:=by
  have:=(aA.1 b).1
  rwa [Gz]at this
 have:s=BC r k:=by
  simp[pieces,d]at b;exact b.symm
 subst this;exact head_piece h d
def IY{a b:LU}{n:Nat}(h:a.length=n):tk (a++b) n=a:=by
 rw[tk,if_pos (by simp;omega)];exact take_left _ _ n h
def EL{a b:LU}{n:Nat}(h:a.length=n):dr (a++b) n=b:=by
 rw[dr,if_pos (by simp;omega)];exact drop_left _ _ n h
def KH{a b:LU}{n:Nat}(h:a.length=n):decide ((a++b).length<n)=false:=by
 rw[decide_eq_false_iff_not];simp;omega
def Fa:Nat->LU->List (Int×BA)×LU×Bool
 |0,b=>([],b,false)
 |n+1,b=>
  let len:=(num (tk (dr b 2) 2)).toNat
  let r:=Fa n (dr (dr (dr b 2) 2) len)
  ((num (tk b 2),⟨(tk (dr (dr b 2) 2) len).toArray⟩)::r.1,r.2.1,((decide (b.length<2)||decide ((dr b 2).length<2))||decide ((dr (dr b 2) 2).length<len))||r.2.2)
theorem Q4:∀(l:List (Int×BA))(rest:LU),(∀p∈l,JI p.1/\p.2.size<=1500)->Fa l.length (EQ l++rest)=(l,rest,false)
 | [],rest,h=>rfl
 |p::r,rest,h=>by
  obtain⟨⟨i,j⟩,m⟩:=h p (.head _);have c:=Q4 r rest λq d=>h q (.tail _ d);have e:EQ (p::r)++rest=be p.1 2++(be (p.2.size:Int) 2++(p.2.data.toList++(EQ r++rest))):=by simp[EQ]
  have b:p.2.data.toList.length=p.2.size:=bT;have a:∀n:Int,(be n 2).length=2:=λn=>AU n 2;have f:num (be p.1 2)=p.1:=Jc om om om;have g:num (be (p.2.size:Int) 2)=(p.2.size:Int):=Jc om om om;rw[aK,e];simp only[Fa,IY (a _),EL (a _),KH (a _),f,g,aN,IY b,EL b,KH b,c];rfl
structure wI where
 r:Rec
 rest:LU
 short:Bool
def lens(l:Nq)(b:LU):LU:=l.foldl dr b
def Qj(l:Nq)(b:LU):Bool:=match l with
 | []=>false
 |n::r=>decide (b.length<n)||Qj r (dr b n)
def RG(b:LU):Nat:=(num (tk (lens [4,4,8,8,1,2] b) 2)).toNat
def VD(b:LU):Nat:=(num (tk (lens [4,4,8,8,1,2,2,RG b] b) 1)).toNat
def parse(b:LU):wI:=
 let A:=Fa (VD b) (lens [4,4,8,8,1,2,2,RG b,1] b)
 {r:= {id:=num (tk b 4),parent:=num (tk (lens [4] b) 4),frm:=num (tk (lens [4,4] b) 8),to:=num (tk (lens [4,4,8] b) 8),kind:=num (tk (lens [4,4,8,8] b) 1),name:=num (tk (lens [4,4,8,8,1] b) 2),text:=⟨(tk (lens [4,4,8,8,1,2,2] b) (RG b)).toArray⟩,FP:=A.1}
  rest:=A.2.1
  short:=Qj [4,4,8,8,1,2,2,RG b,1] b||A.2.2}
def parse_whole{r:Rec}(h:Df r):parse (Ad r)=⟨r,[],false⟩:=by
 have C:=ES h;obtain⟨D,F,G,H,J,K,L,m⟩:=h
 have e:Ad r=be r.id 4++(be r.parent 4++(be r.frm 8++(be r.to 8++(be r.kind 1++(be r.name 2++(be (r.text.size:Int) 2++(r.text.data.toList++(be (r.FP.length:Int) 1++(EQ r.FP++[]))))))))):=by
  simp[Ad,FK,laid]
 have o:0<=r.kind/\r.kind<256/\0<=r.name/\r.name<65536/\r.text.size<=1500/\∀p∈r.FP,JI p.1/\p.2.size<=1500:=by
  rcases m with⟨j,l,_,f,i,_⟩|⟨j,l,f,i⟩
  ·refine⟨om,om,?_,?_,?_,l⟩
   ·have:=f.1;omega
   ·have:=f.2;omega
   rw[i];simp[ByteArray.size]
  refine⟨om,om,om,om,i,?_⟩;rw[f];simp
 obtain⟨j,M,N,O,R,q⟩:=o;have g:r.text.data.toList.length=r.text.size:=bT;have a:∀n:Int,(be n 1).length=1:=λn=>AU n 1;have b:∀n:Int,(be n 2).length=2:=λn=>AU n 2;have c:∀n:Int,(be n 4).length=4:=λn=>AU n 4;have d:∀n:Int,(be n 8).length=8:=λn=>AU n 8;have s:num (be r.id 4)=r.id:=Jc om om om;have u:num (be r.parent 4)=r.parent:=Jc om om om;have w:num (be r.frm 8)=r.frm:=Jc om om om;have x:num (be r.to 8)=r.to:=Jc om om om;have y:num (be r.kind 1)=r.kind:=Jc om om om;have z:num (be r.name 2)=r.name:=Jc om om om;have A:num (be (r.text.size:Int) 2)=(r.text.size:Int):=Jc om om om;have B:num (be (r.FP.length:Int) 1)=(r.FP.length:Int):=Jc om om om
 have t:RG (Ad r)=r.text.size:=by
  rw[e];simp only[RG,lens,dP,jF,EL (c _),EL (d _),EL (a _),EL (b _),IY (b _),A,aN]
 have at_:VD (Ad r)=r.FP.length:=by
  rw[VD,t,e];simp only[lens,dP,jF,EL (c _),EL (d _),EL (a _),EL (b _),IY (a _),EL g,B,aN]
 rw[parse,t,at_,e]
 simp only[Qj,lens,dP,jF,EL (c _),EL (d _),EL (a _),EL (b _),EL g,IY (c _),IY (d _),IY (a _),IY (b _),IY g,
  KH (c _),KH (d _),KH (a _),KH (b _),KH g,s,u,w,x,y,z,Q4 r.FP [] q]
 rfl
def KCB(l:List (LU))(r:Rec):Prop:=Df r/\pieces r=l
def Jv{l:List (LU)}{r:Rec}(h:KCB l r):good l/\F5 l=Ad r/\30<=(F5 l).length/\parse (F5 l)=⟨r,[],false⟩:=by
 obtain⟨a,rfl⟩:=h;rw[join_pieces];exact⟨good_pieces a,rfl,(ES a).1,parse_whole a⟩
def decR_one{l:List (LU)}{r a:Rec}(h:KCB l r)(c:KCB l a):r=a:=by
 have b:=(Jv h).2.2.2;rw[(Jv c).2.2.2]at b;exact(congrArg wI.r b).symm
structure KCZ(w:Wq)(a:OA)(n:Nat)(l:List (LU)):Prop where
 len:n=l.length
 cells:Cells w a (l.map sv)
def KCZ.chg{w w':Wq}{a:OA}{n:Nat}{l:List (LU)}{B:Nq}(h:KCZ w a n l)(b:Chg B w w')(c:∀k∈x9 a,k∉B):KCZ w' a n l:=⟨h.len,h.cells.chg b c⟩
def KCZ.ld{w:Wq}{a:OA}{n:Nat}{l:List (LU)}(h:KCZ w a n l){k:Nat}{s:LU}(d:l[k]? =some s):∃b,a=some b/\Ld PP 9 w (b.add (k*1)) (.string ⟨s.toArray⟩):=by
 obtain⟨b,c,e⟩:=h.cells k (sv s) (by simp[d]);exact⟨b,c,PD KBR.agg (by rw[bV];exact e)⟩
def KCZ.ld0{w:Wq}{a:OA}{n:Nat}{l:List (LU)}(h:KCZ w a n l){s:LU}(e:l[0]? =some s){c:Addr}(f:a=some c):Ld PP 9 w c (.string ⟨s.toArray⟩):=by
 obtain⟨d,b,g⟩:=h.cells 0 (sv s) (by simp[e]);have:c=d:=by rw[f]at b;exact Option.some.inj b
 subst this;exact PD KBR.agg (by simpa [Addr.add,sv]using g)
def headF_len{l:LU}{x:Nat×Nat×Nat}(h:EU l=some x):6<=l.length/\l.length<=906/\x.2.2<256:=by
 unfold EU at h;split at h
 ·cases h
 split at h
 ·cases h
 cases h;have:=O8 ((l.drop 5).take 1);have a:((l.drop 5).take 1).length<=1:=by rw[aJ];omega
 have b:256^((l.drop 5).take 1).length<=256^1:=kL om a;refine⟨om,om,?_⟩;show yM _<256;omega
theorem Qw(x:Option (Nat×Nat×Nat)):∃(i j m:Nat)(b:Bool),wS x=.tuple #[I (i:Int),I (j:Int),I (m:Int),.bool b]/\(x=none->i=0/\b=false)/\(∀y,x=some y->(i,j,m)=y/\b=true):=by
 cases x with
 |none=>exact⟨0,0,0,false,rfl,λ_=>⟨rfl,rfl⟩,by simp⟩
 |some y=>
  obtain⟨i,j,m⟩:=y;exact⟨i,j,m,true,rfl,by simp,λy h=>by cases h;exact⟨rfl,rfl⟩⟩
theorem fid_head{l:List (LU)}{s:LU}(h:l[0]? =some s){i:Nat}(d:EU s=none->i=0)(e:∀y,EU s=some y->i=y.1):fid l=i:=by
 cases l with
 |nil=>cases h
 |cons t r=>
  simp at h;subst h;simp only[fid];cases hh:EU t with
  |none=>simp[d hh]
  |some y=>obtain⟨a,b,c⟩:=y;simp[e _ hh]
def X7(l:LU)(i j:Nat):(ByteArray.mk l.toArray).extract i j=⟨((l.take j).drop i).toArray⟩:=by
 apply nP;apply pI;rw[kw,kJ,jS];simp only[gu]
def zrec:Value:=.agg #[I 0,I 0,I 0,I 0,I 0,I 0,.string ⟨#[]⟩,.slice none 0 0]
def La(A:List (Int×BA))(p:Int×BA):BL (A++[p])=BL A++[I p.1,.string p.2]:=by simp[BL,JC]
def mk_inj{x y:LU}:(ByteArray.mk x.toArray=ByteArray.mk y.toArray)↔x=y:=by
 constructor
 ·intro h;have:=congrArg (λb:BA=>b.data.toList) h;simpa using this
 rintro rfl;rfl
theorem joined_spec(l:List (LU))(a:OA)(n c:Nat)(w:Wq)(C:KCZ w a n l)(hn:n<=maxLen):
  CP 192 #[.slice a n c] w λe w'=>(good l/\∃a' c',e=Ej (.tuple #[.slice a' (F5 l).length c',.bool (decide (0<(F5 l).length))])/\(F5 l).length<=900*256/\l.length<=256/\Hp [] w w' [.own 5 1 a' (F5 l).length c' (Ae (F5 l))])\/
   (¬good l/\e=Ej (.tuple #[.slice none 0 0,.bool false])/\Hp [] w w' []):=by
 have H:=Hp.start w;have N:maxLen=9223372036854775807:=by simp[maxLen]
 have O:=C.len;apply Jak
 refine xI.mk (λm s w'=>∃k a' B c',m=l.length-k/\s=((a',B,c'),(k:Int))/\k<=l.length/\B=(F5 (l.take k)).length/\(F5 (l.take k)).length<=900*k/\(0<k->l.length<=256)/\(∀j s,j<k->l[j]? =some s->EU s=some (fid l,j,l.length))/\
  Hp [] w w' [.own 5 1 a' B c' (Ae (F5 (l.take k)))]) l.length ⟨0,none,0,0,rfl,rfl,bZ _,rfl,bZ _,om,om,H.yS 5 1⟩ ?_
 rintro m s w' next ⟨k,a',B,c',rfl,rfl,hk,rfl,h9,o,R,H⟩ q
 dsimp only;refine AB (λh=>?_) (λh=>?_)
 ·have d:k<l.length:=om;have D:l[k]? =some l[k]:=aB d;have u:l[0]? =some l[0]:=aB om;obtain⟨ad,r,F⟩:=(C.chg H.chg (by simp)).ld D;refine AA r ⟨⟨om,h⟩,_,F,AC (QW _ _) ?_⟩;rintro e w2 ⟨rfl,G⟩;replace H:=H.xN G;obtain⟨i,j,m,b,ev,T,U⟩:=Qw (EU l[k]);have aa:EU l[k]=none->i=0/\b=false:=T;refine⟨i,j,m,b,by simp only[ev],AA r ⟨⟨om,om⟩,_,(C.chg H.chg (by simp)).ld0 u r,AC (QW _ _) ?_⟩⟩;rintro e w3 ⟨rfl,G⟩;replace H:=H.xN G;obtain⟨X,j2,m2,b2,J,g1,g2⟩:=Qw (EU l[0]);have Y:fid l=X:=fid_head u (λh=>(g1 h).1) (λy hy=>by have:=(g2 y hy).1;rw[<- this]);refine⟨X,j2,m2,b2,by simp only[J],?_⟩;have f:(¬EU l[k]=some (fid l,k,l.length))->¬good l:=λx K=>x (K k _ D);refine Es (λx=>.inr ⟨f ?_,rfl,H.done⟩) (λx=>?_)
  ·intro g;have:=(U _ g).2;rw[x]at this;cases this
  cases g:EU l[k]with
  |none=>have:=(T g).2;rw[x]at this;cases this
  |some y=>
   obtain⟨y1,y2⟩:=U y g;subst y1;refine AQ (λhi=>.inr ⟨f ?_,rfl,H.done⟩) (λhi=>AQ (λhj=>.inr ⟨f ?_,rfl,H.done⟩) (λhj=>AQ (λhm=>.inr ⟨f ?_,rfl,H.done⟩) (λhm=>?_)))
   ·rw[g,Option.some.injEq,Prod.mk.injEq];omega
   ·rw[g,Option.some.injEq,Prod.mk.injEq,Prod.mk.injEq];omega
   ·rw[g,Option.some.injEq,Prod.mk.injEq,Prod.mk.injEq];omega
   have L:=headF_len g;have z:(ByteArray.mk l[k].toArray).size=l[k].length:=by simp[ByteArray.size]
   have A:(ByteArray.mk l[k].toArray).extract (Int.toNat 6) (ByteArray.mk l[k].toArray).size=⟨(l[k].drop 6).toArray⟩:=by
    rw[z];rw[X7,bJ];rfl
   have ab:m<256:=L.2.2;rw[A];have Z:(l[k].drop 6).length=l[k].length-6:=bf;have p:(ByteArray.mk (l[k].drop 6).toArray).size=(l[k].drop 6).length:=by simp[ByteArray.size]
   refine⟨⟨om,by rw[z];omega⟩,Hp.app XO om H EQ4 (Src.ofString _ KCf ⟨(l[k].drop 6).toArray⟩) om om ?_⟩;intro a5 c5 w5 H;rw[DF,<- DK,p,<- aF]at H;rw[p,<- aF]
   have ej:F5 (l.take (k+1))=F5 (l.take k)++l[k].drop 6:=by
    rw[aG d,F5,dR];simp[F5]
   rw[<- ej]at H⊢;refine⟨iR,q (l.length-(k+1)) _ _ om ⟨k+1,a5,_,c5,rfl,rfl,om,rfl,?_,om,?_,H⟩⟩
   ·rw[ej,aF];omega
   intro j' s' ac t;by_cases M:j'=k
   ·subst M;rw[D]at t;cases t;rw[g,Option.some.injEq,Prod.mk.injEq,Prod.mk.injEq];omega
   exact R j' s' om t
 have d:k=l.length:=om;subst d;rw[bJ]at H h9⊢;left;refine⟨λj s hs=>R j s (aA.1 hs).1 hs,a',c',?_,?_,?_,H⟩
 ·have Z:decide ((0:Int)<((F5 l).length:Int))=decide (0<(F5 l).length):=decide_eq_decide.2 om;rw[Z]
 ·by_cases h0:l.length=0
  ·omega
  have:=o om;omega
 by_cases h0:l.length=0
 ·omega
 exact o om
def toRdr{B:Nq}{w0 w:Wq}{L:List Asn}{b:Nat}{a:OA}{bs:LU}{c:Nat}{f:Bool}(H:Hp B w0 w (.blk b [.slice a bs.length c,.bool f] 266::.own 5 1 a bs.length c (Ae bs)::L)):Hp B w0 w (rdr b (x9 a) bs f::L):=by
 have d:=H.xh m1
 have g:(rdr b (x9 a) bs f).ok w:=by
  refine qU ⟨?_,a,c,H.blk (.head _),d.cells,d.le.1,λk e=>e⟩ λk e=>(d.mem k e).2;exact λh=>(bF.1 H.sep).1 _ (.head _) b (by simp[Asn.foot]) h
 refine Hp.use (L1:=[_,_]) (L2:=L) H (Hp.II g) λk e=>?_;rcases aP.1 e with rfl|e
 ·exact⟨_,.head _,by simp[Asn.foot]⟩
 exact⟨_,.tail _ (.head _),e⟩
def sU:PP.underlying 202=some (.slice 260):=by kernel_rfl
def VU(l:LU)(n:Nat):(tk l n).length<=n:=by unfold tk;split<;>simp;omega
def Xn{l:LU}(h:l.length<=7):num l=((num l).toNat:Int):=by rw[Qc h];simp
def parse_rel{g b1 l m n o p q h:LU}{T N:Nat}(a:dr g 4=b1)(b:dr b1 4=l)(c:dr l 8=m)(d:dr m 8=n)(e:dr n 1=o)(f:dr o 2=p)(i:dr p 2=q)(t:num (tk p 2)=(T:Int))(j:dr q T=h)(u:num (tk h 1)=(N:Int)):
  parse g= {r:= {id:=num (tk g 4),parent:=num (tk b1 4),frm:=num (tk l 8),to:=num (tk m 8),kind:=num (tk n 1),name:=num (tk o 2),text:=⟨(tk q T).toArray⟩,FP:=(Fa N (dr h 1)).1},rest:=(Fa N (dr h 1)).2.1,short:=Qj [4,4,8,8,1,2,2,T,1] g||(Fa N (dr h 1)).2.2}:=by
 have s:RG g=T:=by
  simp only[RG,lens,dP,jF,a,b,c,d,e,f,t,aN]
 have w:VD g=N:=by
  simp only[VD,s,lens,dP,jF,a,b,c,d,e,f,i,j,u,aN]
 simp only[parse,s,w,lens,dP,jF,a,b,c,d,e,f,i,j]
def decode_spec(l:List (LU))(a:OA)(n c:Nat)(w:Wq)(hS:KCZ w a n l)(hn:n<=maxLen):
  CP 131 #[.slice a n c] w λe w'=>(∃r a' c',KCB l r/\e=Ej (.tuple #[r.val a' r.FP.length c',I 0])/\Hp [] w w' [.own 260 2 a' r.FP.length c' (BL r.FP)])\/
   ((¬∃r,KCB l r)/\e=Ej (.tuple #[zrec,I 160])/\Hp [] w w' []):=by
 have H:=Hp.start w;have hmax:maxLen=9223372036854775807:=by simp[maxLen]
 have hlen:=hS.len;apply Jag
 (intro _ _ hn;replace H:=H.nw hn;clear hn)
 rename_i b _;refine AC (joined_spec l a n c _ (hS.chg H.chg (by simp)) hn) ?_;rintro e w2 (⟨hgood,a1,c1,rfl,hj1,hj2,H'⟩|⟨hbad,rfl,H'⟩)
 ·replace H:=H.yC H';refine⟨_,_,_,_,rfl,AQ (λh0=>?_) (λh0=>?_)⟩
  ·(refine H.AX.sxA Dh ?_;clear H;intro _ H;(try simp only[over,bz,bu]at H);refine⟨_,_,_,_,_,_,_,_,_,_,H.loA Dh,?_⟩)
   refine .inr ⟨?_,rfl,H.done⟩;rintro⟨r,hr⟩;have:=(Jv hr).2.2.1;omega
  intro b2 w3 hn3;replace H:=toRdr (H.nw hn3);generalize x9 a1=f at H;generalize hb0:F5 l=b0 at*;have num1:=λ(long:Nat)(h8:long<=8)(bs:LU)(sh:Bool)(w:Wq)(h:(rdr b2 f bs sh).ok w)=>JQ b2 f bs sh long h8 w h;refine AC (num1 4 om _ _ _ (H.ok _ (.head _))) ?_;rintro e w4 ⟨rfl,H'⟩;replace H:=H.Bg H';generalize hb1:dr b0 4=b1 at H;refine⟨_,rfl,AC (num1 4 om _ _ _ (H.ok _ (.head _))) ?_⟩;rintro e w5 ⟨rfl,H'⟩;replace H:=H.Bg H';generalize hb2:dr b1 4=b2x at H;refine⟨_,rfl,?_⟩
  (intro _ _ hn;replace H:=H.nw hn;clear hn;refine H.sxA Dh ?_;clear H;intro _ H;(try simp only[over,bz,bu]at H))
  replace H:=H.AX;rename_i b3 _ _;refine AC (num1 8 om _ _ _ (H.ok _ (.head _))) ?_;rintro e w6 ⟨rfl,H'⟩;replace H:=H.Bg H';generalize hb3:dr b2x 8=b3x at H;refine⟨_,rfl,AC (num1 8 om _ _ _ (H.ok _ (.head _))) ?_⟩;rintro e w7 ⟨rfl,H'⟩;replace H:=H.Bg H';generalize hb4:dr b3x 8=b4 at H;refine⟨_,rfl,?_⟩
  (refine H.AX.sxA vG ?_;clear H;intro _ H;(try simp only[over,bz,bu]at H))
  replace H:=H.AX;refine AC (num1 1 om _ _ _ (H.ok _ (.head _))) ?_;rintro e w8 ⟨rfl,H'⟩;replace H:=H.Bg H';generalize hb5:dr b4 1=b5 at H;refine⟨_,rfl,AC (num1 2 om _ _ _ (H.ok _ (.head _))) ?_⟩;rintro e w9 ⟨rfl,H'⟩;replace H:=H.Bg H';generalize hb6:dr b5 2=b6 at H;refine⟨_,rfl,?_⟩
  (refine H.AX.sx yF ?_;clear H;intro _ H;(try simp only[over,bz,bu]at H);refine H.sx yF ?_;clear H;intro _ H;(try simp only[over,bz,bu]at H))
  replace H:=H.AX;refine AC (num1 2 om _ _ _ (H.ok _ (.head _))) ?_;rintro e w10 ⟨rfl,H'⟩;replace H:=H.Bg H';generalize hb7:dr b6 2=b7 at H;refine⟨_,rfl,?_⟩;obtain⟨T,hT⟩:∃T:Nat,num (tk b6 2)=(T:Int):=⟨_,Xn (fJ (VU _ 2) om)⟩;rw[hT];refine AC (Ql b2 f _ _ _ _ (H.ok _ (.head _))) ?_;rintro e w11 ⟨rfl,H'⟩;replace H:=H.Bg H';generalize hb8:dr b7 T=b8 at H;refine⟨_,rfl,?_⟩
  (refine H.AX.sx KBR ?_;clear H;intro _ H;(try simp only[over,bz,bu]at H))
  replace H:=H.AX;refine AC (num1 1 om _ _ _ (H.ok _ (.head _))) ?_;rintro e w12 ⟨rfl,H'⟩;replace H:=H.Bg H';obtain⟨N,hN⟩:∃N:Nat,num (tk b8 1)=(N:Int):=⟨_,Xn (fJ (VU _ 1) om)⟩;refine⟨_,rfl,?_⟩;rw[hN]
  have hN2:N<256:=by
   have h2:=Qc (fJ (VU b8 1) om);have h3:=O8 (tk b8 1);have h4:256^(tk b8 1).length<=256^1:=kL om (VU _ 1);omega
  obtain⟨p,hp⟩:∃p,p=parse b0:=⟨_,rfl⟩;have hdec:∀r,KCB l r->p=⟨r,[],false⟩:=λr hr=>hp.trans ((congrArg parse hb0).symm.trans (Jv hr).2.2.2);have hpar:=parse_rel hb1 hb2 hb3 hb4 hb5 hb6 hb7 hT hb8 hN;rw[<- hp]at hpar;generalize hb9:dr b8 1=b9 at H hpar
  replace H:∃sh9,sh9=(Qj [4,4,8,8,1,2,2,T,1] b0)/\Hp [] w w12 [rdr b2 f b9 sh9,.blk b3 [I p.r.id,I p.r.parent,I p.r.kind,I p.r.name,I p.r.frm,I p.r.to,.string p.r.text,.slice none 0 0] 204,
    .blk b [I 0,I 0,I 0,I 0,I 0,I 0,.string ⟨#[]⟩,.slice none 0 0] 204]:=by
   refine⟨?x,?e,?h⟩
   case h=>rw[hpar];exact H
   case e=>
    subst hb1 hb2 hb3 hb4 hb5 hb6 hb7 hb8;simp only[Qj,Bool.or_assoc,lh,lw]
  obtain⟨sh9,hsh9,H⟩:=H;rw[<- hsh9]at hpar;have hpA:p.r.FP=(Fa N b9).1:=by rw[hpar]
  have hpR:p.rest=(Fa N b9).2.1:=by rw[hpar]
  have hpS:p.short=(sh9||(Fa N b9).2.2):=by rw[hpar]
  refine xI.mk (λm s w'=>∃k A bs sh a' c',m=N-k/\s=(k:Int)/\k<=N/\A.length=k/\A++(Fa (N-k) bs).1=p.r.FP/\(Fa (N-k) bs).2.1=p.rest/\(sh||(Fa (N-k) bs).2.2)=p.short/\
   Hp [] w w' [.own 260 2 a' k c' (BL A),rdr b2 f bs sh,.blk b3 [I p.r.id,I p.r.parent,I p.r.kind,I p.r.name,I p.r.frm,I p.r.to,.string p.r.text,.slice a' k c'] 204,
    .blk b [I 0,I 0,I 0,I 0,I 0,I 0,.string ⟨#[]⟩,.slice none 0 0] 204])
   (N) ⟨0,[],_,_,none,0,rfl,rfl,bZ _,rfl,by rw[hpA];rfl,by rw[hpR];rfl,by rw[hpS];rfl,H.yS 260 2⟩ ?_
  rintro m s w' next ⟨k,A,bs,sh,a',c',rfl,rfl,hk,hA,hp1,hp2,hp3,H⟩ hnext
  refine AB (λh=>?_) (λh=>?_)
  ·have hk1:N-k=(N-(k+1))+1:=om;rw[hk1]at hp1 hp2 hp3;simp only[Fa]at hp1 hp2 hp3;replace H:=H.AX;refine AC (num1 2 om _ _ _ (H.ok _ (.head _))) ?_;rintro e w13 ⟨rfl,H'⟩;replace H:=H.Bg H';refine⟨_,rfl,?_⟩
   (intro _ _ hn;replace H:=H.nw hn;clear hn;refine H.sxA Wu ?_;clear H;intro _ H;(try simp only[over,bz,bu]at H))
   replace H:=H.AX;refine AC (num1 2 om _ _ _ (H.ok _ (.head _))) ?_;rintro e w14 ⟨rfl,H'⟩;replace H:=H.Bg H';refine⟨_,rfl,?_⟩;rw[Xn (fJ (VU (dr bs 2) 2) om)];refine AC (Ql b2 f _ _ _ _ (H.ok _ (.head _))) ?_;rintro e w15 ⟨rfl,H'⟩;replace H:=H.Bg H';refine⟨_,rfl,?_⟩
   (refine H.AX.sx KBR ?_;clear H;intro _ H;(try simp only[over,bz,bu]at H);refine⟨_,_,_,H.lo IM,?_⟩;refine⟨_,_,H.loA Wu,?_⟩;intro _ _ hn;replace H:=H.nw hn;clear hn)
   refine Hp.app ry om H.ET EQ4 (Blk.src sU (H.blk (.head _)) rfl rfl) om om ?_;intro a6 c6 w16 H;rw[<- La A (_,_)]at H;replace H:=H.JH
   (refine H.sx IM ?_;clear H;intro _ H;(try simp only[over,bz,bu]at H))
   refine⟨iR,hnext (N-(k+1)) _ _ om ⟨k+1,_,_,_,a6,c6,rfl,by simp,om,?_,?_,hp2,?_,H.AX.KDJ.KDJ.BF.AX⟩⟩
   ·simp[hA]
   ·rw[<- hp1];simp
   rw[<- hp3];simp only[Bool.or_assoc]
  have hkN:k=N:=om;subst hkN;rw[iL]at hp1 hp2 hp3;simp only[Fa,aX,lw]at hp1 hp2 hp3
  (refine⟨_,_,_,_,_,_,_,_,_,_,H.loA Dh,?_⟩)
  have hAt:AtS w' a' k p.r.FP:=⟨by rw[<- hp1,hA],by rw[<- hp1];exact(H.xh (.head _)).cells⟩;refine AC (RY p.r a' k c' _ hAt om) ?_;rintro e w13 ⟨a7,c7,rfl,H'⟩;replace H:=H.yC H';refine⟨_,_,_,_,rfl,?_⟩
  refine xM.mk (λs w'=>(s=true->¬∃r,KCB l r)/\(s=false->Df p.r/\(out p.r).length=l.length)/\
   Hp [] w w' [.own 9 1 a7 (out p.r).length c7 ((out p.r).map sv),.own 260 2 a' k c' (BL A),rdr b2 f bs sh,.blk b3 [I p.r.id,I p.r.parent,I p.r.kind,I p.r.name,I p.r.frm,I p.r.to,.string p.r.text,.slice a' k c'] 204,
   .blk b [I 0,I 0,I 0,I 0,I 0,I 0,.string ⟨#[]⟩,.slice none 0 0] 204]) ?_ ?_
  ·clear H;rintro s w' ⟨hs1,hs2,H⟩;refine Du (λhs=>?_) (λhs=>?_)
   ·(refine H.JH.sxA Dh ?_;clear H;intro _ H;(try simp only[over,bz,bu]at H);refine⟨_,_,_,_,_,_,_,_,_,_,H.loA Dh,?_⟩)
    exact .inr ⟨hs1 hs,rfl,H.done⟩
   obtain⟨hr1,hr2⟩:=hs2 hs;have hout:out p.r=pieces p.r:=by rw[out,if_pos hr1]
   refine xI.mk (λm s w'=>∃j,m=l.length-j/\s=(j:Int)/\j<=l.length/\(out p.r).take j=l.take j/\
    Hp [] w w' [.own 9 1 a7 (out p.r).length c7 ((out p.r).map sv),.own 260 2 a' k c' (BL A),rdr b2 f bs sh,.blk b3 [I p.r.id,I p.r.parent,I p.r.kind,I p.r.name,I p.r.frm,I p.r.to,.string p.r.text,.slice a' k c'] 204,
    .blk b [I 0,I 0,I 0,I 0,I 0,I 0,.string ⟨#[]⟩,.slice none 0 0] 204]) l.length ⟨0,rfl,rfl,bZ _,by simp,H⟩ ?_
   rintro m s w' next ⟨j,rfl,rfl,hj,hje,H⟩ hnext
   refine AB (λh1=>?_) (λh1=>?_)
   ·have hjl:j<l.length:=om;have hq1:(out p.r)[j]? =some (out p.r)[j]:=aB om;have hq2:l[j]? =some l[j]:=aB hjl;have hO:KCZ w'.drew a7 (out p.r).length (out p.r):=⟨rfl,(H.drew.xh (.head _)).cells⟩;obtain⟨ad7,had7,hld7⟩:=hO.ld hq1;obtain⟨ad,had,hld⟩:=(hS.chg H.drew.chg (by simp)).ld hq2;refine AA had7 ⟨⟨om,om⟩,_,hld7,AA had ⟨⟨om,om⟩,_,hld,AQ (λhne=>?_) (λheq=>?_)⟩⟩
    ·replace H:=H.drew
     (refine H.JH.sxA Dh ?_;clear H;intro _ H;(try simp only[over,bz,bu]at H);refine⟨_,_,_,_,_,_,_,_,_,_,H.loA Dh,?_⟩)
     refine .inr ⟨?_,rfl,H.done⟩;rintro⟨r,hr⟩;have h3:=hdec r hr;have h4:out p.r=l:=by rw[h3,out,if_pos hr.1,hr.2]
     have h5:(out p.r)[j]? =l[j]? :=by rw[h4]
     have h6:=Option.some.inj (hq1.symm.trans (h5.trans hq2));exact hne (by rw[h6])
    rw[mk_inj]at heq;refine⟨iR,hnext (l.length-(j+1)) _ _ om ⟨j+1,rfl,by simp,om,?_,H.drew⟩⟩;rw[aG hjl,aG om,hje,heq]
   have hjl:j=l.length:=om;subst hjl;rw[<- hr2,bJ,hr2,bJ]at hje
   (refine⟨_,_,_,_,_,_,_,_,_,_,H.loA Dh,?_⟩;refine H.JH.sxA Dh ?_;clear H;intro _ H;(try simp only[over,bz,bu]at H);refine⟨_,_,_,_,_,_,_,_,_,_,H.loA Dh,?_⟩)
   refine .inl ⟨p.r,a',c',⟨hr1,by rw[<- hout];exact hje⟩,?_,?_⟩
   ·rw[<- hp1,hA];rfl
   rw[<- hp1,hA];exact H.BF.Nb
  intro J hJ;obtain⟨hb2,ab,cb,hbk,hbc,hbl,hbf⟩:=wU (H.ok _ m2)
  have hno:(p.short=true\/p.rest≠[]\/¬Df p.r\/(out p.r).length≠l.length)->¬∃r,KCB l r:=by
   rintro h ⟨r,hr⟩;have h3:=hdec r hr;have h4:(out r)=l:=by rw[out,if_pos hr.1,hr.2]
   rw[h3]at h;rcases h with h|h|h|h
   ·cases h
   ·exact h rfl
   ·exact h hr.1
   exact h (by rw[h4])
  refine⟨sh,hbk.ld scl4.agg rfl,Du (λh1=>hJ _ _ ⟨λ_=>hno (.inl (by rw[<- hp3,h1])),by simp,H⟩) (λh1=>⟨_,_,_,hbk.ld Wv.agg rfl,AB (λh2=>hJ _ _ ⟨λ_=>hno (.inr (.inl ?_)),by simp,H⟩) (λh2=>?_)⟩)⟩
  ·intro h3;rw[<- hp2]at h3;rw[h3]at h2;simp at h2
  refine AQ (λh3=>hJ _ _ ⟨λ_=>hno (.inr (.inr (.inl ?_))),by simp,H⟩) (λh3=>hJ _ _ ⟨λh4=>hno (.inr (.inr (.inr ?_))),λh4=>⟨?_,?_⟩,H⟩)
  ·intro h4;rw[errOf,if_pos h4]at h3;exact h3 rfl
  ·intro h5;simp[hlen,h5]at h4
  ·refine az λh5=>?_;rw[errOf,if_neg h5]at h3;cases h3
  simp at h4;omega
 replace H:=H.xN H';refine⟨none,0,0,false,rfl,Cc ?_⟩
 (refine H.sxA Dh ?_;clear H;intro _ H;(try simp only[over,bz,bu]at H);refine⟨_,_,_,_,_,_,_,_,_,_,H.loA Dh,?_⟩)
 refine .inr ⟨?_,rfl,H.done⟩;rintro⟨r,hr⟩;exact hbad (Jv hr).1
end Go.Proofs.YtljenkbpnioipaaGreat.Fol
namespace Go.Proofs.YtljenkbpnioipaaGreat
noncomputable section
open Go Go.Vc Go.Nod
def made_zeros(n:Nat):(madeCells (iU 0).cells (n*1)).toList=List.replicate n (iU 0):=by
 apply dN;intro k;rw[bV];by_cases a:k<n
 ·have:(madeCells (iU 0).cells n).toList.length=n:=by rw[bT,size_madeCells]
  rw[aB om,gp,if_pos a];simp[madeCells,Value.cells,oU]
 rw[bC (by rw[bT,size_madeCells];omega),gp,if_neg a]
def bzU8:zeroOf PP 5=some (iU 0):=by kernel_rfl
def nbS(n:Int)(m k:Nat):LU:=(be n m).take k++List.replicate (m-k) 0
def nbS_len(n:Int){m k:Nat}(h:k<=m):(nbS n m k).length=m:=by
 simp only[nbS,aF,aJ,AU,dQ];omega
def nbS_succ(n:Int){m k:Nat}(h:k<m):(nbS n m k).set k (bt n (m-1-k))=nbS n m (k+1):=by
 have a:((be n m).take k).length=k:=by rw[aJ,AU];omega
 obtain⟨b,c⟩:=aA.1 (Sl.uU n m k h);rw[nbS,nbS,jU,if_neg om,a,iL,show m-k=(m-(k+1))+1 by omega,o6,bz,aG b,c,ax];rfl
def O3(n:Int)(m:Nat)(u:m<=8)(w:Wq):CP 114 #[I n,I (m:Int)] w λe w'=>e=Ej (sv (be n m))/\Hp [] w w' []:=by
 apply Jcq;refine Hp.mkS xG (Hp.start w) EQ4 om (by rw[aN];simp only[maxLen];omega) om bzU8 ?_;intro a x H;rw[aN]at H⊢;rw[made_zeros]at H;refine xI.mk (λq s w'=>∃j:Nat,q=m-j/\j<=m/\s=(j:Int)/\Hp [] w w' [.own 5 1 a m m (Ae (nbS n m j))]) m ⟨0,rfl,om,rfl,?_⟩ ?_
 ·have:Ae (nbS n m 0)=List.replicate m (iU 0):=by
   rw[nbS,fD,aO,kN,Sl.SN]
  rw[this];exact H
 rintro q s f y ⟨j,rfl,p,rfl,H⟩ c;refine AB (λh=>?_) (λh=>?_)
 ·have b:j<m:=om;have d:Own f 0 5 1 a m m (Ae (nbS n m j)):=H.xh (.head _);obtain⟨g,i⟩:=d.D6 om;have r:(m:Int)-1-(j:Int)=((m-1-j:Nat):Int):=om;refine⟨iR,iR,iR,om,AA i ⟨⟨om,om⟩,?_⟩⟩;rw[PO n (m-1-j) om _ r,aN,bV];refine Hp.KEq H EQ4 yU8 i rfl rfl (by rw[Ah,nbS_len n p];exact b) λz l=>⟨iR,c (m-(j+1)) _ _ om ⟨j+1,rfl,om,rfl,?_⟩⟩;rw[Sl.Oh,nbS_succ n b]at l;exact l
 have b:j=m:=om;subst b
 have t:nbS n j j=be n j:=by
  have:(be n j).take j=be n j:=aV (by rw[AU];exact aZ _);rw[nbS,this,iL];simp
 rw[t]at H;have d:Own f 0 5 1 a j j (Ae (be n j)):=H.xh (.head _);have o:=d.cells;rw[<- DF]at o;refine⟨_,b2s XX ZY Yv o (by rw[Gy,AU]),rfl,H.done⟩
def RU(l:LU)(o:l.length<=6)(w:Wq):CP 124 #[sv l] w λe w'=>e=Ej (I (yM l:Int))/\Hp [] w w' []:=by
 apply Jc1;refine Hp.s2b (s:=⟨l.toArray⟩) (Hp.start w) EQ4 Yv XX ZY (by rw[Gy];simp only[maxLen];omega) ?_;intro a c p H;rw[DF,Gy]at H;rw[Gy];refine xI.mk (λq s w'=>∃j:Nat,q=l.length-j/\j<=l.length/\s=((yM (l.take j):Int),(j:Int))/\Hp [] w w' [.own 5 1 a l.length c (Ae l)]) l.length ⟨0,rfl,om,rfl,H⟩ ?_;rintro q s r t ⟨j,rfl,u,rfl,H⟩ d;refine AB (λh=>?_) (λh=>?_)
 ·have b:j<l.length:=om;have i:(Ae l)[j]? =some (iU (l[j].toNat:Int)):=by simp[Ae,au,aB b]
  obtain⟨x,f,g⟩:=H.ldO EQ4 yU8 (.head _) i;have y:=O8 (l.take j);have m:(256:Nat)^(l.take j).length<=256^5:=kL om (by rw[aJ];omega);have n:min (Int.toNat 8) (IntKind.bits .i64)=8:=by decide
  refine AA f ⟨⟨om,om⟩,_,by rw[aN,bV];exact g,om,by rw[n];exact iR,iR,d (l.length-(j+1)) _ _ om ⟨j+1,rfl,om,?_,H⟩⟩;rw[YM _ _ om l[j].toNat_lt,valN_take_succ l j b];rfl
 have b:j=l.length:=om;subst b;rw[bJ];exact⟨rfl,H.done⟩
def lNaNS2_spec(x:BA)(w:Wq):CP 222 #[.string x] w λe w'=>e=Ej (.bool false)/\w'=w:=by
 apply Jb2;exact⟨by simp,rfl⟩
def lNaNS_spec(x:BA)(w:Wq):CP 156 #[.string x] w λe w'=>e=Ej (.bool false)/\w'=w:=by
 apply Jb1;exact⟨by simp,rfl⟩
def lLessS_spec(x y:BA)(w:Wq):CP 155 #[.string x,.string y] w λe w'=>e=Ej (.bool (dec (ltB x y)))/\w'=w:=by
 apply Jbx;refine AC (lNaNS2_spec x w) ?_;rintro _ _ ⟨rfl,rfl⟩;exact⟨_,rfl,Au ⟨by rw[ltD],rfl⟩⟩
def KAx(l:Lj):List At:=l.map λs=>(s,none0)
def MM(l:Lj)(k:Nat):(KAx l)[k]? =(l[k]?).map λs=>(s,none0):=au ..
def rq{l:Lj}(h:l.Pairwise λx y=>x.data.toList<y.data.toList):Rs (KAx l):=dD.2 h
def asAt_has{l:Lj}(h:l.Pairwise λx y=>x.data.toList<y.data.toList)(t:BA):KAH (KAx l) t↔t∈l:=by
 constructor
 ·rintro⟨v,f⟩;rw[MM]at f;obtain⟨s,a,e⟩:=cO.1 f;cases e;exact aC a
 intro m;obtain⟨k,b⟩:=bD m;have g:∀j s,l[j]? =some s->(j<yG (KAx l) t↔ltB s t):=λj s a=>(PY (KAx l) t (rq h) j (s,none0) (by rw[MM,a];rfl)).symm;have r:¬k<yG (KAx l) t:=λc=>EF t ((g k t b).1 c);have n:=NS (KAx l) t;have d:=(aA.1 b).1;have o:(KAx l).length=l.length:=aQ _
 have c:yG (KAx l) t=k:=by
  refine Nat.le_antisymm om (qL.1 λp=>?_);have a:l[yG (KAx l) t]? =some l[yG (KAx l) t]:=aB om;have i:=dE.1 h (yG (KAx l) t) k om d p;have q:l[k]=t:=(aA.1 b).2;rw[q]at i;have:=(g _ _ a).2 i;omega
 exact⟨none0,by rw[c,MM,b];rfl⟩
def EN{l:Lj}{k:Nat}{s:BA}(h:l[k]? =some s):(BN l)[k]? =some (.string s):=by rw[BN,au,h];rfl
def lBSrS_spec(a:OA)(n c:Nat)(l:Lj)(t:BA)(w:Wq)(q:Cells w a (BN l))(L:n=l.length)(H:l.Pairwise λx y=>x.data.toList<y.data.toList)(Y:n<=1000000):
  CP 98 #[.slice a n c,.string t] w λe w'=>(∃i:Int,e=Ej (.tuple #[I i,.bool (dec (t∈l))]))/\w'=w:=by
 apply Jbm;have u:=NS (KAx l) t;have M:(KAx l).length=l.length:=aQ _;have z:∀j s,l[j]? =some s->(j<yG (KAx l) t↔ltB s t):=λj s N=>(PY (KAx l) t (rq H) j (s,none0) (by rw[MM,N];rfl)).symm;have J:=asAt_has H t;obtain⟨k,K⟩:∃k,k=yG (KAx l) t:=⟨_,rfl⟩;rw[<- K]at u z;refine xI.mk (λm s w'=>∃i j:Nat,m=j-i/\s=((i:Int),(j:Int))/\i<=k/\k<=j/\j<=n/\w'=w) n ⟨0,n,rfl,rfl,om,om,aZ _,rfl⟩ ?_;rintro m s _ Z ⟨i,j,rfl,rfl,O,R,A,rfl⟩ r;refine AB (λh=>?_) (λh=>?_)
 ·rw[qo i j n om];obtain⟨b,B⟩:∃b,b=(i+j)/2:=⟨_,rfl⟩;rw[<- B];have g:b<l.length:=om;have d:l[b]? =some l[b]:=aB g;obtain⟨T,o,_⟩:=q _ _ (EN d);refine⟨iR,om,AA o ⟨⟨om,om⟩,l[b],by rw[aN,bV];exact q.ld xx o (EN d),AC (lLessS_spec l[b] t _) ?_⟩⟩;rintro _ _ ⟨rfl,rfl⟩;refine⟨_,rfl,KAl (λC=>⟨iR,?_⟩) (λC=>?_)⟩
  ·have:=(z b _ d).2 C;exact r (j-(b+1)) _ _ om ⟨b+1,j,rfl,by simp,om,R,A,rfl⟩
  have:¬b<k:=λU=>C ((z b _ d).1 U);exact r (b-i) _ _ om ⟨i,b,rfl,rfl,O,om,om,rfl⟩
 have D:i=k:=om;subst D;refine AB (λX=>?_) (λX=>?_)
 ·have g:i<l.length:=om;have d:l[i]? =some l[i]:=aB g;obtain⟨T,o,_⟩:=q _ _ (EN d);refine AA o ⟨⟨om,om⟩,l[i],by rw[aN,bV];exact q.ld xx o (EN d),AB (λF=>?_) (λF=>?_)⟩
  ·exact⟨⟨_,by rw[<- DV (show t∈l from F▸aC d)]⟩,rfl⟩
  have p:¬t∈l:=λG=>by
   obtain⟨v,f⟩:=J.2 G;rw[<- K,MM,d]at f;injection f with f;injection f with f
   exact F f
  refine AA o ⟨⟨om,om⟩,l[i],by rw[aN,bV];exact q.ld xx o (EN d),AC (lNaNS_spec l[i] _) ?_⟩;rintro _ _ ⟨rfl,rfl⟩;exact⟨_,rfl,Au ⟨⟨_,by rw[<- Bz p]⟩,rfl⟩⟩
 have p:¬t∈l:=λG=>by
  obtain⟨v,f⟩:=J.2 G;have:=(aA.1 f).1;omega
 exact⟨⟨_,by rw[<- Bz p]⟩,rfl⟩
end
noncomputable section
open Go Go.Vc Go.Nod
def LW(al:List (BA×Value))(N:Int):Prop:=∀p∈al,∃z:Int,p.2=I z/\0<=z/\z<=N
theorem LW.get{al:List (BA×Value)}{N:Int}(h:LW al N)(a:0<=N)(k:BA):∃z:Int,(xZ al k).getD (I 0)=I z/\0<=z/\z<=N:=by
 induction al with
 |nil=>exact⟨0,rfl,om,a⟩
 |cons p r b=>
  obtain⟨y,u⟩:=p;rw[xZ];by_cases e:k=y
  ·rw[if_pos e];obtain⟨z,c,d,f⟩:=h _ (.head _);exact⟨z,c,d,f⟩
  rw[if_neg e];exact b λq g=>h q (.tail _ g)
theorem LW.put{al:List (BA×Value)}{N:Int}(h:LW al N){k:BA}{z:Int}(g:0<=z)(i:z<=N):LW (xY al k (I (z+1))) (N+1):=by
 intro p a
 have b:p=(p.1,I (z+1))\/p∈al:=by
  clear h
  induction al with
  |nil=>rw[xY,aW]at a;exact .inl (by rw[a])
  |cons q r c=>
   obtain⟨y,u⟩:=q;rw[xY]at a;by_cases e:k=y
   ·rw[if_pos e,aP]at a;rcases a with a|a
    ·exact .inl (by rw[a])
    exact .inr (.tail _ a)
   rw[if_neg e,aP]at a;rcases a with a|a
   ·exact .inr (by rw[a];exact .head _)
   rcases c a with h|h
   ·exact .inl h
   exact .inr (.tail _ h)
 rcases b with b|b
 ·exact⟨z+1,by rw[b],om,om⟩
 obtain⟨y,d,f,j⟩:=h p b;exact⟨y,d,f,om⟩
def LW.mono{al:List (BA×Value)}{N M:Int}(h:LW al N)(d:N<=M):LW al M:=λp a=>by
 obtain⟨z,b,c,e⟩:=h p a;exact⟨z,b,c,om⟩
def namesI_len(x:It):(EG x).length<=x.x.FP.length+1:=by
 rw[EG,aF,aQ];split<;>simp<;>omega
theorem WU(l:List It)(h:∀x∈l,x.x.FP.length<=20):(l.flatMap EG).length<=21*l.length:=by
 induction l with
 |nil=>simp
 |cons x r a=>
  have c:=namesI_len x;have d:=h x (.head _);have e:=a λy b=>h y (.tail _ b);rw[bW,aF,aK];omega
def nNames_spec(la:OA)(n lc:Nat)(l:List It)(ss:List Sl3)(w:Wq)(hA:CW [] w la n l ss)(hn:n<=1000)(N:∀x∈l,x.x.FP.length<=20):
  CP 57 #[.slice la n lc] w λe w'=>∃a c,e=Ej (.slice a (FM l).length c)/\Hp [] w w' [.own 9 1 a (FM l).length c (BN (FM l))]:=by
 apply Jcm;have ar:=hA.now.len;intro b w1 ae;have H1:=(Hp.start w).KFF EQ4 ae;refine xI.mk (λm s w'=>∃(j:Nat)(A:List (BA×Value))(X:List Asn),m=n-j/\j<=n/\s=(j:Int)/\A.map (·.1)=uniq ((l.take j).flatMap EG)/\LW A (21*j)/\Hp [] w w' (.xH b A::X)) n ⟨0,[],[],rfl,om,rfl,by simp[uniq],λp hp=>(by cases hp),H1⟩ ?_;rintro m s w2 nx ⟨j,A,X,rfl,hj,rfl,O,hc,H⟩ g;refine AB (λh1=>?_) (λh1=>?_)
 ·have B:j<l.length:=om;have hI:=hA.rd w2 H.chg;obtain⟨x,sl,G,R,af⟩:=hI.at_ (k:=j) om;obtain⟨ad,ag,ah⟩:=hI.some G R;have av:=N x (aC G);have a0:=af.len;have ak:l.take (j+1)=l.take j++[x]:=by rw[aG B,(aA.1 G).2]
  refine AA ag ⟨⟨om,h1⟩,x.level,x.x.kind,x.x.name,x.x.text,sl.1,sl.2.1,sl.2.2,ah,?_⟩;intro xb w3 am;have H2:=H.nw am;refine Hp.stA H2 EQ4 CB rfl rfl (by simp) rfl λw4 o=>?_;obtain⟨K,hK⟩:∃K,K=(l.take j).flatMap EG++(if x.x.kind=1 then [x.x.name]else []):=⟨_,rfl⟩;refine xM.mk (λ_ w'=>∃(d:List (BA×Value)),d.map (·.1)=uniq K/\LW d (21*j+1)/\Hp [] w w' (.xH b d::.blk xb (itC x sl) 123::X)) ?_ ?_
  ·rintro _ w5 ⟨d,an,ao,L⟩;refine⟨sl.1,sl.2.1,sl.2.2,L.lo yx,?_⟩;refine xI.mk (λm s w'=>∃(i:Nat)(f:List (BA×Value))(X2:List Asn),m=sl.2.1-i/\i<=sl.2.1/\s=(i:Int)/\f.map (·.1)=uniq (K++(x.x.FP.take i).map (·.1))/\LW f (21*j+1+i)/\Hp [] w w' (.xH b f::X2)) sl.2.1 ⟨0,d,_,rfl,om,rfl,by simpa using an,ao.mono om,L⟩ ?_;rintro m s w6 a1 ⟨i,f,X2,rfl,hi,rfl,T,C,H6⟩ U;refine AB (λM=>?_) (λM=>⟨iR,?_⟩)
   ·have r:i<x.x.FP.length:=om;have hp:x.x.FP[i]? =some x.x.FP[i]:=aB r;have ap:=hA.rd w6 H6.chg
    have Y:AtR w6 sl.1 sl.2.1 x.x.FP:=by
     obtain⟨x',a2,Z,u,aa⟩:=ap.at_ (k:=j) om;rw[G]at Z;cases Z;rw[R]at u;cases u;exact aa
    have t:=Gg hp;obtain⟨a3,y⟩:=Y.cells.some (λe=>by rw[e]at t;simp at t);obtain⟨p,ab⟩:∃p,p=x.x.FP[i]:=⟨_,rfl⟩;rw[<- ab]at hp t;refine AA y ⟨⟨om,M⟩,p.1,p.2,Y.cells.ldA EX y t rfl,λyb w7 aq=>?_⟩;have H7:=H6.nw aq;refine Hp.stA H7 EQ4 EX rfl rfl (by simp) rfl λw8 H8=>?_;obtain⟨z,hz,D,F⟩:=C.get om p.1;refine⟨p.1,H8.lo xx,z,H8.lkS I9 EQ4 m1 hz,iR,?_⟩;refine Hp.KEC I9 H8.AX EQ4 λw9 H9=>⟨iR,U (sl.2.1-(i+1)) _ _ om ⟨i+1,_,_,rfl,om,rfl,?_,?_,H9⟩⟩
    ·rw[Qe,T,<- WO,ax,aG r,<- ab,ai];rfl
    exact(C.put D F).mono om
   have r:i=x.x.FP.length:=om;refine g (n-(j+1)) _ _ om ⟨j+1,f,X2,rfl,om,rfl,?_,C.mono om,H6⟩;rw[T,ak,r,bJ,dR,hK,ax];simp[EG]
  intro J hJ;refine⟨x.x.kind,o.lo xK,AB (λM=>?_) (λM=>?_)⟩
  ·obtain⟨z,hz,D,F⟩:=hc.get om x.x.name;refine⟨x.x.name,o.lo xx,z,o.lkS I9 EQ4 m1 hz,iR,?_⟩;refine Hp.KEC I9 o.AX EQ4 λw5 L=>hJ _ _ ⟨_,?_,hc.put D F,L⟩;rw[Qe,O,<- WO,hK,if_pos M]
  exact hJ _ _ ⟨A,by rw[hK,if_neg M,aX];exact O,hc.mono om,o.AX⟩
 have B:j=l.length:=om;rw[B,bJ]at O;have a4:=WU l N;have a5:=Zk (l.flatMap EG);have aw:A.length=(uniq (l.flatMap EG)).length:=by rw[<- O,aQ]
 refine AC (keysS_spec (some b) w2) ?_;rintro _ w3 ⟨q,rfl,H3⟩;have o:=H.yC H3
 have hs:∀x∈FM l,x.size<=maxLen:=λn hn=>by
  obtain⟨x,G,g⟩:=NT.1 hn;have ac:=hA.small x G;rw[EG,aT]at g;rcases g with h|h
  ·split at h
   ·rw[aW]at h;rw[h];exact ac.1
   cases h
  obtain⟨a,ha,rfl⟩:=aU.1 h;exact(ac.2.2 a ha).1
 refine⟨_,rfl,AC (sortedS_spec q b A w3 (o.blk (.head _)) (o.ok _ m1) (FM l) (by rw[O];exact Dq _) (I8 (Ti _)) hs om) ?_⟩;rintro _ w4 ⟨a,c,rfl,L⟩;exact⟨a,_,c,rfl,a,c,rfl,Hp.BM (o.yC L)⟩
end
noncomputable section
open Go Go.Vc Go.Nod
def AgreeW(k:Nat)(V W:Lj):Prop:=∀(j:Nat)(s:BA),k<=j->s≠none0->(V[j]? =some s↔W[j]? =some s)
def AgreeW.step{k:Nat}{V W:Lj}(h:AgreeW k V W):AgreeW (k+1) V W:=λj s b a=>h j s om a
theorem QH{l W0:Lj}:∀(r:Lj)(k:Nat)(W:Lj),W0.drop k=r->WOk W->AgreeW k W W0->
  WOk (GX l r k W)/\∀(j:Nat)(s:BA),s≠none0->((GX l r k W)[j]? =some s↔W[j]? =some s/\(k<=j->s∈l))
 | [],k,W,hr,hW,hA=>by
  refine⟨hW,λj s a=>?_⟩;rw[GX];refine⟨λh=>⟨h,λd=>?_⟩,λh=>h.1⟩;have w:=(hA j s d a).1 h;have p:=(aA.1 w).1
  have b:W0.length<=k:=by
   have:=congrArg List.length hr;rw[bf,dK]at this;omega
  omega
 |s0::r,k,W,hr,hW,hA=>by
  have f:W0[k]? =some s0:=by
   have:=congrArg (λx=>x[0]?) hr;simpa using this
  have g:W0.drop (k+1)=r:=by
   rw[<- dS,hr];rfl
  rw[GX];by_cases i:s0≠none0/\s0∉l
  ·rw[if_pos i];have u:=(hA k s0 (aZ _) i.1).2 f;have n:=(aA.1 u).1;obtain⟨m,_,_,p,_⟩:=drop_at n
   obtain⟨q,t⟩:=QH (W0:=W0) r (k+1) (JU W k) g (hW.drop n) (λj s d a=>by
    rw[p j s a];exact⟨λh=>(hA j s om a).1 h.1,λh=>⟨(hA j s om a).2 h,om⟩⟩)
   refine⟨q,λj s a=>?_⟩;rw[t j s a,p j s a];constructor
   ·rintro⟨⟨b,c⟩,o⟩;exact⟨b,λd=>o om⟩
   rintro⟨b,c⟩;refine⟨⟨b,λe=>?_⟩,λd=>c om⟩;subst e;rw[u]at b;cases b;exact i.2 (c (aZ _))
  rw[if_neg i];obtain⟨q,t⟩:=QH (W0:=W0) r (k+1) W g hW hA.step;refine⟨q,λj s a=>?_⟩;rw[t j s a];refine⟨λ⟨b,c⟩=>⟨b,λd=>?_⟩,λ⟨b,c⟩=>⟨b,λd=>c om⟩⟩;by_cases e:j=k
  ·subst e;have o:=(hA j s (aZ _) a).1 b;rw[f]at o;cases o;exact az λy=>i ⟨a,y⟩
  exact c om
def rf{W:Lj}{s:BA}(h:(KAU W s).2.2=0):CZ s/\KDI W<4000/\(KAU W s).1=KAV W s:=by
 rw[KAU]at h⊢;split at h
 ·cases h
 rename_i a;split at h
 ·cases h
 rename_i b;rw[if_neg a,if_neg b];exact⟨az a,om,rfl⟩
def addW_keeps{W:Lj}{n:BA}{j:Nat}{s:BA}(b:s≠none0)(h:W[j]? =some s):(KAV W n)[j]? =some s:=by
 rw[KT,if_neg,h];intro e;by_cases a:none0∈W
 ·rw[e,Nu a]at h;cases h;exact b rfl
 rw[e,qh a,bC (aZ _)]at h;cases h
def Zi{W:Lj}{n s:BA}(b:s≠none0):s∈KAV W n↔s∈W\/s=n:=by
 constructor
 ·intro h;obtain⟨k,a⟩:=bD h;rw[KT]at a;split at a
  ·cases a;exact .inr rfl
  exact .inl (aC a)
 rintro(h|h)
 ·obtain⟨k,a⟩:=bD h;exact aC (addW_keeps b a)
 exact aC (by rw[KT,if_pos rfl,h])
theorem Xq:∀(l W:Lj),WOk W->(GU l W).2=0->WOk (GU l W).1/\∀s,s≠none0->(s∈(GU l W).1↔s∈W\/s∈l)
 | [],W,hW,_=>⟨hW,λs _=>by simp[GU]⟩
 |n::r,W,hW,h=>by
  rw[GU]at h⊢;by_cases a:KAP W n
  ·rw[if_pos a]at h⊢;obtain⟨c,d⟩:=Xq r W hW h;refine⟨c,λs b=>?_⟩;rw[d s b,aP];exact⟨λh=>h.elim .inl λh=>.inr (.inr h),λh=>h.elim .inl λh=>h.elim (λe=>.inl (e▸a.1)) .inr⟩
  rw[if_neg a]at h⊢;by_cases f:(KAU W n).2.2≠0
  ·rw[if_pos f]at h;cases h
  rw[if_neg f]at h⊢;obtain⟨g,i,j⟩:=rf (az f);rw[j]at h⊢;obtain⟨c,d⟩:=Xq r (KAV W n) (hW.add g a i) h;refine⟨c,λs b=>?_⟩;rw[d s b,Zi b,aP,or_assoc]
def Yh{W l:Lj}(b:WOk W)(i:∀s∈l,s≠none0)(h:(Io W l).2=0):WOk (Io W l).1/\∀s,s≠none0->(s∈(Io W l).1↔s∈l):=by
 obtain⟨c,d⟩:=QH (W0:=W) W 0 W (by simp) b (λj s _ _=>qJ);obtain⟨e,f⟩:=Xq l _ c h;refine⟨e,λs a=>?_⟩;show s∈(GU l (GX l W 0 W)).1↔_;rw[f s a];refine⟨λh=>h.elim (λh=>?_) id,.inr⟩;obtain⟨k,g⟩:=bD h;exact((d k s a).1 g).2 (bZ _)
def nLearn_spec{f:Nq}{b:Nat}{W:Lj}{w:Wq}(h:(Az f b W).ok w)(la:OA)(p lc:Nat)(l:Lj)(hL:∀W',Chg f w W'->Cells W' la (BN l))(aa:p=l.length)(ab:p<=1000000)(hR:l.Pairwise λx y=>x.data.toList<y.data.toList):
  CP 56 #[pq b,.slice la p lc] w λe w'=>∃A,e=Ej (I (Io W l).2)/\Hp f w w' [Az A b (Io W l).1]:=by
 apply Jck;have H0:Hp f w w [Az f b W]:=BU h
 have O:WOk W:=by
  obtain⟨L,⟨O,_⟩,_⟩:=E5 h;exact O
 have hl:=O.len;refine AC (Ws h) ?_;rintro _ w1 ⟨a,c,rfl,H1⟩;have H2:=(H0.yC H1).AX;refine⟨a,W.length,c,rfl,xI.mk (λq s w'=>∃(j:Nat)(V:Lj)(A:Nq),q=W.length-j/\j<=W.length/\s=(j:Int)/\WOk V/\AgreeW j V W/\GX l (W.drop j) j V=GX l W 0 W/\Hp f w w' [Az A b V,.own 9 1 a W.length c (BN W)]) W.length ⟨0,W,f,rfl,om,rfl,O,λj s _ _=>qJ,by simp,H2⟩ ?_⟩;rintro q s T nx ⟨j,V,f1,rfl,hj,rfl,hV,X,B,H⟩ g;refine AB (λh1=>?_) (λh1=>?_)
 ·have r:j<W.length:=om;have C:W[j]? =some W[j]:=aB r;obtain⟨x,n⟩:∃x,x=W[j]:=⟨_,rfl⟩;rw[<- n]at C;obtain⟨ad,u,ac⟩:=H.ldO EQ4 xx m1 (EN C);have D:W.drop j=x::W.drop (j+1):=by rw[n];exact bM r
  rw[D,GX]at B;refine AA u ⟨⟨om,h1⟩,x,by rw[aN,bV];exact ac,AC (lBSrS_spec la p lc l x T (hL T H.chg) aa hR ab) ?_⟩;rintro _ ah ⟨⟨i,rfl⟩,hw⟩;obtain rfl:=hw.symm
  have G:¬(x≠none0/\x∉l)->∀(R:Int->Wq->Prop),(∀m s' w',m<W.length-j->(∃(j:Nat)(V:Lj)(A:Nq),m=W.length-j/\j<=W.length/\s'=(j:Int)/\WOk V/\AgreeW j V W/\GX l (W.drop j) j V=GX l W 0 W/\Hp f w w' [Az A b V,.own 9 1 a W.length c (BN W)])->R s' w')->gB ((j:Int)+1)/\R ((j:Int)+1) T:=λae R hR=>by
   rw[if_neg ae]at B;exact⟨iR,hR (W.length-(j+1)) _ _ om ⟨j+1,V,f1,rfl,om,rfl,hV,X.step,B,H⟩⟩
  refine⟨_,_,rfl,?_⟩;refine xM.mk (λt w'=>w'=T/\t=dec (x≠none0/\x∉l)) ?_ ?_
  ·rintro t _ ⟨rfl,rfl⟩;refine KAl (λd=>?_) (λd=>G d _ g);have K:=(X j x (aZ _) d.1).2 C;have M:=(aA.1 K).1;refine⟨iR,AC (xDrop_spec (H.ok _ (.head _)) j x K d.1) ?_⟩;rintro _ w3 ⟨Y,rfl,H3⟩;have H4:=H.zK H3;rw[if_pos d]at B;obtain⟨m,_,_,F,_⟩:=drop_at M;refine⟨_,rfl,iR,g (W.length-(j+1)) _ _ om ⟨j+1,JU V j,Y,rfl,om,rfl,hV.drop M,λi s hi hs=>?_,B,H4⟩⟩;rw[F i s hs];exact⟨λh=>(X i s om hs).1 h.1,λh=>⟨(X i s om hs).2 h,om⟩⟩
  intro J hJ;refine AQ (λd=>?_) (λd=>?_)
  ·refine hJ _ _ ⟨rfl,?_⟩;by_cases Z:x∈l
   ·rw[<- DV Z,<- Bz λh=>h.2 Z];rfl
   rw[<- Bz Z,<- DV (show x≠none0/\x∉l from⟨d,Z⟩)];rfl
  exact hJ _ _ ⟨rfl,Bz λh=>h.1 d⟩
 have r:j=W.length:=om
 have af:V=GX l W 0 W:=by
  rw[r,iQ,GX]at B;exact B
 have ag:Io W l=GU l V:=by rw[af];rfl
 rw[ag];refine xI.mk (λq s w'=>∃(k:Nat)(U:Lj)(A:Nq),q=p-k/\k<=p/\s=(k:Int)/\GU (l.drop k) U=GU l V/\Hp f w w' [Az A b U,.own 9 1 a W.length c (BN W)]) p ⟨0,V,f1,rfl,om,rfl,by simp,H⟩ ?_;rintro q s w3 nx ⟨k,U,Y,rfl,hk,rfl,o,H⟩ g;refine AB (λd=>?_) (λd=>?_)
 ·have z:k<l.length:=om;have C:l[k]? =some l[k]:=aB z;obtain⟨x,n⟩:∃x,x=l[k]:=⟨_,rfl⟩;rw[<- n]at C;have N:=hL w3 H.chg;obtain⟨ad,u,_⟩:=N _ _ (EN C);have D:l.drop k=x::l.drop (k+1):=by rw[n];exact bM z
  rw[D,GU]at o;refine AA u ⟨⟨om,d⟩,x,by rw[aN,bV];exact N.ld xx u (EN C),AC (Ny (H.ok _ (.head _)) x) ?_⟩;rintro _ _ ⟨rfl,rfl⟩;refine⟨_,_,rfl,KAl (λF=>?_) (λF=>?_)⟩
  ·rw[if_pos F]at o;exact⟨iR,g (p-(k+1)) _ _ om ⟨k+1,U,Y,rfl,om,rfl,o,H⟩⟩
  rw[if_neg F]at o;refine AC (xAdd_spec (H.ok _ (.head _)) x F) ?_;rintro _ w4 ⟨f3,rfl,H4⟩;have H5:=H.zK H4;refine⟨_,_,rfl,AQ (λh4=>?_) (λh4=>?_)⟩
  ·rw[if_pos h4]at o;rw[<- o];exact⟨f3,rfl,Hp.BM H5⟩
  rw[if_neg (λh=>h h4)]at o;exact⟨iR,g (p-(k+1)) _ _ om ⟨k+1,_,f3,rfl,om,rfl,o,H5⟩⟩
 have z:k=l.length:=om;rw[z,iQ,GU]at o;rw[<- o];exact⟨Y,rfl,Hp.BM H⟩
end
end Go.Proofs.YtljenkbpnioipaaGreat
namespace Go.Vc
open Go
def Zr{a:Asn}{w w':Wq}(h:a.ok w)(H:Chg [] w w'):a.ok w':=
 Asn.Ri h λk b=>H.2.2.2.2 k (Asn.Jb h k b) (by simp)
end Go.Vc
namespace Go.Proofs.YtljenkbpnioipaaGreat
noncomputable section
open Go Go.Vc Go.Nod
def KFG:Scl PP 95:=BQ (by kernel_rfl)
def pSl:Scl PP 84:=BQ (by kernel_rfl)
def pelt:Elt PP 84 95 1 8:=DU (by kernel_rfl)
def pund:PP.underlying 84=some (.slice 95):=by kernel_rfl
def pgC(bs:Nq):LV:=bs.map λb=>pq b
def TB{bs:Nq}{k b:Nat}(h:bs[k]? =some b):(pgC bs)[k]? =some (pq b):=by rw[pgC,au,h];rfl
def KDO(pa:OA)(pc:Nat)(bs:Nq)(gs:List Sl.Pg):List Asn:=.own 95 1 pa bs.length pc (pgC bs)::List.zipWith Sl.pgA bs gs
structure PgsOk(P:List Sl.xR)(bs:Nq)(gs:List Sl.Pg):Prop where
 lb:bs.length=P.length
 lg:gs.length=P.length
 rep:∀(k:Nat)(g:Sl.Pg)(R:Sl.xR),gs[k]? =some g->P[k]? =some R->Sl.Rep g R 0
def pgsQ(pa:OA)(pc:Nat)(P:List Sl.xR)(L:List Asn):Prop:=∃bs gs,PgsOk P bs gs/\L=KDO pa pc bs gs
def yO(f:Nq)(pa:OA)(pc:Nat)(P:List Sl.xR):Asn:=pkA f (pgsQ pa pc P)
def X4{bs:Nq}{gs:List Sl.Pg}(l:gs.length=bs.length){n b:Nat}{g:Sl.Pg}(a:bs[n]? =some b)(c:gs[n]? =some g):
  List.zipWith Sl.pgA bs gs=List.zipWith Sl.pgA (bs.take n) (gs.take n)++Sl.pgA b g::List.zipWith Sl.pgA (bs.drop (n+1)) (gs.drop (n+1)):=by
 obtain⟨d,e⟩:=aA.1 a;obtain⟨h,i⟩:=aA.1 c;have s1:bs=bs.take n++b::bs.drop (n+1):=by rw[<- e,<- bM d,bY]
 have j:gs=gs.take n++g::gs.drop (n+1):=by rw[<- i,<- bM h,bY]
 conv=>lhs;rw[s1,j]
 rw[jJ (by rw[aJ,aJ];omega)];rfl
section
variable{B f:List Nat}{w0 w w':World}{L:List Asn}{pa:Option Addr}{pc:Nat}{P:List Sl.xR}
def Us(H:Hp B w0 w (yO f pa pc P::L)){n:Nat}{R:Sl.xR}(O:P[n]? =some R):
  ∃(b:Nat)(g:Sl.Pg)(X:Asn)(r:Addr),pa=some r/\(∀W,X.ok W->Ld PP 95 W (r.add (n*1)) (pq b))/\Sl.Rep g R 0/\Hp B w0 w (Sl.pgA b g::X::L)/\
   ∀w1 s d u,Sl.Rep d u 0->Hp B w0 w1 (Sl.pgA b d::X::s)->∃U,Hp B w0 w1 (yO U pa pc (P.set n u)::s):=by
 obtain⟨M,⟨bs,a,h,rfl⟩,T,_⟩:=H.unpack;have x:=(aA.1 O).1;have y:=h.lb;have z:=h.lg;obtain⟨b,t⟩:∃b,bs[n]? =some b:=⟨_,aB om⟩;obtain⟨g,A⟩:∃g,a[n]? =some g:=⟨_,aB om⟩;have Y:=X4 om t A;obtain⟨r,m,_⟩:=T.ldO EQ4 KFG (.head _) (TB t);obtain⟨i,j⟩:∃i,i=.own 95 1 pa bs.length pc (pgC bs)::(List.zipWith Sl.pgA (bs.take n) (a.take n)++List.zipWith Sl.pgA (bs.drop (n+1)) (a.drop (n+1))):=⟨_,rfl⟩
 have Z:Hp B w0 w (i++(Sl.pgA b g::L)):=T.perm (by
  refine AL λff gg C D F G=>?_;rw[KDO,Y,j];simp only[F,D,C];omega)
 have H3:Hp B w0 w (pkA (xq i) (λM=>M=i)::Sl.pgA b g::L):=Z.pack rfl;refine⟨b,g,pkA (xq i) (λM=>M=i),r,m,λw' he=>?_,h.rep n g R A O,H3.AX,λw1 s d u J H'=>?_⟩
 ·obtain⟨M2,l,K,_⟩:=E5 he;subst l;have ho:Own w' 0 95 1 pa bs.length pc (pgC bs):=K.ok (.own 95 1 pa bs.length pc (pgC bs)) (by rw[j];exact .head _);rw[bV];exact ho.cells.ld KFG m (TB t)
 obtain⟨M2,l,H4,_⟩:=H'.AX.unpack;subst l;have o:=(aA.1 A).1;have N:(a.set n d)[n]? =some d:=iZ o;have p:=X4 (bs:=bs) (gs:=a.set n d) (by rw[bU];omega) t N
 have et:(a.set n d).take n=a.take n:=by
  rw[List.take_set];exact List.set_eq_of_length_le (by rw[aJ];omega)
 have ed:(a.set n d).drop (n+1)=a.drop (n+1):=List.drop_set_of_lt om;rw[et,ed]at p
 have H5:Hp B w0 w1 (KDO pa pc bs (a.set n d)++s):=H4.perm (by
  refine AL λff gg C D F G=>?_;rw[KDO,p,j];simp only[F,D,C];omega)
 refine H5.D5 ⟨bs,a.set n d,⟨by rw[bU];exact y,by rw[bU,bU];exact z,λk g2 R2 q c=>?_⟩,rfl⟩;rw[jX]at q c;by_cases e:n=k
 ·subst e;rw[if_pos rfl,if_pos o]at q;rw[if_pos rfl,if_pos x]at c;cases q;cases c;exact J
 rw[if_neg e]at q c;exact h.rep k g2 R2 q c
def Jg(H:Hp B w0 w (yO f pa pc P::L)){n:Nat}{R:Sl.xR}(j:P[n]? =some R):
  ∃(b:Nat)(g:Sl.Pg)(X:Asn)(a:Addr),pa=some a/\(∀w',Eqw w w'->Ld PP 95 w' (a.add (n*1)) (pq b))/\Sl.Rep g R 0/\Hp B w0 w (Sl.pgA b g::X::L)/\
   ∀w1 c d h,Sl.Rep d h 0->Hp B w0 w1 (Sl.pgA b d::X::c)->∃l,Hp B w0 w1 (yO l pa pc (P.set n h)::c):=by
 obtain⟨b,g,X,a,m,o,p,i,q⟩:=Us H j;exact⟨b,g,X,a,m,λw' e=>o w' ((i.go e).ok _ m1),p,i,q⟩
def vK(h:(yO f pa pc P).ok w){n:Nat}{R:Sl.xR}(i:P[n]? =some R):
  ∃(b:Nat)(g:Sl.Pg)(d:Addr),pa=some d/\Sl.Rep g R 0/\∀W,Chg [] w W->Ld PP 95 W (d.add (n*1)) (pq b)/\Blk W b g.cells 162:=by
 obtain⟨M,⟨bs,j,a,rfl⟩,l,_⟩:=E5 h;have p:=(aA.1 i).1;have q:=a.lb;have r:=a.lg;obtain⟨b,e⟩:∃b,bs[n]? =some b:=⟨_,aB om⟩;obtain⟨g,m⟩:∃g,j[n]? =some g:=⟨_,aB om⟩;have H:=Hp.Cb l;obtain⟨d,c,_⟩:=H.ldO EQ4 KFG (.head _) (TB e);have s:Own w 0 95 1 pa bs.length pc (pgC bs):=H.xh (.head _)
 have t:Sl.pgA b g∈KDO pa pc bs j:=by
  rw[KDO,X4 om e m];exact .tail _ (aI _ (.head _))
 have u:Blk w b g.cells 162:=l.ok _ t;refine⟨b,g,d,c,a.rep n g R m i,λW o=>⟨?_,u.chg o (by simp)⟩⟩;rw[bV];exact(s.cells.chg o (by simp)).ld KFG c (TB e)
def sD(H:Hp B w0 w L):∃a,Hp B w0 w (yO a none 0 []::L):=
 Hp.D5 (H.yS 95 1) ⟨[],[],⟨rfl,rfl,λk g R b=>by simp at b⟩,rfl⟩
def Xr{l a:Nat}{T:TypeId}{g:Sl.Pg}{R:Sl.xR}(H:Hp B w0 w (.blk l [pq a] T::Sl.pgA a g::yO f pa pc P::L))(A:Sl.Rep g R 0)(Y:P.length<=100000)(e:Eqw w w'){G:OA->Nat->Nat->Wq->Prop}
  (k:∀a' c' o w1,Hp B w0 w1 (yO o a' c' (P++[R])::L)->G a' (P.length+1) c' w1):
  ∃a' x c' w1,App PP #[84,84] 84 w' (.slice pa P.length pc) (.slice (Pq l) 1 1) (.slice a' x c') w1/\G a' x c' w1:=by
 obtain⟨M,⟨bs,h,c,rfl⟩,C,_⟩:=H.BF.unpack;have d:=c.lb;have j:=c.lg
 have y:Hp B w0 w (.own 95 1 pa bs.length pc (pgC bs)::(.blk l [pq a] T::(List.zipWith Sl.pgA bs h++[Sl.pgA a g])++L)):=C.perm (by
  refine AL λff D p q r s=>?_;simp only[KDO,r,q,p];omega)
 rw[<- d];refine Hp.app pelt om y e (Blk.src pund ((y.go e).blk m1) rfl rfl) (by simp only[maxLen];omega) om ?_;intro a' c' w1 F
 have J:Hp B w0 w1 (KDO a' c' (bs++[a]) (h++[g])++(.blk l [pq a] T::L)):=F.perm (by
  refine AL λff D p q r s=>?_;have K:(bs++[a]).length=bs.length+1:=by simp
  have N:pgC (bs++[a])=pgC bs++[pq a]:=by simp[pgC]
  have O:List.zipWith Sl.pgA (bs++[a]) (h++[g])=List.zipWith Sl.pgA bs h++[Sl.pgA a g]:=jJ om;simp only[KDO,K,N,O,r,q,p];omega)
 have t:∀(k:Nat)(m:Sl.Pg)(n:Sl.xR),(h++[g])[k]? =some m->(P++[R])[k]? =some n->Sl.Rep m n 0:=λk m n i b=>by
  by_cases U:k<P.length
  ·rw[bQ om]at i b;exact c.rep k m n i b
  by_cases u:k=P.length
  ·subst u;rw[<- j,iV]at i;rw[iV]at b;cases i;cases b;exact A
  rw[bC (by simp;omega)]at i;cases i
 obtain⟨o,X⟩:=J.D5 (Q:=pgsQ a' c' (P++[R])) ⟨bs++[a],h++[g],⟨by simp[d],by simp[j],t⟩,rfl⟩;have z:=k a' c' o w1 X.drop1;rw[<- d]at z;exact z
end
end
noncomputable section
open Go Go.Vc Go.Nod
def KDq:Scl PP 80:=BQ (by kernel_rfl)
def rPB:Scl PP 81:=BQ (by kernel_rfl)
def KDr:Scl PP 83:=BQ (by kernel_rfl)
def KFV:Scl PP 114:=BQ (by kernel_rfl)
def rPT:Scl PP 23:=BQ (by kernel_rfl)
def zi(W:Lj)(n:BA):Int:=if KAP W n then(yz W n:Int)+1 else 0
def yP(S:SM)(W:Lj)(id par:Int)(x:NX):Fol.Rec:=
 {id:=id,parent:=par,kind:=x.kind,name:=if x.kind=1 then zi W x.name else 0,frm:=((xm S id).getD (0,0)).1,to:=((xm S id).getD (0,0)).2,text:=x.text,FP:=x.FP.map λa=>(zi W a.1,a.2)}
def y9(r:Fol.Rec)(a:OA)(n c:Nat):LV:=[I r.id,I r.parent,I r.kind,I r.name,I r.frm,I r.to,.string r.text,.slice a n c]
def KCe:LV:=[I 0,I 0,I 0,I 0,I 0,I 0,.string ⟨#[]⟩,.slice none 0 0]
def ndC(id par kd:Int)(x:NX)(a:OA)(n c:Nat):LV:=[I id,I par,I x.kind,I kd,.string x.name,.string x.text,.slice a n c]
def nRecord_spec{w:Wq}(Z sb wb:Nat)(cs:LV)(Tt:TypeId)(ht:Blk w Z cs Tt)(h1:cs[1]? =some (.map (some sb)))(h2:cs[2]? =some (pq wb)){S:SM}(hS:MapAt (Dn .i64) w sb (smC S)){wf:Nq}{W:Lj}(hW:(Az wf wb W).ok w)
  (id b R:Int) (x:NX) (a:OA) (n c:Nat) (hA:AtR w a n x.FP) (hn:n<=1000):
  CP 116 #[pq Z,.agg (ndC id b R x a n c).toArray] w λe w'=>∃a' c',e=Ej ((yP S W id b x).val a' x.FP.length c')/\Hp [] w w' [.own 260 2 a' x.FP.length c' (Fol.BL (yP S W id b x).FP)]:=by
 apply Jcs;have aq:=hA.len;intro nb w1 aa zb w2 ab;have H:=((Hp.start w).new EQ4 aa).new EQ4 ab;obtain⟨z,hz⟩:∃z:Sp,z=(xm S id).getD (0,0):=⟨_,rfl⟩
 have ac:(xZ (smC S) id).getD (.agg #[I 0,I 0])=.agg #[I z.1,I z.2]:=by
  rw[Kq,hz];cases xm S id<;>rfl
 have ld0:Ld PP 3 w2.drew ⟨nb,0,none⟩ (I id):=H.ld EQ4 xK (.tail _ (.head _)) rfl
 have F:∀{u:Wq},Chg [] w u->Lk PP 80 false u (.map (some sb)) (I id) (.agg #[I z.1,I z.2]):=λ{u} G=>by
  have:=(MJ I4 (hS.chg G (by simp)) id).1;rw[ac]at this;exact this
 have f:∀{u:Wq}{j:Nat}{t:TypeId}{v:Value},Chg [] w u->Scl PP t->cs[j]? =some v->Ld PP t u (Addr.add ⟨Z,0,none⟩ j) v:=λ{u j t v} G S hj=>by
  rw[add_lit,cZ];exact(ht.chg G (by simp)).ld S.agg hj
 refine⟨id,ld0,b,H.ld EQ4 xK (.tail _ (.head _)) rfl,x.kind,H.ld EQ4 xK (.tail _ (.head _)) rfl,x.text,H.ld EQ4 xx (.tail _ (.head _)) rfl,
  AA rfl ⟨some sb,f H.drew.chg KDq h1,id,ld0,z.1,z.2,F H.drew.chg,λrb w3 ae=>?_⟩⟩
 have T:=H.drew.new EQ4 ae;have d:∀{j:Nat}{t:TypeId}{v:Value},Scl PP t->(ndC id b R x a n c)[j]? =some v->Ld PP t w3 ⟨nb,j,none⟩ v:=λS hj=>T.ld EQ4 S (t2 (.head _)) hj;refine⟨F T.chg,d xK rfl,f T.chg KDq h1,d xx rfl,d xK rfl,d xK rfl,d xK rfl,?_⟩;obtain⟨r,K⟩:∃r,r=yP S W id b x:=⟨_,rfl⟩;rw[<- K];obtain⟨M,y⟩:∃M:Fol.Rec,M= {r with name:=0,FP:=[]}:=⟨_,rfl⟩;have af:y9 M none 0 0=[I id,I b,I x.kind,I 0,I z.1,I z.2,.string x.text,.slice none 0 0]:=by rw[y,K,hz];rfl
 refine Hp.stA T EQ4 Fol.Dh rfl rfl (by simp[KCe]) (cs':=y9 M none 0 0) (by rw[af];rfl) λw4 C=>?_;obtain⟨h,A⟩:∃h:Fol.Rec,h= {r with FP:=[]}:=⟨_,rfl⟩;refine xM.mk (λ_ w'=>Hp [] w w' (.blk rb (y9 h none 0 0) 204::.blk zb KCe 204::.blk nb (ndC id b R x a n c) 71::[])) ?_ ?_;rotate_left
 ·intro J hJ;refine⟨x.kind,C.ld EQ4 xK (t2 (.head _)) rfl,AB (λhk=>?_) (λhk=>hJ _ _ ?_)⟩
  ·refine AA rfl ⟨_,f C.drew.chg rPB h2,x.name,C.ld EQ4 xx (t2 (.head _)) rfl,AC (Ny (Zr hW C.drew.chg) x.name) ?_⟩;rintro _ _ ⟨rfl,rfl⟩;refine⟨_,_,rfl,Hp.st C EQ4 xK rfl rfl (by simp[y9]) ?_ λw5 U=>hJ _ _ U⟩;rw[A,y,K,y9,y9,yP];simp only[if_pos hk,zi,bu,bz]
  have:h=M:=by
   rw[A,y,K,yP];simp only[if_neg hk]
  rw[this];exact C
 rintro _ w5 U;have ra:r.FP=x.FP.map λa=>(zi W a.1,a.2):=by rw[K];rfl
 refine⟨a,n,c,U.ld (o:=6) (cs:=ndC id b R x a n c) EQ4 yx (t2 (.head _)) rfl,?_⟩;have q:=(U.yS 260 2).AX;refine xI.mk (λm s w'=>∃(i:Nat)(a':OA)(c':Nat)(X:List Asn),m=n-i/\i<=n/\s=(i:Int)/\Hp [] w w' (.blk rb (y9 h a' i c') 204::.own 260 2 a' i c' (Fol.BL (r.FP.take i))::.blk zb KCe 204::X)) n ⟨0,none,0,_,rfl,om,rfl,q⟩ ?_;rintro m s w6 nx ⟨i,a',c',X,rfl,hi,rfl,q⟩ ag;refine AB (λh3=>?_) (λh3=>?_)
 ·have g:i<x.FP.length:=om;obtain⟨p,ah⟩:∃p,p=x.FP[i]:=⟨_,rfl⟩;have hp:x.FP[i]? =some p:=by rw[ah];exact aB g
  have N:=hA.chg q.chg (by simp);have B:=Gg hp;obtain⟨ad,O⟩:=N.cells.some (λe=>by rw[e]at B;simp at B);refine AA O ⟨⟨om,h3⟩,p.1,p.2,N.cells.ldA EX O B rfl,λyb w7 ak=>?_⟩;have Y:=q.new (cs:=[.string ⟨#[]⟩,.string ⟨#[]⟩]) EQ4 ak;refine Hp.stA Y EQ4 EX (vs:=[.string p.1,.string p.2]) rfl rfl (by simp) (cs':=[.string p.1,.string p.2]) rfl λw8 D=>?_;refine AA rfl ⟨_,f D.drew.chg rPB h2,p.1,D.ld (o:=0) (cs:=[.string p.1,.string p.2]) EQ4 xx (.head _) rfl,AC (Ny (Zr hW D.drew.chg) p.1) ?_⟩;rintro _ _ ⟨rfl,rfl⟩;refine⟨_,_,rfl,a',i,c',D.ld (o:=7) (cs:=y9 h a' i c') EQ4 Fol.IM (.tail _ (.head _)) rfl,p.2,D.ld (o:=1) (cs:=[.string p.1,.string p.2]) EQ4 xx (.head _) rfl,λub w9 al=>?_⟩;have H9:=D.drew.new (cs:=[I (zi W p.1),.string p.2]) EQ4 al;refine Hp.app Fol.ry om H9.ET EQ4 (Blk.src (P:=PP) Fol.sU (H9.blk (.head _)) rfl rfl) (by simp only[maxLen];omega) om ?_;intro a2 c2 ar am;refine Hp.st (o:=7) am.ET EQ4 Fol.IM rfl rfl (by simp[y9]) (cs':=y9 h a2 (i+1) c2) rfl λav an=>⟨DT.2 om,ag (n-(i+1)) _ _ om ⟨i+1,a2,c2,.blk ub [I (zi W p.1),.string p.2] 260::.blk yb [.string p.1,.string p.2] 142::X,rfl,om,rfl,?_⟩⟩
  have e1:Fol.BL (r.FP.take (i+1))=Fol.BL (r.FP.take i)++[I (zi W p.1),.string p.2]:=by
   have ao:i<r.FP.length:=by rw[ra,aQ];exact g
   have ap:r.FP[i]=(zi W p.1,p.2):=by
    have:=congrArg (λl=>l[i]?) ra;simp only[au,hp,dG]at this;exact(aA.1 this).2
   rw[aG ao,Fol.La,ap]
  rw[e1];refine an.perm ?_;refine AL λff gg h0 G ha aw=>?_;simp only[ha,G,h0,aY,aO,aH];omega
 have g:i=x.FP.length:=om;subst g;have e1:r.FP.take x.FP.length=r.FP:=aV (by rw[ra,aQ];exact aZ _);rw[e1]at q;have er:y9 h a' x.FP.length c'=y9 r a' x.FP.length c':=by rw[A];rfl
 rw[er]at q;refine⟨r.id,r.parent,r.kind,r.name,r.frm,r.to,r.text,a',x.FP.length,c',q.ldA (o:=0) (cs:=y9 r a' x.FP.length c') EQ4 Fol.Dh (.head _) rfl rfl,?_⟩;refine Hp.stA q.BF EQ4 Fol.Dh (vs:=y9 r a' x.FP.length c') rfl rfl (by simp[KCe]) (cs':=y9 r a' x.FP.length c') rfl λw7 Y=>?_;refine⟨r.id,r.parent,r.kind,r.name,r.frm,r.to,r.text,a',x.FP.length,c',Y.ldA (o:=0) (cs:=y9 r a' x.FP.length c') EQ4 Fol.Dh (.head _) rfl rfl,a',c',rfl,?_⟩;exact Hp.BM (L:=[_]) (Y.BF)
end
end Go.Proofs.YtljenkbpnioipaaGreat
namespace Go.Nod
def qP{L:List Rw}(a:(L.map (·.id)).Nodup){j:Nat}{r:Rw}(b:L[j]? =some r):atR L r.id=some (j,r):=by
 obtain⟨c,e⟩:=aA.1 b;have d:L=L.take j++r::L.drop (j+1):=by rw[<- e,<- bM c,bY]
 have f:EI L r.id=some j:=by
  have:=ZU (A:=L.take j) (r:=r) (B:=L.drop (j+1)) (λx g h=>by
   rw[d,ai,aj,bG]at a;exact a.2.2 x.id (aU.2 ⟨x,g,rfl⟩) r.id (.head _) h)
  rw[<- d,aJ,fE (Nat.le_of_lt c)]at this;exact this
 rw[atR,f];dsimp only;rw[b];rfl
def Am.Kr{F:Fo}{T:Tr}(G:Am F T):(T.L.map (·.id)).Nodup:=by
 rw[<- G.fl,BK];exact G.nodup
end Go.Nod
namespace Go.Proofs.YtljenkbpnioipaaGreat
noncomputable section
open Go Go.Vc Go.Nod
def bts(l:LU):BA:=⟨l.toArray⟩
def Pv(a b:LU):bts a++bts b=bts (a++b):=mk_append a b
def D9(l:LU):(bts l).size=l.length:=Gy l
def Bc(s:BA):bts s.data.toList=s:=(qY s).symm
def DX(next:Int):BA:=bts (104::be next 4)
def EZ(k:Nat)(s:BA):BA:=bts (119::(be ((k:Int)+1) 2++s.data.toList))
def Dx:Nat->Lj->Lj
 |_,[]=>[]
 |k,s::r=>(if s=none0 then []else [EZ k s])++Dx (k+1) r
theorem Le(s:BA):∀(l:Lj)(k:Nat),Dx k (l++[s])=Dx k l++(if s=none0 then []else [EZ (k+l.length) s])
 | [],k=>by simp[Dx]
 |x::r,k=>by
  rw[aH,Dx,Le s r (k+1),Dx,ax,aK];rw[show k+1+r.length=k+(r.length+1) by omega]
def CO(p:LU):BA:=bts (110::p)
def GM(T:Tr)(S:SM)(W:Lj)(j:Nat):Lj:=match T.L[j]? with
 |some r=>(Fol.out (yP S W r.id (AY T.L j) r.x)).map CO
 |none=>[]
def Di(T:Tr)(S:SM)(W:Lj)(n:Nat):Lj:=(List.range n).flatMap (GM T S W)
def Ht(T:Tr)(S:SM)(W:Lj)(n:Nat):Di T S W (n+1)=Di T S W n++GM T S W n:=by
 rw[Di,gQ,dR];simp[Di]
def DY(T:Tr)(S:SM)(W:Lj):Lj:=DX T.next::Dx 0 W++Di T S W T.L.length
abbrev RM:=List (BA×BA)
def KAI(m:RM)(l:Lj):RM:=l.foldl (λm s=>yR m (Aa s) s) m
def Yw(m:RM)(a b:Lj):KAI m (a++b)=KAI (KAI m a) b:=ig
def BV(T:Tr)(S:SM)(W:Lj):RM:=KAI [] (DY T S W)
def rwV(s:BA):Value:=.agg #[.string s]
def YR:KAa PP Gu 114 9 192 (.agg #[.string ⟨#[]⟩]):=⟨by kernel_rfl,by kernel_rfl,by kernel_rfl⟩
def I7{B:Nq}{w0 w:Wq}{L:List Asn}(mb a:Nat)(R:RM)(s:BA)(H:Hp B w0 w (.xH mb (gC rwV R)::.blk a [.map (some mb)] 114::L)):
  CP 112 #[.string s,pq a] w λe w'=>e=Ej (.tuple #[])/\Hp B w0 w' (.xH mb (gC rwV (KAI R [s]))::.blk a [.map (some mb)] 114::L):=by
 apply Jcu;have ld:∀{W:Wq},Eqw w W->Ld PP 114 W ⟨a,0,none⟩ (.map (some mb)):=λc=>H.ld c KFV m1 rfl;refine⟨some mb,AA rfl (ld EQ4),AC (SQ s _) ?_⟩;rintro _ _ ⟨rfl,rfl⟩;refine⟨_,rfl,AA rfl (ld EQ4),?_⟩;refine Hp.KEC YR H EQ4 λd b=>⟨rfl,?_⟩;have e:xY (gC rwV R) (Aa s) (.agg #[.string s])=gC rwV (KAI R [s]):=OV rwV R (Aa s) s;rw[e]at b;exact b
section
variable{B:List Nat}{w0 w:World}{L:List Asn}
def sV(r:Fol.Rec):(Fol.out r).length<=34:=by
 rw[Fol.out];split
 ·rename_i h;have:=(Fol.ES h).2.1;rw[Fol.Gz,Fol.BG];omega
 simp
def out_mem{r:Fol.Rec}{p:LU}(h:p∈Fol.out r):p.length<=906:=by
 rw[Fol.out]at h;split at h
 ·obtain⟨k,_,rfl⟩:=aU.1 h;rw[Fol.Qk];omega
 cases h
def nRecords_spec(U f sb g:Nat)(v3 v4:Value)(tf wf:Nq)(T:Tr)(S:SM)(W:Lj)
  (H:Hp B w0 w (.blk U [pq f,.map (some sb),pq g,v3,v4] 86::AV tf f T::.Z6 sb .i64 (smC S)::Az wf g W::L)):
  CP 60 #[pq U] w λe w'=>∃mb aa,e=Ej (.map (some mb))/\
   Hp B w0 w' (.xH mb (gC rwV (BV T S W))::.blk U [pq f,.map (some sb),pq g,v3,v4] 86::AV aa f T::.Z6 sb .i64 (smC S)::Az wf g W::L):=by
 apply Jct;obtain⟨m,t⟩:∃m:LV,m=[pq f,.map (some sb),pq g,v3,v4]:=⟨_,rfl⟩;have ab:m[0]? =some (pq f):=by rw[t];rfl
 have a4:m[1]? =some (.map (some sb)):=by rw[t];rfl
 have ah:m[2]? =some (pq g):=by rw[t];rfl
 rw[<- t]at H⊢;intro mb w1 a5;have H1:=H.KFF EQ4 a5;intro xb w2 a6;have H2:=H1.nw a6;refine Hp.st H2 EQ4 KFV rfl rfl (by simp) rfl λw3 H3=>?_;refine AA rfl ⟨_,H3.ld EQ4 nPT m2 ab,AC (Oc (H3.ok _ m3)) ?_⟩;rintro _ _ ⟨rfl,rfl⟩;refine⟨_,rfl,AC (O3 T.next 4 om _) ?_⟩;rintro _ w4 ⟨rfl,H4⟩;have H5:=(H3.xN H4).AX;have a7:(bts (be T.next 4)).size=4:=by rw[D9,AU]
 refine⟨bts (be T.next 4),rfl,by rw[a7];decide,?_⟩;rw[show(ByteArray.mk #[(104:UInt8)])++bts (be T.next 4)=DX T.next from Pv [104] (be T.next 4)];refine AC (I7 mb xb [] (DX T.next) H5) ?_;rintro _ w5 ⟨rfl,H6⟩;refine⟨rfl,AA rfl ⟨_,by rw[add_lit];exact H6.ld EQ4 rPB m2 ah,?_⟩⟩
 have K:WOk W:=by
  obtain⟨M,⟨hW,_⟩,_⟩:=E5 (H6.ok (Az wf g W) m5);exact hW
 have bx:=K.len;refine AC (Ws (H6.ok (Az wf g W) m5)) ?_;rintro _ w6 ⟨wa,wc,rfl,H7⟩;have H8:=H6.yC H7;refine⟨_,_,_,rfl,?_⟩;obtain⟨Y,hY⟩:∃Y:List Asn,Y=.blk xb [.map (some mb)] 114::.blk U m 86::AV tf f T::.Z6 sb .i64 (smC S)::Az wf g W::.own 9 1 wa W.length wc (BN W)::L:=⟨_,rfl⟩;refine xI.mk (λq s w'=>∃j:Nat,q=W.length-j/\j<=W.length/\s=(j:Int)/\Hp B w0 w' (.xH mb (gC rwV (KAI [] (DX T.next::Dx 0 (W.take j))))::Y)) W.length ⟨0,rfl,om,rfl,H8.perm ?_⟩ ?_
 ·rw[hY];refine AL λff gg u y z A=>?_;have e1:KAI [] (DX T.next::Dx 0 (W.take 0))=KAI [] [DX T.next]:=by rw[fD,Dx]
  simp only[e1,z,y,u];omega
 rintro q s w7 nx ⟨j,rfl,hj,rfl,H⟩ C;refine AB (λh1=>?_) (λh1=>?_)
 ·have b:j<W.length:=om;have hx:W[j]? =some W[j]:=aB b;obtain⟨x,ak⟩:∃x,x=W[j]:=⟨_,rfl⟩;rw[<- ak]at hx;have al:W.take (j+1)=W.take j++[x]:=by rw[aG b,ak]
  have a8:(W.take j).length=j:=by rw[aJ];omega
  obtain⟨ad,ac,ae⟩:=H.ldO EQ4 xx (by rw[hY];exact .tail _ m5) (EN hx);refine AA ac ⟨⟨om,h1⟩,x,by rw[aN,bV];exact ae,AQ (λh2=>?_) (λh2=>?_)⟩
  ·refine⟨iR,AC (O3 ((j:Int)+1) 2 om w7) ?_⟩;rintro _ w8 ⟨rfl,H9⟩;have D:=H.xN H9
   have b0:x.size<=60:=by
    rcases K.ok x (aC hx)with h|h
    ·exact(h2 h).elim
    exact h.2.1
   have a9:(bts (be ((j:Int)+1) 2)).size=2:=by rw[D9,AU]
   have ba:(ByteArray.mk #[(119:UInt8)]++bts (be ((j:Int)+1) 2)).size=3:=by
    rw[show ByteArray.mk #[(119:UInt8)]++bts (be ((j:Int)+1) 2)=bts (119::be ((j:Int)+1) 2)from Pv [119] _,D9,aK,AU]
   refine⟨bts (be ((j:Int)+1) 2),rfl,by rw[a9];decide,by rw[ba];omega,?_⟩
   have er:ByteArray.mk #[(119:UInt8)]++bts (be ((j:Int)+1) 2)++x=EZ j x:=by
    rw[show ByteArray.mk #[(119:UInt8)]++bts (be ((j:Int)+1) 2)=bts (119::be ((j:Int)+1) 2)from Pv [119] _]
    conv=>lhs;rw[<- Bc x]
    rw[Pv];rfl
   rw[er];rw[hY]at D;refine AC (I7 mb xb _ (EZ j x) D) ?_;rintro _ w9 ⟨rfl,af⟩;refine⟨rfl,iR,C (W.length-(j+1)) _ _ om ⟨j+1,rfl,om,rfl,?_⟩⟩;rw[al,Le,a8,if_neg h2,<- aH,Yw,cZ,hY];exact af
  refine⟨iR,C (W.length-(j+1)) _ _ om ⟨j+1,rfl,om,rfl,?_⟩⟩;rw[al,Le,if_pos h2,aX];exact H
 have b:j=W.length:=om;rw[b,bJ]at H;obtain⟨R1,am⟩:∃R1,R1=DX T.next::Dx 0 W:=⟨_,rfl⟩;rw[<- am]at H;rw[hY]at H;refine AA rfl ⟨_,H.ld EQ4 nPT m2 ab,?_⟩
 obtain⟨F,hG⟩:∃F,Am F T:=by
  obtain⟨F,_,_,hG,_⟩:=FD (H.ok (AV tf f T) m3);exact⟨F,hG⟩
 have b1:=hG.len;have bb:=hG.Kr;refine AC (JZ (H.ok (AV tf f T) m3)) ?_;rintro _ w8 ⟨bc,oa,oc,rfl,H9⟩;have D:=H.ET.zK H9;refine⟨_,_,_,rfl,?_⟩;obtain⟨Z,hZ⟩:∃Z:List Asn,Z=.Z6 sb .i64 (smC S)::Az wf g W::.own 3 1 oa T.L.length oc (AO (T.L.map (·.id)))::.own 9 1 wa W.length wc (BN W)::L:=⟨_,rfl⟩;refine xI.mk (λq s w'=>∃(j:Nat)(aa:Nq)(X:List Asn),q=T.L.length-j/\j<=T.L.length/\s=(j:Int)/\Hp B w0 w' (.xH mb (gC rwV (KAI [] (R1++Di T S W j)))::.blk xb [.map (some mb)] 114::.blk U m 86::AV aa f T::(Z++X))) T.L.length ⟨0,bc,[],rfl,om,rfl,D.perm ?_⟩ ?_
 ·refine AL λff gg u y z A=>?_;have e1:R1++Di T S W 0=R1:=by simp[Di]
  simp only[e1,hZ,z,y,u];omega
 rintro q s w9 nx ⟨j,an,X,rfl,hj,rfl,H⟩ C;refine AB (λh2=>?_) (λh2=>?_)
 ·have b:j<T.L.length:=om;obtain⟨r,bd⟩:∃r,r=T.L[j]:=⟨_,rfl⟩;have hr:T.L[j]? =some r:=by rw[bd];exact aB b
  have bh:(AO (T.L.map (·.id)))[j]? =some (I r.id):=by simp[AO,hr]
  obtain⟨ad,ac,ae⟩:=H.ldO EQ4 xK (by rw[hZ];exact .tail _ m5) bh;refine AA ac ⟨⟨om,h2⟩,r.id,by rw[aN,bV];exact ae,AA rfl ⟨_,H.ld (o:=0) (cs:=m) EQ4 nPT m2 ab,?_⟩⟩;refine AC (QR (H.ok (AV an f T) m3) r.id) ?_;have ao:=qP bb hr;rintro _ b2 ⟨ap,⟨h3,_⟩|⟨n,r',a,c,kd,h3,rfl,h4,af⟩⟩
  ·rw[ao]at h3;cases h3
  rw[ao]at h3;cases h3;have bi:=H.ET.zK af;refine⟨r.id,AY T.L j,r.x.kind,kd,r.x.name,r.x.text,a,r.x.FP.length,c,true,rfl,λzb b3 aq=>?_⟩;have bj:=bi.nw aq;refine Hp.sA bj LG (cs':=ndC r.id (AY T.L j) kd r.x a r.x.FP.length c) λbk d=>?_;refine⟨r.id,AY T.L j,r.x.kind,kd,r.x.name,r.x.text,a,r.x.FP.length,c,d.loA LG,?_⟩;have ar:Own bk 0 142 2 a r.x.FP.length c (atC r.x.FP):=d.xh m2;have mS:Asn.Z6 sb .i64 (smC S)∈Z++X:=by rw[hZ];exact .head _
  have mW:Az wf g W∈Z++X:=by rw[hZ];exact .tail _ (.head _)
  refine AC (nRecord_spec U sb g m 86 (d.blk m5) a4 ah (S:=S) (d.ok _ (t6 mS)) (W:=W) (d.ok _ (t6 mW)) r.id (AY T.L j) kd r.x a r.x.FP.length c ⟨rfl,ar.cells⟩ om) ?_;rintro _ av ⟨ra,rc,rfl,bl⟩;have G:=d.yC bl;obtain⟨l,ag⟩:∃l,l=yP S W r.id (AY T.L j) r.x:=⟨_,rfl⟩;rw[<- ag]at G⊢;have N:r.x.FP.length=l.FP.length:=by rw[ag,yP,aQ]
  rw[N]at G⊢;refine⟨_,_,_,_,_,_,_,_,_,_,rfl,?_⟩;have bm:Own av 0 260 2 ra l.FP.length rc (Fol.BL l.FP):=G.xh (.head _);refine AC (Fol.RY l ra l.FP.length rc av ⟨rfl,bm.cells⟩ (by simp only[maxLen];omega)) ?_;rintro _ b4 ⟨pa,pc,rfl,bo⟩;have aw:=G.yC bo;refine⟨_,_,_,_,rfl,?_⟩;have bp:=sV l;obtain⟨O,hO⟩:∃O,O=Fol.out l:=⟨_,rfl⟩;rw[<- hO]at aw bp⊢
  have bq:Di T S W (j+1)=Di T S W j++O.map CO:=by
   rw[Ht,GM,hr];dsimp only;rw[<- ag,<- hO]
  refine xI.mk (λq s w'=>∃(i:Nat)(X2:List Asn),q=O.length-i/\i<=O.length/\s=(i:Int)/\Hp B w0 w' (.xH mb (gC rwV (KAI [] (R1++Di T S W j++(O.take i).map CO)))::.blk xb [.map (some mb)] 114::.blk U m 86::AV ap f T::.own 9 1 pa O.length pc (O.map sv)::(Z++X2))) O.length ⟨0,.own 260 2 ra l.FP.length rc (Fol.BL l.FP)::.blk zb (ndC r.id (AY T.L j) kd r.x a r.x.FP.length c) 71::.own 142 2 a r.x.FP.length c (atC r.x.FP)::X,rfl,om,rfl,aw.perm ?_⟩ ?_
  ·refine AL λff gg u y z A=>?_;simp only[fD,jC,aX,N,z,y,u];omega
  rintro q s bv b5 ⟨i,X2,rfl,hi,rfl,H⟩ a0;refine AB (λh5=>?_) (λh5=>⟨iR,C (T.L.length-(j+1)) _ _ om ⟨j+1,ap,.own 9 1 pa O.length pc (O.map sv)::X2,rfl,om,rfl,?_⟩⟩)
  ·have J:i<O.length:=om;obtain⟨p,a1⟩:∃p,p=O[i]:=⟨_,rfl⟩;have hp:O[i]? =some p:=by rw[a1];exact aB J
   have bw:(O.map sv)[i]? =some (.string (bts p)):=by rw[au,hp];rfl
   have b6:p.length<=906:=out_mem (r:=l) (by rw[<- hO];exact aC hp);obtain⟨b7,a2,a3⟩:=H.ldO (w':=bv) (o:=i) EQ4 xx m4 bw;refine AA a2 ⟨⟨om,h5⟩,bts p,by rw[aN,bV];exact a3,by rw[D9,show(ByteArray.mk #[(110:UInt8)]).size=1 from rfl];omega,?_⟩;rw[show ByteArray.mk #[(110:UInt8)]++bts p=CO p from Pv [110] p];refine AC (I7 mb xb _ (CO p) H) ?_;rintro _ b8 ⟨rfl,H2⟩;refine⟨rfl,iR,a0 (O.length-(i+1)) _ _ om ⟨i+1,X2,rfl,om,rfl,?_⟩⟩;rw[aG J,<- a1,ai,<- ax,Yw];exact H2
  have J:i=O.length:=om;rw[J,bJ,ax,<- bq]at H
  exact H.perm (by
   refine AL λff gg u y z A=>?_;simp only[z,y,u];omega)
 have b:j=T.L.length:=om;rw[b]at H;have er:KAI [] (R1++Di T S W T.L.length)=BV T S W:=by rw[BV,DY,am]
 rw[er]at H;refine⟨some mb,H.lo KFV,mb,an,rfl,?_⟩
 exact Hp.BM (R:=.blk xb [.map (some mb)] 114::.own 3 1 oa T.L.length oc (AO (T.L.map (·.id)))::.own 9 1 wa W.length wc (BN W)::X) (H.perm (by
  refine AL λff gg u y z A=>?_;simp only[hZ,z,y,u];omega))
end
end
noncomputable section
open Go Go.Vc Go.Nod
abbrev Pl:=Int×Int
abbrev QM:=List (BA×Pl)
abbrev DM:=List (Pl×Int)
def hpair:Q3 PP 101:=pair_of (by kernel_rfl) (by kernel_rfl)
def Uu:YT PP 110 101 3 (I 0):=⟨by kernel_rfl,hpair,by kernel_rfl⟩
def V5:KAa PP Gu 83 9 101 (.agg #[I 0,I 0]):=⟨by kernel_rfl,by kernel_rfl,by kernel_rfl⟩
def hagg:Agg PP 101 2:=DN (by kernel_rfl)
def KFC:Scl PP 110:=BQ (by kernel_rfl)
def dC(D:DM):List (Pl×Value):=gC (λz=>I z) D
def cnt(D:DM)(p:Pl):Int:=(xP D p).getD 0
def touch(D:DM)(p:Pl):DM:=yR D p (cnt D p+1)
def Qh(D:DM)(p:Pl):(xZ (dC D) p).getD (I 0)=I (cnt D p):=by
 rw[dC,MH,cnt];cases xP D p<;>rfl
def UM(D:DM)(p:Pl):xY (dC D) p (I (cnt D p+1))=dC (touch D p):=OV (λz=>I z) D p (cnt D p+1)
def Aj(P:List Sl.xR)(n:Nat):Sl.xR:=(P[n]?).getD []
structure WSt where
 P:List Sl.xR
 Q:QM
 D:DM
def WSt.drop(st:WSt)(key:BA):WSt:=
 ⟨st.P.set ((xP st.Q key).getD (0,0)).1.toNat (Sl.zx (Aj st.P ((xP st.Q key).getD (0,0)).1.toNat) ((xP st.Q key).getD (0,0)).2).1,zY st.Q key,touch st.D ((xP st.Q key).getD (0,0))⟩
def EJ(P:List Sl.xR)(n:Nat):List Sl.xR:=if n=P.length then P++[[]]else P
def KAS(s:LU):Nat->Nat->List Sl.xR->List Sl.xR×Option Pl
 |0,_,P=>(P,none)
 |f+1,n,P=>if(Sl.zJ (Aj (EJ P n) n) s).2.2=0 then((EJ P n).set n (Sl.zJ (Aj (EJ P n) n) s).1,some ((n:Int),(Sl.zJ (Aj (EJ P n) n) s).2.1))else KAS s f (n+1) (EJ P n)
def WSt.put(st:WSt)(key s:BA):WSt×Int:=match KAS s.data.toList 4096 0 st.P with
 |(P,none)=>(⟨P,st.Q,st.D⟩,94)
 |(P,some p)=>(⟨P,yR st.Q key p,touch st.D p⟩,0)
structure DD(st:WSt)(N:Int):Prop where
 len:st.P.length<=4096
 q:∀e∈st.Q,0<=e.2.1/\e.2.1<st.P.length/\0<=e.2.2/\e.2.2<120
 qn:(st.Q.map (·.1)).Nodup
 key:∀e∈st.Q,e.1.size<=6
 d:∀e∈st.D,0<=e.2/\e.2<=N/\0<=e.1.1/\e.1.1<st.P.length/\0<=e.1.2/\e.1.2<120
 dn:(st.D.map (·.1)).Nodup
theorem DD.cnt{st:WSt}{N:Int}(h:DD st N)(a:0<=N)(p:Pl):0<=cnt st.D p/\cnt st.D p<=N:=by
 rw[Go.Proofs.YtljenkbpnioipaaGreat.cnt];cases e:xP st.D p with
 |none=>exact⟨gz _,a⟩
 |some z=>
  have:=h.d _ (NK e);exact⟨this.1,this.2.1⟩
def DD.touch{st:WSt}{N:Int}(h:DD st N)(c:0<=N){p:Pl}(a:0<=p.1/\p.1<st.P.length/\0<=p.2/\p.2<120):DD ⟨st.P,st.Q,touch st.D p⟩ (N+1):=by
 refine⟨h.len,h.q,h.qn,h.key,λe b=>?_,Gn h.dn _ _⟩;rcases Jk b with rfl|b
 ·have:=h.cnt c p;exact⟨om,om,a.1,a.2.1,a.2.2.1,a.2.2.2⟩
 have:=h.d e b;exact⟨this.1,om,this.2.2⟩
def DD.pages{st:WSt}{N:Int}(h:DD st N){P:List Sl.xR}(c:st.P.length<=P.length)(b:P.length<=4096):DD ⟨P,st.Q,st.D⟩ N:=
 ⟨b,λe a=>by have:=h.q e a;exact⟨this.1,by show e.2.1<(P.length:Int);omega,this.2.2⟩,h.qn,h.key,λe a=>by
  have:=h.d e a;exact⟨this.1,this.2.1,this.2.2.1,by show e.1.1<(P.length:Int);omega,this.2.2.2.2⟩,h.dn⟩
def DD.drop{st:WSt}{N:Int}(h:DD st N)(f:0<=N){key:BA}{p:Pl}(c:xP st.Q key=some p):DD (st.drop key) (N+1):=by
 have g:=h.q _ (NK c);have a:=(h.pages (P:=st.P.set p.1.toNat (Sl.zx (Aj st.P p.1.toNat) p.2).1) (by rw[bU];exact aZ _) (by rw[bU];exact h.len)).touch f (by rw[bU];exact g);rw[WSt.drop,c];exact⟨a.len,λe b=>a.q e ((Lc _ _).subset b),OJ h.qn _,λe b=>h.key e ((Lc _ _).subset b),a.d,a.dn⟩
def Vd(P:List Sl.xR)(n:Nat):P.length<=(EJ P n).length/\(EJ P n).length<=P.length+1/\(n<=P.length->n<(EJ P n).length):=by
 rw[EJ];split
 ·simp;omega
 refine⟨aZ _,om,λh=>by omega⟩
def ains_slot(L:Sl.xR)(s:LU):0<=(Sl.zJ L s).2.1/\(Sl.zJ L s).2.1<120:=by
 unfold Sl.zJ;dsimp only;split
 ·exact⟨gz _,by show(0:Int)<120;omega⟩
 split
 ·dsimp only;omega
 exact⟨gz _,by show(0:Int)<120;omega⟩
def ains_bad{L:Sl.xR}{s:LU}(h:(Sl.zJ L s).2.2≠0):(Sl.zJ L s).1=L:=by
 unfold Sl.zJ at h⊢;dsimp only at h⊢;split
 ·rfl
 rename_i a;rw[if_neg a]at h;split
 ·rename_i b;rw[if_pos b]at h;exact absurd rfl h
 rfl
theorem rE(s:LU):∀(f n:Nat)(P:List Sl.xR),n<=P.length->P.length<=f+n->P.length<=(KAS s f n P).1.length/\(KAS s f n P).1.length<=f+n/\∀p,(KAS s f n P).2=some p->0<=p.1/\p.1<(KAS s f n P).1.length/\0<=p.2/\p.2<120
 |0,n,P,h1,h2=>⟨aZ _,h2,λp a=>by cases a⟩
 |f+1,n,P,h1,h2=>by
  obtain⟨b,g,c⟩:=Vd P n;have h:=c h1
  have d:(EJ P n).length<=f+(n+1):=by
   rw[EJ];split
   ·simp;omega
   omega
  rw[KAS];split
  ·dsimp only;rw[bU];refine⟨b,om,λp a=>?_⟩;cases a;have:=ains_slot (Aj (EJ P n) n) s;exact⟨om,om,this.1,this.2⟩
  obtain⟨i,j,e⟩:=rE s f (n+1) (EJ P n) om d;exact⟨om,om,e⟩
theorem DD.put{st:WSt}{N:Int}(h:DD st N)(i:0<=N){key:BA}(j:key.size<=6)(s:BA):DD (st.put key s).1 (N+1):=by
 have m:=h.len;obtain⟨c,l,f⟩:=rE s.data.toList 4096 0 st.P (bZ _) om;rw[WSt.put];cases e:KAS s.data.toList 4096 0 st.P with
 |mk P o=>
  rw[e]at c l f;cases o with
  |none=>
   have a:=h.pages c om;exact⟨a.len,a.q,a.qn,a.key,λe b=>by have:=a.d e b;exact⟨this.1,om,this.2.2⟩,a.dn⟩
  |some p=>
   have g:=f p rfl;have a:=(h.pages c om).touch i g;refine⟨a.len,λe b=>?_,Gn h.qn _ _,λe b=>?_,a.d,a.dn⟩
   ·rcases Jk b with rfl|b
    ·exact g
    exact a.q e b
   rcases Jk b with rfl|b
   ·exact j
   exact h.key e b
structure WN where
 xb:Nat
 db:Nat
 ub:Nat
 tb:Nat
 sb:Nat
 wb:Nat
 qb:Nat
def wrC(z:WN):LV:=[pq z.ub,.map (some z.db)]
def tbC(z:WN)(pa:OA)(n pc:Nat):LV:=[pq z.tb,.map (some z.sb),pq z.wb,.slice pa n pc,.map (some z.qb)]
def wrL(z:WN)(pf:Nq)(pa:OA)(pc:Nat)(st:WSt):List Asn:=
 [yO pf pa pc st.P,.xH z.qb (gC Ai st.Q),Jh z.db (dC st.D),.blk z.xb (wrC z) 112,.blk z.ub (tbC z pa st.P.length pc) 86]
def Z7{Q:QM}{k:BA}:(xZ (gC Ai Q) k).getD (.agg #[I 0,I 0])=.agg #[I ((xP Q k).getD (0,0)).1,I ((xP Q k).getD (0,0)).2]:=by
 rw[MH];cases xP Q k<;>rfl
section
variable{B:List Nat}{w0 w:World}{L:List Asn}
def TP(z:WN)(pf:Nq)(pa:OA)(pc:Nat)(st:WSt)(N:Int)(d:DD st N)(hN:0<=N/\N<=1000000000)(key:BA)(p:Pl)(y:xP st.Q key=some p)(H:Hp B w0 w (wrL z pf pa pc st++L)):
  CP 108 #[pq z.xb,.string key] w λe w'=>e=Ej (.tuple #[])/\∃a,Hp B w0 w' (wrL z a pa pc (st.drop key)++L):=by
 apply Jcd;have hq:0<=p.1/\p.1<st.P.length/\0<=p.2/\p.2<120:=d.q _ (NK y);have aa:=d.len;have O:=d.cnt hN.1 p;have f:∀{W:Wq}{M:List Asn},Hp B w0 W M->Asn.blk z.xb (wrC z) 112∈M->∀{l:Wq},Eqw W l->Ld PP 23 l ⟨z.xb,0,none⟩ (pq z.ub):=λH m _ e=>H.ld e rPT m rfl
 have o:∀{W:Wq}{M:List Asn},Hp B w0 W M->Asn.blk z.ub (tbC z pa st.P.length pc) 86∈M->∀{l:Wq},Eqw W l->Ld PP 83 l (Addr.add ⟨z.ub,0,none⟩ 4) (.map (some z.qb)):=λH m _ e=>by
  rw[add_lit];exact H.ld e KDr m rfl
 have A:∀{Q:QM},xP Q key=some p->(xZ (gC Ai Q) key).getD (.agg #[I 0,I 0])=.agg #[I p.1,I p.2]:=λ{Q} h=>by rw[Z7,h];rfl
 refine AA rfl ⟨_,f H m3 EQ4,AA rfl ⟨_,o H m4 EQ4,p.1,p.2,H.lkS V5 EQ4 m1 (A y),λT w1 C=>?_⟩⟩;have H1:=H.nw C;refine Hp.stA H1 EQ4 hagg rfl rfl (by simp) rfl λw2 H2=>?_;obtain⟨n,U⟩:∃n:Nat,p.1=(n:Int):=⟨p.1.toNat,om⟩;have F:n<st.P.length:=om;obtain⟨R,Y⟩:∃R,st.P[n]? =some R:=⟨_,aB F⟩;have H3:Hp B w0 w2 (yO pf pa pc st.P::(.blk T [I p.1,I p.2] 101::.xH z.qb (gC Ai st.Q)::Jh z.db (dC st.D)::.blk z.xb (wrC z) 112::.blk z.ub (tbC z pa st.P.length pc) 86::L)):=H2.AX;obtain⟨b,g,X,ad,G,J,r,j,c⟩:=Jg H3.drew Y;have s:∀{x:Asn}{M:List Asn},x∈M->x∈Sl.pgA b g::X::M:=λh=>.tail _ (.tail _ h);refine AA rfl ⟨_,f j (s m3) EQ4,AA rfl ⟨pa,st.P.length,pc,by rw[add_lit];exact j.ld EQ4 pSl (s m4) rfl,p.1,j.ld EQ4 xK (s (.head _)) rfl,AA G ⟨⟨om,om⟩,_,by rw[U,aN];exact J _ EQ4,p.2,j.ld EQ4 xK (s (.head _)) rfl,?_⟩⟩⟩;refine AC (Sl.delete_any r (j.blk (.head _)) p.2) ?_;rintro _ w3 ⟨rfl,g',i,H5⟩;have H6:=j.Bg H5;obtain⟨a,t⟩:=c _ _ _ _ i H6;refine⟨_,rfl,AA rfl ⟨_,by rw[add_lit];exact t.lo KFC,p.1,p.2,t.loA hagg,cnt st.D p,t.lkP Uu EQ4 m3 (Qh st.D p),iR,?_⟩⟩;refine Hp.KFT Uu t.ET EQ4 (Qh st.D p) λw4 u=>?_;rw[UM]at u;refine AA rfl ⟨_,f u m4 EQ4,AA rfl ⟨some z.qb,o u m5 EQ4,?_⟩⟩;refine Hp.delS V5 rfl u.ET EQ4 λw5 Z=>⟨rfl,a,?_⟩;rw[uh]at Z
 have ed:st.drop key=⟨st.P.set n (Sl.zx R p.2).1,zY st.Q key,touch st.D p⟩:=by
  rw[WSt.drop,y,fG,U,aN,Aj,Y];rfl
 have K:Hp B w0 w5 ((wrL z a pa pc (st.drop key)++L)++[.blk T [I p.1,I p.2] 101]):=Z.perm (by
  refine AL λff gg h0 hc ha ab=>?_;rw[ed];simp only[wrL,bU,ha,hc,h0];omega)
 exact Hp.BM K
end
end
noncomputable section
open Go Go.Vc Go.Nod
section
variable{B:List Nat}{w0 w:World}{L:List Asn}
def nPut_spec(z:WN)(pf:Nq)(pa:OA)(pc:Nat)(st:WSt)(N:Int)(A:DD st N)(hN:0<=N/\N<=1000000000)(key s:BA)(H:Hp B w0 w (wrL z pf pa pc st++L)):
  CP 111 #[pq z.xb,.string key,.string s] w λe w'=>∃h Y Z,e=Ej (I (st.put key s).2)/\Hp B w0 w' (wrL z h Y Z (st.put key s).1++L):=by
 apply Jcr;have aa:=A.len;have a:∀{W:Wq}{M:List Asn},Hp B w0 W M->Asn.blk z.xb (wrC z) 112∈M->∀{C:Wq},Eqw W C->Ld PP 23 C ⟨z.xb,0,none⟩ (pq z.ub):=λH m _ e=>H.ld e rPT m rfl
 have d:∀{W:Wq}{M:List Asn}{pa:OA}{n pc:Nat},Hp B w0 W M->Asn.blk z.ub (tbC z pa n pc) 86∈M->∀{C:Wq},Eqw W C->Ld PP 84 C (Addr.add ⟨z.ub,0,none⟩ 3) (.slice pa n pc):=λ{W M pa n pc} H m _ e=>by
  rw[add_lit];exact H.ld e pSl m rfl
 refine xI.mk (λq t w'=>∃(n:Nat)(pf:Nq)(pa:OA)(pc:Nat)(P:List Sl.xR),q=4096-n/\n<=4096/\t=(n:Int)/\n<=P.length/\P.length<=4096/\KAS s.data.toList (4096-n) n P=KAS s.data.toList 4096 0 st.P/\Hp B w0 w' (wrL z pf pa pc ⟨P,st.Q,st.D⟩++L)) 4096 ⟨0,pf,pa,pc,st.P,rfl,om,rfl,bZ _,aa,rfl,H⟩ ?_;rintro q t w1 nx ⟨n,pf,pa,pc,P,rfl,hn,rfl,ab,hP,f,H⟩ ac;refine AB (λh1=>?_) (λh1=>?_)
 ·have e0:4096-n=0:=om;rw[e0,KAS]at f;have ep:st.put key s=(⟨P,st.Q,st.D⟩,94):=by rw[WSt.put,<- f]
  rw[ep];exact⟨pf,pa,pc,rfl,H⟩
 have e1:4096-n=(4096-(n+1))+1:=om;obtain⟨g1,g2,g3⟩:=Vd P n;have g4:=g3 ab
 have g5:(EJ P n).length<=4096:=by
  rw[EJ];split
  ·simp;omega
  omega
 rw[e1,KAS]at f;obtain⟨c,l⟩:∃c,c=EJ P n:=⟨_,rfl⟩;rw[<- l]at f g1 g4 g5;refine xM.mk (λ_ w'=>∃pf pa pc,Hp B w0 w' (wrL z pf pa pc ⟨c,st.Q,st.D⟩++L)) ?_ ?_
 ·rintro _ w2 ⟨pf,pa,pc,H⟩;obtain⟨R,hR⟩:∃R,c[n]? =some R:=⟨_,aB g4⟩;have ae:Aj c n=R:=by rw[Aj,hR];rfl
  rw[ae]at f;obtain⟨b,g,X,ad,af,ag,F,r,i⟩:=Jg H hR;refine AA rfl ⟨_,a H m3 EQ4,AA rfl ⟨pa,c.length,pc,d H m4 EQ4,AA af ⟨⟨om,om⟩,_,ag _ EQ4,?_⟩⟩⟩;have j:=Sl.insert_any F (r.blk (.head _)) s.data.toList;rw[show sv s.data.toList=Value.string s from congrArg Value.string (Bc s)]at j;refine AC j ?_;rintro _ w3 ⟨rfl,g',u,G⟩;have H6:=r.Bg G;obtain⟨h,x⟩:=i _ _ _ _ u H6;refine⟨_,_,rfl,AB (λy=>?_) (λy=>⟨iR,?_⟩)⟩
  ·rw[if_pos y]at f;obtain⟨p,K⟩:∃p:Pl,p=((n:Int),(Sl.zJ R s.data.toList).2.1):=⟨_,rfl⟩;rw[<- K]at f;have ep:st.put key s=(⟨c.set n (Sl.zJ R s.data.toList).1,yR st.Q key p,touch st.D p⟩,0):=by rw[WSt.put,<- f]
   have al:=A.cnt hN.1 p;have ev:(Value.agg #[I (n:Int),I (Sl.zJ R s.data.toList).2.1])=Ai p:=by rw[K];rfl
   refine AA rfl ⟨_,a x m3 EQ4,AA rfl ⟨some z.qb,by rw[add_lit];exact x.lo KDr,?_⟩⟩;simp only[ev];refine Hp.KEC V5 x.AX EQ4 λw4 O=>?_;rw[OV]at O;refine AA rfl ⟨some z.db,by rw[add_lit];exact O.lo KFC,cnt st.D p,O.lkP Uu EQ4 m2 (Qh st.D p),iR,?_⟩;refine Hp.KFT Uu O.BF EQ4 (Qh st.D p) λw5 H9=>?_;rw[UM]at H9;rw[ep];refine⟨h,pa,pc,rfl,H9.perm ?_⟩;refine AL λff gg h0 hc ha ah=>?_;simp only[wrL,bU,ha,hc,h0,aY,aO,aH];omega
  rw[if_neg y]at f;rw[ains_bad y]at x
  have es:c.set n R=c:=by
   obtain⟨hl,he⟩:=aA.1 hR;rw[<- he];exact lJ hl
  rw[es]at x;refine ac (4096-(n+1)) _ _ om ⟨n+1,h,pa,pc,c,rfl,om,rfl,om,g5,f,x⟩
 intro J hJ;refine AA rfl ⟨_,a H m3 EQ4,AA rfl ⟨pa,P.length,pc,d H m4 EQ4,AB (λy=>?_) (λy=>hJ _ _ ⟨pf,pa,pc,?_⟩)⟩⟩
 ·have T:c=P++[[]]:=by rw[l,EJ,if_pos om]
  refine AA rfl ⟨_,a H m3 EQ4,AA rfl ⟨_,a H m3 EQ4,AA rfl ⟨pa,P.length,pc,d H m4 EQ4,?_⟩⟩⟩;refine AC (Sl.new_any _) ?_;rintro _ w2 ⟨nb,rfl,H2⟩;have U:=H.drew.yC H2;refine⟨_,rfl,d U m5 EQ4,a U m4 EQ4,a U m4 EQ4,λyb w3 ak=>?_⟩;have r:=U.nw ak;refine⟨d r m6 EQ4,a r m5 EQ4,a r m5 EQ4,?_⟩;refine Xr r Sl.wG (show P.length<=100000 by omega) EQ4 λa' c' f' w4 G=>?_;rw[<- T]at G;refine⟨a G m3 EQ4,AA rfl ?_⟩;rw[add_lit];refine Hp.st (o:=0+3) G.JH EQ4 pSl rfl rfl (by simp[tbC]) (cs':=tbC z a' c.length c') ?_ λw5 H6=>hJ _ _ ⟨f',a',c',H6.perm ?_⟩
  ·have:c.length=P.length+1:=by rw[T];simp
   rw[this];rfl
  refine AL λff gg h0 hc ha ah=>?_;simp only[wrL,ha,hc,h0,aY,aO,aH];omega
 have T:c=P:=by rw[l,EJ,if_neg om]
 rw[T];exact H
end
end
noncomputable section
open Go Go.Vc Go.Nod
def wE{a:LU}{s:BA}:bts a=s↔a=s.data.toList:=by
 constructor
 ·intro h;rw[<- h];simp[bts]
 intro h;rw[h];exact Bc s
def jaggR:Agg PP 192 1:=DN (by kernel_rfl)
def WSt.one(R:RM)(st:WSt)(key:BA):WSt×Int:=match xP st.Q key with
 |none=>st.put key ((xP R key).getD none0)
 |some p=>
  if(Sl.lk (Aj st.P p.1.toNat) p.2).getD []=((xP R key).getD none0).data.toList then(st,0)
  else if(Sl.xY (Aj st.P p.1.toNat) p.2 ((xP R key).getD none0).data.toList).2=0 then(⟨st.P.set p.1.toNat (Sl.xY (Aj st.P p.1.toNat) p.2 ((xP R key).getD none0).data.toList).1,st.Q,touch st.D p⟩,0)
  else(WSt.drop ⟨st.P,st.Q,touch st.D p⟩ key).put key ((xP R key).getD none0)
def Fp(R:RM):Lj->WSt->WSt
 | [],st=>st
 |k::r,st=>Fp R r (if xP R k=none then st.drop k else st)
def zh(R:RM):Lj->WSt->WSt×Int
 | [],st=>(st,0)
 |k::r,st=>if(st.one R k).2≠0 then st.one R k else zh R r (st.one R k).1
def EO(R:RM)(st:WSt):WSt×Int:=zh R (Eh (R.map (·.1))) (Fp R (Eh (st.Q.map (·.1))) st)
def DD.mono{st:WSt}{N M:Int}(h:DD st N)(b:N<=M):DD st M:=⟨h.len,h.q,h.qn,h.key,λe a=>by
 have:=h.d e a;exact⟨this.1,om,this.2.2⟩,h.dn⟩
theorem DD.one{st:WSt}{N:Int}(h:DD st N)(a:0<=N)(R:RM){key:BA}(b:key.size<=6):DD (st.one R key).1 (N+3):=by
 rw[WSt.one];cases e:xP st.Q key with
 |none=>exact(h.put a b _).mono om
 |some p=>
  have c:=h.q _ (NK e);dsimp only;split
  ·exact h.mono om
  have d:=h.touch a c;split
  ·have f:=(h.pages (P:=st.P.set p.1.toNat (Sl.xY (Aj st.P p.1.toNat) p.2 ((xP R key).getD none0).data.toList).1) (by rw[bU];exact aZ _) (by rw[bU];exact h.len)).touch a (by rw[bU];exact c);exact f.mono om
  exact((d.drop om (key:=key) e).put om b _).mono om
def V8{st:WSt}{key x:BA}(c:(st.Q.map (·.1)).Nodup)(d:x≠key)(h:x∈st.Q.map (·.1)):x∈(st.drop key).Q.map (·.1):=by
 refine az λa=>?_;have b:=CY.2 a;rw[show(st.drop key).Q=zY st.Q key from rfl,J4 _ _ _ c,if_neg d]at b;exact CY.1 b h
section
variable{B:List Nat}{w0 w:World}{L:List Asn}
theorem nWrite_spec(z:WN)(pf:Nq)(pa:OA)(pc:Nat)(st:WSt)(an:DD st 0)(mb:Nat)(R:RM)(bi:(R.map (·.1)).Nodup)(a9:∀e∈R,e.1.size<=6)(cb:R.length<=1000000)(cc:st.Q.length<=1000000)(H:Hp B w0 w (wrL z pf pa pc st++(.xH mb (gC rwV R)::L))):
  CP 59 #[pq z.xb,.map (some mb)] w λe w'=>∃af ao ap,e=Ej (I (EO R st).2)/\Hp B w0 w' (wrL z af ao ap (EO R st).1++(.xH mb (gC rwV R)::L)):=by
 apply Jc3;have aq:∀{W:Wq}{M:List Asn},Hp B w0 W M->Asn.blk z.xb (wrC z) 112∈M->∀{W':Wq},Eqw W W'->Ld PP 23 W' ⟨z.xb,0,none⟩ (pq z.ub):=λH m _ e=>H.ld e rPT m rfl
 have ba:∀{W:Wq}{M:List Asn}{pa:OA}{n pc:Nat},Hp B w0 W M->Asn.blk z.ub (tbC z pa n pc) 86∈M->∀{W':Wq},Eqw W W'->Ld PP 84 W' (Addr.add ⟨z.ub,0,none⟩ 3) (.slice pa n pc):=λ{W M pa n pc} H m _ e=>by
  rw[add_lit];exact H.ld e pSl m rfl
 have bb:∀{W:Wq}{M:List Asn}{pa:OA}{n pc:Nat},Hp B w0 W M->Asn.blk z.ub (tbC z pa n pc) 86∈M->∀{W':Wq},Eqw W W'->Ld PP 83 W' (Addr.add ⟨z.ub,0,none⟩ 4) (.map (some z.qb)):=λ{W M pa n pc} H m _ e=>by
  rw[add_lit];exact H.ld e KDr m rfl
 have ab:∀(ar:BA),(xZ (gC rwV R) ar).getD (.agg #[.string ⟨#[]⟩])=.agg #[.string ((xP R ar).getD none0)]:=λar=>by
  rw[MH];cases xP R ar<;>rfl
 have bc:∀{K:Lj},(∀x∈K,x.size<=6)->∀x∈Eh K,x.size<=maxLen:=λh x O=>by
  have:=h x (Dy.1 O);simp only[maxLen];omega
 refine AA rfl ⟨_,aq H m3 EQ4,AA rfl ⟨some z.qb,bb H m4 EQ4,AC (keysP_spec (some z.qb) w) ?_⟩⟩;rintro _ w1 ⟨q,rfl,H1⟩;have H2:=H.yC H1;obtain⟨K,hK⟩:∃K,K=Eh (st.Q.map (·.1)):=⟨_,rfl⟩;have cd:K.length=st.Q.length:=by rw[hK,Il,aQ]
 have bj:K.Nodup:=by rw[hK];exact(Dq _).nodup_iff.2 an.qn
 refine⟨_,rfl,AC (sortedP_spec q z.qb (gC Ai st.Q) w1 (H2.blk (.head _)) (H2.ok _ m2) K (by rw[TA,hK];exact Dq _) (by rw[hK];exact I8 an.qn) (by rw[hK];exact bc λx O=>by obtain⟨e,he,rfl⟩:=aU.1 O;exact an.key e he) (by rw[um];omega)) ?_⟩;rintro _ w2 ⟨ka,kc,rfl,H3⟩;have H4:=H2.yC H3;have bk:EO R st=zh R (Eh (R.map (·.1))) (Fp R K st):=by rw[hK];rfl
 rw[bk];refine⟨_,_,_,rfl,xI.mk (λm t w'=>∃(j:Nat)(pf:Nq)(pa:OA)(pc:Nat)(C:WSt)(X:List Asn),m=K.length-j/\j<=K.length/\t=(j:Int)/\DD C j/\Fp R (K.drop j) C=Fp R K st/\(∀x∈K.drop j,x∈C.Q.map (·.1))/\Hp B w0 w' (wrL z pf pa pc C++(.own 9 1 ka K.length kc (K.map .string)::.xH mb (gC rwV R)::(L++X)))) K.length ⟨0,pf,pa,pc,st,[.blk q [.map (some z.qb)] 83],rfl,om,rfl,an,by simp,λx O=>by rw[fF,hK]at O;exact Dy.1 O,H4.perm ?_⟩ ?_⟩
 ·refine AL λff gg T F U Y=>?_;simp only[wrL,U,F,T,aY,aO,aH];omega
 rintro m t w3 nx ⟨j,pf,pa,pc,G,X,rfl,hj,rfl,l,N,av,H⟩ aw;refine AB (λh1=>?_) (λh1=>?_)
 ·have r:j<K.length:=om;obtain⟨x,ag⟩:∃x,x=K[j]:=⟨_,rfl⟩;have O:K[j]? =some x:=by rw[ag];exact aB r
  have ah:K.drop j=x::K.drop (j+1):=by rw[ag];exact bM r
  rw[ah,Fp]at N;rw[ah]at av
  have bl:x∉K.drop (j+1):=by
   have:=bj.sublist (lF j K);rw[ah,bH]at this;exact this.1
  obtain⟨ad,a3,a4⟩:=H.ldO EQ4 xx m5 (show(K.map Value.string)[j]? =some (.string x) by rw[au,O];rfl);refine AA a3 ⟨⟨om,h1⟩,x,by rw[aN,bV];exact a4,_,_,H.XN YR EQ4 m6 (ab x) rfl,λyb w4 bm=>?_⟩;have H2:=H.nw bm;refine Hp.sA H2 jaggR (cs':=[.string ((xP R x).getD none0)]) λw5 H3=>?_;have H5:=H3.drop;have a5:(xZ (gC rwV R) x).isSome=(xP R x).isSome:=by rw[MH,lG]
  rw[a5];refine Es (λh2=>?_) (λh2=>⟨iR,aw (K.length-(j+1)) _ _ om ⟨j+1,pf,pa,pc,G,X,rfl,om,rfl,l.mono om,?_,λy hy=>av y (.tail _ hy),H5⟩⟩)
  ·have aa:xP R x=none:=by
    cases e:xP R x with
    |none=>rfl
    |some v=>rw[e]at h2;cases h2
   rw[if_pos aa]at N;obtain⟨p,hp⟩:∃p,xP G.Q x=some p:=dw.1 λe=>CY.1 e (av x (.head _));refine AC (TP z pf pa pc G j l om x p hp H5) ?_;rintro _ w6 ⟨rfl,af,H6⟩;refine⟨rfl,iR,aw (K.length-(j+1)) _ _ om ⟨j+1,af,pa,pc,G.drop x,X,rfl,om,rfl,?_,N,λy hy=>V8 l.qn (λe=>bl (e▸hy)) (av y (.tail _ hy)),?_⟩⟩
   ·have:=l.drop om hp;exact this.mono om
   exact H6
  have i:xP R x≠none:=λe=>by rw[e]at h2;cases h2
  rw[if_neg i]at N;exact N
 have r:j=K.length:=om;rw[r,iQ,Fp]at N;rw[<- N];rw[r]at l;refine AC (keysR_spec (some mb) w3) ?_;rintro _ w4 ⟨q2,rfl,H1⟩;have H2:=H.yC H1;obtain⟨M,hM⟩:∃M,M=Eh (R.map (·.1)):=⟨_,rfl⟩;have ce:M.length=R.length:=by rw[hM,Il,aQ]
 refine⟨_,rfl,AC (sortedR_spec q2 mb (gC rwV R) w4 (H2.blk (.head _)) (H2.ok _ m7) M (by rw[TA,hM];exact Dq _) (by rw[hM];exact I8 bi) (by rw[hM];exact bc λx O=>by obtain⟨e,he,rfl⟩:=aU.1 O;exact a9 e he) (by rw[um];omega)) ?_⟩;rintro _ w5 ⟨ma,mc,rfl,H3⟩;have H4:=H2.yC H3;rw[<- hM]
 have bo:∀x∈M,x.size<=6:=λx O=>by
  rw[hM,Dy]at O;obtain⟨e,he,rfl⟩:=aU.1 O;exact a9 e he
 obtain⟨N0,bp⟩:∃N0:Int,N0=(K.length:Int):=⟨_,rfl⟩;rw[<- bp]at l;refine⟨_,_,_,rfl,xI.mk (λm t w'=>∃(j:Nat)(pf:Nq)(pa:OA)(pc:Nat)(C:WSt)(X:List Asn),m=M.length-j/\j<=M.length/\t=(j:Int)/\DD C (N0+3*j)/\zh R (M.drop j) C=zh R M G/\Hp B w0 w' (wrL z pf pa pc C++(.xH mb (gC rwV R)::.own 9 1 ma M.length mc (M.map .string)::(L++X)))) M.length ⟨0,pf,pa,pc,G,.own 9 1 ka K.length kc (K.map .string)::.blk q2 [.map (some mb)] 114::X,rfl,om,rfl,l.mono om,by simp,H4.perm ?_⟩ ?_⟩
 ·refine AL λff gg T F U Y=>?_;simp only[wrL,U,F,T,aY,aO,aH];omega
 rintro m t w6 nx ⟨j,pf,pa,pc,a,X,rfl,hj,rfl,u,N,H⟩ aw;refine AB (λh1=>?_) (λh1=>?_);rotate_left
 ·have r:j=M.length:=om;rw[r,iQ,zh]at N;rw[<- N]
  exact⟨pf,pa,pc,rfl,Hp.BM (R:=.own 9 1 ma M.length mc (M.map .string)::X) (H.perm (by
   refine AL λff gg T F U Y=>?_;simp only[U,F,T,aY,aO,aH];omega))⟩
 have r:j<M.length:=om;obtain⟨x,ag⟩:∃x,x=M[j]:=⟨_,rfl⟩;have O:M[j]? =some x:=by rw[ag];exact aB r
 have ah:M.drop j=x::M.drop (j+1):=by rw[ag];exact bM r
 rw[ah,zh]at N;have bq:=bo x (aC O);have a1:=u.one om R bq;obtain⟨s,hs⟩:∃s,s=(xP R x).getD none0:=⟨_,rfl⟩;obtain⟨ad,a3,a4⟩:=H.ldO (w':=w6) (o:=j) EQ4 xx m6 (show(M.map Value.string)[j]? =some (.string x) by rw[au,O];rfl);refine AA a3 ⟨⟨om,h1⟩,x,by rw[aN,bV];exact a4,?_⟩
 have go:∀{W:Wq}{pf pa pc}{f:WSt},a.one R x=(f,0)->Hp B w0 W (wrL z pf pa pc f++(.xH mb (gC rwV R)::.own 9 1 ma M.length mc (M.map .string)::(L++X)))->gB ((j:Int)+1)/\nx ((j:Int)+1) W:=λ{W pf pa pc f} he H3=>by
  rw[he]at N a1;rw[if_neg (by simp)]at N;exact⟨iR,aw (M.length-(j+1)) _ _ om ⟨j+1,pf,pa,pc,f,X,rfl,om,rfl,a1.mono om,N,H3⟩⟩
 have bv:∀{W:Wq}{pf pa pc}{f:WSt}{c:Int},a.one R x=(f,c)->c≠0->Hp B w0 W (wrL z pf pa pc f++(.xH mb (gC rwV R)::.own 9 1 ma M.length mc (M.map .string)::(L++X)))->∃af ao ap,Ending.returned (I c)=Ej (I (zh R M G).2)/\Hp B w0 W (wrL z af ao ap (zh R M G).1++(.xH mb (gC rwV R)::L)):=λ{W pf pa pc f c} he F H3=>by
  rw[he]at N;rw[if_pos F]at N;rw[<- N]
  exact⟨pf,pa,pc,rfl,Hp.BM (R:=.own 9 1 ma M.length mc (M.map .string)::X) (H3.perm (by
   refine AL λff gg T F U Y=>?_;simp only[U,F,T,aY,aO,aH];omega))⟩
 refine AA rfl ⟨_,aq H m3 EQ4,AA rfl ⟨some z.qb,bb H m4 EQ4,_,_,_,H.XN V5 EQ4 m1 Z7 rfl,λyb w7 bw=>?_⟩⟩;obtain⟨p,hp⟩:∃p,p=(xP a.Q x).getD (0,0):=⟨_,rfl⟩;rw[<- hp];have a5:(xZ (gC Ai a.Q) x).isSome=(xP a.Q x).isSome:=by rw[MH,lG]
 rw[a5];have H2:=H.nw bw;refine Hp.sA H2 hagg (cs':=[I p.1,I p.2]) λw8 H3=>?_;refine xM.mk (λ_ w'=>∃pf pa pc f,DD f (N0+3*j+2)/\f.put x s=a.one R x/\Hp B w0 w' (wrL z pf pa pc f++(.xH mb (gC rwV R)::.own 9 1 ma M.length mc (M.map .string)::(L++X)))) ?_ ?_
 ·rintro _ w9 ⟨pf,pa,pc,f,ac,ak,H4⟩;refine⟨s,by rw[hs];exact H4.lkS YR EQ4 m5 (ab x),AC (nPut_spec z pf pa pc f _ ac om x s H4) ?_⟩;rintro _ bd ⟨af,ao,ap,rfl,H5⟩;obtain⟨o,ho⟩:∃o,o=f.put x s:=⟨_,rfl⟩;rw[<- ho]at ak H5;obtain⟨cf,c4⟩:=o;refine⟨_,rfl,?_⟩;rw[<- ho];refine AQ (λh2=>bv ak.symm h2 H5) (λh2=>?_);have bx:c4=0:=h2;subst bx;exact go ak.symm H5
 intro J hJ;refine Du (λh2=>?_) (λh2=>?_);rotate_left
 ·have aa:xP a.Q x=none:=by
   cases e:xP a.Q x with
   |none=>rfl
   |some v=>rw[e]at h2;cases h2
  exact hJ _ _ ⟨pf,pa,pc,a,u.mono om,by rw[WSt.one,aa,hs],H3.drop⟩
 have i:xP a.Q x=some p:=by
  cases e:xP a.Q x with
  |none=>rw[e]at h2;cases h2
  |some v=>rw[hp,e];rfl
 have hq:0<=p.1/\p.1<a.P.length/\0<=p.2/\p.2<120:=u.q _ (NK i)
 have d:a.one R x=if(Sl.lk (Aj a.P p.1.toNat) p.2).getD []=s.data.toList then(a,0)else if(Sl.xY (Aj a.P p.1.toNat) p.2 s.data.toList).2=0 then(⟨a.P.set p.1.toNat (Sl.xY (Aj a.P p.1.toNat) p.2 s.data.toList).1,a.Q,touch a.D p⟩,0)else(WSt.drop ⟨a.P,a.Q,touch a.D p⟩ x).put x s:=by
  rw[WSt.one,i,hs]
 obtain⟨n,hn⟩:∃n:Nat,p.1=(n:Int):=⟨p.1.toNat,om⟩;have b0:n<a.P.length:=om;have b9:=u.len;obtain⟨Rc,a0⟩:∃Rc,a.P[n]? =some Rc:=⟨_,aB b0⟩;have b1:Aj a.P p.1.toNat=Rc:=by rw[hn,aN,Aj,a0];rfl
 rw[b1]at d
 have H4:Hp B w0 w8 (yO pf pa pc a.P::(.xH z.qb (gC Ai a.Q)::Jh z.db (dC a.D)::.blk z.xb (wrC z) 112::.blk z.ub (tbC z pa a.P.length pc) 86::.xH mb (gC rwV R)::.blk yb [I p.1,I p.2] 101::.own 9 1 ma M.length mc (M.map .string)::(L++X))):=H3.perm (by
  refine AL λff gg T F U Y=>?_;simp only[wrL,U,F,T,aY,aO,aH];omega)
 obtain⟨b,g,Z,b2,al,am,ae,H5,A⟩:=Jg H4.drew a0;have mY:∀{x:Asn}{M:List Asn},x∈M->x∈Sl.pgA b g::Z::M:=λh=>.tail _ (.tail _ h);refine AA rfl ⟨_,aq H5 (mY m2) EQ4,AA rfl ⟨pa,a.P.length,pc,ba H5 (mY m3) EQ4,p.1,H5.ld (o:=0) (cs:=[I p.1,I p.2]) EQ4 xK (mY m5) rfl,AA al ⟨⟨om,om⟩,_,by rw[hn,aN];exact am _ EQ4,p.2,H5.ld (o:=1) (cs:=[I p.1,I p.2]) EQ4 xK (mY m5) rfl,?_⟩⟩⟩;refine AC (Sl.get_any ae (H5.blk (.head _)) p.2) ?_;rintro _ w9 ⟨rfl,H6⟩;obtain⟨b3,H7⟩:=A _ _ _ _ ae (H5.xN H6)
 have a2:a.P.set n Rc=a.P:=by
  obtain⟨hl,he⟩:=aA.1 a0;rw[<- he];exact lJ hl
 rw[a2]at H7;refine⟨_,_,rfl,s,by rw[hs];exact H7.lkS YR EQ4 m5 (ab x),AB (λh3=>?_) (λh3=>?_)⟩
 ·rw[if_pos (wE.1 h3)]at d
  exact go d (pf:=b3) (pa:=pa) (pc:=pc) (Hp.BM (R:=[.blk yb [I p.1,I p.2] 101]) (H7.perm (by
   refine AL λff gg T F U Y=>?_;simp only[wrL,U,F,T,aY,aO,aH];omega)))
 rw[if_neg λe=>h3 (wE.2 e)]at d;have ca:=u.cnt om p;refine AA rfl ⟨some z.db,by rw[add_lit];exact H7.lo KFC,p.1,p.2,H7.loA hagg,cnt a.D p,H7.lkP Uu EQ4 m2 (Qh a.D p),iR,?_⟩;refine Hp.KFT Uu H7.BF EQ4 (Qh a.D p) λbd H8=>?_;rw[UM]at H8;obtain⟨b,g,Z,b2,al,am,ae,H9,A⟩:=Jg (H8.AX).drew a0;have mY:∀{x:Asn}{M:List Asn},x∈M->x∈Sl.pgA b g::Z::M:=λh=>.tail _ (.tail _ h);refine AA rfl ⟨_,aq H9 (mY m2) EQ4,AA rfl ⟨pa,a.P.length,pc,ba H9 (mY m3) EQ4,p.1,H9.ld (o:=0) (cs:=[I p.1,I p.2]) EQ4 xK (mY m5) rfl,AA al ⟨⟨om,om⟩,_,by rw[hn,aN];exact am _ EQ4,p.2,H9.ld (o:=1) (cs:=[I p.1,I p.2]) EQ4 xK (mY m5) rfl,s,by rw[hs];exact H9.lkS YR EQ4 (mY m4) (ab x),?_⟩⟩⟩;have bh:=Sl.UW b g Rc 0 ae p.2 s.data.toList bd.drew (H9.blk (.head _));rw[show sv s.data.toList=Value.string s from congrArg Value.string (Bc s)]at bh;refine AC bh ?_;rintro _ b4 ⟨rfl,g',a6,b5⟩;obtain⟨a7,a8⟩:=A _ _ _ _ a6 (H9.Bg b5);refine⟨_,rfl,AB (λh4=>?_) (λh4=>?_)⟩
 ·rw[if_pos h4,hn,aN]at d;refine go d (pf:=a7) (pa:=pa) (pc:=pc) (Hp.BM (R:=[.blk yb [I p.1,I p.2] 101]) (a8.perm ?_));refine AL λff gg T F U Y=>?_;simp only[wrL,bU,U,F,T,aY,aO,aH];omega
 rw[if_neg h4]at d;have e3:(Sl.xY Rc p.2 s.data.toList).1=Rc:=Sl.ZQ h4;rw[e3,a2]at a8;have ac:=u.touch om hq
 have b6:Hp B w0 b4 (wrL z a7 pa pc ⟨a.P,a.Q,touch a.D p⟩++(.xH mb (gC rwV R)::.own 9 1 ma M.length mc (M.map .string)::(L++X))):=Hp.BM (R:=[.blk yb [I p.1,I p.2] 101]) (a8.perm (by
  refine AL λff gg T F U Y=>?_;simp only[wrL,U,F,T,aY,aO,aH];omega))
 refine AC (TP z a7 pa pc ⟨a.P,a.Q,touch a.D p⟩ _ ac om x p i b6) ?_;rintro _ cg ⟨rfl,b7,b8⟩;exact⟨rfl,hJ _ _ ⟨b7,pa,pc,_,(ac.drop om (key:=x) (p:=p) i).mono om,d.symm,b8⟩⟩
end
end
noncomputable section
open Go Go.Vc Go.Nod
structure Tab where
 T:Tr
 S:SM
 W:Lj
 P:List Sl.xR
 Q:QM
structure Vs(X:Tab):Prop where
 st:DD ⟨X.P,X.Q,[]⟩ 0
 ql:X.Q.length<=500000
def zD:Tab:=⟨⟨[],1⟩,[],[],[],[]⟩
def tab0_ok:Vs zD:=⟨⟨bZ _,λe h=>(by cases h),.nil,λe h=>(by cases h),λe h=>(by cases h),.nil⟩,bZ _⟩
def KAg(z:WN)(pa:OA)(pc:Nat)(pf tf wf:Nq)(X:Tab):List Asn:=
 [.blk z.ub (tbC z pa X.P.length pc) 86,AV tf z.tb X.T,.Z6 z.sb .i64 (smC X.S),Az wf z.wb X.W,yO pf pa pc X.P,.xH z.qb (gC Ai X.Q)]
def KDQ(b:Nat)(X:Tab)(L:List Asn):Prop:=∃(z:WN)(pa:OA)(pc:Nat)(pf tf wf:Nq),z.ub=b/\Vs X/\L=KAg z pa pc pf tf wf X
def xu(f:Nq)(b:Nat)(X:Tab):Asn:=pkA f (KDQ b X)
def lagg:Agg PP 86 5:=DN (by kernel_rfl)
def Zw{f:Nq}{b:Nat}{X:Tab}{w:Wq}(h:(xu f b X).ok w):Vs X:=by
 obtain⟨L,⟨z,c,d,e,g,i,_,a,_⟩,_⟩:=E5 h;exact a
def QI(w:Wq):CP 10 #[] w λe w'=>∃b f,e=Ej (pq b)/\Hp [] w w' [xu f b zD]:=by
 apply Jcn;refine AC (XZ w) ?_;rintro _ K ⟨a,j,rfl,n⟩;refine⟨_,rfl,λsb o c=>?_⟩;have p:=n.KDN EQ4 .i64 c;refine AC (XE o) ?_;rintro _ L ⟨d,l,rfl,q⟩;have r:=p.yC q;refine⟨_,rfl,λg M h b s i=>?_⟩;have t:=(r.KFF EQ4 h).new (cs:=[pq a,.map (some sb),pq d,.slice none 0 0,.map (some g)]) EQ4 i;obtain⟨m,u⟩:=sD t
 have x:Hp [] w s (KAg ⟨0,0,b,a,sb,d,g⟩ none 0 m j l zD++[]):=u.perm (by
  refine AL λff N y z A B=>?_;have C:smC zD.S=[]:=rfl;have D:gC Ai zD.Q=[]:=rfl;have F:zD.P=[]:=rfl;have G:zD.T=⟨[],1⟩:=rfl;have H:zD.W=[]:=rfl;simp only[KAg,tbC,C,D,F,G,H,dK,A,z,y,aY,aO,aH];omega)
 obtain⟨f,J⟩:=x.D5 (Q:=KDQ b zD) ⟨⟨0,0,b,a,sb,d,g⟩,none,0,m,j,l,rfl,tab0_ok,rfl⟩;exact⟨b,f,rfl,J⟩
section
variable{f:List Nat}{b:Nat}{X:Tab}{w:World}
def nClone_spec(h:(xu f b X).ok w):Calls Tryz.prog 18 #[.pointer (some ⟨b,0,none⟩)] w λe w'=>∃f1 f2 b',e=.returned (.pointer (some ⟨b',0,none⟩))/\Hp f w w' [xu f1 b X,xu f2 b' X]:=by
 apply Jcb;have H0:Hp f w w [xu f b X]:=BU h;obtain⟨M,⟨z,x,y,pf,tf,wf,rfl,ae,rfl⟩,H,_⟩:=H0.unpack;rw[aX]at H;have ba:X.P.length<=4096:=ae.st.len
 have d:∀{W:World}{M:List Asn}{j:Nat}{t:TypeId}{v:Value},Hp f w W M->Asn.blk z.ub (tbC z x X.P.length y) 86∈M->Scl Tryz.prog t->(tbC z x X.P.length y)[j]? =some v->∀{W':World},Eqw W W'->Ld Tryz.prog t W' (Addr.add ⟨z.ub,0,none⟩ j) v:=λ{W M j t v} H m S hj _ e=>by
  rw[add_lit,cZ];exact H.ld e S m hj
 refine AA rfl ⟨_,H.lo nPT,AA rfl ⟨_,d H (.head _) KDq rfl EQ4,AA rfl ⟨_,d H (.head _) rPB rfl EQ4,AA rfl ⟨_,d H (.head _) KDr rfl EQ4,?_⟩⟩⟩⟩;have H1:=H.drew;refine AC (SC (H1.ok (AV tf z.tb X.T) m1)) ?_;rintro _ w1 ⟨af,B,ag,rfl,H2⟩;have C:=H1.AX.zK H2;refine⟨_,rfl,d C m2 KDr rfl EQ4,d C m2 rPB rfl EQ4,d C m2 KDq rfl EQ4,?_⟩;refine AC (Mc z.sb (smC X.S) w1 (C.ok (Asn.Z6 z.sb .i64 (smC X.S)) m3)) ?_;rintro _ w2 ⟨n,rfl,bb,ap,aq⟩
 have H4:=C.add (a':=.Z6 n .i64 (smC X.S)) aq ap (λk hk=>by
  have:k=n:=by simpa [Asn.foot]using hk
  omega)
 refine⟨some n,rfl,d H4 m3 KDr rfl EQ4,d H4 m3 rPB rfl EQ4,?_⟩;refine AC (xClone_spec (H4.ok (Az wf z.wb X.W) m5)) ?_;rintro _ w3 ⟨ah,D,ak,rfl,H5⟩;have H6:=(H4.vN).zK H5;refine⟨_,rfl,d H6 m5 KDr rfl EQ4,?_⟩;refine AC (lMClonePl_spec z.qb (gC Ai X.Q) w3 (H6.ok (Asn.xH z.qb (gC Ai X.Q)) m8)) ?_;rintro _ w4 ⟨p,rfl,bc,ar,av⟩
 have H7:=H6.add (a':=.xH p (gC Ai X.Q)) av ar (λk hk=>by
  have:k=p:=by simpa [Asn.foot]using hk
  omega)
 refine⟨some p,rfl,λF w5 aw=>?_⟩;obtain⟨l,q⟩:∃l:WN,l=⟨0,0,F,ag,n,ak,p⟩:=⟨_,rfl⟩;have H8:=H7.new (cs:=tbC l none 0 0) EQ4 (by rw[q];exact aw);obtain⟨i,H9⟩:=sD H8;obtain⟨Y,hY⟩:∃Y:List Asn,Y=[.blk z.ub (tbC z x X.P.length y) 86,AV af z.tb X.T,.Z6 z.sb .i64 (smC X.S),Az ah z.wb X.W,.xH z.qb (gC Ai X.Q),AV B ag X.T,.Z6 n .i64 (smC X.S),Az D ak X.W,.xH p (gC Ai X.Q)]:=⟨_,rfl⟩
 have J:Hp f w w5 (yO pf x y X.P::.blk F (tbC l none 0 0) 86::yO i none 0 []::Y):=H9.perm (by
  refine AL λff gg K N O U=>?_;simp only[hY,O,N,K,aY,aO,aH];omega)
 refine AA rfl ⟨x,X.P.length,y,d J (t3 (by rw[hY];exact .head _)) pSl rfl EQ4,?_⟩;refine xI.mk (λm s w'=>∃(j:Nat)(pf i:List Nat)(a:Option Addr)(c:Nat)(Z:List Asn),m=X.P.length-j/\j<=X.P.length/\s=(j:Int)/\Hp f w w' (yO pf x y X.P::.blk F (tbC l a j c) 86::yO i a c (X.P.take j)::(Y++Z))) X.P.length ⟨0,pf,i,none,0,[],rfl,om,rfl,by rw[aX];exact J⟩ ?_;rintro m s w6 nx ⟨j,pf,i,a,c,Z,rfl,hj,rfl,H⟩ a0;refine AB (λh1=>?_) (λh1=>?_)
 ·have r:j<X.P.length:=om;obtain⟨R,al⟩:∃R,R=X.P[j]:=⟨_,rfl⟩;have hR:X.P[j]? =some R:=by rw[al];exact aB r
  have am:(X.P.take j).length=j:=by rw[aJ];omega
  obtain⟨pb,g,A,ad,a1,a3,u,H2,aa⟩:=Jg H hR;refine AA a1 ⟨⟨om,h1⟩,_,a3 _ EQ4,a,j,c,H.lo pSl,?_⟩;refine AC (Sl.clone_any pb g _ ⟨u.ok,H2.drew.blk (.head _)⟩) ?_;rintro _ w7 ⟨gb,rfl,C⟩;have H4:=H2.drew.yC C
  have H5:Hp f w w7 (Sl.pgA pb g::A::Sl.pgA gb g::.blk F (tbC l a j c) 86::yO i a c (X.P.take j)::(Y++Z)):=H4.perm (by
   refine AL λff gg K N O U=>?_;simp only[O,N,K,aY,aO,aH];omega)
  obtain⟨an,H6⟩:=aa _ _ _ _ u H5;have ao:X.P.set j R=X.P:=by rw[al];exact lJ r
  rw[ao]at H6;refine⟨_,rfl,H6.lo pSl,λyb w8 a4=>?_⟩;have H7:=H6.nw a4;refine⟨H7.lo pSl,?_⟩
  have H8:Hp f w w8 (.blk yb [.pointer (some ⟨gb,0,none⟩)] 95::Sl.pgA gb g::yO i a c (X.P.take j)::.blk F (tbC l a j c) 86::yO an x y X.P::(Y++Z)):=H7.perm (by
   refine AL λff gg K N O U=>?_;simp only[O,N,K,aY,aO,aH];omega)
  have ab:=Xr (w':=w8) H8 u (by rw[am];omega) EQ4 (G:=λa' n' c' w1=>∃ac,St Tryz.prog 84 w1 ⟨F,3,none⟩ (.slice a' n' c') ac/\gB ((j:Int)+1)/\nx ((j:Int)+1) ac) λa2 c2 f2 w9 H9=>?_
  ·rw[am]at ab;exact ab
  have a5:X.P.take (j+1)=X.P.take j++[R]:=by rw[aG r,al]
  rw[<- a5]at H9;refine Hp.st (o:=3) H9.AX EQ4 pSl rfl rfl (by simp[tbC]) (cs':=tbC l a2 (j+1) c2) (by rw[am];rfl) λbd J=>⟨iR,a0 (X.P.length-(j+1)) _ _ om ⟨j+1,an,f2,a2,c2,Z,rfl,om,rfl,J.perm ?_⟩⟩;refine AL λff gg K N O U=>?_;simp only[O,N,K,aY,aO,aH];omega
 have r:j=X.P.length:=om;rw[r,bJ]at H;have hb:l.ub=F:=by rw[q]
 have a6:l.tb=ag:=by rw[q]
 have a7:l.sb=n:=by rw[q]
 have a8:l.wb=ak:=by rw[q]
 have a9:l.qb=p:=by rw[q]
 have H2:Hp f w w6 (KAg z x y pf af ah X++(KAg l a c i B D X++Z)):=H.perm (by
  refine AL λff gg K N O U=>?_;simp only[KAg,hY,hb,a6,a7,a8,a9,O,N,K,aY,aO,aH];omega)
 obtain⟨f1,C⟩:=H2.D5 (Q:=KDQ z.ub X) ⟨z,x,y,pf,af,ah,rfl,ae,rfl⟩;obtain⟨f2,H4⟩:=(C.perm bP.symm:Hp f w w6 (KAg l a c i B D X++(pkA f1 (KDQ z.ub X)::Z))).D5 (Q:=KDQ F X) ⟨l,a,c,i,B,D,hb,ae,rfl⟩;exact⟨f1,f2,F,rfl,Hp.BM (L:=[_,_]) H4.AX⟩
def KY(h:(xu f b X).ok w):CP 22 #[pq b] w λe w'=>∃g p j,e=Ej (pq j)/\Hp f w w' [xu g b X,AV p j X.T]:=by
 apply Jcz;have q:Hp f w w [xu f b X]:=BU h;obtain⟨M,⟨z,l,m,n,r,o,rfl,i,rfl⟩,H,_⟩:=q.unpack;rw[aX]at H;refine AA rfl ⟨_,H.lo nPT,AC (SC (H.ok (AV r z.tb X.T) m1)) ?_⟩;rintro _ s ⟨a,c,d,rfl,t⟩;have u:=H.AX.zK t
 have x:Hp f w s (KAg z l m n a o X++[AV c d X.T]):=u.perm (by
  refine AL λff F y A B C=>?_;simp only[KAg,B,A,y,aY,aO,aH];omega)
 obtain⟨g,D⟩:=x.D5 (Q:=KDQ z.ub X) ⟨z,l,m,n,a,o,rfl,i,rfl⟩;exact⟨_,rfl,g,c,d,rfl,D⟩
def Vm(h:(xu f b X).ok w)(id:Int):CP 27 #[pq b,I id] w λe w'=>e=Ej (.tuple #[spV ((xm X.S id).getD (0,0)),.bool (xm X.S id).isSome])/\Hp [] w w' []:=by
 apply Jcw;obtain⟨M,⟨z,n,o,u,x,A,rfl,p,rfl⟩,q,_⟩:=E5 h;have i:=Hp.Cb q;have r:Blk w z.ub (tbC z n X.P.length o) 86:=i.blk (.head _);have s:MapAt (Dn .i64) w z.sb (smC X.S):=i.ok _ m2;intro B C c;have H:=(Hp.start w).nw c;obtain⟨y,j⟩:∃y:Sp,y=(xm X.S id).getD (0,0):=⟨_,rfl⟩
 have d:(xZ (smC X.S) id).getD (.agg #[I 0,I 0])=.agg #[I y.1,I y.2]:=by
  rw[Kq,j];cases xm X.S id<;>rfl
 have a:=(MJ I4 (s.chg H.chg (by simp)) id).2;rw[d]at a;refine AA rfl ⟨some z.sb,by rw[add_lit];exact(r.chg H.chg (by simp)).ld KDq.agg rfl,y.1,y.2,_,a,λD F g=>?_⟩;have t:=H.nw g;refine Hp.stA t EQ4 Fz rfl rfl (by simp) rfl λG l=>?_;refine⟨y.1,y.2,l.loA Fz,?_⟩;refine Hp.stA l.AX EQ4 Fz rfl rfl (by simp) rfl λJ m=>?_;refine⟨y.1,y.2,m.loA Fz,?_,m.drop.drop⟩;rw[Kq,lG,<- j];rfl
end
end
end Go.Proofs.YtljenkbpnioipaaGreat
namespace Go.Nod
theorem OQ(v:Int):∀(A:List Rw)(o:Int),Eb v o A=o\/∃(k:Nat)(r:Rw),A[k]? =some r/\Eb v o A=r.id
 | [],o=>.inl rfl
 |x::A,o=>by
  rw[Eb];split
  ·rcases OQ v A x.id with h|⟨k,r,a,c⟩
   ·exact .inr ⟨0,x,rfl,h⟩
   exact .inr ⟨k+1,r,a,c⟩
  rcases OQ v A o with h|⟨k,r,a,c⟩
  ·exact .inl h
  exact .inr ⟨k+1,r,a,c⟩
theorem Xa{L:List Rw}{n:Nat}:AY L n=0\/∃(k:Nat)(r:Rw),k<n/\L[k]? =some r/\AY L n=r.id:=by
 rw[AY];cases e:L[n]? with
 |none=>exact .inl rfl
 |some r=>
  rcases OQ r.level (L.take n) 0 with h|⟨k,d,a,g⟩
  ·exact .inl h
  have c:k<n:=by
   have:=(aA.1 a).1;rw[aJ]at this;omega
  rw[bn c]at a;exact .inr ⟨k,d,c,a,g⟩
def Uf(T:Tr)(i:Int):Int:=match atR T.L i with
 |none=>0
 |some (n,_)=>AY T.L n
noncomputable def QU(T:Tr)(top:Int):Nat->Int->Bool
 |0,i=>decide (i=top)
 |f+1,i=>if i=0\/i=top then decide (i=top)else QU T top f (Uf T i)
def rank(T:Tr)(i:Int):Nat:=match atR T.L i with
 |none=>if i=0 then 0 else 1
 |some (n,_)=>n+2
noncomputable def VP(T:Tr)(i top:Int):Bool:=QU T top (T.L.length+2) i
theorem rank_le(T:Tr)(i:Int):rank T i<=T.L.length+1:=by
 rw[rank];cases e:atR T.L i with
 |none=>dsimp only;split<;>omega
 |some p=>
  obtain⟨n,r⟩:=p;dsimp only;rw[atR]at e;cases e2:EI T.L i with
  |none=>rw[e2]at e;cases e
  |some k=>
   rw[e2]at e;dsimp only at e;cases e3:T.L[k]? with
   |none=>rw[e3]at e;cases e
   |some a=>
    rw[e3]at e;cases e;have:=(aA.1 e3).1;omega
theorem uz{L:List Rw}{i:Int}{n:Nat}{r:Rw}(h:atR L i=some (n,r)):L[n]? =some r/\r.id=i:=by
 rw[atR]at h;cases e2:EI L i with
 |none=>rw[e2]at h;cases h
 |some k=>
  rw[e2]at h;dsimp only at h;cases e3:L[k]? with
  |none=>rw[e3]at h;cases h
  |some c=>
   rw[e3]at h;cases h;refine⟨e3,?_⟩;rw[EI]at e2;obtain⟨d,a,_⟩:=kZ.1 e2;have:=(aA.1 e3).2;rw[this]at a;exact of_decide_eq_true a
theorem Am.rank_par{F:Fo}{T:Tr}(G:Am F T){i:Int}(h:i≠0):rank T (Uf T i)<rank T i:=by
 have c:=G.Kr
 have j:atR T.L 0=none:=by
  cases e:atR T.L 0 with
  |none=>rfl
  |some p=>
   obtain⟨n,r⟩:=p;obtain⟨a,d⟩:=uz e
   have l:r.id∈ids F:=by
    rw[<- BK F 0,G.fl];exact aU.2 ⟨r,aC a,rfl⟩
   have:=(G.pos _ l).1;omega
 have g:rank T 0=0:=by rw[rank,j];rfl
 rw[Uf];cases e:atR T.L i with
 |none=>
  rw[g,rank,e];dsimp only;rw[if_neg h];omega
 |some p=>
  obtain⟨n,r⟩:=p;dsimp only;have m:rank T i=n+2:=by rw[rank,e]
  rw[m];rcases Xa with a|⟨k,o,q,a,d⟩
  ·rw[a,g];omega
  rw[d,rank,qP c a];dsimp only;omega
theorem Rn(T:Tr)(a:Int):∀(f:Nat)(i:Int),i=0\/i=a->QU T a f i=decide (i=a)
 |0,i,_=>rfl
 |f+1,i,h=>by rw[QU,if_pos h]
end Go.Nod
namespace Go.Proofs.YtljenkbpnioipaaGreat
noncomputable section
open Go Go.Vc Go.Nod
structure Cg where
 page:Int
 slot:Int
 s:BA
 gone:Bool
def cgC(c:Cg):LV:=[I c.page,I c.slot,.string c.s,.bool c.gone]
def xy(l:List Cg):LV:=l.flatMap cgC
def NG(l:List Cg)(c:Cg):xy (l++[c])=xy l++cgC c:=by simp[xy]
theorem MI(l:List Cg):(xy l).length=l.length*4:=by
 induction l with
 |nil=>rfl
 |cons p r a=>simp only[xy,bW,aF,cgC,aK,dK]at a⊢;omega
theorem NF:∀{l:List Cg}{k:Nat}{p:Cg},l[k]? =some p->((xy l).drop (k*4)).take 4=cgC p
 |x::r,0,p,h=>by simp at h;subst h;rfl
 |x::r,k+1,p,h=>by
  rw[bI]at h;rw[di];rw[iG,<- dS];exact NF h
def KFE:Elt PP 39 55 4 40:=DU (by kernel_rfl)
def mund:PP.underlying 39=some (.slice 55):=by kernel_rfl
def KDn:Agg PP 55 4:=DN (by kernel_rfl)
def Hr(n:Nat)(R:Sl.xR):List Cg:=R.map λp=>⟨n,p.1,bts p.2,false⟩
def FO:Nat->List Sl.xR->List Cg
 |_,[]=>[]
 |n,R::r=>Hr n R++FO (n+1) r
def BJ(P:List Sl.xR):List Cg:=FO 0 P
theorem KN(R:Sl.xR):∀(P:List Sl.xR)(n:Nat),FO n (P++[R])=FO n P++Hr (n+P.length) R
 | [],n=>by simp[FO]
 |x::r,n=>by
  rw[aH,FO,KN R r (n+1),FO,ax,aK,show n+1+r.length=n+(r.length+1) by omega]
def rep_len{g:Sl.Pg}{R:Sl.xR}{st:Nat}(h:Sl.Rep g R st):R.length<=120:=by
 have a:=h.TC;have c:=Sl.TT g g.many;rw[a,aQ]at c;have:=h.ok.many;omega
section
variable{f:List Nat}{b:Nat}{X:Tab}{w:World}
def Gq(h:(xu f b X).ok w):CP 17 #[pq b] w λe w'=>∃a c,e=Ej (.slice a (BJ X.P).length c)/\Hp [] w w' [.own 55 4 a (BJ X.P).length c (xy (BJ X.P))]:=by
 apply Jcv;obtain⟨M,⟨z,G,J,pf,tf,wf,rfl,K,rfl⟩,hs,_⟩:=E5 h;have ab:X.P.length<=4096:=K.st.len;have Hs:=Hp.Cb hs;have hb:Blk w z.ub (tbC z G X.P.length J) 86:=Hs.blk (.head _);have N:(yO pf G J X.P).ok w:=Hs.ok _ m4;refine AA rfl ⟨G,X.P.length,J,by rw[add_lit];exact hb.ld pSl.agg rfl,?_⟩;refine xI.mk (λm s w'=>∃(j:Nat)(a:OA)(c:Nat)(A:List Asn),m=X.P.length-j/\j<=X.P.length/\s=((a,(FO 0 (X.P.take j)).length,c),(j:Int))/\(FO 0 (X.P.take j)).length<=120*j/\Hp [] w w' (.own 55 4 a (FO 0 (X.P.take j)).length c (xy (FO 0 (X.P.take j)))::A)) X.P.length ⟨0,none,0,[],rfl,om,rfl,by simp[FO],(Hp.start w).yS 55 4⟩ ?_;rintro m s w1 nx ⟨j,a,c,A,rfl,hj,rfl,u,H⟩ O;refine AB (λh1=>?_) (λh1=>?_)
 ·have l:j<X.P.length:=om;obtain⟨R,x⟩:∃R,R=X.P[j]:=⟨_,rfl⟩;have hR:X.P[j]? =some R:=by rw[x];exact aB l
  have T:(X.P.take j).length=j:=by rw[aJ];omega
  have r:X.P.take (j+1)=X.P.take j++[R]:=by rw[aG l,x]
  obtain⟨pb,g,ad,U,d,t⟩:=vK N hR;have ac:=rep_len d;refine AA U ⟨⟨om,h1⟩,_,(t _ H.chg).1,AC (Sl.slots_any d (t _ H.chg).2) ?_⟩;rintro _ w2 ⟨sa,sc,rfl,H2⟩;have H3:=(H.yC H2).AX;refine⟨_,_,_,rfl,?_⟩;obtain⟨n,o⟩:∃n,n=FO 0 (X.P.take j):=⟨_,rfl⟩;rw[<- o]at H3 u⊢;refine xI.mk (λm s w'=>∃(i:Nat)(a:OA)(c:Nat)(A:List Asn),m=R.length-i/\i<=R.length/\s=((a,n.length+i,c),(i:Int))/\Hp [] w w' (.own 55 4 a (n.length+i) c (xy (n++Hr j (R.take i)))::.own 3 1 sa R.length sc (Sl.KCb (R.map (·.1)))::A)) R.length ⟨0,a,c,A,rfl,om,rfl,?_⟩ ?_
  ·have e:n++Hr j (R.take 0)=n:=by simp[Hr]
   rw[e];exact H3
  rintro m s w3 ae ⟨i,a,c,A,rfl,hi,rfl,H⟩ y;dsimp only;refine AB (λh2=>?_) (λh2=>⟨iR,?_⟩)
  ·have q:i<R.length:=om;obtain⟨p,C⟩:∃p,p=R[i]:=⟨_,rfl⟩;have hp:R[i]? =some p:=by rw[C];exact aB q
   have Y:(Sl.KCb (R.map (·.1)))[i]? =some (I (p.1:Int)):=by rw[Sl.KCb,au,au,hp];rfl
   obtain⟨af,D,F⟩:=H.ldO EQ4 xK m1 Y;refine AA D ⟨⟨om,h2⟩,_,by rw[aN,bV];exact F,AC (Sl.get_any d (t _ H.chg).2 (p.1:Int)) ?_⟩;rintro _ w4 ⟨rfl,H5⟩;have Z:Sl.lk R (p.1:Int)=some p.2:=Sl.rM d.sorted (aC hp);rw[Z];refine⟨bts p.2,true,rfl,λyb w5 aa=>?_⟩;have H6:=(H.xN H5).nw aa;refine Hp.app KFE om H6.AX EQ4 (Blk.src mund (H6.blk (.head _)) rfl rfl) (by simp only[maxLen];omega) om ?_;intro a2 c2 w6 H7;refine⟨iR,y (R.length-(i+1)) _ _ om ⟨i+1,a2,c2,.blk yb (cgC ⟨j,p.1,bts p.2,false⟩) 55::A,rfl,om,rfl,?_⟩⟩
   have e:n++Hr j (R.take (i+1))=(n++Hr j (R.take i))++[⟨j,p.1,bts p.2,false⟩]:=by
    rw[aG q,<- C,Hr,Hr,ai,ax];rfl
   rw[e,NG];exact H7.perm ((List.Perm.swap _ _ _).cons _)
  have q:i=R.length:=om;subst q;rw[bJ]at H;refine O (X.P.length-(j+1)) _ _ om ⟨j+1,a,c,.own 3 1 sa R.length sc (Sl.KCb (R.map (·.1)))::A,rfl,om,?_,?_,?_⟩
  ·rw[r,KN,<- o,aF,Hr,aQ];rfl
  ·rw[r,KN,<- o,aF,Hr,aQ];omega
  rw[r,KN,<- o,T,cZ,aF,show(Hr j R).length=R.length from aQ _];exact H
 have l:j=X.P.length:=om;rw[l,bJ]at H⊢;exact⟨a,c,rfl,Hp.BM H⟩
end
section
variable{B:List Nat}{w0 w:World}{L:List Asn}
def nBelow_spec(A t:Nat)(cs:LV)(D:TypeId)(G:cs[0]? =some (pq t))(g:Nq)(T:Tr)(i d:Int)(H:Hp B w0 w (AV g t T::.blk A cs D::L)):
  CP 55 #[pq A,I i,I d] w λe w'=>∃J,e=Ej (.bool (VP T i d))/\Hp B w0 w' (AV J t T::.blk A cs D::L):=by
 apply Jb6
 obtain⟨F,K⟩:∃F,Am F T:=by
  obtain⟨F,_,_,K,_⟩:=FD (H.ok (AV g t T) (.head _));exact⟨F,K⟩
 have Y:=rank_le T i;refine xI.mk (λm s w'=>∃(k:Nat)(j:Int)(g:Nq),m=rank T j/\s=j/\rank T j<=k/\QU T d k j=VP T i d/\Hp B w0 w' (AV g t T::.blk A cs D::L)) (rank T i) ⟨T.L.length+2,i,g,rfl,rfl,om,rfl,H⟩ ?_;rintro m s w1 nx ⟨k,j,g,rfl,rfl,hk,o,H⟩ u;refine AQ (λC=>AQ (λM=>?_) (λM=>?_)) (λC=>?_)
 ·have l:=K.rank_par C;obtain⟨k,rfl⟩:∃Z,k=Z+1:=⟨k-1,om⟩;rw[QU,if_neg (by rintro(h|h);exact C h;exact M h)]at o;refine AA rfl ⟨_,H.ld EQ4 nPT m1 G,AC (QR (H.ok (AV g t T) (.head _)) s) ?_⟩;rintro _ w2 ⟨y,⟨N,rfl,O⟩|⟨n,r,a,c,kd,N,rfl,h4,O⟩⟩
  ·have R:=H.zK O;have p:Uf T s=0:=by rw[Uf,N]
   refine⟨0,0,0,0,⟨#[]⟩,⟨#[]⟩,none,0,0,false,rfl,λyb w3 q=>?_⟩;have U:=R.nw q;refine Hp.stA U EQ4 LG rfl rfl (by simp) rfl λw4 z=>?_;refine⟨0,z.lo xK,?_⟩;rw[p]at l o;exact u (rank T 0) _ _ l ⟨k,0,y,rfl,rfl,om,o,z.drop⟩
  have R:=H.zK O;have p:Uf T s=AY T.L n:=by rw[Uf,N]
  refine⟨s,AY T.L n,r.x.kind,kd,r.x.name,r.x.text,a,r.x.FP.length,c,true,rfl,λyb w3 q=>?_⟩;have U:=R.nw q;refine Hp.stA U EQ4 LG rfl rfl (by simp) rfl λw4 z=>?_;refine⟨AY T.L n,z.lo xK,?_⟩;rw[p]at l o;exact u (rank T (AY T.L n)) _ _ l ⟨k,AY T.L n,y,rfl,rfl,om,o,(z.drop.AX).drop⟩
 ·exact⟨g,by rw[<- o,Rn T d k s (.inr M)],H⟩
 exact⟨g,by rw[<- o,Rn T d k s (.inl C)],H⟩
end
end
end Go.Proofs.YtljenkbpnioipaaGreat
namespace Go.Vc
open Go Go.Sort Go.Proofs
theorem BZ{α:Type}(enc:α->LV){k:Nat}(a:∀x,(enc x).length=k)(l:List α):(l.flatMap enc).length=l.length*k:=by
 induction l with
 |nil=>simp
 |cons x r b=>rw[bW,aF,b,a,aK,di];omega
section
variable{α:Type}[Inhabited α]
theorem flat_get(enc:α->LV){k:Nat}(a:∀x,(enc x).length=k)(b:0<k):∀(l:List α)(t:Nat),t<l.length*k->(l.flatMap enc)[t]? =some ((enc (l[t/k]!))[t%k]!)
 | [],t,h=>by simp at h
 |x::r,t,h=>by
  rw[bW];by_cases d:t<k
  ·rw[bQ (by rw[a];exact d),Nat.div_eq_of_lt d,lQ d];have:t<(enc x).length:=by rw[a];exact d
   rw[aB this];simp[this]
  obtain⟨u,rfl⟩:∃u,t=k+u:=⟨t-k,om⟩
  have f:u<r.length*k:=by
   rw[aK,di]at h;omega
  have i:=flat_get enc a b r u f;rw[bg (by rw[a];omega),a,gq,i];have j:(k+u)/k=u/k+1:=by rw[Nat.add_div_left _ b]
  have m:(k+u)%k=u%k:=by rw[Nat.add_mod_left]
  rw[j,m];have o:u/k<r.length:=Nat.div_lt_of_lt_mul (by rw[jk];exact f);simp[o]
def Vz(enc:α->LV){k:Nat}(b:∀x,(enc x).length=k)(a:0<k)(l:List α)(t:Nat)(h:t<l.length*k):(l.flatMap enc)[t]? =some (flatK enc k l.toArray)[t]! :=by
 rw[flat_get enc b a l t h,get_flatK enc k _ t (by simpa using h)];simp
variable{B:List Nat}{w0 w:World}{L:List Asn}{e:TypeId}{c n g:Nat}{l:List α}
def Hp.sorted(enc:α->LV){k:Nat}(f:∀x,(enc x).length=k)(o:0<k)(H:Hp B w0 w (.own e k (Pq g) n c (l.flatMap enc)::L))(i:n=l.length):
  HoldsK enc k w g 0 l.toArray/\g<w.heap.size/\∀(m:Nat)(d:Array Obj)(l':List α),l'.length=l.length->Hp B w0 (sortWorldK enc k w g 0 m l'.toArray d) (.own e k (Pq g) n c (l'.flatMap enc)::L):=by
 have X:Own w 0 e k (Pq g) n c (l.flatMap enc):=H.xh (.head _);rcases X.2 with⟨h,_⟩|⟨g',a,A,C,hb,y,O,R,Y,T,Z⟩
 ·cases h
 cases C;have p:=(bK.1 y).1;have D:n*k<=a.size:=fJ (dF k R) T;refine⟨λj z=>?_,p,λm d l' b=>?_⟩
 ·rw[size_flatK]at z;have q:j<l.length*k:=by simpa using z
  have U:=Vz enc f o l j q;rw[<- Z,bn (by rw[i];exact q)]at U;have F:j<a.size:=by rw[i]at D;omega
  have G:=O j F;obtain⟨f1,f2⟩:=A;refine⟨?_,?_⟩
  ·simp only[cZ,World.cell?,y,id];simpa using U
  simpa [World.frozen?,y,cZ]using G
 have r:(sortWorldK enc k w g 0 m l'.toArray d).heap[g]? =some (.cells (putCells id 0 (flatK enc k l'.toArray) a) e A):=by
  show((w.heap.modify g (onCells (putCells id 0 (flatK enc k l'.toArray))))++d)[g]? =_;rw[iY (by rw[jZ];exact p),eQ,if_pos rfl,y];rfl
 have s:Chg [g] w (sortWorldK enc k w g 0 m l'.toArray d):=by
  refine⟨rfl,rfl,rfl,?_,λj z J=>?_⟩
  ·show w.heap.size<=((w.heap.modify g (onCells (putCells id 0 (flatK enc k l'.toArray))))++d).size;rw[kG,jZ];omega
  show((w.heap.modify g (onCells (putCells id 0 (flatK enc k l'.toArray))))++d)[j]? =_;rw[iY (by rw[jZ];exact z),eQ,if_neg (by intro h;exact J (by simp[h]))]
 have u:(putCells id 0 (flatK enc k l'.toArray) a).size=a.size:=by simp[putCells]
 refine H.set (a':=.own e k (Pq g) n c (l'.flatMap enc)) s ?_ (λk f=>.inl f);refine⟨by rw[BZ enc f,b,i],.inr ⟨g,_,A,rfl,bZ _,r,by rw[u];exact O,R,Y,by rw[u];exact T,?_⟩⟩;apply dN;intro t;by_cases K:t<n*k
 ·rw[bn K,Vz enc f o l' t (by rw[b,<- i];exact K)];have M:t<a.size:=om;have N:t<(flatK enc k l'.toArray).size:=by rw[size_flatK];simp;rw[b,<- i];exact K
  rw[putCells];simp only[jQ,oL,fB M,dG,cZ,bZ,true_and,kN,id];rw[if_pos N]
 rw[bC (by rw[aJ];omega),bC (by rw[BZ enc f,b,<- i];omega)]
def PM{w w1 a:Wq}{b d:Obj}{b1 f:Nat}(h:New w b b1 w1)(i:New w1 d f a):a=grow (w.drewN 0) #[b,d]:=by
 obtain⟨rfl,rfl⟩:=h;obtain⟨rfl,rfl⟩:=i;simp only[World.alloc,grow,World.drewN,Nat.add_zero];congr 1
end
end Go.Vc
namespace Go.Proofs.YtljenkbpnioipaaGreat
noncomputable section
open Go Go.Vc Go.Nod Go.Proofs Go.RowKit Go.Sort Go.Shelf
def KAc(P:List Sl.xR)(p:Pl):Option (LU):=if(P.length:Int)<=p.1 then none else Sl.lk (Aj P p.1.toNat) p.2
def KBP(P:List Sl.xR)(p:Pl):BA:=bts ((KAc P p).getD [])
def XU{w:Wq}(d:Nat)(cs:LV)(q:TypeId)(r:Blk w d cs q){pa:OA}{pc:Nat}{pf:Nq}{P:List Sl.xR}(s:cs[3]? =some (.slice pa P.length pc))(f:(yO pf pa pc P).ok w)(p:Pl)(u:0<=p.1):
  CP 117 #[pq d,Ai p] w λe w'=>e=Ej (.tuple #[.string (KBP P p),.bool (KAc P p).isSome])/\Hp [] w w' []:=by
 apply Jcf
 have a:∀{W:Wq},Chg [] w W->Ld PP 84 W (Addr.add ⟨d,0,none⟩ 3) (.slice pa P.length pc):=λh=>by
  rw[add_lit];exact(r.chg h (by simp)).ld pSl.agg (by rw[cZ];exact s)
 intro x y i;have H:=(Hp.start w).nw i;refine⟨p.1,H.lo xK,AA rfl ⟨pa,P.length,pc,a H.drew.chg,AB (λj=>⟨?_,H.drew.drop⟩) (λj=>?_)⟩⟩
 ·rw[KBP,KAc,if_pos j];rfl
 obtain⟨n,m⟩:∃n:Nat,p.1=(n:Int):=⟨p.1.toNat,om⟩;obtain⟨R,o⟩:∃R,P[n]? =some R:=⟨_,aB om⟩;obtain⟨z,g,A,l,b,c⟩:=vK f o;refine AA rfl ⟨pa,P.length,pc,a H.drew.drew.chg,p.1,H.lo xK,AA l ⟨⟨om,om⟩,_,by rw[m,aN];exact(c _ H.drew.drew.chg).1,p.2,H.lo xK,AC (Sl.get_any b (c _ H.drew.drew.chg).2 p.2) ?_⟩⟩;rintro _ C ⟨rfl,t⟩;refine⟨_,_,rfl,?_,(H.drew.drew.xN t).drop⟩;rw[KBP,KAc,if_neg j,m,aN,Aj,o];rfl
def Dj(old new:List Sl.xR)(p:Pl):Option Cg:=
 if¬(KBP old p=KBP new p/\(KAc old p).isSome=(KAc new p).isSome)then some ⟨p.1,p.2,KBP new p,!(KAc new p).isSome⟩else none
def CU(c:Cg):Int:=c.page*120+c.slot
def QE(l:List Cg):List Cg:=l.mergeSort λa b=>decide (CU a<=CU b)
def CJ(old new:List Sl.xR)(D:DM):List Cg:=QE ((D.map (·.1)).filterMap (Dj old new))
def InS(c:Cg):Prop:=0<=c.page/\c.page<4096/\0<=c.slot/\c.slot<120
def cfC(x y:Cg):Int:=(x.page-y.page)*120+x.slot-y.slot
def nChanges1_ex(W:Wq)(x y:Cg)(d:InS x)(f:InS y):CP 119 #[.agg (cgC x).toArray,.agg (cgC y).toArray] W λe w'=>e=Ej (I (cfC x y))/\∃q c,w'=grow (W.drewN q) c:=by
 apply Jca;intro g h a i j b;have H:=((Hp.start W).nw a).nw b;obtain⟨l,m,n,o⟩:=d;obtain⟨p,r,s,t⟩:=f;refine⟨x.page,H.lo xK,y.page,H.lo xK,iR,iR,x.slot,H.lo xK,iR,y.slot,H.lo xK,iR,?_⟩;exact⟨rfl,0,_,PM a b⟩
def nagg4:∀w,(isAgg 55).run PP w=.ok true w:=λw=>Ih KDn.agg w
def nsize4:∀w,(Go.sizeOf 55).run PP w=.ok 4 w:=λw=>yI KDn.size w
def FZ(l:List Cg):(QE l).Perm l:=gW l _
def VC(l:List Cg):(QE l).Pairwise λa b=>CU a<=CU b:=by
 have d:=fV (le:=λa b=>decide (CU a<=CU b)) (λa b c d e=>by simp only[decide_eq_true_eq]at*;omega) (λa b=>by simp;omega) l;exact d.imp λh=>by simpa using h
def V4{l l':List Cg}(o:l'.Perm l)(r:l'.Pairwise λa b=>CU a<=CU b)(p:l.Pairwise λa b=>CU a≠CU b):l'=QE l:=by
 have m:∀a b,a∈l->b∈l->CU a=CU b->a=b:=λa b m s e=>by
  obtain⟨i,q⟩:=bD m;obtain⟨j,n⟩:=bD s;obtain⟨c,d⟩:=aA.1 q;obtain⟨f,g⟩:=aA.1 n;rcases nK i j with h|h|h
  ·exact absurd e (by rw[<- d,<- g];exact dE.1 p i j c f h)
  ·subst h;rw[q]at n;exact Option.some.inj n
  exact absurd e.symm (by rw[<- d,<- g];exact dE.1 p j i f c h)
 refine dh (le:=λa b=>CU a<=CU b) (λa b t u x y=>m a b (o.mem_iff.1 t) ((FZ l).mem_iff.1 u) (Int.le_antisymm x y)) r (VC l) (o.trans (FZ l).symm)
section
variable{B:List Nat}{w0 w:World}{L:List Asn}
def nSort_spec(l:List Cg)(a:OA)(c:Nat)(s:∀x∈l,InS x)(hn:l.Pairwise λa b=>CU a≠CU b)(ab:l.length<=1000000)(H:Hp B w0 w (.own 55 4 a l.length c (xy l)::L)):
  CP 118 #[.slice a l.length c,.func (.func 119) #[] #[]] w λe w'=>e=Ej (.tuple #[])/\Hp B w0 w' (.own 55 4 a l.length c (xy (QE l))::L):=by
 by_cases p:l=[]
 ·subst p;have:=AnyF.slices_SortFunc_none (ρ:=KFZ) {sfCL with} a c (.func (.func 119) #[] #[]) w;change CP 118 _ _ _ at this;refine Calls.mono this ?_;rintro e w' ⟨rfl,rfl⟩;have e0:QE []=[]:=by rw[QE];simp
  rw[e0];exact⟨rfl,H⟩
 have ho:Own w 0 55 4 a l.length c (xy l):=H.xh (.head _);obtain⟨g,rfl⟩:=ho.D6 (by have:=fC.2 p;omega);obtain⟨x0,r0,J⟩:∃x r,l=x::r:=dX p
 letI:Inhabited {c:Cg//c∈l}:=⟨⟨x0,by rw[J];exact .head _⟩⟩
 obtain⟨d,f⟩:∃d: {c:Cg//c∈l}->LV,d=λx=>cgC x.1:=⟨_,rfl⟩;have hk:∀x,(d x).length=4:=λx=>by rw[f];rfl
 have t:∀x,∀v∈d x,v.oneCell'=true:=λx v K=>by
  rw[f]at K;simp only[cgC,aP,iP,or_false]at K;rcases K with rfl|rfl|rfl|rfl<;>rfl
 have u:∀M:List {c:Cg//c∈l},M.flatMap d=xy (M.map (·.1)):=λM=>by
  rw[f,xy,List.flatMap_map]
 have hH:Hp B w0 w (.own 55 4 (Pq g) l.length c (l.attach.flatMap d)::L):=by
  rw[u,mM];exact H
 obtain⟨A,N,q⟩:=hH.sorted d hk om (by rw[mg]);obtain⟨C,D⟩:∃C: {c:Cg//c∈l}-> {c:Cg//c∈l}->Int,C=λx y=>cfC x.1 y.1:=⟨_,rfl⟩
 have h:∀x y,ltOf C x y=decide (CU x.1<CU y.1):=λx y=>by
  rw[ltOf,D];exact decide_eq_decide.2 (by simp only[cfC,CU];omega)
 have hO:SWO (ltOf C):=⟨λx=>by rw[h];simp,λx y z h1 h2=>by rw[h]at*;simp only[decide_eq_true_eq]at*;omega,λx y z h1 h2=>by rw[h]at*;simp only[decide_eq_false_iff_not]at*;omega⟩
 have O:=AnyQ.slices_SortFunc (ρ:=KFZ) sfCL 4 nagg4 nsize4 d hk t C hO 119 #[] g 0 c l.attach.toArray w
  (enters_of Tryz.func119 (by kernel_rfl) rfl)
  (λm os dk ac x y=>by
   rw[f,D];exact nChanges1_ex _ x.1 y.1 (s _ x.2) (s _ y.2)) A N (by simp;omega)
 change CP 118 _ _ _ at O;simp only[dV,mg]at O;refine Calls.mono O ?_;rintro e w' ⟨rfl,o,n,os,hp,F,rfl⟩;refine⟨rfl,?_⟩;have G:o.size=l.length:=by have:=hp.1;simpa using this
 have R:o.toList.Perm l.attach:=by
  have:=hp.2.2;have e1:o.extract 0 l.length=o:=by rw[<- G];simp
  have e2:l.attach.toArray.extract 0 l.length=l.attach.toArray:=by
   simp;rw[aV (by simp)]
  rw[e1,e2]at this;simpa using this
 have T:(o.toList.map (·.1)).Perm l:=by
  have:=R.map (·.1)
  rwa [mM]at this
 have U:(o.toList.map (·.1)).Pairwise λa b=>CU a<=CU b:=by
  rw[dD,dE];intro i j hi hj X;have Y:j<o.size:=by simpa using hj
  have Z:i<o.size:=by simpa using hi
  have:=F i j (bZ _) X om;rw[h,decide_eq_false_iff_not,getElem!_pos o i Z,getElem!_pos o j Y]at this;simp;omega
 have aa:=V4 T U hn;have hb:=q n os o.toList (by rw[bT,mg];exact G);rw[u,aa,jD]at hb;exact hb
end
end
noncomputable section
open Go Go.Vc Go.Nod
def Hz{old new:List Sl.xR}{p:Pl}{c:Cg}(h:Dj old new p=some c):c.page=p.1/\c.slot=p.2:=by
 rw[Dj]at h;split at h
 ·cases h;exact⟨rfl,rfl⟩
 cases h
def slot_inj{p q:Pl}(b:0<=p.2/\p.2<120)(c:0<=q.2/\q.2<120)(h:p.1*120+p.2=q.1*120+q.2):p=q:=by
 have a:p.1=q.1:=om;exact pY a om
theorem Oe{old new:List Sl.xR}:∀{l:List Pl},l.Nodup->(∀p∈l,0<=p.2/\p.2<120)->(l.filterMap (Dj old new)).Pairwise λa b=>CU a≠CU b
 | [],_,_=>by simp
 |p::l,hn,hs=>by
  rw[bH]at hn;have i:=Oe (old:=old) (new:=new) hn.2 λq f=>hs q (.tail _ f);rw[jK];cases e:Dj old new p with
  |none=>exact i
  |some c=>
   refine bF.2 ⟨λd j=>?_,i⟩;obtain⟨q,f,g⟩:=jO.1 j;obtain⟨m,n⟩:=Hz e;obtain⟨o,r⟩:=Hz g;intro h;simp only[CU,m,n,o,r]at h;have:=slot_inj (hs p (.head _)) (hs q (.tail _ f)) h;exact hn.1 (this▸f)
section
variable{B:List Nat}{w0 w:World}{L:List Asn}
def nChanges_spec(z:WN)(pf:Nq)(pa:OA)(pc:Nat)(P:List Sl.xR)(D:DM)(hD:∀e∈D,0<=e.1.1/\e.1.1<4096/\0<=e.1.2/\e.1.2<120)(aw:(D.map (·.1)).Nodup)(bi:D.length<=1000000)
  (ob:Nat) (n:LV) (opf:Nq) (opa:OA) (opc:Nat) (O:List Sl.xR) (a0:n[3]? =some (.slice opa O.length opc))
  (H:Hp B w0 w (Jh z.db (dC D)::.blk z.xb (wrC z) 112::.blk z.ub (tbC z pa P.length pc) 86::yO pf pa pc P::.blk ob n 86::yO opf opa opc O::L)):
  CP 61 #[pq z.xb,pq ob] w λe w'=>∃a c,e=Ej (.slice a (CJ O P D).length c)/\
   Hp B w0 w' (.own 55 4 a (CJ O P D).length c (xy (CJ O P D))::.blk z.ub (tbC z pa P.length pc) 86::yO pf pa pc P::.blk ob n 86::yO opf opa opc O::L):=by
 apply Jb9;obtain⟨y,d,ad,a1,a3,a4⟩:=TW (H.ok _ (.head _));have H1:Hp B w0 w (yE z.db (.map y d)::_):=H.set (a':=yE z.db (.map y d)) (Chg.refl _ _) (TD ad) (λk hk=>.inl hk);refine AA rfl ⟨some z.db,by rw[add_lit];exact H1.lo KFC,?_⟩;refine Hp.rng H1 EQ4 Uu.und ad λit w1 H2=>?_;obtain⟨l,j⟩:∃l,l=Dj O P:=⟨_,rfl⟩;obtain⟨Y,C⟩:∃Y:List Asn,Y=yE z.db (.map y d)::.blk z.xb (wrC z) 112::.blk z.ub (tbC z pa P.length pc) 86::yO pf pa pc P::.blk ob n 86::yO opf opa opc O::L:=⟨_,rfl⟩;rw[<- C]at H2;have ae:(dC D).map (·.1)=D.map (·.1):=TA _ D
 refine xI.mk (λm s w'=>∃(g:Array Nat)(rs:List (Pl×Value))(f:List Cg)(a:OA)(c:Nat)(X:List Asn),m=(Ey y g).length/\s=(a,f.length,c)/\((Ey y g).map λe=>(e.key,e.val)).Perm (rs.map λp=>(Ai p.1,p.2))/\(∀p∈rs,p.1∈D.map (·.1))/\
  (f++(rs.map (·.1)).filterMap l).Perm ((D.map (·.1)).filterMap l)/\Hp B w0 w' (yE it (.mapIter (some z.db) d g d)::.own 55 4 a f.length c (xy f)::(Y++X))) _ ⟨#[],dC D,[],none,0,[],rfl,rfl,?_,?_,?_,?_⟩ ?_
 ·rw[Ro];have e:y.toList.map (λe=>(e.key,e.val))=(dC D).map λp=>(Ai p.1,p.2):=a1;rw[e]
 ·intro p M;rw[<- ae];exact aU.2 ⟨p,M,rfl⟩
 ·rw[aO,ae]
 ·exact(H2.yS 55 4).perm (by
   refine AL λff gg N T U Z=>?_;have e1:xy []=[]:=rfl;simp only[e1,dK,U,T,N,aY,aO,aH,aX];omega)
 rintro m s w2 nx ⟨g,rs,f,a,c,X,rfl,rfl,af,ag,i,H⟩ ah;dsimp only
 have bh:f.length<=D.length:=by
  have h1:=i.length_eq;have A:=List.length_filterMap_le l (D.map (·.1));rw[aF]at h1;rw[aQ]at A;omega
 have a5:w2.heap[z.db]? =some (.map y d):=by
  have:yE z.db (.map y d)∈yE it (.mapIter (some z.db) d g d)::.own 55 4 a f.length c (xy f)::(Y++X):=.tail _ (.tail _ (aS _ (by rw[C];exact .head _)));exact H.obj this
 refine Hp.nxt H EQ4 a5 a4 a3 (λh1=>?_) (λe w3 he M H3 ak=>?_)
 ·have hr:=Y6 af h1;rw[hr,jC,List.filterMap_nil,aX]at i
  have al:((D.map (·.1)).filterMap l).Pairwise λa b=>CU a≠CU b:=by
   rw[j]
   exact Oe aw λp M=>by
    obtain⟨e,he,rfl⟩:=aU.1 M;exact(hD e he).2.2
  have a6:f.Pairwise λa b=>CU a≠CU b:=(i.pairwise_iff (λh e=>h e.symm)).2 al
  have a7:∀x∈f,InS x:=λx hx=>by
   obtain⟨p,M,am⟩:=jO.1 (i.mem_iff.1 hx);obtain⟨e,he,rfl⟩:=aU.1 M;rw[j]at am;obtain⟨c1,c2⟩:=Hz am;have:=hD e he;exact⟨by rw[c1];exact this.1,by rw[c1];exact this.2.1,by rw[c2];exact this.2.2.1,by rw[c2];exact this.2.2.2⟩
  refine AC (nSort_spec f a c a7 a6 om H.AX) ?_;rintro _ w3 ⟨rfl,H3⟩
  have an:QE f=CJ O P D:=by
   refine V4 ?_ (VC f) (by rw[<- j];exact al);rw[<- j];exact(FZ f).trans i
  have ao:f.length=(CJ O P D).length:=by rw[<- an];exact(FZ f).length_eq.symm
  rw[an,ao]at H3;refine⟨rfl,a,c,by rw[ao],?_⟩
  exact Hp.BM (R:=yE it (.mapIter (some z.db) d g d)::yE z.db (.map y d)::.blk z.xb (wrC z) 112::X) (H3.perm (by
   refine AL λff gg N T U Z=>?_;simp only[C,U,T,N,aY,aO,aH];omega))
 obtain⟨F,⟨p,pv⟩,G,rfl,a8,r,ap⟩:=rest_step (kv:=λp:Pl×Value=>(Ai p.1,p.2)) af M;have ek:e.key=Ai p:=(Prod.ext_iff.1 a8).1;have a9:=ag (p,pv) (by simp);obtain⟨pe,ba,aq⟩:=aU.1 a9;have aa:=hD pe ba;rw[show pe.1=p from aq]at aa;have bj:yE it (.mapIter (some z.db) d (g.push e.born) d)∈yE it (.mapIter (some z.db) d (g.push e.born) d)::.own 55 4 a f.length c (xy f)::(Y++X):=.head _;refine⟨p.1,p.2,e.val,w3,by rw[ek]at ak;exact ak,λyb w4 bb=>?_⟩;have H4:=H3.nw bb;refine Hp.sA H4 hagg (cs':=[I p.1,I p.2]) λw5 H5=>?_;have u:∀{x:Asn},x∈Y->x∈Asn.blk yb [I p.1,I p.2] 101::yE it (.mapIter (some z.db) d (g.push e.born) d)::.own 55 4 a f.length c (xy f)::(Y++X):=λh=>.tail _ (t2 (aS _ h));refine⟨p.1,p.2,H5.loA hagg,?_⟩;refine AC (XU ob n 86 (H5.blk (u (by rw[C];exact .tail _ m3))) a0 (H5.ok (yO opf opa opc O) (u (by rw[C];exact .tail _ m4))) p aa.1) ?_;rintro _ w6 ⟨rfl,H6⟩;have H7:=H5.xN H6;refine⟨_,_,rfl,AA rfl ⟨_,H7.ld (o:=0) (cs:=wrC z) EQ4 rPT (u (by rw[C];exact .tail _ (.head _))) rfl,p.1,p.2,H7.loA hagg,?_⟩⟩;have ab:=H7.drew;refine AC (XU z.ub (tbC z pa P.length pc) 86 (ab.blk (u (by rw[C];exact .tail _ m1))) rfl (ab.ok (yO pf pa pc P) (u (by rw[C];exact .tail _ m2))) p aa.1) ?_;rintro _ w7 ⟨rfl,H8⟩;have H9:=ab.xN H8;refine⟨_,_,rfl,?_⟩;refine xM.mk (λt w'=>w'=w7/\t=dec (¬(KBP O p=KBP P p/\(KAc O p).isSome=(KAc P p).isSome))) ?_ ?_
 ·rintro t bk ⟨hw,rfl⟩;obtain rfl:=hw.symm
  have K:∀q∈F++G,q.1∈D.map (·.1):=λq hq=>ag q (by
   rw[aT]at hq;simp only[aT,aP];exact hq.elim .inl λh=>.inr (.inr h))
  have ar:∀o:Option Cg,l p=o->(((F++(p,pv)::G).map (·.1)).filterMap l).Perm (o.toList++((F++G).map (·.1)).filterMap l):=λo ho=>by
   have h1:((F++(p,pv)::G).map (·.1)).Perm (p::(F++G).map (·.1)):=(bP (a:=(p,pv)) (l₁:=F) (l₂:=G)).map (·.1);refine(h1.filterMap l).trans ?_;rw[jK,ho];cases o<;>exact .refl _
  refine KAl (λA=>?_) (λA=>?_)
  ·have ac:l p=some ⟨p.1,p.2,KBP P p,!(KAc P p).isSome⟩:=by rw[j,Dj,if_pos A]
   refine⟨p.1,H9.lo xK,p.2,H9.lo xK,λub w8 bc=>?_⟩;have av:=H9.new (cs:=cgC ⟨p.1,p.2,KBP P p,!(KAc P p).isSome⟩) EQ4 bc;refine Hp.app KFE om av.ET EQ4 (Blk.src (P:=PP) mund (av.blk (.head _)) rfl rfl) (by simp only[maxLen];omega) om ?_;intro a2 c2 w9 bd;refine ah _ _ _ ap ⟨g.push e.born,F++G,f++[⟨p.1,p.2,KBP P p,!(KAc P p).isSome⟩],a2,c2,.blk ub (cgC ⟨p.1,p.2,KBP P p,!(KAc P p).isSome⟩) 55::.blk yb [I p.1,I p.2] 101::X,rfl,by simp,r,K,?_,bd.perm ?_⟩
   ·refine List.Perm.trans ?_ i;rw[ax];exact((ar _ ac).symm).append_left f
   refine AL λff gg N T U Z=>?_;simp only[NG,aF,aK,dK,cZ,U,T,N,aY,aO,aH];omega
  have ac:l p=none:=by rw[j,Dj,if_neg A]
  refine ah _ _ _ ap ⟨g.push e.born,F++G,f,a,c,.blk yb [I p.1,I p.2] 101::X,rfl,rfl,r,K,?_,H9.perm ?_⟩
  ·refine List.Perm.trans ?_ i;exact((ar _ ac).symm).append_left f
  refine AL λff gg N T U Z=>?_;simp only[U,T,N,aY,aO,aH];omega
 intro J hJ;refine AQ (λA=>hJ _ _ ⟨rfl,DV λh=>A h.1⟩) (λA=>hJ _ _ ⟨rfl,?_⟩);by_cases h3:(KAc O p).isSome=(KAc P p).isSome
 ·rw[<- Bz (λh=>h ⟨A,h3⟩),h3];simp
 rw[<- DV (λh=>h3 h.2)];cases h4:(KAc O p).isSome<;>cases h5:(KAc P p).isSome<;>simp_all
end
end
end Go.Proofs.YtljenkbpnioipaaGreat
namespace Go.Vc
open Go
theorem Gv{α:Type}:∀{l l':List α},l.Nodup->(∀x∈l,x∈l')->l.length<=l'.length
 | [],l',_,_=>bZ _
 |x::l,l',hn,h=>by
  rw[bH]at hn;obtain⟨a,b,rfl⟩:=gI (h x (.head _))
  have:=Gv (l':=a++b) hn.2 λy d=>by
   have c:=h y (.tail _ d);rw[aT,aP]at c;rw[aT];rcases c with c|c|c
   ·exact .inl c
   ·exact(hn.1 (c▸d)).elim
   exact .inr c
  simp at this⊢;omega
def Hp.keep{B:Nq}{w0 w:Wq}{L:List Asn}{a x:Asn}(H:Hp B w0 w (a::L))(d:x∈L):∀W,Chg a.foot w W->x.ok W:=λW f=>by
 have b:=H.ok x (.tail _ d);refine Asn.Ri b λk e=>f.2.2.2.2 k (Asn.Jb b k e) λc=>?_;exact(bF.1 H.sep).1 x d k c e
end Go.Vc
namespace Go.Proofs.YtljenkbpnioipaaGreat
noncomputable section
open Go Go.Vc Go.Nod
theorem Zo{st:WSt}{key s x:BA}(h:x∈(st.put key s).1.Q.map (·.1)):x∈st.Q.map (·.1)\/x=key:=by
 rw[WSt.put]at h;cases e:KAS s.data.toList 4096 0 st.P with
 |mk P o=>
  rw[e]at h;cases o with
  |none=>exact .inl h
  |some p=>
   rw[Ie]at h;split at h
   ·exact .inl h
   rw[aT,aW]at h;exact h
def Zn{st:WSt}{key x:BA}(h:x∈(st.drop key).Q.map (·.1)):x∈st.Q.map (·.1):=((Lc st.Q key).map (·.1)).subset h
def drop_gone{st:WSt}{key:BA}(a:(st.Q.map (·.1)).Nodup):key∉(st.drop key).Q.map (·.1):=by
 refine CY.1 ?_;rw[show(st.drop key).Q=zY st.Q key from rfl,J4 _ _ _ a,if_pos rfl]
def Yx{st:WSt}{R:RM}{key x:BA}(h:x∈(st.one R key).1.Q.map (·.1)):x∈st.Q.map (·.1)\/x=key:=by
 rw[WSt.one]at h;split at h
 ·exact Zo h
 split at h
 ·exact .inl h
 split at h
 ·exact .inl h
 rcases Zo h with h|h
 ·exact .inl (Zn (st:=⟨st.P,st.Q,_⟩) h)
 exact .inr h
theorem OC(R:RM):∀(K:Lj)(st:WSt),(st.Q.map (·.1)).Nodup->((Fp R K st).Q.map (·.1)).Nodup/\∀x,x∈(Fp R K st).Q.map (·.1)->x∈st.Q.map (·.1)/\(x∈K->xP R x≠none)
 | [],st,hn=>⟨hn,λx h=>⟨h,λg=>(by cases g)⟩⟩
 |k::r,st,hn=>by
  rw[Fp];by_cases e:xP R k=none
  ·rw[if_pos e];obtain⟨c,d⟩:=OC R r (st.drop k) (OJ hn k);refine⟨c,λx h=>?_⟩;obtain⟨b,f⟩:=d x h;refine⟨Zn b,λa=>?_⟩;rcases aP.1 a with rfl|a
   ·exact(drop_gone hn b).elim
   exact f a
  rw[if_neg e];obtain⟨c,d⟩:=OC R r st hn;refine⟨c,λx h=>?_⟩;obtain⟨b,f⟩:=d x h;refine⟨b,λa=>?_⟩;rcases aP.1 a with rfl|a
  ·exact e
  exact f a
theorem Xf(R:RM):∀(M:Lj)(st:WSt)(x:BA),x∈(zh R M st).1.Q.map (·.1)->x∈st.Q.map (·.1)\/x∈M
 | [],st,x,h=>.inl h
 |k::r,st,x,h=>by
  rw[zh]at h;split at h
  ·rcases Yx h with h|h
   ·exact .inl h
   exact .inr (h▸.head _)
  rcases Xf R r _ x h with h|h
  ·rcases Yx h with h|h
   ·exact .inl h
   exact .inr (h▸.head _)
  exact .inr (.tail _ h)
def write_keys{R:RM}{st:WSt}(b:(st.Q.map (·.1)).Nodup){x:BA}(h:x∈(EO R st).1.Q.map (·.1)):x∈R.map (·.1):=by
 rcases Xf R _ _ x h with h|h
 ·obtain⟨c,d⟩:=(OC R (Eh (st.Q.map (·.1))) st b).2 x h;have:=d (Dy.2 c);exact az λa=>this (CY.2 a)
 exact Dy.1 h
theorem VZ(R:RM):∀(K:Lj)(st:WSt)(N:Int),DD st N->0<=N->K.Nodup->(∀x∈K,x∈st.Q.map (·.1))->DD (Fp R K st) (N+K.length)
 | [],st,N,h,_,_,_=>h.mono (by simp)
 |k::r,st,N,h,h0,hn,hin=>by
  rw[bH]at hn;rw[Fp];by_cases e:xP R k=none
  ·rw[if_pos e];obtain⟨p,b⟩:∃p,xP st.Q k=some p:=dw.1 λe=>CY.1 e (hin k (.head _));have:=VZ R r (st.drop k) (N+1) (h.drop h0 b) om hn.2 λx a=>V8 h.qn (λe=>hn.1 (e▸a)) (hin x (.tail _ a));exact this.mono (by rw[aK];omega)
  rw[if_neg e];exact(VZ R r st N h h0 hn.2 λx a=>hin x (.tail _ a)).mono (by rw[aK];omega)
theorem uG(R:RM):∀(M:Lj)(st:WSt)(N:Int),DD st N->0<=N->(∀x∈M,x.size<=6)->DD (zh R M st).1 (N+3*M.length)
 | [],st,N,h,_,_=>h.mono (by simp)
 |k::r,st,N,h,h0,hk=>by
  have a:=h.one h0 R (hk k (.head _));rw[zh];split
  ·exact a.mono (by rw[aK];omega)
  exact(uG R r _ (N+3) a om λx b=>hk x (.tail _ b)).mono (by rw[aK];omega)
def ZP{R:RM}{st:WSt}(h:DD st 0)(a:∀e∈R,e.1.size<=6):DD (EO R st).1 (st.Q.length+3*R.length):=by
 have d:=VZ R (Eh (st.Q.map (·.1))) st 0 h om ((Dq _).nodup_iff.2 h.qn) (λx b=>Dy.1 b)
 have c:=uG R (Eh (R.map (·.1))) _ _ d om (λx b=>by
  obtain⟨e,f,rfl⟩:=aU.1 (Dy.1 b);exact a e f)
 rw[Il,Il,aQ,aQ]at c;exact c.mono om
def Ug(s:BA):(Aa s).size<=6:=by
 rw[Aa];split
 ·decide
 split
 ·rw[ng];omega
 split<;>(rw[ng];omega)
theorem Vq(l:Lj):∀(m:RM),(m.map (·.1)).Nodup->((KAI m l).map (·.1)).Nodup:=by
 induction l with
 |nil=>intro m h;exact h
 |cons s r a=>intro m h;exact a _ (Gn h _ _)
theorem layR_key(l:Lj):∀(m:RM),(∀e∈m,e.1.size<=6)->∀e∈KAI m l,e.1.size<=6:=by
 induction l with
 |nil=>intro m h;exact h
 |cons s r b=>
  intro m h;refine b _ λe a=>?_;rcases Jk a with rfl|a
  ·exact Ug s
  exact h e a
theorem layR_len(l:Lj):∀(m:RM),(KAI m l).length<=m.length+l.length:=by
 induction l with
 |nil=>intro m;simp[KAI]
 |cons s r a=>
  intro m;have b:=a (yR m (Aa s) s);have c:=VK m (Aa s) s;rw[aK];show(KAI (yR m (Aa s) s) r).length<=_;omega
theorem VQ:∀(l:Lj)(k:Nat),(Dx k l).length<=l.length
 | [],k=>by simp[Dx]
 |s::r,k=>by
  have:=VQ r (k+1);rw[Dx,aF,aK];split
  ·simp;omega
  simp;omega
def nodeR_len(T:Tr)(S:SM)(W:Lj)(j:Nat):(GM T S W j).length<=34:=by
 rw[GM];split
 ·rw[aQ];exact sV _
 simp
theorem UK(T:Tr)(S:SM)(W:Lj):∀n:Nat,(Di T S W n).length<=34*n
 |0=>by simp[Di]
 |n+1=>by
  have:=UK T S W n;have:=nodeR_len T S W n;rw[Ht,aF];omega
def SA{T:Tr}{S:SM}{W:Lj}(b:T.L.length<=1000)(c:W.length<=4000):(BV T S W).length<=40000:=by
 have a:=layR_len (DY T S W) [];have d:=VQ W 0;have e:=UK T S W T.L.length;rw[BV];simp only[DY,aK,aF,dK,aH]at a⊢;omega
def records_nodup(T:Tr)(S:SM)(W:Lj):((BV T S W).map (·.1)).Nodup:=Vq _ [] .nil
def Ry(T:Tr)(S:SM)(W:Lj):∀e∈BV T S W,e.1.size<=6:=layR_key _ [] (by simp)
def qM(T:Tr)(id:Int):lI:=(T.L.map (·.id)).filter λx=>VP T x id
def Tab.moved(T:Tr)(o:OpP):lI:=if o.kind=3 then qM T o.id else []
def Tab.words(X:Tab)(T:Tr):Lj×Int:=Io X.W (FM (T.L.map yH))
def Tab.spans(X:Tab)(T:Tr)(o:OpP):SM:=Je T X.S (Tab.moved T o)
def Tab.wr(X:Tab)(T:Tr)(o:OpP):WSt×Int:=EO (BV T (X.spans T o) (X.words T).1) ⟨X.P,X.Q,[]⟩
def doP(X:Tab)(o:OpP):Tab×Int×List Cg×Int:=
 if(X.T.xg o).2.2≠0 then(X,0,[],(X.T.xg o).2.2)
 else if(X.words (X.T.xg o).1).2≠0 then(X,0,[],(X.words (X.T.xg o).1).2)
 else if(X.wr (X.T.xg o).1 o).2≠0 then(X,0,[],(X.wr (X.T.xg o).1 o).2)
 else(⟨(X.T.xg o).1,X.spans (X.T.xg o).1 o,(X.words (X.T.xg o).1).1,(X.wr (X.T.xg o).1 o).1.P,(X.wr (X.T.xg o).1 o).1.Q⟩,(X.T.xg o).2.1,CJ X.P (X.wr (X.T.xg o).1 o).1.P (X.wr (X.T.xg o).1 o).1.D,0)
def QL{B:Nq}{w0 w':Wq}{L:List Asn}{F:Fo}{T:Tr}(c:Am F T){ia:OA}{ic:Nat}{ss:List Sl3}(a:KCh (T.L.map Ac) ss)(H:Hp B w0 w' L)(h:Asn.own 123 5 ia T.L.length ic (yK (T.L.map Ac) ss)∈L)(i:∀x∈Bo (T.L.map Ac) ss,x∈L):
  CW [] w' ia T.L.length (T.L.map yH) ss:=by
 have d:=c.len;refine⟨λW j=>?_,by simp only[maxLen];omega,λs l=>?_,λx b=>Y7 (JO (Dl c x b)) (Dl c x b)⟩
 ·have f:=H.KFO j;exact ul (show Own W 0 123 5 ia T.L.length ic (yK (T.L.map Ac) ss)from f.xh h) a (by rw[aQ]) λx b=>f.ok x (i x b)
 obtain⟨k,g⟩:=bD l;have m:=(aA.1 g).1;have n:=a.len;have b:(T.L.map Ac)[k]? =some ((T.L.map Ac)[k]' om):=aB _;have e:=a.att k _ s b g;have:=(DC (Dl c _ (aC b))).1;simp only[maxLen];omega
end
noncomputable section
open Go Go.Vc Go.Nod
def wM:Agg PP 45 7:=DN (by kernel_rfl)
def Xh(f:Nq)(b:Nat)(X:Tab)(o:OpP)(w:Wq)(e:Ending)(w':Wq):Prop:=
 ∃f' a c,e=Ej (.tuple #[I (doP X o).2.1,.slice a (doP X o).2.2.1.length c,I (doP X o).2.2.2])/\Hp f w w' [xu f' b (doP X o).1,.own 55 4 a (doP X o).2.2.1.length c (xy (doP X o).2.2.1)]
def qO{f:Nq}{X:Tab}{o:OpP}{w W:Wq}{z1:WN}{opa:OA}{opc:Nat}{opf otf owf:Nq}{Z:List Asn}{c:Int}(a:Vs X)(b:doP X o=(X,0,[],c))(H:Hp f w W (KAg z1 opa opc opf otf owf X++Z)):
  Xh f z1.ub X o w (Ej (.tuple #[I 0,.slice none 0 0,I c])) W:=by
 rw[Xh,b];obtain⟨d,e⟩:=H.D5 (Q:=KDQ z1.ub X) ⟨z1,opa,opc,opf,otf,owf,rfl,a,rfl⟩;exact⟨d,none,0,rfl,((Hp.BM e).yS 55 4).AX⟩
def Zm{f:Nq}{b:Nat}{X:Tab}{w:Wq}(h:(xu f b X).ok w)(o:OpP)(la:OA)(n lc:Nat)(ss:List Sl3)(hA:CW f w la n o.l ss)(bw:n<=140737488355328)(ht:o.text.size<=maxLen):
  CP 19 #[pq b,.agg (opC o la n lc).toArray] w (Xh f b X o w):=by
 apply Jcc;have aa:=Zw h;intro eb w1 ce;have H1:=(BU h:Hp f w w [xu f b X]).new (cs:=opC o la n lc) EQ4 ce;refine AC (nClone_spec (H1.ok (xu f b X) m1)) ?_;rintro _ w2 ⟨f1,f2,ub,rfl,H2⟩;have H3:=H1.AX.zK H2;obtain⟨M1,⟨N,ab,ac,ah,al,am,rfl,_,rfl⟩,H4,_⟩:=H3.unpack
 have H5:Hp f w w2 (xu f2 ub X::(KAg N ab ac ah al am X++[.blk eb (opC o la n lc) 45])):=H4.perm (by
  refine AL λff gg u A B C=>?_;simp only[B,A,u,aY,aO,aH];omega)
 obtain⟨M2,⟨z,c,g,pf,tf,wf,rfl,_,rfl⟩,H6,_⟩:=H5.unpack;obtain⟨O,hO⟩:∃O,O=KAg N ab ac ah al am X:=⟨_,rfl⟩;rw[<- hO]at H6;have mO:∀{x:Asn}{L1 L2:List Asn},x∈O->x∈L1++(O++L2):=λh=>aI _ (aS _ h);refine⟨_,rfl,AA rfl ⟨_,H6.lo nPT,o.kind,o.id,o.to,o.at_,o.name,o.text,la,n,lc,H6.ldA EQ4 wM (aI _ (aI _ (.head _))) rfl rfl,?_⟩⟩
 have H7:Hp f w w2.drew (AV tf z.tb X.T::.blk z.ub (tbC z c X.P.length g) 86::.Z6 z.sb .i64 (smC X.S)::Az wf z.wb X.W::yO pf c g X.P::.xH z.qb (gC Ai X.Q)::.blk eb (opC o la n lc) 45::(O++[])):=H6.drew.perm (by
  refine AL λff gg u A B C=>?_;simp only[KAg,B,A,u,aY,aO,aH,aX];omega)
 have cf:CW tf w2.drew la n o.l ss:=hA.go H7 λk hk=>BD.2 ⟨AV tf z.tb X.T,.head _,hk⟩;refine AC (UY (H7.ok _ (.head _)) o la n lc ss cf bw ht) ?_;rintro _ w3 ⟨ba,rfl,H8⟩;have H9:=H7.Bg H8;obtain⟨T,hT⟩:∃T,T=(X.T.xg o).1:=⟨_,rfl⟩;rw[<- hT]at H9;have mt:∀{x:Asn}{L1:List Asn},x∈O->x∈L1++O:=λh=>aI _ h;refine⟨_,_,rfl,AQ (λh1=>?_) (λh1=>?_)⟩
 ·refine qO (z1:=N) (opa:=ab) (opc:=ac) (opf:=ah) (otf:=al) (owf:=am) (Z:=[AV ba z.tb T,.blk z.ub (tbC z c X.P.length g) 86,.Z6 z.sb .i64 (smC X.S),Az wf z.wb X.W,yO pf c g X.P,.xH z.qb (gC Ai X.Q),.blk eb (opC o la n lc) 45]) aa (by rw[doP,if_pos h1]) (H9.perm ?_);rw[<- hO];refine AL λff gg u A B C=>?_;simp only[B,A,u,aY,aO,aH,aX];omega
 obtain⟨F,hG⟩:∃F,Am F T:=by
  obtain⟨F,_,_,hG,_⟩:=FD (H9.ok (AV ba z.tb T) (.head _));exact⟨F,hG⟩
 have bx:=hG.len;have b0:∀x∈T.L.map yH,x.x.FP.length<=20:=λx hx=>(DC (Dl hG x hx)).1;obtain⟨nm,bb⟩:∃nm,nm=FM (T.L.map yH):=⟨_,rfl⟩
 have c7:nm.length<=21000:=by
  have h2:=WU (T.L.map yH) b0;have h3:=Zk ((T.L.map yH).flatMap EG);rw[bb,FM,Il];rw[aQ]at h2;omega
 have b1:nm.Pairwise λx y=>x.data.toList<y.data.toList:=by rw[bb];exact I8 (Ti _)
 have c8:WOk X.W:=by
  obtain⟨L,⟨hW,_⟩,_⟩:=E5 (H9.ok (Az wf z.wb X.W) m3);exact hW
 refine xM.mk (λs w'=>∃(an:Nq)(ma:OA)(mc:Nat)(mv:lI)(ZZ:List Asn),s=(ma,mv.length,mc)/\mv=Tab.moved T o/\mv.length<=100000/\Hp f w w' (AV an z.tb T::.blk z.ub (tbC z c X.P.length g) 86::.Z6 z.sb .i64 (smC X.S)::Az wf z.wb X.W::yO pf c g X.P::.xH z.qb (gC Ai X.Q)::.own 3 1 ma mv.length mc (AO mv)::(O++ZZ))) ?_ ?_
 ·clear H9;rintro _ w5 ⟨U,ma,mc,mv,ZZ,rfl,ak,av,HT⟩;have Hd:=HT.drew
  have aw:∀{W:Wq}{M:List Asn}{c:OA}{m g j:Nat}{t:TypeId}{v:Value}{z:WN},Hp f w W M->Asn.blk z.ub (tbC z c m g) 86∈M->Scl PP t->(tbC z c m g)[j]? =some v->∀{W':Wq},Eqw W W'->Ld PP t W' (Addr.add ⟨z.ub,0,none⟩ j) v:=λ{W M c m g j t v z} H m S hj _ e=>by
   rw[add_lit,cZ];exact H.ld (o:=j) (cs:=tbC z c _ g) e S m hj
  refine AA rfl ⟨_,aw Hd m1 rPB rfl EQ4,AA rfl ⟨_,Hd.lo nPT,AA rfl ⟨_,Hd.lo nPT,AC (OW (Hd.ok (AV U z.tb T) (.head _))) ?_⟩⟩⟩;rintro _ _ ⟨rfl,rfl⟩;refine⟨_,rfl,Hd.lo nPT,aw Hd m1 rPB rfl EQ4,AC (MQ (Hd.ok (AV U z.tb T) (.head _))) ?_⟩;rintro _ v1 ⟨ag,ia,ic,ae,rfl,cg,Hi⟩;have H1:=Hd.zK Hi;have ch:∀{x:Asn}{M:List Asn},x∈Bo (T.L.map Ac) ae->x∈AV ag z.tb T::.own 123 5 ia T.L.length ic (yK (T.L.map Ac) ae)::(Bo (T.L.map Ac) ae++M):=λh=>.tail _ (.tail _ (aS _ h));have ci:∀{x:Asn}{M:List Asn},x∈M->x∈AV ag z.tb T::.own 123 5 ia T.L.length ic (yK (T.L.map Ac) ae)::(Bo (T.L.map Ac) ae++M):=λh=>.tail _ (.tail _ (aI _ h));refine⟨_,_,_,rfl,aw H1 (ci (.head _)) rPB rfl EQ4,AC (nNames_spec ia _ ic (T.L.map yH) ae v1 (QL hG cg H1 m1 λx hx=>ch hx) bx b0) ?_⟩;rintro _ v2 ⟨na,nc,rfl,Hn⟩;rw[<- bb]at Hn⊢
  have H2:Hp f w v2 (Az wf z.wb X.W::.own 9 1 na nm.length nc (BN nm)::.blk z.ub (tbC z c X.P.length g) 86::AV ag z.tb T::.Z6 z.sb .i64 (smC X.S)::yO pf c g X.P::.xH z.qb (gC Ai X.Q)::.own 3 1 ma mv.length mc (AO mv)::(O++(.own 123 5 ia T.L.length ic (yK (T.L.map Ac) ae)::(Bo (T.L.map Ac) ae++ZZ)))):=(H1.yC Hn).perm (by
   refine AL λff gg u A B C=>?_;simp only[B,A,u,aY,aO,aH,aX];omega)
  generalize da:(Asn.own 123 5 ia T.L.length ic (yK (T.L.map Ac) ae)::(Bo (T.L.map Ac) ae++ZZ))=Z1 at H2
  refine⟨_,_,_,rfl,aw H2 m2 rPB rfl EQ4,AC (nLearn_spec (H2.ok (Az wf z.wb X.W) (.head _)) na nm.length nc nm (λW' cj=>by
   have:Own W' 0 9 1 na nm.length nc (BN nm):=H2.keep (x:=.own 9 1 na nm.length nc (BN nm)) (.head _) W' cj;exact this.cells) rfl om b1) ?_⟩
  rintro _ v3 ⟨af,rfl,Hl⟩;have H3:=H2.zK Hl;have ck:Io X.W nm=X.words T:=by rw[Tab.words,bb]
  rw[ck]at H3⊢;have cl:∀{x:Asn}{a1 a2 a3 a4 a5 a6 a7 a8:Asn}{M:List Asn},x∈O->x∈a1::a2::a3::a4::a5::a6::a7::a8::(O++M):=λh=>.tail _ (t7 (aS _ h));refine⟨_,rfl,AQ (λh2=>?_) (λh2=>?_)⟩
  ·refine qO (z1:=N) (opa:=ab) (opc:=ac) (opf:=ah) (otf:=al) (owf:=am) (Z:=[Az af z.wb (X.words T).1,.own 9 1 na nm.length nc (BN nm),.blk z.ub (tbC z c X.P.length g) 86,AV ag z.tb T,.Z6 z.sb .i64 (smC X.S),yO pf c g X.P,.xH z.qb (gC Ai X.Q),.own 3 1 ma mv.length mc (AO mv)]++Z1) aa (by rw[doP,if_neg (λhh=>hh h1),<- hT,if_pos h2]) (H3.perm ?_);rw[<- hO];refine AL λff gg u A B C=>?_;simp only[B,A,u,aY,aO,aH,aX];omega
  have cm:WOk (X.words T).1:=by
   obtain⟨L,⟨hW,_⟩,_⟩:=E5 (H3.ok (Az af z.wb (X.words T).1) (.head _));exact hW
  have oS:Asn.Z6 N.sb .i64 (smC X.S)∈O:=by rw[hO];exact .tail _ m1
  have oB:Asn.blk N.ub (tbC N ab X.P.length ac) 86∈O:=by rw[hO];exact .head _
  have H4:Hp f w v3.drew (AV ag z.tb T::.blk z.ub (tbC z c X.P.length g) 86::Az af z.wb (X.words T).1::.Z6 z.sb .i64 (smC X.S)::yO pf c g X.P::.xH z.qb (gC Ai X.Q)::.own 3 1 ma mv.length mc (AO mv)::.own 9 1 na nm.length nc (BN nm)::(O++Z1)):=H3.drew.perm (by
   refine AL λff gg u A B C=>?_;simp only[B,A,u,aY,aO,aH,aX];omega)
  refine AA rfl ⟨_,H4.lo nPT,AA rfl ⟨_,aw H4 (cl oB) KDq rfl EQ4,?_⟩⟩
  have b2:=nLabel_spec (H4.ok (AV ag z.tb T) (.head _)) N.sb X.S ma mv.length mc mv (λW hW=>H4.keep (x:=.Z6 N.sb .i64 (smC X.S)) (t7 (aS _ oS)) W hW) (λW hW=>by
   have:Own W 0 3 1 ma mv.length mc (AO mv):=H4.keep (x:=.own 3 1 ma mv.length mc (AO mv)) m5 W hW;exact this.cells) rfl av
  refine AC b2 ?_;rintro _ v4 ⟨b3,mb,rfl,Hb⟩;have H5:=H4.zK Hb;have cn:Je T X.S mv=X.spans T o:=by rw[Tab.spans,ak]
  rw[cn]at H5;obtain⟨S,hS⟩:∃S,S=X.spans T o:=⟨_,rfl⟩;rw[<- hS]at H5;refine⟨some mb,rfl,AA rfl ?_⟩;rw[add_lit];refine Hp.st (o:=0+1) H5.BF EQ4 KDq rfl rfl (by simp[tbC]) (cs':=[pq z.tb,.map (some mb),pq z.wb,.slice c X.P.length g,.map (some z.qb)]) rfl λv5 H6=>?_;intro db v6 co xb v7 bl;obtain⟨y,hy⟩:∃y:WN,y=⟨xb,db,z.ub,z.tb,mb,z.wb,z.qb⟩:=⟨_,rfl⟩;have H7:=(H6.newP EQ4 co).new (cs:=wrC y) EQ4 (by rw[hy];exact bl)
  have H8:Hp f w v7 (.blk z.ub [pq z.tb,.map (some mb),pq z.wb,.slice c X.P.length g,.map (some z.qb)] 86::AV b3 z.tb T::.Z6 mb .i64 (smC S)::Az af z.wb (X.words T).1::yO pf c g X.P::.xH z.qb (gC Ai X.Q)::Jh db []::.blk xb (wrC y) 112::(O++(.Z6 z.sb .i64 (smC X.S)::.own 3 1 ma mv.length mc (AO mv)::.own 9 1 na nm.length nc (BN nm)::Z1))):=H7.perm (by
   refine AL λff gg u A B C=>?_;simp only[B,A,u,aY,aO,aH,aX];omega)
  generalize dc:(Asn.Z6 z.sb .i64 (smC X.S)::.own 3 1 ma mv.length mc (AO mv)::.own 9 1 na nm.length nc (BN nm)::Z1)=Z2 at H8;refine AC (nRecords_spec z.ub z.tb mb z.wb (.slice c X.P.length g) (.map (some z.qb)) b3 af T S (X.words T).1 H8) ?_;rintro _ v8 ⟨rb,a0,rfl,H9⟩;obtain⟨R,hR⟩:∃R,R=BV T S (X.words T).1:=⟨_,rfl⟩;have dd:R.length<=40000:=by rw[hR];exact SA bx cm.len
  have cp:(R.map (·.1)).Nodup:=by rw[hR];exact records_nodup T S _
  have b4:∀e∈R,e.1.size<=6:=by rw[hR];exact Ry T S _
  rw[<- hR]at H9;have de:=aa.ql
  have bm:Hp f w v8 (wrL y pf c g ⟨X.P,X.Q,[]⟩++(.xH rb (gC rwV R)::AV a0 z.tb T::.Z6 mb .i64 (smC S)::Az af z.wb (X.words T).1::(O++Z2))):=H9.perm (by
   refine AL λff gg u A B C=>?_;have e1:dC []=[]:=rfl;have e2:tbC y c X.P.length g=[pq z.tb,.map (some mb),pq z.wb,.slice c X.P.length g,.map (some z.qb)]:=by rw[hy];rfl
   have e3:y.qb=z.qb/\y.db=db/\y.xb=xb/\y.ub=z.ub:=by rw[hy];exact⟨rfl,rfl,rfl,rfl⟩
   simp only[wrL,e1,e2,e3.1,e3.2.1,e3.2.2.1,e3.2.2.2,B,A,u,aY,aO,aH,aX];omega)
  have cq:(some ⟨xb,0,none⟩:OA)=some ⟨y.xb,0,none⟩:=by rw[hy]
  rw[cq];refine⟨some rb,rfl,AC (nWrite_spec y pf c g ⟨X.P,X.Q,[]⟩ aa.st rb R cp b4 om (show X.Q.length<=1000000 by omega) bm) ?_⟩;rintro _ v9 ⟨a9,G,K,rfl,aq⟩;have bo:EO R ⟨X.P,X.Q,[]⟩=X.wr T o:=by rw[hR,hS];rfl
  rw[bo]at aq⊢;obtain⟨st,bc⟩:∃st,st=(X.wr T o).1:=⟨_,rfl⟩
  have a:DD st (X.Q.length+3*R.length):=by
   rw[bc,<- bo];exact ZP aa.st b4
  have cr:∀x∈st.Q.map (·.1),x∈R.map (·.1):=λx hx=>by
   rw[bc,<- bo]at hx;exact write_keys aa.st.qn hx
  have ct:st.D.length<=1000000:=by
   have h3:st.D.length<=4096*120:=by
    have h4:=Gv (l:=st.D.map (·.1)) (l':=(List.range 4096).flatMap λ(i:Nat)=>(List.range 120).map λ(k:Nat)=>((i:Int),(k:Int))) a.dn λp hp=>by
     obtain⟨e,he,rfl⟩:=aU.1 hp;have h5:=a.d e he;have h6:=a.len;refine fH.2 ⟨e.1.1.toNat,dW.2 om,aU.2 ⟨e.1.2.toNat,dW.2 om,?_⟩⟩;exact pY (by show((e.1.1.toNat:Nat):Int)=e.1.1;omega) (by show((e.1.2.toNat:Nat):Int)=e.1.2;omega)
    rw[aQ,List.length_flatMap]at h4;simp only[aQ,fZ,List.map_const',List.sum_replicate_nat]at h4;exact h4
   omega
  rw[<- bc]at aq;refine⟨_,rfl,AQ (λh3=>?_) (λh3=>?_)⟩
  ·refine qO (z1:=N) (opa:=ab) (opc:=ac) (opf:=ah) (otf:=al) (owf:=am) (Z:=wrL y a9 G K st++(.xH rb (gC rwV R)::AV a0 z.tb T::.Z6 mb .i64 (smC S)::Az af z.wb (X.words T).1::Z2)) aa (by rw[doP,if_neg (λhh=>hh h1),<- hT,if_neg (λhh=>hh h2),if_pos h3]) (aq.perm ?_);rw[<- hO];refine AL λff gg u A B C=>?_;simp only[B,A,u,aY,aO,aH,aX];omega
  have cu:Hp f w v9 (Jh y.db (dC st.D)::.blk y.xb (wrC y) 112::.blk y.ub (tbC y G st.P.length K) 86::yO a9 G K st.P::.blk N.ub (tbC N ab X.P.length ac) 86::yO ah ab ac X.P::(.xH y.qb (gC Ai st.Q)::AV a0 z.tb T::.Z6 mb .i64 (smC S)::Az af z.wb (X.words T).1::(.xH rb (gC rwV R)::AV al N.tb X.T::.Z6 N.sb .i64 (smC X.S)::Az am N.wb X.W::.xH N.qb (gC Ai X.Q)::Z2))):=aq.perm (by
   refine AL λff gg u A B C=>?_;simp only[wrL,hO,KAg,B,A,u,aY,aO,aH,aX];omega)
  refine AC (nChanges_spec y a9 G K st.P st.D (λe he=>by
   have h5:=a.d e he;have h6:=a.len;exact⟨h5.2.2.1,om,h5.2.2.2.2.1,h5.2.2.2.2.2⟩) a.dn ct N.ub (tbC N ab X.P.length ac) ah ab ac X.P rfl cu) ?_
  rintro _ va ⟨ca,cc,rfl,b5⟩;have cv:(some ⟨z.ub,0,none⟩:OA)=some ⟨y.ub,0,none⟩:=by rw[hy]
  rw[cv];refine⟨ca,_,cc,rfl,AA rfl ⟨some ⟨y.tb,0,none⟩,some y.sb,some ⟨y.wb,0,none⟩,G,st.P.length,K,some y.qb,b5.loA lagg,AA rfl ?_⟩⟩;refine Hp.stA b5.ET EQ4 lagg (vs:=tbC y G st.P.length K) rfl rfl (by simp[tbC]) (cs':=tbC y G st.P.length K) rfl λvb cw=>?_;have bp:y.tb=z.tb/\y.sb=mb/\y.wb=z.wb:=by rw[hy];exact⟨rfl,rfl,rfl⟩
  obtain⟨X2,bd⟩:∃X2:Tab,X2=⟨T,S,(X.words T).1,st.P,st.Q⟩:=⟨_,rfl⟩
  have bq:Vs X2:=by
   rw[bd];refine⟨⟨a.len,a.q,a.qn,a.key,λe he=>(by cases he),.nil⟩,?_⟩;have:=Gv a.qn cr;rw[aQ,aQ]at this;show st.Q.length<=500000;omega
  have cx:doP X o=(X2,(X.T.xg o).2.1,CJ X.P st.P st.D,0):=by
   rw[doP,if_neg (λhh=>hh h1),<- hT,if_neg (λhh=>hh h2),if_neg (λhh=>hh h3),bd,bc,hS]
  rw[Xh,cx];obtain⟨y2,bh⟩:∃y2:WN,y2= {y with ub:=N.ub}:=⟨_,rfl⟩
  have cy:Hp f w vb (KAg y2 G K a9 a0 af X2++(.own 55 4 ca (CJ X.P st.P st.D).length cc (xy (CJ X.P st.P st.D))::(.blk y.ub (tbC y G st.P.length K) 86::yO ah ab ac X.P::.xH rb (gC rwV R)::AV al N.tb X.T::.Z6 N.sb .i64 (smC X.S)::Az am N.wb X.W::.xH N.qb (gC Ai X.Q)::Z2))):=cw.perm (by
   refine AL λff gg u A B C=>?_;have e1:tbC y2 G X2.P.length K=tbC y G st.P.length K:=by rw[bh,bd];rfl
   have cz:tbC y2 G st.P.length K=tbC y G st.P.length K:=by rw[bh];rfl
   have e2:y2.ub=N.ub/\y2.tb=z.tb/\y2.sb=mb/\y2.wb=z.wb/\y2.qb=y.qb:=by rw[bh];exact⟨rfl,bp.1,bp.2.1,bp.2.2,rfl⟩
   have e3:X2.T=T/\X2.S=S/\X2.W=(X.words T).1/\X2.P=st.P/\X2.Q=st.Q:=by rw[bd];exact⟨rfl,rfl,rfl,rfl,rfl⟩
   simp only[KAg,e1,cz,e2.1,e2.2.1,e2.2.2.1,e2.2.2.2.1,e2.2.2.2.2,e3.1,e3.2.1,e3.2.2.1,e3.2.2.2.1,e3.2.2.2.2,B,A,u,aY,aO,aH,aX];omega)
  obtain⟨f3,c0⟩:=cy.D5 (Q:=KDQ N.ub X2) ⟨y2,G,K,a9,a0,af,by rw[bh],bq,rfl⟩;exact⟨f3,ca,cc,rfl,Hp.BM (L:=[_,_]) c0⟩
 intro J hJ;refine⟨o.kind,H9.lo xK,AB (λhk=>?_) (λhk=>?_)⟩
 ·have bv:Tab.moved T o=qM T o.id:=by rw[Tab.moved,if_pos hk]
  refine AA rfl ⟨_,H9.lo nPT,AC (JZ (H9.ok (AV ba z.tb T) (.head _))) ?_⟩;rintro _ w4 ⟨c1,oa,oc,rfl,bm⟩;have aq:=H9.zK bm;refine⟨_,_,_,rfl,?_⟩;obtain⟨Z,hZ⟩:∃Z:List Asn,Z=.Z6 z.sb .i64 (smC X.S)::Az wf z.wb X.W::yO pf c g X.P::.xH z.qb (gC Ai X.Q)::.blk eb (opC o la n lc) 45::(O++[.own 3 1 oa T.L.length oc (AO (T.L.map (·.id)))]):=⟨_,rfl⟩;have b6:∀j,j<=T.L.length->((T.L.map (·.id)).take j).length=j:=λj hj=>by rw[aJ,aQ];omega
  refine xI.mk (λq s w'=>∃(j:Nat)(an:Nq)(ma:OA)(mc:Nat)(mv:lI)(Y:List Asn),q=T.L.length-j/\j<=T.L.length/\s=((ma,mv.length,mc),(j:Int))/\mv=((T.L.map (·.id)).take j).filter (λx=>VP T x o.id)/\Hp f w w' (AV an z.tb T::.blk z.ub (tbC z c X.P.length g) 86::.own 3 1 ma mv.length mc (AO mv)::(Z++Y))) T.L.length ⟨0,c1,none,0,[],[],rfl,om,rfl,by simp,(aq.yS 3 1).perm ?_⟩ ?_
  ·refine AL λff gg u A B C=>?_;have e1:AO []=[]:=rfl;simp only[e1,hZ,dK,B,A,u,aY,aO,aH,aX];omega
  rintro q s w5 nx ⟨j,U,ma,mc,mv,Y,rfl,hj,rfl,ao,H⟩ c3;dsimp only
  have c9:mv.length<=j:=by
   rw[ao];exact fJ (jR _ _) (jo (b6 j hj))
  have b7:∀{x:Asn},x∈Z->x∈AV U z.tb T::.blk z.ub (tbC z c X.P.length g) 86::.own 3 1 ma mv.length mc (AO mv)::(Z++Y):=λh=>.tail _ (t2 (aS _ h));refine AB (λh2=>?_) (λh2=>?_)
  ·have bi:j<T.L.length:=om;obtain⟨r,b8⟩:∃r,r=T.L[j]:=⟨_,rfl⟩;have hr:T.L[j]? =some r:=by rw[b8];exact aB bi
   have c4:(AO (T.L.map (·.id)))[j]? =some (I r.id):=by simp[AO,hr]
   have b9:(T.L.map (·.id)).take (j+1)=(T.L.map (·.id)).take j++[r.id]:=by
    rw[aG (by rw[aQ];exact bi)];rw[kM,<- b8]
   obtain⟨ad,c5,c6⟩:=H.ldO (w':=w5) (o:=j) EQ4 xK (b7 (by rw[hZ];exact .tail _ (t4 (aI _ (.head _))))) c4;refine xM.mk (λt w'=>∃(an:Nq)(bj:OA)(bk:Nat)(ar:lI)(Y':List Asn),t=(bj,ar.length,bk)/\ar=((T.L.map (·.id)).take (j+1)).filter (λx=>VP T x o.id)/\Hp f w w' (AV an z.tb T::.blk z.ub (tbC z c X.P.length g) 86::.own 3 1 bj ar.length bk (AO ar)::(Z++Y'))) ?_ ?_
   ·rintro t w6 ⟨an,bj,bk,ar,Y',rfl,h3,h4⟩;exact⟨iR,c3 (T.L.length-(j+1)) _ _ om ⟨j+1,an,bj,bk,ar,Y',rfl,om,rfl,h3,h4⟩⟩
   intro J hJ;refine AA c5 ⟨⟨om,h2⟩,r.id,by rw[aN,bV];exact c6,o.id,H.ld (o:=1) (cs:=opC o la n lc) EQ4 xK (b7 (by rw[hZ];exact .tail _ m3)) rfl,?_⟩;refine AC (nBelow_spec z.ub z.tb (tbC z c X.P.length g) 86 rfl U T r.id o.id H) ?_;rintro _ w6 ⟨ag,rfl,H2⟩;refine⟨_,rfl,Du (λh3=>λyb w7 bl=>?_) (λh3=>hJ _ _ ⟨ag,ma,mc,mv,Y,rfl,?_,H2⟩)⟩
   ·have H3:=H2.nw bl;refine Hp.app Kz om H3.ET EQ4 (Blk.src (P:=PP) LH (H3.blk (.head _)) rfl rfl) (by simp only[maxLen];omega) om ?_;intro a2 c2 w8 H4;refine hJ _ _ ⟨ag,a2,c2,mv++[r.id],.blk yb [I r.id] 3::Y,by simp,?_,H4.perm ?_⟩
    ·rw[b9,iC,<- ao];simp[h3]
    refine AL λff gg u A B C=>?_;have e1:AO (mv++[r.id])=AO mv++[I r.id]:=by simp[AO]
    simp only[e1,aF,aK,dK,cZ,B,A,u,aY,aO,aH];omega
   rw[b9,iC,<- ao];simp[h3]
  have bi:j=T.L.length:=om
  have ak:mv=Tab.moved T o:=by
   rw[bv,qM,ao,bi,aV (by rw[aQ];exact aZ _)]
  have HT:Hp f w w5 (AV U z.tb T::.blk z.ub (tbC z c X.P.length g) 86::.Z6 z.sb .i64 (smC X.S)::Az wf z.wb X.W::yO pf c g X.P::.xH z.qb (gC Ai X.Q)::.own 3 1 ma mv.length mc (AO mv)::(O++(.blk eb (opC o la n lc) 45::.own 3 1 oa T.L.length oc (AO (T.L.map (·.id)))::Y))):=H.perm (by
   refine AL λff gg u A B C=>?_;simp only[hZ,B,A,u,aY,aO,aH,aX];omega)
  have av:mv.length<=100000:=om;exact hJ _ _ ⟨U,ma,mc,mv,_,rfl,ak,av,HT⟩
 have bv:Tab.moved T o=[]:=by rw[Tab.moved,if_neg hk]
 obtain⟨mv,ap⟩:∃mv:lI,mv=[]:=⟨_,rfl⟩;have ak:mv=Tab.moved T o:=by rw[bv,ap]
 obtain⟨U,cb⟩:∃U,U=ba:=⟨_,rfl⟩;rw[<- cb]at H9
 have HT:Hp f w w3 (AV U z.tb T::.blk z.ub (tbC z c X.P.length g) 86::.Z6 z.sb .i64 (smC X.S)::Az wf z.wb X.W::yO pf c g X.P::.xH z.qb (gC Ai X.Q)::.own 3 1 none mv.length 0 (AO mv)::(O++[.blk eb (opC o la n lc) 45])):=(H9.yS 3 1).perm (by
  refine AL λff gg u A B C=>?_;have e1:AO []=[]:=rfl;simp only[ap,e1,dK,B,A,u,aY,aO,aH,aX];omega)
 have av:mv.length<=100000:=by rw[ap];exact bZ _
 have cd:mv.length=0:=by rw[ap];rfl
 exact hJ _ _ ⟨U,none,0,mv,_,by rw[cd],ak,av,HT⟩
end
noncomputable section
open Go Go.Vc Go.Nod
def TG(l:LU)(i j:Nat):(bts l).extract i j=bts ((l.take j).drop i):=X7 l i j
def Gf.none{W:Lj}{al:List (BA×Value)}(h:Gf W al):Gf (W++[none0]) al:=by
 refine⟨h.apart,λn v=>?_⟩;rw[h.iff];constructor
 ·rintro⟨k,a,b,c⟩;exact⟨k,by rw[bQ (aA.1 a).1];exact a,b,c⟩
 rintro⟨k,a,b,c⟩;refine⟨k,?_,b,c⟩;by_cases e:k<W.length
 ·rwa [bQ e]at a
 have d:=(aA.1 a).1;have:k=W.length:=by simp at d;omega
 subst this;rw[iV]at a;cases a;exact(b rfl).elim
def Gf.some{W:Lj}{al:List (BA×Value)}(h:Gf W al){s:BA}(n:s≠none0)(o:s∉W):xZ al s=Option.none/\Gf (W++[s]) (xY al s (I ((W.length:Int)+1))):=by
 have f:s∉al.map (·.1):=λp=>by
  obtain⟨⟨a,v⟩,g,rfl⟩:=aU.1 p;obtain⟨k,b,_⟩:=(h.iff a v).1 g;exact o (aC b)
 refine⟨Jo.2 f,?_⟩;rw[MZ _ _ _ f];refine⟨?_,λm v=>?_⟩
 ·rw[FN,ai,bG];exact⟨h.apart,by simp,λa q c l e=>by rw[aj,jC,aW]at l;subst l;exact f (e▸q)⟩
 rw[aT,aW,h.iff];constructor
 ·rintro(⟨k,b,i,d⟩|b)
  ·exact⟨k,by rw[bQ (aA.1 b).1];exact b,i,d⟩
  cases b;exact⟨W.length,iV,n,rfl⟩
 rintro⟨k,b,i,d⟩;by_cases r:k<W.length
 ·rw[bQ r]at b;exact .inl ⟨k,b,i,d⟩
 have j:=(aA.1 b).1;have:k=W.length:=by simp at j;omega
 subst this;rw[iV]at b;cases b;exact .inr (by rw[d])
theorem xLoad_spec(la:OA)(ln lc:Nat)(l:Lj)(w:Wq)(hL:Cells w la (BN l))(hll:ln=l.length)(hW:WOk l):
  CP 66 #[.slice la ln lc] w λe w'=>∃f b,e=Ej (.tuple #[pq b,I 0])/\Hp [] w w' [Az f b l]:=by
 apply Jff;have hlen:=hW.len;refine AC (XE w) ?_;rintro _ w1 ⟨b,f,rfl,H1⟩;obtain⟨M,⟨_,mb,a,c,al,hN,rfl⟩,H2,_⟩:=H1.unpack;refine⟨_,rfl,?_⟩;have H3:Hp [] w w1 (.blk b [.slice a ([]:Lj).length c,.map (some mb)] 150::.own 167 2 a ([]:Lj).length c (Ak [])::.xH mb al::[]):=H2;refine xI.mk (λq s w'=>∃(j:Nat)(a:OA)(c:Nat)(al:List (BA×Value))(X:List Asn),q=ln-j/\j<=ln/\s=(j:Int)/\Gf (l.take j) al/\Hp [] w w' (.blk b [.slice a j c,.map (some mb)] 150::.own 167 2 a j c (Ak (l.take j))::.xH mb al::X)) ln ⟨0,a,c,al,[],rfl,om,rfl,by rw[fD];exact hN,by rw[fD];exact H3⟩ ?_;rintro q s w2 nx ⟨j,a,c,al,X,rfl,hj,rfl,hN,H⟩ hnx;refine AB (λh1=>?_) (λh1=>?_)
 ·have hjl:j<l.length:=om;obtain⟨x,hxe⟩:∃x,x=l[j]:=⟨_,rfl⟩;have hx:l[j]? =some x:=by rw[hxe];exact aB hjl
  have htk:l.take (j+1)=l.take j++[x]:=by rw[aG hjl,hxe]
  have hlt:(l.take j).length=j:=by rw[aJ];omega
  have hc2:=hL.chg H.chg (by simp);obtain⟨ad,had,_⟩:=hc2 _ _ (EN hx)
  have hnew:x≠none0->x∉l.take j:=λhx0 hm=>by
   obtain⟨i,hi⟩:=bD hm;have hil:=(aA.1 hi).1;rw[bn om]at hi;have:=hW.one i j x hi hx hx0;omega
  refine AA had ⟨⟨om,h1⟩,x,by rw[aN,bV];exact hc2.ld xx had (EN hx),AA rfl ⟨some mb,by rw[add_lit];exact H.ld EQ4 KDM (.head _) rfl,?_⟩⟩
  obtain⟨z,hz⟩:∃z:Int,(xZ al x).getD (I 0)=I z:=by
   cases e:xZ al x with
   |none=>exact⟨0,rfl⟩
   |some v=>
    have hKm:=(FV hN.apart).1 e;obtain⟨k,_,_,h3⟩:=(hN.iff x v).1 hKm;exact⟨_,h3⟩
  refine⟨z,_,H.XN I9 EQ4 (t2 (.head _)) hz rfl,AB (λh2=>by omega) (λ_=>?_)⟩;refine xM.mk (λt w'=>t=false/\Hp [] w w' (.blk b [.slice a j c,.map (some mb)] 150::.own 167 2 a j c (Ak (l.take j))::.xH mb al::X)) ?_ ?_
  ·rintro t w3 ⟨rfl,H3⟩;refine Au (AB (λh3=>?_) (λh3=>?_))
   ·refine AA rfl ⟨a,j,c,H3.ld EQ4 kSW (.head _) rfl,λyb w4 hn4=>?_⟩;have H4:=H3.new (cs:=[.string none0,I 0]) EQ4 hn4;refine Hp.app ui om H4.BF EQ4 (Blk.src vY (H4.blk (.head _)) rfl rfl) (by simp only[maxLen];omega) om ?_;intro a2 c2 w5 H5;refine AA rfl (Hp.st (o:=0) H5.BF EQ4 kSW rfl rfl (by simp) (cs':=[.slice a2 (j+1) c2,.map (some mb)]) rfl λw6 H6=>⟨DT.2 om,hnx (ln-(j+1)) _ _ om ⟨j+1,a2,c2,al,.blk yb [.string none0,I 0] 167::X,rfl,om,rfl,?_,H6.perm ?_⟩⟩)
    ·rw[htk,h3];exact hN.none
    have e1:Ak (l.take (j+1))=Ak (l.take j)++[.string none0,I 0]:=by rw[htk,h3,KF];rfl
    refine AL λff gg h0 hc ha hpm=>?_;simp only[I,Q,e1,ha,hc,h0,aY,aO,aH];omega
   have hu:zF x=1:=by rw[zF,if_neg h3]
   obtain⟨_,hN2⟩:=hN.some h3 (hnew h3);rw[hlt]at hN2;refine AA rfl ⟨a,j,c,H3.ld (o:=0) (cs:=[.slice a j c,.map (some mb)]) EQ4 kSW (.head _) rfl,λyb w4 hn4=>?_⟩;have H4:=H3.new (cs:=[.string x,I 1]) EQ4 hn4;refine Hp.app ui om H4.BF EQ4 (Blk.src (P:=PP) vY (H4.blk (.head _)) rfl rfl) (by simp only[maxLen];omega) om ?_;intro a2 c2 w5 H5;refine AA rfl (Hp.st (o:=0) H5.BF EQ4 kSW rfl rfl (by simp) (cs':=[.slice a2 (j+1) c2,.map (some mb)]) rfl λw6 H6=>?_);refine AA rfl ⟨some mb,by rw[add_lit];exact H6.ld (o:=1) (cs:=[.slice a2 (j+1) c2,.map (some mb)]) EQ4 KDM (.head _) rfl,DT.2 om,?_⟩;refine Hp.KEC I9 H6.ET EQ4 λw7 H7=>⟨DT.2 om,hnx (ln-(j+1)) _ _ om ⟨j+1,a2,c2,_,.blk yb [.string x,I 1] 167::X,rfl,om,rfl,by rw[htk];exact hN2,H7.perm ?_⟩⟩;have e1:Ak (l.take (j+1))=Ak (l.take j)++[.string x,I 1]:=by rw[htk,KF,<- hu];rfl
   refine AL λff gg h0 hc ha hpm=>?_;simp only[I,Q,e1,ha,hc,h0,aY,aO,aH];omega
  intro J hJ;refine AQ (λh3=>?_) (λh3=>hJ _ _ ⟨rfl,H⟩);refine AC (Iz x w2) ?_;rintro _ w3 ⟨rfl,H3⟩;have hnm:CZ x:=(hW.ok x (aC hx)).resolve_left h3;refine⟨_,rfl,Hg (λh4=>(h4 hnm).elim) (λ_=>hJ _ _ ⟨?_,H.xN H3⟩)⟩;rw[(hN.some h3 (hnew h3)).1];rfl
 have hjl:j=l.length:=om;subst hjl;rw[bJ]at H hN;refine xI.mk (λq _ w'=>∃(a:OA)(c:Nat)(X:List Asn),Hp [] w w' (.blk b [.slice a l.length c,.map (some mb)] 150::.own 167 2 a l.length c (Ak l)::.xH mb al::X)) 0 ⟨a,c,X,H⟩ ?_;rintro q _ w3 nx ⟨a,c,X,H⟩ _
 have fin:∃f' b',Ending.returned (.tuple #[pq b,I 0])=Ej (.tuple #[pq b',I 0])/\Hp [] w w3.drew [Az f' b' l]:=by
  obtain⟨f',H2⟩:=(H.drew:Hp [] w w3.drew (J7 b mb a c l al++X)).D5 (Q:=Td b l) ⟨hW,mb,a,c,al,hN,rfl⟩;exact⟨f',b,rfl,Hp.BM (L:=[_]) H2⟩
 have ldW:∀{W':Wq},Eqw w3 W'->Ld PP 148 W' ⟨b,0,none⟩ (.slice a l.length c):=λhe=>H.ld (o:=0) (cs:=[.slice a l.length c,.map (some mb)]) he kSW (.head _) rfl;refine AA rfl ⟨a,l.length,c,ldW EQ4,AB (λh2=>?_) (λh2=>fin)⟩;obtain⟨x,hxe⟩:∃x,x=l[l.length-1]:=⟨_,rfl⟩;have hx:l[l.length-1]? =some x:=by rw[hxe];exact aB om
 have hx0:x≠none0:=λe=>hW.last (by rw[dZ,hx,e]);have ho:Own w3 0 167 2 a l.length c (Ak l):=H.xh (.tail _ (.head _));obtain⟨g,hg⟩:=ho.D6 om;have hod:Cells w3.drew a (Ak l):=ho.cells;have e1:((l.length:Int)-1).toNat=l.length-1:=om;refine AA rfl ⟨a,l.length,c,ldW EQ4,AA rfl ⟨a,l.length,c,ldW EQ4,DT.2 om,AA hg ⟨⟨om,om⟩,zF x,?_,AB (λh3=>(hx0 ((J6 _).1 h3)).elim) (λh3=>fin)⟩⟩⟩;rw[add_add,e1];exact hod.ld xK hg (Gs hx)
def ldC(ub:Nat)(next:Int)(wa:OA)(wn wc pb:Nat)(aa:OA)(an ac:Nat):LV:=[pq ub,I next,.slice wa wn wc,.map (some pb),.slice aa an ac]
def KAm(V:Lj)(n:Nat):Lj:=V++List.replicate (n-V.length) none0
def WQ(V:Lj)(l:LU):Option (Lj):=
 if l.length<4\/yM ((l.take 3).drop 1)<1\/4000<yM ((l.take 3).drop 1)then none
 else some ((KAm V (yM ((l.take 3).drop 1))).set (yM ((l.take 3).drop 1)-1) (bts (l.drop 3)))
def rSS:Scl PP 106:=BQ (by kernel_rfl)
section
variable{B:List Nat}{w0 w:World}{L:List Asn}
def nWord_spec(xb ub:Nat)(next:Int)(wa:OA)(wc pb:Nat)(aa:OA)(an ac:Nat)(V V':Lj)(l:LU)(hV:V.length<=100000)(hw:WQ V l=some V')(hl:l.length<=maxLen)
  (H:Hp B w0 w (.blk xb (ldC ub next wa V.length wc pb aa an ac) 128::.own 9 1 wa V.length wc (BN V)::L)):
  CP 125 #[pq xb,.string (bts l)] w λe w'=>∃wa' wc',e=Ej (.bool true)/\Hp B w0 w' (.blk xb (ldC ub next wa' V'.length wc' pb aa an ac) 128::.own 9 1 wa' V'.length wc' (BN V')::L):=by
 apply Jc2;rw[D9];obtain⟨n,hn⟩:∃n,n=yM ((l.take 3).drop 1):=⟨_,rfl⟩;rw[WQ,<- hn]at hw;by_cases hbad:l.length<4\/n<1\/4000<n
 ·rw[if_pos hbad]at hw;cases hw
 rw[if_neg hbad]at hw;have hV':=(Option.some.inj hw).symm;refine AB (λh1=>by omega) (λh1=>⟨⟨om,om,om⟩,?_⟩);rw[TG];refine AC (RU ((l.take 3).drop 1) (by rw[bf,aJ];omega) w) ?_;rintro _ w1 ⟨rfl,H1⟩;have H2:=H.xN H1;rw[<- hn];refine⟨_,rfl,AB (λh2=>by omega) (λh2=>AB (λh3=>by omega) (λh3=>?_))⟩;refine xI.mk (λq _ w'=>∃(j:Nat)(wa:OA)(wc:Nat)(X:List Asn),q=(n-V.length)-j/\j<=n-V.length/\Hp B w0 w' (.blk xb (ldC ub next wa (V.length+j) wc pb aa an ac) 128::.own 9 1 wa (V.length+j) wc (BN (V++List.replicate j none0))::(L++X))) (n-V.length) ⟨0,wa,wc,[],rfl,om,by rw[aX];simpa using H2⟩ ?_;rintro q _ w2 nx ⟨j,wa,wc,X,rfl,hj,H⟩ hnx;refine AA rfl ⟨wa,V.length+j,wc,by rw[add_lit];exact H.ld EQ4 rSS (.head _) rfl,AB (λh4=>?_) (λh4=>?_)⟩
 ·refine AA rfl ⟨wa,V.length+j,wc,by rw[add_lit];exact H.ld EQ4 rSS (.head _) rfl,λyb w3 hn3=>?_⟩;have H3:=H.new (cs:=[.string none0]) EQ4 hn3;refine Hp.app qi om H3.BF EQ4 (Blk.src qp (H3.blk (.head _)) rfl rfl) (by simp only[maxLen];omega) om ?_;intro a2 c2 w4 H4;refine AA rfl ?_;rw[add_lit];refine Hp.st H4.BF EQ4 rSS rfl rfl (by simp[ldC]) (cs':=ldC ub next a2 (V.length+(j+1)) c2 pb aa an ac) rfl λw5 H5=>hnx (n-V.length-(j+1)) _ _ om ⟨j+1,a2,c2,.blk yb [.string none0] 9::X,rfl,om,H5.perm ?_⟩
  have e1:BN (V++List.replicate (j+1) none0)=BN (V++List.replicate j none0)++[.string none0]:=by
   rw[oZ,<- ax,BN,ai];rfl
  have e2:V.length+j+1=V.length+(j+1):=om;refine AL λff gg h0 hc ha hpm=>?_;simp only[I,Q,e1,e2,ha,hc,h0,aY,aO,aH];omega
 have hjn:j=n-V.length:=om;have hp:V++List.replicate j none0=KAm V n:=by rw[hjn];rfl
 have hpl:(KAm V n).length=V.length+j:=by rw[<- hp];simp
 rw[hp]at H;have hln:n<=(KAm V n).length:=by rw[hpl];omega
 have ho:Own w2 0 9 1 wa (V.length+j) wc (BN (KAm V n)):=H.xh (.tail _ (.head _));obtain⟨g,hg⟩:=ho.D6 om;have e1:((n:Int)-1).toNat=n-1:=om;refine AA rfl ⟨wa,V.length+j,wc,by rw[add_lit];exact H.ld (o:=2) (cs:=ldC ub next wa (V.length+j) wc pb aa an ac) EQ4 rSS (.head _) rfl,DT.2 om,⟨om,om⟩,AA hg ⟨⟨om,om⟩,?_⟩⟩;rw[e1,bV,TG,show(l.take l.length).drop (Int.toNat 3)=l.drop 3 by rw[bJ];rfl];refine Hp.KEq (o:=n-1) H.AX EQ4 xx hg rfl rfl (by rw[BN,aQ];omega) λw3 H3=>⟨wa,wc,rfl,?_⟩;have e2:(BN (KAm V n)).set (n-1) (.string (bts (l.drop 3)))=BN V':=by rw[hV',BN,BN,qE]
 have e3:V'.length=V.length+j:=by rw[hV',bU,hpl]
 rw[e2]at H3;rw[e3];exact Hp.BM (L:=_::_::L) (R:=X) H3.AX
end
end
end Go.Proofs.YtljenkbpnioipaaGreat
namespace Go.Nod
open Go Go.Vc
section
variable{K V:Type}[DecidableEq K]
theorem VT:∀(l:List (K×V))(k:K)(v:V),(yR l k v).Perm ((k,v)::zY l k)
 | [],k,v=>.refl _
 |(y,u)::r,k,v=>by
  rw[yR,zY];by_cases h:k=y
  ·rw[if_pos h,if_pos h,h]
  rw[if_neg h,if_neg h];exact((VT r k v).cons _).trans (.swap _ _ _)
theorem TR:∀(l:List (K×V))(k:K)(v:V),xP l k=some v->l.Perm ((k,v)::zY l k)
 |(y,u)::r,k,v,h=>by
  rw[xP]at h;rw[zY];by_cases e:k=y
  ·rw[if_pos e]at h⊢;cases h;rw[e]
  rw[if_neg e]at h⊢;exact((TR r k v h).cons _).trans (.swap _ _ _)
theorem XM:∀(l:List (K×V))(k:K),xP l k=none->zY l k=l
 | [],k,_=>rfl
 |(y,u)::r,k,h=>by
  rw[xP]at h;rw[zY];by_cases e:k=y
  ·rw[if_pos e]at h;cases h
  rw[if_neg e]at h⊢;rw[XM r k h]
theorem Wh:∀(l:List (K×V))(k:K)(v:V),xP l k=some v->yR l k v=l
 |(y,u)::r,k,v,h=>by
  rw[xP]at h;rw[yR];by_cases e:k=y
  ·rw[if_pos e]at h⊢;cases h;rfl
  rw[if_neg e]at h⊢;rw[Wh r k v h]
variable{U:Type}
theorem Yn(g:V->U):∀(l:List (K×V))(k:K),xP (l.map λp=>(p.1,g p.2)) k=(xP l k).map g
 | [],k=>rfl
 |(y,u)::r,k=>by
  rw[aj,xP,xP];by_cases e:k=y
  ·rw[if_pos e,if_pos e];rfl
  rw[if_neg e,if_neg e];exact Yn g r k
theorem Yf(g:V->U):∀(l:List (K×V))(k:K)(v:V),(yR l k v).map (λp=>(p.1,g p.2))=yR (l.map λp=>(p.1,g p.2)) k (g v)
 | [],k,v=>rfl
 |(y,u)::r,k,v=>by
  rw[aj,yR,yR];by_cases e:k=y
  ·rw[if_pos e,if_pos e];rfl
  rw[if_neg e,if_neg e,aj,Yf g r k v]
end
end Go.Nod
namespace Go.Proofs.YtljenkbpnioipaaGreat
noncomputable section
open Go Go.Vc Go.Nod
abbrev Pcs:=List (LU)
abbrev PW:=OA×Nat×Pcs
abbrev CM:=List (Int×Pcs)
def pwV(p:PW):Value:=.slice p.1 p.2.2.length p.2.1
def pwO(p:Int×PW):Asn:=.own 9 1 p.2.1 p.2.2.2.length p.2.2.1 (p.2.2.2.map sv)
def pcsQ(pb:Nat)(C:CM)(L:List Asn):Prop:=∃W:List (Int×PW),W.map (λp=>(p.1,p.2.2.2))=C/\L=.Z6 pb .i64 (gC pwV W)::W.map pwO
def KBv(f:Nq)(pb:Nat)(C:CM):Asn:=pkA f (pcsQ pb C)
def tK:KAa PP (Dn .i64) 125 3 106 (.slice none 0 0):=⟨by kernel_rfl,by kernel_rfl,by kernel_rfl⟩
def tMIS:Scl PP 125:=BQ (by kernel_rfl)
def yN(C:CM)(i:Int):Pcs:=(xP C i).getD []
section
variable{B f:List Nat}{w0 w:World}{L:List Asn}{pb:Nat}{C:CM}
def pcs_nil(H:Hp B w0 w (.Z6 pb .i64 []::L)):∃a,Hp B w0 w (KBv a pb []::L):=
 Hp.D5 H ⟨[],rfl,rfl⟩
theorem Vw(H:Hp B w0 w (KBv f pb C::L))(i:Int):∃(a:OA)(c:Nat)(al:List (Int×Value))(X:Asn),(xZ al i).getD (.slice none 0 0)=.slice a (yN C i).length c/\
  Hp B w0 w (.Z6 pb .i64 al::.own 9 1 a (yN C i).length c ((yN C i).map sv)::X::L)/\
  (∀w1 h a' c' l',Hp B w0 w1 (.Z6 pb .i64 (xY al i (.slice a' l'.length c'))::.own 9 1 a' l'.length c' (l'.map sv)::X::h)->∃t,Hp B w0 w1 (KBv t pb (yR C i l')::h))/\
  (∀v,xP C i=some v->xY al i (.slice a (yN C i).length c)=al):=by
 obtain⟨M,⟨W,F,rfl⟩,G,_⟩:=H.unpack;have j:xP C i=(xP W i).map (·.2.2):=by rw[<- F];exact Yn (λp:PW=>p.2.2) W i
 have q:=MH pwV W i
 have b:∀(s:List Asn),(zY W i).map pwO=s->∀w1 h a' c' l',Hp B w0 w1 (.Z6 pb .i64 (xY (gC pwV W) i (.slice a' l'.length c'))::.own 9 1 a' l'.length c' (l'.map sv)::pkA (xq s) (λM=>M=s)::h)->∃t,Hp B w0 w1 (KBv t pb (yR C i l')::h):=λs u w1 h a' c' l' O=>by
  obtain⟨Y,x,J,_⟩:=O.BF.unpack;subst x;have R:xY (gC pwV W) i (.slice a' l'.length c')=gC pwV (yR W i (a',c',l')):=OV pwV W i (a',c',l');rw[R]at J;have y:((yR W i (a',c',l')).map pwO).Perm (.own 9 1 a' l'.length c' (l'.map sv)::(zY W i).map pwO):=(VT W i (a',c',l')).map pwO
  have T:Hp B w0 w1 ((.Z6 pb .i64 (gC pwV (yR W i (a',c',l')))::(yR W i (a',c',l')).map pwO)++h):=J.perm (by
   refine AL λff r m g n d=>?_;have:=d _ _ y;simp only[g]at this;simp only[<- u,this,n,g,m,aY,aO,aH];omega)
  exact T.D5 ⟨_,by rw[Yf (λp:PW=>p.2.2) W i (a',c',l'),F],rfl⟩
 cases e:xP W i with
 |none=>
  have o:yN C i=[]:=by rw[yN,j,e];rfl
  have z:Hp B w0 w ((zY W i).map pwO++(.Z6 pb .i64 (gC pwV W)::L)):=G.perm (by
   refine AL λff r m g n d=>?_;rw[XM W i e];simp only[n,g,m,aY,aO,aH];omega)
  have A:=z.pack (Q:=λM=>M=(zY W i).map pwO) rfl;refine⟨none,0,gC pwV W,_,?_,?_,b _ rfl,λv D=>?_⟩
  ·rw[q,e,o];rfl
  ·rw[o];exact(A.yS 9 1).BF
  rw[j,e]at D;cases D
 |some p=>
  obtain⟨a,c,l⟩:=p;have o:yN C i=l:=by rw[yN,j,e];rfl
  have y:=(TR W i (a,c,l) e).map pwO
  have z:Hp B w0 w ((zY W i).map pwO++(.Z6 pb .i64 (gC pwV W)::.own 9 1 a l.length c (l.map sv)::L)):=G.perm (by
   refine AL λff r m g n d=>?_;have N:=d _ _ y;rw[aj]at N;simp only[g]at N;have Z:r (pwO (i,a,c,l))=r (.own 9 1 a l.length c (l.map sv)):=rfl;simp only[n,g,m,aY,aO,aH];omega)
  have A:=z.pack (Q:=λM=>M=(zY W i).map pwO) rfl;refine⟨a,c,gC pwV W,_,?_,?_,b _ rfl,λv D=>?_⟩
  ·rw[q,e,o];rfl
  ·rw[o];exact A.perm (by
    refine AL λff r m g n d=>?_;simp only[n,g,m,aY,aO,aH];omega)
  rw[o];have:xY (gC pwV W) i (pwV (a,c,l))=gC pwV W:=by rw[OV,Wh W i _ e]
  exact this
end
structure LdS where
 P:List Sl.xR
 Q:QM
 next:Int
 V:Lj
 C:CM
def IU(st:LdS)(s:LU):Option (Int×Lj×CM):=match s with
 | []=>none
 |b::r=>
  if b.toNat=104 then(if r.length=4 then some ((yM r:Int),st.V,st.C)else none)
  else if b.toNat=119 then(WQ st.V s).map λV'=>(st.next,V',st.C)
  else if b.toNat=110 then(Fol.EU r).map λh=>(st.next,st.V,yR st.C (h.1:Int) (yN st.C h.1++[r]))
  else none
def KAR(P:List Sl.xR)(n:Nat):List Sl.xR:=P++List.replicate (n-P.length) []
def P8(st:LdS)(c:Cg):Option LdS:=
 if c.gone=true\/c.page<0\/4096<=c.page then none
 else if(xP st.Q (Aa c.s)).isSome\/(Sl.lk (Aj (KAR st.P (c.page.toNat+1)) c.page.toNat) c.slot).isSome\/(Sl.xY (Aj (KAR st.P (c.page.toNat+1)) c.page.toNat) c.slot c.s.data.toList).2≠0 then none
 else(IU st c.s.data.toList).map λk=>⟨(KAR st.P (c.page.toNat+1)).set c.page.toNat (Sl.xY (Aj (KAR st.P (c.page.toNat+1)) c.page.toNat) c.slot c.s.data.toList).1,yR st.Q (Aa c.s) (c.page,c.slot),k.1,k.2.1,k.2.2⟩
def ldL(xb pb:Nat)(z:WN)(wa:OA)(wc:Nat)(aa:OA)(an ac:Nat)(cf pf:Nq)(pa:OA)(pc:Nat)(st:LdS):List Asn:=
 [.blk xb (ldC z.ub st.next wa st.V.length wc pb aa an ac) 128,.own 9 1 wa st.V.length wc (BN st.V),KBv cf pb st.C,.blk z.ub (tbC z pa st.P.length pc) 86,yO pf pa pc st.P,.xH z.qb (gC Ai st.Q)]
structure KEd(st:LdS)(N:Nat):Prop where
 P:st.P.length<=4096
 V:st.V.length<=4000
 C:∀i,(yN st.C i).length<=N
def wordP_len{V a:Lj}{l:LU}(h:WQ V l=some a)(b:V.length<=4000):a.length<=4000:=by
 rw[WQ]at h;split at h
 ·cases h
 cases h;rw[bU,KAm,aF,dQ];omega
def YW(C:CM)(i j:Int)(l:Pcs):yN (yR C i l) j=if j=i then l else yN C j:=by
 rw[yN,EP];split<;>rfl
def KEd.take{st d:LdS}{N:Nat}{c:Cg}(h:KEd st N)(b:P8 st c=some d):KEd d (N+1):=by
 rw[P8]at b;split at b
 ·cases b
 rename_i n;split at b
 ·cases b
 obtain⟨⟨o,p,q⟩,a,j⟩:=cO.1 b;subst j;have r:=h.P;refine⟨?_,?_,?_⟩
 ·rw[bU,KAR,aF,dQ];omega
 ·rw[IU.eq_def]at a;split at a
  ·cases a
  split at a
  ·split at a
   ·cases a;exact h.V
   cases a
  split at a
  ·obtain⟨m,g,e⟩:=cO.1 a;cases e;exact wordP_len g h.V
  split at a
  ·obtain⟨x,_,e⟩:=cO.1 a;cases e;exact h.V
  cases a
 intro i;have l:=h.C i;rw[IU.eq_def]at a;split at a
 ·cases a
 split at a
 ·split at a
  ·cases a;exact kH l
  cases a
 split at a
 ·obtain⟨m,g,e⟩:=cO.1 a;cases e;exact kH l
 split at a
 ·obtain⟨x,_,e⟩:=cO.1 a;cases e;rw[YW];split
  ·rename_i e;subst e;have:=h.C (x.1:Int);simp;omega
  exact kH l
 cases a
end
noncomputable section
open Go Go.Vc Go.Nod
def UN(l:LU):(bts l).data.toList=l:=by simp[bts]
section
variable{B:List Nat}{w0 w:World}{L:List Asn}
theorem nTake_spec(Y t:Nat)(z:WN)(u:Option Addr)(y:Nat)(aa:Option Addr)(an ac:Nat)(cf pf:List Nat)(pa:Option Addr)(pc:Nat)(st bc:LdS)(N:Nat)(av:KEd st N)(hN:N<=1000000)(pg sl:Int)(l:List UInt8)(J:Bool)(Z:P8 st ⟨pg,sl,bts l,J⟩=some bc)
  (H:Hp B w0 w (ldL Y t z u y aa an ac cf pf pa pc st++L)):
  Calls Tryz.prog 65 #[.pointer (some ⟨Y,0,none⟩),.agg (cgC ⟨pg,sl,bts l,J⟩).toArray] w λe w'=>∃aw a7 a8 O b4 b5,e=.returned (.bool true)/\Hp B w0 w' (ldL Y t z aw a7 aa an ac a8 O b4 b5 bc++L):=by
 apply Jcy;rw[P8]at Z;dsimp only at Z;split at Z
 ·cases Z
 rename_i h1
 have a9:J=false:=by
  cases J with
  |false=>rfl
  |true=>exact(h1 (.inl rfl)).elim
 subst a9;have cn:0<=pg/\pg<4096:=⟨om,om⟩;split at Z
 ·cases Z
 rename_i h2;rw[UN]at Z h2;obtain⟨n,hn⟩:∃n:Nat,pg=(n:Int):=⟨pg.toNat,om⟩;rw[hn,aN]at Z h2;obtain⟨P1,ba⟩:∃P1,P1=KAR st.P (n+1):=⟨_,rfl⟩;rw[<- ba]at Z h2;have co:=av.P
 have bd:n<P1.length/\P1.length<=4096:=by
  rw[ba,KAR,aF,dQ];omega
 obtain⟨R,hR⟩:∃R,P1[n]? =some R:=⟨_,aB bd.1⟩;have b6:Aj P1 n=R:=by rw[Aj,hR];rfl
 rw[b6]at Z h2;obtain⟨D,aq⟩:∃D,D=Aa (bts l):=⟨_,rfl⟩;rw[<- aq]at Z h2
 have hq:xP st.Q D=none:=by
  cases e:xP st.Q D with
  |none=>rfl
  |some v=>rw[e]at h2;exact(h2 (.inl rfl)).elim
 have b7:Sl.lk R sl=none:=by
  cases e:Sl.lk R sl with
  |none=>rfl
  |some v=>rw[e]at h2;exact(h2 (.inr (.inl rfl))).elim
 have T:(Sl.xY R sl l).2=0:=az λh=>h2 (.inr (.inr h));obtain⟨⟨k1,k2,k3⟩,d,ab⟩:=cO.1 Z;have bh:l≠[]:=λe=>by rw[e,IU]at d;cases d
 have cp:l.length<=3600:=by
  rw[Sl.xY]at T;split at T
  ·cases T
  split at T
  ·cases T
  omega
 obtain⟨C,hC⟩:∃C,C=cgC ⟨pg,sl,bts l,false⟩:=⟨_,rfl⟩;have c0:C[0]? =some (.int .i64 pg):=by rw[hC];rfl
 have c1:C[1]? =some (.int .i64 sl):=by rw[hC];rfl
 have c2:C[2]? =some (.string (bts l)):=by rw[hC];rfl
 intro yb w1 b8;have H1:=H.new (cs:=C) EQ4 (by rw[hC];exact b8);refine⟨false,H1.ld EQ4 rD (.head _) (by rw[hC];rfl),Au ⟨pg,H1.ld EQ4 xK (.head _) c0,AB (λh=>by omega) (λ_=>⟨pg,H1.ld EQ4 xK (.head _) c0,AB (λh=>by omega) (λ_=>⟨bts l,H1.ld EQ4 xx (.head _) c2,AB (λh=>?_) (λ_=>?_)⟩)⟩)⟩⟩
 ·exact(bh (by have:=congrArg (λs:ByteArray=>s.data.toList) h;rw[UN]at this;simpa using this)).elim
 refine xI.mk (λq _ w'=>∃(j:Nat)(pf:List Nat)(pa:Option Addr)(pc:Nat),q=(n+1-st.P.length)-j/\j<=n+1-st.P.length/\Hp B w0 w' (.blk yb C 55::(ldL Y t z u y aa an ac cf pf pa pc {st with P:=st.P++List.replicate j []}++L))) (n+1-st.P.length) ⟨0,pf,pa,pc,rfl,om,by
  have:({st with P:=st.P++List.replicate 0 []}:LdS)=st:=by simp
  rw[this];exact H1⟩ ?_
 rintro q _ w2 nx ⟨j,pf,pa,pc,rfl,hj,H⟩ b9;obtain⟨f,ah⟩:∃f,f=st.P++List.replicate j []:=⟨_,rfl⟩;rw[<- ah]at H;have cl:f.length=st.P.length+j:=by rw[ah];simp
 have a:∀{W:World}{M:List Asn}{nx:Int}{u wn y},Hp B w0 W M->Asn.blk Y (ldC z.ub nx u wn y t aa an ac) 128∈M->∀{K:World},Eqw W K->Ld Tryz.prog 23 K ⟨Y,0,none⟩ (.pointer (some ⟨z.ub,0,none⟩)):=λ{W M nx u wn y} H m _ e=>H.ld e rPT m rfl
 have U:∀{W:World}{M:List Asn}{pa:Option Addr}{m pc:Nat},Hp B w0 W M->Asn.blk z.ub (tbC z pa m pc) 86∈M->∀{K:World},Eqw W K->Ld Tryz.prog 84 K (Addr.add ⟨z.ub,0,none⟩ 3) (.slice pa m pc):=λ{W M pa m pc} H m' _ e=>by
  rw[add_lit];exact H.ld e pSl m' rfl
 have bi:∀{W:World}{M:List Asn}{pa:Option Addr}{m pc:Nat},Hp B w0 W M->Asn.blk z.ub (tbC z pa m pc) 86∈M->∀{K:World},Eqw W K->Ld Tryz.prog 83 K (Addr.add ⟨z.ub,0,none⟩ 4) (.map (some z.qb)):=λ{W M pa m pc} H m' _ e=>by
  rw[add_lit];exact H.ld e KDr m' rfl
 have mx:∀{a0 a1 a2 a3 a4 a5 a6:Asn}{M:List Asn},a1∈a0::([a1,a2,a3,a4,a5,a6]++M):=.tail _ (.head _);have mt:∀{a0 a1 a2 a3 a4 a5 a6:Asn}{M:List Asn},a4∈a0::([a1,a2,a3,a4,a5,a6]++M):=.tail _ m3;refine AA rfl ⟨_,a H mx EQ4,AA rfl ⟨pa,f.length,pc,U H mt EQ4,pg,H.ld EQ4 xK (.head _) c0,AB (λh3=>?_) (λh3=>?_)⟩⟩
 ·refine AA rfl ⟨_,a H mx EQ4,AA rfl ⟨_,a H mx EQ4,AA rfl ⟨pa,f.length,pc,U H mt EQ4,AC (Sl.new_any _) ?_⟩⟩⟩;rintro _ w3 ⟨nb,rfl,H2⟩;have H3:=H.drew.drew.yC H2;have ak:∀{b0 a0 a1 a2 a3 a4 a5 a6:Asn}{M:List Asn},a1∈b0::a0::([a1,a2,a3,a4,a5,a6]++M):=.tail _ m1;have bj:∀{b0 a0 a1 a2 a3 a4 a5 a6:Asn}{M:List Asn},a4∈b0::a0::([a1,a2,a3,a4,a5,a6]++M):=.tail _ m4;refine⟨_,rfl,U H3 bj EQ4,a H3 ak EQ4,a H3 ak EQ4,λvb w4 cb=>?_⟩;have H4:=H3.nw cb;refine⟨U H4 (.tail _ bj) EQ4,a H4 (.tail _ ak) EQ4,a H4 (.tail _ ak) EQ4,?_⟩
  have H5:Hp B w0 w4 (.blk vb [.pointer (some ⟨nb,0,none⟩)] 95::Sl.pgA nb (Sl.gZ 4096)::yO pf pa pc f::.blk z.ub (tbC z pa f.length pc) 86::.blk Y (ldC z.ub st.next u st.V.length y t aa an ac) 128::.blk yb C 55::.own 9 1 u st.V.length y (BN st.V)::KBv cf t st.C::.xH z.qb (gC Ai st.Q)::L):=H4.perm (by
   refine AL λff gg h0 hc ha am=>?_;simp only[ldL,ha,hc,h0,aY,aO,aH];omega)
  refine Xr H5 Sl.wG (show f.length<=100000 by omega) EQ4 λa' c' f' w5 H6=>?_;refine⟨a H6 m2 EQ4,AA rfl ?_⟩;rw[add_lit];have e1:(f++[[]]).length=f.length+1:=by simp
  refine Hp.st (o:=0+3) H6.AX EQ4 pSl rfl rfl (by simp[tbC]) (cs':=tbC z a' (f++[[]]).length c') (by rw[e1];rfl) λw6 H7=>b9 (n+1-st.P.length-(j+1)) _ _ om ⟨j+1,f',a',c',rfl,om,H7.perm ?_⟩;have e2:st.P++List.replicate (j+1) []=f++[[]]:=by rw[oZ,<- ax,<- ah]
  refine AL λff gg h0 hc ha am=>?_;simp only[I,Q,ldL,e2,ha,hc,h0,aY,aO,aH];omega
 have bk:f=P1:=by
  have:j=n+1-st.P.length:=om;rw[ah,ba,this];rfl
 subst bk;rw[hn]at*;refine⟨bts l,H.ld (o:=2) (cs:=C) EQ4 xx (.head _) c2,AC (SQ (bts l) _) ?_⟩;rintro _ _ ⟨rfl,rfl⟩;rw[<- aq];have cd:(xZ (gC Ai st.Q) D).getD (.agg #[.int .i64 0,.int .i64 0])=.agg #[.int .i64 0,.int .i64 0]:=by rw[Z7,hq];rfl
 have ce:(xZ (gC Ai st.Q) D).isSome=false:=by rw[MH,hq];rfl
 refine⟨_,rfl,AA rfl ⟨_,a H mx EQ4,AA rfl ⟨some z.qb,bi H mt EQ4,0,0,false,H.XN V5 EQ4 m6 cd ce,λvb w3 cg=>?_⟩⟩⟩;have H1:=H.drew.nw cg;refine Hp.sA H1 hagg (cs':=[.int .i64 0,.int .i64 0]) λw4 H2=>?_
 have H3:Hp B w0 w4.drew (yO pf pa pc f::.blk yb C 55::.blk Y (ldC z.ub st.next u st.V.length y t aa an ac) 128::.blk z.ub (tbC z pa f.length pc) 86::.own 9 1 u st.V.length y (BN st.V)::KBv cf t st.C::.xH z.qb (gC Ai st.Q)::L):=H2.drew.drop.perm (by
  refine AL λff gg h0 hc ha am=>?_;simp only[ldL,ha,hc,h0,aY,aO,aH];omega)
 obtain⟨b,g,A,ad,bl,bm,ar,H4,ao⟩:=Us H3 hR;have mY:∀{x:Asn}{M:List Asn},x∈M->x∈Sl.pgA b g::A::M:=λh=>.tail _ (.tail _ h);refine AA rfl ⟨_,a H4 (mY m1) EQ4,AA rfl ⟨pa,f.length,pc,U H4 (mY m2) EQ4,n,H4.ld (o:=0) (cs:=C) EQ4 xK (mY (.head _)) c0,AA bl ⟨⟨om,om⟩,_,bm _ (H4.ok _ m1),sl,H4.ld (o:=1) (cs:=C) EQ4 xK (mY (.head _)) c1,?_⟩⟩⟩;refine AC (Sl.get_any ar (H4.blk (.head _)) sl) ?_;rintro _ w5 ⟨rfl,H5⟩;rw[b7];have H6:=(H4.xN H5).drew;refine⟨_,_,rfl,Au (x:=_) (Au (x:=_) ?_)⟩;have bo:Ld Tryz.prog 95 w5.drew (ad.add (n*1)) (.pointer (some ⟨b,0,none⟩)):=bm _ (H6.ok _ m1);refine AA rfl ⟨_,a H6 (mY m1) EQ4,AA rfl ⟨pa,f.length,pc,U H6 (mY m2) EQ4,n,H6.ld (o:=0) (cs:=C) EQ4 xK (mY (.head _)) c0,AA bl ⟨⟨om,om⟩,_,bo,sl,H6.ld (o:=1) (cs:=C) EQ4 xK (mY (.head _)) c1,bts l,H6.ld (o:=2) (cs:=C) EQ4 xx (mY (.head _)) c2,?_⟩⟩⟩;refine AC (Sl.UW b g R 0 ar sl l _ (H6.blk (.head _))) ?_;rintro _ w6 ⟨rfl,g',bb,H7⟩;obtain⟨O,H8⟩:=ao _ _ _ _ bb (H6.Bg H7);rw[T];refine⟨0,rfl,AQ (λh=>(h rfl).elim) (λ_=>?_)⟩;obtain⟨P3,bp⟩:∃P3,P3=f.set n (Sl.xY R sl l).1:=⟨_,rfl⟩;have bq:P3.length=f.length:=by rw[bp,bU]
 rw[<- bp]at H8 ab;refine AA rfl ⟨_,a H8 m2 EQ4,AA rfl ⟨some z.qb,bi H8 m3 EQ4,n,H8.ld (o:=0) (cs:=C) EQ4 xK m1 c0,sl,H8.ld (o:=1) (cs:=C) EQ4 xK m1 c1,?_⟩⟩;show∃w1,MUp Tryz.prog _ w6.drew (.map (some z.qb)) (.string D) (Ai ((n:Int),sl)) w1/\_;refine Hp.KEC V5 H8.pull6 EQ4 λw7 H9=>?_;rw[OV]at H9;obtain⟨Q2,ch⟩:∃Q2,Q2=yR st.Q D ((n:Int),sl):=⟨_,rfl⟩;rw[<- ch]at H9 ab;rw[<- bq]at H9;obtain⟨b0,r,F⟩:∃b0 r,l=b0::r:=dX bh
 have ci:sb (bts l) 0=(b0.toNat:Int):=by
  have:=sb_get l 0 (by rw[F];simp);rw[show((0:Nat):Int)=0 from rfl]at this;rw[show bts l=⟨l.toArray⟩from rfl,this];simp[F]
 have p:Hp B w0 w7 (.blk Y (ldC z.ub st.next u st.V.length y t aa an ac) 128::.own 9 1 u st.V.length y (BN st.V)::KBv cf t st.C::.blk yb C 55::.blk z.ub (tbC z pa P3.length pc) 86::yO O pa pc P3::.xH z.qb (gC Ai Q2)::L):=H9.perm (by
  refine AL λff gg h0 hc ha am=>?_;simp only[ha,hc,h0,aY,aO,aH];omega)
 have G:∀{W:World}{M:List Asn},Hp B w0 W M->Asn.blk yb C 55∈M->∀{K:World},Eqw W K->Ld Tryz.prog 9 K ⟨yb,2,none⟩ (.string (bts l)):=λH m _ e=>H.ld (o:=2) (cs:=C) e xx m c2;refine⟨bts l,G p m3 EQ4,?_⟩;dsimp only;rw[D9,ci];have bv:l.length=r.length+1:=by rw[F];rfl
 refine⟨⟨om,om⟩,?_⟩;rw[F,IU.eq_def]at d;dsimp only at d;refine AB (λh4=>?_) (λh4=>AB (λh5=>?_) (λh5=>AB (λh6=>?_) (λh6=>?_)))
 ·rw[if_pos om]at d;by_cases ap:r.length=4
  ·rw[if_pos ap]at d;injection d with d;injection d with e1 d;injection d with e2 e3
   refine⟨bts l,G p m3 EQ4,bts l,G p m3 EQ4,?_⟩;dsimp only;rw[D9,bv,ap];refine⟨⟨om,by decide,by decide⟩,?_⟩;rw[TG]
   have ex:(l.take (Int.toNat (min (((4+1:Nat)):Int) 8))).drop (Int.toNat 1)=r:=by
    rw[show Int.toNat (min (((4+1:Nat)):Int) 8)=5 from rfl,show Int.toNat 1=1 from rfl,aV om,F];rfl
   rw[ex];refine AC (RU r om w7) ?_;rintro _ w8 ⟨rfl,X⟩;refine⟨_,rfl,AA rfl ?_⟩;rw[add_lit];refine Hp.st (o:=0+1) (p.xN X) EQ4 xK rfl rfl (by simp[ldC]) (cs':=ldC z.ub (yM r) u st.V.length y t aa an ac) rfl λw9 ae=>?_;refine⟨bts l,G ae m3 EQ4,u,y,cf,O,pa,pc,?_,?_⟩
   ·rw[D9,bv,ap];rfl
   have c:=ae.ET.drop;rw[<- ab,<- e1,<- e2,<- e3];exact c
  rw[if_neg ap]at d;cases d
 ·rw[if_neg om,if_pos om]at d;obtain⟨V',bw,e⟩:=cO.1 d;injection e with e1 e;injection e with e2 e3
  rw[<- F]at bw;refine⟨bts l,G p m3 EQ4,?_⟩;refine AC (nWord_spec Y z.ub st.next u y t aa an ac st.V V' l (by have:=av.V;omega) bw (by simp only[maxLen];omega) p) ?_;rintro _ w8 ⟨aw,a7,rfl,X⟩;refine⟨_,rfl,aw,a7,cf,O,pa,pc,rfl,?_⟩;have c:=X.ET.drop;rw[<- ab,<- e1,<- e2,<- e3];exact c
 ·rw[if_neg om,if_neg om,if_pos om]at d;obtain⟨⟨i,kk,mm⟩,hh,e⟩:=cO.1 d;injection e with e1 e;injection e with e2 e3
  dsimp only at e3;refine⟨bts l,G p m3 EQ4,?_⟩;dsimp only;rw[D9];refine⟨⟨om,om⟩,?_⟩
  have ex:(bts l).extract (Int.toNat 1) l.length=bts r:=by
   rw[TG,bJ,F];rfl
  rw[ex];refine AC (Fol.QW (bts r) w7) ?_;rintro _ w8 ⟨rfl,X⟩;rw[UN,hh];have ae:=(p.xN X).drew;clear p X;obtain⟨ca,cc,al,A2,bx,c,cj,_⟩:=Vw (ae.BF) (i:Int);clear ae;have mZ:∀{x a1 a2 a3:Asn}{M:List Asn},x∈M->x∈a1::a2::a3::M:=λh=>.tail _ (t2 h)
  have af:∀{W:World}{M:List Asn},Hp B w0 W M->Asn.blk Y (ldC z.ub st.next u st.V.length y t aa an ac) 128∈M->∀{K:World},Eqw W K->Ld Tryz.prog 125 K (Addr.add ⟨Y,0,none⟩ 3) (.map (some t)):=λH m _ e=>by
   rw[add_lit];exact H.ld (o:=3) (cs:=ldC z.ub st.next u st.V.length y t aa an ac) e tMIS m rfl
  refine⟨(i:Int),(kk:Int),(mm:Int),true,rfl,AA rfl ⟨some t,af c (mZ (.head _)) EQ4,AA rfl ⟨some t,af c (mZ (.head _)) EQ4,ca,_,cc,c.lkI tK EQ4 (.head _) bx,bts l,G c (mZ m2) EQ4,?_⟩⟩⟩;dsimp only;rw[D9];refine⟨⟨om,om⟩,?_⟩;rw[ex];intro ub w9 b1;have ag:=c.nw b1;clear c b1;refine⟨ag.lkI tK EQ4 m1 bx,af ag (.tail _ (mZ (.head _))) EQ4,af ag (.tail _ (mZ (.head _))) EQ4,?_⟩;have cm:=av.C (i:Int);refine Hp.app qi om ag.BF EQ4 (Blk.src (P:=Tryz.prog) qp (ag.blk (.head _)) rfl rfl) (by simp only[maxLen];omega) om ?_;intro a2 c2 cq b2;refine⟨af b2 (.tail _ (mZ (.head _))) EQ4,?_⟩;refine Hp.KCj tK b2.BF EQ4 λcr b3=>?_;have e4:(yN st.C (i:Int)).map sv++[.string (bts r)]=(yN st.C (i:Int)++[r]).map sv:=by rw[ai];rfl
  have e5:(yN st.C (i:Int)).length+1=(yN st.C (i:Int)++[r]).length:=by simp
  rw[e4,e5]at b3;obtain⟨a8,ck⟩:=cj _ _ _ _ _ b3.KDJ;refine⟨u,y,a8,O,pa,pc,rfl,?_⟩;rw[<- ab,<- e1,<- e2,<- e3]
  exact Hp.BM (R:=[.blk yb C 55]) (ck.perm (by
   refine AL λff gg h0 hc ha am=>?_;simp only[ldL,ha,hc,h0,aY,aO,aH];omega))
 rw[if_neg om,if_neg om,if_neg om]at d;cases d
end
end
end Go.Proofs.YtljenkbpnioipaaGreat
namespace Go.Vc
open Go Go.Sort Go.Proofs
section
variable{α:Type}[Inhabited α]{B:List Nat}{w0 w:World}{L:List Asn}{e:TypeId}{c n g:Nat}{l:List α}
def Hp.sorted1(enc:α->Value)(H:Hp B w0 w (.own e 1 (Pq g) n c (l.map enc)::L))(G:n=l.length):
  Holds enc w g 0 l.toArray/\g<w.heap.size/\∀(m:Nat)(b:Array Obj)(l':List α),l'.length=l.length->Hp B w0 (grow (putRow enc (Sort.ahead w m) g 0 l'.toArray) b) (.own e 1 (Pq g) n c (l'.map enc)::L):=by
 have O:Own w 0 e 1 (Pq g) n c (l.map enc):=H.xh (.head _);rcases O.2 with⟨h,_⟩|⟨Y,a,u,x,Z,s,J,K,R,y,M⟩
 ·cases h
 cases x;rw[bV]at y M;have f:=(bK.1 s).1;have T:n<=a.size:=fJ K y;refine⟨λj z=>?_,f,λm b l' i=>?_⟩
 ·have o:j<l.length:=by simpa using z
  have A:j<a.size:=om
  have N:a.toList[j]? =some (enc l[j]):=by
   have:(a.toList.take n)[j]? =(l.map enc)[j]? :=by rw[M]
   rw[bn om,au,aB o]at this;exact this
  have C:=J j A;obtain⟨f1,f2⟩:=u;refine⟨?_,?_⟩
  ·simp only[cZ,World.cell?,s];simp at N;simpa [o]using N
  simpa [World.frozen?,s,cZ]using C
 have p:(grow (putRow enc (Sort.ahead w m) g 0 l'.toArray) b).heap[g]? =some (.cells (putCells enc 0 l'.toArray a) e u):=by
  show((w.heap.modify g (onCells (putCells enc 0 l'.toArray)))++b)[g]? =_;rw[iY (by rw[jZ];exact f),eQ,if_pos rfl,s];rfl
 have q:Chg [g] w (grow (putRow enc (Sort.ahead w m) g 0 l'.toArray) b):=by
  refine⟨rfl,rfl,rfl,?_,λj z D=>?_⟩
  ·show w.heap.size<=((w.heap.modify g (onCells (putCells enc 0 l'.toArray)))++b).size;rw[kG,jZ];omega
  show((w.heap.modify g (onCells (putCells enc 0 l'.toArray)))++b)[j]? =_;rw[iY (by rw[jZ];exact z),eQ,if_neg (by intro h;exact D (by simp[h]))]
 have r:(putCells enc 0 l'.toArray a).size=a.size:=by simp[putCells]
 refine H.set (a':=.own e 1 (Pq g) n c (l'.map enc)) q ?_ (λk U=>.inl U);refine⟨by rw[aQ,i,G,bV],.inr ⟨g,_,u,rfl,bZ _,p,by rw[r];exact J,K,R,by rw[r,bV];exact y,?_⟩⟩;rw[bV];apply dN;intro t;by_cases X:t<n
 ·have d:t<l'.length:=om;have F:t<a.size:=om;rw[bn X,au,aB d,putCells];simp only[jQ,oL,fB F,dG,cZ,bZ,true_and,kN,dV];rw[if_pos d];simp[d]
 rw[bC (by rw[aJ];omega),bC (by rw[aQ,i,<- G];omega)]
end
end Go.Vc
namespace Go.Proofs.YtljenkbpnioipaaGreat
noncomputable section
open Go Go.Vc Go.Nod Go.Proofs Go.RowKit Go.Sort Go.Shelf
def sortL(l:Pcs):Pcs:=l.mergeSort λx y=>decide (x<=y)
def Nz(l:Pcs):(sortL l).Perm l:=gW l _
section
variable{B:List Nat}{w0 w:World}{L:List Asn}
def WX:(encStr:LU->Value)=sv:=by
 funext x;rfl
def lSortS_spec(l:Pcs)(a:OA)(c:Nat)(i:l.length<=1000000)(H:Hp B w0 w (.own 9 1 a l.length c (l.map sv)::L)):
  CP 130 #[.slice a l.length c] w λe w'=>e=Ej (.tuple #[])/\Hp B w0 w' (.own 9 1 a l.length c ((sortL l).map sv)::L):=by
 by_cases d:l=[]
 ·subst d;have:=AnyM.slices_Sort_string_none YG a c w;change CP 130 _ _ _ at this;refine Calls.mono this ?_;rintro e w' ⟨rfl,rfl⟩;have m:sortL []=[]:=by rw[sortL];simp
  rw[m];exact⟨rfl,H⟩
 have o:Own w 0 9 1 a l.length c (l.map sv):=H.xh (.head _);obtain⟨g,rfl⟩:=o.D6 (by have:=fC.2 d;omega);obtain⟨f,h,b⟩:=H.sorted1 sv rfl;have j:=AnyM.slices_Sort_string YG g 0 c l w (by rw[WX];exact f) h om;change CP 130 _ _ _ at j;refine Calls.mono j ?_;rintro e w' ⟨rfl,n,p,rfl⟩;refine⟨rfl,?_⟩;have:=b n p (sortL l) ((Nz l).length_eq);rw[WX];exact this
abbrev RW:=Fol.Rec×(OA×Nat)
def rwC(p:RW):LV:=y9 p.1 p.2.1 p.1.FP.length p.2.2
def rwO(p:RW):Asn:=.own 260 2 p.2.1 p.1.FP.length p.2.2 (Fol.BL p.1.FP)
def cfR(x y:RW):Int:=if x.1.frm<y.1.frm then-1 else 1
def nNodes1_ex(W:Wq)(x y:RW):CP 133 #[.agg (rwC x).toArray,.agg (rwC y).toArray] W λe w'=>e=Ej (I (cfR x y))/\∃q d,w'=grow (W.drewN q) d:=by
 apply Jcp;intro f i a j m b;have H:=((Hp.start W).nw a).nw b;refine⟨x.1.frm,H.lo xK,y.1.frm,H.lo xK,AB (λh=>?_) (λh=>?_)⟩
 ·exact⟨by rw[cfR,if_pos h],0,_,PM a b⟩
 exact⟨by rw[cfR,if_neg h],0,_,PM a b⟩
def vagg8:∀w,(isAgg 204).run PP w=.ok true w:=λw=>Ih Fol.Dh.agg w
def vsize8:∀w,(Go.sizeOf 204).run PP w=.ok 8 w:=λw=>yI Fol.Dh.size w
def nSortR_spec(l:List RW)(a:OA)(c:Nat)(K:l.length<=1000000)(H:Hp B w0 w (.own 204 8 a l.length c (l.flatMap rwC)::L)):
  CP 132 #[.slice a l.length c,.func (.func 133) #[] #[]] w λe w'=>e=Ej (.tuple #[])/\∃l':List RW,l'.Perm l/\(l'.Pairwise λa b=>a.1.frm<=b.1.frm)/\Hp B w0 w' (.own 204 8 a l.length c (l'.flatMap rwC)::L):=by
 by_cases o:l=[]
 ·subst o;have:=AnyF.slices_SortFunc_none (ρ:=KFa) {sfRL with} a c (.func (.func 133) #[] #[]) w;change CP 132 _ _ _ at this;refine Calls.mono this ?_;rintro e w' ⟨rfl,rfl⟩;exact⟨rfl,[],.refl _,.nil,H⟩
 have U:Own w 0 204 8 a l.length c (l.flatMap rwC):=H.xh (.head _);obtain⟨g,rfl⟩:=U.D6 (by have:=fC.2 o;omega);obtain⟨X,r0,Y⟩:∃x r,l=x::r:=dX o
 letI:Inhabited RW:=⟨X⟩
 have M:∀x,(rwC x).length=8:=λx=>rfl
 have q:∀x,∀v∈rwC x,v.oneCell'=true:=λx v N=>by
  simp only[rwC,y9,aP,iP,or_false]at N;rcases N with rfl|rfl|rfl|rfl|rfl|rfl|rfl|rfl<;>rfl
 obtain⟨s,A,p⟩:=H.sorted rwC M om rfl
 have d:∀x y,ltOf cfR x y=decide (x.1.frm<y.1.frm):=λx y=>by
  rw[ltOf,cfR];by_cases h:x.1.frm<y.1.frm
  ·rw[if_pos h];simp[h]
  rw[if_neg h];simp[h]
 have Z:SWO (ltOf cfR):=⟨λx=>by rw[d];simp,λx y z h1 h2=>by rw[d]at*;simp only[decide_eq_true_eq]at*;omega,λx y z h1 h2=>by rw[d]at*;simp only[decide_eq_false_iff_not]at*;omega⟩
 have C:=AnyQ.slices_SortFunc (ρ:=KFa) sfRL 8 vagg8 vsize8 rwC M q cfR Z 133 #[] g 0 c l.toArray w
  (enters_of Tryz.func133 (by kernel_rfl) rfl)
  (λm O dk aa x y=>nNodes1_ex _ x y) s A (by simp;omega)
 change CP 132 _ _ _ at C;simp only[dV]at C;refine Calls.mono C ?_;rintro e w' ⟨rfl,f,n,O,R,t,rfl⟩;have u:f.size=l.length:=by have:=R.1;simpa using this
 have D:f.toList.Perm l:=by
  have:=R.2.2;have e1:f.extract 0 l.length=f:=by rw[<- u];simp
  have e2:l.toArray.extract 0 l.length=l.toArray:=by
   simp only[og,jS,fF,kN];rw[aV (aZ _)]
  rw[e1,e2]at this;simpa using this
 refine⟨rfl,f.toList,D,?_,?_⟩
 ·rw[dE];intro i j hi hj F;have G:j<f.size:=by simpa using hj
  have J:i<f.size:=by simpa using hi
  have:=t i j (bZ _) F om;rw[d,decide_eq_false_iff_not,getElem!_pos f i J,getElem!_pos f j G]at this;simp;omega
 have T:=p n O f.toList (by rw[bT];exact u);rw[jD]at T;exact T
def vSR:Scl PP 126:=BQ (by kernel_rfl)
def veltR:Elt PP 126 204 8 88:=DU (by kernel_rfl)
def vundR:PP.underlying 126=some (.slice 204):=by kernel_rfl
def nNodes_spec(F T p:Nat)(next:Int)(U:OA)(Y Z:Nat)(cf:Nq)(C:CM)(cb:(C.map (·.1)).Nodup)(cc:C.length<=1000000)(bd:∀i,(yN C i).length<=1000000)(bh:∀i∈C.map (·.1),-9223372036854775808<=i/\i<=9223372036854775807)
  (K:lI) (hK:K.Perm (C.map (·.1))) (ar:K.Pairwise λx y=>x<y) (z:List Fol.Rec) (bi:z.length=K.length) (av:∀(j:Nat)(i:Int)(r:Fol.Rec),K[j]? =some i->z[j]? =some r->Fol.KCB (sortL (yN C i)) r)
  (H:Hp B w0 w (.blk F (ldC T next U Y Z p none 0 0) 128::KBv cf p C::L)):
  CP 67 #[pq F] w λe w'=>∃(aa:OA)(ac:Nat)(d:List RW),e=Ej (.bool true)/\(d.map (·.1)).Perm z/\(d.Pairwise λa b=>a.1.frm<=b.1.frm)/\
   Hp B w0 w' (.blk F (ldC T next U Y Z p aa d.length ac) 128::.own 204 8 aa d.length ac (d.flatMap rwC)::(d.map rwO++L)):=by
 apply Jco;have cd:K.length=C.length:=by rw[hK.length_eq,aQ]
 have aw:∀{W:Wq}{M:List Asn}{aa an ac},Hp B w0 W M->Asn.blk F (ldC T next U Y Z p aa an ac) 128∈M->∀{W':Wq},Eqw W W'->Ld PP 125 W' (Addr.add ⟨F,0,none⟩ 3) (.map (some p)):=λ{W M aa an ac} H m _ e=>by
  rw[add_lit];exact H.ld e tMIS m rfl
 have af:∀{W:Wq}{M:List Asn}{aa an ac},Hp B w0 W M->Asn.blk F (ldC T next U Y Z p aa an ac) 128∈M->∀{W':Wq},Eqw W W'->Ld PP 126 W' (Addr.add ⟨F,0,none⟩ 4) (.slice aa an ac):=λ{W M aa an ac} H m _ e=>by
  rw[add_lit];exact H.ld e vSR m rfl
 refine AA rfl ⟨some p,aw H (.head _) EQ4,AC (keysW_spec (some p) w) ?_⟩;rintro _ w1 ⟨q,rfl,H1⟩;have H2:=H.yC H1
 have a0:∃al,MapAt (Dn .i64) w1 p al/\al.map (·.1)=C.map (·.1):=by
  obtain⟨M,⟨W,hC,rfl⟩,hs,_⟩:=E5 (H2.ok (KBv cf p C) m2);refine⟨gC pwV W,hs.ok _ (.head _),?_⟩;rw[TA,<- hC,dB];rfl
 obtain⟨al,bj,a1⟩:=a0;have b9:al.length=C.length:=by have:=congrArg List.length a1;simpa using this
 refine⟨_,rfl,AC (sortedW_spec q p al w1 (H2.blk (.head _)) bj K (by rw[a1];exact hK) ar (λx hx=>bh x (hK.mem_iff.1 hx)) om) ?_⟩;rintro _ w2 ⟨ka,kc,rfl,H3⟩;have H4:=H2.yC H3
 refine⟨_,_,_,rfl,xI.mk (λm s w'=>∃(j:Nat)(aa:OA)(ac:Nat)(cf:Nq)(f:CM)(d:List RW)(X:List Asn),m=K.length-j/\j<=K.length/\s=(j:Int)/\d.map (·.1)=z.take j/\(∀i∈K.drop j,xP f i=xP C i)/\
  Hp B w0 w' (.blk F (ldC T next U Y Z p aa d.length ac) 128::KBv cf p f::.own 204 8 aa d.length ac (d.flatMap rwC)::.own 3 1 ka K.length kc (K.map (.int .i64))::(d.map rwO++(L++X)))) K.length ⟨0,none,0,cf,C,[],[.blk q [.map (some p)] 125],rfl,om,rfl,by simp,λi _=>rfl,?_⟩ ?_⟩
 ·exact(H4.yS 204 8).perm (by
   refine AL λff gg h0 hc ha G=>?_;have e1:([]:List RW).flatMap rwC=[]:=rfl;simp only[I,Q,e1,dK,jC,ha,hc,h0,aY,aO,aH];omega)
 rintro m s w3 nx ⟨j,aa,ac,cf,f,d,X,rfl,hj,rfl,ab,a3,H⟩ bk
 have ca:d.length=j:=by
  have:=congrArg List.length ab;rw[aQ,aJ]at this;omega
 refine AB (λh1=>?_) (λh1=>?_)
 ·have ae:j<K.length:=om;obtain⟨i,a4⟩:∃i,i=K[j]:=⟨_,rfl⟩;have hi:K[j]? =some i:=by rw[a4];exact aB ae
  obtain⟨r,hr⟩:∃r,z[j]? =some r:=⟨_,aB om⟩;have ag:K.drop j=i::K.drop (j+1):=by rw[a4];exact bM ae
  have a5:xP f i=xP C i:=a3 i (by rw[ag];exact .head _);have a6:yN f i=yN C i:=by rw[yN,a5];rfl
  obtain⟨v,hv⟩:∃v,xP f i=some v:=by
   rw[a5];exact dw.1 λe=>CY.1 e (hK.mem_iff.1 (aC hi))
  have J:=av j i r hi hr;rw[<- a6]at J;have bl:(yN f i).length<=1000000:=by rw[a6];exact bd i
  have bm:(K.map (Value.int .i64))[j]? =some (I i):=by rw[au,hi];rfl
  obtain⟨ad,bo,bp⟩:=H.ldO EQ4 xK m3 bm;have Hx:=aw H (.head _) (W':=w3) EQ4;obtain⟨N,pc,D,A,a7,H2,bq,O⟩:=Vw H.AX i;refine AA bo ⟨⟨om,h1⟩,i,by rw[aN,bV];exact bp,AA rfl ⟨some p,Hx,N,_,pc,H2.lkI tK EQ4 (.head _) a7,AC (lSortS_spec (yN f i) N pc bl H2.AX) ?_⟩⟩;rintro _ w4 ⟨rfl,H3⟩;have ah:(sortL (yN f i)).length=(yN f i).length:=(Nz _).length_eq;have a8:Fol.KCZ w4 N (yN f i).length (sortL (yN f i)):=⟨ah.symm,(H3.xh (.head _):Own w4 0 9 1 N (yN f i).length pc ((sortL (yN f i)).map sv)).cells⟩;refine⟨rfl,AC (Fol.decode_spec (sortL (yN f i)) N _ pc w4 a8 (by simp only[maxLen];omega)) ?_⟩;rintro _ w5 (⟨r',t,u,ak,rfl,H5⟩|⟨bv,_⟩);rotate_left
  ·exact(bv ⟨r,J⟩).elim
  obtain rfl:=Fol.decR_one J ak;have H6:=H3.yC H5;refine⟨_,_,_,_,_,_,_,_,_,_,_,rfl,λyb w6 bw=>?_⟩;have H7:=H6.new (cs:=KCe) EQ4 bw;refine Hp.stA H7 EQ4 Fol.Dh (vs:=y9 r t r.FP.length u) rfl rfl (by simp[KCe]) (cs':=y9 r t r.FP.length u) rfl λw7 H8=>?_;refine AQ (λh=>(h rfl).elim) (λ_=>?_);have mX:Asn.blk F (ldC T next U Y Z p aa d.length ac) 128∈Asn.blk yb (y9 r t r.FP.length u) 204::.own 260 2 t r.FP.length u (Fol.BL r.FP)::.own 9 1 N (yN f i).length pc ((sortL (yN f i)).map sv)::.Z6 p .i64 D::A::.blk F (ldC T next U Y Z p aa d.length ac) 128::.own 204 8 aa d.length ac (d.flatMap rwC)::.own 3 1 ka K.length kc (K.map (.int .i64))::(d.map rwO++(L++X)):=.tail _ m4;refine AA rfl ⟨aa,d.length,ac,af H8 mX EQ4,r.id,r.parent,r.kind,r.name,r.frm,r.to,r.text,t,r.FP.length,u,H8.ldA (o:=0) (cs:=y9 r t r.FP.length u) EQ4 Fol.Dh (.head _) rfl rfl,λam w8 bx=>?_⟩;have H9:=H8.drew.new (cs:=y9 r t r.FP.length u) EQ4 bx;refine⟨af H9 (.tail _ mX) EQ4,?_⟩
  have a9:Hp B w0 w8 (.own 204 8 aa d.length ac (d.flatMap rwC)::.blk am (y9 r t r.FP.length u) 204::.blk F (ldC T next U Y Z p aa d.length ac) 128::.Z6 p .i64 D::.own 9 1 N (yN f i).length pc ((sortL (yN f i)).map sv)::A::.own 260 2 t r.FP.length u (Fol.BL r.FP)::.own 3 1 ka K.length kc (K.map (.int .i64))::(d.map rwO++(L++(.blk yb (y9 r t r.FP.length u) 204::X)))):=H9.perm (by
   refine AL λff gg h0 hc ha G=>?_;simp only[ha,hc,h0,aY,aO,aH];omega)
  refine Hp.app veltR om a9 EQ4 (Blk.src (P:=PP) vundR (a9.blk m1) rfl rfl) (by simp only[maxLen];omega) om ?_;intro a2 c2 w9 b0;refine AA rfl ?_;rw[add_lit];refine Hp.st (o:=0+4) b0.BF EQ4 vSR rfl rfl (by simp[ldC]) (cs':=ldC T next U Y Z p a2 (d.length+1) c2) rfl λb1 b2=>⟨iR,?_⟩;have ao:xY D i (.slice N (yN f i).length pc)=D:=O v hv;have ba:xY D i (.slice N (sortL (yN f i)).length pc)=D:=by rw[ah];exact O v hv
  have b3:Hp B w0 b1 (.Z6 p .i64 (xY D i (.slice N (sortL (yN f i)).length pc))::.own 9 1 N (sortL (yN f i)).length pc ((sortL (yN f i)).map sv)::A::(.blk F (ldC T next U Y Z p a2 (d.length+1) c2) 128::.own 204 8 a2 (d.length+1) c2 (d.flatMap rwC++y9 r t r.FP.length u)::.blk am (y9 r t r.FP.length u) 204::.own 260 2 t r.FP.length u (Fol.BL r.FP)::.own 3 1 ka K.length kc (K.map (.int .i64))::(d.map rwO++(L++(.blk yb (y9 r t r.FP.length u) 204::X))))):=b2.perm (by
   refine AL λff gg h0 hc ha G=>?_;simp only[ba,ao,ah,ha,hc,h0,aY,aO,aH];omega)
  obtain⟨b4,b5⟩:=bq _ _ _ _ _ b3;refine bk (K.length-(j+1)) _ _ om ⟨j+1,a2,c2,b4,yR f i (sortL (yN f i)),d++[(r,t,u)],.blk am (y9 r t r.FP.length u) 204::.blk yb (y9 r t r.FP.length u) 204::X,rfl,om,rfl,?_,λi2 bb=>?_,b5.perm ?_⟩
  ·rw[ai,ab,aG om,(aA.1 hr).2];rfl
  ·rw[EP,if_neg,a3 i2 (by rw[ag];exact .tail _ bb)];intro e;have bc:(K.drop j).Pairwise λx y=>x<y:=ar.sublist (lF j K);rw[ag]at bc;have:=(bF.1 bc).1 i2 bb;omega
  have e1:(d++[(r,t,u)]).flatMap rwC=d.flatMap rwC++y9 r t r.FP.length u:=by simp[rwC]
  have e2:(d++[(r,t,u)]).length=d.length+1:=by simp
  have e3:(d++[(r,t,u)]).map rwO=d.map rwO++[.own 260 2 t r.FP.length u (Fol.BL r.FP)]:=by simp[rwO]
  refine AL λff gg h0 hc ha G=>?_;simp only[I,Q,e1,e2,e3,ha,hc,h0,aY,aO,aH];omega
 have ae:j=K.length:=om;rw[ae,<- bi,bJ]at ab;refine AA rfl ⟨aa,d.length,ac,af H (.head _) EQ4,AC (nSortR_spec d aa ac om H.BF) ?_⟩;rintro _ w4 ⟨rfl,ap,aq,b6,H2⟩;have b7:ap.length=d.length:=aq.length_eq;refine⟨rfl,aa,ac,ap,rfl,?_,b6,?_⟩
 ·rw[<- ab];exact aq.map _
 have b8:(ap.map rwO).Perm (d.map rwO):=aq.map _;rw[b7]
 exact Hp.BM (R:=KBv cf p f::.own 3 1 ka K.length kc (K.map (.int .i64))::X) (H2.perm (by
  refine AL λff gg h0 hc ha G=>?_;have:=G _ _ b8;simp only[this,ha,hc,h0,aY,aO,aH];omega))
end
end
end Go.Proofs.YtljenkbpnioipaaGreat
namespace Go.Nod
theorem qw:∀(a b:LU),Go.Lib.compareBytes a b<0↔a<b
 | [],[]=>by simp[Go.Lib.compareBytes]
 | [],y::b=>by simp[Go.Lib.compareBytes]
 |x::a,[]=>by simp[Go.Lib.compareBytes]
 |x::a,y::b=>by
  rw[Go.Lib.compareBytes,lK];by_cases c:x<y
  ·rw[if_pos c];simp[c]
  rw[if_neg c];by_cases d:y<x
  ·rw[if_pos d];have:x≠y:=λe=>by subst e;exact c d
   simp[c,this]
  rw[if_neg d,qw a b];have:x=y:=UInt8.le_antisymm (UInt8.not_lt.1 d) (UInt8.not_lt.1 c);simp[c,this]
end Go.Nod
namespace Go.Proofs.YtljenkbpnioipaaGreat
noncomputable section
open Go Go.Vc Go.Nod Go.Proofs Go.RowKit Go.Sort Go.Shelf
def lCmpStr_spec(a b:BA)(w:Wq):CP 259 #[.string a,.string b] w λe w'=>e=Ej (I (Go.Lib.compareBytes a.data.toList b.data.toList))/\w'=w:=by
 apply Jbq;refine⟨⟨I (Go.Lib.compareBytes a.data.toList b.data.toList),w,?_,_,rfl,rfl,rfl⟩⟩;rw[run_callFunc_extern Tryz.func298 (by kernel_rfl) (by kernel_rfl) (by kernel_rfl) (by kernel_rfl),Lib.run_compareString];rfl
def lCompare_spec(a b:BA)(w:Wq):CP 201 #[.string a,.string b] w λe w'=>e=Ej (I (Go.Lib.compareBytes a.data.toList b.data.toList))/\w'=w:=by
 apply Jbr;refine AC (lCmpStr_spec a b w) ?_;rintro _ _ ⟨rfl,rfl⟩;exact⟨_,rfl,rfl,rfl⟩
def atE(p:At):LV:=[.string p.1,.string p.2]
def cfA(x y:At):Int:=Go.Lib.compareBytes x.1.data.toList y.1.data.toList
def nItem1_ex(W:Wq)(x y:At):CP 200 #[.agg (atE x).toArray,.agg (atE y).toArray] W λe w'=>e=Ej (I (cfA x y))/\∃q c,w'=grow (W.drewN q) c:=by
 apply Jch;intro g h a i d b;have H:=((Hp.start W).nw a).nw b;refine⟨x.1,H.lo xx,y.1,H.lo xx,AC (lCompare_spec x.1 y.1 d) ?_⟩;rintro _ j ⟨rfl,f⟩;exact⟨_,rfl,rfl,0,_,by rw[f];exact PM a b⟩
def wagg2:∀w,(isAgg 142).run PP w=.ok true w:=λw=>Ih EX.agg w
def wsize2:∀w,(Go.sizeOf 142).run PP w=.ok 2 w:=λw=>yI EX.size w
section
variable{B:List Nat}{w0 w:World}{L:List Asn}
def nSortA_spec(l:List At)(a:OA)(c:Nat)(ag:l.length<=1000000)(hR:Rs l)(H:Hp B w0 w (.own 142 2 a l.length c (atC l)::L)):
  CP 199 #[.slice a l.length c,.func (.func 200) #[] #[]] w λe w'=>e=Ej (.tuple #[])/\Hp B w0 w' (.own 142 2 a l.length c (atC l)::L):=by
 by_cases q:l=[]
 ·subst q;have:=AnyF.slices_SortFunc_none (ρ:=KFY) {sfAL with} a c (.func (.func 200) #[] #[]) w;change CP 199 _ _ _ at this;refine Calls.mono this ?_;rintro e w' ⟨rfl,rfl⟩;exact⟨rfl,H⟩
 have ho:Own w 0 142 2 a l.length c (atC l):=H.xh (.head _);obtain⟨g,rfl⟩:=ho.D6 (by have:=fC.2 q;omega);obtain⟨x0,r0,ah⟩:∃x r,l=x::r:=dX q
 letI:Inhabited At:=⟨x0⟩
 have hk:∀x,(atE x).length=2:=λx=>rfl
 have u:∀x,∀v∈atE x,v.oneCell'=true:=λx v hv=>by
  simp only[atE,aP,iP,or_false]at hv;rcases hv with rfl|rfl<;>rfl
 have Y:∀l:List At,atC l=l.flatMap atE:=λl=>rfl;rw[Y]at H⊢;obtain⟨A,Z,s⟩:=H.sorted atE hk om rfl;have p:∀x y,ltOf cfA x y=dec (ltB x.1 y.1):=λx y=>MR (qw x.1.data.toList y.1.data.toList)
 have d:∀x y,ltOf cfA x y=false↔¬ltB x.1 y.1:=λx y=>by
  rw[p];constructor
  ·intro h o;rw[DI.2 o]at h;cases h
  intro h;exact(Bz h).symm
 have hO:SWO (ltOf cfA):=by
  refine⟨λx=>(d x x).2 (EF _),λx y z C o=>?_,λx y z C o=>(d x z).2 λt=>?_⟩
  ·rw[p,DI]at*;exact Fq C o
  have h4:=(d x y).1 C;have h5:=(d y z).1 o;rcases P6 x.1 y.1 with h|h|h
  ·exact h4 h
  ·rw[h]at t;exact h5 t
  exact h5 (Fq h t)
 have hs:=AnyQ.slices_SortFunc (ρ:=KFY) sfAL 2 wagg2 wsize2 atE hk u cfA hO 200 #[] g 0 c l.toArray w
  (enters_of Tryz.func200 (by kernel_rfl) rfl)
  (λm os dk ak x y=>nItem1_ex _ x y) A Z (by simp;omega)
 change CP 199 _ _ _ at hs;simp only[dV]at hs;refine Calls.mono hs ?_;rintro e w' ⟨rfl,f,n,os,hp,D,rfl⟩;have F:f.size=l.length:=by have:=hp.1;simpa using this
 have G:f.toList.Perm l:=by
  have:=hp.2.2;have e1:f.extract 0 l.length=f:=by rw[<- F];simp
  have e2:l.toArray.extract 0 l.length=l.toArray:=by
   simp only[og,jS,fF,kN];rw[aV (aZ _)]
  rw[e1,e2]at this;simpa using this
 have aa:f.toList.Pairwise λa b=>¬ltB b.1 a.1:=by
  rw[dE];intro i j U J ab;have ac:j<f.size:=by simpa using J
  have ad:i<f.size:=by simpa using U
  have:=D i j (bZ _) ab om;rw[d,getElem!_pos f i ad,getElem!_pos f j ac]at this;simpa using this
 have K:l.Pairwise λa b=>a.1≠b.1:=by
  refine List.Pairwise.imp (R:=λa b:At=>ltB a.1 b.1) (λ{a b} h e=>?_) hR;rw[e]at h;exact EF _ h
 have ae:f.toList=l:=by
  refine dh (le:=λa b=>¬ltB b.1 a.1) (λa b ha X C o=>?_) aa (hR.imp λh o=>V7 h o) G
  have t:a.1=b.1:=by
   rcases P6 a.1 b.1 with h|h|h
   ·exact(o h).elim
   ·exact h
   exact(C h).elim
  have af:=G.mem_iff.1 ha;obtain⟨i,U⟩:=bD af;obtain⟨j,J⟩:=bD X;obtain⟨M,N⟩:=aA.1 U;obtain⟨O,T⟩:=aA.1 J;rcases nK i j with h|h|h
  ·exact absurd t (by rw[<- N,<- T];exact dE.1 K i j M O h)
  ·subst h;rw[U]at J;exact Option.some.inj J
  exact absurd t.symm (by rw[<- N,<- T];exact dE.1 K j i O M h)
 have X:=s n os f.toList (by rw[bT];exact F);rw[jD,ae]at X;exact⟨rfl,X⟩
end
def Tv(W:Lj)(level:Int)(r:Fol.Rec):It:=⟨level,{kind:=r.kind,name:=if r.kind=1 then atW W r.name else none0,text:=r.text,FP:=r.FP.map λa=>(atW W a.1,a.2)}⟩
structure vI(W:Lj)(r:Fol.Rec):Prop where
 name:r.kind=1->r.name<=4000/\atW W r.name≠none0
 at_:∀p∈r.FP,p.1<=4000/\atW W p.1≠none0
 rs:Rs (r.FP.map λa=>(atW W a.1,a.2))
 len:r.FP.length<=20
def itZ:LV:=[I 0,I 0,.string ⟨#[]⟩,.string ⟨#[]⟩,.slice none 0 0]
def wW:Agg PP 260 2:=DN (by kernel_rfl)
def nItem_spec{w:Wq}(xb ub wb:Nat)(O cs:LV)(Tx Tt:TypeId)(hx:Blk w xb O Tx)(af:O[0]? =some (pq ub))(ht:Blk w ub cs Tt)(h2:cs[2]? =some (pq wb)){wf:Nq}{W:Lj}(hW:(Az wf wb W).ok w)
  (r:Fol.Rec) (R:OA) (rc:Nat) (hA:Cells w R (Fol.BL r.FP)) (hk:vI W r) (level:Int):
  CP 135 #[pq xb,.agg (y9 r R r.FP.length rc).toArray,I level] w λe w'=>∃a c,e=Ej (.tuple #[.agg (itC (Tv W level r) (a,r.FP.length,c)).toArray,.bool true])/\
   Hp [] w w' [.own 142 2 a r.FP.length c (atC (Tv W level r).x.FP)]:=by
 apply Jcg;have a0:=hk.len;intro nb w1 ag zb w2 ah;have H:=((Hp.start w).nw ag).nw ah
 have T:∀{g:Wq}{j:Nat}{t:TypeId}{v:Value},Chg [] w g->Scl PP t->cs[j]? =some v->Ld PP t g (Addr.add ⟨ub,0,none⟩ j) v:=λ{g j t v} G S hj=>by
  rw[add_lit,cZ];exact(ht.chg G (by simp)).ld S.agg hj
 have U:∀{g:Wq},Chg [] w g->Ld PP 23 g ⟨xb,0,none⟩ (pq ub):=λ{g} G=>(hx.chg G (by simp)).ld rPT.agg af
 have Y:∀{g:Wq}{n:Int},Chg [] w g->n<=4000->atW W n≠none0->CP 198 #[pq wb,I n] g λe w'=>e=Ej (.tuple #[.string (atW W n),.bool true])/\Hp [] g w' []:=λ{g n} G hn ak=>by
  have:=xName_spec (Zr hW G) n om;rw[decide_eq_true ak]at this;exact this
 obtain⟨b,q⟩:∃b,b=Tv W level r:=⟨_,rfl⟩;have d:b.x.FP=r.FP.map λa=>(atW W a.1,a.2):=by rw[q];rfl
 have D:b.x.name=if r.kind=1 then atW W r.name else none0:=by rw[q];rfl
 have h:b.level=level/\b.x.kind=r.kind/\b.x.text=r.text:=by rw[q];exact⟨rfl,rfl,rfl⟩
 rw[<- q];refine⟨r.kind,H.lo xK,r.text,H.lo xx,λib w3 al=>?_⟩;have H3:=H.nw al;refine Hp.stA H3 EQ4 CB rfl rfl (by simp[itZ]) (cs':=[I level,I r.kind,.string none0,.string r.text,.slice none 0 0]) rfl λw4 K=>?_;obtain⟨u,f⟩:∃u:Sl3->LV,u=λs=>[I level,I r.kind,.string b.x.name,.string r.text,.slice s.1 s.2.1 s.2.2]:=⟨_,rfl⟩;have Z:∀s,u s=itC b s:=λs=>by rw[f,itC,h.1,h.2.1,h.2.2]
 refine xM.mk (λt w'=>t=true/\Hp [] w w' (.blk ib (u (none,0,0)) 123::.blk zb itZ 123::.blk nb (y9 r R r.FP.length rc) 204::[])) ?_ ?_;rotate_left
 ·intro J hJ;refine⟨r.kind,K.lo xK,AB (λz=>?_) (λz=>hJ _ _ ⟨rfl,?_⟩)⟩
  ·obtain⟨n1,n2⟩:=hk.name z;refine AA rfl ⟨_,U K.drew.chg,AA rfl ⟨_,T K.drew.chg rPB h2,r.name,K.lo xK,AC (Y K.drew.chg n1 n2) ?_⟩⟩;rintro _ w5 ⟨rfl,H5⟩;refine⟨_,_,rfl,Hp.st (K.drew.xN H5) EQ4 xx rfl rfl (by simp) ?_ λw6 H6=>hJ _ _ ⟨rfl,H6⟩⟩;rw[f,D,if_pos z];rfl
  have:u (none,0,0)=[I level,I r.kind,.string none0,.string r.text,.slice none 0 0]:=by rw[f,D,if_neg z]
  rw[this];exact K
 rintro t w5 ⟨rfl,H5⟩;refine⟨R,r.FP.length,rc,H5.ld (o:=7) (cs:=y9 r R r.FP.length rc) EQ4 Fol.IM m2 rfl,?_⟩;have H6:=(H5.yS 142 2).AX;refine xI.mk (λm s w'=>∃(i:Nat)(a:OA)(c:Nat)(X:List Asn),m=r.FP.length-i/\i<=r.FP.length/\s=(true,(i:Int))/\Hp [] w w' (.blk ib (u (a,i,c)) 123::.own 142 2 a i c (atC (b.x.FP.take i))::.blk zb itZ 123::X)) r.FP.length ⟨0,none,0,_,rfl,om,rfl,H6⟩ ?_;rintro m s w6 nx ⟨i,a,c,X,rfl,hi,rfl,H⟩ am;refine AB (λh3=>?_) (λh3=>?_)
 ·have A:i<r.FP.length:=om;obtain⟨p,an⟩:∃p,p=r.FP[i]:=⟨_,rfl⟩;have hp:r.FP[i]? =some p:=by rw[an];exact aB A
  obtain⟨p1,p2⟩:=hk.at_ p (aC hp);have aa:=hA.chg H.chg (by simp)
  have M:((Fol.BL r.FP).drop (i*2)).take 2=[I p.1,.string p.2]:=by
   apply dN;intro k;by_cases ao:k<2
   ·rw[bn ao,dm];have e:∀v,(Fol.JC p)[k]? =some v->(Fol.BL r.FP)[i*2+k]? =some v:=λv=>Fol.flat_get r.FP i k p v hp;rcases(by omega:k=0\/k=1)with rfl|rfl
    ·exact e _ rfl
    exact e _ rfl
   rw[bC (by rw[aJ];omega),bC (by simp;omega)]
  obtain⟨ad,ab⟩:=aa.some (λe=>by rw[e]at M;simp at M);refine AA ab ⟨⟨om,h3⟩,p.1,p.2,aa.ldA wW ab M rfl,λyb w7 ap=>?_⟩;have H7:=H.nw ap;refine Hp.sA H7 wW (cs':=[I p.1,.string p.2]) λw8 C=>?_;refine AA rfl ⟨_,U C.drew.chg,AA rfl ⟨_,T C.drew.chg rPB h2,p.1,C.lo xK,AC (Y C.drew.chg p1 p2) ?_⟩⟩;rintro _ w9 ⟨rfl,H9⟩;have N:=C.drew.xN H9;refine⟨_,_,rfl,?_⟩;refine xM.mk (λt w'=>t=true/\w'=w9) ?_ (λJ hJ=>Cc (y:=_) (hJ _ _ ⟨rfl,rfl⟩));rintro t a1 ⟨rfl,hw⟩;obtain rfl:=hw.symm;refine⟨a,i,c,N.ld (o:=4) (cs:=u (a,i,c)) EQ4 yx m1 (by rw[f];rfl),p.2,N.lo xx,λvb a3 ac=>?_⟩;have ae:=N.nw ac;refine Hp.app uy om ae.ET EQ4 (Blk.src (P:=PP) uj (ae.blk (.head _)) rfl rfl) (by simp only[maxLen];omega) om ?_;intro a2 c2 a4 aq;refine Hp.st (o:=4) aq.ET EQ4 yx rfl rfl (by rw[f];simp) (cs':=u (a2,i+1,c2)) (by rw[f];rfl) λa5 ar=>⟨iR,am (r.FP.length-(i+1)) _ _ om ⟨i+1,a2,c2,.blk vb [.string (atW W p.1),.string p.2] 142::.blk yb [I p.1,.string p.2] 260::X,rfl,om,rfl,ar.perm ?_⟩⟩
  have e1:atC (b.x.FP.take (i+1))=atC (b.x.FP.take i)++[.string (atW W p.1),.string p.2]:=by
   have av:i<b.x.FP.length:=by rw[d,aQ];exact A
   have aw:b.x.FP[i]=(atW W p.1,p.2):=by
    have:=congrArg (λl=>l[i]?) d;simp only[au,hp,dG]at this;exact(aA.1 this).2
   rw[aG av,Gp,aw];rfl
  refine AL λff gg h0 G ha a6=>?_;simp only[I,Q,e1,ha,G,h0,aY,aO,aH];omega
 have A:i=b.x.FP.length:=by rw[d,aQ];omega
 have F:b.x.FP.length=r.FP.length:=by rw[d,aQ]
 rw[A,bJ]at H;refine⟨a,b.x.FP.length,c,H.ld (o:=4) (cs:=u (a,b.x.FP.length,c)) EQ4 yx (.head _) (by rw[f];rfl),AC (nSortA_spec b.x.FP a c om (by rw[d];exact hk.rs) H.AX) ?_⟩;rintro _ w7 ⟨rfl,H7⟩;rw[Z]at H7;refine⟨rfl,b.level,b.x.kind,b.x.name,b.x.text,a,b.x.FP.length,c,H7.loA CB,?_⟩;refine Hp.stA H7.BF EQ4 CB (vs:=itC b (a,b.x.FP.length,c)) rfl rfl (by simp[itZ]) (cs':=itC b (a,b.x.FP.length,c)) rfl λw8 C=>?_;refine⟨b.level,b.x.kind,b.x.name,b.x.text,a,b.x.FP.length,c,C.loA CB,a,c,by rw[<- F];rfl,?_⟩;rw[F]at C;exact Hp.BM (L:=[_]) C.AX
end
end Go.Proofs.YtljenkbpnioipaaGreat
