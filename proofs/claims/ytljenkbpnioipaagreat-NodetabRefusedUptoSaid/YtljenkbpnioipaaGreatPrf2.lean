/- Part 2 of 6 of the proof of nodetabRefused_holds: for every input, from every world that may be reached. -/
import Derived.Test.YtljenkbpnioipaaGreatPrf1
set_option linter.unusedVariables false
set_option linter.unusedSimpArgs false
set_option linter.defProp false
set_option maxRecDepth 100000
set_option maxHeartbeats 4000000
namespace Go.Nod
structure NX where
 kind:Int
 name:ByteArray
 text:ByteArray
 attrs:List (ByteArray×ByteArray)
structure Rw where
 id:Int
 level:Int
 x:NX
inductive Fo where
 |nil
 |cons (id:Int) (x:NX) (kids sibs:Fo)
def flat:Fo->Int->List Rw
 |.nil,_=>[]
 |.cons i x k s,l=>⟨i,l,x⟩::(flat k (l+1)++flat s l)
def ids:Fo->List Int
 |.nil=>[]
 |.cons i _ k s=>i::(ids k++ids s)
def tops:Fo->List Int
 |.nil=>[]
 |.cons i _ _ s=>i::tops s
def AY:Fo->Int->Int->Option (Int×NX×Fo)
 |.nil,_,_=>none
 |.cons j x k s,p,i=>if j=i then some (p,x,k)else match AY k j i with
  |some r=>some r
  |none=>AY s p i
theorem BI:∀(F:Fo)(l:Int),(flat F l).map (·.id)=ids F
 |.nil,_=>rfl
 |.cons i x k s,l=>by rw[flat,ids,aj,ai,BI k,BI s]
theorem Be:∀(F:Fo)(l:Int),∀r∈flat F l,l<=r.level
 |.nil,_,r,h=>by cases h
 |.cons i x k s,l,r,h=>by
  rw[flat]at h;rcases aP.1 h with rfl|h
  ·exact iQ _
  ·rcases aW.1 h with h|h
   ·have:=Be k (l+1) r h;omega
   ·exact Be s l r h
theorem FY:∀(F:Fo)(l:Int)(r:Rw),(flat F l).head? =some r->r.level=l
 |.nil,_,r,h=>by cases h
 |.cons i x k s,l,r,h=>by
  rw[flat,List.head?_cons]at h;cases h;rfl
theorem Az:∀(F:Fo)(p i:Int),AY F p i≠none↔i∈ids F
 |.nil,p,i=>by simp[AY,ids]
 |.cons j x k s,p,i=>by
  rw[AY,ids];by_cases h:j=i
  ·simp[h]
  ·rw[if_neg h,aP,aW];have a:=Az k j i;have c:=Az s p i;cases hl:AY k j i with
   |some r=>
    rw[hl]at a;simp at a⊢;exact .inr (.inl a)
   |none=>
    rw[hl]at a;have a:i∉ids k:=λd=>(a.2 d) rfl;rw[c];constructor
    ·exact λh=>.inr (.inr h)
    ·rintro(b|b|b)
     ·exact absurd b.symm h
     ·exact absurd b a
     ·exact b
def under(i:Int)(f:Fo->Fo):Fo->Fo
 |.nil=>.nil
 |.cons j x k s=>if j=i then .cons j x (f k) s else .cons j x (under i f k) (under i f s)
def cutF(i:Int):Fo->Fo
 |.nil=>.nil
 |.cons j x k s=>if j=i then s else .cons j x (cutF i k) (cutF i s)
def EO(i:Int)(f:NX->NX):Fo->Fo
 |.nil=>.nil
 |.cons j x k s=>if j=i then .cons j (f x) k s else .cons j x (EO i f k) (EO i f s)
theorem Gl{i:Int}{f:Fo->Fo}:∀(F:Fo),i∉ids F->under i f F=F
 |.nil,_=>rfl
 |.cons j x k s,h=>by
  rw[ids,aP,aW]at h;rw[under,if_neg (λe=>h (.inl e.symm)),Gl k (λe=>h (.inr (.inl e))),Gl s (λe=>h (.inr (.inr e)))]
theorem Fh{i:Int}:∀(F:Fo),i∉ids F->cutF i F=F
 |.nil,_=>rfl
 |.cons j x k s,h=>by
  rw[ids,aP,aW]at h;rw[cutF,if_neg (λe=>h (.inl e.symm)),Fh k (λe=>h (.inr (.inl e))),Fh s (λe=>h (.inr (.inr e)))]
theorem Iq{i:Int}{f:NX->NX}:∀(F:Fo),i∉ids F->EO i f F=F
 |.nil,_=>rfl
 |.cons j x k s,h=>by
  rw[ids,aP,aW]at h;rw[EO,if_neg (λe=>h (.inl e.symm)),Iq k (λe=>h (.inr (.inl e))),Iq s (λe=>h (.inr (.inr e)))]
structure Mid(F:Fo)(p i l:Int)(q:Int)(x:NX)(k:Fo)(A B:List Rw)(v:Int):Prop where
 fl:flat F l=A++(⟨i,v,x⟩::(flat k (v+1)++B))
 un:∀f,flat (under i f F) l=A++(⟨i,v,x⟩::(flat (f k) (v+1)++B))
 cu:flat (cutF i F) l=A++B
 tu:∀f,flat (EO i f F) l=A++(⟨i,v,f x⟩::(flat k (v+1)++B))
 le:l<=v
 next:∀r,B.head? =some r->r.level<=v
 up:q=p/\v=l\/l<v/\∃A1 y A2,A=A1++⟨q,v-1,y⟩::A2/\∀z∈A2,v<=z.level
theorem CU:∀(F:Fo)(p i l:Int){q:Int}{x:NX}{k:Fo},(ids F).Nodup->AY F p i=some (q,x,k)->∃(A B:List Rw)(v:Int),Mid F p i l q x k A B v
 |.nil,p,i,l,q,x,k,_,h=>by cases h
 |.cons j y kk s,p,i,l,q,x,k,hn,h=>by
  rw[ids,bM,bD]at hn;obtain⟨L,g,m,n⟩:=hn;rw[AY]at h;split at h
  ·rename_i e;cases h;subst e;exact⟨[],flat s l,l,rfl,λf=>by rw[under,if_pos rfl];rfl,by rw[cutF,if_pos rfl];rfl,λf=>by rw[EO,if_pos rfl];rfl,iQ _,λr a=>oQ (FY s l r a),.inl ⟨rfl,rfl⟩⟩
  ·rename_i e;split at h
   ·rename_i r a;cases h;have M:i∈ids kk:=(Az kk j i).1 (by rw[a];simp);have o:i∉ids s:=λh=>n i M i h rfl;obtain⟨A,B,v,d,u,w,C,J,D,c⟩:=CU kk j i (l+1) g a;refine⟨⟨j,l,y⟩::A,B++flat s l,v,by rw[flat,d];simp,λf=>by rw[under,if_neg e,Gl s o,flat,u];simp,by rw[cutF,if_neg e,Fh s o,flat,w];simp,λf=>by rw[EO,if_neg e,Iq s o,flat,C];simp,om,λr a=>?_,.inr ⟨om,?_⟩⟩
    ·cases B with
     |nil=>
      have:=FY s l r a;omega
     |cons b t=>exact D r a
    ·rcases c with⟨rfl,rfl⟩|⟨K,A1,z,A2,rfl,G⟩
     ·refine⟨[],y,A,by rw[show l+1-1=l by omega];rfl,λz N=>Be kk (l+1) z ?_⟩;rw[d];exact aS _ N
     ·exact⟨⟨j,l,y⟩::A1,z,A2,rfl,G⟩
   ·rename_i a;have H:i∉ids kk:=λO=>(Az kk j i).2 O a;obtain⟨A,B,v,d,u,w,C,J,D,c⟩:=CU s p i l m h;refine⟨⟨j,l,y⟩::(flat kk (l+1)++A),B,v,by rw[flat,d];simp,λf=>by rw[under,if_neg e,Gl kk H,flat,u];simp,by rw[cutF,if_neg e,Fh kk H,flat,w];simp,λf=>by rw[EO,if_neg e,Iq kk H,flat,C];simp,J,D,?_⟩;rcases c with c|⟨K,A1,z,A2,rfl,G⟩
    ·exact .inl c
    ·exact .inr ⟨K,⟨j,l,y⟩::(flat kk (l+1)++A1),z,A2,by simp,G⟩
def D6(l:List Rw)(i:Int):Option Nat:=l.findIdx? λr=>decide (r.id=i)
def endF(v:Int):Nat->List Rw->Nat
 |n,[]=>n
 |n,r::t=>if r.level<=v then n else endF v (n+1) t
def endR(l:List Rw)(k:Nat):Nat:=match l[k]? with
 |some r=>endF r.level (k+1) (l.drop (k+1))
 |none=>k+1
theorem Q8{v:Int}:∀(X:List Rw)(n:Nat)(B:List Rw),(∀r∈X,v<r.level)->(∀r,B.head? =some r->r.level<=v)->endF v n (X++B)=n+X.length
 | [],n,[],_,_=>rfl
 | [],n,b::t,_,h=>by
  rw[aN,endF,if_pos (h b rfl)];rfl
 |x::X,n,B,hX,hB=>by
  have c:=hX x (.head _);rw[aC,endF,if_neg om,Q8 X (n+1) B (λr a=>hX r (.tail _ a)) hB,aK];omega
def YE{A:List Rw}{r:Rw}{B:List Rw}(h:∀x∈A,x.id≠r.id):D6 (A++r::B) r.id=some A.length:=by
 rw[D6,List.findIdx?_append]
 have a:A.findIdx? (λx=>decide (x.id=r.id))=none:=by
  rw[jJ];intro x b;simpa using h x b
 rw[a,lI];simp
def end_mid{A:List Rw}{r:Rw}{k:Fo}{B:List Rw}(a:∀x,B.head? =some x->x.level<=r.level):endR (A++r::(flat k (r.level+1)++B)) A.length=A.length+1+(flat k (r.level+1)).length:=by
 have b:(A++r::(flat k (r.level+1)++B))[A.length]? =some r:=by rw[bg (aZ _),iE];rfl
 have c:(A++r::(flat k (r.level+1)++B)).drop (A.length+1)=flat k (r.level+1)++B:=by
  rw[kW,iI om,aN,gI];rfl
 rw[endR,b];rw[c];exact Q8 _ _ _ (λx d=>by have:=Be k _ x d;omega) a
def EM(v:Int)(o:Int):List Rw->Int
 | []=>o
 |r::t=>EM v (if r.level=v-1 then r.id else o) t
def Au(l:List Rw)(k:Nat):Int:=match l[k]? with
 |some r=>EM r.level 0 (l.take k)
 |none=>0
theorem Jj{v:Int}:∀(A:List Rw)(o:Int),(∀z∈A,v<=z.level)->EM v o A=o
 | [],o,_=>rfl
 |r::t,o,h=>by
  have:=h r (.head _);rw[EM,if_neg om];exact Jj t o λz a=>h z (.tail _ a)
theorem Kz{v:Int}:∀(A B:List Rw)(o:Int),EM v o (A++B)=EM v (EM v o A) B
 | [],B,o=>rfl
 |r::t,B,o=>by rw[aC,EM,EM,Kz t B]
def parent_mid{A1 A2 B:List Rw}{q v:Int}{y:NX}{r:Rw}(a:r.level=v)(h:∀z∈A2,v<=z.level):Au ((A1++⟨q,v-1,y⟩::A2)++r::B) (A1++(⟨q,v-1,y⟩:Rw)::A2).length=q:=by
 have b:((A1++(⟨q,v-1,y⟩:Rw)::A2)++r::B)[(A1++(⟨q,v-1,y⟩:Rw)::A2).length]? =some r:=by rw[bg (aZ _),iE];rfl
 rw[Au,b];dsimp only;rw[iJ,a,Kz,EM,if_pos rfl,Jj A2 q h]
def kidF(v:Int):Nat->List Rw->LN0
 |_,[]=>[]
 |n,r::t=>if r.level=v+1 then n::kidF v (n+1) t else kidF v (n+1) t
theorem QL{v:Int}:∀(X Y:List Rw)(n:Nat),kidF v n (X++Y)=kidF v n X++kidF v (n+X.length) Y
 | [],Y,n=>rfl
 |r::t,Y,n=>by
  have a:=QL (v:=v) t Y (n+1);have e:n+(r::t).length=n+1+t.length:=by rw[aK];omega
  rw[aC,kidF,kidF,a,e];split
  ·rfl
  ·rfl
theorem Vr{v:Int}:∀(X:List Rw)(n:Nat),(∀r∈X,v+1<r.level)->kidF v n X=[]
 | [],n,_=>rfl
 |r::t,n,h=>by
  have:=h r (.head _);rw[kidF,if_neg om];exact Vr t (n+1) λz a=>h z (.tail _ a)
def begins:Fo->Nat->LN0
 |.nil,_=>[]
 |.cons _ _ k s,n=>n::begins s (n+1+(ids k).length)
def BU(F:Fo)(l:Int):(flat F l).length=(ids F).length:=by rw[<- BI F l,aQ]
theorem Us:∀(F:Fo)(v:Int)(n:Nat),kidF v n (flat F (v+1))=begins F n
 |.nil,_,_=>rfl
 |.cons i x k s,v,n=>by
  rw[flat,kidF,if_pos rfl,QL,Vr _ _ (λr a=>by have:=Be k _ r a;omega),aN,BU,Us s v,begins]
theorem SI:∀(F:Fo)(n:Nat),(begins F n).length=(tops F).length
 |.nil,_=>rfl
 |.cons i x k s,n=>by rw[begins,tops,aK,aK,SI s]
def app:Fo->Fo->Fo
 |.nil,G=>G
 |.cons i x k s,G=>.cons i x k (app s G)
theorem Tn:∀(F G:Fo)(l:Int),flat (app F G) l=flat F l++flat G l
 |.nil,G,l=>rfl
 |.cons i x k s,G,l=>by rw[app,flat,flat,Tn s G l];simp
theorem IM:∀(F G:Fo),tops (app F G)=tops F++tops G
 |.nil,G=>rfl
 |.cons i x k s,G=>by rw[app,tops,tops,IM s G];rfl
def putAt:Nat->Fo->Fo->Fo
 |0,N,F=>app N F
 |n+1,N,.nil=>N
 |n+1,N,.cons i x k s=>.cons i x k (putAt n N s)
theorem Xe:∀(n:Nat)(N F:Fo),n<=(tops F).length->tops (putAt n N F)=(tops F).take n++tops N++(tops F).drop n
 |0,N,F,_=>by rw[putAt,IM];simp
 |n+1,N,.nil,h=>by simp[tops]at h
 |n+1,N,.cons i x k s,h=>by
  rw[putAt,tops,tops,Xe n N s (by rw[tops,aK]at h;omega)];simp
def JE(F:Fo)(n:Nat):Nat:=(begins F 0).getD n (ids F).length
theorem PV:∀(F:Fo)(m n:Nat),begins F (m+n)=(begins F n).map (· +m)
 |.nil,_,_=>rfl
 |.cons i x k s,m,n=>by
  rw[begins,begins,aj,show m+n+1+(ids k).length=m+(n+1+(ids k).length) by omega,PV s m,gU m n]
theorem UZ:∀(n:Nat)(N F:Fo)(l:Int),n<=(tops F).length->flat (putAt n N F) l=(flat F l).take (JE F n)++flat N l++(flat F l).drop (JE F n)
 |0,N,F,l,_=>by
  have e:JE F 0=0:=by
   cases F with
   |nil=>rfl
   |cons i x k s=>rfl
  rw[putAt,Tn,e];simp
 |n+1,N,.nil,l,h=>by simp[tops]at h
 |n+1,N,.cons i x k s,l,h=>by
  have a:n<=(tops s).length:=by rw[tops,aK]at h;omega
  have e:JE (.cons i x k s) (n+1)=1+(ids k).length+JE s n:=by
   rw[JE,JE,begins,List.getD_cons_succ,show 0+1+(ids k).length=(1+(ids k).length)+0 by omega,PV s,ids,aK,aF];simp;cases(begins s 0)[n]? with
   |none=>simp;omega
   |some b=>simp;omega
  have c:(⟨i,l,x⟩::flat k (l+1):List Rw).length=1+(ids k).length:=by rw[aK,BU];omega
  have d:flat (.cons i x k s) l=(⟨i,l,x⟩::flat k (l+1))++flat s l:=rfl;have f:flat (putAt (n+1) N (.cons i x k s)) l=(⟨i,l,x⟩::flat k (l+1))++flat (putAt n N s) l:=rfl;rw[f,UZ n N s l a,e,d,<- c];generalize(⟨i,l,x⟩::flat k (l+1):List Rw)=X;rw[List.take_append,kW,aV (kX _ _),iI (show X.length<=_ from kX _ _),gI];simp
def Steps:Int->List Rw->Prop
 |_,[]=>True
 |u,r::t=>r.level<=u+1/\Steps r.level t
theorem Ou:∀(X Y:List Rw)(u:Int),Steps u (X++Y)->Steps u X
 | [],Y,u,_=>trivial
 |r::t,Y,u,h=>⟨h.1,Ou t Y _ h.2⟩
theorem SL:∀(X:List Rw)(r:Rw)(Y:List Rw)(u:Int),Steps u (X++r::Y)->Steps r.level Y
 | [],r,Y,u,h=>h.2
 |x::t,r,Y,u,h=>SL t r Y _ h.2
theorem I5:∀(n:Nat)(L:List Rw)(b:Int),L.length<=n->(∀r∈L,b<=r.level)->Steps (b-1) L->∃F,flat F b=L
 |n,[],b,_,_,_=>⟨.nil,rfl⟩
 |n+1,r::t,b,hn,hb,hs=>by
  rw[aK]at hn;have C:=hb r (.head _);have D:r.level<=b-1+1:=hs.1;have c:r.level=b:=om;obtain⟨X,f⟩:∃X,X=t.takeWhile λx=>decide (b<x.level):=⟨_,rfl⟩;obtain⟨Y,g⟩:∃Y,Y=t.dropWhile λx=>decide (b<x.level):=⟨_,rfl⟩;have j:t=X++Y:=by rw[f,g,List.takeWhile_append_dropWhile]
  have d:∀x∈X,b+1<=x.level:=λx m=>by
   rw[f]at m;have:=fJ.1 (List.all_takeWhile (p:=λx=>decide (b<x.level))) x m;have:=of_decide_eq_true this;omega
  have a:Steps b t:=by have:=hs.2;rwa [c]at this
  rw[j]at a hn hb;rw[aF]at hn;obtain⟨K,s⟩:=I5 n X (b+1) om d (by rw[show b+1-1=b by omega];exact Ou X Y b a)
  have e:Steps (b-1) Y:=by
   cases hYc:Y with
   |nil=>trivial
   |cons y Z=>
    have u:y.level<=b:=by
     have:¬(decide (b<y.level)=true):=by
      have o:=List.head?_dropWhile_not (p:=λx:Rw=>decide (b<x.level)) t;rw[<- g,hYc]at o;simpa using o
     exact jA.1 λh=>this (decide_eq_true h)
    rw[hYc]at a;exact⟨om,SL X y Z b a⟩
  obtain⟨S,w⟩:=I5 n Y b om (λy z=>hb y (.tail _ (aO _ z))) e;refine⟨.cons r.id r.x K S,?_⟩;rw[flat,s,w,j];obtain⟨G,H,J⟩:=r;dsimp only at c⊢;rw[c]
def GZ(l:List Rw)(less:Int):List Rw:=l.map λr=> {r with level:=r.level-less}
def D5(l:List Rw)(k:Nat):LN0:=match l[k]? with
 |some r=>kidF r.level (k+1) ((l.take (endR l k)).drop (k+1))
 |none=>[]
def Gh(l:List Rw)(k n:Nat):Nat:=(D5 l k).getD n (endR l k)
def J5(l:List Rw)(n:Nat)(m:List Rw):List Rw:=l.take n++m++l.drop n
theorem GG:∀(F:Fo)(l d:Int),GZ (flat F l) d=flat F (l-d)
 |.nil,_,_=>rfl
 |.cons i x k s,l,d=>by
  have a:=GG k (l+1) d;have b:=GG s l d;rw[GZ]at a b⊢;rw[flat,flat,aj,ai,a,b,show l+1-d=l-d+1 by omega]
section
variable{F:Fo}{p i l q:Int}{x:NX}{k:Fo}{A B:List Rw}{v:Int}
def Mid.endN(h:Mid F p i l q x k A B v):endR (flat F l) A.length=A.length+1+(ids k).length:=by
 rw[h.fl,end_mid (r:=⟨i,v,x⟩) h.next,BU]
def Mid.find(h:Mid F p i l q x k A B v)(a:(ids F).Nodup):D6 (flat F l) i=some A.length:=by
 have b:=BI F l;rw[h.fl]at b⊢;refine YE (r:=⟨i,v,x⟩) λz c e=>?_;rw[<- b,ai,bD]at a;exact a.2.2 z.id (aT.2 ⟨z,c,rfl⟩) i (by rw[aj];exact .head _) e
def Mid.here(h:Mid F p i l q x k A B v):(flat F l)[A.length]? =some ⟨i,v,x⟩:=by
 rw[h.fl,bg (aZ _),iE];rfl
def Mid.kids(h:Mid F p i l q x k A B v):D5 (flat F l) A.length=begins k (A.length+1):=by
 have a:=h.endN;rw[D5,h.here];dsimp only;rw[a,h.fl]
 have e:((A++(⟨i,v,x⟩:Rw)::(flat k (v+1)++B)).take (A.length+1+(ids k).length)).drop (A.length+1)=flat k (v+1):=by
  rw[gp,kW,iI om,aN,gI,gI];show(flat k (v+1)++B).take (ids k).length=_;rw[<- BU k (v+1),iJ]
 rw[e,Us]
theorem Mid.spot(h:Mid F p i l q x k A B v)(n:Nat):Gh (flat F l) A.length n=A.length+1+JE k n:=by
 rw[Gh,h.kids,h.endN,JE,show A.length+1=(A.length+1)+0 by omega,PV];simp;cases(begins k 0)[n]? with
 |none=>rfl
 |some b=>simp;omega
theorem spotN_le(k:Fo)(n:Nat):JE k n<=(ids k).length:=by
 have c:∀(k:Fo)(m:Nat),∀b∈begins k m,b<=m+(ids k).length:=by
  intro k
  induction k with
  |nil=>intro m b a;cases a
  |cons i x e s _ d=>
   intro m b a;rw[begins]at a;rw[ids,aK,aF];rcases aP.1 a with rfl|a
   ·omega
   ·have:=d _ b a;omega
 rw[JE,dG];cases h:(begins k 0)[n]? with
 |none=>exact aZ _
 |some b=>
  have:=c k 0 b (aG h);simp;omega
def Mid.laid(h:Mid F p i l q x k A B v){n:Nat}(c:n<=(tops k).length)(N:Fo):J5 (flat F l) (Gh (flat F l) A.length n) (flat N (v+1))=flat (under i (putAt n N) F) l:=by
 have a:=spotN_le k n;rw[h.un,UZ n N k (v+1) c,h.spot,J5,h.fl];obtain⟨X,b⟩:∃X,X=A++[(⟨i,v,x⟩:Rw)]:=⟨_,rfl⟩;have d:A.length+1+JE k n=X.length+JE k n:=by rw[b,aF];rfl
 have e:∀Y,A++(⟨i,v,x⟩:Rw)::Y=X++Y:=λY=>by rw[b];simp
 rw[d,e,e];rw[List.take_append,kW,aV (kX _ _),iI (show X.length<=_ from kX _ _),gI,kw (by rw[BU];exact a),List.drop_append_of_le_length (by rw[BU];exact a)];simp
end
def BR(l:List Rw)(k:Nat):List Rw:=l.take k++l.drop (endR l k)
def segR(l:List Rw)(k:Nat):List Rw:=(l.take (endR l k)).drop k
section
variable{F:Fo}{p i l q:Int}{x:NX}{k:Fo}{A B:List Rw}{v:Int}
def Mid.cutE(h:Mid F p i l q x k A B v):BR (flat F l) A.length=flat (cutF i F) l:=by
 have a:=h.endN;rw[BR,a,h.cu,h.fl,iJ];have e:A++(⟨i,v,x⟩:Rw)::(flat k (v+1)++B)=(A++(⟨i,v,x⟩::flat k (v+1)))++B:=by simp
 have b:A.length+1+(ids k).length=(A++((⟨i,v,x⟩:Rw)::flat k (v+1))).length:=by rw[aF,aK,BU];omega
 rw[b,e,jT]
def Mid.seg(h:Mid F p i l q x k A B v):segR (flat F l) A.length=flat (.cons i x k .nil) v:=by
 have a:=h.endN;have e:A++(⟨i,v,x⟩:Rw)::(flat k (v+1)++B)=(A++(⟨i,v,x⟩::flat k (v+1)))++B:=by simp
 have b:A.length+1+(ids k).length=(A++((⟨i,v,x⟩:Rw)::flat k (v+1))).length:=by rw[aF,aK,BU];omega
 rw[segR,a,h.fl,b,e,iJ,jT,flat];simp[flat]
def Mid.ids(h:Mid F p i l q x k A B v):Nod.ids F=A.map (·.id)++(i::(Nod.ids k++B.map (·.id))):=by
 rw[<- BI F l,h.fl,ai,aj,ai,BI]
def Mid.WZ(h:Mid F p i l q x k A B v):Nod.ids (cutF i F)=A.map (·.id)++B.map (·.id):=by
 rw[<- BI (cutF i F) l,h.cu,ai]
def Mid.cutNodup(h:Mid F p i l q x k A B v)(a:(Nod.ids F).Nodup):(Nod.ids (cutF i F)).Nodup:=by
 rw[h.ids]at a;rw[h.WZ];refine a.sublist (List.Sublist.append_left ?_ _);exact(List.sublist_append_right _ _).trans (jY _ _)
def Mid.SN(h:Mid F p i l q x k A B v)(b:(Nod.ids F).Nodup)(j:Int):j∈Nod.ids (cutF i F)↔j∈Nod.ids F/\j≠i/\j∉Nod.ids k:=by
 have d:=h.ids;rw[h.WZ,d];rw[d]at b;simp only[aW,aP];rw[bD,bM,bD]at b;obtain⟨_,⟨g,_,_,m⟩,f⟩:=b;constructor
 ·rintro(a|a)
  ·exact⟨.inl a,λe=>f j a i (.head _) e,λc=>f j a j (.tail _ (aS _ c)) rfl⟩
  ·exact⟨.inr (.inr (.inr a)),λe=>g (by rw[<- e];exact aO _ a),λc=>m j c j a rfl⟩
 ·rintro⟨a|a|a|a,n,o⟩
  ·exact .inl a
  ·exact absurd a n
  ·exact absurd a o
  ·exact .inr a
theorem Mid.X8(h:Mid F p i l q x k A B v)(d:(Nod.ids F).Nodup){j C D:Int}{n g:NX}{G H:Fo}{A2 J A3 K:List Rw}{o m:Int}(M:Mid F p j l C n G A2 J o)(N:Mid (cutF i F) p j l D g H A3 K m):m=o/\g=n:=by
 have O:(⟨j,o,n⟩:Rw)∈flat F l:=by rw[M.fl];exact aO _ (.head _)
 have R:(⟨j,m,g⟩:Rw)∈flat F l:=by
  have:(⟨j,m,g⟩:Rw)∈flat (cutF i F) l:=by rw[N.fl];exact aO _ (.head _)
  rw[h.cu]at this;rw[h.fl];rcases aW.1 this with h|h
  ·exact aS _ h
  ·exact aO _ (.tail _ (aO _ h))
 have s:∀(L:List Rw),(L.map (·.id)).Nodup->∀a∈L,∀b∈L,a.id=b.id->a=b:=by
  intro L
  induction L with
  |nil=>intro _ a u;cases u
  |cons r t T=>
   intro d a u b y e;rw[aj,bM]at d;rcases aP.1 u with z|f
   ·rcases aP.1 y with w|c
    ·rw[z,w]
    ·exact(d.1 (aT.2 ⟨b,c,by rw[<- e,z]⟩)).elim
   ·rcases aP.1 y with w|c
    ·exact(d.1 (aT.2 ⟨a,f,by rw[e,w]⟩)).elim
    ·exact T d.2 a f b c e
 have:=s _ (by rw[BI];exact d) _ R _ O rfl;injection this with _ e1 e2
 exact⟨e1,e2⟩
def Mid.move(h:Mid F p i l q x k A B v)(e:(Nod.ids F).Nodup){j f g:Int}{m o:NX}{r b:Fo}{A2 s A3 t:List Rw}{c a:Int}(u:Mid F p j l f m r A2 s c)(d:Mid (cutF i F) p j l g o b A3 t a){n:Nat}(w:n<=(tops b).length):
  J5 (BR (flat F l) A.length) (Gh (BR (flat F l) A.length) A3.length n) (GZ (segR (flat F l) A.length) (v-c-1))=flat (under j (putAt n (.cons i x k .nil)) (cutF i F)) l:=by
 obtain⟨rfl,rfl⟩:=h.X8 e u d;rw[h.cutE,h.seg,GG,show v-(v-a-1)=a+1 by omega];exact d.laid w _
end
structure En where
 id:Int
 par:Int
 x:NX
 kids:List Int
def ents:Fo->Int->List En
 |.nil,_=>[]
 |.cons i x k s,p=>⟨i,p,x,tops k⟩::(ents k i++ents s p)
theorem CY:∀(F:Fo)(p:Int),(ents F p).map (·.id)=ids F
 |.nil,_=>rfl
 |.cons i x k s,p=>by rw[ents,ids,aj,ai,CY k,CY s]
theorem TN:∀(F G:Fo)(p:Int),ents (app F G) p=ents F p++ents G p
 |.nil,G,p=>rfl
 |.cons i x k s,G,p=>by rw[app,ents,ents,TN s G p];simp
theorem Oi:∀(n:Nat)(N F:Fo)(p:Int),n<=(tops F).length->(ents (putAt n N F) p).Perm (ents N p++ents F p)
 |0,N,F,p,_=>by rw[putAt,TN]
 |n+1,N,.nil,p,h=>by simp[tops]at h
 |n+1,N,.cons i x k s,p,h=>by
  have a:=Oi n N s p (by rw[tops,aK]at h;omega);rw[putAt,ents,ents];refine(((a.append_left (ents k i)).cons _).trans ?_);have b:(⟨i,p,x,tops k⟩::(ents k i++(ents N p++ents s p)):List En)=((⟨i,p,x,tops k⟩::ents k i)++ents N p)++ents s p:=by simp
  have c:(ents N p++⟨i,p,x,tops k⟩::(ents k i++ents s p):List En)=(ents N p++(⟨i,p,x,tops k⟩::ents k i))++ents s p:=by simp
  rw[b,c];exact dS.append_right _
theorem Sm:∀(F:Fo),∀i∈tops F,i∈ids F
 |.cons j x k s,i,h=>by
  rw[tops]at h;rw[ids];rcases aP.1 h with rfl|h
  ·exact .head _
  ·exact .tail _ (aO _ (Sm s i h))
theorem NC(i:Int)(f:Fo->Fo):∀(F:Fo),tops (under i f F)=tops F
 |.nil=>rfl
 |.cons j x k s=>by
  rw[under];split
  ·rfl
  ·rw[tops,tops,NC i f s]
theorem Ph(i:Int)(f:NX->NX):∀(F:Fo),tops (EO i f F)=tops F
 |.nil=>rfl
 |.cons j x k s=>by
  rw[EO];split
  ·rfl
  ·rw[tops,tops,Ph i f s]
def KC{α:Type}(a e:α)(X Y Z:List α):(a::((e::(X++Y))++Z)).Perm (e::(X++(a::(Y++Z)))):=by
 have h:(a::(e::(X++(Y++Z)))).Perm (e::(X++(a::(Y++Z)))):=(List.Perm.swap e a _).trans ((bI (l₁:=X)).symm.cons e);have b:a::((e::(X++Y))++Z)=a::(e::(X++(Y++Z))):=by simp
 rw[b];exact h
def GK{α:Type}(a e:α)(W X Y:List α):(a::(W++(e::(X++Y)))).Perm (e::(X++(a::(W++Y)))):=by
 have b:(a::(W++(e::(X++Y)))).Perm (e::(a::(W++(X++Y)))):=by
  have:(a::W++e::(X++Y)).Perm (e::(a::W++(X++Y))):=bI;simpa using this
 refine b.trans (List.Perm.cons e ?_);have c:a::(W++(X++Y))=(a::W)++(X++Y):=rfl;have d:X++(a::(W++Y))=X++((a::W)++Y):=rfl;rw[c,d,<- ax,<- ax];exact dS.append_right _
theorem EJ:∀(F:Fo)(p i:Int){q:Int}{x:NX}{k:Fo},(ids F).Nodup->AY F p i=some (q,x,k)->
  ∃R:List En,(ents F p).Perm (⟨i,q,x,tops k⟩::(ents k i++R))/\(∀f,(ents (under i f F) p).Perm (⟨i,q,x,tops (f k)⟩::(ents (f k) i++R)))/\∀f,(ents (EO i f F) p).Perm (⟨i,q,f x,tops k⟩::(ents k i++R))
 |.nil,p,i,q,x,k,_,h=>by cases h
 |.cons j y kk s,p,i,q,x,k,hn,h=>by
  rw[ids,bM,bD]at hn;obtain⟨t,b,c,d⟩:=hn;rw[AY]at h;split at h
  ·rename_i e;cases h;subst e;exact⟨ents s p,.refl _,λf=>by rw[under,if_pos rfl];exact .refl _,λf=>by rw[EO,if_pos rfl];exact .refl _⟩
  ·rename_i e;split at h
   ·rename_i r a;cases h;have u:i∈ids kk:=(Az kk j i).1 (by rw[a];simp);have n:i∉ids s:=λh=>d i u i h rfl;obtain⟨R,g,l,m⟩:=EJ kk j i b a;refine⟨⟨j,p,y,tops kk⟩::(R++ents s p),?_,λf=>?_,λf=>?_⟩
    ·rw[ents];exact((g.append_right _).cons _).trans (KC _ _ _ _ _)
    ·rw[under,if_neg e,Gl s n,ents,NC];exact(((l f).append_right _).cons _).trans (KC _ _ _ _ _)
    ·rw[EO,if_neg e,Iq s n,ents,Ph];exact(((m f).append_right _).cons _).trans (KC _ _ _ _ _)
   ·rename_i a;have o:i∉ids kk:=λw=>(Az kk j i).2 w a;obtain⟨R,g,l,m⟩:=EJ s p i c h;refine⟨⟨j,p,y,tops kk⟩::(ents kk j++R),?_,λf=>?_,λf=>?_⟩
    ·rw[ents];exact((g.append_left _).cons _).trans (GK _ _ _ _ _)
    ·rw[under,if_neg e,Gl kk o,ents];exact(((l f).append_left _).cons _).trans (GK _ _ _ _ _)
    ·rw[EO,if_neg e,Iq kk o,ents];exact(((m f).append_left _).cons _).trans (GK _ _ _ _ _)
theorem KG(i:Int):∀(F:Fo),tops (cutF i F)=(tops F).erase i
 |.nil=>rfl
 |.cons j x k s=>by
  rw[cutF,tops];split
  ·rename_i e;rw[e,List.erase_cons_head]
  ·rename_i e;rw[tops,List.erase_cons_tail (by simpa using e),KG i s]
theorem Nl:∀(F:Fo)(p i:Int){q:Int}{x:NX}{k:Fo},(ids F).Nodup->AY F p i=some (q,x,k)->
  (i∈tops F/\q=p/\(ents F p).Perm (⟨i,p,x,tops k⟩::(ents k i++ents (cutF i F) p)))\/
  (i∉tops F/\∃(r:En)(R:List En),r.id=q/\i∈r.kids/\(ents F p).Perm (⟨i,q,x,tops k⟩::(ents k i++r::R))/\(ents (cutF i F) p).Perm ({r with kids:=r.kids.erase i}::R))
 |.nil,p,i,q,x,k,_,h=>by cases h
 |.cons j y a s,p,i,q,x,k,hn,h=>by
  rw[ids,bM,bD]at hn;obtain⟨C,g,l,m⟩:=hn;rw[AY]at h;split at h
  ·rename_i e;cases h;subst e;exact .inl ⟨.head _,rfl,by rw[ents,cutF,if_pos rfl]⟩
  ·rename_i e;have A:i≠j:=λh=>e h.symm;split at h
   ·rename_i G f;cases h;have D:i∈ids a:=(Az a j i).1 (by rw[f];simp);have n:i∉ids s:=λh=>m i D i h rfl
    have o:i∉tops (.cons j y a s):=λb=>by
     rw[tops]at b;rcases aP.1 b with h|h
     ·exact A h
     ·exact n (Sm s i h)
    right;refine⟨o,?_⟩;rcases Nl a j i g f with⟨c,rfl,t⟩|⟨c,r,R,u,b,w,z⟩
    ·refine⟨⟨q,p,y,tops a⟩,ents (cutF i a) q++ents s p,rfl,c,?_,?_⟩
     ·rw[ents];exact((t.append_right _).cons _).trans (KC _ _ _ _ _)
     ·rw[cutF,if_neg e,Fh s n,ents,KG]
    ·refine⟨r,⟨j,p,y,tops a⟩::(R++ents s p),u,b,?_,?_⟩
     ·rw[ents];refine((w.append_right _).cons _).trans ((KC _ _ _ _ _).trans (List.Perm.cons _ (jf _ ?_)));rw[aC];exact .swap _ _ _
     ·rw[cutF,if_neg e,Fh s n,ents,KG,kP c];refine((z.append_right _).cons _).trans ?_;rw[aC];exact .swap _ _ _
   ·rename_i f;have B:i∉ids a:=λb=>(Az a j i).2 b f;rcases Nl s p i l h with⟨c,rfl,t⟩|⟨c,r,R,u,b,w,z⟩
    ·refine .inl ⟨.tail _ c,rfl,?_⟩;rw[cutF,if_neg e,Fh a B,ents,ents];exact((t.append_left _).cons _).trans (GK _ _ _ _ _)
    ·refine .inr ⟨λd=>?_,r,⟨j,p,y,tops a⟩::(ents a j++R),u,b,?_,?_⟩
     ·rw[tops]at d;rcases aP.1 d with h|h
      ·exact A h
      ·exact c h
     ·rw[ents];refine((w.append_left _).cons _).trans ((GK _ _ _ _ _).trans (List.Perm.cons _ (jf _ ?_)));have:=GK (⟨j,p,y,tops a⟩:En) r (ents a j) [] R;simpa using this
     ·rw[cutF,if_neg e,Fh a B,ents];refine((z.append_left _).cons _).trans ?_;have:=GK (⟨j,p,y,tops a⟩:En) ({r with kids:=r.kids.erase i}:En) (ents a j) [] R;simpa using this
def ids_put(n:Nat)(N F:Fo)(h:n<=(tops F).length):(ids (putAt n N F)).Perm (ids N++ids F):=by
 have:=(Oi n N F 0 h).map (·.id)
 rwa [ai,CY,CY,CY]at this
def Uj{F:Fo}{p i q:Int}{x:NX}{k:Fo}(f:(ids F).Nodup)(h:AY F p i=some (q,x,k)){n:Nat}(g:n<=(tops k).length)(N:Fo):(ids (under i (putAt n N) F)).Perm (ids N++ids F):=by
 obtain⟨R,j,l,_⟩:=EJ F p i f h;have a:=j.map (·.id);have b:=(l (putAt n N)).map (·.id);rw[aj,ai,CY,CY]at a b;refine b.trans ?_;have c:=ids_put n N k g;have d:(i::(ids (putAt n N k)++R.map (·.id))).Perm (i::((ids N++ids k)++R.map (·.id))):=(c.append_right _).cons _;refine d.trans ?_
 have e:(i::((ids N++ids k)++R.map (·.id))).Perm (ids N++(i::(ids k++R.map (·.id)))):=by
  rw[ax];exact bI.symm
 exact e.trans (a.symm.append_left _)
def ids_turn{F:Fo}{p i q:Int}{x:NX}{k:Fo}(c:(ids F).Nodup)(h:AY F p i=some (q,x,k))(f:NX->NX):(ids (EO i f F)).Perm (ids F):=by
 obtain⟨R,d,_,e⟩:=EJ F p i c h;have a:=d.map (·.id);have b:=(e f).map (·.id);rw[aj,ai,CY,CY]at a b;exact b.trans a.symm
def under_nodup{F:Fo}{p i q:Int}{x:NX}{k:Fo}(c:(ids F).Nodup)(h:AY F p i=some (q,x,k)){n:Nat}(d:n<=(tops k).length){N:Fo}(f:(ids N).Nodup)(g:∀j∈ids N,j∉ids F):(ids (under i (putAt n N) F)).Nodup:=
 (Uj c h d N).nodup_iff.2 (bD.2 ⟨f,c,λa l b m e=>g a l (e▸m)⟩)
def Mid.level{F:Fo}{p i l q:Int}{x:NX}{k:Fo}{A B:List Rw}{v:Int}(h:Mid F p i l q x k A B v):(⟨i,v,x⟩:Rw)∈flat F l:=by
 rw[h.fl];exact aO _ (.head _)
def CO(c:Int):Prop:=c=9\/c=10\/c=13\/(32<=c/\c<=55295)\/(57344<=c/\c<=65533)\/(65536<=c/\c<=1114111)
instance (c:Int):Decidable (CO c):=by unfold CO;infer_instance
def Dz(c:Int):Prop:=(65<=c/\c<=90)\/(95<=c/\c<=95)\/(97<=c/\c<=122)\/(0xc0<=c/\c<=0xd6)\/(0xd8<=c/\c<=0xf6)\/(0xf8<=c/\c<=0x2ff)\/(0x370<=c/\c<=0x37d)\/(0x37f<=c/\c<=0x1fff)\/(0x200c<=c/\c<=0x200d)\/(0x2070<=c/\c<=0x218f)\/(0x2c00<=c/\c<=0x2fef)\/(0x3001<=c/\c<=0xd7ff)\/(0xf900<=c/\c<=0xfdcf)\/(0xfdf0<=c/\c<=0xfffd)\/(0x10000<=c/\c<=0xeffff)
instance (c:Int):Decidable (Dz c):=by unfold Dz;infer_instance
def GX(c:Int):Prop:=(45<=c/\c<=46)\/(48<=c/\c<=57)\/(0xb7<=c/\c<=0xb7)\/(0x300<=c/\c<=0x36f)\/(0x203f<=c/\c<=0x2040)\/Dz c
instance (c:Int):Decidable (GX c):=by unfold GX;infer_instance
def u8(n:Int):UInt8:=UInt8.ofNat n.toNat
def Gp{n:Int}(h:0<=n)(a:n<256):((u8 n).toNat:Int)=n:=by
 rw[u8,oJ];omega
def encP(c:Int):LU:=
 if c<128 then [u8 c]else if c<2048 then [u8 (192+c/64),u8 (128+c%64)]
 else if c<65536 then [u8 (224+c/4096),u8 (128+c/64%64),u8 (128+c%64)]
 else [u8 (240+c/262144),u8 (128+c/4096%64),u8 (128+c/64%64),u8 (128+c%64)]
def DL(x:Nat):Nat×Int:=
 if x<128 then(1,x)else if x<192 then(0,0)else if x<224 then(2,x%32)else if x<240 then(3,x%16)else if x<248 then(4,x%8)else(0,0)
def Ew(c:Int)(l:LU):Int:=l.foldl (λc x=>c*64+(x.toNat:Int)%64) c
structure Shape(c:Int)(b:UInt8)(r:LU)(c0:Int):Prop where
 enc:encP c=b::r
 head:DL b.toNat=(r.length+1,c0)
 tail:∀x∈r,128<=x.toNat/\x.toNat<192
 fold:Ew c0 r=c
 len:r.length<=3
def Uw{c:Int}(h:CO c):∃b r j,Shape c b r j:=by
 have o:0<=c/\c<=1114111:=by unfold CO at h;omega
 have a:∀n:Int,((u8 (128+n%64)).toNat:Int)=128+n%64:=λn=>Gp om om;by_cases f:c<128
 ·refine⟨u8 c,[],c,by rw[encP,if_pos f],?_,by simp,rfl,by simp⟩;have e:=Gp (n:=c) om om;rw[DL,if_pos om,e];rfl
 by_cases g:c<2048
 ·have e:=Gp (n:=192+c/64) om om;refine⟨_,_,c/64,by rw[encP,if_neg f,if_pos g],?_,?_,?_,by simp⟩
  ·rw[DL,if_neg om,if_neg om,if_pos om];simp;omega
  ·intro x d;simp at d;subst d;have:=a c;omega
  ·simp only[Ew,dP,ik,a];omega
 by_cases i:c<65536
 ·have e:=Gp (n:=224+c/4096) om om;refine⟨_,_,c/4096,by rw[encP,if_neg f,if_neg g,if_pos i],?_,?_,?_,by simp⟩
  ·rw[DL,if_neg om,if_neg om,if_neg om,if_pos om];simp only[aK,dI,Prod.mk.injEq,true_and];omega
  ·intro x d;simp only[aP,iU,or_false]at d;have l:=a c;have m:=a (c/64);rcases d with rfl|rfl<;>omega
  ·simp only[Ew,dP,ik,a];omega
 ·have e:=Gp (n:=240+c/262144) om om;refine⟨_,_,c/262144,by rw[encP,if_neg f,if_neg g,if_neg i],?_,?_,?_,by simp⟩
  ·rw[DL,if_neg om,if_neg om,if_neg om,if_neg om,if_pos om];simp only[aK,dI,Prod.mk.injEq,true_and];omega
  ·intro x d;simp only[aP,iU,or_false]at d;have l:=a c;have m:=a (c/64);have p:=a (c/4096);rcases d with rfl|rfl|rfl<;>omega
  ·simp only[Ew,dP,ik,a];omega
def Dec(l:LU)(c:Int):Prop:=CO c/\encP c<+:l
def Jp{c:Int}(h:CO c):1<=(encP c).length/\(encP c).length<=4:=by
 obtain⟨b,r,d,a⟩:=Uw h;rw[a.enc,aK];have:=a.len;omega
def Dec.shape{l:LU}{c:Int}(h:Dec l c):∃b r a t,Shape c b r a/\l=b::(r++t)/\(encP c).length=r.length+1:=by
 obtain⟨b,r,a,d⟩:=Uw h.1;obtain⟨t,e⟩:=h.2;rw[d.enc]at e;exact⟨b,r,a,t,d,by rw[<- e];rfl,by rw[d.enc];rfl⟩
def J4(l:LU):Int:=Ew (DL (l.headD 0).toNat).2 ((l.take (DL (l.headD 0).toNat).1).drop 1)
def Dec.next{l:LU}{c:Int}(h:Dec l c):(DL (l.headD 0).toNat).1=(encP c).length/\(encP c).length<=l.length/\J4 l=c/\∀x∈(l.take (DL (l.headD 0).toNat).1).drop 1,128<=x.toNat/\x.toNat<192:=by
 obtain⟨b,r,f,t,a,rfl,d⟩:=h.shape;have e:((b::(r++t)).take (r.length+1)).drop 1=r:=by simp
 refine⟨by rw[kG,a.head,d],by rw[d,aK,aF];omega,?_,?_⟩
 ·rw[J4,kG,a.head];rw[e,a.fold]
 ·rw[kG,a.head];rw[e];exact a.tail
def Dec.one{l:LU}{c d:Int}(h:Dec l c)(a:Dec l d):c=d:=by
 rw[<- h.next.2.2.1,<- a.next.2.2.1]
def GY(l:LU)(cs:List Int):Prop:=(∀c∈cs,CO c)/\cs.flatMap encP=l
theorem GY.nil{cs:List Int}(h:GY [] cs):cs=[]:=by
 cases cs with
 |nil=>rfl
 |cons c r=>
  have b:=Jp (h.1 c (.head _));have a:=congrArg List.length h.2;simp only[bU,aF,dI]at a;omega
theorem GY.cons{l:LU}{cs:List Int}(h:GY l cs)(b:l≠[]):∃c r,cs=c::r/\Dec l c/\GY (l.drop (encP c).length) r:=by
 cases cs with
 |nil=>exact(b h.2.symm).elim
 |cons c r=>
  have a:=h.2;rw[bU]at a;refine⟨c,r,rfl,⟨h.1 c (.head _),⟨_,a⟩⟩,λd e=>h.1 d (.tail _ e),?_⟩;rw[<- a,jT]
theorem GY.one:∀{cs ds:List Int}{l:LU},GY l cs->GY l ds->cs=ds
 | [],ds,l,h,h'=>by
  have:l=[]:=h.2.symm;subst this;exact h'.nil.symm
 |c::r,ds,l,h,h'=>by
  have d:l≠[]:=λe=>by subst e;exact absurd h.nil (by simp)
  obtain⟨i,j,e,f,g⟩:=h.cons d;cases e;obtain⟨m,n,rfl,a,b⟩:=h'.cons d;have:=f.one a;subst this;rw[g.one b]
def TZ(s:ByteArray):Prop:=∃cs,GY s.data.toList cs
def CW(s:ByteArray):Prop:=1<=s.size/\s.size<=60/\∃cs,GY s.data.toList cs/\(∀c∈cs,GX c)/\∀c,cs.head? =some c->Dz c
noncomputable section
open Classical
structure It where
 level:Int
 x:NX
abbrev At:=ByteArray×ByteArray
def ltB(a b:ByteArray):Prop:=a.data.toList<b.data.toList
def EI(a:ByteArray):¬ltB a a:=lJ _
def FV{a b c:ByteArray}(h:ltB a b)(d:ltB b c):ltB a c:=List.lt_trans h d
def Vh{a b:ByteArray}(h:ltB a b)(c:ltB b a):False:=EI a (FV h c)
def eqB{a b:ByteArray}(h:a.data.toList=b.data.toList):a=b:=by
 obtain⟨a⟩:=a;obtain⟨b⟩:=b;exact congrArg ByteArray.mk (oH h)
def OE(a b:ByteArray):ltB a b\/a=b\/ltB b a:=by
 by_cases h:a.data.toList<b.data.toList
 ·exact .inl h
 ·rcases nS.1 (List.not_lt.1 h)with h|h
  ·exact .inr (.inr h)
  ·exact .inr (.inl (eqB h).symm)
def Rs(l:List At):Prop:=l.Pairwise λa b=>ltB a.1 b.1
def BD(s:ByteArray):Int:=if¬TZ s then 64 else if 1500<s.size then 67 else 0
def MK(l:List At):Prop:=(∀a∈l,CW a.1)/\Rs l
def valsE:List At->Int
 | []=>0
 |a::r=>if BD a.2=0 then valsE r else BD a.2
def Bv(x:NX):Int:=if¬CW x.name then 63 else if¬MK x.attrs then 63 else if 20<x.attrs.length then 67 else 0
def Aj(x:NX):Int:=
 if x.kind=2 then(if x.name=⟨#[]⟩/\x.attrs=[]then BD x.text else 68)
 else if x.kind=1/\x.text=⟨#[]⟩then(if Bv x=0 then valsE x.attrs else Bv x)else 68
def Bc(l:List It)(k:Nat)(x:It):Int:=
 if k=0/\(x.level≠0\/x.x.kind≠1)then 69
 else if 0<k/\(x.level<1\/∃y,l[k-1]? =some y/\(y.level+1<x.level\/(y.level<x.level/\y.x.kind=2)))then 69
 else if 40<=x.level then 42 else if 1000<=k then 43 else 0
def oneE(l:List It)(k:Nat)(x:It):Int:=if Bc l k x=0 then Aj x.x else Bc l k x
def EZ(l:List It):Nat->List It->Nat×Int
 |_,[]=>(0,0)
 |k,x::r=>if oneE l k x=0 then EZ l (k+1) r else(k,oneE l k x)
def DU(l:List It):Nat×Int:=if l=[]then(0,40)else EZ l 0 l
theorem LY(l:List It):∀(r:List It)(k:Nat),(EZ l k r).2=0↔∀(i:Nat)(x:It),r[i]? =some x->oneE l (k+i) x=0
 | [],k=>by simp[EZ]
 |x::r,k=>by
  rw[EZ];split
  ·rename_i h;rw[LY l r (k+1)];constructor
   ·intro a i y b;cases i with
    |zero=>cases b;exact h
    |succ i=>rw[show k+(i+1)=k+1+i by omega];exact a i y b
   ·intro a i y b;rw[show k+1+i=k+(i+1) by omega];exact a (i+1) y b
  ·rename_i h;constructor
   ·intro a;exact(h a).elim
   ·intro a;exact(h (a 0 x rfl)).elim
def UF{x:NX}(h:Aj x=0):x.kind=1\/x.kind=2:=by
 rw[Aj]at h;split at h
 ·exact .inr (by assumption)
 ·split at h
  ·exact .inl (by rename_i a;exact a.1)
  ·cases h
def FOk:Fo->Prop
 |.nil=>True
 |.cons _ x k s=>Aj x=0/\(x.kind≠1->k=.nil)/\FOk k/\FOk s
def Nxt1(p r:Rw):Prop:=r.level<=p.level+1/\(p.x.kind≠1->r.level<=p.level)
def Adj:List Rw->Prop
 | []=>True
 | [_]=>True
 |p::r::t=>Nxt1 p r/\Adj (r::t)
theorem YS{p:Rw}{t:List Rw}(h:Adj (p::t)):Adj t:=by
 cases t with
 |nil=>trivial
 |cons r t=>exact h.2
theorem UJ:∀(X Y:List Rw),Adj (X++Y)->Adj X/\Adj Y
 | [],Y,h=>⟨trivial,h⟩
 | [x],Y,h=>⟨trivial,YS h⟩
 |x::y::X,Y,h=>by
  obtain⟨a,b⟩:=UJ (y::X) Y h.2;exact⟨⟨h.1,a⟩,b⟩
theorem Wv:∀(X Y:List Rw),Adj X->Adj Y->(∀p r,X.getLast? =some p->Y.head? =some r->Nxt1 p r)->Adj (X++Y)
 | [],Y,_,h,_=>h
 | [x],[],_,_,_=>trivial
 | [x],y::Y,_,h,hj=>⟨hj x y rfl rfl,h⟩
 |x::y::X,Y,h,h',hj=>⟨h.1,Wv (y::X) Y h.2 h' λp r a b=>hj p r (by rw[<- a];exact List.getLast?_cons_cons) b⟩
theorem Oy:∀(L:List Rw)(u:Int),Adj L->(∀r,L.head? =some r->r.level<=u+1)->Steps u L
 | [],u,_,_=>trivial
 | [r],u,_,h=>⟨h r rfl,trivial⟩
 |p::r::t,u,h,h'=>⟨h' p rfl,Oy (r::t) p.level h.2 λb a=>by cases a;exact h.1.1⟩
theorem LK:∀(F:Fo)(l:Int),FOk F->Adj (flat F l)
 |.nil,l,_=>trivial
 |.cons i x k s,l,h=>by
  obtain⟨n,c,d,f⟩:=h;rw[flat,<- aC];refine Wv _ _ ?_ (LK s l f) λp r g b=>?_
  ·cases hk:flat k (l+1)with
   |nil=>trivial
   |cons r t=>
    have b:=FY k (l+1) r (by rw[hk];rfl);refine⟨⟨?_,λj=>?_⟩,?_⟩
    ·show r.level<=l+1;omega
    ·have:=c j;subst this;cases hk
    ·rw[<- hk];exact LK k (l+1) d
  ·have e:=FY s l r b
   have m:l<=p.level:=by
    have a:=nT g;rcases aP.1 a with rfl|a
    ·exact iQ _
    ·have:=Be k (l+1) p a;omega
   exact⟨om,λ_=>by omega⟩
theorem OY:∀(F:Fo)(l:Int),Adj (flat F l)->(∀r∈flat F l,Aj r.x=0)->FOk F
 |.nil,l,_,_=>trivial
 |.cons i x k s,l,h,hp=>by
  rw[flat]at h hp;obtain⟨a,c⟩:=UJ (_::flat k (l+1)) (flat s l) (by rw[aC];exact h);refine⟨hp _ (.head _),λd=>?_,OY k (l+1) (YS a) λr b=>hp r (.tail _ (aS _ b)),OY s l c λr b=>hp r (.tail _ (aO _ b))⟩;cases k with
  |nil=>rfl
  |cons j y f g=>
   rw[flat]at a;have e:=a.1.2 d;dsimp only at e;omega
theorem Fb:∀(F:Fo)(l:Int),FOk F->∀r∈flat F l,Aj r.x=0
 |.nil,l,_,r,a=>by cases a
 |.cons i x k s,l,h,r,a=>by
  rw[flat]at a;rcases aP.1 a with rfl|a
  ·exact h.1
  ·rcases aW.1 a with a|a
   ·exact Fb k _ h.2.2.1 r a
   ·exact Fb s _ h.2.2.2 r a
end
noncomputable section
open Classical
structure Tr where
 L:List Rw
 next:Int
structure OpP where
 kind:Int
 id:Int
 to:Int
 at_:Int
 name:ByteArray
 text:ByteArray
 l:List It
def Ak(n more:Int):List It->List Rw
 | []=>[]
 |x::r=>⟨n,x.level+more,x.x⟩::Ak (n+1) more r
theorem EY(more:Int):∀(l:List It)(n:Int),(Ak n more l).length=l.length
 | [],_=>rfl
 |x::r,n=>by rw[Ak,aK,aK,EY more r]
theorem Di(more:Int):∀(l:List It)(n:Int)(k:Nat),(Ak n more l)[k]? =(l[k]?).map λx=>⟨n+k,x.level+more,x.x⟩
 | [],n,k=>by simp[Ak]
 |x::r,n,0=>by simp[Ak]
 |x::r,n,k+1=>by
  rw[Ak,bJ,bJ,Di more r (n+1) k];rw[show n+1+(k:Int)=n+((k+1:Nat):Int) by omega]
def atR(L:List Rw)(i:Int):Option (Nat×Rw):=match D6 L i with
 |some k=>(L[k]?).map λr=>(k,r)
 |none=>none
def Gs:Option It->Int
 |none=>0
 |some y=>if y.x.kind=2 then y.level else y.level+1
def DK:Option It->List It->Int
 |_,[]=>0
 |p,x::r=>if x.level<0\/Gs p<x.level then 69 else if Aj x.x=0 then DK (some x) r else Aj x.x
def CS(l:List It):Int:=if l=[]then 40 else DK none l
def JL(d:Int):List It->Int
 | []=>d
 |x::r=>JL (max d x.level) r
def deepest(l:List It):Int:=JL 0 l
def Tr.load(T:Tr)(l:List It):Tr×Int×Int:=
 if(DU l).2≠0 then(T,0,(DU l).2)else if 2147483647<T.next+l.length then(T,0,66)
 else(⟨Ak T.next 0 l,T.next+l.length⟩,T.next,0)
def Tr.insert(T:Tr)(id at_:Int)(l:List It):Tr×Int×Int:=match atR T.L id with
 |none=>(T,0,60)
 |some (k,r)=>
  if r.x.kind≠1 then(T,0,68)else if at_<0\/((D5 T.L k).length:Int)<at_ then(T,0,69)
  else if CS l≠0 then(T,0,CS l)else if 40<=r.level+1+deepest l then(T,0,65)
  else if 1000<T.L.length+l.length\/2147483647<T.next+l.length then(T,0,66)
  else(⟨J5 T.L (Gh T.L k at_.toNat) (Ak T.next (r.level+1) l),T.next+l.length⟩,T.next,0)
def Tr.delete(T:Tr)(id:Int):Tr×Int:=match atR T.L id with
 |none=>(T,60)
 |some (k,_)=>if k=0 then(T,62)else(⟨BR T.L k,T.next⟩,0)
def Tr.move(T:Tr)(id to at_:Int):Tr×Int:=match atR T.L id,atR T.L to with
 |some (k,r),some (p,q)=>
  if k=0 then(T,62)else if q.x.kind≠1 then(T,68)else if k<=p/\p<endR T.L k then(T,61)
  else match D6 (BR T.L k) to with
   |none=>(T,60)
   |some p'=>
    if at_<0\/((D5 (BR T.L k) p').length:Int)<at_ then(T,69)
    else if∃x∈GZ (segR T.L k) (r.level-q.level-1),40<=x.level then(T,65)
    else(⟨J5 (BR T.L k) (Gh (BR T.L k) p' at_.toNat) (GZ (segR T.L k) (r.level-q.level-1)),T.next⟩,0)
 |_,_=>(T,60)
def CQ:List At->At->List At
 | [],a=>[a]
 |x::r,a=>if ltB x.1 a.1 then x::CQ r a else a::(x::r).filter λy=> !decide (y.1=a.1)
def BP(l:List At)(n:ByteArray):List At:=l.filter λy=> !decide (y.1=n)
def setR(L:List Rw)(k:Nat)(r:Rw)(x:NX):List Rw:=L.set k {r with x:=x}
def Tr.BX(T:Tr)(id:Int)(a:At):Tr×Int:=match atR T.L id with
 |none=>(T,60)
 |some (k,r)=>
  if r.x.kind≠1 then(T,68)else if¬CW a.1 then(T,63)else if BD a.2≠0 then(T,BD a.2)
  else if 20<(CQ r.x.attrs a).length then(T,67)else(⟨setR T.L k r {r.x with attrs:=CQ r.x.attrs a},T.next⟩,0)
def Tr.Bg(T:Tr)(id:Int)(n:ByteArray):Tr×Int:=match atR T.L id with
 |none=>(T,60)
 |some (k,r)=>
  if r.x.kind≠1 then(T,68)else if(BP r.x.attrs n).length=r.x.attrs.length then(T,63)
  else(⟨setR T.L k r {r.x with attrs:=BP r.x.attrs n},T.next⟩,0)
def Tr.Bj(T:Tr)(id:Int)(s:ByteArray):Tr×Int:=match atR T.L id with
 |none=>(T,60)
 |some (k,r)=>
  if r.x.kind≠2 then(T,68)else if BD s≠0 then(T,BD s)else(⟨setR T.L k r {r.x with text:=s},T.next⟩,0)
def Tr.edit(T:Tr)(o:OpP):Tr×Int×Int:=
 if o.kind=0 then T.load o.l else if o.kind=1 then T.insert o.id o.at_ o.l
 else if o.kind=2 then((T.delete o.id).1,0,(T.delete o.id).2)
 else if o.kind=3 then((T.move o.id o.to o.at_).1,0,(T.move o.id o.to o.at_).2)
 else if o.kind=4 then((T.BX o.id (o.name,o.text)).1,0,(T.BX o.id (o.name,o.text)).2)
 else if o.kind=5 then((T.Bg o.id o.name).1,0,(T.Bg o.id o.name).2)
 else if o.kind=6 then((T.Bj o.id o.text).1,0,(T.Bj o.id o.text).2)
 else(T,0,1)
structure BA(F:Fo)(T:Tr):Prop where
 fl:flat F 0=T.L
 ok:FOk F
 nodup:(ids F).Nodup
 one:F=.nil\/∃i x k,F=.cons i x k .nil/\x.kind=1
 deep:∀r∈T.L,r.level<40
 len:T.L.length<=1000
 pos:∀i∈ids F,1<=i/\i<T.next
 next:1<=T.next/\T.next<=2147483647
def good_new:BA .nil ⟨[],1⟩:=⟨rfl,trivial,.nil,.inl rfl,by simp,by simp,by simp[ids],by decide⟩
theorem Vu(more:Int):∀(l:List It)(n:Int),(Ak n more l).map (·.id)=(List.range l.length).map λ(k:Nat)=>n+(k:Int)
 |l,n=>by
  apply dK;intro k;rw[au,Di,au,Option.map_map];by_cases h:k<l.length
  ·rw[aB h,iL h];rfl
  ·rw[bF om,bF (by rw[fZ];omega)];rfl
def named_nodup(more:Int)(l:List It)(n:Int):((Ak n more l).map (·.id)).Nodup:=by
 rw[Vu];refine dV.2 (List.nodup_range.imp λh e=>h ?_);omega
def Qi{more:Int}{l:List It}{n i:Int}(h:i∈(Ak n more l).map (·.id)):n<=i/\i<n+l.length:=by
 rw[Vu]at h;obtain⟨k,a,rfl⟩:=aT.1 h;have:=dh.1 a;omega
theorem NU{l:List It}(h:(DU l).2=0){n:Int}(hn:1<=n)(Y:n+l.length<=2147483647):∃F,BA F ⟨Ak n 0 l,n+l.length⟩/\F≠.nil:=by
 have Z:l≠[]:=λe=>by rw[DU,if_pos e]at h;cases h
 rw[DU,if_neg Z,LY]at h
 have K:∀(k:Nat)(x:It),l[k]? =some x->Bc l k x=0/\Aj x.x=0:=λk x b=>by
  have:=h k x b;rw[bu,oneE]at this;split at this
  ·exact⟨by assumption,this⟩
  ·exact absurd this (by assumption)
 have a:∀(k:Nat)(r:Rw),(Ak n 0 l)[k]? =some r->∃x,l[k]? =some x/\r=⟨n+k,x.level,x.x⟩:=λk r d=>by
  rw[Di]at d;obtain⟨x,b,rfl⟩:=cZ.1 d;exact⟨x,b,by rw[Int.add_zero]⟩
 have f:∀(k:Nat)(x:It),l[k]? =some x->x.level<40/\k<1000/\(k=0->x.level=0/\x.x.kind=1)/\∀y,0<k->l[k-1]? =some y->1<=x.level/\x.level<=y.level+1/\(y.x.kind=2->x.level<=y.level):=by
  intro k x b;have u:=(K k x b).1;rw[Bc]at u;split at u
  ·cases u
  rename_i ha;split at u
  ·cases u
  rename_i M;split at u
  ·cases u
  split at u
  ·cases u
  refine⟨om,om,λe=>?_,λy N D=>?_⟩
  ·by_cases e1:x.level=0
   ·exact⟨e1,az λe2=>ha ⟨e,.inr e2⟩⟩
   ·exact(ha ⟨e,.inl e1⟩).elim
  ·refine⟨jA.1 λe=>M ⟨N,.inl e⟩,jA.1 λe=>M ⟨N,.inr ⟨y,D,.inl e⟩⟩,λw=>jA.1 λe=>M ⟨N,.inr ⟨y,D,.inr ⟨e,w⟩⟩⟩⟩
 have O:∀(m:Nat)(L:List Rw),(∀k r,L[k]? =some r->(Ak n 0 l)[m+k]? =some r)->Adj L:=by
  intro m L
  induction L generalizing m with
  |nil=>intro _;trivial
  |cons p t ih=>
   cases t with
   |nil=>intro _;trivial
   |cons r t=>
    intro R;refine⟨?_,ih (m+1) λk r' T=>by rw[show m+1+k=m+(k+1) by omega];exact R (k+1) r' T⟩;obtain⟨y,D,rfl⟩:=a _ _ (R 0 p rfl);obtain⟨x,b,rfl⟩:=a _ _ (R 1 r rfl);obtain⟨_,_,_,h4⟩:=f _ _ b;obtain⟨h5,h6,h7⟩:=h4 y om (by rw[show m+1-1=m+0 by omega];exact D);refine⟨h6,λw=>h7 ?_⟩;rcases UF (K _ _ D).2 with e|e
    ·exact(w e).elim
    ·exact e
 have A:=O 0 _ λk r d=>by rw[bu];exact d
 obtain⟨c,g,rfl⟩:=dU Z;have U:=f 0 c rfl;obtain⟨e0,ek⟩:=U.2.2.1 rfl
 have G:∀r∈Ak n 0 (c::g),0<=r.level:=λr d=>by
  obtain⟨k,w⟩:=ay d;obtain⟨x,b,rfl⟩:=a k r w;rcases iV k with rfl|X
  ·cases b;show 0<=c.level;omega
  ·have C:=(aA.1 b).1;have:=((f k x b).2.2.2 _ X (aB om)).1;show 0<=x.level;omega
 obtain⟨F,o⟩:=I5 _ (Ak n 0 (c::g)) 0 (aZ _) G (Oy _ _ A λr d=>by
  obtain⟨x,b,rfl⟩:=a 0 r (by rw[fP]at d;exact d);cases b;show c.level<=_;omega)
 have B:ids F=(Ak n 0 (c::g)).map (·.id):=by rw[<- o,BI]
 have H:F≠.nil:=λe=>by rw[e,flat,Ak]at o;cases o
 refine⟨F,⟨o,OY F 0 (by rw[o];exact A) λr d=>?_,by rw[B];exact named_nodup _ _ _,.inr ?_,λr d=>?_,?_,λi hi=>?_,?_⟩,H⟩
 ·rw[o]at d;obtain⟨k,w⟩:=ay d;obtain⟨x,b,rfl⟩:=a k r w;exact(K k x b).2
 ·cases F with
  |nil=>exact(H rfl).elim
  |cons i x k s=>
   have hs:s=.nil:=by
    cases s with
    |nil=>rfl
    |cons j y kk ss=>
     exfalso;rw[flat]at o;have Y:(⟨j,0,y⟩:Rw)∈flat k (0+1)++flat (.cons j y kk ss) 0:=aO _ (by rw[flat];exact .head _);obtain⟨q,hq⟩:=ay Y;have:(Ak n 0 (c::g))[q+1]? =some ⟨j,0,y⟩:=by rw[<- o,bJ];exact hq
     obtain⟨z,J,e⟩:=a _ _ this;have C:=(aA.1 J).1;have h9:=((f _ z J).2.2.2 _ om (aB om)).1;injection e with _ e2 _
     omega
   subst hs;refine⟨i,x,k,rfl,?_⟩;rw[flat]at o;have:(Ak n 0 (c::g))[0]? =some ⟨i,0,x⟩:=by rw[<- o];rfl
   obtain⟨z,J,e⟩:=a _ _ this;cases J;injection e with _ _ e3
   rw[e3];exact ek
 ·obtain⟨k,w⟩:=ay (show r∈Ak n 0 (c::g)from d);obtain⟨x,b,rfl⟩:=a k r w;exact(f k x b).1
 ·show(Ak n 0 (c::g)).length<=1000;rw[EY];have C:(c::g).length-1<(c::g).length:=by rw[aK];omega
  have:=(f _ _ (aB C)).2.1;omega
 ·rw[B]at hi;have:=Qi hi;show 1<=i/\i<n+((c::g).length:Int);omega
 ·show 1<=n+((c::g).length:Int)/\n+((c::g).length:Int)<=2147483647;omega
end
noncomputable section
open Classical
theorem BA.at_{F:Fo}{T:Tr}(G:BA F T)(i:Int):(AY F 0 i=none/\atR T.L i=none/\D6 T.L i=none)\/
  ∃q x k A B v,AY F 0 i=some (q,x,k)/\Mid F 0 i 0 q x k A B v/\D6 T.L i=some A.length/\atR T.L i=some (A.length,⟨i,v,x⟩):=by
 cases h:AY F 0 i with
 |none=>
  have c:D6 T.L i=none:=by
   rw[D6,jJ];intro r d;rw[<- G.fl]at d;have a:r.id∈ids F:=by rw[<- BI F 0];exact aT.2 ⟨r,d,rfl⟩
   have:r.id≠i:=λe=>(Az F 0 i).2 (e▸a) h;simpa using this
  exact .inl ⟨rfl,by rw[atR,c],c⟩
 |some z=>
  obtain⟨q,x,k⟩:=z;obtain⟨A,B,v,a⟩:=CU F 0 i 0 G.nodup h;have b:=a.find G.nodup;rw[G.fl]at b;have f:=a.here;rw[G.fl]at f;exact .inr ⟨q,x,k,A,B,v,rfl,a,b,by rw[atR,b];dsimp only;rw[f];rfl⟩
theorem KF:∀(F:Fo)(p i:Int){q:Int}{x:NX}{k:Fo},FOk F->AY F p i=some (q,x,k)->Aj x=0/\(x.kind≠1->k=.nil)/\FOk k
 |.nil,p,i,q,x,k,_,h=>by cases h
 |.cons j y kk s,p,i,q,x,k,hf,h=>by
  rw[AY]at h;split at h
  ·cases h;exact⟨hf.1,hf.2.1,hf.2.2.1⟩
  ·split at h
   ·rename_i r a;cases h;exact KF kk j i hf.2.2.1 a
   ·exact KF s p i hf.2.2.2 h
theorem WG(i:Int):∀(F:Fo),FOk F->FOk (cutF i F)
 |.nil,_=>trivial
 |.cons j y k s,h=>by
  rw[cutF];split
  ·exact h.2.2.2
  ·exact⟨h.1,λe=>by rw[h.2.1 e];rfl,WG i k h.2.2.1,WG i s h.2.2.2⟩
theorem ZC:∀(F G:Fo),FOk F->FOk G->FOk (app F G)
 |.nil,G,_,h=>h
 |.cons i x k s,G,h,h'=>⟨h.1,h.2.1,h.2.2.1,ZC s G h.2.2.2 h'⟩
theorem Zi:∀(n:Nat)(N F:Fo),FOk N->FOk F->FOk (putAt n N F)
 |0,N,F,h,h'=>ZC N F h h'
 |n+1,N,.nil,h,_=>h
 |n+1,N,.cons i x k s,h,h'=>⟨h'.1,h'.2.1,h'.2.2.1,Zi n N s h h'.2.2.2⟩
theorem Pm{f:Fo->Fo}(i:Int):∀(F:Fo)(p:Int){q:Int}{x:NX}{k:Fo},(ids F).Nodup->FOk F->AY F p i=some (q,x,k)->x.kind=1->FOk (f k)->FOk (under i f F)
 |.nil,p,q,x,k,_,_,h,_,_=>by cases h
 |.cons j y kk s,p,q,x,k,hn,hf,h,hx,hk=>by
  rw[ids,bM,bD]at hn;rw[AY]at h;rw[under];split at h
  ·rename_i e;cases h;rw[if_pos e];exact⟨hf.1,λe=>(e hx).elim,hk,hf.2.2.2⟩
  ·rename_i e;rw[if_neg e];split at h
   ·rename_i r a;cases h;have b:i∈ids kk:=(Az kk j i).1 (by rw[a];simp);rw[Gl s λh=>hn.2.2.2 i b i h rfl];exact⟨hf.1,λe=>(by rw[hf.2.1 e]at a;cases a),Pm i kk j hn.2.1 hf.2.2.1 a hx hk,hf.2.2.2⟩
   ·rename_i a;rw[Gl kk λc=>(Az kk j i).2 c a];exact⟨hf.1,hf.2.1,hf.2.2.1,Pm i s p hn.2.2.1 hf.2.2.2 h hx hk⟩
theorem Ry{f:NX->NX}(i:Int):∀(F:Fo)(p:Int){q:Int}{x:NX}{k:Fo},(ids F).Nodup->FOk F->AY F p i=some (q,x,k)->(f x).kind=x.kind->Aj (f x)=0->FOk (EO i f F)
 |.nil,p,q,x,k,_,_,h,_,_=>by cases h
 |.cons j y kk s,p,q,x,k,hn,hf,h,hx,hk=>by
  rw[ids,bM,bD]at hn;rw[AY]at h;rw[EO];split at h
  ·rename_i e;cases h;rw[if_pos e];exact⟨hk,λe=>hf.2.1 (by rw[<- hx];exact e),hf.2.2.1,hf.2.2.2⟩
  ·rename_i e;rw[if_neg e];split at h
   ·rename_i r a;cases h;have b:i∈ids kk:=(Az kk j i).1 (by rw[a];simp);rw[Iq s λh=>hn.2.2.2 i b i h rfl];exact⟨hf.1,λe=>(by rw[hf.2.1 e]at a;cases a),Ry i kk j hn.2.1 hf.2.2.1 a hx hk,hf.2.2.2⟩
   ·rename_i a;rw[Iq kk λc=>(Az kk j i).2 c a];exact⟨hf.1,hf.2.1,hf.2.2.1,Ry i s p hn.2.2.1 hf.2.2.2 h hx hk⟩
theorem TW:∀(l:List It)(p:Option It),DK p l=0->∀(b n:Int),(∀r∈Ak n b l,b<=r.level/\Aj r.x=0)/\Adj (Ak n b l)/\(∀r,(Ak n b l).head? =some r->r.level<=Gs p+b)
 | [],p,_,b,n=>⟨by simp[Ak],trivial,by simp[Ak]⟩
 |x::r,p,h,b,n=>by
  rw[DK]at h;split at h
  ·cases h
  rename_i f;split at h
  ·rename_i c;obtain⟨j,m,o⟩:=TW r (some x) h b (n+1);rw[Ak];have t:0<=x.level/\x.level<=Gs p:=⟨jA.1 λe=>f (.inl e),jA.1 λe=>f (.inr e)⟩;refine⟨λz a=>?_,?_,λz a=>?_⟩
   ·rcases aP.1 a with rfl|a
    ·exact⟨by show b<=x.level+b;omega,c⟩
    ·exact j z a
   ·cases r with
    |nil=>trivial
    |cons y r=>
     refine⟨?_,m⟩;have:=o _ rfl;have g:Gs (some x)=if x.x.kind=2 then x.level else x.level+1:=rfl
     refine⟨?_,λs=>?_⟩
     ·show y.level+b<=x.level+b+1;dsimp only at this;rw[g]at this;split at this<;>omega
     ·show y.level+b<=x.level+b;have d:x.x.kind=2:=(UF c).resolve_left s;rw[g,if_pos d]at this;omega
   ·cases a;show x.level+b<=_;omega
  ·rename_i c;exact(c h).elim
theorem Ns:∀(l:List It)(d:Int),d<=JL d l/\∀x∈l,x.level<=JL d l
 | [],d=>⟨iQ _,by simp⟩
 |x::r,d=>by
  obtain⟨c,b⟩:=Ns r (max d x.level);rw[JL];refine⟨om,λy a=>?_⟩;rcases aP.1 a with rfl|a
  ·omega
  ·exact b y a
def forest_good{l:List It}(h:CS l=0)(b n:Int):∃N,flat N b=Ak n b l/\FOk N/\N≠.nil/\∀r∈flat N b,r.level<=b+deepest l:=by
 have d:l≠[]:=λe=>by rw[CS,if_pos e]at h;cases h
 rw[CS,if_neg d]at h;obtain⟨f,g,m⟩:=TW l none h b n
 obtain⟨N,c⟩:=I5 _ (Ak n b l) b (aZ _) (λr a=>(f r a).1) (Oy _ _ g λr a=>by
  have:=m r a;have e:Gs none=0:=rfl;omega)
 refine⟨N,c,OY N b (by rw[c];exact g) (by rw[c];exact λr a=>(f r a).2),λe=>?_,λr a=>?_⟩
 ·have:=congrArg List.length c;rw[e,flat,EY]at this;exact d (bC this.symm)
 ·rw[c]at a;obtain⟨k,j⟩:=ay a;rw[Di]at j;obtain⟨x,o,rfl⟩:=cZ.1 j;have:=(Ns l 0).2 x (aG o);show x.level+b<=b+deepest l;rw[deepest];omega
section
variable{F:Fo}{T:Tr}{i q v:Int}{x:NX}{k:Fo}{A B:List Rw}
def BZ(G:BA F T):(ids F).length=T.L.length:=by rw[<- G.fl,BU]
def one_of{F F':Fo}(h:F=.nil\/∃i x k,F=.cons i x k .nil/\x.kind=1)(f:Fo->Fo)(i:Int):under i f F=.nil\/∃j x k,under i f F=.cons j x k .nil/\x.kind=1:=by
 rcases h with rfl|⟨j,y,b,rfl,a⟩
 ·exact .inl rfl
 ·rw[under];split
  ·exact .inr ⟨_,_,_,rfl,a⟩
  ·exact .inr ⟨_,_,_,rfl,a⟩
def BA.put(G:BA F T)(h:AY F 0 i=some (q,x,k))(m:Mid F 0 i 0 q x k A B v)(g:x.kind=1){n:Nat}(e:n<=(tops k).length){N:Fo}(l:FOk N)(f:(ids N).Nodup)(o:∀j∈ids N,j∉ids F)
  (p:∀r∈flat N (v+1),r.level<40) (w:(ids N).length+T.L.length<=1000) {next:Int} (s:∀j∈ids N,1<=j/\j<next) (y:T.next<=next/\next<=2147483647):
  BA (under i (putAt n N) F) ⟨flat (under i (putAt n N) F) 0,next⟩:=by
 have t:=KF F 0 i G.ok h;have c:=Uj G.nodup h e N;have u:=G.next;refine⟨rfl,Pm i F 0 G.nodup G.ok h g (Zi n N k l t.2.2),under_nodup G.nodup h e f o,one_of (F':=F) G.one _ _,λr a=>?_,?_,λj d=>?_,?_⟩
 ·have a:r∈flat (under i (putAt n N) F) 0:=a;have b:∀r∈A++((⟨i,v,x⟩:Rw)::(flat k (v+1)++B)),r.level<40:=λr a=>G.deep r (by rw[<- G.fl,m.fl];exact a);rw[m.un,UZ n N k (v+1) e]at a;rcases aW.1 a with a|a
  ·exact b r (aS _ a)
  ·rcases aP.1 a with rfl|a
   ·exact b _ (aO _ (.head _))
   ·rcases aW.1 a with a|a
    ·rcases aW.1 a with a|a
     ·rcases aW.1 a with a|a
      ·exact b r (aO _ (.tail _ (aS _ (dN a))))
      ·exact p r a
     ·exact b r (aO _ (.tail _ (aS _ (eU a))))
    ·exact b r (aO _ (.tail _ (aO _ a)))
 ·show(flat _ 0).length<=1000;have:=c.length_eq;rw[BU,this,aF,BZ G];omega
 ·have d:=c.mem_iff.1 d;rcases aW.1 d with d|d
  ·exact s j d
  ·have:=G.pos j d;show 1<=j/\j<next
   omega
 ·show 1<=next/\next<=2147483647
  omega
def BA.top0(G:BA F T)(m:Mid F 0 i 0 q x k A B v)(h:AY F 0 i=some (q,x,k)):A.length=0↔i∈tops F:=by
 rcases G.one with e|⟨j,y,g,e,_⟩
 ·rw[e]at h;cases h
 ·have b:=m.find G.nodup;rw[e]at b⊢;rw[flat,D6,lI]at b;rw[tops,tops,aY];split at b
  ·rename_i a;have a:j=i:=of_decide_eq_true a;have:=Option.some.inj b;exact⟨λ_=>a.symm,λ_=>this.symm⟩
  ·rename_i a;have a:¬j=i:=λe=>a (decide_eq_true e);refine⟨λd=>?_,λf=>(a f.symm).elim⟩;rw[d]at b;obtain⟨c,_,l⟩:=cZ.1 b;omega
def BA.cut(G:BA F T)(h:AY F 0 i=some (q,x,k))(m:Mid F 0 i 0 q x k A B v)(b:i∉tops F):BA (cutF i F) ⟨flat (cutF i F) 0,T.next⟩:=by
 refine⟨rfl,WG i F G.ok,m.cutNodup G.nodup,?_,λr a=>?_,?_,λj d=>?_,G.next⟩
 ·rcases G.one with e|⟨j,y,g,e,f⟩
  ·rw[e]at h;cases h
  ·rw[e]at b⊢;rw[tops,tops,aY]at b;rw[cutF,if_neg (λe=>b e.symm),cutF];exact .inr ⟨_,_,_,rfl,f⟩
 ·have a:r∈flat (cutF i F) 0:=a;refine G.deep r ?_;rw[m.cu]at a;rw[<- G.fl,m.fl];rcases aW.1 a with h|h
  ·exact aS _ h
  ·exact aO _ (.tail _ (aO _ h))
 ·show(flat (cutF i F) 0).length<=1000;have c:=G.len;rw[<- G.fl,m.fl]at c;rw[m.cu];simp at c⊢;omega
 ·exact G.pos j ((m.SN G.nodup j).1 d).1
def BA.turn(G:BA F T)(h:AY F 0 i=some (q,x,k))(m:Mid F 0 i 0 q x k A B v){f:NX->NX}(d:(f x).kind=x.kind)(l:Aj (f x)=0):BA (EO i f F) ⟨flat (EO i f F) 0,T.next⟩:=by
 have a:=ids_turn G.nodup h f;refine⟨rfl,Ry i F 0 G.nodup G.ok h d l,a.nodup_iff.2 G.nodup,?_,λr b=>?_,?_,λj n=>G.pos j (a.mem_iff.1 n),G.next⟩
 ·rcases G.one with e|⟨j,y,p,e,g⟩
  ·rw[e]at h;cases h
  ·rw[e]at h⊢;rw[EO];split
   ·rename_i o;rw[AY,if_pos o]at h;cases h;exact .inr ⟨_,_,_,rfl,by rw[d];exact g⟩
   ·exact .inr ⟨_,_,_,rfl,g⟩
 ·have b:r∈flat (EO i f F) 0:=b;have c:∀r∈A++((⟨i,v,x⟩:Rw)::(flat k (v+1)++B)),r.level<40:=λr b=>G.deep r (by rw[<- G.fl,m.fl];exact b);rw[m.tu]at b;rcases aW.1 b with b|b
  ·exact c r (aS _ b)
  ·rcases aP.1 b with rfl|b
   ·have:=c _ (aO _ (.head _));exact this
   ·exact c r (aO _ (.tail _ b))
 ·show(flat (EO i f F) 0).length<=1000;rw[BU,a.length_eq,BZ G];exact G.len
def Mid.setR(m:Mid F 0 i 0 q x k A B v)(f:NX->NX):Nod.setR (flat F 0) A.length ⟨i,v,x⟩ (f x)=flat (EO i f F) 0:=by
 rw[Nod.setR,m.fl,m.tu,List.set_append_right _ _ (aZ _),iE,bf]
end
end
def Ae:Fo->List Int
 |.nil=>[]
 |.cons i _ k .nil=>i::Ae k
 |.cons _ _ _ (.cons j y k s)=>Ae (.cons j y k s)
def snoc:Nat->Int->NX->Fo->Fo
 |_,i,x,.nil=>.cons i x .nil .nil
 |0,i,x,.cons j y k .nil=>.cons j y k (.cons i x .nil .nil)
 |d+1,i,x,.cons j y k .nil=>.cons j y (snoc d i x k) .nil
 |d,i,x,.cons j y k (.cons j2 y2 k2 s2)=>.cons j y k (snoc d i x (.cons j2 y2 k2 s2))
theorem Lm:∀(d:Nat)(i:Int)(x:NX)(F:Fo)(l:Int),d<=(Ae F).length->flat (snoc d i x F) l=flat F l++[⟨i,l+d,x⟩]
 |d,i,x,.nil,l,h=>by
  have:d=0:=by simpa [Ae]using h
  subst this;simp[snoc,flat]
 |0,i,x,.cons j y k .nil,l,h=>by simp[snoc,flat]
 |d+1,i,x,.cons j y k .nil,l,h=>by
  have a:=Lm d i x k (l+1) (by simpa [Ae]using h);have:l+1+(d:Int)=l+((d+1:Nat):Int):=om;rw[this]at a;have c:∀(b:Fo),flat (.cons j y b .nil) l=⟨j,l,y⟩::flat b (l+1):=λb=>by simp[flat]
  rw[snoc,c,c,a];rfl
 |0,i,x,.cons j y k (.cons j2 y2 k2 s2),l,h=>by
  have a:=Lm 0 i x (.cons j2 y2 k2 s2) l (bY _);rw[snoc];show(⟨j,l,y⟩::flat k (l+1))++flat (snoc 0 i x (.cons j2 y2 k2 s2)) l=((⟨j,l,y⟩::flat k (l+1))++flat (.cons j2 y2 k2 s2) l)++_;rw[a,ax]
 |d+1,i,x,.cons j y k (.cons j2 y2 k2 s2),l,h=>by
  have a:=Lm (d+1) i x (.cons j2 y2 k2 s2) l (by simpa [Ae]using h);rw[snoc];show(⟨j,l,y⟩::flat k (l+1))++flat (snoc (d+1) i x (.cons j2 y2 k2 s2)) l=((⟨j,l,y⟩::flat k (l+1))++flat (.cons j2 y2 k2 s2) l)++_;rw[a,ax]
theorem Y5(d:Nat)(i:Int)(x:NX)(F:Fo):∃j y k s,snoc d i x F=.cons j y k s:=by
 cases F with
 |nil=>exact⟨_,_,_,_,by rw[snoc]⟩
 |cons j y k s=>
  cases s with
  |nil=>cases d with
   |zero=>exact⟨_,_,_,_,by rw[snoc]⟩
   |succ d=>exact⟨_,_,_,_,by rw[snoc]⟩
  |cons a b c e=>cases d with
   |zero=>exact⟨_,_,_,_,by rw[snoc]⟩
   |succ d=>exact⟨_,_,_,_,by rw[snoc]⟩
def Pz{j:Int}{y:NX}{k s:Fo}(h:∃j y k t,s=.cons j y k t):Ae (.cons j y k s)=Ae s:=by
 obtain⟨_,_,_,_,rfl⟩:=h;rw[Ae]
theorem FC:∀(d:Nat)(i:Int)(x:NX)(F:Fo),d<=(Ae F).length->Ae (snoc d i x F)=(Ae F).take d++[i]
 |d,i,x,.nil,h=>by
  have:d=0:=by simpa [Ae]using h
  subst this;simp[snoc,Ae]
 |0,i,x,.cons j y k .nil,h=>by simp[snoc,Ae]
 |d+1,i,x,.cons j y k .nil,h=>by
  have a:=FC d i x k (by simpa [Ae]using h);rw[snoc,Ae,a,Ae,eP,aC]
 |0,i,x,.cons j y k (.cons j2 y2 k2 s2),h=>by
  have a:=FC 0 i x (.cons j2 y2 k2 s2) (bY _);rw[snoc,Pz (Y5 ..),a,Ae]
 |d+1,i,x,.cons j y k (.cons j2 y2 k2 s2),h=>by
  have a:=FC (d+1) i x (.cons j2 y2 k2 s2) (by simpa [Ae]using h);rw[snoc,Pz (Y5 ..),a,Ae]
theorem Jn:∀(i:Int)(x:NX)(F:Fo),tops (snoc 0 i x F)=tops F++[i]
 |i,x,.nil=>by simp[snoc,tops]
 |i,x,.cons j y k .nil=>by simp[snoc,tops]
 |i,x,.cons j y k (.cons j2 y2 k2 s2)=>by
  have a:=Jn i x (.cons j2 y2 k2 s2);rw[snoc,tops,a,tops];rfl
theorem Jr:∀(d:Nat)(i:Int)(x:NX)(F:Fo),d+1<=(Ae F).length->tops (snoc (d+1) i x F)=tops F
 |d,i,x,.nil,h=>by simp[Ae]at h
 |d,i,x,.cons j y k .nil,h=>by simp[snoc,tops]
 |d,i,x,.cons j y k (.cons j2 y2 k2 s2),h=>by
  have a:=Jr d i x (.cons j2 y2 k2 s2) (by simpa [Ae]using h);rw[snoc,tops,a];simp[tops]
theorem Mc:∀(i:Int)(x:NX)(F:Fo)(p:Int),(ents (snoc 0 i x F) p).Perm (⟨i,p,x,[]⟩::ents F p)
 |i,x,.nil,p=>by simp[snoc,ents,tops]
 |i,x,.cons j y k .nil,p=>by
  have a:ents (snoc 0 i x (.cons j y k .nil)) p=(⟨j,p,y,tops k⟩::ents k j)++[⟨i,p,x,[]⟩]:=by simp[snoc,ents,tops]
  have b:ents (.cons j y k .nil) p=(⟨j,p,y,tops k⟩::ents k j):=by simp[ents]
  rw[a,b];exact dS
 |i,x,.cons j y k (.cons j2 y2 k2 s2),p=>by
  have c:=Mc i x (.cons j2 y2 k2 s2) p;have a:ents (snoc 0 i x (.cons j y k (.cons j2 y2 k2 s2))) p=(⟨j,p,y,tops k⟩::ents k j)++ents (snoc 0 i x (.cons j2 y2 k2 s2)) p:=by rw[snoc,ents];rfl
  have b:ents (.cons j y k (.cons j2 y2 k2 s2)) p=(⟨j,p,y,tops k⟩::ents k j)++ents (.cons j2 y2 k2 s2) p:=by rw[ents];rfl
  rw[a,b];exact(c.append_left _).trans bI
theorem NV:∀(d:Nat)(i:Int)(x:NX)(F:Fo)(p:Int),d+1<=(Ae F).length->
  ∃(e:En)(R:List En),(Ae F)[d]? =some e.id/\(ents F p).Perm (e::R)/\(ents (snoc (d+1) i x F) p).Perm (⟨i,e.id,x,[]⟩:: {e with kids:=e.kids++[i]}::R)
 |d,i,x,.nil,p,h=>by simp[Ae]at h
 |0,i,x,.cons j y k .nil,p,h=>by
  refine⟨⟨j,p,y,tops k⟩,ents k j,by simp[Ae],by simp[ents],?_⟩
  have a:ents (snoc (0+1) i x (.cons j y k .nil)) p=⟨j,p,y,tops k++[i]⟩::ents (snoc 0 i x k) j:=by
   rw[snoc,ents,Jn,ents,aU]
  rw[a];exact((Mc i x k j).cons _).trans (.swap _ _ _)
 |d+1,i,x,.cons j y k .nil,p,h=>by
  obtain⟨e,R,b,c,f⟩:=NV d i x k j (by simpa [Ae]using h);refine⟨e,⟨j,p,y,tops k⟩::R,by simpa [Ae]using b,?_,?_⟩
  ·have g:ents (.cons j y k .nil) p=⟨j,p,y,tops k⟩::ents k j:=by rw[ents,ents,aU]
   rw[g];exact(c.cons _).trans (.swap _ _ _)
  ·have a:ents (snoc (d+1+1) i x (.cons j y k .nil)) p=⟨j,p,y,tops k⟩::ents (snoc (d+1) i x k) j:=by
    rw[snoc,ents,Jr d i x k (by simpa [Ae]using h),ents,aU]
   rw[a];refine(f.cons _).trans ((List.Perm.swap _ _ _).trans (List.Perm.cons _ (.swap _ _ _)))
 |d,i,x,.cons j y k (.cons j2 y2 k2 s2),p,h=>by
  obtain⟨e,R,b,c,f⟩:=NV d i x (.cons j2 y2 k2 s2) p (by simpa [Ae]using h);refine⟨e,(⟨j,p,y,tops k⟩::ents k j)++R,by simpa [Ae]using b,?_,?_⟩
  ·have g:ents (.cons j y k (.cons j2 y2 k2 s2)) p=(⟨j,p,y,tops k⟩::ents k j)++ents (.cons j2 y2 k2 s2) p:=by rw[ents];rfl
   rw[g];exact(c.append_left _).trans bI
  ·have a:ents (snoc (d+1) i x (.cons j y k (.cons j2 y2 k2 s2))) p=(⟨j,p,y,tops k⟩::ents k j)++ents (snoc (d+1) i x (.cons j2 y2 k2 s2)) p:=by rw[snoc,ents];rfl
   rw[a];refine(f.append_left _).trans ?_;refine bI.trans (List.Perm.cons _ bI)
def J7(zs:List Int)(l:List It):List Rw:=List.zipWith (λz x=>⟨z,x.level,x.x⟩) zs l
def rowsZ_snoc{a:List Int}{l:List It}{k:Nat}{z:Int}{x:It}(b:a[k]? =some z)(c:l[k]? =some x):J7 (a.take (k+1)) (l.take (k+1))=J7 (a.take k) (l.take k)++[⟨z,x.level,x.x⟩]:=by
 have d:=(aA.1 b).1;have e:=(aA.1 c).1;rw[aH d,aH e,(aA.1 b).2,(aA.1 c).2,J7,J7,jB (by rw[aI,aI];omega)];rfl
theorem V6{a:List Int}{l:List It}(h:a.length=l.length):(J7 a l).map (·.id)=a:=by
 induction a generalizing l with
 |nil=>rfl
 |cons z a b=>
  cases l with
  |nil=>cases h
  |cons x l=>
   have:=b (by simpa using h);simp only[J7,mf,aj]at this⊢;rw[this]
def named_rowsZ(n:Int):∀(l:List It)(m:Int),Ak m 0 l=J7 ((List.range l.length).map λ(k:Nat)=>m+(k:Int)) l:=by
 intro l m;apply dK;intro k;rw[Di,J7,nJ,au];by_cases h:k<l.length
 ·rw[iL h,aB h];simp
 ·rw[bF (by omega:l.length<=k),bF (by rw[fZ];omega)];rfl
def Xh(l:List It):Prop:=∀(k:Nat)(x:It),l[k]? =some x->0<=x.level/\(k=0->x.level=0)/\∀y,0<k->l[k-1]? =some y->x.level<=y.level+1
theorem Xh.le{l:List It}(h:Xh l):∀(k:Nat)(x:It),l[k]? =some x->x.level<=k:=by
 intro k
 induction k with
 |zero=>
  intro x a;have:=(h 0 x a).2.1 rfl;omega
 |succ k b=>
  intro x a;have d:=(aA.1 a).1;have c:=(h (k+1) x a).2.2 _ om (aB (by omega:k+1-1<l.length));have e:=b _ (aB om);simp at c;omega
def EU(ks:List Int)(n:Nat)(ts:List Int):List Int:=ks.take n++(ts++ks.drop n)
def insAt_nil(a:List Int)(n:Nat):EU a n []=a:=by rw[EU,aN,bz]
def PI(a:List Int)(n:Nat)(b:List Int):(EU a n b).length=a.length+b.length:=by
 rw[EU,aF,aF,aI,cO];omega
def insAt_snoc(a:List Int)(n:Nat)(b:List Int)(z:Int)(f:n<=a.length):(EU a n b).take (n+b.length)++([z]++(EU a n b).drop (n+b.length))=EU a n (b++[z]):=by
 have c:(a.take n).length=n:=by rw[aI];omega
 have e:EU a n b=(a.take n++b)++a.drop n:=by rw[EU];simp
 have d:(a.take n++b).length=n+b.length:=by rw[aF,c]
 rw[e,<- d,iJ,jT,EU];simp
def RX{n:Nat}{N k:Fo}(h:n<=(tops k).length):tops (putAt n N k)=EU (tops k) n (tops N):=by
 rw[Xe n N k h,EU];simp
end Go.Nod
namespace Go.Proofs.YtljenkbpnioipaaGreat
open Go Go.Vc
def noNum:NoNum PP:=by
 have h : Tryz.prog.funcs.toList.all (fun fn => !(fn.name == "runtime.NumGoroutine")) = true := by kernel_rfl
 intro f fn hf;have:=fJ.1 h fn (by have:=Array.mem_of_getElem? hf;simpa using this);simpa using this
def cok(an:An){f:FuncId}{fn:Func}{args:LV}{w:World}{R:EW}{V:Prop}(hf:PP.funcs[f]? =some fn)(h:V)(h0:decide (args.length<=fn.ntmps)=true:=by kernel_rfl)(e:bodyV PP an fn args w R=V:=by kernel_rfl):CP f args.toArray w R:=calls_of_bodyV noNum hf h0 (e▸h)
noncomputable abbrev P:=PP
abbrev Q:Option Addr->Value:=.pointer
abbrev S:Option Addr->Nat->Nat->Value:=.slice
abbrev E:Value->Ending:=.returned
abbrev C1(f:FuncId)(l:List Value)(w:World)(K:World->Prop):=CallV P f l w λk e=>k=.returned (.tuple #[])/\K e
abbrev B0(p:Prop)[Decidable p](x y:Prop):=br (decide p) x y
abbrev B1(p:Prop)[Decidable p](x y:Prop):=br (!decide p) x y
abbrev D1(d:Int)(a:Nat):=0<=d/\d<(↑a:Int)
abbrev G1(w:World)(a:Addr)(K:Int->Prop):=∃c,Ld P 3 w a (I c)/\K c
abbrev G2(w:World)(a:Addr)(K:ByteArray->Prop):=∃c,Ld P 9 w a (.string c)/\K c
abbrev C2(f:FuncId)(l:List Value)(w:World)(K:Bool->World->Prop):=CallV P f l w λk e=>∃c,k=.returned (.bool c)/\K c e
abbrev A1(c:Int)(d:Bool):Value:=.tuple #[I c,.bool d]
abbrev G3(w:World)(a:Addr)(K:ByteArray->ByteArray->Prop):=∃c d,Ld P 142 w a (.agg #[.string c,.string d])/\K c d
abbrev C3(f:FuncId)(l:List Value)(w:World)(K:Int->World->Prop):=CallV P f l w λk e=>∃c,k=.returned (I c)/\K c e
abbrev C4(f:FuncId)(l:List Value)(w:World)(K:Option Addr->World->Prop):=CallV P f l w λk e=>∃c,k=.returned (.pointer c)/\K c e
abbrev C5(f:FuncId)(l:List Value)(w:World)(K:Option Addr->Nat->Nat->Int->World->Prop):=CallV P f l w λk e=>∃c d g i,k=.returned (.agg #[.slice c d g,I i])/\K c d g i e
abbrev C6(f:FuncId)(l:List Value)(w:World)(K:Option Addr->Nat->Nat->Int->Bool->World->Prop):=CallV P f l w λk e=>∃c d g i j,k=.returned (.tuple #[.agg #[.slice c d g,I i],.bool j])/\K c d g i j e
abbrev A2(c:Option Addr)(d g:Nat)(i:Int):Value:=.agg #[.slice c d g,I i]
abbrev N1(w:World)(c:Option Addr)(d g:Nat)(i:Int)(K:Nat->World->Prop):=∀h e,New w (.cells #[.slice c d g,I i] 29) h e->K h e
abbrev U1(w:World)(b o:Nat)(c:Option Addr)(d g:Nat)(i:Int)(K:World->Prop):=∃e,St P 29 w ⟨b,o,none⟩ (.agg #[.slice c d g,I i]) e/\K e
abbrev L1(w:World)(b o:Nat)(K:Option Addr->Nat->Nat->Int->Prop):=∃c d g i,Ld P 29 w ⟨b,o,none⟩ (.agg #[.slice c d g,I i])/\K c d g i
abbrev N2(w:World)(c d g i:Int)(j m:ByteArray)(n:Option Addr)(q r:Nat)(K:Nat->World->Prop):=∀h e,New w (.cells #[I c,I d,I g,I i,.string j,.string m,.slice n q r] 36) h e->K h e
abbrev C7(f:FuncId)(l:List Value)(w:World)(K:Option Addr->Nat->Nat->World->Prop):=CallV P f l w λk e=>∃c d g,k=.returned (.slice c d g)/\K c d g e
abbrev L2(w:World)(b o:Nat)(K:Int->Int->Int->Int->ByteArray->ByteArray->Option Addr->Nat->Nat->Prop):=∃c d g i j m n q r,Ld P 36 w ⟨b,o,none⟩ (.agg #[I c,I d,I g,I i,.string j,.string m,.slice n q r])/\K c d g i j m n q r
abbrev C8(f:FuncId)(l:List Value)(w:World)(K:Int->Int->Int->Int->ByteArray->ByteArray->Option Addr->Nat->Nat->World->Prop):=CallV P f l w λk e=>∃c d g i j m n q r,k=.returned (.agg #[I c,I d,I g,I i,.string j,.string m,.slice n q r])/\K c d g i j m n q r e
abbrev A3(c d g i:Int)(j m:ByteArray)(n:Option Addr)(q r:Nat):Value:=.agg #[I c,I d,I g,I i,.string j,.string m,.slice n q r]
abbrev C9(f:FuncId)(l:List Value)(w:World)(K:Int->Option Addr->Nat->Nat->Int->World->Prop):=CallV P f l w λk e=>∃c d g i j,k=.returned (.tuple #[I c,.slice d g i,I j])/\K c d g i j e
abbrev C10(f:FuncId)(l:List Value)(w:World)(K:Int->Int->World->Prop):=CallV P f l w λk e=>∃c d,k=.returned (.tuple #[I c,I d])/\K c d e
abbrev Z1(w:World)(a:Addr)(c:ByteArray)(K:World->Prop):=∃e,St P 9 w a (.string c) e/\K e
abbrev G4(w:World)(a:Addr)(K:Int->Int->Int->Int->ByteArray->ByteArray->Option Addr->Nat->Nat->Prop):=∃c d g i j m n q r,Ld P 36 w a (.agg #[I c,I d,I g,I i,.string j,.string m,.slice n q r])/\K c d g i j m n q r
abbrev U2(w:World)(b o:Nat)(c d g i:Int)(j m:ByteArray)(n:Option Addr)(q r:Nat)(K:World->Prop):=∃e,St P 36 w ⟨b,o,none⟩ (.agg #[I c,I d,I g,I i,.string j,.string m,.slice n q r]) e/\K e
abbrev C11(f:FuncId)(l:List Value)(w:World)(K:Option Addr->Int->World->Prop):=CallV P f l w λk e=>∃c d,k=.returned (.tuple #[.pointer c,I d])/\K c d e
abbrev N3(w:World)(c d:Int)(K:Nat->World->Prop):=∀h e,New w (.cells #[I c,I d] 62) h e->K h e
abbrev U3(w:World)(b o:Nat)(c d:Int)(K:World->Prop):=∃e,St P 62 w ⟨b,o,none⟩ (.agg #[I c,I d]) e/\K e
abbrev L3(w:World)(b o:Nat)(K:Int->Int->Prop):=∃c d,Ld P 62 w ⟨b,o,none⟩ (.agg #[I c,I d])/\K c d
abbrev A4(c d:Int):Value:=.agg #[I c,I d]
abbrev C13(f:FuncId)(l:List Value)(w:World)(K:Int->Int->Int->Int->ByteArray->ByteArray->Option Addr->Nat->Nat->Bool->World->Prop):=CallV P f l w λk e=>∃c d g i j m n q r s,k=.returned (.tuple #[.agg #[I c,I d,I g,I i,.string j,.string m,.slice n q r],.bool s])/\K c d g i j m n q r s e
abbrev N5(w:World)(c d g i:Int)(j m:ByteArray)(n:Option Addr)(q r:Nat)(K:Nat->World->Prop):=∀h e,New w (.cells #[I c,I d,I g,I i,.string j,.string m,.slice n q r] 71) h e->K h e
abbrev U4(w:World)(b o:Nat)(c d g i:Int)(j m:ByteArray)(n:Option Addr)(q r:Nat)(K:World->Prop):=∃e,St P 71 w ⟨b,o,none⟩ (.agg #[I c,I d,I g,I i,.string j,.string m,.slice n q r]) e/\K e
abbrev G5(w:World)(a:Addr)(K:Int->Int->ByteArray->Bool->Prop):=∃c d g i,Ld P 79 w a (.agg #[I c,I d,.string g,.bool i])/\K c d g i
abbrev N6(w:World)(c d:Int)(g:ByteArray)(i:Bool)(K:Nat->World->Prop):=∀h e,New w (.cells #[I c,I d,.string g,.bool i] 79) h e->K h e
abbrev A5(c d:Int)(g:ByteArray)(i:Bool):Value:=.agg #[I c,I d,.string g,.bool i]
abbrev L4(w:World)(b o:Nat)(K:Int->Prop):=∃c,Ld P 3 w ⟨b,o,none⟩ (I c)/\K c
abbrev L5(w:World)(b o:Nat)(K:Bool->Prop):=∃c,Ld P 4 w ⟨b,o,none⟩ (.bool c)/\K c
abbrev L6(w:World)(b o:Nat)(K:Option Addr->Nat->Nat->Prop):=∃c d g,Ld P 34 w ⟨b,o,none⟩ (.slice c d g)/\K c d g
abbrev C14(f:FuncId)(l:List Value)(w:World)(K:Option Addr->Nat->Nat->Int->Int->Int->World->Prop):=CallV P f l w λk e=>∃c d g i j m,k=.returned (.tuple #[.agg #[.slice c d g,I i],I j,I m])/\K c d g i j m e
abbrev N7(w:World)(c d:Int)(g:ByteArray)(i:Bool)(K:Nat->World->Prop):=∀h e,New w (.cells #[I c,I d,.string g,.bool i] 55) h e->K h e
abbrev G6(w:World)(a:Addr)(K:Option Addr->Nat->Nat->Prop):=∃c d g,Ld P 84 w a (.slice c d g)/\K c d g
abbrev G7(w:World)(a:Addr)(K:Option Addr->Prop):=∃c,Ld P 95 w a (.pointer c)/\K c
abbrev C15(f:FuncId)(l:List Value)(w:World)(K:ByteArray->Bool->World->Prop):=CallV P f l w λk e=>∃c d,k=.returned (.tuple #[.string c,.bool d])/\K c d e
abbrev G8(w:World)(a:Addr)(K:Option Addr->Prop):=∃c,Ld P 49 w a (.pointer c)/\K c
abbrev G9(w:World)(a:Addr)(K:Option Nat->Prop):=∃c,Ld P 80 w a (.map c)/\K c
abbrev G10(w:World)(a:Addr)(K:Option Addr->Prop):=∃c,Ld P 81 w a (.pointer c)/\K c
abbrev G11(w:World)(a:Addr)(K:Option Nat->Prop):=∃c,Ld P 83 w a (.map c)/\K c
abbrev C16(f:FuncId)(l:List Value)(w:World)(K:Option Nat->World->Prop):=CallV P f l w λk e=>∃c,k=.returned (.map c)/\K c e
abbrev N8(w:World)(c:Option Addr)(K:Nat->World->Prop):=∀h e,New w (.cells #[.pointer c] 95) h e->K h e
abbrev A6(c:Int)(d:Option Addr)(g i:Nat)(j:Int):Value:=.tuple #[I c,.slice d g i,I j]
abbrev N9(w:World)(c:Int)(K:Nat->World->Prop):=∀h e,New w (.cells #[I c] 3) h e->K h e
abbrev L7(w:World)(b o:Nat)(K:ByteArray->Prop):=∃c,Ld P 9 w ⟨b,o,none⟩ (.string c)/\K c
abbrev A7(c d:Int):Value:=.tuple #[I c,I d]
abbrev Z2(w:World)(a:Addr)(c:Int)(K:World->Prop):=∃e,St P 3 w a (I c) e/\K e
abbrev A8(c:Option Addr)(d:Int):Value:=.tuple #[.pointer c,I d]
abbrev L8(w:World)(b o:Nat)(K:Option Addr->Nat->Nat->Prop):=∃c d g,Ld P 27 w ⟨b,o,none⟩ (.slice c d g)/\K c d g
abbrev A9(c d:Int)(g:Bool):Value:=.tuple #[.agg #[I c,I d],.bool g]
abbrev N10(w:World)(c:Option Addr)(d g:Nat)(K:Nat->World->Prop):=∀h e,New w (.cells #[.slice c d g] 59) h e->K h e
abbrev L9(w:World)(b o:Nat)(K:Option Addr->Nat->Nat->Prop):=∃c d g,Ld P 59 w ⟨b,o,none⟩ (.slice c d g)/\K c d g
abbrev U5(w:World)(b o:Nat)(c:Option Addr)(d g:Nat)(K:World->Prop):=∃e,St P 59 w ⟨b,o,none⟩ (.slice c d g) e/\K e
abbrev G12(w:World)(a:Addr)(K:Option Nat->Prop):=∃c,Ld P 117 w a (.map c)/\K c
abbrev A10(c:Option Addr)(d:Bool):Value:=.tuple #[.pointer c,.bool d]
abbrev L10(w:World)(b o:Nat)(K:Int->Int->Int->Int->ByteArray->ByteArray->Option Addr->Nat->Nat->Prop):=∃c d g i j m n q r,Ld P 71 w ⟨b,o,none⟩ (.agg #[I c,I d,I g,I i,.string j,.string m,.slice n q r])/\K c d g i j m n q r
abbrev G13(w:World)(a:Addr)(K:Option Addr->Nat->Nat->Prop):=∃c d g,Ld P 59 w a (.slice c d g)/\K c d g
abbrev G14(w:World)(a:Addr)(K:Option Addr->Nat->Nat->Prop):=∃c d g,Ld P 69 w a (.slice c d g)/\K c d g
abbrev U6(w:World)(b o:Nat)(c:Int)(K:World->Prop):=∃e,St P 3 w ⟨b,o,none⟩ (I c) e/\K e
abbrev U7(w:World)(b o:Nat)(c:Option Addr)(d g:Nat)(K:World->Prop):=∃e,St P 69 w ⟨b,o,none⟩ (.slice c d g) e/\K e
abbrev N11(w:World)(c d:Int)(g i:ByteArray)(j:Option Addr)(m n:Nat)(K:Nat->World->Prop):=∀h e,New w (.cells #[I c,I d,.string g,.string i,.slice j m n] 123) h e->K h e
abbrev A11(c:Option Addr)(d g:Nat)(i j m:Int):Value:=.tuple #[.agg #[.slice c d g,I i],I j,I m]
abbrev G16(w:World)(a:Addr)(K:Int->Int->ByteArray->ByteArray->Option Addr->Nat->Nat->Prop):=∃c d g i j m n,Ld P 123 w a (.agg #[I c,I d,.string g,.string i,.slice j m n])/\K c d g i j m n
abbrev U8(w:World)(b o:Nat)(c d:Int)(g i:ByteArray)(j:Option Addr)(m n:Nat)(K:World->Prop):=∃e,St P 123 w ⟨b,o,none⟩ (.agg #[I c,I d,.string g,.string i,.slice j m n]) e/\K e
abbrev L11(w:World)(b o:Nat)(K:Option Addr->Nat->Nat->Prop):=∃c d g,Ld P 69 w ⟨b,o,none⟩ (.slice c d g)/\K c d g
abbrev N12(w:World)(c:ByteArray)(K:Nat->World->Prop):=∀h e,New w (.cells #[.string c] 9) h e->K h e
abbrev A12(c:ByteArray)(d:Bool):Value:=.tuple #[.string c,.bool d]
abbrev G17(w:World)(a:Addr)(K:Option Addr->Nat->Nat->Prop):=∃c d g,Ld P 148 w a (.slice c d g)/\K c d g
abbrev G18(w:World)(a:Addr)(K:Option Nat->Prop):=∃c,Ld P 147 w a (.map c)/\K c
abbrev C17(f:FuncId)(l:List Value)(w:World)(K:Int->Bool->World->Prop):=CallV P f l w λk e=>∃c d,k=.returned (.tuple #[I c,.bool d])/\K c d e
abbrev N13(w:World)(c d:ByteArray)(K:Nat->World->Prop):=∀h e,New w (.cells #[.string c,.string d] 142) h e->K h e
abbrev U9(w:World)(b o:Nat)(c d:ByteArray)(K:World->Prop):=∃e,St P 142 w ⟨b,o,none⟩ (.agg #[.string c,.string d]) e/\K e
abbrev A13(c:Option Addr)(d g:Nat)(i:Int):Value:=.tuple #[.slice c d g,I i]
abbrev G19(w:World)(a:Addr)(K:Int->Int->Prop):=∃c d,Ld P 62 w a (.agg #[I c,I d])/\K c d
abbrev G20(w:World)(a:Addr)(K:Option Addr->Prop):=∃c,Ld P 23 w a (.pointer c)/\K c
abbrev A14(c:ByteArray):Value:=.agg #[.string c]
abbrev N14(w:World)(c d:Int)(K:Nat->World->Prop):=∀h e,New w (.cells #[I c,I d] 101) h e->K h e
abbrev U10(w:World)(b o:Nat)(c d:Int)(K:World->Prop):=∃e,St P 101 w ⟨b,o,none⟩ (.agg #[I c,I d]) e/\K e
abbrev G21(w:World)(a:Addr)(K:Option Nat->Prop):=∃c,Ld P 110 w a (.map c)/\K c
abbrev L12(w:World)(b o:Nat)(K:Int->Int->Prop):=∃c d,Ld P 101 w ⟨b,o,none⟩ (.agg #[I c,I d])/\K c d
abbrev C18(f:FuncId)(l:List Value)(w:World)(K:ByteArray->World->Prop):=CallV P f l w λk e=>∃c,k=.returned (.string c)/\K c e
abbrev A15(c d g i j m:Int)(n:ByteArray)(q:Option Addr)(r s:Nat):Value:=.agg #[I c,I d,I g,I i,I j,I m,.string n,.slice q r s]
abbrev L13(w:World)(b o:Nat)(K:Int->Int->ByteArray->ByteArray->Option Addr->Nat->Nat->Prop):=∃c d g i j m n,Ld P 123 w ⟨b,o,none⟩ (.agg #[I c,I d,.string g,.string i,.slice j m n])/\K c d g i j m n
abbrev A16(c d:Int)(g i:ByteArray)(j:Option Addr)(m n:Nat):Value:=.agg #[I c,I d,.string g,.string i,.slice j m n]
abbrev Z3(w:World)(a:Addr)(c:Option Addr)(d g:Nat)(K:World->Prop):=∃e,St P 59 w a (.slice c d g) e/\K e
abbrev A17(c d g:Int)(i:Bool):Value:=.tuple #[I c,I d,I g,.bool i]
abbrev G22(w:World)(a:Addr)(K:Option Nat->Prop):=∃c,Ld P 125 w a (.map c)/\K c
abbrev N15(w:World)(c:ByteArray)(d:Int)(K:Nat->World->Prop):=∀h e,New w (.cells #[.string c,I d] 167) h e->K h e
abbrev Z4(w:World)(a:Addr)(c:Option Addr)(d g:Nat)(K:World->Prop):=∃e,St P 148 w a (.slice c d g) e/\K e
abbrev A18(c d g i j m:Int)(n:ByteArray)(q:Option Addr)(r s:Nat)(t:Int):Value:=.tuple #[.agg #[I c,I d,I g,I i,I j,I m,.string n,.slice q r s],I t]
abbrev N16(w:World)(c d g i j m:Int)(n:ByteArray)(q:Option Addr)(r s:Nat)(K:Nat->World->Prop):=∀h e,New w (.cells #[I c,I d,I g,I i,I j,I m,.string n,.slice q r s] 204) h e->K h e
abbrev U11(w:World)(b o:Nat)(c d g i j m:Int)(n:ByteArray)(q:Option Addr)(r s:Nat)(K:World->Prop):=∃e,St P 204 w ⟨b,o,none⟩ (.agg #[I c,I d,I g,I i,I j,I m,.string n,.slice q r s]) e/\K e
abbrev G23(w:World)(a:Addr)(K:Option Addr->Nat->Nat->Prop):=∃c d g,Ld P 126 w a (.slice c d g)/\K c d g
abbrev L14(w:World)(b o:Nat)(K:Int->Int->Int->Int->Int->Int->ByteArray->Option Addr->Nat->Nat->Prop):=∃c d g i j m n q r s,Ld P 204 w ⟨b,o,none⟩ (.agg #[I c,I d,I g,I i,I j,I m,.string n,.slice q r s])/\K c d g i j m n q r s
abbrev C19(f:FuncId)(l:List Value)(w:World)(K:Option Addr->Nat->Nat->Bool->World->Prop):=CallV P f l w λk e=>∃c d g i,k=.returned (.tuple #[.slice c d g,.bool i])/\K c d g i e
abbrev C20(f:FuncId)(l:List Value)(w:World)(K:Option Addr->Nat->Nat->Int->Int->World->Prop):=CallV P f l w λk e=>∃c d g i j,k=.returned (.tuple #[.agg #[.slice c d g,I i],I j])/\K c d g i j e
abbrev A19(c d:ByteArray):Value:=.agg #[.string c,.string d]
abbrev U12(w:World)(b o:Nat)(c:Int)(K:World->Prop):=∃e,St P 41 w ⟨b,o,none⟩ (I c) e/\K e
abbrev L15(w:World)(b o:Nat)(K:Int->Prop):=∃c,Ld P 41 w ⟨b,o,none⟩ (I c)/\K c
abbrev U13(w:World)(b o:Nat)(c:ByteArray)(d:Int)(K:World->Prop):=∃e,St P 167 w ⟨b,o,none⟩ (.agg #[.string c,I d]) e/\K e
abbrev G24(w:World)(a:Addr)(K:Int->Bool->Prop):=∃c d,Ld P 248 w a (.agg #[I c,.bool d])/\K c d
abbrev N17(w:World)(c:Int)(d:Bool)(K:Nat->World->Prop):=∀h e,New w (.cells #[I c,.bool d] 248) h e->K h e
abbrev A20(c:Int)(d:Bool):Value:=.agg #[I c,.bool d]
abbrev L16(w:World)(b o:Nat)(K:Option Addr->Nat->Nat->Prop):=∃c d g,Ld P 202 w ⟨b,o,none⟩ (.slice c d g)/\K c d g
abbrev N18(w:World)(c:Int)(d:ByteArray)(K:Nat->World->Prop):=∀h e,New w (.cells #[I c,.string d] 260) h e->K h e
abbrev G25(w:World)(a:Addr)(K:Int->Prop):=∃c,Ld P 5 w a (.int .u8 c)/\K c
abbrev U14(w:World)(b o:Nat)(c:ByteArray)(K:World->Prop):=∃e,St P 9 w ⟨b,o,none⟩ (.string c) e/\K e
abbrev U15(w:World)(b o:Nat)(c:Int)(d:ByteArray)(K:World->Prop):=∃e,St P 260 w ⟨b,o,none⟩ (.agg #[I c,.string d]) e/\K e
abbrev A21(c:Option Addr)(d g:Nat)(i:Bool):Value:=.tuple #[.slice c d g,.bool i]
abbrev A22(c:Option Addr)(d g:Nat)(i j:Int):Value:=.tuple #[.agg #[.slice c d g,I i],I j]
abbrev L17(w:World)(b o:Nat)(K:Option Addr->Prop):=∃c,Ld P 95 w ⟨b,o,none⟩ (.pointer c)/\K c
abbrev N19(w:World)(c:Int)(K:Nat->World->Prop):=∀h e,New w (.cells #[.int .u8 c] 5) h e->K h e
abbrev A23(c d:Int):Value:=.tuple #[.int .i32 c,I d]
abbrev A24(c d:Int):Value:=.agg #[.int .i32 c,.int .i32 d]
abbrev A25(c d:Int):Value:=.tuple #[I c,.int .i32 d]
abbrev C21(f:FuncId)(l:List Value)(w:World)(K:Int->World->Prop):=CallV P f l w λk e=>∃c,k=.returned (.int .u8 c)/\K c e
section
variable{w:World}{R:Ending->World->Prop}{p0 p1 p2:Option Addr}{n0 n1 n2 n3:Nat}{i0 i1 i2 i3 i4 i5 i6 i7 i8 i9 i10 i11:Int}{s0 s1 s2 s3:ByteArray}{b0 b1:Bool}{m0:Option Nat}{v0:Value}
def clnG(k0 k1:Nat):Prop:=∃a,Eqv P .eql k0 (.tmp 3) (.const (S none 0 0)) w (S p0 n0 n1) (S none 0 0) a/\br a (R (E (S none 0 0)) w) (∀a h,New w (.cells #[] k1) a h->∃b d c i,App P #[k0,k0] k0 h (S (some (.mk a 0 none)) 0 0) (S p0 n0 n1) (S b d c) i/\R (E (S b d c)) i)
def Jbn(h: @clnG w R p0 n0 n1 69 142):Calls P 70 #[S p0 n0 n1] w R:=cok {} Tryz.func70 h
def Jbo(h: @clnG w R p0 n0 n1 59 3):Calls P 87 #[S p0 n0 n1] w R:=cok {} Tryz.func87 h
def Jbp(h: @clnG w R p0 n0 n1 148 167):Calls P 89 #[S p0 n0 n1] w R:=cok {} Tryz.func89 h
def mclG(k0:Nat):Prop:=∃b,Eqv P .eql k0 (.tmp 3) (.const (.map none)) w (.map m0) (.map none) b/\br b (R (E (.map none)) w) (ExtV P 88 [.iface k0 (.map m0)] w λe d=>∃c,e=E c/\∃m0,TAs P 20 k0 false d c (.map m0)/\R (E (.map m0)) d)
def Jb0(h: @mclG w R m0 80):Calls P 50 #[.map m0] w R:=cok {} Tryz.func50 h
def Jby(h: @mclG w R m0 83):Calls P 52 #[.map m0] w R:=cok {} Tryz.func52 h
def Jbz(h: @mclG w R m0 147):Calls P 90 #[.map m0] w R:=cok {} Tryz.func90 h
def insG(k0 k1 k2 k3:Nat):Prop:=(0<=i0/\i0<=(↑n0:Int))/\B0 ((↑n2:Int)=0) (R (E (S p0 n0 n1)) w) (B0 (i0=(↑n0:Int)) (∃i e h f,App P #[k0,k0] k0 w (S p0 n0 n1) (S p1 n2 n3) (S i e h) f/\R (E (S i e h)) f) (inR .i64 ((↑n0:Int)+(↑n2:Int))/\B0 ((↑n1:Int)<(↑n0:Int)+(↑n2:Int)) ((0<=i0/\i0<=(↑n1:Int))/\inR .i64 ((↑n0:Int)+(↑n2:Int))/\inR .i64 ((↑n0:Int)+(↑n2:Int)-i0)/\∃i e h f,App P #[k0,3] k0 w (S p0 (i0.toNat) n1) (I ((↑n0:Int)+(↑n2:Int)-i0)) (S i e h) f/\(0<=i0/\i0<=(↑e:Int))/\∃p l,Cpy P #[k0,k0] 3 f (S (slA i h (i0.toNat) k1) (e-i0.toNat) (h-i0.toNat)) (S p1 n2 n3) (I p) l/\inR .i64 (i0+(↑n2:Int))/\(0<=i0+(↑n2:Int)/\i0+(↑n2:Int)<=(↑e:Int))/\(0<=i0/\i0<=(↑n0:Int))/\∃q f,Cpy P #[k0,k0] 3 l.drew (S (slA i h (Int.toNat (i0+(↑n2:Int))) k1) (e-Int.toNat (i0+(↑n2:Int))) (h-Int.toNat (i0+(↑n2:Int)))) (S (slA p0 n1 (i0.toNat) k1) (n0-i0.toNat) (n1-i0.toNat)) (I q) f/\R (E (S i e h)) f) (inR .i64 ((↑n0:Int)+(↑n2:Int))/\(0<=(↑n0:Int)+(↑n2:Int)/\(↑n0:Int)+(↑n2:Int)<=(↑n1:Int))/\inR .i64 (i0+(↑n2:Int))/\(0<=i0+(↑n2:Int)/\i0+(↑n2:Int)<=(↑(Int.toNat ((↑n0:Int)+(↑n2:Int))):Int))/\ExtV P k2 [S p1 n2 n3,S (slA p0 n1 (Int.toNat (i0+(↑n2:Int))) k1) (Int.toNat ((↑n0:Int)+(↑n2:Int))-Int.toNat (i0+(↑n2:Int))) (n1-Int.toNat (i0+(↑n2:Int)))] w λn m=>∃o,n=E (.bool o)/\br (!o) (inR .i64 (i0+(↑n2:Int))/\(0<=i0+(↑n2:Int)/\i0+(↑n2:Int)<=(↑(Int.toNat ((↑n0:Int)+(↑n2:Int))):Int))/\(0<=i0/\i0<=(↑(Int.toNat ((↑n0:Int)+(↑n2:Int))):Int))/\∃e f,Cpy P #[k0,k0] 3 m.drew (S (slA p0 n1 (Int.toNat (i0+(↑n2:Int))) k1) (Int.toNat ((↑n0:Int)+(↑n2:Int))-Int.toNat (i0+(↑n2:Int))) (n1-Int.toNat (i0+(↑n2:Int)))) (S (slA p0 n1 (i0.toNat) k1) (Int.toNat ((↑n0:Int)+(↑n2:Int))-i0.toNat) (n1-i0.toNat)) (I e) f/\(0<=i0/\i0<=(↑(Int.toNat ((↑n0:Int)+(↑n2:Int))):Int))/\∃e l,Cpy P #[k0,k0] 3 f (S (slA p0 n1 (i0.toNat) k1) (Int.toNat ((↑n0:Int)+(↑n2:Int))-i0.toNat) (n1-i0.toNat)) (S p1 n2 n3) (I e) l/\R (E (S p0 (Int.toNat ((↑n0:Int)+(↑n2:Int))) n1)) l) ((0<=(↑n0:Int)/\(↑n0:Int)<=(↑(Int.toNat ((↑n0:Int)+(↑n2:Int))):Int))/\∃e f,Cpy P #[k0,k0] 3 m (S (slA p0 n1 (Int.toNat (↑n0:Int)) k1) (Int.toNat ((↑n0:Int)+(↑n2:Int))-Int.toNat (↑n0:Int)) (n1-Int.toNat (↑n0:Int))) (S p1 n2 n3) (I e) f/\(0<=i0/\i0<=(↑(Int.toNat ((↑n0:Int)+(↑n2:Int))):Int))/\C1 k3 [S (slA p0 n1 (i0.toNat) k1) (Int.toNat ((↑n0:Int)+(↑n2:Int))-i0.toNat) (n1-i0.toNat),I (↑n2:Int)] f λm=>R (E (S p0 (Int.toNat ((↑n0:Int)+(↑n2:Int))) n1)) m))))
def Jbw(h: @insG w R p0 p1 n0 n1 n2 n3 i0 59 1 181 182):Calls P 122 #[S p0 n0 n1,I i0,S p1 n2 n3] w R:=cok {} Tryz.func122 h
def Jbv(h: @insG w R p0 p1 n0 n1 n2 n3 i0 69 2 220 221):Calls P 153 #[S p0 n0 n1,I i0,S p1 n2 n3] w R:=cok {} Tryz.func153 h
def delG(k0 k1:Nat):Prop:=(0<=i0/\i0<=i1/\i1<=(↑n0:Int)/\(↑n0:Int)<=(↑n1:Int))/\B0 (i0=i1) (R (E (S p0 n0 n1)) w) ((0<=i0/\i0<=(↑n1:Int))/\(0<=i1/\i1<=(↑n0:Int))/\∃g c f i,App P #[k0,k0] k0 w.drew (S p0 (i0.toNat) n1) (S (slA p0 n1 (i1.toNat) k1) (n0-i1.toNat) (n1-i1.toNat)) (S g c f) i/\(0<=(↑c:Int)/\(↑c:Int)<=(↑n0:Int)/\(↑n0:Int)<=(↑f:Int))/\∃j,Clr P #[k0] 0 i (S (slA g f (Int.toNat (↑c:Int)) k1) (Int.toNat (↑n0:Int)-Int.toNat (↑c:Int)) (f-Int.toNat (↑c:Int))) j/\R (E (S g c f)) j)
def Jbs(h: @delG w R p0 n0 n1 i0 i1 69 2):Calls P 154 #[S p0 n0 n1,I i0,I i1] w R:=cok {} Tryz.func154 h
def Jbt(h: @delG w R p0 n0 n1 i0 i1 59 1):Calls P 216 #[S p0 n0 n1,I i0,I i1] w R:=cok {} Tryz.func216 h
def Jbu(h:LoopP (St:=Int) (λa b f=>B0 (a<n0) (onP p0 λe=>D1 a n0/\G1 b (e.add (a.toNat*1)) λc=>B0 (i0=c) (R (E (I a)) b) (inR .i64 (a+1)/\f (a+1) b)) (R (E (I (-1:Int))) b)) 0 w):Calls P 215 #[S p0 n0 n1,I i0] w R:=cok ⟨[],[(2,[(8,.inl .i64)])],[],[]⟩ Tryz.func215 h
def Jbm(h:LoopP (St:=Int×Int) (λa b j=>B0 (a.1<a.2) (inR .i64 (a.1+a.2)/\(0:Int)<=(1:Int)/\onP p0 λd=>((0:Int)<=IntKind.wrap .i64 (Int.fdiv (IntKind.wrap .u64 (a.1+a.2)) ((2:Int)^min (Int.toNat (1:Int)) (IntKind.bits .u64)))/\IntKind.wrap .i64 (Int.fdiv (IntKind.wrap .u64 (a.1+a.2)) ((2:Int)^min (Int.toNat (1:Int)) (IntKind.bits .u64)))<n0)/\G2 b (d.add (Int.toNat (IntKind.wrap .i64 (Int.fdiv (IntKind.wrap .u64 (a.1+a.2)) ((2:Int)^min (Int.toNat (1:Int)) (IntKind.bits .u64))))*1)) λf=>C2 155 [.string f,.string s0] b λc b=>br c (inR .i64 (IntKind.wrap .i64 (Int.fdiv (IntKind.wrap .u64 (a.1+a.2)) ((2:Int)^min (Int.toNat (1:Int)) (IntKind.bits .u64)))+(1:Int))/\j (IntKind.wrap .i64 (Int.fdiv (IntKind.wrap .u64 (a.1+a.2)) ((2:Int)^min (Int.toNat (1:Int)) (IntKind.bits .u64)))+(1:Int),a.2) b) (j (a.1,IntKind.wrap .i64 (Int.fdiv (IntKind.wrap .u64 (a.1+a.2)) ((2:Int)^min (Int.toNat (1:Int)) (IntKind.bits .u64)))) b)) (B0 (a.1<n0) (onP p0 λd=>((0:Int)<=a.1/\a.1<n0)/\G2 b (d.add (a.1.toNat*1)) λf=>B0 (f=s0) (R (E (A1 a.1 true)) b) (onP p0 λd=>((0:Int)<=a.1/\a.1<n0)/\G2 b (d.add (a.1.toNat*1)) λk=>C2 156 [.string k] b λc b=>br c (C2 156 [.string s0] b λc b=>R (E (A1 a.1 c)) b) (R (E (A1 a.1 false)) b))) (R (E (A1 a.1 false)) b))) ((0:Int),n0) w):Calls P 98 #[S p0 n0 n1,.string s0] w R:=cok ⟨[],[(3,[(7,.inl .i64),(8,.inl .i64)])],[],[]⟩ Tryz.func98 h
def Jbl(h:LoopP (St:=Int×Int) (λa b j=>B0 (a.1<a.2) (inR .i64 (a.1+a.2)/\(0:Int)<=(1:Int)/\onP p0 λg=>((0:Int)<=IntKind.wrap .i64 (Int.fdiv (IntKind.wrap .u64 (a.1+a.2)) ((2:Int)^min (Int.toNat (1:Int)) (IntKind.bits .u64)))/\IntKind.wrap .i64 (Int.fdiv (IntKind.wrap .u64 (a.1+a.2)) ((2:Int)^min (Int.toNat (1:Int)) (IntKind.bits .u64)))<n0)/\G3 b (g.add (Int.toNat (IntKind.wrap .i64 (Int.fdiv (IntKind.wrap .u64 (a.1+a.2)) ((2:Int)^min (Int.toNat (1:Int)) (IntKind.bits .u64))))*2)) λd e=>CallX P v0 [.agg #[.string d,.string e],.string s0] b λh b=>∃c,h=E (I c)/\B0 (c<(0:Int)) (inR .i64 (IntKind.wrap .i64 (Int.fdiv (IntKind.wrap .u64 (a.1+a.2)) ((2:Int)^min (Int.toNat (1:Int)) (IntKind.bits .u64)))+(1:Int))/\j (IntKind.wrap .i64 (Int.fdiv (IntKind.wrap .u64 (a.1+a.2)) ((2:Int)^min (Int.toNat (1:Int)) (IntKind.bits .u64)))+(1:Int),a.2) b) (j (a.1,IntKind.wrap .i64 (Int.fdiv (IntKind.wrap .u64 (a.1+a.2)) ((2:Int)^min (Int.toNat (1:Int)) (IntKind.bits .u64)))) b)) (B0 (a.1<n0) (onP p0 λg=>((0:Int)<=a.1/\a.1<n0)/\G3 b (g.add (a.1.toNat*2)) λd e=>CallX P v0 [.agg #[.string d,.string e],.string s0] b λh b=>∃c,h=E (I c)/\R (E (A1 a.1 (decide (c=(0:Int))))) b) (R (E (A1 a.1 false)) b))) ((0:Int),n0) w):Calls P 218 #[S p0 n0 n1,.string s0,v0] w R:=cok ⟨[],[(3,[(9,.inl .i64),(10,.inl .i64)])],[],[]⟩ Tryz.func218 h
def Jbx(h:C2 222 [.string s0] w λa b=>br a (C2 222 [.string s1] b λa b=>br (!a) (R (E (.bool true)) b) (R (E (.bool (Op.bytesLess (Array.toList (ByteArray.data s0)) (Array.toList (ByteArray.data s1))))) b)) (R (E (.bool (Op.bytesLess (Array.toList (ByteArray.data s0)) (Array.toList (ByteArray.data s1))))) b)):Calls P 155 #[.string s0,.string s1] w R:=cok {} Tryz.func155 h
def Jb1(h:R (E (.bool !decide (s0=s0))) w):Calls P 156 #[.string s0] w R:=cok {} Tryz.func156 h
def Jb2(h:R (E (.bool !decide (s0=s0))) w):Calls P 222 #[.string s0] w R:=cok {} Tryz.func222 h
def Jbr(h:C3 259 [.string s0,.string s1] w λa e=>R (E (I a)) e):Calls P 201 #[.string s0,.string s1] w R:=cok {} Tryz.func201 h
def Jbq(h:ExtV P 298 [.string s0,.string s1] w λd e=>∃a,d=E (I a)/\R (E (I a)) e):Calls P 259 #[.string s0,.string s1] w R:=cok {} Tryz.func259 h
def Jc3(h:N2 w i0 i1 i2 i3 s0 s1 p1 n2 n3 λc j=>C4 10 [] j λi a=>JoinP (λh a=>br h (∃c,Eqv P .neq 23 (.tmp 27) (.const (Q none)) a (Q i) (Q none) c/\br c (C2 12 [] a λc a=>R (E (.bool c)) a) (R (E (.bool false)) a)) (C5 14 [] a λe g f d a=>C6 13 [Q i,A2 e g f d,S p0 n0 n1] a λe g f d o a=>N1 a none 0 0 0 λk j=>U1 j k 0 e g f d λaa=>C7 17 [Q i] aa λe g f a=>C7 16 [S e g f] a λe g f a=>C4 18 [Q i] a λB a=>∃F,Eqv P .eql 23 (.tmp 44) (.const (Q none)) a (Q B) (Q none) F/\br F (R (E (.bool false)) a) (br (!o) (R (E (.bool false)) a) (L2 a c 0 λd s t v h A C O G=>C8 20 [A3 d s t v h A C O G] a λd K L M h W D T H a=>C9 19 [Q i,A3 d K L M h W D T H] a λd ab V ac N a=>B0 (N=0) (C2 12 [] a λc a=>br c (L1 a k 0 λl x p d=>C2 15 [Q B,A2 l x p d] a λc a=>br c (C7 17 [Q B] a λm y q a=>C7 16 [S m y q] a λn z r a=>C2 21 [S n z r,S e g f] a λc a=>R (E (.bool c)) a) (R (E (.bool false)) a)) (R (E (.bool false)) a)) (C2 12 [] a λc a=>br c (B0 (d=0) (B0 ((↑V:Int)=0) (L1 a k 0 λl x p d=>C2 15 [Q i,A2 l x p d] a λc a=>br c (C7 17 [Q i] a λm y q a=>C7 16 [S m y q] a λn z r a=>C2 21 [S n z r,S e g f] a λc a=>R (E (.bool c)) a) (R (E (.bool false)) a)) (R (E (.bool false)) a)) (R (E (.bool false)) a)) (R (E (.bool false)) a)))))) λ(J:Bool->World->Prop)=>∃o,Eqv P .eql 23 (.tmp 14) (.const (Q none)) a (Q i) (Q none) o/\br o (J true a) (C2 11 [S p0 n0 n1] a λk a=>br (!k) (J true a) (L2 a c 0 λd s t v h A e g f=>N2 a d s t v h A e g f λc j=>C2 11 [S (some (.mk c 0 none)) 1 1] j λc a=>J (!c) a))):Calls P 4 #[S p0 n0 n1,A3 i0 i1 i2 i3 s0 s1 p1 n2 n3] w R:=cok ⟨[],[],[(3,[(26,.inr 0)])],[]⟩ Tryz.func4 h
def Jcn(h:C4 37 [] w λg c=>∀d a,New c (.map #[] 0) d a->C4 38 [] a λh c=>∀e a,New c (.map #[] 0) e a->∀f i,New a (.cells #[Q g,.map (some d),Q h,S none 0 0,.map (some e)] 86) f i->R (E (Q (some (.mk f 0 none)))) i):Calls P 10 #[] w R:=cok {} Tryz.func10 h
def Jaa(h:C4 10 [] w λc a=>∃d,Eqv P .eql 23 (.tmp 8) (.const (Q none)) a (Q c) (Q none) d/\br d (R (E (.bool false)) a) (C7 24 [] a λf h g a=>C9 19 [Q c,A3 0 0 0 0 (.mk #[]) (.mk #[]) f h g] a λe f h g i a=>C7 17 [Q c] a λf k g a=>C11 25 [S f k g] a λc j a=>B0 (e=1) (B0 (0<(↑h:Int)) (B0 (i=0) (B0 (j=0) (∃d,Eqv P .neq 23 (.tmp 40) (.const (Q none)) a (Q c) (Q none) d/\br d (C4 22 [Q c] a λl a=>∃d,Eqv P .neq 49 (.tmp 45) (.const (Q none)) a (Q l) (Q none) d/\br d (C4 22 [Q c] a λm a=>C3 30 [Q m] a λe a=>B0 (e=2) (C4 22 [Q c] a λc a=>C3 39 [Q c] a λe a=>R (E (.bool (decide (e=3)))) a) (R (E (.bool false)) a)) (R (E (.bool false)) a)) (R (E (.bool false)) a)) (R (E (.bool false)) a)) (R (E (.bool false)) a)) (R (E (.bool false)) a)) (R (E (.bool false)) a))):Calls P 12 #[] w R:=cok {} Tryz.func12 h
def Jdb(h:N1 w p1 n0 n1 i0 λh g=>N1 g none 0 0 0 λn ag=>C7 17 [Q p0] ag λc a b d=>C7 16 [S c a b] d λc a b d=>LoopP (St:=(Option Addr×Nat×Nat)×Int) (λi d ah=>B0 (i.2<(↑n2:Int)) (JoinP (St:=Option Addr×Nat×Nat) (λk d=>inR .i64 (i.2+1)/\ah ((k.1,k.2.1,k.2.2),i.2+1) d) λJ=>onP p2 λc=>D1 i.2 n2/\G4 d (c.add (i.2.toNat*7)) λe B M N k Y l a b=>N2 d 0 0 0 0 (.mk #[]) (.mk #[]) none 0 0 λj g=>U2 g j 0 e B M N k Y l a b λt=>L1 t h 0 λc a b e=>L2 t j 0 λO T V W Z aa m q o=>C14 40 [A2 c a b e,A3 O T V W Z aa m q o] t λc a b e X x d=>N1 d none 0 0 0 λs g=>U1 g s 0 c a b e λz=>L2 z j 0 λe C D F ab ac c a b=>C8 20 [A3 e C D F ab ac c a b] z λe G H K ad ae c a b d=>C9 19 [Q p0,A3 e G H K ad ae c a b] d λe c a b v d=>JoinP (St:=PUnit) (λao d=>L1 d s 0 λA r p L=>U1 d h 0 A r p L λg=>JoinP (λam d=>br am (L1 d h 0 λc a b e=>U1 d n 0 c a b e λg=>L1 g n 0 λc a b e=>R (E (.tuple #[(A2 c a b e),.bool false])) g) (C7 16 [S c a b] d λc a b d=>C7 42 [S i.1.1 i.1.2.1 i.1.2.2,S c a b] d λc a b d=>J (c,a,b) d)) λ(J:Bool->World->Prop)=>B1 (e=X) (J true g) (B1 (x=v) (J true g) (B1 (x=0) (B0 (0<(↑a:Int)) (J true g) (C7 16 [S c a b] g λc a b d=>C2 34 [S c a b] d λh d=>J (!h) d)) (C7 16 [S c a b] g λc a b d=>C2 34 [S c a b] d λh d=>J (!h) d)))) λJ_1=>B0 (v=94) (L1 d s 0 λc a b e=>C2 41 [A2 c a b e] d λh d=>br h (J (i.1.1,i.1.2.1,i.1.2.2) d) (J_1 () d)) (J_1 () d)) (L1 d.drew h 0 λc a b e=>C7 17 [Q p0] d.drew λl q o d=>Ld P 29 d (.mk h 0 none) (A2 c a b e)/\C7 16 [S l q o] d λm r p d=>Ld P 29 d (.mk h 0 none) (A2 c a b e)/\C2 21 [S i.1.1 i.1.2.1 i.1.2.2,S m r p] d λj d=>Ld P 29 d (.mk h 0 none) (A2 c a b e)/\U1 d n 0 c a b e λg=>L1 g n 0 λc a b e=>R (E (.tuple #[(A2 c a b e),.bool j])) g)) ((c,a,b),0) d):Calls P 13 #[Q p0,A2 p1 n0 n1 i0,S p2 n2 n3] w R:=cok ⟨[],[(3,[(8,.inr 3),(22,.inl .i64)])],[(12,[(8,.inr 3)]),(8,[]),(10,[(70,.inr 0)])],[]⟩ Tryz.func13 h
def Jdu(h:N1 w none 0 0 0 λa g=>U1 g a 0 none 0 0 1 λb=>L1 b a 0 λc f d e=>R (E (A2 c f d e)) b):Calls P 14 #[] w R:=cok {} Tryz.func14 h
def Je5(h:N1 w p1 n0 n1 i0 λd z=>C4 22 [Q p0] z λh a=>∃o,Eqv P .neq 49 (.tmp 8) (.const (Q none)) a.drew (Q h) (Q none) o/\br o (L4 a.drew d 1 λg=>C3 39 [Q h] a.drew λs a=>Ld P 3 a (.mk d 1 none) (I g)/\B0 (s=g) (L1 a d 0 λc f e g=>C7 28 [Q h] a λm x q a=>Ld P 29 a (.mk d 0 none) (A2 c f e g)/\C7 26 [A2 c f e g] a λc f e a=>C2 43 [S m x q,S c f e] a λp a=>br p (L1 a d 0 λc f e g=>L1 a d 0 λi l j k=>C3 33 [Q h] a λt a=>Ld P 29 a (.mk d 0 none) (A2 i l j k)/\Ld P 29 a (.mk d 0 none) (A2 c f e g)/\C7 32 [Q h,I t] a λn y r a=>Ld P 29 a (.mk d 0 none) (A2 i l j k)/\Ld P 29 a (.mk d 0 none) (A2 c f e g)/\C3 46 [A2 i l j k] a λv a=>Ld P 29 a (.mk d 0 none) (A2 c f e g)/\C7 45 [A2 c f e g,I v] a λc f e a=>C2 44 [S n y r,S c f e] a λd a=>R (E (.bool d)) a) (R (E (.bool false)) a)) (R (E (.bool false)) a)) (R (E (.bool false)) a.drew)):Calls P 15 #[Q p0,A2 p1 n0 n1 i0] w R:=cok {} Tryz.func15 h
def Jda(h:LoopP (St:=(Option Addr×Nat×Nat)×Int) (λa g s=>B0 (a.2<n0) (onP p0 λe=>D1 a.2 n0/\∃c j o b,Ld P 55 g (e.add (a.2.toNat*4)) (A5 c j o b)/\N7 g 0 0 (.mk #[]) false λf d=>∃h,St P 55 d (.mk f 0 none) (A5 c j o b) h/\∃c k p b,Ld P 55 h (.mk f 0 none) (A5 c k p b)/\N6 h c k p b λi d=>∃e n m q,App P #[37,37] 37 d (S a.1.1 a.1.2.1 a.1.2.2) (S (some (.mk i 0 none)) 1 1) (S e n m) q/\inR .i64 (a.2+1)/\s ((e,n,m),a.2+1) q) (R (E (S a.1.1 a.1.2.1 a.1.2.2)) g)) ((none,0,0),0) w):Calls P 16 #[S p0 n0 n1] w R:=cok ⟨[],[(3,[(3,.inr 3),(8,.inl .i64)])],[],[]⟩ Tryz.func16 h
def Jcv(h:onP p0 λc=>G6 w (c.add 3) λk e g=>LoopP (St:=(Option Addr×Nat×Nat)×Int) (λa d q=>B0 (a.2<e) (onP k λc=>D1 a.2 e/\G7 d (c.add (a.2.toNat*1)) λj=>C7 47 [Q j] d λc e g d=>LoopP (St:=(Option Addr×Nat×Nat)×Int) (λb d r=>B0 (b.2<e) (onP c λc=>D1 b.2 e/\G1 d (c.add (b.2.toNat*1)) λi=>C15 48 [Q j,I i] d λn f d=>N7 d a.2 i n false λf o=>∃c m l p,App P #[39,39] 39 o (S b.1.1 b.1.2.1 b.1.2.2) (S (some (.mk f 0 none)) 1 1) (S c m l) p/\inR .i64 (b.2+1)/\r ((c,m,l),b.2+1) p) (inR .i64 (a.2+1)/\q ((b.1.1,b.1.2.1,b.1.2.2),a.2+1) d)) ((a.1.1,a.1.2.1,a.1.2.2),0) d) (R (E (S a.1.1 a.1.2.1 a.1.2.2)) d)) ((none,0,0),0) w):Calls P 17 #[Q p0] w R:=cok ⟨[],[(3,[(3,.inr 3),(15,.inl .i64)]),(6,[(3,.inr 3),(23,.inl .i64)])],[],[]⟩ Tryz.func17 h
def Jcb(h:onP p0 λb=>G8 w.drew b λc=>onP p0 λb=>G9 w.drew (b.add 1) λf=>onP p0 λo=>G10 w.drew (o.add 2) λn=>onP p0 λm=>G11 w.drew (m.add 4) λk=>C4 49 [Q c] w.drew λc a=>Ld P 83 a (m.add 4) (.map k)/\Ld P 81 a (o.add 2) (Q n)/\Ld P 80 a (b.add 1) (.map f)/\C16 50 [.map f] a λf a=>Ld P 83 a (m.add 4) (.map k)/\Ld P 81 a (o.add 2) (Q n)/\C4 51 [Q n] a λv a=>Ld P 83 a (m.add 4) (.map k)/\C16 52 [.map k] a λs a=>∀h d,New a (.cells #[Q c,.map f,Q v,S none 0 0,.map s] 86) h d->onP p0 λb=>G6 d (b.add 3) λp g i=>LoopP (St:=Int) (λj a y=>B0 (j<g) (onP p λb=>D1 j g/\G7 a (b.add (j.toNat*1)) λc=>∃b g i,Ld P 84 a.drew (.mk h 3 none) (S b g i)/\C4 53 [Q c] a.drew λc a=>Ld P 84 a (.mk h 3 none) (S b g i)/\N8 a c λr d=>Ld P 84 d (.mk h 3 none) (S b g i)/\∃q t f x,App P #[84,84] 84 d (S b g i) (S (some (.mk r 0 none)) 1 1) (S q t f) x/\∃d,St P 84 x (.mk h 3 none) (S q t f) d/\inR .i64 (j+1)/\y (j+1) d) (R (E (Q (some (.mk h 0 none)))) a)) 0 d):Calls P 18 #[Q p0] w R:=cok ⟨[],[(3,[(33,.inl .i64)])],[],[]⟩ Tryz.func18 h
def Jcc(h:∀i h,New w (.cells #[I i0,I i1,I i2,I i3,.string s0,.string s1,S p1 n0 n1] 45) i h->C4 18 [Q p0] h λf a=>onP f λb=>G8 a.drew b λL=>∃k C D F d T b e j,Ld P 45 a.drew (.mk i 0 none) (A3 k C D F d T b e j)/\C10 54 [Q L,A3 k C D F d T b e j] a.drew λk q a=>B1 (q=0) (R (E (A6 0 none 0 0 q)) a) (JoinP (St:=Option Addr×Nat×Nat) (λd a=>onP f λb=>G10 a.drew (b.add 2) λl=>onP f λx=>G8 a.drew x λt=>onP f λV=>G8 a.drew V λM=>C3 33 [Q M] a.drew λm a=>Ld P 49 a x (Q t)/\Ld P 81 a (b.add 2) (Q l)/\C7 32 [Q t,I m] a λy e j a=>Ld P 81 a (b.add 2) (Q l)/\C7 57 [S y e j] a λz e j a=>Ld P 81 a (b.add 2) (Q l)/\C3 56 [Q l,S z e j] a λr a=>B1 (r=0) (R (E (A6 0 none 0 0 r)) a) (onP f λb=>G8 a.drew b λN=>onP p0 λb=>G9 a.drew (b.add 1) λg=>C16 58 [Q N,.map g,S d.1 d.2.1 d.2.2] a.drew λg a=>onP f λb=>∃h,St P 80 a (b.add 1) (.map g) h/\∀i n,New h (.map #[] 0) i n->∀p h,New n (.cells #[Q f,.map (some i)] 112) p h->C16 60 [Q f] h λg a=>C3 59 [Q (some (.mk p 0 none)),.map g] a λs a=>B1 (s=0) (R (E (A6 0 none 0 0 s)) a) (C7 61 [Q (some (.mk p 0 none)),Q p0] a λb e j a=>onP f λW=>∃f g O A G B H,Ld P 86 a W (.agg #[Q f,.map g,Q O,S A G B,.map H])/\onP p0 λX=>∃h,St P 86 a X (.agg #[Q f,.map g,Q O,S A G B,.map H]) h/\R (E (A6 k b e j 0)) h))) λJ=>L4 a i 0 λk=>B0 (k=3) (onP f λb=>G8 a b λl=>C7 28 [Q l] a λb e j a=>LoopP (St:=(Option Addr×Nat×Nat)×Int) (λd a ah=>B0 (d.2<e) (JoinP (St:=Option Addr×Nat×Nat) (λv a=>inR .i64 (d.2+1)/\ah ((v.1,v.2.1,v.2.2),d.2+1) a) λJ=>onP b λb=>D1 d.2 e/\G1 a (b.add (d.2.toNat*1)) λk=>L4 a i 1 λm=>C2 55 [Q f,I k,I m] a λi a=>br i (N9 a k λi h=>∃b K g n,App P #[59,59] 59 h (S d.1.1 d.1.2.1 d.1.2.2) (S (some (.mk i 0 none)) 1 1) (S b K g) n/\J (b,K,g) n) (J (d.1.1,d.1.2.1,d.1.2.2) a)) (J (d.1.1,d.1.2.1,d.1.2.2) a)) ((none,0,0),0) a) (J (none,0,0) a))):Calls P 19 #[Q p0,A3 i0 i1 i2 i3 s0 s1 p1 n0 n1] w R:=cok ⟨[],[(8,[(10,.inr 3),(38,.inl .i64)])],[(13,[(10,.inr 3)]),(12,[(10,.inr 3)])],[]⟩ Tryz.func19 h
def Jc4(h:N2 w i0 i1 i2 i3 s0 s1 p0 n0 n1 λb c=>∀i a,New c (.cells #[I 0,I 0,I 0,I 0,.string (.mk #[]),.string (.mk #[]),S none 0 0] 45) i a->L4 a b 0 λf=>L4 a b 1 λj=>L4 a b 2 λk=>L4 a b 3 λl=>L7 a b 4 λh=>L7 a b 5 λp=>L6 a b 6 λd g e=>∃c,St P 45 a (.mk i 0 none) (A3 f j k l h p d g e) c/\∃f m n o h q d g e,Ld P 45 c (.mk i 0 none) (A3 f m n o h q d g e)/\R (E (A3 f m n o h q d g e)) c):Calls P 20 #[A3 i0 i1 i2 i3 s0 s1 p0 n0 n1] w R:=cok {} Tryz.func20 h
def Jeh(h:B1 ((↑n0:Int)=n2) (R (E (.bool false)) w) (LoopP (St:=Int) (λa b q=>B0 (a<n0) (onP p0 λc=>D1 a n0/\G5 b.drew (c.add (a.toNat*4)) λi j m e=>onP p1 λc=>D1 a n2/\G5 b.drew (c.add (a.toNat*4)) λk l n f=>∃g,Eqv P .neq 79 (.tmp 20) (.tmp 24) b.drew (A5 i j m e) (A5 k l n f) g/\br g (R (E (.bool false)) b.drew) (inR .i64 (a+1)/\q (a+1) b.drew)) (R (E (.bool true)) b)) 0 w)):Calls P 21 #[S p0 n0 n1,S p1 n2 n3] w R:=cok ⟨[],[(4,[(5,.inl .i64)])],[],[]⟩ Tryz.func21 h
def Jcy(h:onP p0 λb=>G8 w b λa=>C4 49 [Q a] w λa e=>R (E (Q a)) e):Calls P 22 #[Q p0] w R:=cok {} Tryz.func22 h
def Ja9(h:C10 62 [S p1 n0 n1] w λb h c=>B1 (h=0) (R (E (A7 0 h)) c) (onP p0 λa=>G1 c (a.add 2) λb=>inR .i64 (2147483647-b)/\B0 (2147483647-b<n0) (R (E (A7 0 66)) c) (∀i f,New c (.map #[] 0) i f->onP p0 λa=>∃n,St P 117 f a (.map (some i)) n/\onP p0 λa=>Z2 n (a.add 1) 0 λf=>C7 64 [Q p0,I n0] f λa k j c=>C3 63 [Q p0,I 0,I 0,S p1 n0 n1,S a k j] c λb c=>R (E (A7 b 0)) c))):Calls P 23 #[Q p0,S p1 n0 n1] w R:=cok {} Tryz.func23 h
def Jad(h:∀a b,New w (.cells #[I 0,I 1,.string (ByteArray.mk #[(97:UInt8)]),.string (.mk #[]),S none 0 0,I 1,I 2,.string (.mk #[]),.string (ByteArray.mk #[(120:UInt8)]),S none 0 0] 123) a b->R (E (S (some (.mk a 0 none)) 2 2)) b):Calls P 24 #[] w R:=cok {} Tryz.func24 h
def Jcl(h:C4 10 [] w λe a=>∀b f,New a (.map #[] 0) b f->∀g t,New f (.cells #[Q e,I 0,S none 0 0,.map (some b),S none 0 0] 128) g t->LoopP (St:=Int) (λi a v=>B0 (i<n0) (onP p0 λh=>D1 i n0/\∃d m r b,Ld P 55 a (h.add (i.toNat*4)) (A5 d m r b)/\N7 a 0 0 (.mk #[]) false λj f=>∃k,St P 55 f (.mk j 0 none) (A5 d m r b) k/\∃d n s b,Ld P 55 k (.mk j 0 none) (A5 d n s b)/\C2 65 [Q (some (.mk g 0 none)),A5 d n s b] k λb a=>br (!b) (R (E (A8 none 160)) a) (inR .i64 (i+1)/\v (i+1) a)) (∃h o l,Ld P 106 a (.mk g 2 none) (S h o l)/\C11 66 [S h o l] a λe d a=>B1 (d=0) (R (E (A8 none 160)) a) (C2 67 [Q (some (.mk g 0 none))] a λb a=>br (!b) (R (E (A8 none 160)) a) (∃p,Ld P 23 a (.mk g 0 none) (Q p)/\onP p λh=>∃f,St P 81 a (h.add 2) (Q e) f/\C2 68 [Q (some (.mk g 0 none))] f λb a=>br (!b) (R (E (A8 none 160)) a) (∃e,Ld P 23 a (.mk g 0 none) (Q e)/\R (E (A8 e 0)) a))))) 0 t):Calls P 25 #[S p0 n0 n1] w R:=cok ⟨[],[(3,[(15,.inl .i64)])],[],[]⟩ Tryz.func25 h
def Jdv(h:N1 w p0 n0 n1 i0 λc f=>LoopP (St:=(Option Addr×Nat×Nat)×Int) (λa e l=>L8 e c 0 λb d g=>B0 (a.2<d) (L8 e c 0 λb d g=>onP b λb=>D1 a.2 d/\G1 e (b.add (a.2.toNat*6)) λh=>N9 e h λc f=>∃b j i k,App P #[59,59] 59 f (S a.1.1 a.1.2.1 a.1.2.2) (S (some (.mk c 0 none)) 1 1) (S b j i) k/\inR .i64 (a.2+1)/\l ((b,j,i),a.2+1) k) (R (E (S a.1.1 a.1.2.1 a.1.2.2)) e)) ((none,0,0),0) f):Calls P 26 #[A2 p0 n0 n1 i0] w R:=cok ⟨[],[(3,[(3,.inr 3),(4,.inl .i64)])],[],[]⟩ Tryz.func26 h
def Jbd(h:N10 w none 0 0 λf a=>onP p0 λc=>G1 a (c.add 1) λm=>CallV P 69 [Q p0,I m,I 0] a λv b=>∃q,v=E q/\∃(h:FuncId),∃(l:Array Value),∃(k:Array Value),q=Value.func (.func h) l k/\HasBody P h/\RangeP P h (Array.toList l) (Array.toList k) (λ(g:Int×Int)=>[I g.1,I g.2]) (λ(g:Int×Int)(b:World)(t:World->(World->Prop)->Prop)(x z:World->Prop)(A:Nat->World->Prop)=>t b λs=>L9 s f 0 λc e d=>N9 s g.1 λj a=>∃i o n r,App P #[59,59] 59 a (S c e d) (S (some (.mk j 0 none)) 1 1) (S i o n) r/\U5 r f 0 i o n λa=>x a) b (λD b=>L9 b f 0 λc e d=>∃a,ShutD b D a/\R (E (S c e d)) a) (λD b=>False) λ(y D:Nat)(b:World)=>False):Calls P 28 #[Q p0] w R:=cok ⟨[],[],[],[(4,[(11,.inl .i64),(12,.inl .i64)])]⟩ Tryz.func28 h
def Ja2(h:N5 w 0 0 0 0 (.mk #[]) (.mk #[]) none 0 0 λh a=>onP p0 λb=>G12 a b λH=>∃n t,Lk P 117 true a (.map H) (I i0) (A10 n t)/\br (!t) (U4 a h 0 0 0 0 0 (.mk #[]) (.mk #[]) none 0 0 λg=>L10 g h 0 λe j k l f m b c d=>R (E (.tuple #[(A3 e j k l f m b c d),.bool false])) g) (onP n λb=>∃e j k l f m p c d,Ld P 71 a b (A3 e j k l f m p c d)/\N5 a 0 0 0 0 (.mk #[]) (.mk #[]) none 0 0 λi g=>U4 g i 0 e j k l f m p c d λa=>onP n λb=>G13 a.drew (b.add 7) λq c d=>onP n λN=>G14 a.drew (N.add 6) λr F v=>C7 70 [S r F v] a.drew λs G x M=>Ld P 59 M (b.add 7) (S q c d)/\U6 M i 3 c λa=>U7 a i 6 s G x λo=>L10 o i 0 λe y z A f K b c d=>U4 o h 0 e y z A f K b c d λa=>L10 a h 0 λe B C D f L b c d=>R (E (.tuple #[(A3 e B C D f L b c d),.bool true])) a)):Calls P 29 #[Q p0,I i0] w R:=cok {} Tryz.func29 h
def Ja7(h:onP p0 λc=>G12 w c λb=>∃a,LenM P #[117] 3 w (.map b) (I a)/\R (E (I a)) w):Calls P 30 #[Q p0] w R:=cok {} Tryz.func30 h
def Ja6(h:∀h b,New w (.cells #[Q p0] 49) h b->∀i q,New b (.cells #[S none 0 0] 34) i q->∃c,Ld P 49 q (.mk h 0 none) (Q c)/\CallV P 69 [Q c,I i0,I 0] q λl a=>∃L,l=E L/\∃(m:FuncId),∃(C:Array Value),∃(B:Array Value),L=Value.func (.func m) C B/\HasBody P m/\RangeP P m (Array.toList C) (Array.toList B) (λ(k:Int×Int)=>[I k.1,I k.2]) (λ(k:Int×Int)(a:World)(O:World->(World->Prop)->Prop)(T W:World->Prop)(X:Nat->World->Prop)=>O a λe=>∃c,Ld P 49 e (.mk h 0 none) (Q c)/\onP c λd=>G12 e d λj=>∃c,Lk P 117 false e (.map j) (I k.1) (Q c)/\L6 e.drew i 0 λd g f=>onP c λr=>G1 e.drew (r.add 2) λn=>onP c λs=>G2 e.drew (s.add 4) λo=>onP c λt=>G2 e.drew (t.add 5) λp=>onP c λN=>G14 e.drew (N.add 6) λv G z=>C7 70 [S v G z] e.drew λx H A a=>Ld P 9 a (t.add 5) (.string p)/\Ld P 9 a (s.add 4) (.string o)/\Ld P 3 a (r.add 2) (I n)/\Ld P 34 a (.mk i 0 none) (S d g f)/\N11 a k.2 n o p x H A λh b=>Ld P 34 b (.mk i 0 none) (S d g f)/\∃y K j M,App P #[34,34] 34 b (S d g f) (S (some (.mk h 0 none)) 1 1) (S y K j) M/\∃b,St P 34 M (.mk i 0 none) (S y K j) b/\T b) a (λD a=>L6 a i 0 λd g f=>∃b,ShutD a D b/\R (E (S d g f)) b) (λD a=>False) λ(i0 D:Nat)(a:World)=>False):Calls P 32 #[Q p0,I i0] w R:=cok ⟨[],[],[],[(5,[(12,.inl .i64),(13,.inl .i64)])]⟩ Tryz.func32 h
def Jbf(h:onP p0 λb=>G1 w (b.add 1) λa=>R (E (I a)) w):Calls P 33 #[Q p0] w R:=cok {} Tryz.func33 h
def Jd6(h:LoopP (St:=Int) (λa b o=>B0 (a<n0) (inR .i64 (a-1)/\onP p0 λd=>(0<=a-1/\a-1<n0)/\G5 b.drew (d.add (Int.toNat (a-1)*4)) λg h l c=>onP p0 λd=>D1 a n0/\G5 b.drew (d.add (a.toNat*4)) λi j m f=>C2 76 [A5 g h l c,A5 i j m f] b.drew λc b=>br (!c) (R (E (.bool false)) b) (inR .i64 (a+1)/\o (a+1) b)) (R (E (.bool true)) b)) 1 w):Calls P 34 #[S p0 n0 n1] w R:=cok ⟨[],[(2,[(3,.inl .i64)])],[],[]⟩ Tryz.func34 h
def Jbb(h:∀a c,New w (.map #[] 0) a c->∀b d,New c (.cells #[.map (some a),I 0,I 1] 119) b d->R (E (Q (some (.mk b 0 none)))) d):Calls P 37 #[] w R:=cok {} Tryz.func37 h
def Jfg(h:∀a c,New w (.map #[] 0) a c->∀b d,New c (.cells #[S none 0 0,.map (some a)] 150) b d->R (E (Q (some (.mk b 0 none)))) d):Calls P 38 #[] w R:=cok {} Tryz.func38 h
def Jbc(h:onP p0 λb=>G1 w (b.add 2) λa=>R (E (I a)) w):Calls P 39 #[Q p0] w R:=cok {} Tryz.func39 h
def Jd8(h:N1 w p0 n0 n1 i0 λj b=>N2 b i1 i2 i3 i4 s0 s1 p1 n2 n3 λh v=>N1 v none 0 0 0 λg b=>JoinP (λi f=>br i (L1 f j 0 λc e d a=>U1 f g 0 c e d a λb=>L1 b g 0 λc e d a=>R (E (A11 c e d a 0 1)) b) (L1 f j 0 λc e d a=>L2 f h 0 λm n o p i t k s l=>C14 77 [A2 c e d a,A3 m n o p i t k s l] f λc e d a q r f=>U1 f g 0 c e d a λb=>L1 b g 0 λc e d a=>R (E (A11 c e d a q r)) b)) λ(J:Bool->World->Prop)=>L4 b h 0 λa=>B0 (a<0) (J true b) (L4 b h 0 λa=>J (decide (6<a)) b)):Calls P 40 #[A2 p0 n0 n1 i0,A3 i1 i2 i3 i4 s0 s1 p1 n2 n3] w R:=cok ⟨[],[],[(2,[(14,.inr 0)])],[]⟩ Tryz.func40 h
end
section
variable{w:World}{R:Ending->World->Prop}{p0 p1 p2:Option Addr}{n0 n1 n2 n3:Nat}{i0 i1 i2 i3 i4 i5 i6 i7 i8 i9 i10 i11:Int}{s0 s1 s2 s3:ByteArray}{b0 b1:Bool}{m0:Option Nat}{v0:Value}
def Jea(h:N1 w p0 n0 n1 i0 λe h=>LoopP (St:=(Option Addr×Nat×Nat)×Int×Int) (λc d B=>L8 d e 0 λb f g=>B0 (c.2.2<(↑f:Int)) (L8 d e 0 λb f g=>onP b λb=>D1 c.2.2 f/\G16 d (Addr.add (b.add (c.2.2.toNat*6)) 1) λk v x y s f g=>N11 d 0 0 (.mk #[]) (.mk #[]) none 0 0 λe h=>U8 h e 0 k v x y s f g λj=>L7 j e 2 λo=>inR .i64 (c.2.1+(↑(o.size):Int))/\L7 j e 3 λr=>inR .i64 (c.2.1+(↑(o.size):Int)+(↑(r.size):Int))/\JoinP (St:=Option Addr×Nat×Nat) (λi d=>LoopP (St:=(Option Addr×Nat×Nat)×Int×Int) (λa d C=>L11 d e 4 λb f g=>B0 (a.2.2<(↑f:Int)) (JoinP (St:=(Option Addr×Nat×Nat)×Int) (λc d=>inR .i64 (a.2.2+1)/\C ((c.1.1,c.1.2.1,c.1.2.2),c.2,a.2.2+1) d) λJ=>L11 d.drew e 4 λb f g=>onP b λb=>D1 a.2.2 f/\G2 d.drew (b.add (a.2.2.toNat*2)) λc=>inR .i64 (a.2.1+(↑(c.size):Int))/\L11 d.drew e 4 λb f g=>onP b λb=>D1 a.2.2 f/\G2 d.drew (Addr.add (b.add (a.2.2.toNat*2)) 1) λp=>inR .i64 (a.2.1+(↑(c.size):Int)+(↑(p.size):Int))/\L11 d.drew e 4 λb f g=>onP b λb=>D1 a.2.2 f/\G2 d.drew (b.add (a.2.2.toNat*2)) λz=>C2 78 [S a.1.1 a.1.2.1 a.1.2.2,.string z] d.drew λt d=>br (!t) (L11 d e 4 λb f g=>onP b λb=>D1 a.2.2 f/\G2 d (b.add (a.2.2.toNat*2)) λA=>N12 d A λe h=>∃b m l n,App P #[106,106] 106 h (S a.1.1 a.1.2.1 a.1.2.2) (S (some (.mk e 0 none)) 1 1) (S b m l) n/\J ((b,m,l),a.2.1+(↑(c.size):Int)+(↑(p.size):Int)) n) (J ((a.1.1,a.1.2.1,a.1.2.2),a.2.1+(↑(c.size):Int)+(↑(p.size):Int)) d)) (inR .i64 (c.2.2+1)/\B ((a.1.1,a.1.2.1,a.1.2.2),a.2.1,c.2.2+1) d)) ((i.1,i.2.1,i.2.2),c.2.1+(↑(o.size):Int)+(↑(r.size):Int),0) d) λJ=>JoinP (λi d=>br i (L7 d e 2 λa=>N12 d a λe h=>∃b m l n,App P #[106,106] 106 h (S c.1.1 c.1.2.1 c.1.2.2) (S (some (.mk e 0 none)) 1 1) (S b m l) n/\J (b,m,l) n) (J (c.1.1,c.1.2.1,c.1.2.2) d)) λ(J:Bool->World->Prop)=>L4 j e 1 λk=>B0 (k=1) (L7 j e 2 λi=>C2 78 [S c.1.1 c.1.2.1 c.1.2.2,.string i] j λe d=>J (!e) d) (J false j)) (B0 (4000<(↑c.1.2.1:Int)) (R (E (.bool true)) d) (R (E (.bool (decide (10000000<c.2.1)))) d))) ((none,0,0),0,0) h):Calls P 41 #[A2 p0 n0 n1 i0] w R:=cok ⟨[],[(4,[(3,.inr 3),(4,.inl .i64),(5,.inl .i64)]),(11,[(3,.inr 3),(4,.inl .i64),(7,.inl .i64)])],[(10,[(3,.inr 3)]),(9,[(39,.inr 0)]),(12,[(3,.inr 3),(4,.inl .i64)])],[]⟩ Tryz.func41 h
def Jde(h:LoopP (St:=(Option Addr×Nat×Nat)×Int) (λa b t=>B0 (a.2<n2) (JoinP (St:=Option Addr×Nat×Nat) (λg b=>inR .i64 (a.2+1)/\t ((g.1,g.2.1,g.2.2),a.2+1) b) λJ=>onP p1 λc=>D1 a.2 n2/\G5 b (c.add (a.2.toNat*4)) λh l g d=>C7 79 [S a.1.1 a.1.2.1 a.1.2.2,A5 h l g d] b λc f e b=>onP p1 λo=>D1 a.2 n2/\∃d,Ld P 4 b (Addr.add (o.add (a.2.toNat*4)) 3) (.bool d)/\br (!d) (onP p1 λp=>D1 a.2 n2/\G5 b (p.add (a.2.toNat*4)) λh m n d=>C7 80 [S c f e,A5 h m n d] b λc f e b=>J (c,f,e) b) (J (c,f,e) b)) (R (E (S a.1.1 a.1.2.1 a.1.2.2)) b)) ((p0,n0,n1),0) w):Calls P 42 #[S p0 n0 n1,S p1 n2 n3] w R:=cok ⟨[],[(2,[(0,.inr 3),(5,.inl .i64)])],[(3,[(0,.inr 3)])],[]⟩ Tryz.func42 h
def Jdy(h:B1 ((↑n0:Int)=n2) (R (E (.bool false)) w) (LoopP (St:=Int) (λa b j=>B0 (a<n0) (onP p0 λc=>D1 a n0/\G1 b.drew (c.add (a.toNat*1)) λf=>onP p1 λc=>D1 a n2/\G1 b.drew (c.add (a.toNat*1)) λg=>B1 (f=g) (R (E (.bool false)) b.drew) (inR .i64 (a+1)/\j (a+1) b.drew)) (R (E (.bool true)) b)) 0 w)):Calls P 43 #[S p0 n0 n1,S p1 n2 n3] w R:=cok ⟨[],[(4,[(5,.inl .i64)])],[],[]⟩ Tryz.func43 h
def Jeg(h:B1 ((↑n0:Int)=n2) (R (E (.bool false)) w) (LoopP (St:=Int) (λa c y=>B0 (a<n0) (onP p0 λb=>D1 a n0/\G1 c.drew (b.add (a.toNat*5)) λh=>onP p1 λb=>D1 a n2/\G1 c.drew (b.add (a.toNat*5)) λn=>B1 (h=n) (R (E (.bool false)) c.drew) (onP p0 λb=>D1 a n0/\G1 c.drew (Addr.add (b.add (a.toNat*5)) 1) λh=>onP p1 λb=>D1 a n2/\G1 c.drew (Addr.add (b.add (a.toNat*5)) 1) λo=>B1 (h=o) (R (E (.bool false)) c.drew) (onP p0 λb=>D1 a n0/\G2 c.drew (Addr.add (b.add (a.toNat*5)) 2) λr=>onP p1 λb=>D1 a n2/\G2 c.drew (Addr.add (b.add (a.toNat*5)) 2) λs=>B1 (r=s) (R (E (.bool false)) c.drew) (onP p0 λb=>D1 a n0/\G2 c.drew (Addr.add (b.add (a.toNat*5)) 3) λt=>onP p1 λb=>D1 a n2/\G2 c.drew (Addr.add (b.add (a.toNat*5)) 3) λv=>B1 (t=v) (R (E (.bool false)) c.drew) (onP p0 λb=>D1 a n0/\G14 c.drew (Addr.add (b.add (a.toNat*5)) 4) λi p l=>onP p1 λb=>D1 a n2/\G14 c.drew (Addr.add (b.add (a.toNat*5)) 4) λj q m=>C2 81 [S i p l,S j q m] c.drew λk c=>br (!k) (R (E (.bool false)) c) (inR .i64 (a+1)/\y (a+1) c)))))) (R (E (.bool true)) c)) 0 w)):Calls P 44 #[S p0 n0 n1,S p1 n2 n3] w R:=cok ⟨[],[(4,[(5,.inl .i64)])],[],[]⟩ Tryz.func44 h
def Jdn(h:N1 w p0 n0 n1 i0 λg h=>L1 h g 0 λc e d a=>C3 82 [A2 c e d a,I i1] h λa b=>B0 (a<0) (R (E (S none 0 0)) b) (L8 b.drew g 0 λc e d=>L1 b.drew g 0 λn v q s=>L8 b.drew g 0 λk m r=>onP k λo=>D1 a m/\G1 b.drew (Addr.add (o.add (a.toNat*6)) 1) λl=>C3 84 [A2 n v q s,I a] b.drew λj b=>Ld P 3 b (Addr.add (o.add (a.toNat*6)) 1) (I l)/\Ld P 27 b (.mk g 0 none) (S k m r)/\Ld P 27 b (.mk g 0 none) (S c e d)/\(0<=a/\a<=j/\j<=d)/\C7 83 [S (slA c d (a.toNat) 6) (j.toNat-a.toNat) (d-a.toNat),I l] b λc e d b=>LoopP (St:=(Option Addr×Nat×Nat)×Int) (λf b D=>B0 (f.2<e) (onP c λc=>D1 f.2 e/\G16 b (Addr.add (c.add (f.2.toNat*6)) 1) λa t z A p e d=>N11 b a t z A p e d λg h=>∃c y x B,App P #[34,34] 34 h (S f.1.1 f.1.2.1 f.1.2.2) (S (some (.mk g 0 none)) 1 1) (S c y x) B/\inR .i64 (f.2+1)/\D ((c,y,x),f.2+1) B) (R (E (S f.1.1 f.1.2.1 f.1.2.2)) b)) ((none,0,0),0) b)):Calls P 45 #[A2 p0 n0 n1 i0,I i1] w R:=cok ⟨[],[(7,[(5,.inr 3),(8,.inl .i64)])],[],[]⟩ Tryz.func45 h
def Jdx(h:N1 w p0 n0 n1 i0 λd b=>L8 b d 0 λa c e=>B0 ((↑c:Int)=0) (R (E (I 0)) b) (L8 b d 0 λa c e=>onP a λa=>D1 0 c/\G1 b a λf=>R (E (I f)) b)):Calls P 46 #[A2 p0 n0 n1 i0] w R:=cok {} Tryz.func46 h
def Je3(h:N10 w none 0 0 λf a=>∃(g:FuncId),∃(l:Array Value),∃(k:Array Value),Value.func (.func 85) #[Q p0] #[]=Value.func (.func g) l k/\HasBody P g/\RangeP P g (Array.toList l) (Array.toList k) (λh=>[I h]) (λ(h:Int)(b:World)(q:World->(World->Prop)->Prop)(r v:World->Prop)(x:Nat->World->Prop)=>q b λp=>L9 p f 0 λc e d=>N9 p h λj a=>∃i n m o,App P #[59,59] 59 a (S c e d) (S (some (.mk j 0 none)) 1 1) (S i n m) o/\U5 o f 0 i n m λa=>r a) a (λD b=>L9 b f 0 λc e d=>∃a,ShutD b D a/\R (E (S c e d)) a) (λD b=>False) λ(t D:Nat)(b:World)=>False):Calls P 47 #[Q p0] w R:=cok ⟨[],[],[],[(4,[(7,.inl .i64)])]⟩ Tryz.func47 h
def Jbj(h:C10 86 [Q p0,I i0] w λa b c=>B0 (a=0) (R (E (A12 (.mk #[]) false)) c) (onP p0 λf=>inR .i64 (a+b)/\(0<=a/\a<=a+b/\a+b<=(↑(4096:Nat):Int))/\∃e,B2S P 159 9 c (S (slA (some f) 4096 (a.toNat) 1) (Int.toNat (a+b)-a.toNat) (4096-a.toNat)) (.string e)/\R (E (A12 e true)) c)):Calls P 48 #[Q p0,I i0] w R:=cok {} Tryz.func48 h
def Jau(h:onP p0 λb=>G1 w.drew (b.add 1) λg=>onP p0 λy=>G1 w.drew (y.add 2) λp=>∀c a,New w.drew (.map #[] 0) c a->Ld P 3 a (y.add 2) (I p)/\Ld P 3 a (b.add 1) (I g)/\∀m t,New a (.cells #[.map (some c),I g,I p] 119) m t->onP p0 λb=>G12 t b λh=>∃i a,Rng P 117 t (.map h) (Q i) a/\LoopP (St:=PUnit) (λr f V=>(∃a,Nxt P false 0 f (Q i) (.tuple #[.bool false]) a/\R (E (Q (some (.mk m 0 none)))) a)\/∃T W a,Nxt P false 0 f (Q i) (.tuple #[.bool true,T,W]) a/\∃g j v,Etr P a (Q i) (.tuple #[I g,Q j]) v/\onP j λb=>∃G H K L r O z e d A M D,Ld P 139 v b (.agg #[I G,I H,I K,I L,.string r,.string O,S z e d,S A M D])/\∀c a,New v (.cells #[I 0,I 0,I 0,I 0,.string (.mk #[]),.string (.mk #[]),S none 0 0,S none 0 0] 139) c a->∃k,St P 139 a (.mk c 0 none) (.agg #[I G,I H,I K,I L,.string r,.string O,S z e d,S A M D]) k/\onP j λb=>G13 k.drew (b.add 7) λB e d=>onP j λb=>G14 k.drew (b.add 6) λl q n=>C7 87 [S B e d] k.drew λC e d f=>Ld P 69 f (b.add 6) (S l q n)/\C7 70 [S l q n] f λb N F f=>U5 f c 7 C e d λa=>∃x,St P 69 a (Addr.add (.mk c 0 none) 6) (S b N F) x/\∃h,Ld P 117 x (.mk m 0 none) (.map h)/\∃a,MUp P 117 x (.map h) (I g) (Q (some (.mk c 0 none))) a/\V () a) () a):Calls P 49 #[Q p0] w R:=cok ⟨[],[(3,[])],[],[]⟩ Tryz.func49 h
def Jfa(h:onP p0 λe=>G17 w.drew e λh d c=>onP p0 λe=>G18 w.drew (e.add 1) λa=>C7 89 [S h d c] w.drew λi d c f=>Ld P 147 f (e.add 1) (.map a)/\C16 90 [.map a] f λa f=>∀p0 j,New f (.cells #[S i d c,.map a] 150) p0 j->R (E (Q (some (.mk p0 0 none)))) j):Calls P 51 #[Q p0] w R:=cok {} Tryz.func51 h
def Jab(h:onP p0 λg=>∃(b:List Value),∃c d,Ld P 162 w g (.agg (List.toArray (b++([I c]++([I d]++[])))))/\∀a e,New w (.cells (List.toArray (zl P 162)) 162) a e->∃f,St P 162 e (.mk a 0 none) (.agg (List.toArray (b++([I c]++([I d]++[]))))) f/\R (E (Q (some (.mk a 0 none)))) f):Calls P 53 #[Q p0] w R:=cok {} Tryz.func53 h
def Jce(h:∀c b,New w (.cells #[I i0,I i1,I i2,I i3,.string s0,.string s1,S p1 n0 n1] 45) c b->L4 b c 0 λa=>B0 (a=0) (L6 b c 6 λi l j=>C10 23 [Q p0,S i l j] b λa f e=>R (E (A7 a f)) e) (B0 (a=1) (L4 b c 1 λa=>L4 b c 3 λf=>L6 b c 6 λi l j=>C10 91 [Q p0,I a,I f,S i l j] b λa k e=>R (E (A7 a k)) e) (B0 (a=2) (L4 b c 1 λa=>C3 92 [Q p0,I a] b λa e=>R (E (A7 0 a)) e) (B0 (a=3) (L4 b c 1 λa=>L4 b c 2 λf=>L4 b c 3 λk=>C3 93 [Q p0,I a,I f,I k] b λa e=>R (E (A7 0 a)) e) (B0 (a=4) (L4 b c 1 λa=>L7 b c 4 λg=>L7 b c 5 λm=>C3 94 [Q p0,I a,.string g,.string m] b λa e=>R (E (A7 0 a)) e) (B0 (a=5) (L4 b c 1 λa=>L7 b c 4 λg=>C3 95 [Q p0,I a,.string g] b λa e=>R (E (A7 0 a)) e) (B0 (a=6) (L4 b c 1 λa=>L7 b c 5 λg=>C3 96 [Q p0,I a,.string g] b λa e=>R (E (A7 0 a)) e) (R (E (A7 0 1)) b)))))))):Calls P 54 #[Q p0,A3 i0 i1 i2 i3 s0 s1 p1 n0 n1] w R:=cok {} Tryz.func54 h
def Jb6(h:LoopP (St:=Int) (λa b r=>B1 (a=0) (B1 (a=i1) (onP p0 λe=>G8 b e λm=>C13 29 [Q m,I a] b λd i j k a n e l h c b=>N5 b 0 0 0 0 (.mk #[]) (.mk #[]) none 0 0 λc o=>U4 o c 0 d i j k a n e l h λg=>L4 g c 1 λd=>r d g) (R (E (.bool (decide (a=i1)))) b)) (R (E (.bool (decide (a=i1)))) b)) i0 w):Calls P 55 #[Q p0,I i0,I i1] w R:=cok ⟨[],[(1,[(1,.inl .i64)])],[],[]⟩ Tryz.func55 h
def Jck(h:C7 97 [Q p0] w λe j n a=>LoopP (St:=Int) (λb a i=>B0 (b<j) (onP e λe=>D1 b j/\G2 a (e.add (b.toNat*1)) λd=>C17 98 [S p1 n0 n1,.string d] a λh g a=>JoinP (λp a=>br p (inR .i64 (b+1)/\C2 99 [Q p0,I (b+1)] a λp0 a=>inR .i64 (b+1)/\i (b+1) a) (inR .i64 (b+1)/\i (b+1) a)) λ(J:Bool->World->Prop)=>B1 (d=.mk #[]) (J (!g) a) (J false a)) (LoopP (St:=Int) (λb a i=>B0 (b<n0) (onP p1 λe=>D1 b n0/\G2 a (e.add (b.toNat*1)) λd=>C17 100 [Q p0,.string d] a λh g a=>br g (inR .i64 (b+1)/\i (b+1) a) (C10 101 [Q p0,.string d] a λh l a=>B1 (l=0) (R (E (I 94)) a) (inR .i64 (b+1)/\i (b+1) a))) (R (E (I 0)) a)) 0 a)) 0 a):Calls P 56 #[Q p0,S p1 n0 n1] w R:=cok ⟨[],[(2,[(18,.inl .i64)]),(9,[(42,.inl .i64)])],[(6,[(34,.inr 0)])],[]⟩ Tryz.func56 h
def Jcm(h:∀h c,New w (.map #[] 0) h c->LoopP (St:=Int) (λa b y=>B0 (a<n0) (onP p0 λe=>D1 a n0/\G16 b (e.add (a.toNat*5)) λd p r s o f g=>N11 b 0 0 (.mk #[]) (.mk #[]) none 0 0 λk c=>U8 c k 0 d p r s o f g λj=>JoinP (St:=PUnit) (λB b=>L11 b k 4 λe f g=>LoopP (St:=Int) (λi b z=>B0 (i<f) (onP e λe=>D1 i f/\G3 b (e.add (i.toNat*2)) λa t=>N13 b (.mk #[]) (.mk #[]) λm c=>U9 c m 0 a t λl=>L7 l m 0 λa=>∃d,Lk P 147 false l (.map (some h)) (.string a) (I d)/\inR .i64 (d+1)/\∃c,MUp P 147 l (.map (some h)) (.string a) (I (d+1)) c/\inR .i64 (i+1)/\z (i+1) c) (inR .i64 (a+1)/\y (a+1) b)) 0 b) λJ=>L4 j k 1 λd=>B0 (d=1) (L7 j k 2 λa=>∃d,Lk P 147 false j (.map (some h)) (.string a) (I d)/\inR .i64 (d+1)/\∃c,MUp P 147 j (.map (some h)) (.string a) (I (d+1)) c/\J () c) (J () j)) (CallV P 103 [.map (some h)] b λn b=>∃v,n=E v/\C7 102 [v] b λe f g b=>R (E (S e f g)) b)) 0 c):Calls P 57 #[S p0 n0 n1] w R:=cok ⟨[],[(3,[(11,.inl .i64)]),(8,[(26,.inl .i64)])],[(7,[])],[]⟩ Tryz.func57 h
def Jci(h:C3 33 [Q p0] w λd a=>C7 32 [Q p0,I d] a λe g j a=>C7 28 [Q p0] a λl n r a=>C16 50 [.map m0] a λi a=>LoopP (St:=Int) (λb a o=>B0 (b<n0) (onP p1 λe=>D1 b n0/\G1 a (e.add (b.toNat*1)) λd=>∃f,Del P #[80,3] 0 a (.map i) (I d) f/\inR .i64 (b+1)/\o (b+1) f) (C7 105 [S e g j,S l n r] a λq y s a=>CallV P 104 [S q y s,.map i] a λc a=>∃i h,c=E (.tuple #[.map i,.bool h])/\br h (R (E (.map i)) a) (∀h f,New a (.map #[] 0) h f->CallV P 106 [S e g j] f λc a=>∃e g j d,c=E (A13 e g j d)/\LoopP (St:=Int) (λb a o=>B0 (b<g) (onP e λe=>D1 b g/\G19 a (e.add (b.toNat*2)) λd t=>N3 a 0 0 λm f=>U3 f m 0 d t λk=>onP l λe=>D1 b n/\G1 k.drew (e.add (b.toNat*1)) λd=>L3 k.drew m 0 λv x=>∃f,MUp P 80 k.drew (.map (some h)) (I d) (A4 v x) f/\inR .i64 (b+1)/\o (b+1) f) (R (E (.map (some h))) a)) 0 a))) 0 a):Calls P 58 #[Q p0,.map m0,S p1 n0 n1] w R:=cok ⟨[],[(4,[(28,.inl .i64)]),(14,[(53,.inl .i64)])],[],[]⟩ Tryz.func58 h
def Jc2(h:onP p0 λb=>G20 w b λf=>onP f λb=>G11 w (b.add 4) λD=>CallV P 107 [.map D] w λe a=>∃p,e=E p/\C7 102 [p] a λb g o a=>LoopP (St:=Int) (λd a q=>B0 (d<g) (onP b λb=>D1 d g/\G2 a (b.add (d.toNat*1)) λi=>∃r n,Lk P 114 true a (.map m0) (.string i) (.tuple #[(A14 r),.bool n])/\∀j k,New a (.cells #[.string (.mk #[])] 192) j k->∃h,St P 192 k (.mk j 0 none) (A14 r) h/\br (!n) (C1 108 [Q p0,.string i] h λa=>inR .i64 (d+1)/\q (d+1) a) (inR .i64 (d+1)/\q (d+1) h)) (CallV P 109 [.map m0] a λe a=>∃p,e=E p/\C7 102 [p] a λb g o a=>LoopP (St:=Int) (λd a q=>B0 (d<g) (onP b λb=>D1 d g/\G2 a (b.add (d.toNat*1)) λi=>onP p0 λb=>G20 a b λf=>onP f λb=>G11 a (b.add 4) λF=>∃c B n,Lk P 83 true a (.map F) (.string i) (A9 c B n)/\N14 a 0 0 λj k=>U10 k j 0 c B λh=>JoinP (St:=PUnit) (λr a=>∃v,Lk P 114 false a (.map m0) (.string i) (A14 v)/\C3 111 [Q p0,.string i,.string v] a λc a=>B1 (c=0) (R (E (I c)) a) (inR .i64 (d+1)/\q (d+1) a)) λJ=>br n (onP p0 λb=>G20 h.drew b λf=>onP f λb=>G6 h.drew (b.add 3) λz g o=>L4 h.drew j 0 λc=>onP z λb=>D1 c g/\G7 h.drew (b.add (c.toNat*1)) λf=>L4 h.drew j 1 λc=>C15 48 [Q f,I c] h.drew λr n a=>∃v,Lk P 114 false a (.map m0) (.string i) (A14 v)/\B0 (r=v) (inR .i64 (d+1)/\q (d+1) a) (onP p0 λb=>G21 a.drew (b.add 1) λt=>L12 a.drew j 0 λc x=>∃y,Lk P 110 false a.drew (.map t) (A4 c x) (I y)/\inR .i64 (y+1)/\∃p C k,MEn P 110 a.drew (.map t) (A4 c x) (.tuple #[p,I C]) k/\Lk P 110 false k (.map t) (A4 c x) (I y)/\∃l,ESt P 110 k (.map t) (I C) (I (y+1)) l/\onP p0 λb=>G20 l.drew b λf=>onP f λb=>G6 l.drew (b.add 3) λA g o=>L4 l.drew j 0 λc=>onP A λb=>D1 c g/\G7 l.drew (b.add (c.toNat*1)) λf=>L4 l.drew j 1 λc=>∃G,Lk P 114 false l.drew (.map m0) (.string i) (A14 G)/\C3 110 [Q f,I c,.string G] l.drew λc a=>B0 (c=0) (inR .i64 (d+1)/\q (d+1) a) (C1 108 [Q p0,.string i] a λa=>J () a))) (J () h)) (R (E (I 0)) a)) 0 a)) 0 a):Calls P 59 #[Q p0,.map m0] w R:=cok ⟨[],[(2,[(26,.inl .i64)]),(9,[(46,.inl .i64)])],[(18,[])],[]⟩ Tryz.func59 h
def Jct(h:∀j i,New w (.map #[] 0) j i->∀m L,New i (.cells #[.map none] 114) m L->∃i,St P 114 L (.mk m 0 none) (.map (some j)) i/\onP p0 λb=>G8 i b λh=>C3 39 [Q h] i λf a=>C18 114 [I f,I 4] a λc a=>(↑(ByteArray.size (ByteArray.mk #[(104:UInt8)])+c.size):Int)<=9223372036854775807/\C1 112 [.string (ByteArray.mk #[(104:UInt8)]++c),Q (some (.mk m 0 none))] a λa=>onP p0 λb=>G10 a (b.add 2) λh=>C7 97 [Q h] a λb e g a=>LoopP (St:=Int) (λc a p=>B0 (c<e) (onP b λb=>D1 c e/\G2 a (b.add (c.toNat*1)) λk=>B1 (k=.mk #[]) (inR .i64 (c+1)/\C18 114 [I (c+1),I 2] a λl a=>(↑(ByteArray.size (ByteArray.mk #[(119:UInt8)])+l.size):Int)<=9223372036854775807/\(↑(ByteArray.size (ByteArray.mk #[(119:UInt8)]++l)+k.size):Int)<=9223372036854775807/\C1 112 [.string (ByteArray.mk #[(119:UInt8)]++l++k),Q (some (.mk m 0 none))] a λa=>inR .i64 (c+1)/\p (c+1) a) (inR .i64 (c+1)/\p (c+1) a)) (onP p0 λb=>G8 a b λh=>C7 28 [Q h] a λb e g a=>LoopP (St:=Int) (λc a p=>B0 (c<e) (onP b λb=>D1 c e/\G1 a (b.add (c.toNat*1)) λf=>onP p0 λb=>G8 a b λh=>C13 29 [Q h,I f] a λf r v x k l b e g j a=>N5 a 0 0 0 0 (.mk #[]) (.mk #[]) none 0 0 λj i=>U4 i j 0 f r v x k l b e g λq=>L10 q j 0 λf y z A G H b e g=>CallV P 116 [Q p0,A3 f y z A G H b e g] q λd a=>∃f B C D s t K b e g,d=E (A15 f B C D s t K b e g)/\CallV P 115 [A15 f B C D s t K b e g] a λd a=>∃b e g f,d=E (A13 b e g f)/\LoopP (St:=Int) (λn a M=>B0 (n<e) (onP b λb=>D1 n e/\G2 a (b.add (n.toNat*1)) λc=>(↑(ByteArray.size (ByteArray.mk #[(110:UInt8)])+c.size):Int)<=9223372036854775807/\C1 112 [.string (ByteArray.mk #[(110:UInt8)]++c),Q (some (.mk m 0 none))] a λa=>inR .i64 (n+1)/\M (n+1) a) (inR .i64 (c+1)/\p (c+1) a)) 0 a) (∃F,Ld P 114 a (.mk m 0 none) (.map F)/\R (E (.map F)) a)) 0 a)) 0 a):Calls P 60 #[Q p0] w R:=cok ⟨[],[(5,[(32,.inl .i64)]),(11,[(54,.inl .i64)]),(16,[(76,.inl .i64)])],[],[]⟩ Tryz.func60 h
def Jb9(h:onP p0 λg=>G21 w (g.add 1) λi=>∃f b,Rng P 110 w (.map i) (Q f) b/\LoopP (St:=Option Addr×Nat×Nat) (λc a t=>(∃b,Nxt P false 0 a (Q f) (.tuple #[.bool false]) b/\C1 118 [S c.1 c.2.1 c.2.2,Value.func (.func 119) #[] #[]] b λa=>R (E (S c.1 c.2.1 c.2.2)) a)\/∃A l b,Nxt P false 0 a (Q f) (.tuple #[.bool true,A,l]) b/\∃d o l x,Etr P b (Q f) (.tuple #[(A4 d o),l]) x/\N14 x 0 0 λe b=>U10 b e 0 d o λm=>L12 m e 0 λd p=>C15 117 [Q p1,A4 d p] m λv n a=>onP p0 λg=>G20 a.drew g λf=>L12 a.drew e 0 λd q=>C15 117 [Q f,A4 d q] a.drew λk j a=>JoinP (λC a=>br C (L4 a e 0 λd=>L4 a e 1 λr=>∀e b,New a (.cells #[I d,I r,.string k,.bool !j] 55) e b->∃g s i y,App P #[39,39] 39 b (S c.1 c.2.1 c.2.2) (S (some (.mk e 0 none)) 1 1) (S g s i) y/\t (g,s,i) y) (t (c.1,c.2.1,c.2.2) a)) λ(J:Bool->World->Prop)=>B1 (v=k) (J true a) (J (!n==j) a)) (none,0,0) b):Calls P 61 #[Q p0,Q p1] w R:=cok ⟨[],[(3,[(5,.inr 3)])],[(8,[(42,.inr 0)])],[]⟩ Tryz.func61 h
def Jc6(h:B0 ((↑n0:Int)=0) (R (E (A7 0 40)) w) (LoopP (St:=Int) (λb c n=>B0 (b<n0) (onP p0 λf=>D1 b n0/\G16 c (f.add (b.toNat*5)) λa k o p j e d=>N11 c 0 0 (.mk #[]) (.mk #[]) none 0 0 λh s=>U8 s h 0 a k o p j e d λt=>C3 120 [S p0 n0 n1,I b] t λa c=>B0 (a=0) (L13 c h 0 λa l q r f e d=>C3 121 [A16 a l q r f e d] c λa c=>B1 (a=0) (R (E (A7 b a)) c) (inR .i64 (b+1)/\n (b+1) c)) (B1 (a=0) (R (E (A7 b a)) c) (inR .i64 (b+1)/\n (b+1) c))) (R (E (A7 0 0)) c)) 0 w)):Calls P 62 #[S p0 n0 n1] w R:=cok ⟨[],[(4,[(12,.inl .i64)])],[],[]⟩ Tryz.func62 h
def Ja4(h:N9 w i0 λb a=>LoopP (St:=Int×(Option Addr×Nat×Nat)×Int) (λe f ak=>B0 (e.2.2<n0) (JoinP (St:=Int×Option Addr×Nat×Nat) (λr f=>inR .i64 (e.2.2+(1:Int))/\ak (r.1,(r.2.1,r.2.2.1,r.2.2.2),e.2.2+(1:Int)) f) λJ=>onP p1 λk=>((0:Int)<=e.2.2/\e.2.2<n0)/\G16 f (k.add (e.2.2.toNat*5)) λh Z r ag T d c=>N11 f 0 0 (.mk #[]) (.mk #[]) none 0 0 λb a=>U8 a b 0 h Z r ag T d c λB=>onP p2 λk=>((0:Int)<=e.2.2/\e.2.2<n2)/\G1 B (k.add (e.2.2.toNat*1)) λh=>L4 B b 0 λy=>inR .i64 (y+(1:Int))/\L4 B b 0 λz=>inR .i64 (z+(1:Int))/\((0:Int)<=y+(1:Int)/\y+(1:Int)<=z+(1:Int)/\z+(1:Int)<=e.2.1.2.2)/\N9 B h λX a=>∃k A D o,App P #[59,59] 59 a (S e.2.1.1 (Int.toNat (y+(1:Int))) (Int.toNat (z+(1:Int)))) (S (some (.mk X 0 none)) 1 1) (S k A D) o/\L4 o b 0 λC=>onP k λah=>((0:Int)<=C/\C<A)/\G1 o (ah.add (C.toNat*1)) λi=>onP p0 λK=>G12 o.drew K λF=>L4 o.drew b 1 λM=>L7 o.drew b 2 λN=>L7 o.drew b 3 λO=>L11 o.drew b 4 λV d c=>C7 70 [S V d c] o.drew λW d c f=>Ld P 9 f (.mk b 3 none) (.string O)/\Ld P 9 f (.mk b 2 none) (.string N)/\Ld P 3 f (.mk b 1 none) (I M)/\Ld P 117 f K (.map F)/\∀Y a,New f (.cells #[I h,I i,I M,I 0,.string N,.string O,S W d c,S none 0 0] 139) Y a->Ld P 117 a K (.map F)/\∃g,MUp P 117 a (.map F) (I h) (Q (some (.mk Y 0 none))) g/\B0 (i=(0:Int)) (onP p0 λl=>Z2 g (l.add 1) h λa=>J (e.1,k,A,D) a) (L4 g b 0 λaa=>B0 (aa=(0:Int)) (onP p0 λl=>G12 g.drew l λj=>∃n,Lk P 117 false g.drew (.map j) (I i) (Q n)/\onP p0 λv=>G12 g.drew v λm=>∃q,Lk P 117 false g.drew (.map m) (I i) (Q q)/\onP q λx=>G13 g.drew (x.add 7) λp d c=>N9 g.drew h λb a=>Ld P 59 a (x.add 7) (S p d c)/\Lk P 117 false a (.map m) (I i) (Q q)/\Ld P 117 a v (.map m)/\Lk P 117 false a (.map j) (I i) (Q n)/\Ld P 117 a l (.map j)/\C7 122 [S p d c,I e.1,S (some (.mk b 0 none)) 1 1] a λt d c f=>Lk P 117 false f (.map j) (I i) (Q n)/\Ld P 117 f l (.map j)/\onP n λH=>Z3 f (H.add 7) t d c λa=>inR .i64 (e.1+(1:Int))/\J (e.1+(1:Int),k,A,D) a) (onP p0 λl=>G12 g.drew l λj=>∃n,Lk P 117 false g.drew (.map j) (I i) (Q n)/\onP p0 λv=>G12 g.drew v λm=>∃q,Lk P 117 false g.drew (.map m) (I i) (Q q)/\onP q λx=>G13 g.drew (x.add 7) λp d c=>N9 g.drew h λb a=>Ld P 59 a (x.add 7) (S p d c)/\Lk P 117 false a (.map m) (I i) (Q q)/\Ld P 117 a v (.map m)/\Lk P 117 false a (.map j) (I i) (Q n)/\Ld P 117 a l (.map j)/\∃t af ae G,App P #[59,59] 59 a (S p d c) (S (some (.mk b 0 none)) 1 1) (S t af ae) G/\Lk P 117 false G (.map j) (I i) (Q n)/\Ld P 117 G l (.map j)/\onP n λH=>Z3 G (H.add 7) t af ae λa=>J (e.1,k,A,D) a))) (onP p2 λk=>((0:Int)<=(0:Int)/\(0:Int)<n2)/\G1 f k λh=>R (E (I h)) f)) (i1,(some (.mk b 0 none),1,1),(0:Int)) a):Calls P 63 #[Q p0,I i0,I i1,S p1 n0 n1,S p2 n2 n3] w R:=cok ⟨[],[(3,[(2,.inl .i64),(11,.inr 3),(20,.inl .i64)])],[(15,[(2,.inl .i64),(11,.inr 3)])],[]⟩ Tryz.func63 h
def Ja3(h:LoopP (St:=(Option Addr×Nat×Nat)×Int) (λa f n=>B0 (a.2<i0) (onP p0 λd=>G1 f (d.add 2) λb=>N9 f b λh c=>∃d j i g,App P #[59,59] 59 c (S a.1.1 a.1.2.1 a.1.2.2) (S (some (.mk h 0 none)) 1 1) (S d j i) g/\onP p0 λk=>G1 g (k.add 2) λb=>inR .i64 (b+1)/\onP p0 λl=>Z2 g (l.add 2) (b+1) λc=>inR .i64 (a.2+1)/\n ((d,j,i),a.2+1) c) (R (E (S a.1.1 a.1.2.1 a.1.2.2)) f)) ((none,0,0),0) w):Calls P 64 #[Q p0,I i0] w R:=cok ⟨[],[(3,[(5,.inr 3),(7,.inl .i64)])],[],[]⟩ Tryz.func64 h
def Jcx(h:N7 w i0 i1 s0 b0 λf b=>L5 b f 3 λA=>br A (R (E (.bool false)) b) (L4 b f 0 λc=>B0 (c<(0:Int)) (R (E (.bool false)) b) (L4 b f 0 λc=>B0 ((4096:Int)<=c) (R (E (.bool false)) b) (L7 b f 2 λe=>B0 (e=.mk #[]) (R (E (.bool false)) b) (LoopP (St:=PUnit) (λe a Z=>onP p0 λd=>G20 a.drew d λg=>onP g λd=>G6 a.drew (d.add 3) λN h i=>L4 a.drew f 0 λc=>B0 ((↑h:Int)<=c) (onP p0 λd=>G20 a.drew.drew d λg=>onP p0 λo=>G20 a.drew.drew o λs=>onP s λp=>G6 a.drew.drew (p.add 3) λn h i=>C4 123 [] a.drew.drew λL a=>Ld P 84 a (p.add 3) (S n h i)/\Ld P 23 a o (Q s)/\Ld P 23 a d (Q g)/\N8 a L λf b=>Ld P 84 b (p.add 3) (S n h i)/\Ld P 23 b o (Q s)/\Ld P 23 b d (Q g)/\∃y q k l,App P #[84,84] 84 b (S n h i) (S (some (.mk f 0 none)) 1 1) (S y q k) l/\Ld P 23 l d (Q g)/\onP g λd=>∃b,St P 84 l (d.add 3) (S y q k) b/\Z () b) (L7 a.drew f 2 λe=>C18 113 [.string e] a.drew λe a=>onP p0 λd=>G20 a d λg=>onP g λd=>G11 a (d.add 4) λk=>∃c G B,Lk P 83 true a (.map k) (.string e) (A9 c G B)/\N14 a 0 0 λC b=>U10 b C 0 c G λl=>onP p0 λd=>G20 l.drew d λg=>onP g λd=>G6 l.drew (d.add 3) λo h i=>L4 l.drew f 0 λc=>onP o λd=>((0:Int)<=c/\c<h)/\G7 l.drew (d.add (c.toNat*1)) λg=>L4 l.drew f 1 λc=>C15 48 [Q g,I c] l.drew λaa D a=>br B (R (E (.bool false)) a.drew) (br D (R (E (.bool false)) a.drew) (onP p0 λd=>G20 a.drew d λg=>onP g λd=>G6 a.drew (d.add 3) λp h i=>L4 a.drew f 0 λc=>onP p λd=>((0:Int)<=c/\c<h)/\G7 a.drew (d.add (c.toNat*1)) λg=>L4 a.drew f 1 λc=>L7 a.drew f 2 λM=>C3 110 [Q g,I c,.string M] a.drew λc a=>B1 (c=(0:Int)) (R (E (.bool false)) a) (onP p0 λd=>G20 a.drew d λg=>onP g λd=>G11 a.drew (d.add 4) λk=>L4 a.drew f 0 λc=>L4 a.drew f 1 λH=>∃b,MUp P 83 a.drew (.map k) (.string e) (A4 c H) b/\L7 b f 2 λe=>((0:Int)<=(0:Int)/\(0:Int)<(↑(e.size):Int))/\B0 (sb e (0:Int)=(104:Int)) (L7 b f 2 λe=>L7 b f 2 λt=>((0:Int)<=(1:Int)/\(1:Int)<=min (↑(t.size):Int) (8:Int)/\min (↑(t.size):Int) (8:Int)<=(↑(e.size):Int))/\C3 124 [.string (ByteArray.extract e (Int.toNat (1:Int)) (Int.toNat (min (↑(t.size):Int) (8:Int))))] b λc a=>onP p0 λd=>Z2 a (d.add 1) c λb=>L7 b f 2 λe=>R (E (.bool (decide ((↑(e.size):Int)=(5:Int))))) b) (B0 (sb e (0:Int)=(119:Int)) (L7 b f 2 λe=>C2 125 [Q p0,.string e] b λf a=>R (E (.bool f)) a) (B0 (sb e (0:Int)=(110:Int)) (L7 b f 2 λe=>((0:Int)<=(1:Int)/\(1:Int)<=(↑(e.size):Int))/\CallV P 126 [.string (ByteArray.extract e (Int.toNat (1:Int)) (e.size))] b λj a=>∃c X Y F,j=E (A17 c X Y F)/\onP p0 λd=>G22 a.drew (d.add 3) λk=>onP p0 λn=>G22 a.drew (n.add 3) λr=>∃v h i,Lk P 125 false a.drew (.map r) (I c) (S v h i)/\L7 a.drew f 2 λe=>((0:Int)<=(1:Int)/\(1:Int)<=(↑(e.size):Int))/\N12 a.drew (ByteArray.extract e (Int.toNat (1:Int)) (e.size)) λf b=>Lk P 125 false b (.map r) (I c) (S v h i)/\Ld P 125 b (n.add 3) (.map r)/\Ld P 125 b (d.add 3) (.map k)/\∃z q K x,App P #[106,106] 106 b (S v h i) (S (some (.mk f 0 none)) 1 1) (S z q K) x/\Ld P 125 x (d.add 3) (.map k)/\∃b,MUp P 125 x (.map k) (I c) (S z q K) b/\R (E (.bool F)) b) (R (E (.bool false)) b)))))))) () b))))):Calls P 65 #[Q p0,A5 i0 i1 s0 b0] w R:=cok ⟨[],[(3,[])],[],[]⟩ Tryz.func65 h
def Jfe(h:C4 38 [] w λe b=>LoopP (St:=Int) (λg b q=>B0 (g<(↑n0:Int)) (onP p0 λa=>D1 g n0/\G2 b (a.add (g.toNat*1)) λk=>onP e λa=>G18 b (a.add 1) λh=>∃p i,Lk P 147 true b (.map h) (.string k) (A1 p i)/\B0 (4000<=g) (R (E (A8 none 150)) b) (JoinP (λC b=>br C (R (E (A8 none 63)) b) (B0 (k=.mk #[]) (onP e λa=>G17 b a λj c d=>N15 b (.mk #[]) 0 λi f=>∃a n h o,App P #[148,148] 148 f (S j c d) (S (some (.mk i 0 none)) 1 1) (S a n h) o/\onP e λl=>Z4 o l a n h λf=>inR .i64 (g+1)/\q (g+1) f) (onP e λa=>G17 b a λj c d=>N15 b k 1 λi f=>∃a n h o,App P #[148,148] 148 f (S j c d) (S (some (.mk i 0 none)) 1 1) (S a n h) o/\onP e λl=>Z4 o l a n h λf=>onP e λa=>G18 f (a.add 1) λh=>inR .i64 (g+1)/\∃x,MUp P 147 f (.map h) (.string k) (I (g+1)) x/\inR .i64 (g+1)/\q (g+1) x))) λ(J:Bool->World->Prop)=>B1 (k=.mk #[]) (C2 127 [.string k] b λt b=>br (!t) (J true b) (J i b)) (J false b))) (LoopP (St:=PUnit) (λg b q=>onP e λa=>G17 b.drew a λj c d=>B0 (0<(↑c:Int)) (onP e λa=>G17 b.drew a λl c d=>onP e λa=>G17 b.drew a λy m d=>inR .i64 ((↑m:Int)-1)/\onP l λa=>(0<=(↑m:Int)-1/\(↑m:Int)-1<(↑c:Int))/\G1 b.drew (Addr.add (a.add (Int.toNat ((↑m:Int)-1)*2)) 1) λp=>B0 (p=0) (onP e λa=>G17 b.drew.drew a λs c d=>onP e λa=>G17 b.drew.drew a λz c A=>inR .i64 ((↑c:Int)-1)/\(0<=(↑c:Int)-1/\(↑c:Int)-1<=(↑d:Int))/\onP e λa=>Z4 b.drew.drew a s (Int.toNat ((↑c:Int)-1)) d λf=>q () f) (R (E (A8 e 0)) b.drew)) (R (E (A8 e 0)) b.drew)) () b)) 0 b):Calls P 66 #[S p0 n0 n1] w R:=cok ⟨[],[(3,[(12,.inl .i64)]),(15,[])],[(9,[(29,.inr 0)])],[]⟩ Tryz.func66 h
def Jco(h:onP p0 λa=>G22 w (a.add 3) λh=>CallV P 129 [.map h] w λe c=>∃K,e=E K/\C7 128 [K] c λa b d c=>LoopP (St:=Int) (λj c N=>B0 (j<b) (onP a λa=>D1 j b/\G1 c (a.add (j.toNat*1)) λg=>onP p0 λa=>G22 c (a.add 3) λh=>∃a b d,Lk P 125 false c (.map h) (I g) (S a b d)/\C1 130 [S a b d] c λc=>CallV P 131 [S a b d] c λe c=>∃g q t v x y G a b d z,e=E (A18 g q t v x y G a b d z)/\N16 c 0 0 0 0 0 0 (.mk #[]) none 0 0 λi f=>U11 f i 0 g q t v x y G a b d λk=>B1 (z=0) (R (E (.bool false)) k) (onP p0 λa=>G23 k.drew (a.add 4) λm b d=>L14 k.drew i 0 λg A B C r s H o D p=>N16 k.drew g A B C r s H o D p λi f=>Ld P 126 f (a.add 4) (S m b d)/\∃a F h L,App P #[126,126] 126 f (S m b d) (S (some (.mk i 0 none)) 1 1) (S a F h) L/\onP p0 λM=>∃f,St P 126 L (M.add 4) (S a F h) f/\inR .i64 (j+1)/\N (j+1) f)) (onP p0 λa=>G23 c (a.add 4) λn b d=>C1 132 [S n b d,Value.func (.func 133) #[] #[]] c λc=>R (E (.bool true)) c)) 0 c):Calls P 67 #[Q p0] w R:=cok ⟨[],[(2,[(15,.inl .i64)])],[],[]⟩ Tryz.func67 h
def Jcz(h:onP p0 λb=>G23 w (b.add 4) λac h g=>LoopP (St:=(Option Addr×Nat×Nat)×Int) (λa f X=>B0 (a.2<h) (onP ac λb=>D1 a.2 h/\∃d y z A B C G Y h g,Ld P 204 f (b.add (a.2.toNat*8)) (A15 d y z A B C G Y h g)/\N16 f 0 0 0 0 0 0 (.mk #[]) none 0 0 λe c=>U11 c e 0 d y z A B C G Y h g λp=>L3 p e 4 λd i=>N3 p d i λe c=>∃b r q l,App P #[187,187] 187 c (S a.1.1 a.1.2.1 a.1.2.2) (S (some (.mk e 0 none)) 1 1) (S b r q) l/\inR .i64 (a.2+1)/\X ((b,r,q),a.2+1) l) (C19 134 [S a.1.1 a.1.2.1 a.1.2.2] f λb h g e f=>br (!e) (R (E (.bool false)) f) (onP p0 λY=>G23 f (Y.add 4) λad ab g=>LoopP (St:=(Option Addr×Nat×Nat)×(Option Addr×Nat×Nat)×Int) (λa f X=>B0 (a.2.2<ab) (onP ad λZ=>D1 a.2.2 ab/\∃d y z A B C G V ae g,Ld P 204 f (Z.add (a.2.2.toNat*8)) (A15 d y z A B C G V ae g)/\N16 f 0 0 0 0 0 0 (.mk #[]) none 0 0 λe c=>U11 c e 0 d y z A B C G V ae g λp=>JoinP (St:=Option Addr×Bool) (λo f=>br (!o.2) (R (E (.bool false)) f) (JoinP (St:=(Option Addr×Nat×Nat)×Option Addr×Nat×Nat) (λj f=>onP p0 λb=>G20 f.drew b λT=>onP T λb=>G9 f.drew (b.add 1) λq=>L4 f.drew e 0 λd=>L3 f.drew e 4 λi k=>∃c,MUp P 80 f.drew (.map q) (I d) (A4 i k) c/\inR .i64 (a.2.2+1)/\X ((j.1.1,j.1.2.1,j.1.2.2),(j.2.1,j.2.2.1,j.2.2.2),a.2.2+1) c) λJ=>(∃d i j x b h g,(onP o.1 λn=>Ld P 123 f.drew n (A16 d i j x b h g))/\L4 f.drew e 0 λk=>N11 f.drew d i j x b h g λm c=>Ld P 3 c (.mk e 0 none) (I k)/\∃b r q l,App P #[34,34] 34 c (S a.1.1 a.1.2.1 a.1.2.2) (S (some (.mk m 0 none)) 1 1) (S b r q) l/\Ld P 3 l (.mk e 0 none) (I k)/\N9 l k λe c=>∃L F D H,App P #[59,59] 59 c (S a.2.1.1 a.2.1.2.1 a.2.1.2.2) (S (some (.mk e 0 none)) 1 1) (S L F D) H/\J ((b,r,q),L,F,D) H)/\(∃d i j x b h g,(onP o.1 λn=>Ld P 123 f.drew n (A16 d i j x b h g))/\L4 f.drew e 0 λk=>N11 f.drew d i j x b h g λm c=>Ld P 3 c (.mk e 0 none) (I k)/\N9 c k λe l=>∃b r q c,App P #[34,34] 34 l (S a.1.1 a.1.2.1 a.1.2.2) (S (some (.mk m 0 none)) 1 1) (S b r q) c/\∃n F D H,App P #[59,59] 59 c (S a.2.1.1 a.2.1.2.1 a.2.1.2.2) (S (some (.mk e 0 none)) 1 1) (S n F D) H/\J ((b,r,q),n,F,D) H)/\∃d i j x b h g,(onP o.1 λn=>Ld P 123 f.drew n (A16 d i j x b h g))/\L4 f.drew e 0 λk=>N9 f.drew k λe c=>(onP o.1 λL=>Ld P 123 c L (A16 d i j x b h g))/\N11 c d i j x b h g λm l=>∃b r q c,App P #[34,34] 34 l (S a.1.1 a.1.2.1 a.1.2.2) (S (some (.mk m 0 none)) 1 1) (S b r q) c/\∃L F D H,App P #[59,59] 59 c (S a.2.1.1 a.2.1.2.1 a.2.1.2.2) (S (some (.mk e 0 none)) 1 1) (S L F D) H/\J ((b,r,q),L,F,D) H)) λJ=>(L14 p.drew e 0 λd i k t v M o n O g=>onP b λb=>D1 a.2.2 h/\G1 p.drew (b.add (a.2.2.toNat*1)) λN=>CallV P 135 [Q p0,A15 d i k t v M o n O g,I N] p.drew λs f=>∃d W a j b h g e,s=E (.tuple #[(A16 d W a j b h g),.bool e])/\N11 f 0 0 (.mk #[]) (.mk #[]) none 0 0 λm c=>U8 c m 0 d W a j b h g λl=>J (some (.mk m 0 none),e) l)/\L14 p.drew e 0 λd i k t v M o n O g=>onP b λb=>D1 a.2.2 h/\G1 p.drew (b.add (a.2.2.toNat*1)) λN=>N11 p.drew 0 0 (.mk #[]) (.mk #[]) none 0 0 λm c=>Ld P 3 c (b.add (a.2.2.toNat*1)) (I N)/\Ld P 204 c (.mk e 0 none) (A15 d i k t v M o n O g)/\CallV P 135 [Q p0,A15 d i k t v M o n O g,I N] c λs f=>∃d W a j b h g e,s=E (.tuple #[(A16 d W a j b h g),.bool e])/\U8 f m 0 d W a j b h g λc=>J (some (.mk m 0 none),e) c) (onP p0 λb=>G1 f (b.add 1) λd=>C11 136 [S a.1.1 a.1.2.1 a.1.2.2,S a.2.1.1 a.2.1.2.1 a.2.1.2.2,I (max d 1)] f λT d f=>B1 (d=0) (R (E (.bool false)) f) (onP p0 λb=>G20 f b λaf=>onP af λb=>∃c,St P 49 f b (Q T) c/\onP p0 λb=>G23 c (b.add 4) λZ h g=>LoopP (St:=Int) (λa f X=>B0 (a<h) (onP Z λb=>D1 a h/\∃d y z A B C G V h g,Ld P 204 f (b.add (a.toNat*8)) (A15 d y z A B C G V h g)/\N16 f 0 0 0 0 0 0 (.mk #[]) none 0 0 λe c=>U11 c e 0 d y z A B C G V h g λp=>L4 p e 0 λd=>C13 29 [Q T,I d] p λd i k t o j b h g m f=>N5 f 0 0 0 0 (.mk #[]) (.mk #[]) none 0 0 λaa c=>U4 c aa 0 d i k t o j b h g λl=>L4 l aa 1 λd=>L4 l e 1 λv=>B1 (d=v) (R (E (.bool false)) l) (inR .i64 (a+1)/\X (a+1) l)) (R (E (.bool true)) f)) 0 c))) ((none,0,0),(none,0,0),0) f))) ((none,0,0),0) w):Calls P 68 #[Q p0] w R:=cok ⟨[],[(3,[(3,.inr 3),(25,.inl .i64)]),(13,[(8,.inr 3),(9,.inr 3),(47,.inl .i64)]),(26,[(110,.inl .i64)])],[(16,[(12,.inr 2),(13,.inr 0)]),(19,[(8,.inr 3),(9,.inr 3)])],[]⟩ Tryz.func68 h
def Jas(h:∀b a,New w (.cells #[Q p0] 49) b a->N9 a i0 λc e=>N9 e i1 λd a=>R (E (Value.func (.func 137) #[] #[Q (some (.mk b 0 none)),Q (some (.mk c 0 none)),Q (some (.mk d 0 none))])) a):Calls P 69 #[Q p0,I i0,I i1] w R:=cok {} Tryz.func69 h
def Jed(h:B0 ((↑n0:Int)=0) (R (E (A7 0 40)) w) (LoopP (St:=Int) (λa b h=>B0 (a<n0) (C3 138 [S p0 n0 n1,I a] b λc b=>B1 (c=0) (R (E (A7 a c)) b) (inR .i64 (a+1)/\h (a+1) b)) (R (E (A7 0 0)) b)) 0 w)):Calls P 71 #[S p0 n0 n1] w R:=cok ⟨[],[(4,[(4,.inl .i64)])],[],[]⟩ Tryz.func71 h
def Jdd(h:N6 w i0 i1 s0 b0 λd g=>N6 g i2 i3 s1 b1 λe a=>L4 a d 0 λb=>L4 a e 0 λf=>B1 (b=f) (L4 a d 0 λb=>L4 a e 0 λc=>R (E (.bool (decide (b<c)))) a) (L4 a d 1 λb=>L4 a e 1 λc=>R (E (.bool (decide (b<c)))) a)):Calls P 76 #[A5 i0 i1 s0 b0,A5 i2 i3 s1 b1] w R:=cok {} Tryz.func76 h
def Jdi(h:N1 w p0 n0 n1 i0 λj b=>N2 b i1 i2 i3 i4 s0 s1 p1 n2 n3 λh t=>N1 t none 0 0 0 λm b=>JoinP (λl i=>L1 i j 0 λc e d a=>U1 i m 0 c e d a λb=>L1 b m 0 λc e d a=>R (E (A11 c e d a 0 l)) b) λ(J:Int->World->Prop)=>L4 b h 0 λa=>B0 (a=0) (L1 b j 0 λc e d a=>L6 b h 6 λn r o=>C14 139 [A2 c e d a,S n r o] b λc e d a f g i=>U1 i m 0 c e d a λb=>L1 b m 0 λc e d a=>R (E (A11 c e d a f g)) b) (B0 (a=1) (L1 b j 0 λc e d a=>L4 b h 1 λf=>L4 b h 3 λg=>L6 b h 6 λn r o=>C14 140 [A2 c e d a,I f,I g,S n r o] b λc e d a p q i=>U1 i m 0 c e d a λb=>L1 b m 0 λc e d a=>R (E (A11 c e d a p q)) b) (B0 (a=2) (L1 b j 0 λc e d a=>L4 b h 1 λf=>C20 141 [A2 c e d a,I f] b λc e d a g i=>U1 i j 0 c e d a λb=>J g b) (B0 (a=3) (L1 b j 0 λc e d a=>L4 b h 1 λf=>L4 b h 2 λg=>L4 b h 3 λp=>C20 142 [A2 c e d a,I f,I g,I p] b λc e d a q i=>U1 i j 0 c e d a λb=>J q b) (B0 (a=4) (L1 b j 0 λc e d a=>L4 b h 1 λf=>L7 b h 4 λl=>L7 b h 5 λs=>C20 143 [A2 c e d a,I f,A19 l s] b λc e d a g i=>U1 i j 0 c e d a λb=>J g b) (B0 (a=5) (L1 b j 0 λc e d a=>L4 b h 1 λf=>L7 b h 4 λl=>C20 144 [A2 c e d a,I f,.string l] b λc e d a g i=>U1 i j 0 c e d a λb=>J g b) (B0 (a=6) (L1 b j 0 λc e d a=>L4 b h 1 λf=>L7 b h 5 λl=>C20 145 [A2 c e d a,I f,.string l] b λc e d a g i=>U1 i j 0 c e d a λb=>J g b) (J 0 b)))))))):Calls P 77 #[A2 p0 n0 n1 i0,A3 i1 i2 i3 i4 s0 s1 p1 n2 n3] w R:=cok ⟨[],[],[(17,[(7,.inl .i64)])],[]⟩ Tryz.func77 h
def Jd9(h:LoopP (St:=Int) (λa b g=>B0 (a<n0) (onP p0 λe=>D1 a n0/\G2 b (e.add (a.toNat*1)) λd=>B0 (d=s0) (R (E (.bool true)) b) (inR .i64 (a+1)/\g (a+1) b)) (R (E (.bool false)) b)) 0 w):Calls P 78 #[S p0 n0 n1,.string s0] w R:=cok ⟨[],[(2,[(5,.inl .i64)])],[],[]⟩ Tryz.func78 h
def Jej(h:N6 w i0 i1 s0 b0 λe h=>LoopP (St:=(Option Addr×Nat×Nat)×Int) (λa b v=>B0 (a.2<n0) (JoinP (St:=Option Addr×Nat×Nat) (λg b=>inR .i64 (a.2+1)/\v ((g.1,g.2.1,g.2.2),a.2+1) b) λJ=>JoinP (λg b=>br g (onP p0 λc=>D1 a.2 n0/\G5 b (c.add (a.2.toNat*4)) λd f o e=>N6 b d f o e λk h=>∃c n m p,App P #[37,37] 37 h (S a.1.1 a.1.2.1 a.1.2.2) (S (some (.mk k 0 none)) 1 1) (S c n m) p/\J (c,n,m) p) (J (a.1.1,a.1.2.1,a.1.2.2) b)) λ(J:Bool->World->Prop)=>onP p0 λc=>D1 a.2 n0/\G1 b.drew (c.add (a.2.toNat*4)) λd=>L4 b.drew e 0 λf=>B1 (d=f) (J true b.drew) (onP p0 λc=>D1 a.2 n0/\G1 b.drew (Addr.add (c.add (a.2.toNat*4)) 1) λd=>L4 b.drew e 1 λl=>J (!decide (d=l)) b.drew)) (R (E (S a.1.1 a.1.2.1 a.1.2.2)) b)) ((none,0,0),0) h):Calls P 79 #[S p0 n0 n1,A5 i0 i1 s0 b0] w R:=cok ⟨[],[(3,[(5,.inr 3),(6,.inl .i64)])],[(4,[(5,.inr 3)]),(6,[(30,.inr 0)])],[]⟩ Tryz.func79 h
def Jei(h:N6 w i0 i1 s0 b0 λb i=>LoopP (St:=(Option Addr×Nat×Nat)×Bool×Int) (λa c y=>B0 (a.2.2<n0) (JoinP (St:=(Option Addr×Nat×Nat)×Bool) (λe c=>onP p0 λd=>D1 a.2.2 n0/\G5 c (d.add (a.2.2.toNat*4)) λg h l b=>N6 c g h l b λf i=>∃d k j m,App P #[37,37] 37 i (S e.1.1 e.1.2.1 e.1.2.2) (S (some (.mk f 0 none)) 1 1) (S d k j) m/\inR .i64 (a.2.2+1)/\y ((d,k,j),e.2,a.2.2+1) m) λJ=>JoinP (λe c=>br e (∃g h l f,Ld P 79 c (.mk b 0 none) (A5 g h l f)/\N6 c g h l f λb i=>∃d k j m,App P #[37,37] 37 i (S a.1.1 a.1.2.1 a.1.2.2) (S (some (.mk b 0 none)) 1 1) (S d k j) m/\J ((d,k,j),true) m) (J ((a.1.1,a.1.2.1,a.1.2.2),a.2.1) c)) λ(J:Bool->World->Prop)=>br (!a.2.1) (∃g h e f,Ld P 79 c.drew (.mk b 0 none) (A5 g h e f)/\onP p0 λd=>D1 a.2.2 n0/\G5 c.drew (d.add (a.2.2.toNat*4)) λo p l b=>C2 76 [A5 g h e f,A5 o p l b] c.drew λb c=>J b c) (J false c.drew)) (br (!a.2.1) (∃g h e f,Ld P 79 c (.mk b 0 none) (A5 g h e f)/\N6 c g h e f λb i=>∃d k j m,App P #[37,37] 37 i (S a.1.1 a.1.2.1 a.1.2.2) (S (some (.mk b 0 none)) 1 1) (S d k j) m/\R (E (S d k j)) m) (R (E (S a.1.1 a.1.2.1 a.1.2.2)) c))) ((none,0,0),false,0) i):Calls P 80 #[S p0 n0 n1,A5 i0 i1 s0 b0] w R:=cok ⟨[],[(4,[(5,.inr 3),(6,.inr 0),(7,.inl .i64)])],[(9,[(5,.inr 3),(6,.inr 0)]),(7,[(23,.inr 0)])],[]⟩ Tryz.func80 h
def Jd7(h:B1 ((↑n0:Int)=n2) (R (E (.bool false)) w) (LoopP (St:=Int) (λa b m=>B0 (a<n0) (onP p0 λc=>D1 a n0/\G3 b.drew (c.add (a.toNat*2)) λg h=>onP p1 λc=>D1 a n2/\G3 b.drew (c.add (a.toNat*2)) λi j=>∃e,Eqv P .neq 142 (.tmp 20) (.tmp 24) b.drew (A19 g h) (A19 i j) e/\br e (R (E (.bool false)) b.drew) (inR .i64 (a+1)/\m (a+1) b.drew)) (R (E (.bool true)) b)) 0 w)):Calls P 81 #[S p0 n0 n1,S p1 n2 n3] w R:=cok ⟨[],[(4,[(5,.inl .i64)])],[],[]⟩ Tryz.func81 h
def Jdk(h:N1 w p0 n0 n1 i0 λe h=>LoopP (St:=Int) (λa c j=>L8 c e 0 λb d f=>B0 (a<d) (L8 c e 0 λb d f=>onP b λb=>D1 a d/\G1 c (b.add (a.toNat*6)) λg=>B0 (g=i1) (R (E (I a)) c) (inR .i64 (a+1)/\j (a+1) c)) (R (E (I (-1:Int))) c)) 0 h):Calls P 82 #[A2 p0 n0 n1 i0,I i1] w R:=cok ⟨[],[(2,[(5,.inl .i64)])],[],[]⟩ Tryz.func82 h
def Jdw(h:LoopP (St:=(Option Addr×Nat×Nat)×Int) (λa h A=>B0 (a.2<n0) (onP p0 λe=>D1 a.2 n0/\∃b k l s t j g f,Ld P 133 h (e.add (a.2.toNat*6)) (.agg #[I b,I k,I l,.string s,.string t,S j g f])/\∀d c,New h (.cells #[I 0,I 0,I 0,.string (.mk #[]),.string (.mk #[]),S none 0 0] 133) d c->∃i,St P 133 c (.mk d 0 none) (.agg #[I b,I k,I l,.string s,.string t,S j g f]) i/\L4 i d 1 λb=>inR .i64 (b-i0)/\U6 i d 1 (b-i0) λc=>∃b m n v x e g f,Ld P 133 c (.mk d 0 none) (.agg #[I b,I m,I n,.string v,.string x,S e g f])/\∀d y,New c (.cells #[I b,I m,I n,.string v,.string x,S e g f] 133) d y->∃e r q c,App P #[27,27] 27 y (S a.1.1 a.1.2.1 a.1.2.2) (S (some (.mk d 0 none)) 1 1) (S e r q) c/\inR .i64 (a.2+1)/\A ((e,r,q),a.2+1) c) (R (E (S a.1.1 a.1.2.1 a.1.2.2)) h)) ((none,0,0),0) w):Calls P 83 #[S p0 n0 n1,I i0] w R:=cok ⟨[],[(3,[(5,.inr 3),(6,.inl .i64)])],[],[]⟩ Tryz.func83 h
def Jdj(h:N1 w p0 n0 n1 i0 λf j=>inR .i64 (i1+1)/\LoopP (St:=Int) (λe c k=>L8 c f 0 λa b d=>B0 (e<b) (L8 c.drew f 0 λa b d=>onP a λa=>D1 e b/\G1 c.drew (Addr.add (a.add (e.toNat*6)) 1) λh=>L8 c.drew f 0 λa b d=>onP a λa=>D1 i1 b/\G1 c.drew (Addr.add (a.add (i1.toNat*6)) 1) λi=>B0 (h<=i) (R (E (I e)) c.drew) (inR .i64 (e+1)/\k (e+1) c.drew)) (L8 c f 0 λa b d=>R (E (I b)) c)) (i1+1) j):Calls P 84 #[A2 p0 n0 n1 i0,I i1] w R:=cok ⟨[],[(2,[(5,.inl .i64)])],[],[]⟩ Tryz.func84 h
def Jaf(h:onP p0 λh=>G1 w (h.add 4096) λc=>LoopP (St:=Int) (λb a f=>B0 (b<c) (C10 86 [Q p0,I b] a λc i a=>B0 (0<c) (CallX P v0 [I b] a λd a=>∃e,d=E (.bool e)/\br (!e) (R (E (.tuple #[])) a) (inR .i64 (b+1)/\f (b+1) a)) (inR .i64 (b+1)/\f (b+1) a)) (R (E (.tuple #[])) a)) 0 w):Calls P 85 #[Q p0,v0] w R:=cok ⟨[],[(1,[(11,.inl .i64)])],[],[]⟩ Tryz.func85 h
def Je2(h:B0 (i0<0) (R (E (A7 0 0)) w) (onP p0 λg=>G1 w (g.add 4096) λb=>B0 (b<=i0) (R (E (A7 0 0)) w) (inR .i64 (4*i0)/\inR .i64 (10+4*i0)/\C3 146 [Q p0,I (10+4*i0)] w λb e=>inR .i64 (4*i0)/\inR .i64 (10+4*i0)/\inR .i64 (10+4*i0+2)/\C3 146 [Q p0,I (10+4*i0+2)] e λf e=>R (E (A7 b f)) e))):Calls P 86 #[Q p0,I i0] w R:=cok {} Tryz.func86 h
def Ja5(h:C11 147 [Q p0,I i0] w λp b a=>B1 (b=0) (R (E (A7 0 b)) a) (B0 (i1<0) (R (E (A7 0 69)) a) (onP p λd=>G13 a (d.add 7) λq g h=>B0 ((↑g:Int)<i1) (R (E (A7 0 69)) a) (C10 148 [S p1 n0 n1] a λb k a=>B1 (k=0) (R (E (A7 0 k)) a) (C3 149 [Q p0,I i0] a λi a=>inR .i64 (i+1)/\inR .i64 (i+1+b)/\B0 (40<=i+1+b) (R (E (A7 0 65)) a) (onP p0 λd=>G12 a d λo=>∃b,LenM P #[117] 3 a (.map o) (I b)/\inR .i64 (b+n0)/\B0 (1000<b+n0) (R (E (A7 0 66)) a) (onP p0 λd=>G1 a (d.add 2) λb=>inR .i64 (2147483647-b)/\B0 (2147483647-b<n0) (R (E (A7 0 66)) a) (C7 64 [Q p0,I n0] a λd g h a=>C3 63 [Q p0,I i0,I i1,S p1 n0 n1,S d g h] a λb a=>R (E (A7 b 0)) a)))))))):Calls P 91 #[Q p0,I i0,I i1,S p1 n0 n1] w R:=cok {} Tryz.func91 h
def Jax(h:onP p0 λc=>G12 w c λe=>∃A f,Lk P 117 true w (.map e) (I i0) (A10 A f)/\br (!f) (R (E (I 60)) w) (onP p0 λc=>G1 w (c.add 1) λh=>B0 (i0=h) (R (E (I 62)) w) (C1 150 [Q p0,I i0] w λa=>N10 a none 0 0 λf b=>CallV P 69 [Q p0,I i0,I 0] b λl a=>∃s,l=E s/\∃(m:FuncId),∃(q:Array Value),∃(p:Array Value),s=Value.func (.func m) q p/\HasBody P m/\RangeP P m (Array.toList q) (Array.toList p) (λ(d:Int×Int)=>[I d.1,I d.2]) (λ(d:Int×Int)(a:World)(x:World->(World->Prop)->Prop)(y B:World->Prop)(C:Nat->World->Prop)=>x a λv=>L9 v f 0 λc g k=>N9 v d.1 λo b=>∃n r e t,App P #[59,59] 59 b (S c g k) (S (some (.mk o 0 none)) 1 1) (S n r e) t/\U5 t f 0 n r e λb=>y b) a (λD a=>L9 a f 0 λc g k=>LoopP (St:=Int) (λd a z=>B0 (d<g) (onP c λc=>D1 d g/\G1 a (c.add (d.toNat*1)) λh=>onP p0 λc=>G12 a c λe=>∃b,Del P #[117,3] 0 a (.map e) (I h) b/\inR .i64 (d+1)/\z (d+1) b) (∃b,ShutD a D b/\R (E (I 0)) b)) 0 a) (λD a=>False) λ(i0 D:Nat)(a:World)=>False))):Calls P 92 #[Q p0,I i0] w R:=cok ⟨[],[(12,[(44,.inl .i64)])],[],[(10,[(36,.inl .i64),(37,.inl .i64)])]⟩ Tryz.func92 h
def Jba(h:N9 w i1 λm b=>∀e i,New b (.cells #[I 0] 41) e i->onP p0 λd=>G12 i d λq=>∃x A,Lk P 117 true i (.map q) (I i0) (A10 x A)/\onP p0 λd=>G12 i.drew d λq=>L4 i.drew m 0 λa=>∃r B,Lk P 117 true i.drew (.map q) (I a) (A10 r B)/\JoinP (λf c=>br f (U12 c e 0 60 λb=>L15 b e 0 λa=>R (E (I a)) b) (onP p0 λd=>G1 c (d.add 1) λa=>B0 (i0=a) (U12 c e 0 62 λb=>L15 b e 0 λa=>R (E (I a)) b) (onP r λd=>G1 c (d.add 2) λa=>B1 (a=1) (U12 c e 0 68 λb=>L15 b e 0 λa=>R (E (I a)) b) (N9 c 0 λn b=>U6 b n 0 0 λK=>CallV P 69 [Q p0,I i0,I 0] K λk c=>∃H,k=E H/\∃(v:FuncId),∃(G:Array Value),∃(F:Array Value),H=Value.func (.func v) G F/\HasBody P v/\RangeP P v (Array.toList G) (Array.toList F) (λ(f:Int×Int)=>[I f.1,I f.2]) (λ(f:Int×Int)(c:World)(N:World->(World->Prop)->Prop)(O T:World->Prop)(W:Nat->World->Prop)=>N c λs=>L4 s m 0 λa=>B0 (f.1=a) (U12 s e 0 61 λb=>T b) (L4 s n 0 λa=>U6 s n 0 (max a f.2) λb=>O b)) c (λD c=>onP r λd=>G13 c (d.add 7) λL g j=>JoinP (λf c=>JoinP (λf c=>br f (U12 c e 0 69 λb=>∃h,ShutD b D h/\L15 h e 0 λa=>R (E (I a)) h) (L4 c.drew m 0 λa=>L4 c.drew n 0 λl=>C3 149 [Q p0,I a] c.drew λa c=>Ld P 3 c (.mk n 0 none) (I l)/\inR .i64 (a+1)/\inR .i64 (a+1+l)/\B0 (40<=a+1+l) (U12 c e 0 65 λb=>∃h,ShutD b D h/\L15 h e 0 λa=>R (E (I a)) h) (C1 150 [Q p0,I i0] c λc=>onP r λd=>G13 c (d.add 7) λz g j=>N9 c i0 λC b=>C7 122 [S z g j,I i2,S (some (.mk C 0 none)) 1 1] b λd g j c=>onP r λM=>Z3 c (M.add 7) d g j λb=>L4 b m 0 λa=>onP x λd=>Z2 b (d.add 1) a λh=>U12 h e 0 0 λb=>∃y,ShutD b D y/\L15 y e 0 λa=>R (E (I a)) y))) λ(J:Bool->World->Prop)=>B0 (i2<0) (J true c) (J (decide (f<i2)) c)) λ(J:Int->World->Prop)=>onP x λd=>G1 c.drew (d.add 1) λa=>L4 c.drew m 0 λl=>B0 (a=l) (inR .i64 ((↑g:Int)-1)/\J ((↑g:Int)-1) c.drew) (J g c.drew)) (λD c=>∃b,ShutD c D b/\L15 b e 0 λa=>R (E (I a)) b) λ(i0 D:Nat)(c:World)=>False)))) λ(J:Bool->World->Prop)=>br (!A) (J true i.drew) (J (!B) i.drew)):Calls P 93 #[Q p0,I i0,I i1,I i2] w R:=cok ⟨[],[],[(4,[(35,.inr 0)]),(19,[(16,.inl .i64)]),(20,[(81,.inr 0)])],[(13,[(59,.inl .i64),(60,.inl .i64)])]⟩ Tryz.func93 h
def Jbg(h:C11 147 [Q p0,I i0] w λi b a=>B1 (b=0) (R (E (I b)) a) (C2 127 [.string s0] a λg a=>br (!g) (R (E (I 63)) a) (C3 151 [.string s1] a λb a=>B1 (b=0) (C3 151 [.string s1] a λb a=>R (E (I b)) a) (C17 152 [Q i,.string s0] a λb g a=>br g (onP i λe=>G14 a (e.add 6) λj d f=>onP j λe=>D1 b d/\Z1 a (Addr.add (e.add (b.toNat*2)) 1) s1 λh=>R (E (I 0)) h) (onP i λe=>G14 a (e.add 6) λj d f=>B0 (20<=(↑d:Int)) (R (E (I 67)) a) (onP i λe=>G14 a (e.add 6) λm d f=>N13 a s0 s1 λg h=>C7 153 [S m d f,I b,S (some (.mk g 0 none)) 1 1] h λe d f a=>onP i λn=>∃h,St P 69 a (n.add 6) (S e d f) h/\R (E (I 0)) h)))))):Calls P 94 #[Q p0,I i0,.string s0,.string s1] w R:=cok {} Tryz.func94 h
def Jaw(h:C11 147 [Q p0,I i0] w λg a b=>B1 (a=0) (R (E (I a)) b) (C17 152 [Q g,.string s0] b λa i b=>br (!i) (R (E (I 63)) b) (onP g λf=>G14 b (f.add 6) λh e c=>inR .i64 (a+1)/\C7 154 [S h e c,I a,I (a+1)] b λf e c b=>onP g λk=>∃j,St P 69 b (k.add 6) (S f e c) j/\R (E (I 0)) j))):Calls P 95 #[Q p0,I i0,.string s0] w R:=cok {} Tryz.func95 h
end
section
variable{w:World}{R:Ending->World->Prop}{p0 p1 p2:Option Addr}{n0 n1 n2 n3:Nat}{i0 i1 i2 i3 i4 i5 i6 i7 i8 i9 i10 i11:Int}{s0 s1 s2 s3:ByteArray}{b0 b1:Bool}{m0:Option Nat}{v0:Value}
def Jbh(h:onP p0 λb=>G12 w b λh=>∃e g,Lk P 117 true w (.map h) (I i0) (A10 e g)/\br (!g) (R (E (I 60)) w) (onP e λb=>G1 w (b.add 2) λa=>B1 (a=2) (R (E (I 68)) w) (C3 151 [.string s0] w λa c=>B1 (a=0) (C3 151 [.string s0] c λa c=>R (E (I a)) c) (onP e λb=>Z1 c (b.add 5) s0 λi=>R (E (I 0)) i)))):Calls P 96 #[Q p0,I i0,.string s0] w R:=cok {} Tryz.func96 h
def Je8(h:onP p0 λc=>G17 w c λh e o=>LoopP (St:=(Option Addr×Nat×Nat)×Int) (λa f p=>B0 (a.2<e) (onP h λc=>D1 a.2 e/\∃l i,Ld P 167 f (c.add (a.2.toNat*2)) (.agg #[.string l,I i])/\N15 f (.mk #[]) 0 λp0 d=>U13 d p0 0 l i λg=>L7 g p0 0 λm=>N12 g m λp0 d=>∃c k j n,App P #[106,106] 106 d (S a.1.1 a.1.2.1 a.1.2.2) (S (some (.mk p0 0 none)) 1 1) (S c k j) n/\inR .i64 (a.2+1)/\p ((c,k,j),a.2+1) n) (R (E (S a.1.1 a.1.2.1 a.1.2.2)) f)) ((none,0,0),0) w):Calls P 97 #[Q p0] w R:=cok ⟨[],[(3,[(3,.inr 3),(11,.inl .i64)])],[],[]⟩ Tryz.func97 h
def Jfb(h:CallV P 157 [Q p0,I i0] w λB g=>∃i c,B=E (.agg #[.string i,I c])/\N15 g (.mk #[]) 0 λk d=>U13 d k 0 i c λj=>L4 j k 1 λc=>B0 (c=0) (R (E (.bool false)) j) (onP p0 λa=>G17 j a λn b e=>inR .i64 (i0-1)/\onP n λa=>(0<=i0-1/\i0-1<(↑b:Int))/\G1 j (Addr.add (a.add (Int.toNat (i0-1)*2)) 1) λc=>inR .i64 (c-1)/\onP n λa=>(0<=i0-1/\i0-1<(↑b:Int))/\Z2 j (Addr.add (a.add (Int.toNat (i0-1)*2)) 1) (c-1) λd=>L4 d k 1 λc=>B0 (1<c) (R (E (.bool true)) d) (onP p0 λa=>G18 d.drew (a.add 1) λs=>L7 d.drew k 0 λi=>∃o,Del P #[147,9] 0 d.drew (.map s) (.string i) o/\onP p0 λa=>G17 o a λp b e=>inR .i64 (i0-1)/\onP p λa=>(0<=i0-1/\i0-1<(↑b:Int))/\∃d,St P 167 o (a.add (Int.toNat (i0-1)*2)) (.agg #[.string (.mk #[]),I 0]) d/\LoopP (St:=PUnit) (λi g C=>onP p0 λa=>G17 g.drew a λt b e=>B0 (0<(↑b:Int)) (onP p0 λa=>G17 g.drew a λq b e=>onP p0 λa=>G17 g.drew a λv l e=>inR .i64 ((↑l:Int)-1)/\onP q λa=>(0<=(↑l:Int)-1/\(↑l:Int)-1<(↑b:Int))/\G1 g.drew (Addr.add (a.add (Int.toNat ((↑l:Int)-1)*2)) 1) λc=>B0 (c=0) (onP p0 λa=>G17 g.drew.drew a λr b e=>onP p0 λa=>G17 g.drew.drew a λx b z=>inR .i64 ((↑b:Int)-1)/\onP p0 λa=>G17 g.drew.drew a λy m A=>inR .i64 ((↑m:Int)-1)/\(0<=(↑b:Int)-1/\(↑b:Int)-1<=(↑m:Int)-1/\(↑m:Int)-1<=(↑e:Int))/\onP p0 λa=>Z4 g.drew.drew a r (Int.toNat ((↑b:Int)-1)) (Int.toNat ((↑m:Int)-1)) λd=>C () d) (R (E (.bool true)) g.drew)) (R (E (.bool true)) g.drew)) () d))):Calls P 99 #[Q p0,I i0] w R:=cok ⟨[],[(9,[])],[],[]⟩ Tryz.func99 h
def Jfc(h:onP p0 λd=>G18 w (d.add 1) λc=>∃b p0,Lk P 147 true w (.map c) (.string s0) (A1 b p0)/\R (E (A1 b p0)) w):Calls P 100 #[Q p0,.string s0] w R:=cok {} Tryz.func100 h
def Je7(h:onP p0 λa=>G18 w (a.add 1) λf=>∃b o,Lk P 147 true w (.map f) (.string s0) (A1 b o)/\C2 127 [.string s0] w λp c=>br (!p) (R (E (A7 0 63)) c) (br o (onP p0 λa=>G17 c a λh d i=>inR .i64 (b-1)/\onP h λa=>(0<=b-1/\b-1<d)/\G1 c (Addr.add (a.add (Int.toNat (b-1)*2)) 1) λm=>inR .i64 (m+1)/\onP h λa=>(0<=b-1/\b-1<d)/\Z2 c (Addr.add (a.add (Int.toNat (b-1)*2)) 1) (m+1) λe=>R (E (A7 b 0)) e) (onP p0 λa=>G18 c (a.add 1) λf=>∃b,LenM P #[147] 3 c (.map f) (I b)/\B0 (4000<=b) (R (E (A7 0 150)) c) (C3 158 [Q p0] c λb c=>JoinP (St:=PUnit) (λt c=>onP p0 λa=>G17 c a λh d i=>inR .i64 (b-1)/\onP h λa=>(0<=b-1/\b-1<d)/\∃e,St P 167 c (a.add (Int.toNat (b-1)*2)) (.agg #[.string s0,I 1]) e/\onP p0 λa=>G18 e (a.add 1) λf=>∃j,MUp P 147 e (.map f) (.string s0) (I b) j/\R (E (A7 b 0)) j) λJ=>onP p0 λa=>G17 c a λh d i=>B0 ((↑d:Int)<b) (onP p0 λa=>G17 c a λn d i=>N15 c (.mk #[]) 0 λq e=>∃a r f j,App P #[148,148] 148 e (S n d i) (S (some (.mk q 0 none)) 1 1) (S a r f) j/\onP p0 λs=>Z4 j s a r f λe=>J () e) (J () c))))):Calls P 101 #[Q p0,.string s0] w R:=cok ⟨[],[],[(12,[])],[]⟩ Tryz.func101 h
def Jcw(h:∀h g,New w (.map #[] 0) h g->LoopP (St:=Int) (λb a k=>B0 (b<n0) (onP p0 λd=>D1 b n0/\G24 a (d.add (b.toNat*2)) λc m=>N17 a 0 false λf g=>∃r,St P 248 g (.mk f 0 none) (A20 c m) r/\∃c s,Ld P 248 r (.mk f 0 none) (A20 c s)/\C3 161 [.map m0,A20 c s] r λc a=>B0 (0<=c) (L4 a f 0 λc=>L4 a f 0 λn=>∃t v,Lk P 80 false a (.map m0) (I n) (A4 t v)/\∃g,MUp P 80 a (.map (some h)) (I c) (A4 t v) g/\inR .i64 (b+1)/\k (b+1) g) (inR .i64 (b+1)/\k (b+1) a)) (LoopP (St:=Int×Int×Int) (λb a k=>B0 (b.2.2<=n0) (JoinP (St:=Int×Int) (λl a=>inR .i64 (b.2.2+1)/\k (l.1,l.2,b.2.2+1) a) λJ=>JoinP (λl a=>B0 (l<0) (J (b.1,b.2.1) a) (inR .i64 (b.2.2-b.2.1)/\C19 162 [I b.1,I l,I (b.2.2-b.2.1)] a λd o x m a=>br (!m) (R (E (.tuple #[.map none,.bool false])) a) (LoopP (St:=Int) (λe a k=>B0 (e<o) (onP d λd=>D1 e o/\G1 a (d.add (e.toNat*1)) λc=>inR .i64 (b.2.1+e)/\onP p0 λd=>(0<=b.2.1+e/\b.2.1+e<n0)/\G24 a (d.add (Int.toNat (b.2.1+e)*2)) λn f=>C1 163 [.map (some h),A20 n f,I c] a λa=>inR .i64 (e+1)/\k (e+1) a) (inR .i64 (b.2.2+1)/\J (l,b.2.2+1) a)) 0 a))) λ(J:Int->World->Prop)=>B0 (b.2.2<n0) (onP p0 λd=>D1 b.2.2 n0/\G24 a (d.add (b.2.2.toNat*2)) λc h=>C3 161 [.map m0,A20 c h] a λc a=>J c a) (J 4611686018427387904 a)) (R (E (.tuple #[.map (some h),.bool true])) a)) (0,0,0) a)) 0 g):Calls P 104 #[S p0 n0 n1,.map m0] w R:=cok ⟨[],[(3,[(20,.inl .i64)]),(10,[(9,.inl .i64),(10,.inl .i64),(11,.inl .i64)]),(20,[(67,.inl .i64)])],[(11,[(9,.inl .i64),(10,.inl .i64)]),(15,[(12,.inl .i64)])],[]⟩ Tryz.func104 h
def Jb7(h:∀g a,New w (.cells #[S none 0 0] 185) g a->∀i B,New a (.cells #[S none 0 0] 185) i B->LoopP (St:=Int) (λe h K=>B0 (e<n0) (onP p0 λd=>D1 e n0/\G16 h (d.add (e.toNat*5)) λf t z A p c b=>N11 h 0 0 (.mk #[]) (.mk #[]) none 0 0 λl a=>U8 a l 0 f t z A p c b λn=>L4 n l 0 λf=>C1 164 [I f,Q (some (.mk i 0 none)),Q (some (.mk g 0 none))] n λh=>∃d c b,Ld P 185 h.drew (.mk g 0 none) (S d c b)/\onP p1 λF=>D1 e n2/\G1 h.drew (F.add (e.toNat*1)) λf=>N17 h.drew f false λs a=>Ld P 185 a (.mk g 0 none) (S d c b)/\∃q k j C,App P #[185,185] 185 a (S d c b) (S (some (.mk s 0 none)) 1 1) (S q k j) C/\∃a,St P 185 C (.mk g 0 none) (S q k j) a/\∃d c b,Ld P 185 a.drew (.mk i 0 none) (S d c b)/\onP p1 λG=>D1 e n2/\G1 a.drew (G.add (e.toNat*1)) λf=>N17 a.drew f true λg o=>Ld P 185 o (.mk i 0 none) (S d c b)/\∃r k j a,App P #[185,185] 185 o (S d c b) (S (some (.mk g 0 none)) 1 1) (S r k j) a/\∃D,St P 185 a (.mk i 0 none) (S r k j) D/\inR .i64 (e+1)/\K (e+1) D) (C1 164 [I 0,Q (some (.mk i 0 none)),Q (some (.mk g 0 none))] h λh=>∃d c b,Ld P 185 h (.mk g 0 none) (S d c b)/\R (E (S d c b)) h)) 0 B):Calls P 105 #[S p0 n0 n1,S p1 n2 n3] w R:=cok ⟨[],[(4,[(13,.inl .i64)])],[],[]⟩ Tryz.func105 h
def Jex(h:C10 62 [S p0 n0 n1] w λc p d=>B1 (p=0) (R (E (A13 none 0 0 p)) d) (∃b n m a,MkS P 187 d (I n0) (I n0) (S b n m) a/\∀h A,New a (.cells #[S none 0 0] 187) h A->∃a,St P 187 A (.mk h 0 none) (S b n m) a/\N10 a none 0 0 λj B=>N9 B 0 λi a=>U6 a i 0 0 λC=>LoopP (St:=Int) (λg d G=>B0 (g<n0) (onP p0 λb=>D1 g n0/\G16 d (b.add (g.toNat*5)) λc v y z s e f=>N11 d 0 0 (.mk #[]) (.mk #[]) none 0 0 λo a=>U8 a o 0 c v y z s e f λq=>L4 q o 0 λc=>C1 165 [I c,Q (some (.mk j 0 none)),Q (some (.mk i 0 none)),Q (some (.mk h 0 none))] q λd=>L4 d i 0 λc=>inR .i64 (c+1099511627776)/\U6 d i 0 (c+1099511627776) λa=>∃b e f,Ld P 187 a (.mk h 0 none) (S b e f)/\L4 a i 0 λc=>onP b λb=>D1 g e/\Z2 a (b.add (g.toNat*2)) c λr=>L9 r j 0 λb e f=>N9 r g λh a=>∃t n m D,App P #[59,59] 59 a (S b e f) (S (some (.mk h 0 none)) 1 1) (S t n m) D/\U5 D j 0 t n m λa=>inR .i64 (g+1)/\G (g+1) a) (C1 165 [I 0,Q (some (.mk j 0 none)),Q (some (.mk i 0 none)),Q (some (.mk h 0 none))] d λd=>∃b e f,Ld P 187 d (.mk h 0 none) (S b e f)/\R (E (A13 b e f 0)) d)) 0 C)):Calls P 106 #[S p0 n0 n1] w R:=cok ⟨[],[(9,[(26,.inl .i64)])],[],[]⟩ Tryz.func106 h
def Jcd(h:onP p0 λb=>G20 w b λd=>onP d λb=>G11 w (b.add 4) λc=>∃a n,Lk P 83 false w (.map c) (.string s0) (A4 a n)/\N14 w 0 0 λg e=>U10 e g 0 a n λf=>onP p0 λb=>G20 f.drew b λd=>onP d λb=>G6 f.drew (b.add 3) λm q r=>L4 f.drew g 0 λa=>onP m λb=>D1 a q/\G7 f.drew (b.add (a.toNat*1)) λd=>L4 f.drew g 1 λa=>C3 167 [Q d,I a] f.drew λa j=>onP p0 λb=>G21 j.drew (b.add 1) λc=>L12 j.drew g 0 λa h=>∃i,Lk P 110 false j.drew (.map c) (A4 a h) (I i)/\inR .i64 (i+1)/\∃t o e,MEn P 110 j.drew (.map c) (A4 a h) (.tuple #[t,I o]) e/\Lk P 110 false e (.map c) (A4 a h) (I i)/\∃k,ESt P 110 e (.map c) (I o) (I (i+1)) k/\onP p0 λb=>G20 k b λd=>onP d λb=>G11 k (b.add 4) λc=>∃e,Del P #[83,9] 0 k (.map c) (.string s0) e/\R (E (.tuple #[])) e):Calls P 108 #[Q p0,.string s0] w R:=cok {} Tryz.func108 h
def Jdc(h:B0 (i0<0) (R (E (I 110)) w) (B0 (120<=i0) (R (E (I 110)) w) (C3 169 [Q p0] w λa b=>C10 86 [Q p0,I i0] b λk i b=>JoinP (λo b=>B0 (o<(↑(s0.size):Int)) (R (E (I 111)) b) (C1 170 [Q p0,I i0] b λb=>LoopP (St:=PUnit) (λp b n=>onP p0 λc=>G1 b (c.add 4096) λa=>B0 (a<=i0) (onP p0 λc=>G1 b (c.add 4096) λa=>C1 171 [Q p0,I a,I 0,I 0] b λb=>onP p0 λc=>G1 b (c.add 4096) λa=>inR .i64 (a+1)/\onP p0 λc=>Z2 b (c.add 4096) (a+1) λg=>n () g) (onP p0 λc=>G1 b (c.add 4096) λa=>C1 172 [Q p0,I 8,I a] b λb=>onP p0 λc=>G1 b (c.add 4097) λa=>inR .i64 (a-(↑(s0.size):Int))/\onP p0 λc=>Z2 b (c.add 4097) (a-(↑(s0.size):Int)) λg=>onP p0 λc=>onP p0 λl=>G1 g.drew (l.add 4097) λa=>(0<=a/\a<=(↑(4096:Nat):Int))/\∃m j,Cpy P #[159,9] 3 g.drew (S (slA (some c) 4096 (a.toNat) 1) (4096-a.toNat) (4096-a.toNat)) (.string s0) (I m) j/\onP p0 λc=>G1 j (c.add 4097) λa=>C1 171 [Q p0,I i0,I a,I (↑(s0.size):Int)] j λb=>R (E (I 0)) b)) () b)) λ(J:Int->World->Prop)=>B0 (0<k) (inR .i64 (a+i)/\J (a+i) b) (J a b)))):Calls P 110 #[Q p0,I i0,.string s0] w R:=cok ⟨[],[(10,[])],[(7,[(7,.inl .i64)])],[]⟩ Tryz.func110 h
def Jcr(h:LoopP (St:=Int) (λf a B=>B0 (4096<=f) (R (E (I 94)) a) (JoinP (St:=PUnit) (λF a=>onP p0 λb=>G20 a b λc=>onP c λb=>G6 a (b.add 3) λl g h=>onP l λb=>D1 f g/\G7 a (b.add (f.toNat*1)) λc=>C10 173 [Q c,.string s1] a λk v a=>B0 (v=0) (onP p0 λb=>G20 a b λc=>onP c λb=>G11 a (b.add 4) λe=>∃d,MUp P 83 a (.map e) (.string s0) (A4 f k) d/\onP p0 λb=>G21 d.drew (b.add 1) λe=>∃n,Lk P 110 false d.drew (.map e) (A4 f k) (I n)/\inR .i64 (n+1)/\∃D x i,MEn P 110 d.drew (.map e) (A4 f k) (.tuple #[D,I x]) i/\Lk P 110 false i (.map e) (A4 f k) (I n)/\∃d,ESt P 110 i (.map e) (I x) (I (n+1)) d/\R (E (I 0)) d) (inR .i64 (f+1)/\B (f+1) a)) λJ=>onP p0 λb=>G20 a b λc=>onP c λb=>G6 a (b.add 3) λl g h=>B0 (f=g) (onP p0 λb=>G20 a.drew b λc=>onP p0 λp=>G20 a.drew p λo=>onP o λq=>G6 a.drew (q.add 3) λm g h=>C4 123 [] a.drew λz a=>Ld P 84 a (q.add 3) (S m g h)/\Ld P 23 a p (Q o)/\Ld P 23 a b (Q c)/\N8 a z λt d=>Ld P 84 d (q.add 3) (S m g h)/\Ld P 23 d p (Q o)/\Ld P 23 d b (Q c)/\∃s y e i,App P #[84,84] 84 d (S m g h) (S (some (.mk t 0 none)) 1 1) (S s y e) i/\Ld P 23 i b (Q c)/\onP c λb=>∃d,St P 84 i (b.add 3) (S s y e) d/\J () d) (J () a))) 0 w):Calls P 111 #[Q p0,.string s0,.string s1] w R:=cok ⟨[],[(3,[(7,.inl .i64)])],[(7,[])],[]⟩ Tryz.func111 h
def Jcu(h:∃b,(onP p0 λa=>Ld P 114 w.drew a (.map b))/\C18 113 [.string s0] w.drew λe f=>(onP p0 λa=>Ld P 114 f a (.map b))/\∃g,MUp P 114 f (.map b) (.string e) (A14 s0) g/\R (E (.tuple #[])) g):Calls P 112 #[.string s0,Q p0] w R:=cok {} Tryz.func112 h
def Jb4(h:B0 (s0=.mk #[]) (R (E (.string (.mk #[]))) w) (((0:Int)<=(0:Int)/\(0:Int)<(↑(s0.size):Int))/\B0 (sb s0 (0:Int)=(119:Int)) (((0:Int)<=min (↑(s0.size):Int) (3:Int)/\min (↑(s0.size):Int) (3:Int)<=(↑(s0.size):Int))/\R (E (.string (ByteArray.extract s0 0 (Int.toNat (min (↑(s0.size):Int) (3:Int)))))) w) (((0:Int)<=(0:Int)/\(0:Int)<(↑(s0.size):Int))/\B0 (sb s0 (0:Int)=(110:Int)) (((0:Int)<=min (↑(s0.size):Int) (6:Int)/\min (↑(s0.size):Int) (6:Int)<=(↑(s0.size):Int))/\R (E (.string (ByteArray.extract s0 0 (Int.toNat (min (↑(s0.size):Int) (6:Int)))))) w) (((0:Int)<=(1:Int)/\(1:Int)<=(↑(s0.size):Int))/\R (E (.string (ByteArray.extract s0 0 (Int.toNat (1:Int))))) w)))):Calls P 113 #[.string s0] w R:=cok {} Tryz.func113 h
def Jcq(h:∃c e g d,MkS P 159 w (I i1) (I i1) (S c e g) d/\LoopP (St:=Int) (λa f i=>B0 (a<e) (inR .i64 (i1-1)/\inR .i64 (i1-1-a)/\inR .i64 (8*(i1-1-a))/\0<=8*(i1-1-a)/\onP c λc=>D1 a e/\∃d,St P 5 f (c.add (a.toNat*1)) (.int .u8 (IntKind.wrap .u8 (Int.fdiv i0 (2^min (Int.toNat (8*(i1-1-a))) (IntKind.bits .i64))))) d/\inR .i64 (a+1)/\i (a+1) d) (∃a,B2S P 159 9 f (S c e g) (.string a)/\R (E (.string a)) f)) 0 d):Calls P 114 #[I i0,I i1] w R:=cok ⟨[],[(3,[(11,.inl .i64)])],[],[]⟩ Tryz.func114 h
def Jai(h:N16 w i0 i1 i2 i3 i4 i5 s0 p0 n0 n1 λf c=>L14 c f 0 λh p r s t v a d b g=>C2 174 [A15 h p r s t v a d b g] c λn e=>br (!n) (R (E (A13 none 0 0 160)) e) (L14 e f 0 λh x y z A q a d b g=>C7 175 [A15 h x y z A q a d b g] e λd b g e=>inR .i64 ((↑b:Int)+(900:Int))/\inR .i64 ((↑b:Int)+(900:Int)-(1:Int))/\(900:Int)≠(0:Int)/\inR .i64 (Int.tdiv ((↑b:Int)+(900:Int)-(1:Int)) (900:Int))/\LoopP (St:=(Option Addr×Nat×Nat)×Int) (λa e F=>B0 (a.2<Int.tdiv ((↑b:Int)+(900:Int)-(1:Int)) (900:Int)) (L4 e f 0 λh=>∀f c,New e (.cells #[I h,I 4,I a.2,I 1,I (Int.tdiv ((↑b:Int)+(900:Int)-(1:Int)) (900:Int)),I 1] 258) f c->C7 176 [S none 0 0,S (some (.mk f 0 none)) 3 3] c λl B o e=>inR .i64 (a.2*(900:Int))/\inR .i64 (a.2+(1:Int))/\inR .i64 ((a.2+(1:Int))*(900:Int))/\((0:Int)<=a.2*(900:Int)/\a.2*(900:Int)<=min (↑b:Int) ((a.2+(1:Int))*(900:Int))/\min (↑b:Int) ((a.2+(1:Int))*(900:Int))<=(↑g:Int))/\∃m k j c,App P #[159,159] 159 e (S l B o) (S (slA d g (Int.toNat (a.2*(900:Int))) 1) (Int.toNat (min (↑b:Int) ((a.2+(1:Int))*(900:Int)))-Int.toNat (a.2*(900:Int))) (g-Int.toNat (a.2*(900:Int)))) (S m k j) c/\∃C,B2S P 159 9 c (S m k j) (.string C)/\N12 c C λf D=>∃d k j c,App P #[106,106] 106 D (S a.1.1 a.1.2.1 a.1.2.2) (S (some (.mk f 0 none)) 1 1) (S d k j) c/\inR .i64 (a.2+(1:Int))/\F ((d,k,j),a.2+(1:Int)) c) (R (E (A13 a.1.1 a.1.2.1 a.1.2.2 0)) e)) ((none,0,0),(0:Int)) e)):Calls P 115 #[A15 i0 i1 i2 i3 i4 i5 s0 p0 n0 n1] w R:=cok ⟨[],[(7,[(6,.inr 3),(20,.inl .i64)])],[],[]⟩ Tryz.func115 h
def Jcs(h:N5 w i0 i1 i2 i3 s0 s1 p1 n0 n1 λb a=>N16 a 0 0 0 0 0 0 (.mk #[]) none 0 0 λp i=>L4 i.drew b 0 λe=>L4 i.drew b 1 λr=>L4 i.drew b 2 λs=>L7 i.drew b 5 λd=>onP p0 λc=>G9 i.drew (c.add 1) λj=>L4 i.drew b 0 λn=>∃t v,Lk P 80 false i.drew (.map j) (I n) (A4 t v)/\N16 i.drew 0 0 0 0 0 0 (.mk #[]) none 0 0 λk a=>Lk P 80 false a (.map j) (I n) (A4 t v)/\Ld P 3 a (.mk b 0 none) (I n)/\Ld P 80 a (c.add 1) (.map j)/\Ld P 9 a (.mk b 5 none) (.string d)/\Ld P 3 a (.mk b 2 none) (I s)/\Ld P 3 a (.mk b 1 none) (I r)/\Ld P 3 a (.mk b 0 none) (I e)/\U11 a k 0 e r s 0 t v d none 0 0 λl=>JoinP (St:=PUnit) (λd f=>L11 f b 6 λc g h=>LoopP (St:=Int) (λd f Y=>B0 (d<g) (onP c λc=>D1 d g/\G3 f (c.add (d.toNat*2)) λN O=>N13 f (.mk #[]) (.mk #[]) λb a=>U9 a b 0 N O λo=>onP p0 λc=>G10 o.drew (c.add 2) λm=>L7 o.drew b 0 λT=>C17 100 [Q m,.string T] o.drew λe X f=>L16 f k 7 λc g h=>L7 f b 1 λV=>N18 f e V λb a=>∃y M j W,App P #[202,202] 202 a (S c g h) (S (some (.mk b 0 none)) 1 1) (S y M j) W/\∃a,St P 202 W (.mk k 7 none) (S y M j) a/\inR .i64 (d+1)/\Y (d+1) a) (L14 f k 0 λe G H K L z d c g h=>U11 f p 0 e G H K L z d c g h λa=>L14 a p 0 λe A B C D F d c g h=>R (E (A15 e A B C D F d c g h)) a)) 0 f) λJ=>L4 l b 2 λe=>B0 (e=1) (onP p0 λc=>G10 l.drew (c.add 2) λm=>L7 l.drew b 4 λd=>C17 100 [Q m,.string d] l.drew λe b f=>U6 f k 3 e λa=>J () a) (J () l)):Calls P 116 #[Q p0,A3 i0 i1 i2 i3 s0 s1 p1 n0 n1] w R:=cok ⟨[],[(5,[(43,.inl .i64)])],[(4,[])],[]⟩ Tryz.func116 h
def Jcf(h:N14 w i0 i1 λc b=>L4 b.drew c 0 λa=>onP p0 λd=>G6 b.drew (d.add 3) λk e f=>B0 ((↑e:Int)<=a) (R (E (A12 (.mk #[]) false)) b.drew) (onP p0 λd=>G6 b.drew.drew (d.add 3) λg e f=>L4 b.drew.drew c 0 λa=>onP g λd=>D1 a e/\G7 b.drew.drew (d.add (a.toNat*1)) λh=>L4 b.drew.drew c 1 λa=>C15 48 [Q h,I a] b.drew.drew λi c o=>R (E (A12 i c)) o)):Calls P 117 #[Q p0,A4 i0 i1] w R:=cok {} Tryz.func117 h
def Jca(h:N7 w i0 i1 s0 b0 λe h=>N7 h i2 i3 s1 b1 λf c=>L4 c e 0 λa=>L4 c f 0 λb=>inR .i64 (a-b)/\inR .i64 ((a-b)*120)/\L4 c e 1 λd=>inR .i64 ((a-b)*120+d)/\L4 c f 1 λg=>inR .i64 ((a-b)*120+d-g)/\R (E (I ((a-b)*120+d-g))) c):Calls P 119 #[A5 i0 i1 s0 b0,A5 i2 i3 s1 b1] w R:=cok {} Tryz.func119 h
def Jc9(h:onP p0 λe=>D1 i0 n0/\G16 w (e.add (i0.toNat*5)) λa m f p k o l=>N11 w 0 0 (.mk #[]) (.mk #[]) none 0 0 λd q=>U8 q d 0 a m f p k o l λg=>JoinP (λf c=>br f (R (E (I 69)) c) (JoinP (λf c=>br f (R (E (I 69)) c) (L4 c d 0 λa=>B0 (40<=a) (R (E (I 42)) c) (B0 (1000<=i0) (R (E (I 43)) c) (R (E (I 0)) c)))) λ(J:Bool->World->Prop)=>B0 (0<i0) (L4 c.drew d 0 λa=>B0 (a<1) (J true c.drew) (L4 c.drew d 0 λa=>inR .i64 (i0-1)/\onP p0 λe=>(0<=i0-1/\i0-1<n0)/\G1 c.drew (e.add (Int.toNat (i0-1)*5)) λj=>inR .i64 (j+1)/\B0 (j+1<a) (J true c.drew) (L4 c.drew d 0 λa=>inR .i64 (i0-1)/\onP p0 λe=>(0<=i0-1/\i0-1<n0)/\G1 c.drew (e.add (Int.toNat (i0-1)*5)) λn=>B0 (n<a) (inR .i64 (i0-1)/\onP p0 λe=>(0<=i0-1/\i0-1<n0)/\G1 c.drew (Addr.add (e.add (Int.toNat (i0-1)*5)) 1) λa=>J (decide (a=2)) c.drew) (J false c.drew)))) (J false c.drew))) λ(J:Bool->World->Prop)=>B0 (i0=0) (L4 g d 0 λa=>B1 (a=0) (J true g) (L4 g d 1 λa=>J (!decide (a=1)) g)) (J false g)):Calls P 120 #[S p0 n0 n1,I i0] w R:=cok ⟨[],[],[(3,[(10,.inr 0)]),(5,[(23,.inr 0)])],[]⟩ Tryz.func120 h
def Jc8(h:N11 w i0 i1 s0 s1 p0 n0 n1 λd e=>JoinP (λa b=>br a (L7 b d 3 λa=>C3 179 [.string a] b λc b=>R (E (I c)) b) (L4 b d 1 λc=>B1 (c=1) (R (E (I 68)) b) (L7 b d 3 λa=>B1 (a=.mk #[]) (R (E (I 68)) b) (L13 b d 0 λc l a m f g h=>C3 180 [A16 c l a m f g h] b λc b=>L11 b d 4 λf g h=>LoopP (St:=Int×Int) (λa b o=>B0 (a.2<g) (JoinP (λj b=>inR .i64 (a.2+1)/\o (j,a.2+1) b) λ(J:Int->World->Prop)=>onP f λf=>D1 a.2 g/\G3 b (f.add (a.2.toNat*2)) λj n=>N13 b (.mk #[]) (.mk #[]) λd e=>U9 e d 0 j n λk=>B0 (a.1=0) (L7 k d 1 λa=>C3 179 [.string a] k λc b=>J c b) (J a.1 k)) (R (E (I a.1)) b)) (c,0) b)))) λ(J:Bool->World->Prop)=>L4 e d 1 λc=>B0 (c=2) (L7 e d 2 λa=>B0 (a=.mk #[]) (L11 e d 4 λf g h=>J (decide ((↑g:Int)=0)) e) (J false e)) (J false e)):Calls P 121 #[A16 i0 i1 s0 s1 p0 n0 n1] w R:=cok ⟨[],[(7,[(3,.inl .i64),(38,.inl .i64)])],[(2,[(6,.inr 0)]),(11,[(3,.inl .i64)])],[]⟩ Tryz.func121 h
def Je4(h:∀a b,New w (.cells (List.toArray (bigL P 162 [(2,I 4096)])) 162) a b->R (E (Q (some (.mk a 0 none)))) b):Calls P 123 #[] w R:=cok {} Tryz.func123 h
def Jc0(h:∃b c g f,S2B P 9 159 w (.string s0) (S b c g) f/\LoopP (St:=Int×Int) (λs0 d h=>B0 (s0.2<c) (onP b λb=>((0:Int)<=s0.2/\s0.2<c)/\G25 d (b.add (s0.2.toNat*1)) λe=>(0:Int)<=(8:Int)/\inR .i64 (s0.1*(2:Int)^min (Int.toNat (8:Int)) (IntKind.bits .i64))/\inR .i64 (s0.2+(1:Int))/\h (Vc.bits .or .i64 (s0.1*(2:Int)^min (Int.toNat (8:Int)) (IntKind.bits .i64)) (IntKind.wrap .i64 e),s0.2+(1:Int)) d) (R (E (I s0.1)) d)) ((0:Int),(0:Int)) f):Calls P 124 #[.string s0] w R:=cok ⟨[],[(3,[(3,.inl .i64),(9,.inl .i64)])],[],[]⟩ Tryz.func124 h
def Jc1(h:B0 ((↑(s0.size):Int)<(4:Int)) (R (E (.bool false)) w) (((0:Int)<=(1:Int)/\(1:Int)<=(3:Int)/\(3:Int)<=(↑(s0.size):Int))/\C3 124 [.string (ByteArray.extract s0 (Int.toNat (1:Int)) (Int.toNat (3:Int)))] w λc b=>B0 (c<(1:Int)) (R (E (.bool false)) b) (B0 ((4000:Int)<c) (R (E (.bool false)) b) (LoopP (St:=PUnit) (λr b q=>onP p0 λa=>∃n d f,Ld P 106 b (a.add 2) (S n d f)/\B0 ((↑d:Int)<c) (onP p0 λa=>∃h d f,Ld P 106 b (a.add 2) (S h d f)/\N12 b (.mk #[]) λj e=>∃a l k m,App P #[106,106] 106 e (S h d f) (S (some (.mk j 0 none)) 1 1) (S a l k) m/\onP p0 λo=>∃e,St P 106 m (o.add 2) (S a l k) e/\q () e) (onP p0 λa=>∃h d f,Ld P 106 b.drew (a.add 2) (S h d f)/\inR .i64 (c-(1:Int))/\((0:Int)<=(3:Int)/\(3:Int)<=(↑(s0.size):Int))/\onP h λa=>((0:Int)<=c-(1:Int)/\c-(1:Int)<d)/\Z1 b.drew (a.add (Int.toNat (c-(1:Int))*1)) (ByteArray.extract s0 (Int.toNat (3:Int)) (s0.size)) λe=>R (E (.bool true)) e)) () b)))):Calls P 125 #[Q p0,.string s0] w R:=cok ⟨[],[(6,[])],[],[]⟩ Tryz.func125 h
def Jaj(h:B0 ((↑(s0.size):Int)<6) (R (E (A17 0 0 0 false)) w) (B0 (906<(↑(s0.size):Int)) (R (E (A17 0 0 0 false)) w) (∃h j i k,S2B P 9 159 w (.string s0) (S h j i) k/\∀c l,New k (.cells #[S h j i,.bool false] 266) c l->C3 183 [Q (some (.mk c 0 none)),I 4] l λd a=>C3 183 [Q (some (.mk c 0 none)),I 1] a λe a=>C3 183 [Q (some (.mk c 0 none)),I 1] a λf a=>B0 (d<1) (R (E (A17 0 0 0 false)) a) (B0 (2147483647<d) (R (E (A17 0 0 0 false)) a) (B0 (f<=e) (R (E (A17 0 0 0 false)) a) (R (E (A17 d e f true)) a)))))):Calls P 126 #[.string s0] w R:=cok {} Tryz.func126 h
def Jfn(h:B1 (s0=.mk #[]) (B0 ((↑(s0.size):Int)<=60) (∀b d,New w (.cells #[Value.func (.func 185) #[] #[]] 269) b d->C3 184 [.string s0,S (some (.mk b 0 none)) 1 1] d λc f=>R (E (.bool (decide (0<c)))) f) (R (E (.bool false)) w)) (R (E (.bool false)) w)):Calls P 127 #[.string s0] w R:=cok {} Tryz.func127 h
def Jag(h:N16 w 0 0 0 0 0 0 (.mk #[]) none 0 0 λi c=>C19 192 [S p0 n0 n1] c λe h f C a=>br (!C) (U11 a i 0 0 0 0 0 0 0 (.mk #[]) none 0 0 λc=>L14 c i 0 λb q r s t v d e h f=>R (E (A18 b q r s t v d e h f 160)) c) (∀j c,New a (.cells #[S e h f,.bool false] 266) j c->C3 183 [Q (some (.mk j 0 none)),I 4] c λb a=>C3 183 [Q (some (.mk j 0 none)),I 4] a λq a=>N16 a 0 0 0 0 0 0 (.mk #[]) none 0 0 λk c=>U11 c k 0 b q 0 0 0 0 (.mk #[]) none 0 0 λX=>C3 183 [Q (some (.mk j 0 none)),I 8] X λb a=>C3 183 [Q (some (.mk j 0 none)),I 8] a λr a=>U3 a k 4 b r λc=>C3 183 [Q (some (.mk j 0 none)),I 1] c λb a=>C3 183 [Q (some (.mk j 0 none)),I 2] a λs a=>U6 a k 2 b λc=>U6 c k 3 s λY=>C3 183 [Q (some (.mk j 0 none)),I 2] Y λb a=>C18 193 [Q (some (.mk j 0 none)),I b] a λd a=>U14 a k 6 d λc=>C3 183 [Q (some (.mk j 0 none)),I 1] c λb a=>LoopP (St:=Int) (λd a A=>B0 (d<b) (C3 183 [Q (some (.mk j 0 none)),I 2] a λb a=>N18 a 0 (.mk #[]) λi c=>U15 c i 0 b (.mk #[]) λZ=>C3 183 [Q (some (.mk j 0 none)),I 2] Z λb a=>C18 193 [Q (some (.mk j 0 none)),I b] a λx a=>U14 a i 1 x λc=>L16 c k 7 λe h f=>∃b y,Ld P 260 c (.mk i 0 none) (.agg #[I b,.string y])/\N18 c b y λi aa=>∃B W V c,App P #[202,202] 202 aa (S e h f) (S (some (.mk i 0 none)) 1 1) (S B W V) c/\∃ab,St P 202 c (.mk k 7 none) (S B W V) ab/\inR .i64 (d+1)/\A (d+1) ab) (L14 a k 0 λb t v L M N d e h f=>CallV P 115 [A15 b t v L M N d e h f] a λg a=>∃e h f b,g=E (A13 e h f b)/\JoinP (λd a=>br d (U11 a i 0 0 0 0 0 0 0 (.mk #[]) none 0 0 λc=>L14 c i 0 λb p l m n o d e h f=>R (E (A18 b p l m n o d e h f 160)) c) (LoopP (St:=Int) (λd a A=>B0 (d<(↑n0:Int)) (onP e λe=>D1 d h/\G2 a.drew (e.add (d.toNat*1)) λx=>onP p0 λe=>D1 d n0/\G2 a.drew (e.add (d.toNat*1)) λy=>B1 (x=y) (U11 a.drew i 0 0 0 0 0 0 0 (.mk #[]) none 0 0 λc=>L14 c i 0 λb p l m n o d e h f=>R (E (A18 b p l m n o d e h f 160)) c) (inR .i64 (d+1)/\A (d+1) a.drew)) (L14 a k 0 λb p l m n o d e h f=>U11 a i 0 b p l m n o d e h f λc=>L14 c i 0 λb D F G H K d e h f=>R (E (A18 b D F G H K d e h f 0)) c)) 0 a)) λ(J:Bool->World->Prop)=>L5 a j 1 λi=>br i (J true a) (∃e O f,Ld P 159 a (.mk j 0 none) (S e O f)/\B0 (0<(↑O:Int)) (J true a) (B1 (b=0) (J true a) (J (!decide ((↑h:Int)=(↑n0:Int))) a))))) 0 a)):Calls P 131 #[S p0 n0 n1] w R:=cok ⟨[],[(11,[(53,.inl .i64)]),(20,[(101,.inl .i64)])],[(18,[(97,.inr 0)])],[]⟩ Tryz.func131 h
def Jcp(h:N16 w i0 i1 i2 i3 i4 i5 s0 p0 n0 n1 λb f=>N16 f i6 i7 i8 i9 i10 i11 s1 p1 n2 n3 λc a=>L4 a b 4 λd=>L4 a c 4 λe=>B0 (d<e) (R (E (I (-1:Int))) a) (R (E (I 1)) a)):Calls P 133 #[A15 i0 i1 i2 i3 i4 i5 s0 p0 n0 n1,A15 i6 i7 i8 i9 i10 i11 s1 p1 n2 n3] w R:=cok {} Tryz.func133 h
def Jez(h:LoopP (St:=(Option Addr×Nat×Nat)×(Option Addr×Nat×Nat)×Int) (λa b v=>B0 (a.2.2<(↑n0:Int)) (onP p0 λh=>D1 a.2.2 n0/\G19 b (h.add (a.2.2.toNat*2)) λc y=>N3 b 0 0 λd e=>U3 e d 0 c y λB=>JoinP (St:=Option Addr×Nat×Nat) (λf b=>JoinP (λC b=>br C (R (E (A21 none 0 0 false)) b) (JoinP (λD b=>br D (R (E (A21 none 0 0 false)) b) (B0 (0<(↑f.2.1:Int)) (L3 b.drew d 0 λc g=>inR .i64 ((↑f.2.1:Int)-1)/\onP f.1 λh=>(0<=(↑f.2.1:Int)-1/\(↑f.2.1:Int)-1<(↑f.2.1:Int))/\G19 b.drew (h.add (Int.toNat ((↑f.2.1:Int)-1)*2)) λj o=>C2 197 [A4 c g,A4 j o] b.drew λi b=>br (!i) (R (E (A21 none 0 0 false)) b) (N9 b (↑f.2.1:Int) λm e=>∃h r p k,App P #[59,59] 59 e (S a.1.1 a.1.2.1 a.1.2.2) (S (some (.mk m 0 none)) 1 1) (S h r p) k/\L3 k d 0 λc z=>N3 k c z λd e=>∃l s q t,App P #[187,187] 187 e (S f.1 f.2.1 f.2.2) (S (some (.mk d 0 none)) 1 1) (S l s q) t/\inR .i64 (a.2.2+1)/\v ((h,r,p),(l,s,q),a.2.2+1) t)) (N9 b.drew (↑f.2.1:Int) λi e=>∃h r p k,App P #[59,59] 59 e (S a.1.1 a.1.2.1 a.1.2.2) (S (some (.mk i 0 none)) 1 1) (S h r p) k/\L3 k d 0 λc g=>N3 k c g λd e=>∃l s q t,App P #[187,187] 187 e (S f.1 f.2.1 f.2.2) (S (some (.mk d 0 none)) 1 1) (S l s q) t/\inR .i64 (a.2.2+1)/\v ((h,r,p),(l,s,q),a.2.2+1) t))) λ(J:Bool->World->Prop)=>B0 (0<a.2.2) (L4 b.drew d 0 λc=>inR .i64 (a.2.2-1)/\onP p0 λh=>(0<=a.2.2-1/\a.2.2-1<(↑n0:Int))/\G1 b.drew (h.add (Int.toNat (a.2.2-1)*2)) λg=>J (decide (c<=g)) b.drew) (J false b.drew))) λ(J:Bool->World->Prop)=>L4 b d 0 λc=>L4 b d 1 λg=>∀i e,New b (.cells #[I c,I g] 3) i e->C2 196 [S (some (.mk i 0 none)) 2 2] e λm b=>br (!m) (J true b) (L4 b d 0 λc=>L4 b d 1 λj=>J (decide (j<=c)) b)) λJ=>LoopP (St:=Option Addr×Nat×Nat) (λa b v=>B0 (0<(↑a.2.1:Int)) (inR .i64 ((↑a.2.1:Int)-1)/\onP a.1 λh=>(0<=(↑a.2.1:Int)-1/\(↑a.2.1:Int)-1<(↑a.2.1:Int))/\G19 b.drew (h.add (Int.toNat ((↑a.2.1:Int)-1)*2)) λc g=>L3 b.drew d 0 λj o=>C2 195 [A4 c g,A4 j o] b.drew λd b=>br d (inR .i64 ((↑a.2.1:Int)-1)/\inR .i64 ((↑a.2.1:Int)-1)/\(0<=(↑a.2.1:Int)-1/\(↑a.2.1:Int)-1<=(↑a.2.1:Int)-1/\(↑a.2.1:Int)-1<=(↑a.2.2:Int))/\v (a.1,Int.toNat ((↑a.2.1:Int)-1),Int.toNat ((↑a.2.1:Int)-1)) b) (J (a.1,a.2.1,a.2.2) b)) (J (a.1,a.2.1,a.2.2) b.drew)) (a.2.1.1,a.2.1.2.1,a.2.1.2.2) B) (R (E (A21 a.1.1 a.1.2.1 a.1.2.2 true)) b)) ((none,0,0),(none,0,0),0) w):Calls P 134 #[S p0 n0 n1] w R:=cok ⟨[],[(4,[(4,.inr 3),(5,.inr 3),(10,.inl .i64)]),(6,[(5,.inr 3)])],[(8,[(5,.inr 3)]),(9,[(36,.inr 0)]),(11,[(51,.inr 0)])],[]⟩ Tryz.func134 h
def Jcg(h:N16 w i0 i1 i2 i3 i4 i5 s0 p1 n0 n1 λe b=>N11 b 0 0 (.mk #[]) (.mk #[]) none 0 0 λs r=>L4 r e 2 λc=>L7 r e 6 λf=>N11 r 0 0 (.mk #[]) (.mk #[]) none 0 0 λj b=>U8 b j 0 i6 c (.mk #[]) f none 0 0 λk=>JoinP (λf d=>L16 d e 7 λa g h=>LoopP (St:=Bool×Int) (λf d F=>B0 (f.2<g) (onP a λa=>D1 f.2 g/\∃c m,Ld P 260 d (a.add (f.2.toNat*2)) (.agg #[I c,.string m])/\N18 d 0 (.mk #[]) λe b=>U15 b e 0 c m λp=>onP p0 λa=>G20 p.drew a λi=>onP i λa=>G10 p.drew (a.add 2) λi=>L4 p.drew e 0 λc=>C15 198 [Q i,I c] p.drew λn v d=>JoinP (λq d=>L11 d j 4 λa g h=>L7 d e 1 λo=>N13 d n o λe b=>∃t A z B,App P #[69,69] 69 b (S a g h) (S (some (.mk e 0 none)) 1 1) (S t A z) B/\U7 B j 4 t A z λb=>inR .i64 (f.2+1)/\F (q,f.2+1) b) λ(J:Bool->World->Prop)=>br f.1 (J v d) (J false d)) (L11 d j 4 λa g h=>C1 199 [S a g h,Value.func (.func 200) #[] #[]] d λd=>L13 d j 0 λc x m n a g h=>U8 d s 0 c x m n a g h λb=>L13 b s 0 λc y q o a g h=>R (E (.tuple #[(A16 c y q o a g h),.bool f.1])) b)) (f,0) d) λ(J:Bool->World->Prop)=>L4 k e 2 λc=>B0 (c=1) (onP p0 λa=>G20 k.drew a λi=>onP i λa=>G10 k.drew (a.add 2) λi=>L4 k.drew e 3 λc=>C15 198 [Q i,I c] k.drew λf e d=>U14 d j 2 f λb=>J e b) (J true k)):Calls P 135 #[Q p0,A15 i0 i1 i2 i3 i4 i5 s0 p1 n0 n1,I i6] w R:=cok ⟨[],[(6,[(9,.inr 0),(40,.inl .i64)])],[(5,[(9,.inr 0)]),(10,[(9,.inr 0)])],[]⟩ Tryz.func135 h
def Jbe(h:B1 ((↑n2:Int)=n0) (R (E (A8 none 1)) w) (B0 (i0<1) (R (E (A8 none 1)) w) (B0 (2147483647<i0) (R (E (A8 none 1)) w) (C4 37 [] w λf a=>onP f λl=>Z2 a (l.add 2) i0 λg=>∀h q,New g (.map #[] 0) h q->LoopP (St:=Int) (λd a s=>B0 (d<n2) (onP p1 λl=>D1 d n2/\G1 a (l.add (d.toNat*1)) λb=>B0 (b<1) (R (E (A8 none 1)) a) (B0 (i0<=b) (R (E (A8 none 1)) a) (∃c,Lk P 281 false a (.map (some h)) (I b) (I c)/\B0 (0<c) (R (E (A8 none 1)) a) (∃m,Lk P 281 false a (.map (some h)) (I b) (I m)/\inR .i64 (m+1)/\∃g,MUp P 281 a (.map (some h)) (I b) (I (m+1)) g/\inR .i64 (d+1)/\s (d+1) g)))) (B0 ((↑n0:Int)=0) (R (E (A8 f 0)) a) (C10 62 [S p0 n0 n1] a λb c a=>B1 (c=0) (R (E (A8 none c)) a) (C3 63 [Q f,I 0,I 0,S p0 n0 n1,S p1 n2 n3] a λb a=>R (E (A8 f 0)) a)))) 0 q)))):Calls P 136 #[S p0 n0 n1,S p1 n2 n3,I i0] w R:=cok ⟨[],[(7,[(35,.inl .i64)])],[],[]⟩ Tryz.func136 h
def Jat(h:∀h b,New w (.cells #[Value.func (.yield n0) #[] #[]] 104) h b->∃f,(onP p0 λc=>Ld P 49 b.drew c (Q f))/\onP f λc=>G12 b.drew c λx=>∃e,(onP p1 λc=>Ld P 3 b.drew c (I e))/\∃f n,Lk P 117 true b.drew (.map x) (I e) (A10 f n)/\br (!n) (∃y,ShutAll [] b.drew y/\R (E (.tuple #[])) y) (∃g,Ld P 104 b.drew (.mk h 0 none) g/\∃e,(onP p1 λc=>Ld P 3 b.drew c (I e))/\∃v,(onP p2 λc=>Ld P 3 b.drew c (I v))/\CallX P g [I e,I v] b.drew λi a=>∃o,i=E (.bool o)/\br (!o) (∃b,ShutAll [] a b/\R (E (.tuple #[])) b) (onP f λc=>G13 a (c.add 7) λm n0 B=>LoopP (St:=Int×List Nat) (λd a G=>B0 (d.1<n0) (onP m λc=>D1 d.1 n0/\G1 a (c.add (d.1.toNat*1)) λe=>∃f,(onP p0 λc=>Ld P 49 a c (Q f))/\∃l,(onP p2 λc=>Ld P 3 a c (I l))/\inR .i64 (l+1)/\CallV P 69 [Q f,I e,I (l+1)] a λi a=>∃g,i=E g/\∃(k:FuncId),∃(q:Array Value),∃(p:Array Value),g=Value.func (.func k) q p/\HasBody P k/\RangeP P k (Array.toList q) (Array.toList p) (λ(d:Int×Int)=>[I d.1,I d.2]) (λ(d:Int×Int)(a:World)(A:World->(World->Prop)->Prop)(C F:World->Prop)(K:Nat->World->Prop)=>A a λz=>∃g,Ld P 104 z (.mk h 0 none) g/\CallX P g [I d.1,I d.2] z λi a=>∃h,i=E (.bool h)/\br (!h) (F a) (C a)) a (λD a=>inR .i64 (d.1+1)/\G (d.1+1,D::d.2) a) (λD a=>∃b,ShutAll (D::d.2) a b/\R (E (.tuple #[])) b) λ(H D:Nat)(a:World)=>False) (∃b,ShutAll d.2 a b/\R (E (.tuple #[])) b)) (0,[]) a))):Calls P 137 #[.func (.yield n0) #[] #[],Q p0,Q p1,Q p2] w R:=cok ⟨[],[(4,[(34,.inl .i64)])],[],[(9,[(43,.inl .i64),(44,.inl .i64)])]⟩ Tryz.func137 h
def Jee(h:onP p0 λd=>D1 i0 n0/\G16 w (d.add (i0.toNat*5)) λa r h s q g f=>N11 w 0 0 (.mk #[]) (.mk #[]) none 0 0 λe t=>U8 t e 0 a r h s q g f λb=>B0 (i0=0) (L4 b e 0 λa=>B1 (a=0) (R (E (I 69)) b) (L4 b e 1 λa=>B1 (a=1) (R (E (I 69)) b) (B0 (0<i0) (L4 b.drew e 0 λa=>B0 (a<1) (R (E (I 69)) b.drew) (L4 b.drew e 0 λa=>inR .i64 (a-1)/\inR .i64 (i0-1)/\onP p0 λd=>(0<=i0-1/\i0-1<n0)/\G1 b.drew (d.add (Int.toNat (i0-1)*5)) λk=>B0 (k<a-1) (R (E (I 69)) b.drew) (L4 b.drew e 0 λa=>inR .i64 (a-1)/\inR .i64 (i0-1)/\onP p0 λd=>(0<=i0-1/\i0-1<n0)/\G1 b.drew (d.add (Int.toNat (i0-1)*5)) λp=>B0 (a-1=p) (inR .i64 (i0-1)/\onP p0 λd=>(0<=i0-1/\i0-1<n0)/\G1 b.drew (Addr.add (d.add (Int.toNat (i0-1)*5)) 1) λa=>B0 (a=2) (R (E (I 69)) b.drew) (L4 b.drew e 0 λa=>B0 (40<=a) (R (E (I 42)) b.drew) (B0 (1000<=i0) (R (E (I 43)) b.drew) (L13 b.drew e 0 λa l h i d g f=>C3 202 [A16 a l h i d g f] b.drew λa m=>R (E (I a)) m)))) (L4 b.drew e 0 λa=>B0 (40<=a) (R (E (I 42)) b.drew) (B0 (1000<=i0) (R (E (I 43)) b.drew) (L13 b.drew e 0 λa l h i d g f=>C3 202 [A16 a l h i d g f] b.drew λa m=>R (E (I a)) m)))))) (L4 b.drew e 0 λa=>B0 (40<=a) (R (E (I 42)) b.drew) (B0 (1000<=i0) (R (E (I 43)) b.drew) (L13 b.drew e 0 λa k h i d g f=>C3 202 [A16 a k h i d g f] b.drew λa m=>R (E (I a)) m)))))) (B0 (0<i0) (L4 b.drew e 0 λa=>B0 (a<1) (R (E (I 69)) b.drew) (L4 b.drew e 0 λa=>inR .i64 (a-1)/\inR .i64 (i0-1)/\onP p0 λd=>(0<=i0-1/\i0-1<n0)/\G1 b.drew (d.add (Int.toNat (i0-1)*5)) λk=>B0 (k<a-1) (R (E (I 69)) b.drew) (L4 b.drew e 0 λa=>inR .i64 (a-1)/\inR .i64 (i0-1)/\onP p0 λd=>(0<=i0-1/\i0-1<n0)/\G1 b.drew (d.add (Int.toNat (i0-1)*5)) λp=>B0 (a-1=p) (inR .i64 (i0-1)/\onP p0 λd=>(0<=i0-1/\i0-1<n0)/\G1 b.drew (Addr.add (d.add (Int.toNat (i0-1)*5)) 1) λa=>B0 (a=2) (R (E (I 69)) b.drew) (L4 b.drew e 0 λa=>B0 (40<=a) (R (E (I 42)) b.drew) (B0 (1000<=i0) (R (E (I 43)) b.drew) (L13 b.drew e 0 λa l h i d g f=>C3 202 [A16 a l h i d g f] b.drew λa m=>R (E (I a)) m)))) (L4 b.drew e 0 λa=>B0 (40<=a) (R (E (I 42)) b.drew) (B0 (1000<=i0) (R (E (I 43)) b.drew) (L13 b.drew e 0 λa l h i d g f=>C3 202 [A16 a l h i d g f] b.drew λa m=>R (E (I a)) m)))))) (L4 b.drew e 0 λa=>B0 (40<=a) (R (E (I 42)) b.drew) (B0 (1000<=i0) (R (E (I 43)) b.drew) (L13 b.drew e 0 λa k h i d g f=>C3 202 [A16 a k h i d g f] b.drew λa m=>R (E (I a)) m))))):Calls P 138 #[S p0 n0 n1,I i0] w R:=cok {} Tryz.func138 h
def Jdr(h:N1 w p0 n0 n1 i0 λg e=>N1 e none 0 0 0 λh p=>C10 71 [S p1 n2 n3] p λa m f=>B1 (m=0) (L1 f g 0 λb d c a=>U1 f h 0 b d c a λe=>L1 e h 0 λb d c a=>R (E (A11 b d c a 0 m)) e) (L4 f g 1 λa=>inR .i64 (a+n2)/\B0 (2147483647<a+n2) (L1 f g 0 λb d c a=>U1 f h 0 b d c a λe=>L1 e h 0 λb d c a=>R (E (A11 b d c a 0 66)) e) (L1 f.drew g 0 λb d c a=>L4 f.drew g 1 λj=>inR .i64 (j+n2)/\L4 f.drew g 1 λk=>C7 203 [A2 b d c a,S p1 n2 n3,I 0] f.drew λb d c f=>Ld P 3 f (.mk g 1 none) (I k)/\Ld P 3 f (.mk g 1 none) (I j)/\U1 f h 0 b d c (j+n2) λe=>Ld P 3 e (.mk g 1 none) (I k)/\L1 e h 0 λb d c a=>R (E (A11 b d c a k 0)) e))):Calls P 139 #[A2 p0 n0 n1 i0,S p1 n2 n3] w R:=cok {} Tryz.func139 h
def Jdm(h:N1 w p0 n0 n1 i0 λg f=>N1 f none 0 0 0 λn L=>L1 L g 0 λa b c d=>C3 82 [A2 a b c d,I i1] L λd e=>B0 (d<0) (L1 e g 0 λa b c d=>U1 e n 0 a b c d λf=>L1 f n 0 λa b c d=>R (E (A11 a b c d 0 60)) f) (L8 e g 0 λa b c=>onP a λa=>D1 d b/\G1 e (Addr.add (Addr.add (a.add (d.toNat*6)) 1) 1) λM=>B1 (M=1) (L1 e g 0 λa b c d=>U1 e n 0 a b c d λf=>L1 f n 0 λa b c d=>R (E (A11 a b c d 0 68)) f) (JoinP (λF e=>br F (L1 e g 0 λa b c d=>U1 e n 0 a b c d λf=>L1 f n 0 λa b c d=>R (E (A11 a b c d 0 69)) f) (C3 205 [S p1 n2 n3] e λB e=>B1 (B=0) (L1 e g 0 λa b c d=>U1 e n 0 a b c d λf=>L1 f n 0 λa b c d=>R (E (A11 a b c d 0 B)) f) (L8 e g 0 λa b c=>onP a λa=>D1 d b/\G1 e (Addr.add (a.add (d.toNat*6)) 1) λy=>inR .i64 (y+1)/\C3 206 [S p1 n2 n3] e λK e=>inR .i64 (y+1+K)/\B0 (40<=y+1+K) (L1 e g 0 λa b c d=>U1 e n 0 a b c d λf=>L1 f n 0 λa b c d=>R (E (A11 a b c d 0 65)) f) (JoinP (λF e=>br F (L1 e g 0 λa b c d=>U1 e n 0 a b c d λf=>L1 f n 0 λa b c d=>R (E (A11 a b c d 0 66)) f) (JoinP (λF e=>L4 e g 1 λd=>inR .i64 (d+(↑n2:Int))/\onP F λa=>Z2 e (a.add 1) (d+(↑n2:Int)) λf=>∃a b c d,(onP F λo=>Ld P 29 f.drew o (A2 a b c d))/\L4 f.drew g 1 λi=>U1 f.drew n 0 a b c d λz=>Ld P 3 z (.mk g 1 none) (I i)/\L1 z n 0 λa b c d=>R (E (A11 a b c d i 0)) z) λ(J:Option Addr->World->Prop)=>(L1 e.drew g 0 λa b c i=>L1 e.drew g 0 λo r p q=>L1 e.drew g 0 λj m k l=>C3 208 [A2 o r p q,I d,I i2] e.drew λd e=>Ld P 29 e (.mk g 0 none) (A2 j m k l)/\Ld P 29 e (.mk g 0 none) (A2 a b c i)/\C7 203 [A2 j m k l,S p1 n2 n3,I (y+1)] e λG x v e=>Ld P 29 e (.mk g 0 none) (A2 a b c i)/\C5 207 [A2 a b c i,I d,S G x v] e λa b c d e=>N1 e none 0 0 0 λg f=>U1 f g 0 a b c d λz=>J (some (.mk g 0 none)) z)/\(L1 e.drew g 0 λa b c i=>L1 e.drew g 0 λo r p q=>L1 e.drew g 0 λj m k l=>C3 208 [A2 o r p q,I d,I i2] e.drew λd e=>Ld P 29 e (.mk g 0 none) (A2 j m k l)/\Ld P 29 e (.mk g 0 none) (A2 a b c i)/\C7 203 [A2 j m k l,S p1 n2 n3,I (y+1)] e λG x v e=>Ld P 29 e (.mk g 0 none) (A2 a b c i)/\N1 e none 0 0 0 λt f=>Ld P 29 f (.mk g 0 none) (A2 a b c i)/\C5 207 [A2 a b c i,I d,S G x v] f λa b c d e=>U1 e t 0 a b c d λf=>J (some (.mk t 0 none)) f)/\(L1 e.drew g 0 λa b c i=>L1 e.drew g 0 λo r p q=>L1 e.drew g 0 λj m k l=>C3 208 [A2 o r p q,I d,I i2] e.drew λd e=>Ld P 29 e (.mk g 0 none) (A2 j m k l)/\Ld P 29 e (.mk g 0 none) (A2 a b c i)/\N1 e none 0 0 0 λt f=>Ld P 29 f (.mk g 0 none) (A2 j m k l)/\Ld P 29 f (.mk g 0 none) (A2 a b c i)/\C7 203 [A2 j m k l,S p1 n2 n3,I (y+1)] f λH x v e=>Ld P 29 e (.mk g 0 none) (A2 a b c i)/\C5 207 [A2 a b c i,I d,S H x v] e λa b c d e=>U1 e t 0 a b c d λf=>J (some (.mk t 0 none)) f)/\L1 e.drew g 0 λa b c i=>L1 e.drew g 0 λo r p q=>L1 e.drew g 0 λj m k l=>N1 e.drew none 0 0 0 λt f=>Ld P 29 f (.mk g 0 none) (A2 j m k l)/\Ld P 29 f (.mk g 0 none) (A2 o r p q)/\Ld P 29 f (.mk g 0 none) (A2 a b c i)/\C3 208 [A2 o r p q,I d,I i2] f λd e=>Ld P 29 e (.mk g 0 none) (A2 j m k l)/\Ld P 29 e (.mk g 0 none) (A2 a b c i)/\C7 203 [A2 j m k l,S p1 n2 n3,I (y+1)] e λH x v e=>Ld P 29 e (.mk g 0 none) (A2 a b c i)/\C5 207 [A2 a b c i,I d,S H x v] e λa b c d e=>U1 e t 0 a b c d λf=>J (some (.mk t 0 none)) f)) λ(J:Bool->World->Prop)=>L8 e g 0 λa b c=>inR .i64 ((↑b:Int)+(↑n2:Int))/\B0 (1000<(↑b:Int)+(↑n2:Int)) (J true e) (L4 e g 1 λd=>inR .i64 (d+(↑n2:Int))/\J (decide (2147483647<d+(↑n2:Int))) e))))) λ(J:Bool->World->Prop)=>B0 (i2<0) (J true e) (L1 e g 0 λa b c B=>C7 204 [A2 a b c B,I d] e λa b c e=>J (decide ((↑b:Int)<i2)) e)))):Calls P 140 #[A2 p0 n0 n1 i0,I i1,I i2,S p1 n2 n3] w R:=cok ⟨[],[],[(7,[(39,.inr 0)]),(15,[(75,.inr 0)]),(17,[(14,.inr 2)])],[]⟩ Tryz.func140 h
def Jdh(h:N1 w p0 n0 n1 i0 λh e=>N1 e none 0 0 0 λg j=>L1 j h 0 λb d c a=>C3 82 [A2 b d c a,I i1] j λa f=>B0 (a<0) (L1 f h 0 λb d c a=>U1 f g 0 b d c a λe=>L1 e g 0 λb d c a=>R (E (A22 b d c a 60)) e) (B0 (a=0) (L1 f h 0 λb d c a=>U1 f g 0 b d c a λe=>L1 e g 0 λb d c a=>R (E (A22 b d c a 62)) e) (L1 f h 0 λb d c k=>C5 209 [A2 b d c k,I a] f λb d c a f=>U1 f g 0 b d c a λe=>L1 e g 0 λb d c a=>R (E (A22 b d c a 0)) e))):Calls P 141 #[A2 p0 n0 n1 i0,I i1] w R:=cok {} Tryz.func141 h
def Jds(h:N1 w p0 n0 n1 i0 λg f=>N1 f none 0 0 0 λi B=>L1 B g 0 λb c d a=>C3 82 [A2 b c d a,I i1] B λa e=>L1 e g 0 λb c d Z=>C3 82 [A2 b c d Z,I i2] e λk e=>JoinP (λj e=>br j (L1 e g 0 λb c d a=>U1 e i 0 b c d a λf=>L1 f i 0 λb c d a=>R (E (A22 b c d a 60)) f) (B0 (a=0) (L1 e g 0 λb c d a=>U1 e i 0 b c d a λf=>L1 f i 0 λb c d a=>R (E (A22 b c d a 62)) f) (L8 e g 0 λb c d=>onP b λb=>D1 k c/\G1 e (Addr.add (Addr.add (b.add (k.toNat*6)) 1) 1) λab=>B1 (ab=1) (L1 e g 0 λb c d a=>U1 e i 0 b c d a λf=>L1 f i 0 λb c d a=>R (E (A22 b c d a 68)) f) (JoinP (λj e=>br j (L1 e g 0 λb c d a=>U1 e i 0 b c d a λf=>L1 f i 0 λb c d a=>R (E (A22 b c d a 61)) f) (L8 e.drew g 0 λb c d=>L1 e.drew g 0 λD ad N n=>L8 e.drew g 0 λs y O=>onP s λG=>D1 a y/\G1 e.drew (Addr.add (G.add (a.toNat*6)) 1) λo=>L8 e.drew g 0 λt z T=>onP t λH=>D1 k z/\G1 e.drew (Addr.add (H.add (k.toNat*6)) 1) λp=>inR .i64 (o-p)/\inR .i64 (o-p-1)/\C3 84 [A2 D ad N n,I a] e.drew λq e=>Ld P 3 e (Addr.add (H.add (k.toNat*6)) 1) (I p)/\Ld P 27 e (.mk g 0 none) (S t z T)/\Ld P 3 e (Addr.add (G.add (a.toNat*6)) 1) (I o)/\Ld P 27 e (.mk g 0 none) (S s y O)/\Ld P 27 e (.mk g 0 none) (S b c d)/\(0<=a/\a<=q/\q<=d)/\C7 83 [S (slA b d (a.toNat) 6) (q.toNat-a.toNat) (d-a.toNat),I (o-p-1)] e λb c d e=>L1 e g 0 λK ae V ac=>C5 209 [A2 K ae V ac,I a] e λL af W a e=>N1 e none 0 0 0 λl f=>U1 f l 0 L af W a λC=>L1 C l 0 λM ag X a=>C3 82 [A2 M ag X a,I i2] C λa e=>JoinP (λj e=>br j (L1 e g 0 λb c d a=>U1 e i 0 b c d a λf=>L1 f i 0 λb c d a=>R (E (A22 b c d a 69)) f) (LoopP (St:=Int) (λj e ak=>B0 (j<c) (onP b λb=>D1 j c/\G1 e (Addr.add (b.add (j.toNat*6)) 1) λa=>B0 (40<=a) (L1 e g 0 λb c d a=>U1 e i 0 b c d a λf=>L1 f i 0 λb c d a=>R (E (A22 b c d a 65)) f) (inR .i64 (j+1)/\ak (j+1) e)) (L1 e.drew l 0 λr A x m=>L1 e.drew l 0 λF ah Y aa=>C3 208 [A2 F ah Y aa,I a,I i3] e.drew λa e=>Ld P 29 e (.mk l 0 none) (A2 r A x m)/\C5 207 [A2 r A x m,I a,S b c d] e λb c d a e=>U1 e i 0 b c d a λf=>L1 f i 0 λb c d a=>R (E (A22 b c d a 0)) f)) 0 e)) λ(J:Bool->World->Prop)=>B0 (i3<0) (J true e) (L1 e l 0 λb c d m=>C7 204 [A2 b c d m,I a] e λb c d e=>J (decide ((↑c:Int)<i3)) e))) λ(J:Bool->World->Prop)=>B0 (a<=k) (L1 e g 0 λb c d n=>C3 84 [A2 b c d n,I a] e λa e=>J (decide (k<a)) e) (J false e))))) λ(J:Bool->World->Prop)=>B0 (a<0) (J true e) (J (decide (k<0)) e)):Calls P 142 #[A2 p0 n0 n1 i0,I i1,I i2,I i3] w R:=cok ⟨[],[(17,[(14,.inl .i64)])],[(4,[(26,.inr 0)]),(10,[(49,.inr 0)]),(15,[(90,.inr 0)])],[]⟩ Tryz.func142 h
def Jd0(h:N1 w p0 n0 n1 i0 λi e=>N13 e s0 s1 λm G=>N1 G none 0 0 0 λh e=>L1 e i 0 λb a c d=>C3 82 [A2 b a c d,I i1] e λd f=>B0 (d<0) (L1 f i 0 λb a c d=>U1 f h 0 b a c d λe=>L1 e h 0 λb a c d=>R (E (A22 b a c d 60)) e) (L8 f i 0 λb a c=>onP b λb=>D1 d a/\G16 f (Addr.add (b.add (d.toNat*6)) 1) λt v g C p a c=>N11 f 0 0 (.mk #[]) (.mk #[]) none 0 0 λk e=>U8 e k 0 t v g C p a c λl=>L4 l k 1 λx=>B1 (x=1) (L1 l i 0 λb a c d=>U1 l h 0 b a c d λe=>L1 e h 0 λb a c d=>R (E (A22 b a c d 68)) e) (L7 l m 0 λg=>C2 210 [.string g] l λr f=>br (!r) (L1 f i 0 λb a c d=>U1 f h 0 b a c d λe=>L1 e h 0 λb a c d=>R (E (A22 b a c d 63)) e) (L7 f m 1 λg=>C3 211 [.string g] f λn f=>B1 (n=0) (L1 f i 0 λb a c d=>U1 f h 0 b a c d λe=>L1 e h 0 λb a c d=>R (E (A22 b a c d n)) e) (L11 f k 4 λb a c=>∃g D,Ld P 142 f (.mk m 0 none) (A19 g D)/\C7 212 [S b a c,A19 g D] f λb a c f=>U7 f k 4 b a c λe=>L11 e k 4 λb a c=>B0 (20<(↑a:Int)) (L1 e i 0 λb a c d=>U1 e h 0 b a c d λo=>L1 o h 0 λb a c d=>R (E (A22 b a c d 67)) o) (L1 e i 0 λb a c y=>L13 e k 0 λz A g F q B s=>C5 213 [A2 b a c y,I d,A16 z A g F q B s] e λb a c d f=>U1 f h 0 b a c d λe=>L1 e h 0 λb a c d=>R (E (A22 b a c d 0)) e)))))):Calls P 143 #[A2 p0 n0 n1 i0,I i1,A19 s0 s1] w R:=cok {} Tryz.func143 h
def Jdg(h:N1 w p0 n0 n1 i0 λh e=>N1 e none 0 0 0 λg m=>L1 m h 0 λb a c d=>C3 82 [A2 b a c d,I i1] m λd f=>B0 (d<0) (L1 f h 0 λb a c d=>U1 f g 0 b a c d λe=>L1 e g 0 λb a c d=>R (E (A22 b a c d 60)) e) (L8 f h 0 λb a c=>onP b λb=>D1 d a/\G16 f (Addr.add (b.add (d.toNat*6)) 1) λq r l A n a c=>N11 f 0 0 (.mk #[]) (.mk #[]) none 0 0 λi e=>U8 e i 0 q r l A n a c λj=>L4 j i 1 λs=>B1 (s=1) (L1 j h 0 λb a c d=>U1 j g 0 b a c d λe=>L1 e g 0 λb a c d=>R (E (A22 b a c d 68)) e) (L11 j i 4 λb a c=>C7 214 [S b a c,.string s0] j λb a c f=>L11 f i 4 λC y D=>B0 ((↑a:Int)=y) (L1 f h 0 λb a c d=>U1 f g 0 b a c d λe=>L1 e g 0 λb a c d=>R (E (A22 b a c d 63)) e) (U7 f i 4 b a c λe=>L1 e h 0 λb a c t=>L13 e i 0 λv x l B o z p=>C5 213 [A2 b a c t,I d,A16 v x l B o z p] e λb a c d f=>U1 f g 0 b a c d λe=>L1 e g 0 λb a c d=>R (E (A22 b a c d 0)) e)))):Calls P 144 #[A2 p0 n0 n1 i0,I i1,.string s0] w R:=cok {} Tryz.func144 h
end
section
variable{w:World}{R:Ending->World->Prop}{p0 p1 p2:Option Addr}{n0 n1 n2 n3:Nat}{i0 i1 i2 i3 i4 i5 i6 i7 i8 i9 i10 i11:Int}{s0 s1 s2 s3:ByteArray}{b0 b1:Bool}{m0:Option Nat}{v0:Value}
def Jd1(h:N1 w p0 n0 n1 i0 λh e=>N1 e none 0 0 0 λg n=>L1 n h 0 λb a c d=>C3 82 [A2 b a c d,I i1] n λd f=>B0 (d<0) (L1 f h 0 λb a c d=>U1 f g 0 b a c d λe=>L1 e g 0 λb a c d=>R (E (A22 b a c d 60)) e) (L8 f h 0 λb a c=>onP b λb=>D1 d a/\G16 f (Addr.add (b.add (d.toNat*6)) 1) λr s A B o a c=>N11 f 0 0 (.mk #[]) (.mk #[]) none 0 0 λi e=>U8 e i 0 r s A B o a c λl=>L4 l i 1 λt=>B1 (t=2) (L1 l h 0 λb a c d=>U1 l g 0 b a c d λe=>L1 e g 0 λb a c d=>R (E (A22 b a c d 68)) e) (C3 211 [.string s0] l λm f=>B1 (m=0) (L1 f h 0 λb a c d=>U1 f g 0 b a c d λe=>L1 e g 0 λb a c d=>R (E (A22 b a c d m)) e) (U14 f i 3 s0 λe=>L1 e h 0 λb a c v=>L13 e i 0 λx y s0 C p z q=>C5 213 [A2 b a c v,I d,A16 x y s0 C p z q] e λb a c d f=>U1 f g 0 b a c d λe=>L1 e g 0 λb a c d=>R (E (A22 b a c d 0)) e)))):Calls P 145 #[A2 p0 n0 n1 i0,I i1,.string s0] w R:=cok {} Tryz.func145 h
def Je6(h:onP p0 λb=>((0:Int)<=i0/\i0<(↑(4096:Nat):Int))/\G25 w.drew (b.add (i0.toNat*1)) λc=>(0:Int)<=(8:Int)/\inR .i64 (IntKind.wrap .i64 c*(2:Int)^min (Int.toNat (8:Int)) (IntKind.bits .i64))/\inR .i64 (i0+(1:Int))/\onP p0 λb=>((0:Int)<=i0+(1:Int)/\i0+(1:Int)<(↑(4096:Nat):Int))/\G25 w.drew (b.add (Int.toNat (i0+(1:Int))*1)) λd=>R (E (I (Vc.bits .or .i64 (IntKind.wrap .i64 c*(2:Int)^min (Int.toNat (8:Int)) (IntKind.bits .i64)) (IntKind.wrap .i64 d)))) w.drew):Calls P 146 #[Q p0,I i0] w R:=cok {} Tryz.func146 h
def Jay(h:onP p0 λa=>G12 w a λe=>∃b c,Lk P 117 true w (.map e) (I i0) (A10 b c)/\br (!c) (R (E (A8 none 60)) w) (onP b λa=>G1 w (a.add 2) λd=>B1 (d=1) (R (E (A8 none 68)) w) (R (E (A8 b 0)) w))):Calls P 147 #[Q p0,I i0] w R:=cok {} Tryz.func147 h
def Ja1(h:B0 ((↑n0:Int)=0) (R (E (A7 0 40)) w) (LoopP (St:=Int×Int) (λb c v=>B0 (b.2<n0) (onP p0 λd=>D1 b.2 n0/\G16 c (d.add (b.2.toNat*5)) λa t x y s i g=>N11 c 0 0 (.mk #[]) (.mk #[]) none 0 0 λe f=>U8 f e 0 a t x y s i g λo=>JoinP (St:=Int×Bool) (λr c=>L4 c e 0 λa=>B0 (a<0) (R (E (A7 0 69)) c) (L4 c e 0 λa=>B0 (r.1<a) (R (E (A7 0 69)) c) (br r.2 (L4 c e 0 λa=>B0 (a=r.1) (R (E (A7 0 69)) c) (U6 c e 0 1 λf=>L13 f e 0 λa h m n d i g=>∀e p,New f (.cells #[I 0,I 1,.string (ByteArray.mk #[(120:UInt8)]),.string (.mk #[]),S none 0 0,I a,I h,.string m,.string n,S d i g] 123) e p->C10 62 [S (some (.mk e 0 none)) 2 2] p λa j c=>B1 (j=0) (R (E (A7 0 j)) c) (onP p0 λd=>D1 b.2 n0/\G1 c (d.add (b.2.toNat*5)) λa=>inR .i64 (b.2+1)/\v (max b.1 a,b.2+1) c))) (U6 c e 0 1 λf=>L13 f e 0 λa h m n d i g=>∀e p,New f (.cells #[I 0,I 1,.string (ByteArray.mk #[(120:UInt8)]),.string (.mk #[]),S none 0 0,I a,I h,.string m,.string n,S d i g] 123) e p->C10 62 [S (some (.mk e 0 none)) 2 2] p λa j c=>B1 (j=0) (R (E (A7 0 j)) c) (onP p0 λd=>D1 b.2 n0/\G1 c (d.add (b.2.toNat*5)) λa=>inR .i64 (b.2+1)/\v (max b.1 a,b.2+1) c))))) λJ=>B0 (0<b.2) (inR .i64 (b.2-1)/\onP p0 λd=>(0<=b.2-1/\b.2-1<n0)/\G1 o.drew (d.add (Int.toNat (b.2-1)*5)) λa=>inR .i64 (a+1)/\inR .i64 (b.2-1)/\onP p0 λd=>(0<=b.2-1/\b.2-1<n0)/\G1 o.drew (Addr.add (d.add (Int.toNat (b.2-1)*5)) 1) λh=>J (a+1,decide (h=2)) o.drew) (J (0,false) o)) (R (E (A7 b.1 0)) c)) (0,0) w)):Calls P 148 #[S p0 n0 n1] w R:=cok ⟨[],[(5,[(4,.inl .i64),(16,.inl .i64)])],[(10,[(7,.inl .i64),(8,.inr 0)])],[]⟩ Tryz.func148 h
def Ja8(h:LoopP (St:=Int×Int) (λf a i=>onP p0 λb=>G12 a b λd=>∃e,Lk P 117 false a (.map d) (I f.1) (Q e)/\onP e λb=>G1 a (b.add 1) λc=>B1 (c=0) (onP p0 λb=>G12 a b λd=>∃e,Lk P 117 false a (.map d) (I f.1) (Q e)/\onP e λb=>G1 a (b.add 1) λc=>inR .i64 (f.2+1)/\i (c,f.2+1) a) (R (E (I f.2)) a)) (i0,0) w):Calls P 149 #[Q p0,I i0] w R:=cok ⟨[],[(2,[(1,.inl .i64),(5,.inl .i64)])],[],[]⟩ Tryz.func149 h
def Jav(h:onP p0 λa=>G12 w.drew a λk=>onP p0 λa=>G12 w.drew a λl=>∃e,Lk P 117 false w.drew (.map l) (I i0) (Q e)/\onP e λa=>G1 w.drew (a.add 1) λd=>∃e,Lk P 117 false w.drew (.map k) (I d) (Q e)/\onP e λa=>G13 w.drew (a.add 7) λh c b=>C3 215 [S h c b,I i0] w.drew λd f=>onP e λa=>G13 f (a.add 7) λi c b=>inR .i64 (d+1)/\C7 216 [S i c b,I d,I (d+1)] f λa c b f=>onP e λo=>Z3 f (o.add 7) a c b λn=>R (E (.tuple #[])) n):Calls P 150 #[Q p0,I i0] w R:=cok {} Tryz.func150 h
def Jbi(h:C3 217 [.string s0] w λb a=>B0 (b<0) (R (E (I 64)) a) (B0 (1500<(↑(s0.size):Int)) (R (E (I 67)) a) (R (E (I 0)) a))):Calls P 151 #[.string s0] w R:=cok {} Tryz.func151 h
def Jaz(h:onP p0 λf=>G14 w (f.add 6) λa e c=>C17 218 [S a e c,.string s0,Value.func (.func 219) #[] #[]] w λd b j=>R (E (A1 d b)) j):Calls P 152 #[Q p0,.string s0] w R:=cok {} Tryz.func152 h
def Je9(h:N15 w (.mk #[]) 0 λd e=>B0 (i0<1) (U13 e d 0 (.mk #[]) 0 λc=>∃b a,Ld P 167 c (.mk d 0 none) (.agg #[.string b,I a])/\R (E (.agg #[.string b,I a])) c) (onP p0 λg=>G17 e g λl h i=>B0 ((↑h:Int)<i0) (U13 e d 0 (.mk #[]) 0 λc=>∃b a,Ld P 167 c (.mk d 0 none) (.agg #[.string b,I a])/\R (E (.agg #[.string b,I a])) c) (onP p0 λg=>G17 e g λj h i=>inR .i64 (i0-1)/\onP j λg=>(0<=i0-1/\i0-1<h)/\∃b a,Ld P 167 e (g.add (Int.toNat (i0-1)*2)) (.agg #[.string b,I a])/\U13 e d 0 b a λc=>∃b a,Ld P 167 c (.mk d 0 none) (.agg #[.string b,I a])/\R (E (.agg #[.string b,I a])) c))):Calls P 157 #[Q p0,I i0] w R:=cok {} Tryz.func157 h
def Jfd(h:LoopP (St:=Int) (λa b j=>onP p0 λc=>G17 b c λi d e=>B0 (a<=d) (onP p0 λc=>G17 b c λf d e=>inR .i64 (a-1)/\onP f λc=>(0<=a-1/\a-1<d)/\G1 b (Addr.add (c.add (Int.toNat (a-1)*2)) 1) λh=>B0 (h=0) (R (E (I a)) b) (inR .i64 (a+1)/\j (a+1) b)) (R (E (I a)) b)) 1 w):Calls P 158 #[Q p0] w R:=cok ⟨[],[(2,[(3,.inl .i64)])],[],[]⟩ Tryz.func158 h
def Jb5(h:N17 w i0 b0 λd a=>L4 a d 0 λb=>∃g h e,Lk P 80 true a (.map m0) (I b) (A9 g h e)/\N3 a 0 0 λc i=>U3 i c 0 g h λa=>br (!e) (R (E (I (-1:Int))) a) (L5 a d 1 λf=>br f (L4 a c 1 λb=>R (E (I b)) a) (L4 a c 0 λb=>R (E (I b)) a))):Calls P 161 #[.map m0,A20 i0 b0] w R:=cok {} Tryz.func161 h
def Jeu(h:JoinP (λa b=>br a (R (E (A21 none 0 0 false)) b) (LoopP (St:=(Option Addr×Nat×Nat)×Int) (λa b m=>B0 (a.2<=i2) (inR .i64 (i1-i0)/\inR .i64 (i2+1)/\C3 224 [I i0,I (i1-i0),I a.2,I (i2+1)] b λj b=>N9 b j λd g=>∃i i2 k l,App P #[59,59] 59 g (S a.1.1 a.1.2.1 a.1.2.2) (S (some (.mk d 0 none)) 1 1) (S i i2 k) l/\inR .i64 (a.2+1)/\m ((i,i2,k),a.2+1) l) (R (E (A21 a.1.1 a.1.2.1 a.1.2.2 true)) b)) ((none,0,0),1) b)) λ(J:Bool->World->Prop)=>∀d g,New w (.cells #[I i0,I i1] 3) d g->C2 196 [S (some (.mk d 0 none)) 2 2] g λd b=>br (!d) (J true b) (B0 (i2<0) (J true b) (B0 (4096<i2) (J true b) (inR .i64 (i1-i0)/\J (decide (i1-i0<=i2)) b)))):Calls P 162 #[I i0,I i1,I i2] w R:=cok ⟨[],[(5,[(8,.inr 3),(9,.inl .i64)])],[(2,[(29,.inr 0)])],[]⟩ Tryz.func162 h
def Jcj(h:N17 w i0 b0 λe a=>L4 a e 0 λc=>∃j k,Lk P 80 false a (.map m0) (I c) (A4 j k)/\N3 a 0 0 λd m=>U3 m d 0 j k λa=>L5 a e 1 λi=>br i (U6 a d 1 i1 λb=>L4 b e 0 λc=>L3 b d 0 λf g=>∃a,MUp P 80 b (.map m0) (I c) (A4 f g) a/\R (E (.tuple #[])) a) (U6 a d 0 i1 λb=>L4 b e 0 λc=>L3 b d 0 λf g=>∃a,MUp P 80 b (.map m0) (I c) (A4 f g) a/\R (E (.tuple #[])) a)):Calls P 163 #[.map m0,A20 i0 b0,I i1] w R:=cok {} Tryz.func163 h
def Jb8(h:LoopP (St:=PUnit) (λD e C=>∃a b c,(onP p0 λf=>Ld P 185 e f (S a b c))/\B0 (i0<(↑b:Int)) (∃a b c,(onP p1 λf=>Ld P 185 e.drew f (S a b c))/\∃f o y,(onP p0 λa=>Ld P 185 e.drew a (S f o y))/\∃t h z,(onP p0 λa=>Ld P 185 e.drew a (S t h z))/\inR .i64 ((↑h:Int)-1)/\onP f λv=>(0<=(↑h:Int)-1/\(↑h:Int)-1<(↑o:Int))/\G24 e.drew (v.add (Int.toNat ((↑h:Int)-1)*2)) λn l=>N17 e.drew n l λm d=>(onP p1 λi=>Ld P 185 d i (S a b c))/\∃i q p r,App P #[185,185] 185 d (S a b c) (S (some (.mk m 0 none)) 1 1) (S i q p) r/\onP p1 λa=>∃d,St P 185 r a (S i q p) d/\∃a b c,(onP p0 λj=>Ld P 185 d j (S a b c))/\∃j b A,(onP p0 λa=>Ld P 185 d a (S j b A))/\inR .i64 ((↑b:Int)-1)/\(0<=(↑b:Int)-1/\(↑b:Int)-1<=(↑c:Int))/\onP p0 λx=>∃s,St P 185 d x (S a (Int.toNat ((↑b:Int)-1)) c) s/\C () s) (R (E (.tuple #[])) e)) () w):Calls P 164 #[I i0,Q p0,Q p1] w R:=cok ⟨[],[(0,[])],[],[]⟩ Tryz.func164 h
def Jey(h:LoopP (St:=PUnit) (λA k z=>∃a b c,(onP p0 λg=>Ld P 59 k g (S a b c))/\B0 (i0<(↑b:Int)) (∃e,(onP p1 λa=>Ld P 3 k a (I e))/\inR .i64 (e+1099511627776)/\onP p1 λa=>Z2 k a (e+1099511627776) λd=>∃a b c,(onP p2 λg=>Ld P 187 d.drew g (S a b c))/\∃g o c,(onP p0 λa=>Ld P 59 d.drew a (S g o c))/\∃p h c,(onP p0 λa=>Ld P 59 d.drew a (S p h c))/\inR .i64 ((↑h:Int)-1)/\onP g λq=>(0<=(↑h:Int)-1/\(↑h:Int)-1<(↑o:Int))/\G1 d.drew (q.add (Int.toNat ((↑h:Int)-1)*1)) λe=>∃n,(onP p1 λa=>Ld P 3 d.drew a (I n))/\onP a λa=>D1 e b/\Z2 d.drew (Addr.add (a.add (e.toNat*2)) 1) n λj=>∃a b c,(onP p0 λl=>Ld P 59 j l (S a b c))/\∃l b t,(onP p0 λa=>Ld P 59 j a (S l b t))/\inR .i64 ((↑b:Int)-1)/\∃r i v,(onP p0 λa=>Ld P 59 j a (S r i v))/\inR .i64 ((↑i:Int)-1)/\(0<=(↑b:Int)-1/\(↑b:Int)-1<=(↑i:Int)-1/\(↑i:Int)-1<=(↑c:Int))/\onP p0 λs=>Z3 j s a (Int.toNat ((↑b:Int)-1)) (Int.toNat ((↑i:Int)-1)) λd=>z () d) (R (E (.tuple #[])) k)) () w):Calls P 165 #[I i0,Q p0,Q p1,Q p2] w R:=cok ⟨[],[(0,[])],[],[]⟩ Tryz.func165 h
def Jac(h:C10 86 [Q p0,I i0] w λc f a=>B0 (c=0) (R (E (I 110)) a) (C1 170 [Q p0,I i0] a λa=>R (E (I 0)) a)):Calls P 167 #[Q p0,I i0] w R:=cok {} Tryz.func167 h
def Jeb(h:N8 w p0 λf a=>N9 a 0 λe l=>U6 l e 0 3600 λa=>L17 a f 0 λp0=>∃(g:FuncId),∃(k:Array Value),∃(j:Array Value),Value.func (.func 85) #[Q p0] #[]=Value.func (.func g) k j/\HasBody P g/\RangeP P g (Array.toList k) (Array.toList j) (λi=>[I i]) (λ(i:Int)(b:World)(n:World->(World->Prop)->Prop)(p r:World->Prop)(s:Nat->World->Prop)=>n b λm=>L17 m f 0 λp0=>C10 86 [Q p0,I i] m λc h b=>L4 b e 0 λc=>inR .i64 (c-h)/\U6 b e 0 (c-h) λa=>p a) a (λD b=>L4 b e 0 λc=>∃a,ShutD b D a/\R (E (I c)) a) (λD b=>False) λ(q D:Nat)(b:World)=>False):Calls P 169 #[Q p0] w R:=cok ⟨[],[],[],[(4,[(9,.inl .i64)])]⟩ Tryz.func169 h
def Jae(h:N8 w p0 λe d=>L17 d e 0 λp0=>C10 86 [Q p0,I i0] d λb A c=>N9 c 0 λn d=>N9 d 0 λk G=>U6 G n 0 b λd=>U6 d k 0 A λg=>L4 g n 0 λb=>B0 (b=0) (R (E (.tuple #[])) g) (L17 g.drew e 0 λp0=>onP p0 λf=>L17 g.drew e 0 λp0=>onP p0 λK=>G1 g.drew (K.add 4097) λb=>L4 g.drew k 0 λl=>inR .i64 (b+l)/\L4 g.drew n 0 λp=>L4 g.drew k 0 λq=>inR .i64 (p+q)/\(0<=b+l/\b+l<=p+q/\p+q<=(↑(4096:Nat):Int))/\L17 g.drew e 0 λp0=>onP p0 λL=>L17 g.drew e 0 λp0=>onP p0 λM=>G1 g.drew (M.add 4097) λo=>L4 g.drew n 0 λt=>(0<=o/\o<=t/\t<=(↑(4096:Nat):Int))/\∃V d,Cpy P #[159,159] 3 g.drew (S (slA (some f) 4096 (Int.toNat (b+l)) 1) (Int.toNat (p+q)-Int.toNat (b+l)) (4096-Int.toNat (b+l))) (S (slA (some L) 4096 (o.toNat) 1) (t.toNat-o.toNat) (4096-o.toNat)) (I V) d/\L17 d e 0 λp0=>∃(v:FuncId),∃(z:Array Value),∃(y:Array Value),Value.func (.func 85) #[Q p0] #[]=Value.func (.func v) z y/\HasBody P v/\RangeP P v (Array.toList z) (Array.toList y) (λs=>[I s]) (λ(s:Int)(c:World)(T:World->(World->Prop)->Prop)(B Y:World->Prop)(Z:Nat->World->Prop)=>T c λH=>L17 H e 0 λp0=>C10 86 [Q p0,I s] H λb i c=>L4 c n 0 λj=>B0 (b<=j) (L17 c e 0 λp0=>L4 c k 0 λm=>inR .i64 (b+m)/\C1 171 [Q p0,I s,I (b+m),I i] c λc=>B c) (B c)) d (λD c=>L17 c.drew e 0 λp0=>onP p0 λf=>L17 c.drew e 0 λp0=>onP p0 λN=>G1 c.drew (N.add 4097) λb=>L17 c.drew e 0 λp0=>onP p0 λO=>G1 c.drew (O.add 4097) λi=>L4 c.drew k 0 λj=>inR .i64 (i+j)/\(0<=b/\b<=i+j/\i+j<=(↑(4096:Nat):Int))/\∃d,Clr P #[159] 0 c.drew (S (slA (some f) 4096 (b.toNat) 1) (Int.toNat (i+j)-b.toNat) (4096-b.toNat)) d/\L17 d.drew e 0 λp0=>onP p0 λf=>G1 d.drew (f.add 4097) λb=>L4 d.drew k 0 λm=>inR .i64 (b+m)/\onP p0 λf=>Z2 d.drew (f.add 4097) (b+m) λx=>L17 x e 0 λp0=>C1 171 [Q p0,I i0,I 0,I 0] x λc=>LoopP (St:=PUnit) (λs c W=>L17 c.drew e 0 λp0=>onP p0 λf=>G1 c.drew (f.add 4096) λb=>B0 (0<b) (L17 c.drew e 0 λp0=>L17 c.drew e 0 λr=>onP r λf=>G1 c.drew (f.add 4096) λb=>inR .i64 (b-1)/\inR .i64 (4*(b-1))/\inR .i64 (10+4*(b-1))/\C3 146 [Q p0,I (10+4*(b-1))] c.drew λb c=>B0 (b=0) (L17 c e 0 λp0=>onP p0 λf=>G1 c (f.add 4096) λb=>inR .i64 (b-1)/\onP p0 λf=>Z2 c (f.add 4096) (b-1) λd=>W () d) (L17 c.drew e 0 λp0=>L17 c.drew e 0 λC=>onP C λf=>G1 c.drew (f.add 4096) λb=>C1 172 [Q p0,I 8,I b] c.drew λc=>∃d,ShutD c D d/\R (E (.tuple #[])) d)) (L17 c.drew.drew e 0 λp0=>L17 c.drew.drew e 0 λr=>onP r λf=>G1 c.drew.drew (f.add 4096) λb=>C1 172 [Q p0,I 8,I b] c.drew.drew λc=>∃d,ShutD c D d/\R (E (.tuple #[])) d)) () c) (λD c=>False) λ(X D:Nat)(c:World)=>False)):Calls P 170 #[Q p0,I i0] w R:=cok ⟨[],[(12,[])],[],[(6,[(42,.inl .i64)])]⟩ Tryz.func170 h
def Je1(h:inR .i64 (4*i0)/\inR .i64 (10+4*i0)/\C1 172 [Q p0,I (10+4*i0),I i1] w λc=>inR .i64 (4*i0)/\inR .i64 (10+4*i0)/\inR .i64 (10+4*i0+2)/\C1 172 [Q p0,I (10+4*i0+2),I i2] c λc=>R (E (.tuple #[])) c):Calls P 171 #[Q p0,I i0,I i1,I i2] w R:=cok {} Tryz.func171 h
def Jb3(h:inR .i64 (i0+(1:Int))/\(0:Int)<=(8:Int)/\onP p0 λf=>((0:Int)<=i0/\i0<(↑(4096:Nat):Int))/\onP p0 λg=>∃d,St P 5 w.drew (f.add (i0.toNat*1)) (.int .u8 (IntKind.wrap .u8 (Int.fdiv i1 ((2:Int)^min (Int.toNat (8:Int)) (IntKind.bits .i64))))) d/\((0:Int)<=i0+(1:Int)/\i0+(1:Int)<(↑(4096:Nat):Int))/\∃e,St P 5 d (g.add (Int.toNat (i0+(1:Int))*1)) (.int .u8 (IntKind.wrap .u8 i1)) e/\R (E (.tuple #[])) e):Calls P 172 #[Q p0,I i0,I i1] w R:=cok {} Tryz.func172 h
def Jbk(h:N9 w 0 λd b=>U6 b d 0 0 λl=>∃(g:FuncId),∃(i:Array Value),∃(h:Array Value),Value.func (.func 85) #[Q p0] #[]=Value.func (.func g) i h/\HasBody P g/\RangeP P g (Array.toList i) (Array.toList h) (λs0=>[I s0]) (λ(s0:Int)(c:World)(m:World->(World->Prop)->Prop)(j p:World->Prop)(q:Nat->World->Prop)=>m c λf=>L4 f d 0 λa=>B0 (s0=a) (L4 f d 0 λa=>inR .i64 (a+1)/\U6 f d 0 (a+1) λb=>j b) (j f)) l (λD c=>L4 c d 0 λa=>B0 (120<=a) (∃b,ShutD c D b/\R (E (A7 0 111)) b) (L4 c d 0 λa=>C3 110 [Q p0,I a,.string s0] c λa c=>B1 (a=0) (∃b,ShutD c D b/\R (E (A7 0 a)) b) (L4 c d 0 λa=>∃b,ShutD c D b/\R (E (A7 a 0)) b))) (λD c=>False) λ(o D:Nat)(c:World)=>False):Calls P 173 #[Q p0,.string s0] w R:=cok ⟨[],[],[],[(4,[(11,.inl .i64)])]⟩ Tryz.func173 h
def Jao(h:N16 w i0 i1 i2 i3 i4 i5 s0 p0 n0 n1 λc b=>L3 b c 4 λa i=>N3 b 0 0 λd p=>U3 p d 0 a i λb=>L4 b c 0 λa=>B0 (a<1) (R (E (.bool false)) b) (L4 b c 0 λa=>B0 (2147483647<a) (R (E (.bool false)) b) (L4 b c 1 λa=>B0 (a<0) (R (E (.bool false)) b) (L4 b c 1 λa=>B0 (2147483647<a) (R (E (.bool false)) b) (L4 b d 0 λa=>B0 (a<0) (R (E (.bool false)) b) (L4 b d 0 λa=>L4 b d 1 λj=>B0 (j<=a) (R (E (.bool false)) b) (L4 b d 1 λa=>B0 (4611686018427387904<a) (R (E (.bool false)) b) (L4 b c 2 λa=>B0 (a=1) (L14 b c 0 λa k l m n o f g e h=>C2 225 [A15 a k l m n o f g e h] b λc D=>R (E (.bool c)) D) (B0 (a=2) (L4 b c 3 λa=>B0 (a=0) (L16 b c 7 λg e h=>B0 ((↑e:Int)=0) (L7 b c 6 λf=>R (E (.bool (decide ((↑(f.size):Int)<=1500)))) b) (R (E (.bool false)) b)) (R (E (.bool false)) b)) (R (E (.bool false)) b)))))))))):Calls P 174 #[A15 i0 i1 i2 i3 i4 i5 s0 p0 n0 n1] w R:=cok {} Tryz.func174 h
def Jaq(h:N16 w i0 i1 i2 i3 i4 i5 s0 p0 n0 n1 λb a=>L4 a b 0 λi=>L4 a b 1 λv=>L4 a b 4 λx=>G1 a (Addr.add (.mk b 4 none) 1) λy=>L4 a b 2 λz=>L4 a b 3 λA=>L7 a b 6 λc=>∀t D,New a (.cells #[I i,I 4,I v,I 4,I x,I 8,I y,I 8,I z,I 1,I A,I 2,I (↑(c.size):Int),I 2] 258) t D->C7 176 [S none 0 0,S (some (.mk t 0 none)) 7 7] D λe f g d=>JoinP (St:=Option Addr×Nat×Nat) (λc d=>L16 d b 7 λe f g=>LoopP (St:=(Option Addr×Nat×Nat)×Int) (λc d F=>B0 (c.2<f) (onP e λe=>D1 c.2 f/\∃i B,Ld P 260 d (e.add (c.2.toNat*2)) (.agg #[I i,.string B])/\N18 d 0 (.mk #[]) λb a=>U15 a b 0 i B λh=>L4 h.drew b 0 λi=>L7 h.drew b 1 λC=>L7 h.drew b 1 λq=>∀o a,New h.drew (.cells #[I i,I 2,I (↑(C.size):Int),I 2] 258) o a->Ld P 9 a (.mk b 1 none) (.string q)/\C7 176 [S c.1.1 c.1.2.1 c.1.2.2,S (some (.mk o 0 none)) 2 2] a λe f g d=>Ld P 9 d (.mk b 1 none) (.string q)/\∃l k j a,App P #[159,9] 159 d (S e f g) (.string q) (S l k j) a/\inR .i64 (c.2+1)/\F ((l,k,j),c.2+1) a) (R (E (S c.1.1 c.1.2.1 c.1.2.2)) d)) ((c.1,c.2.1,c.2.2),0) d) λJ=>(L7 d.drew b 6 λc=>L16 d.drew b 7 λl n p=>∃r k j a,App P #[159,9] 159 d.drew (S e f g) (.string c) (S r k j) a/\Ld P 202 a (.mk b 7 none) (S l n p)/\∀b h,New a (.cells #[I n,I 1] 258) b h->C7 176 [S r k j,S (some (.mk b 0 none)) 1 1] h λe f g d=>J (e,f,g) d)/\L7 d.drew b 6 λc=>L16 d.drew b 7 λl n p=>∀o a,New d.drew (.cells #[I n,I 1] 258) o a->Ld P 9 a (.mk b 6 none) (.string c)/\∃s k j h,App P #[159,9] 159 a (S e f g) (.string c) (S s k j) h/\C7 176 [S s k j,S (some (.mk o 0 none)) 1 1] h λe f g d=>J (e,f,g) d):Calls P 175 #[A15 i0 i1 i2 i3 i4 i5 s0 p0 n0 n1] w R:=cok ⟨[],[(4,[(3,.inr 3),(45,.inl .i64)])],[(3,[(3,.inr 3)])],[]⟩ Tryz.func175 h
def Jal(h:LoopP (St:=(Option Addr×Nat×Nat)×Int) (λa e r=>B0 (a.2<n2) (onP p1 λg=>D1 a.2 n2/\∃c i,Ld P 258 e (g.add (a.2.toNat*2)) (A4 c i)/\∀d f,New e (.cells #[I 0,I 0] 258) d f->∃h,St P 258 f (.mk d 0 none) (A4 c i) h/\L4 h d 1 λc=>inR .i64 (c-1)/\LoopP (St:=(Option Addr×Nat×Nat)×Int) (λb e s=>B0 (0<=b.2) (L4 e d 0 λc=>inR .i64 (8*b.2)/\0<=8*b.2/\N19 e (IntKind.wrap .u8 (Int.fdiv c (2^min (Int.toNat (8*b.2)) (IntKind.bits .i64)))) λd f=>∃g l k m,App P #[159,159] 159 f (S b.1.1 b.1.2.1 b.1.2.2) (S (some (.mk d 0 none)) 1 1) (S g l k) m/\inR .i64 (b.2-1)/\s ((g,l,k),b.2-1) m) (inR .i64 (a.2+1)/\r ((b.1.1,b.1.2.1,b.1.2.2),a.2+1) e)) ((a.1.1,a.1.2.1,a.1.2.2),c-1) h) (R (E (S a.1.1 a.1.2.1 a.1.2.2)) e)) ((p0,n0,n1),0) w):Calls P 176 #[S p0 n0 n1,S p1 n2 n3] w R:=cok ⟨[],[(2,[(0,.inr 3),(10,.inl .i64)]),(5,[(0,.inr 3),(7,.inl .i64)])],[],[]⟩ Tryz.func176 h
def Jc5(h:C3 217 [.string s0] w λb a=>B0 (b<0) (R (E (I 64)) a) (B0 (1500<(↑(s0.size):Int)) (R (E (I 67)) a) (R (E (I 0)) a))):Calls P 179 #[.string s0] w R:=cok {} Tryz.func179 h
def Jc7(h:N11 w i0 i1 s0 s1 p0 n0 n1 λc f=>L7 f c 2 λb=>C2 127 [.string b] f λk a=>br (!k) (R (E (I 63)) a) (L11 a c 4 λd e g=>LoopP (St:=ByteArray×Int) (λb a q=>B0 (b.2<(↑e:Int)) (onP d λd=>D1 b.2 e/\G3 a (d.add (b.2.toNat*2)) λm n=>N13 a (.mk #[]) (.mk #[]) λc f=>U9 f c 0 m n λj=>L7 j c 0 λo=>C2 127 [.string o] j λl a=>br (!l) (R (E (I 63)) a) (L7 a c 0 λi=>br (Op.bytesLess (Array.toList (ByteArray.data i)) (Array.toList (ByteArray.data b.1))||decide (i=b.1)) (R (E (I 63)) a) (L7 a c 0 λp=>inR .i64 (b.2+1)/\q (p,b.2+1) a))) (L11 a c 4 λd e g=>B0 (20<(↑e:Int)) (R (E (I 67)) a) (R (E (I 0)) a))) (.mk #[],0) a)):Calls P 180 #[A16 i0 i1 s0 s1 p0 n0 n1] w R:=cok ⟨[],[(5,[(3,.inr 1),(13,.inl .i64)])],[],[]⟩ Tryz.func180 h
def Jan(h:C18 193 [Q p0,I i0] w λa b=>∃c d g f,S2B P 9 159 b (.string a) (S c d g) f/\LoopP (St:=Int×Int) (λa b j=>B0 (a.2<d) (onP c λc=>((0:Int)<=a.2/\a.2<d)/\G25 b (c.add (a.2.toNat*1)) λe=>(0:Int)<=(8:Int)/\inR .i64 (a.2+(1:Int))/\j (Vc.bits .or .i64 (IntKind.wrap .i64 (a.1*(2:Int)^min (Int.toNat (8:Int)) (IntKind.bits .i64))) (IntKind.wrap .i64 e),a.2+(1:Int)) b) (R (E (I a.1)) b)) ((0:Int),(0:Int)) f):Calls P 183 #[Q p0,I i0] w R:=cok ⟨[5],[(3,[(5,.inl .i64),(13,.inl .i64)])],[],[]⟩ Tryz.func183 h
def Jfj(h:LoopP (St:=ByteArray×Int) (λs0 a l=>B1 (s0.1=.mk #[]) (CallV P 237 [.string s0.1] a λe a=>∃g d,e=E (A23 g d)/\B0 (d=0) (R (E (I (-1:Int))) a) (LoopP (St:=Int) (λc a m=>B0 (c<n0) (onP p0 λj=>D1 c n0/\∃i,Ld P 269 a (j.add (c.toNat*1)) i/\CallX P i [.int .i32 g,.bool (decide (s0.2=0))] a λe a=>∃f,e=E (.bool f)/\br (!f) (R (E (I (-1:Int))) a) (inR .i64 (c+1)/\m (c+1) a)) (inR .i64 (s0.2+1)/\(0<=d/\d<=(↑(ByteArray.size s0.1):Int))/\l (ByteArray.extract s0.1 (d.toNat) (ByteArray.size s0.1),s0.2+1) a)) 0 a)) (R (E (I s0.2)) a)) (s0,0) w):Calls P 184 #[.string s0,S p0 n0 n1] w R:=cok ⟨[],[(2,[(0,.inr 1),(5,.inl .i64)]),(7,[(21,.inl .i64)])],[],[]⟩ Tryz.func184 h
def Jfo(h:C2 186 [.int .i32 i0] w λa b=>br a (br (!b0) (R (E (.bool true)) b) (C2 187 [.int .i32 i0] b λa b=>R (E (.bool a)) b)) (R (E (.bool false)) b)):Calls P 185 #[.int .i32 i0,.bool b0] w R:=cok {} Tryz.func185 h
def Jfq(h:LoopP (St:=Int) (λc b k=>B0 (c<5) ((0<=c/\c<(↑(5:Nat):Int))/\∃d h,Prt P 315 [.int .i32 45,.int .i32 46,.int .i32 48,.int .i32 57,.int .i32 183,.int .i32 183,.int .i32 768,.int .i32 879,.int .i32 8255,.int .i32 8256] (c.toNat*2) (A24 d h)/\∀a j,New b (.cells #[.int .i32 0,.int .i32 0] 315) a j->∃f,St P 315 j (.mk a 0 none) (A24 d h) f/\∃d i,Ld P 315 f (.mk a 0 none) (A24 d i)/\C2 238 [A24 d i,.int .i32 i0] f λa b=>br a (R (E (.bool true)) b) (inR .i64 (c+1)/\k (c+1) b)) (C2 187 [.int .i32 i0] b λa b=>R (E (.bool a)) b)) 0 w):Calls P 186 #[.int .i32 i0] w R:=cok ⟨[],[(2,[(11,.inl .i64)])],[],[]⟩ Tryz.func186 h
def Jfs(h:CallV P 239 [] w λe a=>∃(g:List Value),e=E (.agg (List.toArray g))/\LoopP (St:=Int) (λc a l=>B0 (c<15) ((0<=c/\c<(↑(15:Nat):Int))/\∃d h,Prt P 315 g (c.toNat*2) (A24 d h)/\∀b j,New a (.cells #[.int .i32 0,.int .i32 0] 315) b j->∃f,St P 315 j (.mk b 0 none) (A24 d h) f/\∃d i,Ld P 315 f (.mk b 0 none) (A24 d i)/\C2 238 [A24 d i,.int .i32 i0] f λb a=>br b (R (E (.bool true)) a) (inR .i64 (c+1)/\l (c+1) a)) (R (E (.bool false)) a)) 0 a):Calls P 187 #[.int .i32 i0] w R:=cok ⟨[],[(2,[(6,.inl .i64)])],[],[]⟩ Tryz.func187 h
def Jak(h:LoopP (St:=(Option Addr×Nat×Nat)×Int) (λa b t=>B0 (a.2<n0) (onP p0 λc=>((0:Int)<=a.2/\a.2<n0)/\G2 b (c.add (a.2.toNat*1)) λd=>CallV P 126 [.string d] b λf b=>∃h i j g,f=E (A17 h i j g)/\onP p0 λc=>((0:Int)<=(0:Int)/\(0:Int)<n0)/\G2 b c λo=>CallV P 126 [.string o] b λf b=>∃k r s q,f=E (A17 k r s q)/\br (!g) (R (E (A21 none 0 0 false)) b) (B1 (h=k) (R (E (A21 none 0 0 false)) b) (B1 (i=a.2) (R (E (A21 none 0 0 false)) b) (B1 (j=n0) (R (E (A21 none 0 0 false)) b) (((0:Int)<=(6:Int)/\(6:Int)<=(↑(d.size):Int))/\∃c n m p,App P #[159,9] 159 b (S a.1.1 a.1.2.1 a.1.2.2) (.string (ByteArray.extract d (Int.toNat (6:Int)) (d.size))) (S c n m) p/\inR .i64 (a.2+(1:Int))/\t ((c,n,m),a.2+(1:Int)) p))))) (R (E (A21 a.1.1 a.1.2.1 a.1.2.2 (decide ((0:Int)<a.1.2.1)))) b)) ((none,0,0),(0:Int)) w):Calls P 192 #[S p0 n0 n1] w R:=cok ⟨[],[(3,[(4,.inr 3),(17,.inl .i64)])],[],[]⟩ Tryz.func192 h
def Jap(h:onP p0 λa=>∃k d b,Ld P 159 w a (S k d b)/\B0 ((↑d:Int)<i0) (onP p0 λa=>∃f,St P 159 w a (S none 0 0) f/\onP p0 λa=>∃j,St P 4 f (a.add 1) (.bool true) j/\R (E (.string (.mk #[]))) j) (onP p0 λa=>∃g d b,Ld P 159 w a (S g d b)/\(0<=i0/\i0<=b)/\∃i,B2S P 159 9 w (S g (i0.toNat) b) (.string i)/\onP p0 λa=>∃h d b,Ld P 159 w a (S h d b)/\(0<=i0/\i0<=d)/\onP p0 λa=>∃f,St P 159 w a (S (slA h b (i0.toNat) 1) (d-i0.toNat) (b-i0.toNat)) f/\R (E (.string i)) f)):Calls P 193 #[Q p0,I i0] w R:=cok {} Tryz.func193 h
def Jet(h:N3 w i0 i1 λb f=>N3 f i2 i3 λc a=>L4 a b 1 λd=>L4 a c 0 λe=>R (E (.bool (decide (d<e)))) a):Calls P 195 #[A4 i0 i1,A4 i2 i3] w R:=cok {} Tryz.func195 h
def Jew(h:LoopP (St:=Int) (λa b g=>B0 (a<n0) (onP p0 λe=>D1 a n0/\G1 b (e.add (a.toNat*1)) λc=>B0 (c<0) (R (E (.bool false)) b) (B0 (4611686018427387904<c) (R (E (.bool false)) b) (inR .i64 (a+1)/\g (a+1) b))) (R (E (.bool true)) b)) 0 w):Calls P 196 #[S p0 n0 n1] w R:=cok ⟨[],[(2,[(7,.inl .i64)])],[],[]⟩ Tryz.func196 h
def Jev(h:N3 w i0 i1 λc g=>N3 g i2 i3 λd a=>L4 a d 0 λb=>L4 a c 0 λe=>B0 (b<e) (L4 a c 1 λb=>L4 a d 1 λf=>R (E (.bool (decide (b<f)))) a) (R (E (.bool false)) a)):Calls P 197 #[A4 i0 i1,A4 i2 i3] w R:=cok {} Tryz.func197 h
def Jff(h:CallV P 157 [Q p0,I i0] w λf h=>∃c b,f=E (.agg #[.string c,I b])/\N15 h (.mk #[]) 0 λp0 e=>U13 e p0 0 c b λd=>L7 d.drew p0 0 λc=>L4 d.drew p0 1 λb=>R (E (A12 c (decide (0<b)))) d.drew):Calls P 198 #[Q p0,I i0] w R:=cok {} Tryz.func198 h
def Jch(h:N13 w s0 s1 λb g=>N13 g s2 s3 λc a=>L7 a b 0 λe=>L7 a c 0 λf=>C3 201 [.string e,.string f] a λd m=>R (E (I d)) m):Calls P 200 #[A19 s0 s1,A19 s2 s3] w R:=cok {} Tryz.func200 h
def Jef(h:N11 w i0 i1 s0 s1 p0 n0 n1 λe g=>L4 g e 1 λh=>B0 (h=2) (L7 g e 2 λa=>B1 (a=.mk #[]) (R (E (I 68)) g) (L11 g e 4 λc d f=>B0 (0<(↑d:Int)) (R (E (I 68)) g) (L7 g e 3 λa=>C3 260 [.string a] g λh b=>R (E (I h)) b))) (L4 g e 1 λh=>B1 (h=1) (R (E (I 68)) g) (L7 g e 3 λa=>B1 (a=.mk #[]) (R (E (I 68)) g) (L7 g e 2 λa=>C2 210 [.string a] g λn b=>br (!n) (R (E (I 63)) b) (LoopP (St:=Int) (λa b k=>L11 b e 4 λc d f=>B0 (a<(↑d:Int)) (L11 b.drew e 4 λc d f=>onP c λc=>D1 a d/\G2 b.drew (c.add (a.toNat*2)) λj=>C2 210 [.string j] b.drew λo b=>br (!o) (R (E (I 63)) b) (B0 (0<a) (L11 b e 4 λc d f=>onP c λc=>D1 a d/\G2 b (c.add (a.toNat*2)) λl=>L11 b e 4 λc d f=>inR .i64 (a-1)/\onP c λc=>(0<=a-1/\a-1<(↑d:Int))/\G2 b (c.add (Int.toNat (a-1)*2)) λm=>br (Op.bytesLess (Array.toList (ByteArray.data l)) (Array.toList (ByteArray.data m))||decide (l=m)) (R (E (I 63)) b) (inR .i64 (a+1)/\k (a+1) b)) (inR .i64 (a+1)/\k (a+1) b))) (L11 b e 4 λc d f=>B0 (20<(↑d:Int)) (R (E (I 67)) b) (LoopP (St:=Int) (λa b k=>L11 b e 4 λc d f=>B0 (a<(↑d:Int)) (L11 b e 4 λc d f=>onP c λc=>D1 a d/\G2 b (Addr.add (c.add (a.toNat*2)) 1) λj=>C3 260 [.string j] b λh b=>B1 (h=0) (R (E (I h)) b) (inR .i64 (a+1)/\k (a+1) b)) (R (E (I 0)) b)) 0 b))) 0 b))))):Calls P 202 #[A16 i0 i1 s0 s1 p0 n0 n1] w R:=cok ⟨[],[(10,[(3,.inl .i64)]),(17,[(4,.inl .i64)])],[],[]⟩ Tryz.func202 h
def Jdt(h:N1 w p0 n0 n1 i0 λe b=>LoopP (St:=(Option Addr×Nat×Nat)×Int) (λa i A=>B0 (a.2<n2) (onP p1 λd=>D1 a.2 n2/\G16 i (d.add (a.2.toNat*5)) λc l s t k h g=>N11 i 0 0 (.mk #[]) (.mk #[]) none 0 0 λf b=>U8 b f 0 c l s t k h g λj=>L4 j f 0 λc=>inR .i64 (c+i1)/\U6 j f 0 (c+i1) λb=>L4 b e 1 λc=>inR .i64 (c+a.2)/\L13 b f 0 λm n v x d h g=>∀e y,New b (.cells #[I (c+a.2),I m,I n,.string v,.string x,S d h g] 133) e y->∃d r p b,App P #[27,27] 27 y (S a.1.1 a.1.2.1 a.1.2.2) (S (some (.mk e 0 none)) 1 1) (S d r p) b/\inR .i64 (a.2+1)/\A ((d,r,p),a.2+1) b) (R (E (S a.1.1 a.1.2.1 a.1.2.2)) i)) ((none,0,0),0) b):Calls P 203 #[A2 p0 n0 n1 i0,S p1 n2 n3,I i1] w R:=cok ⟨[],[(3,[(7,.inr 3),(8,.inl .i64)])],[],[]⟩ Tryz.func203 h
def Jdo(h:N1 w p0 n0 n1 i0 λf i=>inR .i64 (i1+1)/\LoopP (St:=(Option Addr×Nat×Nat)×Int) (λa c p=>L1 c f 0 λb e g d=>C3 84 [A2 b e g d,I i1] c λd c=>B0 (a.2<d) (JoinP (St:=Option Addr×Nat×Nat) (λk c=>inR .i64 (a.2+1)/\p ((k.1,k.2.1,k.2.2),a.2+1) c) λJ=>L8 c.drew f 0 λb e g=>onP b λb=>D1 a.2 e/\G1 c.drew (Addr.add (b.add (a.2.toNat*6)) 1) λd=>L8 c.drew f 0 λb e g=>onP b λb=>D1 i1 e/\G1 c.drew (Addr.add (b.add (i1.toNat*6)) 1) λj=>inR .i64 (j+1)/\B0 (d=j+1) (N9 c.drew a.2 λf i=>∃b m l n,App P #[59,59] 59 i (S a.1.1 a.1.2.1 a.1.2.2) (S (some (.mk f 0 none)) 1 1) (S b m l) n/\J (b,m,l) n) (J (a.1.1,a.1.2.1,a.1.2.2) c.drew)) (R (E (S a.1.1 a.1.2.1 a.1.2.2)) c)) ((none,0,0),i1+1) i):Calls P 204 #[A2 p0 n0 n1 i0,I i1] w R:=cok ⟨[],[(3,[(5,.inr 3),(6,.inl .i64)])],[(4,[(5,.inr 3)])],[]⟩ Tryz.func204 h
def Jdl(h:B0 ((↑n0:Int)=0) (R (E (I 40)) w) (LoopP (St:=Int) (λa c n=>B0 (a<n0) (JoinP (λo c=>onP p0 λd=>D1 a n0/\G1 c (d.add (a.toNat*5)) λb=>B0 (b<0) (R (E (I 69)) c) (onP p0 λd=>D1 a n0/\G1 c (d.add (a.toNat*5)) λb=>B0 (o<b) (R (E (I 69)) c) (onP p0 λd=>D1 a n0/\G16 c (d.add (a.toNat*5)) λb f k l h j i=>C3 202 [A16 b f k l h j i] c λb c=>B1 (b=0) (R (E (I b)) c) (inR .i64 (a+1)/\n (a+1) c)))) λ(J:Int->World->Prop)=>B0 (0<a) (inR .i64 (a-1)/\onP p0 λd=>(0<=a-1/\a-1<n0)/\G1 c (d.add (Int.toNat (a-1)*5)) λb=>inR .i64 (a-1)/\onP p0 λd=>(0<=a-1/\a-1<n0)/\G1 c (Addr.add (d.add (Int.toNat (a-1)*5)) 1) λf=>B1 (f=2) (inR .i64 (b+1)/\J (b+1) c) (J b c)) (J 0 c)) (R (E (I 0)) c)) 0 w)):Calls P 205 #[S p0 n0 n1] w R:=cok ⟨[],[(4,[(3,.inl .i64)])],[(11,[(4,.inl .i64)])],[]⟩ Tryz.func205 h
def Jdf(h:LoopP (St:=Int×Int) (λa b g=>B0 (a.2<n0) (onP p0 λe=>D1 a.2 n0/\G1 b (e.add (a.2.toNat*5)) λc=>inR .i64 (a.2+1)/\g (max a.1 c,a.2+1) b) (R (E (I a.1)) b)) (0,0) w):Calls P 206 #[S p0 n0 n1] w R:=cok ⟨[],[(3,[(3,.inl .i64),(4,.inl .i64)])],[],[]⟩ Tryz.func206 h
def Jdp(h:N1 w p0 n0 n1 i0 λf b=>N1 b none 0 0 0 λi j=>L8 j f 0 λc d a=>(0<=i1/\i1<=a)/\∃m q h b,App P #[27,27] 27 j (S none 0 0) (S c (i1.toNat) a) (S m q h) b/\∃c r p k,App P #[27,27] 27 b (S m q h) (S p1 n2 n3) (S c r p) k/\L8 k f 0 λn d a=>(0<=i1/\i1<=d)/\∃o s h b,App P #[27,27] 27 k (S c r p) (S (slA n a (i1.toNat) 6) (d-i1.toNat) (a-i1.toNat)) (S o s h) b/\∃l,St P 27 b (.mk f 0 none) (S o s h) l/\L1 l f 0 λc d a g=>U1 l i 0 c d a g λb=>L1 b i 0 λc d a g=>R (E (A2 c d a g)) b):Calls P 207 #[A2 p0 n0 n1 i0,I i1,S p1 n2 n3] w R:=cok {} Tryz.func207 h
def Jd2(h:N1 w p0 n0 n1 i0 λg i=>L1 i g 0 λb c d a=>C7 204 [A2 b c d a,I i1] i λb c d e=>B0 (i2<c) (onP b λb=>D1 i2 c/\G1 e (b.add (i2.toNat*1)) λa=>R (E (I a)) e) (L1 e g 0 λb c d a=>C3 84 [A2 b c d a,I i1] e λa e=>R (E (I a)) e)):Calls P 208 #[A2 p0 n0 n1 i0,I i1,I i2] w R:=cok {} Tryz.func208 h
def Jd5(h:N1 w p0 n0 n1 i0 λf c=>N1 c none 0 0 0 λh i=>L8 i f 0 λd e b=>(0<=i1/\i1<=b)/\∃k r p c,App P #[27,27] 27 i (S none 0 0) (S d (i1.toNat) b) (S k r p) c/\L8 c.drew f 0 λd e b=>L1 c.drew f 0 λl o n a=>C3 84 [A2 l o n a,I i1] c.drew λa t=>Ld P 27 t (.mk f 0 none) (S d e b)/\(0<=a/\a<=e)/\∃m s q c,App P #[27,27] 27 t (S k r p) (S (slA d b (a.toNat) 6) (e-a.toNat) (b-a.toNat)) (S m s q) c/\∃j,St P 27 c (.mk f 0 none) (S m s q) j/\L1 j f 0 λd e b a=>U1 j h 0 d e b a λc=>L1 c h 0 λd e b a=>R (E (A2 d e b a)) c):Calls P 209 #[A2 p0 n0 n1 i0,I i1] w R:=cok {} Tryz.func209 h
def Jen(h:C19 261 [.string s0] w λd g i c a=>br (!c) (R (E (.bool false)) a) (B0 ((↑(s0.size):Int)<1) (R (E (.bool false)) a) (B0 (60<(↑(s0.size):Int)) (R (E (.bool false)) a) (onP d λh=>D1 0 g/\∃f,Ld P 21 a h (.int .i32 f)/\C2 262 [.int .i32 f] a λc a=>br (!c) (R (E (.bool false)) a) (LoopP (St:=Int) (λs0 a j=>B0 (s0<g) (onP d λd=>D1 s0 g/\∃f,Ld P 21 a (d.add (s0.toNat*1)) (.int .i32 f)/\C2 263 [.int .i32 f] a λc a=>br (!c) (R (E (.bool false)) a) (inR .i64 (s0+1)/\j (s0+1) a)) (R (E (.bool true)) a)) 0 a))))):Calls P 210 #[.string s0] w R:=cok ⟨[],[(5,[(5,.inl .i64)])],[],[]⟩ Tryz.func210 h
def Jd3(h:C3 264 [.string s0] w λb a=>B0 (b<0) (R (E (I 64)) a) (B0 (1500<(↑(s0.size):Int)) (R (E (I 67)) a) (R (E (I 0)) a))):Calls P 211 #[.string s0] w R:=cok {} Tryz.func211 h
def Jd4(h:N13 w s0 s1 λe f=>LoopP (St:=(Option Addr×Nat×Nat)×Bool×Int) (λa c r=>B0 (a.2.2<n0) (JoinP (St:=(Option Addr×Nat×Nat)×Bool) (λb c=>inR .i64 (a.2.2+1)/\r ((b.1.1,b.1.2.1,b.1.2.2),b.2,a.2.2+1) c) λJ=>JoinP (St:=(Option Addr×Nat×Nat)×Bool) (λb c=>onP p0 λd=>D1 a.2.2 n0/\G2 c.drew (d.add (a.2.2.toNat*2)) λi=>L7 c.drew e 0 λk=>B1 (i=k) (onP p0 λd=>D1 a.2.2 n0/\G3 c.drew (d.add (a.2.2.toNat*2)) λn o=>N13 c.drew n o λe f=>∃d h g j,App P #[69,69] 69 f (S b.1.1 b.1.2.1 b.1.2.2) (S (some (.mk e 0 none)) 1 1) (S d h g) j/\J ((d,h,g),b.2) j) (J ((b.1.1,b.1.2.1,b.1.2.2),b.2) c.drew)) λJ=>JoinP (λb c=>br b (∃i k,Ld P 142 c (.mk e 0 none) (A19 i k)/\N13 c i k λe f=>∃d h g j,App P #[69,69] 69 f (S a.1.1 a.1.2.1 a.1.2.2) (S (some (.mk e 0 none)) 1 1) (S d h g) j/\J ((d,h,g),true) j) (J ((a.1.1,a.1.2.1,a.1.2.2),a.2.1) c)) λ(J:Bool->World->Prop)=>br (!a.2.1) (onP p0 λd=>D1 a.2.2 n0/\G2 c.drew (d.add (a.2.2.toNat*2)) λb=>L7 c.drew e 0 λa=>J (!Op.bytesLess (Array.toList (ByteArray.data b)) (Array.toList (ByteArray.data a))) c.drew) (J false c.drew)) (br (!a.2.1) (∃b i,Ld P 142 c (.mk e 0 none) (A19 b i)/\N13 c b i λe f=>∃d h g j,App P #[69,69] 69 f (S a.1.1 a.1.2.1 a.1.2.2) (S (some (.mk e 0 none)) 1 1) (S d h g) j/\R (E (S d h g)) j) (R (E (S a.1.1 a.1.2.1 a.1.2.2)) c))) ((none,0,0),false,0) f):Calls P 212 #[S p0 n0 n1,A19 s0 s1] w R:=cok ⟨[],[(4,[(5,.inr 3),(6,.inr 0),(7,.inl .i64)])],[(5,[(5,.inr 3),(6,.inr 0)]),(9,[(5,.inr 3),(6,.inr 0)]),(7,[(25,.inr 0)])],[]⟩ Tryz.func212 h
def Jdz(h:N1 w p0 n0 n1 i0 λf a=>N11 a i2 i3 s0 s1 p1 n2 n3 λm s=>N1 s none 0 0 0 λh a=>∀n k,New a (.cells #[] 133) n k->L8 k f 0 λb d c=>∃g j p a,App P #[27,27] 27 k (S (some (.mk n 0 none)) 0 0) (S b d c) (S g j p) a/\L13 a m 0 λe o q r b d c=>onP g λv=>D1 i1 j/\∃t,St P 123 a (Addr.add (v.add (i1.toNat*6)) 1) (A16 e o q r b d c) t/\∃a,St P 27 t (.mk f 0 none) (S g j p) a/\L1 a f 0 λb d c e=>U1 a h 0 b d c e λl=>L1 l h 0 λb d c e=>R (E (A2 b d c e)) l):Calls P 213 #[A2 p0 n0 n1 i0,I i1,A16 i2 i3 s0 s1 p1 n2 n3] w R:=cok {} Tryz.func213 h
def Jdq(h:LoopP (St:=(Option Addr×Nat×Nat)×Int) (λa c i=>B0 (a.2<n0) (onP p0 λb=>D1 a.2 n0/\G2 c (b.add (a.2.toNat*2)) λj=>B1 (j=s0) (onP p0 λb=>D1 a.2 n0/\G3 c (b.add (a.2.toNat*2)) λk l=>N13 c k l λe m=>∃b h g n,App P #[69,69] 69 m (S a.1.1 a.1.2.1 a.1.2.2) (S (some (.mk e 0 none)) 1 1) (S b h g) n/\inR .i64 (a.2+1)/\i ((b,h,g),a.2+1) n) (inR .i64 (a.2+1)/\i ((a.1.1,a.1.2.1,a.1.2.2),a.2+1) c)) (R (E (S a.1.1 a.1.2.1 a.1.2.2)) c)) ((none,0,0),0) w):Calls P 214 #[S p0 n0 n1,.string s0] w R:=cok ⟨[],[(3,[(5,.inr 3),(6,.inl .i64)])],[],[]⟩ Tryz.func214 h
def Jfi(h:C3 184 [.string s0,S none 0 0] w λa d=>R (E (I a)) d):Calls P 217 #[.string s0] w R:=cok {} Tryz.func217 h
def Ja0(h:N13 w s0 s1 λc b=>L7 b c 0 λa=>br (Op.bytesLess (Array.toList (ByteArray.data a)) (Array.toList (ByteArray.data s2))) (R (E (I (-1:Int))) b) (L7 b c 0 λa=>br (!(Op.bytesLess (Array.toList (ByteArray.data a)) (Array.toList (ByteArray.data s2))||decide (a=s2))) (R (E (I 1)) b) (R (E (I 0)) b))):Calls P 219 #[A19 s0 s1,.string s2] w R:=cok {} Tryz.func219 h
def Je0(h:i3≠0/\inR .i64 (Int.tdiv i1 i3)/\inR .i64 (Int.tdiv i1 i3*i2)/\inR .i64 (i0+Int.tdiv i1 i3*i2)/\i3≠0/\inR .i64 (Int.tmod i1 i3*i2)/\i3≠0/\inR .i64 (Int.tdiv (Int.tmod i1 i3*i2) i3)/\inR .i64 (i0+Int.tdiv i1 i3*i2+Int.tdiv (Int.tmod i1 i3*i2) i3)/\R (E (I (i0+Int.tdiv i1 i3*i2+Int.tdiv (Int.tmod i1 i3*i2) i3))) w.drew):Calls P 224 #[I i0,I i1,I i2,I i3] w R:=cok {} Tryz.func224 h
def Jah(h:N16 w i0 i1 i2 i3 i4 i5 s0 p0 n0 n1 λc e=>∀i m,New e (.map #[] 0) i m->L16 m c 7 λf g j=>LoopP (St:=Int) (λd a r=>B0 (d<g) (onP f λf=>D1 d g/\∃b p,Ld P 260 a (f.add (d.toNat*2)) (.agg #[I b,.string p])/\N18 a 0 (.mk #[]) λc e=>U15 e c 0 b p λn=>L4 n c 0 λb=>C2 266 [I b] n λh a=>br (!h) (R (E (.bool false)) a) (L4 a c 0 λb=>∃o,Lk P 281 false a (.map (some i)) (I b) (I o)/\B0 (0<o) (R (E (.bool false)) a) (L7 a c 1 λq=>B0 (1500<(↑(q.size):Int)) (R (E (.bool false)) a) (L4 a c 0 λb=>∃l,Lk P 281 false a (.map (some i)) (I b) (I l)/\inR .i64 (l+1)/\∃e,MUp P 281 a (.map (some i)) (I b) (I (l+1)) e/\inR .i64 (d+1)/\r (d+1) e)))) (L4 a c 3 λb=>C2 266 [I b] a λh a=>br h (L7 a c 6 λd=>B0 (d=.mk #[]) (L16 a c 7 λf g j=>R (E (.bool (decide ((↑g:Int)<=20)))) a) (R (E (.bool false)) a)) (R (E (.bool false)) a))) 0 m):Calls P 225 #[A15 i0 i1 i2 i3 i4 i5 s0 p0 n0 n1] w R:=cok ⟨[],[(3,[(10,.inl .i64)])],[],[]⟩ Tryz.func225 h
def Jfp(h:B0 (s0=.mk #[]) (R (E (A23 0 0)) w) (((0:Int)<=(0:Int)/\(0:Int)<(↑(s0.size):Int))/\CallV P 273 [.int .u8 (sb s0 (0:Int))] w λf b=>∃a i,f=E (A25 a i)/\B0 (a=(0:Int)) (R (E (A23 (-1:Int) 0)) b) (B0 ((↑(s0.size):Int)<a) (R (E (A23 (-1:Int) 0)) b) (((0:Int)<=(1:Int)/\(1:Int)<=a/\a<=(↑(s0.size):Int))/\∃e g l k,S2B P 9 159 b (.string (ByteArray.extract s0 (Int.toNat (1:Int)) (a.toNat))) (S e g l) k/\LoopP (St:=Int×Int) (λc b m=>B0 (c.2<g) (onP e λe=>((0:Int)<=c.2/\c.2<g)/\G25 b (e.add (c.2.toNat*1)) λa=>B1 (Vc.bits .and .u8 a (192:Int)=(128:Int)) (R (E (A23 (-1:Int) 0)) b) ((0:Int)<=(6:Int)/\inR .i32 (c.1*(2:Int)^min (Int.toNat (6:Int)) (IntKind.bits .i32))/\inR .i64 (c.2+(1:Int))/\m (Vc.bits .or .i32 (c.1*(2:Int)^min (Int.toNat (6:Int)) (IntKind.bits .i32)) (IntKind.wrap .i32 (Vc.bits .and .u8 a (63:Int))),c.2+(1:Int)) b)) (C15 274 [.int .i32 c.1] b λj h b=>br (!h) (R (E (A23 (-1:Int) 0)) b) (((0:Int)<=a/\a<=(↑(s0.size):Int))/\B1 (j=ByteArray.extract s0 0 (a.toNat)) (R (E (A23 (-1:Int) 0)) b) (R (E (A23 c.1 a)) b)))) (i,(0:Int)) k)))):Calls P 237 #[.string s0] w R:=cok ⟨[],[(7,[(5,.inl .i32),(31,.inl .i64)])],[],[]⟩ Tryz.func237 h
def Jfk(h:∀c b,New w (.cells #[.int .i32 i0,.int .i32 i1] 315) c b->∃a,Ld P 21 b (.mk c 0 none) (.int .i32 a)/\B0 (a<=i2) (∃a,Ld P 21 b (.mk c 1 none) (.int .i32 a)/\R (E (.bool (decide (i2<=a)))) b) (R (E (.bool false)) b)):Calls P 238 #[A24 i0 i1,.int .i32 i2] w R:=cok {} Tryz.func238 h
def Jft(h:∀a d,New w (.cells #[.int .i32 0,.int .i32 0,.int .i32 0,.int .i32 0,.int .i32 0,.int .i32 0,.int .i32 0,.int .i32 0,.int .i32 0,.int .i32 0,.int .i32 0,.int .i32 0,.int .i32 0,.int .i32 0,.int .i32 0,.int .i32 0,.int .i32 0,.int .i32 0,.int .i32 0,.int .i32 0,.int .i32 0,.int .i32 0,.int .i32 0,.int .i32 0,.int .i32 0,.int .i32 0,.int .i32 0,.int .i32 0,.int .i32 0,.int .i32 0] 317) a d->∃b,St P 317 d (.mk a 0 none) (.agg #[.int .i32 65,.int .i32 90,.int .i32 95,.int .i32 95,.int .i32 97,.int .i32 122,.int .i32 192,.int .i32 214,.int .i32 216,.int .i32 246,.int .i32 248,.int .i32 767,.int .i32 880,.int .i32 893,.int .i32 895,.int .i32 8191,.int .i32 8204,.int .i32 8205,.int .i32 8304,.int .i32 8591,.int .i32 11264,.int .i32 12271,.int .i32 12289,.int .i32 55295,.int .i32 63744,.int .i32 64975,.int .i32 65008,.int .i32 65533,.int .i32 65536,.int .i32 983039]) b/\∃(c:List Value),Ld P 317 b (.mk a 0 none) (.agg (List.toArray c))/\R (E (.agg (List.toArray c))) b):Calls P 239 #[] w R:=cok {} Tryz.func239 h
def Jec(h:C3 264 [.string s0] w λb a=>B0 (b<0) (R (E (I 64)) a) (B0 (1500<(↑(s0.size):Int)) (R (E (I 67)) a) (R (E (I 0)) a))):Calls P 260 #[.string s0] w R:=cok {} Tryz.func260 h
def Jek(h:LoopP (St:=ByteArray×Option Addr×Nat×Nat) (λs0 c l=>B1 (s0.1=.mk #[]) (CallV P 299 [.string s0.1] c λk c=>∃f b,k=E (A23 f b)/\B0 (b=0) (R (E (A21 none 0 0 false)) c) (∀e i,New c (.cells #[.int .i32 f] 21) e i->∃d h g j,App P #[332,332] 332 i (S s0.2.1 s0.2.2.1 s0.2.2.2) (S (some (.mk e 0 none)) 1 1) (S d h g) j/\(0<=b/\b<=(↑(ByteArray.size s0.1):Int))/\l (ByteArray.extract s0.1 (b.toNat) (ByteArray.size s0.1),d,h,g) j)) (R (E (A21 s0.2.1 s0.2.2.1 s0.2.2.2 true)) c)) (s0,none,0,0) w):Calls P 261 #[.string s0] w R:=cok ⟨[],[(2,[(0,.inr 1),(4,.inr 3)])],[],[]⟩ Tryz.func261 h
def Jes(h:JoinP (λc b=>br c (R (E (.bool true)) b) (JoinP (λc b=>br c (R (E (.bool true)) b) (JoinP (λc b=>br c (R (E (.bool true)) b) (B0 (63744<=i0) (B0 (i0<=64975) (R (E (.bool true)) b) (B0 (65008<=i0) (B0 (i0<=65533) (R (E (.bool true)) b) (B0 (65536<=i0) (R (E (.bool (decide (i0<=983039)))) b) (R (E (.bool false)) b))) (B0 (65536<=i0) (R (E (.bool (decide (i0<=983039)))) b) (R (E (.bool false)) b)))) (B0 (65008<=i0) (B0 (i0<=65533) (R (E (.bool true)) b) (B0 (65536<=i0) (R (E (.bool (decide (i0<=983039)))) b) (R (E (.bool false)) b))) (B0 (65536<=i0) (R (E (.bool (decide (i0<=983039)))) b) (R (E (.bool false)) b))))) λ(J:Bool->World->Prop)=>B0 (8304<=i0) (B0 (i0<=8591) (J true b) (B0 (11264<=i0) (B0 (i0<=12271) (J true b) (B0 (12289<=i0) (J (decide (i0<=55295)) b) (J false b))) (B0 (12289<=i0) (J (decide (i0<=55295)) b) (J false b)))) (B0 (11264<=i0) (B0 (i0<=12271) (J true b) (B0 (12289<=i0) (J (decide (i0<=55295)) b) (J false b))) (B0 (12289<=i0) (J (decide (i0<=55295)) b) (J false b))))) λ(J:Bool->World->Prop)=>B0 (248<=i0) (B0 (i0<=767) (J true b) (B0 (880<=i0) (B0 (i0<=893) (J true b) (B0 (895<=i0) (B0 (i0<=8191) (J true b) (B0 (i0=8204) (J true b) (J (decide (i0=8205)) b))) (B0 (i0=8204) (J true b) (J (decide (i0=8205)) b)))) (B0 (895<=i0) (B0 (i0<=8191) (J true b) (B0 (i0=8204) (J true b) (J (decide (i0=8205)) b))) (B0 (i0=8204) (J true b) (J (decide (i0=8205)) b))))) (B0 (880<=i0) (B0 (i0<=893) (J true b) (B0 (895<=i0) (B0 (i0<=8191) (J true b) (B0 (i0=8204) (J true b) (J (decide (i0=8205)) b))) (B0 (i0=8204) (J true b) (J (decide (i0=8205)) b)))) (B0 (895<=i0) (B0 (i0<=8191) (J true b) (B0 (i0=8204) (J true b) (J (decide (i0=8205)) b))) (B0 (i0=8204) (J true b) (J (decide (i0=8205)) b)))))) λ(J:Bool->World->Prop)=>B0 (65<=i0) (B0 (i0<=90) (J true w) (B0 (i0=95) (J true w) (B0 (97<=i0) (B0 (i0<=122) (J true w) (B0 (192<=i0) (B0 (i0<=214) (J true w) (B0 (216<=i0) (J (decide (i0<=246)) w) (J false w))) (B0 (216<=i0) (J (decide (i0<=246)) w) (J false w)))) (B0 (192<=i0) (B0 (i0<=214) (J true w) (B0 (216<=i0) (J (decide (i0<=246)) w) (J false w))) (B0 (216<=i0) (J (decide (i0<=246)) w) (J false w)))))) (B0 (i0=95) (J true w) (B0 (97<=i0) (B0 (i0<=122) (J true w) (B0 (192<=i0) (B0 (i0<=214) (J true w) (B0 (216<=i0) (J (decide (i0<=246)) w) (J false w))) (B0 (216<=i0) (J (decide (i0<=246)) w) (J false w)))) (B0 (192<=i0) (B0 (i0<=214) (J true w) (B0 (216<=i0) (J (decide (i0<=246)) w) (J false w))) (B0 (216<=i0) (J (decide (i0<=246)) w) (J false w)))))):Calls P 262 #[.int .i32 i0] w R:=cok ⟨[],[],[(2,[(36,.inr 0)]),(4,[(66,.inr 0)]),(6,[(88,.inr 0)])],[]⟩ Tryz.func262 h
def Jep(h:C2 262 [.int .i32 i0] w λc b=>br c (R (E (.bool true)) b) (B0 (i0=45) (R (E (.bool true)) b) (B0 (i0=46) (R (E (.bool true)) b) (B0 (48<=i0) (B0 (i0<=57) (R (E (.bool true)) b) (B0 (i0=183) (R (E (.bool true)) b) (B0 (768<=i0) (B0 (i0<=879) (R (E (.bool true)) b) (B0 (i0=8255) (R (E (.bool true)) b) (R (E (.bool (decide (i0=8256)))) b))) (B0 (i0=8255) (R (E (.bool true)) b) (R (E (.bool (decide (i0=8256)))) b))))) (B0 (i0=183) (R (E (.bool true)) b) (B0 (768<=i0) (B0 (i0<=879) (R (E (.bool true)) b) (B0 (i0=8255) (R (E (.bool true)) b) (R (E (.bool (decide (i0=8256)))) b))) (B0 (i0=8255) (R (E (.bool true)) b) (R (E (.bool (decide (i0=8256)))) b)))))))):Calls P 263 #[.int .i32 i0] w R:=cok {} Tryz.func263 h
def Jem(h:C19 261 [.string s0] w λd b e a c=>br (!a) (R (E (I (-1:Int))) c) (R (E (I b)) c)):Calls P 264 #[.string s0] w R:=cok {} Tryz.func264 h
def Jam(h:B0 (1<=i0) (R (E (.bool (decide (i0<=4000)))) w) (R (E (.bool false)) w)):Calls P 266 #[I i0] w R:=cok {} Tryz.func266 h
def Jfl(h:B0 (i0<128) (R (E (A25 1 (IntKind.wrap .i32 i0))) w) (B0 (i0<192) (R (E (A25 0 0)) w) (B0 (i0<224) (R (E (A25 2 (IntKind.wrap .i32 (Vc.bits .and .u8 i0 31)))) w) (B0 (i0<240) (R (E (A25 3 (IntKind.wrap .i32 (Vc.bits .and .u8 i0 15)))) w) (B0 (i0<248) (R (E (A25 4 (IntKind.wrap .i32 (Vc.bits .and .u8 i0 7)))) w) (R (E (A25 0 0)) w)))))):Calls P 273 #[.int .u8 i0] w R:=cok {} Tryz.func273 h
def Jfr(h:C2 302 [.int .i32 i0] w λe a=>br (!e) (R (E (A12 (.mk #[]) false)) a) (B0 (i0<128) (C18 303 [.int .i32 i0,.int .u8 0,I 1] a λb a=>R (E (A12 b true)) a) (B0 (i0<2048) (C18 303 [.int .i32 i0,.int .u8 192,I 2] a λb a=>R (E (A12 b true)) a) (B0 (i0<65536) (C18 303 [.int .i32 i0,.int .u8 224,I 3] a λb a=>R (E (A12 b true)) a) (C18 303 [.int .i32 i0,.int .u8 240,I 4] a λb a=>R (E (A12 b true)) a))))):Calls P 274 #[.int .i32 i0] w R:=cok {} Tryz.func274 h
def Jeo(h:B0 (s0=.mk #[]) (R (E (A23 0 0)) w) (((0:Int)<=(0:Int)/\(0:Int)<(↑(s0.size):Int))/\JoinP (St:=Int×Int) (λe b=>JoinP (St:=Int×Int) (λf b=>JoinP (St:=Int×Int) (λd b=>B0 ((↑(s0.size):Int)<d.1) (R (E (A23 (-1:Int) 0)) b) (LoopP (St:=Int×Int) (λc b j=>B0 (c.2<d.1) (inR .i32 (c.1*(64:Int))/\((0:Int)<=c.2/\c.2<(↑(s0.size):Int))/\inR .i32 (c.1*(64:Int)+IntKind.wrap .i32 (sb s0 c.2))/\inR .i32 (c.1*(64:Int)+IntKind.wrap .i32 (sb s0 c.2)-(128:Int))/\inR .i64 (c.2+(1:Int))/\j (c.1*(64:Int)+IntKind.wrap .i32 (sb s0 c.2)-(128:Int),c.2+(1:Int)) b) (C15 313 [.int .i32 c.1] b λh g b=>br (!g) (R (E (A23 (-1:Int) 0)) b) (((0:Int)<=d.1/\d.1<=(↑(s0.size):Int))/\B1 (h=ByteArray.extract s0 0 (d.1.toNat)) (R (E (A23 (-1:Int) 0)) b) (R (E (A23 c.1 d.1)) b)))) (d.2,(1:Int)) b)) λJ=>JoinP (λs0 b=>br s0 (inR .i32 (f.2-(240:Int))/\J ((4:Int),f.2-(240:Int)) b) (J (f.1,f.2) b)) λ(J:Bool->World->Prop)=>((0:Int)<=(0:Int)/\(0:Int)<(↑(s0.size):Int))/\B0 ((240:Int)<=sb s0 (0:Int)) (((0:Int)<=(0:Int)/\(0:Int)<(↑(s0.size):Int))/\J (decide (sb s0 (0:Int)<(248:Int))) b) (J false b)) λJ=>JoinP (λs0 b=>br s0 (inR .i32 (e.2-(224:Int))/\J ((3:Int),e.2-(224:Int)) b) (J (e.1,e.2) b)) λ(J:Bool->World->Prop)=>((0:Int)<=(0:Int)/\(0:Int)<(↑(s0.size):Int))/\B0 ((224:Int)<=sb s0 (0:Int)) (((0:Int)<=(0:Int)/\(0:Int)<(↑(s0.size):Int))/\J (decide (sb s0 (0:Int)<(240:Int))) b) (J false b)) λJ=>JoinP (λe b=>br e (inR .i32 (IntKind.wrap .i32 (sb s0 (0:Int))-(192:Int))/\J ((2:Int),IntKind.wrap .i32 (sb s0 (0:Int))-(192:Int)) b) (J ((1:Int),IntKind.wrap .i32 (sb s0 (0:Int))) b)) λ(J:Bool->World->Prop)=>((0:Int)<=(0:Int)/\(0:Int)<(↑(s0.size):Int))/\B0 ((192:Int)<=sb s0 (0:Int)) (((0:Int)<=(0:Int)/\(0:Int)<(↑(s0.size):Int))/\J (decide (sb s0 (0:Int)<(224:Int))) w) (J false w))):Calls P 299 #[.string s0] w R:=cok ⟨[],[(17,[(5,.inl .i32),(6,.inl .i64)])],[(8,[(4,.inl .i64),(5,.inl .i32)]),(6,[(21,.inr 0)]),(11,[(4,.inl .i64),(5,.inl .i32)]),(9,[(31,.inr 0)]),(14,[(4,.inl .i64),(5,.inl .i32)]),(12,[(41,.inr 0)])],[]⟩ Tryz.func299 h
def Jfh(h:B0 (i0<32) (B0 (i0=9) (R (E (.bool true)) w) (B0 (i0=10) (R (E (.bool true)) w) (R (E (.bool (decide (i0=13)))) w))) (B0 (i0<55296) (R (E (.bool true)) w) (B0 (i0<57344) (R (E (.bool false)) w) (B0 (i0<65534) (R (E (.bool true)) w) (B0 (65536<=i0) (R (E (.bool (decide (i0<=1114111)))) w) (R (E (.bool false)) w)))))):Calls P 302 #[.int .i32 i0] w R:=cok {} Tryz.func302 h
def Jfm(h:inR .i64 (i2-1)/\inR .i64 (6*(i2-1))/\0<=6*(i2-1)/\N19 w (Vc.bits .or .u8 i1 (IntKind.wrap .u8 (Int.fdiv i0 (2^min (Int.toNat (6*(i2-1))) (IntKind.bits .i32))))) λc d=>inR .i64 (i2-2)/\LoopP (St:=(Option Addr×Nat×Nat)×Int) (λa e m=>B0 (0<=a.2) (inR .i64 (6*a.2)/\0<=6*a.2/\N19 e (Vc.bits .or .u8 128 (Vc.bits .and .u8 (IntKind.wrap .u8 (Int.fdiv i0 (2^min (Int.toNat (6*a.2)) (IntKind.bits .i32)))) 63)) λc d=>∃f i h k,App P #[159,159] 159 d (S a.1.1 a.1.2.1 a.1.2.2) (S (some (.mk c 0 none)) 1 1) (S f i h) k/\inR .i64 (a.2-1)/\m ((f,i,h),a.2-1) k) (∃j,B2S P 159 9 e (S a.1.1 a.1.2.1 a.1.2.2) (.string j)/\R (E (.string j)) e)) ((some (.mk c 0 none),1,1),i2-2) d):Calls P 303 #[.int .i32 i0,.int .u8 i1,I i2] w R:=cok ⟨[],[(3,[(7,.inr 3),(8,.inl .i64)])],[],[]⟩ Tryz.func303 h
def Jeq(h:C2 316 [.int .i32 i0] w λd b=>br (!d) (R (E (A12 (.mk #[]) false)) b) (B0 (i0<(128:Int)) (N19 b (IntKind.wrap .u8 i0) λd c=>∃f,B2S P 159 9 c (S (some (.mk d 0 none)) 1 1) (.string f)/\R (E (A12 f true)) c) (B0 (i0<(2048:Int)) ((64:Int)≠(0:Int)/\inR .i32 (Int.tdiv i0 (64:Int))/\inR .i32 ((192:Int)+Int.tdiv i0 (64:Int))/\C21 317 [.int .i32 i0,.int .i32 1] b λg b=>∀d c,New b (.cells #[.int .u8 (IntKind.wrap .u8 ((192:Int)+Int.tdiv i0 (64:Int))),.int .u8 g] 5) d c->∃f,B2S P 159 9 c (S (some (.mk d 0 none)) 2 2) (.string f)/\R (E (A12 f true)) c) (B0 (i0<(65536:Int)) ((4096:Int)≠(0:Int)/\inR .i32 (Int.tdiv i0 (4096:Int))/\inR .i32 ((224:Int)+Int.tdiv i0 (4096:Int))/\C21 317 [.int .i32 i0,.int .i32 64] b λg b=>C21 317 [.int .i32 i0,.int .i32 1] b λh b=>∀d c,New b (.cells #[.int .u8 (IntKind.wrap .u8 ((224:Int)+Int.tdiv i0 (4096:Int))),.int .u8 g,.int .u8 h] 5) d c->∃f,B2S P 159 9 c (S (some (.mk d 0 none)) 3 3) (.string f)/\R (E (A12 f true)) c) ((262144:Int)≠(0:Int)/\inR .i32 (Int.tdiv i0 (262144:Int))/\inR .i32 ((240:Int)+Int.tdiv i0 (262144:Int))/\C21 317 [.int .i32 i0,.int .i32 4096] b λg b=>C21 317 [.int .i32 i0,.int .i32 64] b λh b=>C21 317 [.int .i32 i0,.int .i32 1] b λi b=>∀d c,New b (.cells #[.int .u8 (IntKind.wrap .u8 ((240:Int)+Int.tdiv i0 (262144:Int))),.int .u8 g,.int .u8 h,.int .u8 i] 5) d c->∃f,B2S P 159 9 c (S (some (.mk d 0 none)) 4 4) (.string f)/\R (E (A12 f true)) c))))):Calls P 313 #[.int .i32 i0] w R:=cok {} Tryz.func313 h
def Jel(h:B0 (i0=9) (R (E (.bool true)) w) (B0 (i0=10) (R (E (.bool true)) w) (B0 (i0=13) (R (E (.bool true)) w) (B0 (32<=i0) (B0 (i0<=55295) (R (E (.bool true)) w) (B0 (57344<=i0) (B0 (i0<=65533) (R (E (.bool true)) w) (B0 (65536<=i0) (R (E (.bool (decide (i0<=1114111)))) w) (R (E (.bool false)) w))) (B0 (65536<=i0) (R (E (.bool (decide (i0<=1114111)))) w) (R (E (.bool false)) w)))) (B0 (57344<=i0) (B0 (i0<=65533) (R (E (.bool true)) w) (B0 (65536<=i0) (R (E (.bool (decide (i0<=1114111)))) w) (R (E (.bool false)) w))) (B0 (65536<=i0) (R (E (.bool (decide (i0<=1114111)))) w) (R (E (.bool false)) w))))))):Calls P 316 #[.int .i32 i0] w R:=cok {} Tryz.func316 h
def Jer(h:i1≠(0:Int)/\inR .i32 (Int.tdiv i0 i1)/\(64:Int)≠(0:Int)/\inR .i32 ((128:Int)+Int.tmod (Int.tdiv i0 i1) (64:Int))/\R (E (.int .u8 (IntKind.wrap .u8 ((128:Int)+Int.tmod (Int.tdiv i0 i1) (64:Int))))) w):Calls P 317 #[.int .i32 i0,.int .i32 i1] w R:=cok {} Tryz.func317 h
end
open Go.Proofs Go.RowKit Go.Maps Go.Sort Go.Shelf
def Eg {P : Program} {f : FuncId} {B : Func} (h1 : ((((P.funcs[f]?).map (·.name)).getD "") == "runtime.NumGoroutine") = false := by kernel_rfl) (h2 : P.funcs[f]? = some { B with name := ((P.funcs[f]?).map (·.name)).getD "" } := by kernel_rfl) : Bears P f B := ⟨_, h1, h2⟩
def pX:Ren:= {f:=λ|7=>103|10=>160|n=>n,t:=λ|23=>147|26=>9|3=>3|28=>181|0=>0|27=>180|33=>213|4=>4|n=>n,g:=λn=>n}
def Zu:SlLaysZ.n7 PP pX:=by constructor<;>first|(intros;kernel_rfl)|exact Eg
def XD:Ren:= {f:=λ|6=>102|8=>159|9=>130|11=>223|13=>178|12=>191|23=>234|24=>235|14=>242|15=>243|16=>244|17=>245|18=>246|19=>247|20=>155|21=>248|22=>249|25=>284|26=>268|27=>269|28=>285|29=>286|30=>222|31=>308|n=>n,t:=λ|26=>9|28=>181|24=>106|0=>0|3=>3|37=>244|48=>308|50=>310|4=>4|40=>302|39=>301|45=>175|5=>5|9=>9|51=>335|55=>339|57=>359|58=>157|33=>213|n=>n,g:=λn=>n}
def SQ:SlLaysZ.n6 PP XD:=by constructor<;>first|(intros;kernel_rfl)|exact Eg
def sortSR:Ren:= {f:=λ|6=>130|8=>178|9=>191|19=>234|20=>235|21=>242|22=>243|23=>244|24=>245|25=>246|26=>247|27=>155|28=>248|29=>249|36=>284|31=>268|32=>269|37=>285|38=>286|39=>222|41=>308|n=>n,t:=λ|27=>106|29=>9|3=>3|32=>244|26=>106|0=>0|44=>308|46=>310|4=>4|36=>302|35=>301|41=>175|5=>5|9=>9|53=>335|57=>339|63=>359|64=>157|n=>n,g:=λn=>n}
def WF:SlLaysM.n6 PP sortSR:=by constructor<;>first|(intros;kernel_rfl)|exact Eg
def YK:Ren:= {f:=λ|6=>128|8=>188|9=>189|11=>240|13=>178|12=>241|23=>234|24=>235|14=>275|15=>276|16=>277|17=>278|18=>279|19=>280|20=>281|21=>282|22=>283|25=>304|26=>268|27=>269|28=>305|29=>306|30=>307|31=>314|n=>n,t:=λ|26=>3|28=>217|24=>59|0=>0|3=>3|37=>244|48=>308|50=>310|4=>4|40=>302|39=>301|45=>175|5=>5|9=>9|51=>335|55=>339|57=>359|58=>157|33=>143|n=>n,g:=λn=>n}
def sortedIL:SlLaysZI.n6 PP YK:=by constructor<;>first|(intros;kernel_rfl)|exact Eg
def sortIR:Ren:= {f:=λ|5=>189|8=>178|7=>241|19=>234|20=>235|10=>275|11=>276|12=>277|13=>278|14=>279|15=>280|16=>281|17=>282|18=>283|30=>304|31=>268|32=>269|33=>305|34=>306|35=>307|40=>314|n=>n,t:=λ|23=>59|25=>3|3=>3|32=>244|22=>59|0=>0|44=>308|46=>310|4=>4|36=>302|35=>301|41=>175|5=>5|9=>9|53=>335|57=>339|63=>359|64=>157|n=>n,g:=λn=>n}
def qf:SlLaysM.n5 PP sortIR:=by constructor<;>first|(intros;kernel_rfl)|exact Eg
def qJ:Ren:= {f:=λ|7=>107|10=>166|n=>n,t:=λ|23=>83|26=>9|3=>101|28=>181|0=>0|27=>180|33=>213|4=>4|n=>n,g:=λn=>n}
def qH:SlLaysZ.n7 PP qJ:=by constructor<;>first|(intros;kernel_rfl)|exact Eg
def pG:Ren:= {f:=λ|7=>109|10=>168|n=>n,t:=λ|23=>114|26=>9|3=>192|28=>181|0=>0|27=>180|33=>213|4=>4|n=>n,g:=λn=>n}
def qR:SlLaysZ.n7 PP pG:=by constructor<;>first|(intros;kernel_rfl)|exact Eg
def qY:Ren:= {f:=λ|7=>129|10=>190|n=>n,t:=λ|23=>125|26=>3|3=>106|28=>217|0=>0|27=>156|33=>143|4=>4|n=>n,g:=λn=>n}
def o9:SlLaysZI.n7 PP qY:=by constructor<;>first|(intros;kernel_rfl)|exact Eg
def sfCR:Ren:= {f:=λ|6=>118|15=>178|14=>177|28=>234|29=>235|20=>226|21=>227|22=>228|23=>229|24=>230|25=>231|26=>232|27=>233|46=>267|47=>268|48=>269|49=>270|50=>271|57=>301|n=>n,t:=λ|22=>39|24=>55|25=>208|3=>3|39=>244|0=>0|53=>308|55=>310|4=>4|46=>302|45=>301|50=>175|5=>5|9=>9|66=>335|70=>339|76=>359|77=>157|n=>n,g:=λn=>n}
def sfCL:SlLaysF0.n6 PP sfCR:=by constructor<;>first|(intros;kernel_rfl)|exact Eg
def sfRR:Ren:= {f:=λ|6=>132|15=>178|14=>194|28=>234|29=>235|20=>250|21=>251|22=>252|23=>253|24=>254|25=>255|26=>256|27=>257|46=>287|47=>268|48=>269|49=>288|50=>289|57=>309|n=>n,t:=λ|22=>126|24=>204|25=>223|3=>3|39=>244|0=>0|53=>308|55=>310|4=>4|46=>302|45=>301|50=>175|5=>5|9=>9|66=>335|70=>339|76=>359|77=>157|n=>n,g:=λn=>n}
def sfRL:SlLaysF0.n6 PP sfRR:=by constructor<;>first|(intros;kernel_rfl)|exact Eg
def sfAR:Ren:= {f:=λ|6=>199|15=>178|14=>258|28=>234|29=>235|20=>290|21=>291|22=>292|23=>293|24=>294|25=>295|26=>296|27=>297|46=>310|47=>268|48=>269|49=>311|50=>312|57=>315|n=>n,t:=λ|22=>69|24=>142|25=>280|3=>3|39=>244|0=>0|53=>308|55=>310|4=>4|46=>302|45=>301|50=>175|5=>5|9=>9|66=>335|70=>339|76=>359|77=>157|n=>n,g:=λn=>n}
def sfAL:SlLaysF0.n6 PP sfAR:=by constructor<;>first|(intros;kernel_rfl)|exact Eg
section
variable{w:World}{R:Ending->World->Prop}{p0 p1 p2:Option Addr}{n0 n1 n2 n3:Nat}{i0 i1 i2 i3 i4 i5 i6 i7 i8 i9 i10 i11:Int}{s0 s1 s2 s3:ByteArray}{b0 b1:Bool}{m0:Option Nat}{v0:Value}
def Jar(h:LoopP (St:=Int×Int) (λa d q=>B0 (a.2<n0) (onP p0 λe=>D1 a.2 n0/\G4 d (e.add (a.2.toNat*7)) λj k l m n o i b c=>N2 d 0 0 0 0 (.mk #[]) (.mk #[]) none 0 0 λf p=>U2 p f 0 j k l m n o i b c λh=>L6 h f 6 λe b c=>q (IntKind.wrap .i64 (a.1+b),IntKind.wrap .i64 (a.2+1)) h) (B0 ((↑n0:Int)<=50) (R (E (.bool (decide (a.1<=1200)))) d) (R (E (.bool false)) d))) (0,0) w):Calls P 11 #[S p0 n0 n1] w R:=cok ⟨[0,1,2,3,4,5,6,7,8,9,10,11,12],[(3,[(3,.inl .i64),(8,.inl .i64)])],[],[]⟩ Tryz.func11 h
end
end Go.Proofs.YtljenkbpnioipaaGreat
namespace Go.Vc
open Go
noncomputable section
def dec(p:Prop):Bool:= @decide p (Classical.propDecidable p)
def Ee{p:Prop}:dec p=true↔p:=by unfold dec;exact @decide_eq_true_iff p (Classical.propDecidable p)
def LG{p q:Prop}[Decidable p](h:p↔q):decide p=dec q:=by
 rw[iO,Ee,decide_eq_true_iff];exact h
def DI{q:Prop}(h:q):true=dec q:=(Ee.2 h).symm
theorem Bz{q:Prop}(h:¬q):false=dec q:=by
 cases e:dec q with
 |false=>rfl
 |true=>exact(h (Ee.1 e)).elim
def not_dec_of{p q:Prop}[Decidable p](h:¬p↔q):(!decide p)=dec q:=by
 rw[iO,Ee,kN,decide_eq_false_iff_not];exact h
def br_d{p:Prop}{x y:Prop}(a:p->x)(b:¬p->y):br (dec p) x y:=
 Dp (λh=>a (Ee.1 h)) (λh=>b λc=>by rw[Ee.2 c]at h;cases h)
def Gf{p:Prop}{x y:Prop}(a:¬p->x)(b:p->y):br (!dec p) x y:=
 Ec (λh=>a λc=>by rw[Ee.2 c]at h;cases h) (λh=>b (Ee.1 h))
end
def Za{P:Program}{e n a:Nat}{cs vs:LV}(A:Agg P e n)(h:(cs.drop a).take n=vs):Prt P e cs a (.agg vs.toArray):=by
 intro w;simp only[part,Sem.run_bind,IE A.agg,Result.andThen_ok,if_true,run_size A.size,Sem.run_pure];congr 2;apply gQ.1;rw[<- h];simp[jl,gp]
def Gt{z:Int}:inR .i32 z↔ -2147483648<=z/\z<=2147483647:=by
 simp[inR,IntKind.min,IntKind.max,IntKind.signed,IntKind.bits]
end Go.Vc
namespace Go.Proofs.YtljenkbpnioipaaGreat
open Go Go.Vc Go.Nod
def yI32:Scl PP 21:=BN (by kernel_rfl)
def yInt:Scl PP 3:=BN (by kernel_rfl)
def yU8:Scl PP 5:=BN (by kernel_rfl)
def yStr:Scl PP 9:=BN (by kernel_rfl)
def yFn:Scl PP 269:=BN (by kernel_rfl)
def Vl:Agg PP 315 2:=DF (by kernel_rfl)
def pF:Agg PP 317 30:=DF (by kernel_rfl)
def rC:Elt PP 159 5 1 1:=DD (by kernel_rfl)
def XX:PP.underlying 9=some .string:=by kernel_rfl
def VP:PP.underlying 159=some (.slice 5):=by kernel_rfl
def Xx:PP.underlying 5=some (.int .u8):=by kernel_rfl
def V7(a b c:Int)(w:World):CP 238 #[.agg #[.int .i32 a,.int .i32 b],.int .i32 c] w λe w'=>e=eE0 (.bool (dec (a<=c/\c<=b)))/\Hp [] w w' []:=by
 apply Jfk;intro p g f;have H:=(Hp.start w).nw f;refine⟨_,H.lo yI32,AB (λh=>⟨_,H.lo yI32,?_,H.drop⟩) (λh=>⟨?_,H.drop⟩)⟩
 ·rw[LG (q:=a<=c/\c<=b) ⟨λd=>⟨h,d⟩,λd=>d.2⟩]
 ·rw[Bz (q:=a<=c/\c<=b) λd=>h d.1]
def spC(l:List (Int×Int)):LV:=l.flatMap λp=>[.int .i32 p.1,.int .i32 p.2]
theorem Yc:∀(l:List (Int×Int))(k:Nat)(p:Int×Int),l[k]? =some p->((spC l).drop (k*2)).take 2=[.int .i32 p.1,.int .i32 p.2]
 |q::r,0,p,h=>by cases h;rfl
 |q::r,k+1,p,h=>by
  rw[show(k+1)*2=k*2+2 by omega,<- dM];rw[show(spC (q::r)).drop (k*2)=(spC (q::r)).drop (k*2)from rfl,dM,gU,<- dM];exact Yc r k p h
def Cb:List (Int×Int):=[(65,90),(95,95),(97,122),(192,214),(216,246),(248,767),(880,893),(895,8191),(8204,8205),(8304,8591),(11264,12271),(12289,55295),(63744,64975),(65008,65533),(65536,983039)]
def TF:List (Int×Int):=[(45,46),(48,57),(183,183),(768,879),(8255,8256)]
def inL(l:List (Int×Int))(c:Int):Prop:=∃p∈l,p.1<=c/\c<=p.2
def Uz{c:Int}:inL Cb c↔Dz c:=by simp[inL,Cb,Dz]
def TJ{c:Int}:inL TF c\/Dz c↔GX c:=by
 simp only[inL,TF,GX,aP,iU,or_false,exists_eq_or_imp,exists_eq_left];constructor
 ·rintro((h|h|h|h|h)|h)
  ·exact .inl h
  ·exact .inr (.inl h)
  ·exact .inr (.inr (.inl h))
  ·exact .inr (.inr (.inr (.inl h)))
  ·exact .inr (.inr (.inr (.inr (.inl h))))
  ·exact .inr (.inr (.inr (.inr (.inr h))))
 ·rintro(h|h|h|h|h|h)
  ·exact .inl (.inl h)
  ·exact .inl (.inr (.inl h))
  ·exact .inl (.inr (.inr (.inl h)))
  ·exact .inl (.inr (.inr (.inr (.inl h))))
  ·exact .inl (.inr (.inr (.inr (.inr h))))
  ·exact .inr h
def yStarts_spec(w:World):CP 239 #[] w λe w'=>e=eE0 (.agg (spC Cb).toArray)/\Hp [] w w' []:=by
 apply Jft;intro p b a;have H:=(Hp.start w).nw a;refine Hp.stA H EQ4 pF rfl rfl (by simp) rfl λc H=>?_;exact⟨spC Cb,H.loA pF,rfl,H.drop⟩
def QE(c:Int)(w:World):CP 187 #[.int .i32 c] w λe w'=>e=eE0 (.bool (dec (Dz c)))/\Hp [] w w' []:=by
 apply Jfs;refine AC (yStarts_spec w) ?_;rintro _ x ⟨rfl,H⟩;refine⟨spC Cb,rfl,?_⟩;refine LoopP.mk (λm s w'=>∃k:Nat,m=15-k/\k<=15/\s=(k:Int)/\Hp [] w w' []/\∀(j:Nat)(p:Int×Int),j<k->Cb[j]? =some p->¬(p.1<=c/\c<=p.2)) 15 ⟨0,rfl,om,rfl,H,λj p i=>by omega⟩ ?_;rintro m s y next ⟨k,rfl,z,rfl,H,d⟩ a
 refine AB (λh=>?_) (λh=>?_)
 ·have l:k<Cb.length:=by show k<15;omega
  obtain⟨p,f⟩:∃p,Cb[k]? =some p:=⟨_,aB l⟩;refine⟨⟨om,om⟩,p.1,p.2,Za Vl (Yc Cb k p f),?_⟩;intro b A o;replace H:=H.nw o;refine Hp.stA H EQ4 Vl rfl rfl (by simp) rfl λB H=>?_;refine⟨p.1,p.2,H.loA Vl,AC (V7 _ _ _ _) ?_⟩;rintro _ C ⟨rfl,r⟩;replace H:=H.ext0 r;refine⟨_,rfl,br_d (λg=>⟨?_,H.drop⟩) (λg=>⟨iR,a _ _ _ ?_ ⟨k+1,rfl,om,om,H.drop,λj q i n=>?_⟩⟩)⟩
  ·rw[DI (Uz.1 ⟨p,aG f,g⟩)]
  ·omega
  ·by_cases e:j=k
   ·subst e;rw[f]at n;cases n;exact g
   ·exact d j q om n
 ·refine⟨?_,H⟩;rw[Bz λg=>?_];obtain⟨p,f,t⟩:=Uz.2 g;obtain⟨j,i⟩:=ay f;have u:=(aA.1 i).1;have:Cb.length=15:=rfl;exact d j p om i t
def yPart_spec(c:Int)(w:World):CP 186 #[.int .i32 c] w λe w'=>e=eE0 (.bool (dec (GX c)))/\Hp [] w w' []:=by
 apply Jfq;refine LoopP.mk (λm s w'=>∃k:Nat,m=5-k/\k<=5/\s=(k:Int)/\Hp [] w w' []/\∀(j:Nat)(p:Int×Int),j<k->TF[j]? =some p->¬(p.1<=c/\c<=p.2)) 5 ⟨0,rfl,om,rfl,Hp.start w,λj p g=>by omega⟩ ?_;rintro m s r next ⟨k,rfl,z,rfl,H,d⟩ a
 refine AB (λh=>?_) (λh=>?_)
 ·have i:k<TF.length:=by show k<5;omega
  obtain⟨p,f⟩:∃p,TF[k]? =some p:=⟨_,aB i⟩;refine⟨⟨om,om⟩,p.1,p.2,Za Vl (Yc TF k p f),?_⟩;intro b t u;replace H:=H.nw u;refine Hp.stA H EQ4 Vl rfl rfl (by simp) rfl λA H=>?_;refine⟨p.1,p.2,H.loA Vl,AC (V7 _ _ _ _) ?_⟩;rintro _ B ⟨rfl,l⟩;replace H:=H.ext0 l;refine⟨_,rfl,br_d (λn=>⟨?_,H.drop⟩) (λn=>⟨iR,a _ _ _ ?_ ⟨k+1,rfl,om,om,H.drop,λj q g o=>?_⟩⟩)⟩
  ·rw[DI (TJ.1 (.inl ⟨p,aG f,n⟩))]
  ·omega
  ·by_cases e:j=k
   ·subst e;rw[f]at o;cases o;exact n
   ·exact d j q om o
 ·refine AC (QE c r) ?_;rintro _ t ⟨rfl,l⟩;refine⟨_,rfl,?_,H.ext0 l⟩;rw[Ending.returned.injEq,Value.bool.injEq,iO,Ee,Ee];refine⟨λh=>TJ.1 (.inr h),λh=>(TJ.2 h).resolve_left ?_⟩;rintro⟨p,f,x⟩;obtain⟨j,g⟩:=ay f;have y:=(aA.1 g).1;have:TF.length=5:=rfl;exact d j p om g x
def yChar_spec(c:Int)(w:World):CP 302 #[.int .i32 c] w λe w'=>e=eE0 (.bool (dec (CO c)))/\Hp [] w w' []:=by
 apply Jfh;have t:CO c->Ending.returned (.bool true)=eE0 (.bool (dec (CO c)))/\Hp [] w w []:=λh=>⟨by rw[<- DI h],Hp.start w⟩;have f:¬CO c->Ending.returned (.bool false)=eE0 (.bool (dec (CO c)))/\Hp [] w w []:=λh=>⟨by rw[<- Bz h],Hp.start w⟩;have d:∀{p:Prop} [Decidable p],(p↔CO c)->Ending.returned (.bool (decide p))=eE0 (.bool (dec (CO c)))/\Hp [] w w []:=λh=>⟨by rw[LG h],Hp.start w⟩;unfold CO at*;refine AB (λh=>AB (λa=>t om) (λa=>AB (λb=>t om) (λb=>d om))) (λh=>?_);refine AB (λa=>t om) (λa=>AB (λb=>f om) (λb=>AB (λg=>t om) (λg=>AB (λi=>d om) (λi=>f om))))
def FU{z:Int}(h: -2147483648<=z/\z<=2147483647):IntKind.i32.wrap z=z:=wrap_inR (Gt.2 h)
def cont_byte:∀y:Fin 256,Vc.bits .or .u8 128 (Vc.bits .and .u8 (y.val:Int) 63)=128+(y.val:Int)%64:=by decide+kernel
def and_63:∀y:Fin 256,Vc.bits .and .u8 (y.val:Int) 63=(y.val:Int)%64:=by decide+kernel
def and_31:∀y:Fin 256,Vc.bits .and .u8 (y.val:Int) 31=(y.val:Int)%32:=by decide+kernel
def and_15:∀y:Fin 256,Vc.bits .and .u8 (y.val:Int) 15=(y.val:Int)%16:=by decide+kernel
def and_7:∀y:Fin 256,Vc.bits .and .u8 (y.val:Int) 7=(y.val:Int)%8:=by decide+kernel
def and_192:∀y:Fin 256,(Vc.bits .and .u8 (y.val:Int) 192=128)↔(128<=y.val/\y.val<192):=by decide+kernel
def or_0:∀y:Fin 128,Vc.bits .or .u8 0 (y.val:Int)=(y.val:Int):=by decide+kernel
def or_192:∀y:Fin 32,Vc.bits .or .u8 192 (y.val:Int)=192+(y.val:Int):=by decide+kernel
def or_224:∀y:Fin 16,Vc.bits .or .u8 224 (y.val:Int)=224+(y.val:Int):=by decide+kernel
def or_240:∀y:Fin 8,Vc.bits .or .u8 240 (y.val:Int)=240+(y.val:Int):=by decide+kernel
def Me{n:Nat}{z:Int}(h:0<=z)(a:z<n):∃y:Fin n,z=(y.val:Int):=⟨⟨z.toNat,om⟩,by dsimp only;omega⟩
def or_six(c y:Nat)(d:c<33554432)(e:y<64):Vc.bits .or .i32 ((c:Int)*64) (y:Int)=((c*64+y:Nat):Int):=by
 show IntKind.i32.wrap ((BitVec.ofInt 32 ((c:Int)*64)|||BitVec.ofInt 32 (y:Int)).toNat:Int)=_;rw[BitVec.toNat_or,BitVec.toNat_ofInt,BitVec.toNat_ofInt];have a:(((c:Int)*64)%((2^32:Nat):Int)).toNat=c<<<6:=by rw[jS];omega
 have b:((y:Int)%((2^32:Nat):Int)).toNat=y:=om;rw[a,b,<- jV om,jS];exact FU om
def sixB(c:Int)(k:Nat):UInt8:=u8 (128+c/64^k%64)
def OH(c:Int)(k:Nat)(h:k<=5){j:Int}(a:j=k):Int.fdiv c ((2:Int)^min (Int.toNat (6*j)) (IntKind.bits IntKind.i32))=c/64^k:=by
 subst a;have b:Int.toNat ((6:Int)*(k:Int))=6*k:=om;have d:min (6*k) (IntKind.bits IntKind.i32)=6*k:=by simp only[IntKind.bits];omega
 rw[b,d,jm _ (oO (Int.pow_pos om)),oh];rfl
def six_byte(c:Int)(k:Nat)(h:k<=5){j:Int}(a:j=k):Vc.bits .or .u8 128 (Vc.bits .and .u8 (IntKind.u8.wrap (Int.fdiv c ((2:Int)^min (Int.toNat (6*j)) (IntKind.bits IntKind.i32)))) 63)=((sixB c k).toNat:Int):=by
 rw[OH c k h a,FT];obtain⟨y,b⟩:=Me (n:=256) (z:=c/64^k%256) om om;rw[b,cont_byte,sixB,Gp om om];omega
def yLaid_spec(c d:Int)(many:Nat)(f:UInt8)(u:1<=many)(o:many<=4)(w:World)
  (p:Vc.bits .or .u8 d (IntKind.u8.wrap (Int.fdiv c ((2:Int)^min (Int.toNat (6*((many:Int)-1))) (IntKind.bits IntKind.i32))))=(f.toNat:Int)):
  CP 303 #[.int .i32 c,.int .u8 d,I (many:Int)] w λe w'=>e=eE0 (sv (f::(List.range (many-1)).map λj=>sixB c (many-2-j)))/\Hp [] w w' []:=by
 apply Jfm;refine⟨iR,iR,om,λb x i=>?_⟩;rw[p]at i;have H:=((Hp.start w).nw i).qo 1 1 rfl (by simp[maxLen]);refine⟨iR,?_⟩
 refine LoopP.mk (λm s w'=>∃(k:Nat)(a:OA)(l:Nat),m=many-1-k/\k<=many-1/\s=((a,k+1,l),(many:Int)-2-(k:Int))/\
  Hp [] w w' [.own 5 1 a (k+1) l (Aa (f::(List.range k).map λj=>sixB c (many-2-j)))]) (many-1) ⟨0,_,_,om,om,by simp,H⟩ ?_
 rintro m s y next ⟨k,a,l,rfl,z,rfl,H⟩ g
 dsimp only;refine AB (λh=>?_) (λh=>?_)
 ·refine⟨iR,om,λA B i=>?_⟩;rw[six_byte c (many-2-k) om om]at i;replace H:=H.nw i;have q:=H.AX;refine Hp.app rC om q EQ4 (Blk.src VP (H.blk (.head _)) rfl rfl) (by simp only[maxLen];omega) om ?_;intro r t C H;refine⟨iR,g (many-1-(k+1)) _ _ om ⟨k+1,r,t,rfl,om,?_,?_⟩⟩
  ·have:(many:Int)-2-(k:Int)-1=(many:Int)-2-((k+1:Nat):Int):=om;rw[this]
  ·rw[iT,ai]
   have e:Aa (f::((List.range k).map (λj=>sixB c (many-2-j))++[k].map λj=>sixB c (many-2-j)))=Aa (f::(List.range k).map λj=>sixB c (many-2-j))++[.int .u8 ((sixB c (many-2-k)).toNat:Int)]:=by
    rw[<- aC,Cm];rfl
   rw[e];exact H.del1
 ·have n:k=many-1:=om;subst n;refine⟨⟨(f::(List.range (many-1)).map λj=>sixB c (many-2-j)).toArray⟩,b2s VP Xx XX ?_ ?_,rfl,H.drop⟩
  ·rw[Cj];exact(H.ownA (.head _)).cells
  ·rw[GN];simp
def yPut_spec(c:Int)(w:World):CP 274 #[.int .i32 c] w λe w'=>((CO c/\e=eE0 (.tuple #[sv (encP c),.bool true]))\/(¬CO c/\e=eE0 (.tuple #[sv [],.bool false])))/\Hp [] w w' []:=by
 apply Jfr;refine AC (yChar_spec c w) ?_;rintro _ o ⟨rfl,H⟩;refine⟨_,rfl,Gf (λh=>⟨.inr ⟨h,rfl⟩,H⟩) (λh=>?_)⟩;have u:0<=c/\c<=1114111:=by unfold CO at h;omega
 have d:∀(f:UInt8)(a:Nat)(b:Int),1<=a->a<=4->encP c=(f::(List.range (a-1)).map λj=>sixB c (a-2-j))->
   Vc.bits .or .u8 b (IntKind.u8.wrap (Int.fdiv c ((2:Int)^min (Int.toNat (6*((a:Int)-1))) (IntKind.bits IntKind.i32))))=(f.toNat:Int)->
   CallV PP 303 [.int .i32 c,.int .u8 b,I (a:Int)] o λe w'=>∃s,e=eE0 (.string s)/\(((CO c/\Ending.returned (.tuple #[.string s,.bool true])=eE0 (.tuple #[sv (encP c),.bool true]))\/(¬CO c/\Ending.returned (.tuple #[.string s,.bool true])=eE0 (.tuple #[sv [],.bool false])))/\Hp [] w w' []):=by
  intro f a b g p q r;refine AC (yLaid_spec c b a f g p o r) ?_;rintro _ x ⟨rfl,t⟩;exact⟨_,rfl,.inl ⟨h,by rw[q];rfl⟩,H.ext0 t⟩
 refine AB (λg=>?_) (λg=>AB (λl=>?_) (λl=>AB (λm=>?_) (λm=>?_)))
 ·refine d (u8 c) 1 0 om om (by rw[encP,if_pos g];rfl) ?_;rw[OH c 0 om om,FT];obtain⟨y,i⟩:=Me (z:=c) om om;have e:c/64^0%256=(y.val:Int):=by rw[mg];omega
  rw[e,or_0,Gp om om,i]
 ·refine d (u8 (192+c/64)) 2 192 om om (by rw[encP,if_neg g,if_pos l];simp[iT,sixB]) ?_;rw[OH c 1 om om,FT];obtain⟨y,i⟩:=Me (n:=32) (z:=c/64) om om;have e:c/64^1%256=(y.val:Int):=by rw[oU,mg];omega
  rw[e,or_192,Gp om om,i]
 ·refine d (u8 (224+c/4096)) 3 224 om om (by rw[encP,if_neg g,if_neg l,if_pos m];simp[iT,sixB]) ?_;rw[OH c 2 om om,FT];obtain⟨y,i⟩:=Me (n:=16) (z:=c/4096) om om;have e:c/64^2%256=(y.val:Int):=by rw[show(64:Int)^2=4096 by decide];omega
  rw[e,or_224,Gp om om,i]
 ·refine d (u8 (240+c/262144)) 4 240 om om (by rw[encP,if_neg g,if_neg l,if_neg m];simp[iT,sixB]) ?_;rw[OH c 3 om om,FT];obtain⟨y,i⟩:=Me (n:=8) (z:=c/262144) om om;have e:c/64^3%256=(y.val:Int):=by rw[show(64:Int)^3=262144 by decide];omega
  rw[e,or_240,Gp om om,i]
def yHead_spec(x:UInt8)(w:World):CP 273 #[.int .u8 (x.toNat:Int)] w λe w'=>e=eE0 (.tuple #[I ((DL x.toNat).1:Int),.int .i32 (DL x.toNat).2])/\Hp [] w w' []:=by
 apply Jfl;have m:=x.toNat_lt;obtain⟨y,d⟩:=Me (n:=256) (z:=(x.toNat:Int)) om om
 have c:∀{a b:Int},DL x.toNat=(a.toNat,b)->0<=a->Ending.returned (.tuple #[I a,.int .i32 b])=eE0 (.tuple #[I ((DL x.toNat).1:Int),.int .i32 (DL x.toNat).2])/\Hp [] w w []:=λh f=>by
  rw[h,jR f];exact⟨rfl,Hp.start w⟩
 refine AB (λh=>?_) (λh=>AB (λg=>?_) (λg=>AB (λi=>?_) (λi=>AB (λj=>?_) (λj=>AB (λl=>?_) (λl=>?_)))))
 ·refine c ?_ om;rw[DL,if_pos om,FU om];rfl
 ·refine c ?_ om;rw[DL,if_neg om,if_pos om];rfl
 ·refine c ?_ om;rw[DL,if_neg om,if_neg om,if_pos om,d,and_31,FU om];rfl
 ·refine c ?_ om;rw[DL,if_neg om,if_neg om,if_neg om,if_pos om,d,and_15,FU om];rfl
 ·refine c ?_ om;rw[DL,if_neg om,if_neg om,if_neg om,if_neg om,if_pos om,d,and_7,FU om];rfl
 ·refine c ?_ om;rw[DL,if_neg om,if_neg om,if_neg om,if_neg om,if_neg om];rfl
end Go.Proofs.YtljenkbpnioipaaGreat
