/- Part 2 of 6 of the proof of nodetabBack_holds: for every input, from every world that may be reached. -/
import Derived.Test.YtljenkbpnioipaaGreatPbk1
set_option linter.unusedVariables false
set_option linter.unusedSimpArgs false
set_option linter.defProp false
set_option maxRecDepth 100000
set_option maxHeartbeats 4000000
namespace Go.Nod
def Steps:Int->List Rw->Prop
 |_,[]=>True
 |u,r::t=>r.level<=u+1/\Steps r.level t
theorem QD:∀(X Y:List Rw)(u:Int),Steps u (X++Y)->Steps u X
 | [],Y,u,_=>trivial
 |r::t,Y,u,h=>⟨h.1,QD t Y _ h.2⟩
theorem Tf:∀(X:List Rw)(r:Rw)(Y:List Rw)(u:Int),Steps u (X++r::Y)->Steps r.level Y
 | [],r,Y,u,h=>h.2
 |x::t,r,Y,u,h=>Tf t r Y _ h.2
theorem JR:∀(n:Nat)(L:List Rw)(b:Int),L.length<=n->(∀r∈L,b<=r.level)->Steps (b-1) L->∃F,flat F b=L
 |n,[],b,_,_,_=>⟨.nil,rfl⟩
 |n+1,r::t,b,hn,hb,hs=>by
  rw[aK]at hn;have C:=hb r (.head _);have D:r.level<=b-1+1:=hs.1;have c:r.level=b:=om;obtain⟨X,f⟩:∃X,X=t.takeWhile λx=>decide (b<x.level):=⟨_,rfl⟩;obtain⟨Y,g⟩:∃Y,Y=t.dropWhile λx=>decide (b<x.level):=⟨_,rfl⟩;have j:t=X++Y:=by rw[f,g,List.takeWhile_append_dropWhile]
  have d:∀x∈X,b+1<=x.level:=λx m=>by
   rw[f]at m;have:=fQ.1 (List.all_takeWhile (p:=λx=>decide (b<x.level))) x m;have:=of_decide_eq_true this;omega
  have a:Steps b t:=by have:=hs.2;rwa [c]at this
  rw[j]at a hn hb;rw[aF]at hn;obtain⟨K,s⟩:=JR n X (b+1) om d (by rw[show b+1-1=b by omega];exact QD X Y b a)
  have e:Steps (b-1) Y:=by
   cases hYc:Y with
   |nil=>trivial
   |cons y Z=>
    have u:y.level<=b:=by
     have:¬(decide (b<y.level)=true):=by
      have o:=List.head?_dropWhile_not (p:=λx:Rw=>decide (b<x.level)) t;rw[<- g,hYc]at o;simpa using o
     exact jH.1 λh=>this (decide_eq_true h)
    rw[hYc]at a;exact⟨om,Tf X y Z b a⟩
  obtain⟨S,w⟩:=JR n Y b om (λy z=>hb y (.tail _ (aI _ z))) e;refine⟨.cons r.id r.x K S,?_⟩;rw[flat,s,w,j];obtain⟨G,H,J⟩:=r;dsimp only at c⊢;rw[c]
def Ho(l:List Rw)(less:Int):List Rw:=l.map λr=> {r with level:=r.level-less}
def EK(l:List Rw)(k:Nat):Nq:=match l[k]? with
 |some r=>KAd r.level (k+1) ((l.take (yg l k)).drop (k+1))
 |none=>[]
def IA(l:List Rw)(k n:Nat):Nat:=(EK l k).getD n (yg l k)
def Ky(l:List Rw)(n:Nat)(m:List Rw):List Rw:=l.take n++m++l.drop n
theorem Gj:∀(F:Fo)(l d:Int),Ho (flat F l) d=flat F (l-d)
 |.nil,_,_=>rfl
 |.cons i x k s,l,d=>by
  have a:=Gj k (l+1) d;have b:=Gj s l d;rw[Ho]at a b⊢;rw[flat,flat,aj,ai,a,b,show l+1-d=l-d+1 by omega]
section
variable{F:Fo}{p i l q:Int}{x:NX}{k:Fo}{A B:List Rw}{v:Int}
def Mid.KEi(h:Mid F p i l q x k A B v):yg (flat F l) A.length=A.length+1+(ids k).length:=by
 rw[h.fl,end_mid (r:=⟨i,v,x⟩) h.next,BZ]
def Mid.find(h:Mid F p i l q x k A B v)(a:(ids F).Nodup):EI (flat F l) i=some A.length:=by
 have b:=BK F l;rw[h.fl]at b⊢;refine ZU (r:=⟨i,v,x⟩) λz c e=>?_;rw[<- b,ai,bG]at a;exact a.2.2 z.id (aU.2 ⟨z,c,rfl⟩) i (by rw[aj];exact .head _) e
def Mid.here(h:Mid F p i l q x k A B v):(flat F l)[A.length]? =some ⟨i,v,x⟩:=by
 rw[h.fl,bg (aZ _),iL];rfl
def Mid.kids(h:Mid F p i l q x k A B v):EK (flat F l) A.length=begins k (A.length+1):=by
 have a:=h.KEi;rw[EK,h.here];dsimp only;rw[a,h.fl]
 have e:((A++(⟨i,v,x⟩:Rw)::(flat k (v+1)++B)).take (A.length+1+(ids k).length)).drop (A.length+1)=flat k (v+1):=by
  rw[gu,lV,ik om,aO,gq,gq];show(flat k (v+1)++B).take (ids k).length=_;rw[<- BZ k (v+1),iq]
 rw[e,WT]
theorem Mid.spot(h:Mid F p i l q x k A B v)(n:Nat):IA (flat F l) A.length n=A.length+1+Jm k n:=by
 rw[IA,h.kids,h.KEi,Jm,show A.length+1=(A.length+1)+0 by omega,QP];simp;cases(begins k 0)[n]? with
 |none=>rfl
 |some b=>simp;omega
theorem spotN_le(k:Fo)(n:Nat):Jm k n<=(ids k).length:=by
 have c:∀(k:Fo)(m:Nat),∀b∈begins k m,b<=m+(ids k).length:=by
  intro k
  induction k with
  |nil=>intro m b a;cases a
  |cons i x e s _ d=>
   intro m b a;rw[begins]at a;rw[ids,aK,aF];rcases aP.1 a with rfl|a
   ·omega
   have:=d _ b a;omega
 rw[Jm,dH];cases h:(begins k 0)[n]? with
 |none=>exact aZ _
 |some b=>
  have:=c k 0 b (aC h);simp;omega
def Mid.laid(h:Mid F p i l q x k A B v){n:Nat}(c:n<=(xJ k).length)(N:Fo):Ky (flat F l) (IA (flat F l) A.length n) (flat N (v+1))=flat (under i (putAt n N) F) l:=by
 have a:=spotN_le k n;rw[h.un,TZ n N k (v+1) c,h.spot,Ky,h.fl];obtain⟨X,b⟩:∃X,X=A++[(⟨i,v,x⟩:Rw)]:=⟨_,rfl⟩;have d:A.length+1+Jm k n=X.length+Jm k n:=by rw[b,aF];rfl
 have e:∀Y,A++(⟨i,v,x⟩:Rw)::Y=X++Y:=λY=>by rw[b];simp
 rw[d,e,e];rw[List.take_append,lV,aV (lW _ _),ik (show X.length<=_ from lW _ _),gq,l9 (by rw[BZ];exact a),List.drop_append_of_le_length (by rw[BZ];exact a)];simp
end
def BX(l:List Rw)(k:Nat):List Rw:=l.take k++l.drop (yg l k)
def KBS(l:List Rw)(k:Nat):List Rw:=(l.take (yg l k)).drop k
section
variable{F:Fo}{p i l q:Int}{x:NX}{k:Fo}{A B:List Rw}{v:Int}
def Mid.KFP(h:Mid F p i l q x k A B v):BX (flat F l) A.length=flat (yJ i F) l:=by
 have a:=h.KEi;rw[BX,a,h.cu,h.fl,iq];have e:A++(⟨i,v,x⟩:Rw)::(flat k (v+1)++B)=(A++(⟨i,v,x⟩::flat k (v+1)))++B:=by simp
 have b:A.length+1+(ids k).length=(A++((⟨i,v,x⟩:Rw)::flat k (v+1))).length:=by rw[aF,aK,BZ];omega
 rw[b,e,jg]
def Mid.seg(h:Mid F p i l q x k A B v):KBS (flat F l) A.length=flat (.cons i x k .nil) v:=by
 have a:=h.KEi;have e:A++(⟨i,v,x⟩:Rw)::(flat k (v+1)++B)=(A++(⟨i,v,x⟩::flat k (v+1)))++B:=by simp
 have b:A.length+1+(ids k).length=(A++((⟨i,v,x⟩:Rw)::flat k (v+1))).length:=by rw[aF,aK,BZ];omega
 rw[KBS,a,h.fl,b,e,iq,jg,flat];simp[flat]
def Mid.ids(h:Mid F p i l q x k A B v):Nod.ids F=A.map (·.id)++(i::(Nod.ids k++B.map (·.id))):=by
 rw[<- BK F l,h.fl,ai,aj,ai,BK]
def Mid.YI(h:Mid F p i l q x k A B v):Nod.ids (yJ i F)=A.map (·.id)++B.map (·.id):=by
 rw[<- BK (yJ i F) l,h.cu,ai]
def Mid.cutNodup(h:Mid F p i l q x k A B v)(a:(Nod.ids F).Nodup):(Nod.ids (yJ i F)).Nodup:=by
 rw[h.ids]at a;rw[h.YI];refine a.sublist (List.Sublist.append_left ?_ _);exact(mr _ _).trans (jl _ _)
def Mid.VV(h:Mid F p i l q x k A B v)(b:(Nod.ids F).Nodup)(j:Int):j∈Nod.ids (yJ i F)↔j∈Nod.ids F/\j≠i/\j∉Nod.ids k:=by
 have d:=h.ids;rw[h.YI,d];rw[d]at b;simp only[aT,aP];rw[bG,bH,bG]at b;obtain⟨_,⟨g,_,_,m⟩,f⟩:=b;constructor
 ·rintro(a|a)
  ·exact⟨.inl a,λe=>f j a i (.head _) e,λc=>f j a j (.tail _ (aS _ c)) rfl⟩
  exact⟨.inr (.inr (.inr a)),λe=>g (by rw[<- e];exact aI _ a),λc=>m j c j a rfl⟩
 rintro⟨a|a|a|a,n,o⟩
 ·exact .inl a
 ·exact absurd a n
 ·exact absurd a o
 exact .inr a
theorem Mid.Za(h:Mid F p i l q x k A B v)(d:(Nod.ids F).Nodup){j C D:Int}{n g:NX}{G H:Fo}{A2 J A3 K:List Rw}{o m:Int}(M:Mid F p j l C n G A2 J o)(N:Mid (yJ i F) p j l D g H A3 K m):m=o/\g=n:=by
 have O:(⟨j,o,n⟩:Rw)∈flat F l:=by rw[M.fl];exact aI _ (.head _)
 have R:(⟨j,m,g⟩:Rw)∈flat F l:=by
  have:(⟨j,m,g⟩:Rw)∈flat (yJ i F) l:=by rw[N.fl];exact aI _ (.head _)
  rw[h.cu]at this;rw[h.fl];rcases aT.1 this with h|h
  ·exact aS _ h
  exact aI _ (.tail _ (aI _ h))
 have s:∀(L:List Rw),(L.map (·.id)).Nodup->∀a∈L,∀b∈L,a.id=b.id->a=b:=by
  intro L
  induction L with
  |nil=>intro _ a u;cases u
  |cons r t T=>
   intro d a u b y e;rw[aj,bH]at d;rcases aP.1 u with z|f
   ·rcases aP.1 y with w|c
    ·rw[z,w]
    exact(d.1 (aU.2 ⟨b,c,by rw[<- e,z]⟩)).elim
   rcases aP.1 y with w|c
   ·exact(d.1 (aU.2 ⟨a,f,by rw[e,w]⟩)).elim
   exact T d.2 a f b c e
 have:=s _ (by rw[BK];exact d) _ R _ O rfl;injection this with _ e1 e2
 exact⟨e1,e2⟩
def Mid.move(h:Mid F p i l q x k A B v)(e:(Nod.ids F).Nodup){j f g:Int}{m o:NX}{r b:Fo}{A2 s A3 t:List Rw}{c a:Int}(u:Mid F p j l f m r A2 s c)(d:Mid (yJ i F) p j l g o b A3 t a){n:Nat}(w:n<=(xJ b).length):
  Ky (BX (flat F l) A.length) (IA (BX (flat F l) A.length) A3.length n) (Ho (KBS (flat F l) A.length) (v-c-1))=flat (under j (putAt n (.cons i x k .nil)) (yJ i F)) l:=by
 obtain⟨rfl,rfl⟩:=h.Za e u d;rw[h.KFP,h.seg,Gj,show v-(v-a-1)=a+1 by omega];exact d.laid w _
end
structure En where
 id:Int
 par:Int
 x:NX
 kids:lI
def xO:Fo->Int->List En
 |.nil,_=>[]
 |.cons i x k s,p=>⟨i,p,x,xJ k⟩::(xO k i++xO s p)
theorem Ce:∀(F:Fo)(p:Int),(xO F p).map (·.id)=ids F
 |.nil,_=>rfl
 |.cons i x k s,p=>by rw[xO,ids,aj,ai,Ce k,Ce s]
theorem VS:∀(F G:Fo)(p:Int),xO (app F G) p=xO F p++xO G p
 |.nil,G,p=>rfl
 |.cons i x k s,G,p=>by rw[app,xO,xO,VS s G p];simp
theorem PU:∀(n:Nat)(N F:Fo)(p:Int),n<=(xJ F).length->(xO (putAt n N F) p).Perm (xO N p++xO F p)
 |0,N,F,p,_=>by rw[putAt,VS]
 |n+1,N,.nil,p,h=>by simp[xJ]at h
 |n+1,N,.cons i x k s,p,h=>by
  have a:=PU n N s p (by rw[xJ,aK]at h;omega);rw[putAt,xO,xO];refine(((a.append_left (xO k i)).cons _).trans ?_);have b:(⟨i,p,x,xJ k⟩::(xO k i++(xO N p++xO s p)):List En)=((⟨i,p,x,xJ k⟩::xO k i)++xO N p)++xO s p:=by simp
  have c:(xO N p++⟨i,p,x,xJ k⟩::(xO k i++xO s p):List En)=(xO N p++(⟨i,p,x,xJ k⟩::xO k i))++xO s p:=by simp
  rw[b,c];exact dU.append_right _
theorem TJ:∀(F:Fo),∀i∈xJ F,i∈ids F
 |.cons j x k s,i,h=>by
  rw[xJ]at h;rw[ids];rcases aP.1 h with rfl|h
  ·exact .head _
  exact .tail _ (aI _ (TJ s i h))
theorem Oj(i:Int)(f:Fo->Fo):∀(F:Fo),xJ (under i f F)=xJ F
 |.nil=>rfl
 |.cons j x k s=>by
  rw[under];split
  ·rfl
  rw[xJ,xJ,Oj i f s]
theorem Qd(i:Int)(f:NX->NX):∀(F:Fo),xJ (Ed i f F)=xJ F
 |.nil=>rfl
 |.cons j x k s=>by
  rw[Ed];split
  ·rfl
  rw[xJ,xJ,Qd i f s]
def Lh{α:Type}(a e:α)(X Y Z:List α):(a::((e::(X++Y))++Z)).Perm (e::(X++(a::(Y++Z)))):=by
 have h:(a::(e::(X++(Y++Z)))).Perm (e::(X++(a::(Y++Z)))):=(List.Perm.swap e a _).trans ((bP (l₁:=X)).symm.cons e);have b:a::((e::(X++Y))++Z)=a::(e::(X++(Y++Z))):=by simp
 rw[b];exact h
def Gl{α:Type}(a e:α)(W X Y:List α):(a::(W++(e::(X++Y)))).Perm (e::(X++(a::(W++Y)))):=by
 have b:(a::(W++(e::(X++Y)))).Perm (e::(a::(W++(X++Y)))):=by
  have:(a::W++e::(X++Y)).Perm (e::(a::W++(X++Y))):=bP;simpa using this
 refine b.trans (List.Perm.cons e ?_);have c:a::(W++(X++Y))=(a::W)++(X++Y):=rfl;have d:X++(a::(W++Y))=X++((a::W)++Y):=rfl;rw[c,d,<- ax,<- ax];exact dU.append_right _
theorem EY:∀(F:Fo)(p i:Int){q:Int}{x:NX}{k:Fo},(ids F).Nodup->AZ F p i=some (q,x,k)->
  ∃R:List En,(xO F p).Perm (⟨i,q,x,xJ k⟩::(xO k i++R))/\(∀f,(xO (under i f F) p).Perm (⟨i,q,x,xJ (f k)⟩::(xO (f k) i++R)))/\∀f,(xO (Ed i f F) p).Perm (⟨i,q,f x,xJ k⟩::(xO k i++R))
 |.nil,p,i,q,x,k,_,h=>by cases h
 |.cons j y kk s,p,i,q,x,k,hn,h=>by
  rw[ids,bH,bG]at hn;obtain⟨t,b,c,d⟩:=hn;rw[AZ]at h;split at h
  ·rename_i e;cases h;subst e;exact⟨xO s p,.refl _,λf=>by rw[under,if_pos rfl];exact .refl _,λf=>by rw[Ed,if_pos rfl];exact .refl _⟩
  rename_i e;split at h
  ·rename_i r a;cases h;have u:i∈ids kk:=(BI kk j i).1 (by rw[a];simp);have n:i∉ids s:=λh=>d i u i h rfl;obtain⟨R,g,l,m⟩:=EY kk j i b a;refine⟨⟨j,p,y,xJ kk⟩::(R++xO s p),?_,λf=>?_,λf=>?_⟩
   ·rw[xO];exact((g.append_right _).cons _).trans (Lh _ _ _ _ _)
   ·rw[under,if_neg e,Hq s n,xO,Oj];exact(((l f).append_right _).cons _).trans (Lh _ _ _ _ _)
   rw[Ed,if_neg e,JY s n,xO,Qd];exact(((m f).append_right _).cons _).trans (Lh _ _ _ _ _)
  rename_i a;have o:i∉ids kk:=λw=>(BI kk j i).2 w a;obtain⟨R,g,l,m⟩:=EY s p i c h;refine⟨⟨j,p,y,xJ kk⟩::(xO kk j++R),?_,λf=>?_,λf=>?_⟩
  ·rw[xO];exact((g.append_left _).cons _).trans (Gl _ _ _ _ _)
  ·rw[under,if_neg e,Hq kk o,xO];exact(((l f).append_left _).cons _).trans (Gl _ _ _ _ _)
  rw[Ed,if_neg e,JY kk o,xO];exact(((m f).append_left _).cons _).trans (Gl _ _ _ _ _)
theorem MF(i:Int):∀(F:Fo),xJ (yJ i F)=(xJ F).erase i
 |.nil=>rfl
 |.cons j x k s=>by
  rw[yJ,xJ];split
  ·rename_i e;rw[e,List.erase_cons_head]
  rename_i e;rw[xJ,List.erase_cons_tail (by simpa using e),MF i s]
theorem P9:∀(F:Fo)(p i:Int){q:Int}{x:NX}{k:Fo},(ids F).Nodup->AZ F p i=some (q,x,k)->
  (i∈xJ F/\q=p/\(xO F p).Perm (⟨i,p,x,xJ k⟩::(xO k i++xO (yJ i F) p)))\/
  (i∉xJ F/\∃(r:En)(R:List En),r.id=q/\i∈r.kids/\(xO F p).Perm (⟨i,q,x,xJ k⟩::(xO k i++r::R))/\(xO (yJ i F) p).Perm ({r with kids:=r.kids.erase i}::R))
 |.nil,p,i,q,x,k,_,h=>by cases h
 |.cons j y a s,p,i,q,x,k,hn,h=>by
  rw[ids,bH,bG]at hn;obtain⟨C,g,l,m⟩:=hn;rw[AZ]at h;split at h
  ·rename_i e;cases h;subst e;exact .inl ⟨.head _,rfl,by rw[xO,yJ,if_pos rfl]⟩
  rename_i e;have A:i≠j:=λh=>e h.symm;split at h
  ·rename_i G f;cases h;have D:i∈ids a:=(BI a j i).1 (by rw[f];simp);have n:i∉ids s:=λh=>m i D i h rfl
   have o:i∉xJ (.cons j y a s):=λb=>by
    rw[xJ]at b;rcases aP.1 b with h|h
    ·exact A h
    exact n (TJ s i h)
   right;refine⟨o,?_⟩;rcases P9 a j i g f with⟨c,rfl,t⟩|⟨c,r,R,u,b,w,z⟩
   ·refine⟨⟨q,p,y,xJ a⟩,xO (yJ i a) q++xO s p,rfl,c,?_,?_⟩
    ·rw[xO];exact((t.append_right _).cons _).trans (Lh _ _ _ _ _)
    rw[yJ,if_neg e,GL s n,xO,MF]
   refine⟨r,⟨j,p,y,xJ a⟩::(R++xO s p),u,b,?_,?_⟩
   ·rw[xO];refine((w.append_right _).cons _).trans ((Lh _ _ _ _ _).trans (List.Perm.cons _ (kC _ ?_)));rw[aH];exact .swap _ _ _
   rw[yJ,if_neg e,GL s n,xO,MF,lH c];refine((z.append_right _).cons _).trans ?_;rw[aH];exact .swap _ _ _
  rename_i f;have B:i∉ids a:=λb=>(BI a j i).2 b f;rcases P9 s p i l h with⟨c,rfl,t⟩|⟨c,r,R,u,b,w,z⟩
  ·refine .inl ⟨.tail _ c,rfl,?_⟩;rw[yJ,if_neg e,GL a B,xO,xO];exact((t.append_left _).cons _).trans (Gl _ _ _ _ _)
  refine .inr ⟨λd=>?_,r,⟨j,p,y,xJ a⟩::(xO a j++R),u,b,?_,?_⟩
  ·rw[xJ]at d;rcases aP.1 d with h|h
   ·exact A h
   exact c h
  ·rw[xO];refine((w.append_left _).cons _).trans ((Gl _ _ _ _ _).trans (List.Perm.cons _ (kC _ ?_)));have:=Gl (⟨j,p,y,xJ a⟩:En) r (xO a j) [] R;simpa using this
  rw[yJ,if_neg e,GL a B,xO];refine((z.append_left _).cons _).trans ?_;have:=Gl (⟨j,p,y,xJ a⟩:En) ({r with kids:=r.kids.erase i}:En) (xO a j) [] R;simpa using this
def ids_put(n:Nat)(N F:Fo)(h:n<=(xJ F).length):(ids (putAt n N F)).Perm (ids N++ids F):=by
 have:=(PU n N F 0 h).map (·.id)
 rwa [ai,Ce,Ce,Ce]at this
def WJ{F:Fo}{p i q:Int}{x:NX}{k:Fo}(f:(ids F).Nodup)(h:AZ F p i=some (q,x,k)){n:Nat}(g:n<=(xJ k).length)(N:Fo):(ids (under i (putAt n N) F)).Perm (ids N++ids F):=by
 obtain⟨R,j,l,_⟩:=EY F p i f h;have a:=j.map (·.id);have b:=(l (putAt n N)).map (·.id);rw[aj,ai,Ce,Ce]at a b;refine b.trans ?_;have c:=ids_put n N k g;have d:(i::(ids (putAt n N k)++R.map (·.id))).Perm (i::((ids N++ids k)++R.map (·.id))):=(c.append_right _).cons _;refine d.trans ?_
 have e:(i::((ids N++ids k)++R.map (·.id))).Perm (ids N++(i::(ids k++R.map (·.id)))):=by
  rw[ax];exact bP.symm
 exact e.trans (a.symm.append_left _)
def ids_turn{F:Fo}{p i q:Int}{x:NX}{k:Fo}(c:(ids F).Nodup)(h:AZ F p i=some (q,x,k))(f:NX->NX):(ids (Ed i f F)).Perm (ids F):=by
 obtain⟨R,d,_,e⟩:=EY F p i c h;have a:=d.map (·.id);have b:=(e f).map (·.id);rw[aj,ai,Ce,Ce]at a b;exact b.trans a.symm
def under_nodup{F:Fo}{p i q:Int}{x:NX}{k:Fo}(c:(ids F).Nodup)(h:AZ F p i=some (q,x,k)){n:Nat}(d:n<=(xJ k).length){N:Fo}(f:(ids N).Nodup)(g:∀j∈ids N,j∉ids F):(ids (under i (putAt n N) F)).Nodup:=
 (WJ c h d N).nodup_iff.2 (bG.2 ⟨f,c,λa l b m e=>g a l (e▸m)⟩)
def Mid.level{F:Fo}{p i l q:Int}{x:NX}{k:Fo}{A B:List Rw}{v:Int}(h:Mid F p i l q x k A B v):(⟨i,v,x⟩:Rw)∈flat F l:=by
 rw[h.fl];exact aI _ (.head _)
def CS(c:Int):Prop:=c=9\/c=10\/c=13\/(32<=c/\c<=55295)\/(57344<=c/\c<=65533)\/(65536<=c/\c<=1114111)
instance (c:Int):Decidable (CS c):=by unfold CS;infer_instance
def EH(c:Int):Prop:=(65<=c/\c<=90)\/(95<=c/\c<=95)\/(97<=c/\c<=122)\/(0xc0<=c/\c<=0xd6)\/(0xd8<=c/\c<=0xf6)\/(0xf8<=c/\c<=0x2ff)\/(0x370<=c/\c<=0x37d)\/(0x37f<=c/\c<=0x1fff)\/(0x200c<=c/\c<=0x200d)\/(0x2070<=c/\c<=0x218f)\/(0x2c00<=c/\c<=0x2fef)\/(0x3001<=c/\c<=0xd7ff)\/(0xf900<=c/\c<=0xfdcf)\/(0xfdf0<=c/\c<=0xfffd)\/(0x10000<=c/\c<=0xeffff)
instance (c:Int):Decidable (EH c):=by unfold EH;infer_instance
def IB(c:Int):Prop:=(45<=c/\c<=46)\/(48<=c/\c<=57)\/(0xb7<=c/\c<=0xb7)\/(0x300<=c/\c<=0x36f)\/(0x203f<=c/\c<=0x2040)\/EH c
instance (c:Int):Decidable (IB c):=by unfold IB;infer_instance
def u8(n:Int):UInt8:=UInt8.ofNat n.toNat
def IK{n:Int}(h:0<=n)(a:n<256):((u8 n).toNat:Int)=n:=by
 rw[u8,pK];omega
def yD(c:Int):LU:=
 if c<128 then [u8 c]else if c<2048 then [u8 (192+c/64),u8 (128+c%64)]
 else if c<65536 then [u8 (224+c/4096),u8 (128+c/64%64),u8 (128+c%64)]
 else [u8 (240+c/262144),u8 (128+c/4096%64),u8 (128+c/64%64),u8 (128+c%64)]
def Dc(x:Nat):Nat×Int:=
 if x<128 then(1,x)else if x<192 then(0,0)else if x<224 then(2,x%32)else if x<240 then(3,x%16)else if x<248 then(4,x%8)else(0,0)
def FT(c:Int)(l:LU):Int:=l.foldl (λc x=>c*64+(x.toNat:Int)%64) c
structure Shape(c:Int)(b:UInt8)(r:LU)(c0:Int):Prop where
 enc:yD c=b::r
 head:Dc b.toNat=(r.length+1,c0)
 tail:∀x∈r,128<=x.toNat/\x.toNat<192
 fold:FT c0 r=c
 len:r.length<=3
def Vy{c:Int}(h:CS c):∃b r j,Shape c b r j:=by
 have o:0<=c/\c<=1114111:=by unfold CS at h;omega
 have a:∀n:Int,((u8 (128+n%64)).toNat:Int)=128+n%64:=λn=>IK om om;by_cases f:c<128
 ·refine⟨u8 c,[],c,by rw[yD,if_pos f],?_,by simp,rfl,by simp⟩;have e:=IK (n:=c) om om;rw[Dc,if_pos om,e];rfl
 by_cases g:c<2048
 ·have e:=IK (n:=192+c/64) om om;refine⟨_,_,c/64,by rw[yD,if_neg f,if_pos g],?_,?_,?_,by simp⟩
  ·rw[Dc,if_neg om,if_neg om,if_pos om];simp;omega
  ·intro x d;simp at d;subst d;have:=a c;omega
  simp only[FT,dP,jF,a];omega
 by_cases i:c<65536
 ·have e:=IK (n:=224+c/4096) om om;refine⟨_,_,c/4096,by rw[yD,if_neg f,if_neg g,if_pos i],?_,?_,?_,by simp⟩
  ·rw[Dc,if_neg om,if_neg om,if_neg om,if_pos om];simp only[aK,dK,Prod.mk.injEq,true_and];omega
  ·intro x d;simp only[aP,iP,or_false]at d;have l:=a c;have m:=a (c/64);rcases d with rfl|rfl<;>omega
  simp only[FT,dP,jF,a];omega
 have e:=IK (n:=240+c/262144) om om;refine⟨_,_,c/262144,by rw[yD,if_neg f,if_neg g,if_neg i],?_,?_,?_,by simp⟩
 ·rw[Dc,if_neg om,if_neg om,if_neg om,if_neg om,if_pos om];simp only[aK,dK,Prod.mk.injEq,true_and];omega
 ·intro x d;simp only[aP,iP,or_false]at d;have l:=a c;have m:=a (c/64);have p:=a (c/4096);rcases d with rfl|rfl|rfl<;>omega
 simp only[FT,dP,jF,a];omega
def Dec(l:LU)(c:Int):Prop:=CS c/\yD c<+:l
def KP{c:Int}(h:CS c):1<=(yD c).length/\(yD c).length<=4:=by
 obtain⟨b,r,d,a⟩:=Vy h;rw[a.enc,aK];have:=a.len;omega
def Dec.shape{l:LU}{c:Int}(h:Dec l c):∃b r a t,Shape c b r a/\l=b::(r++t)/\(yD c).length=r.length+1:=by
 obtain⟨b,r,a,d⟩:=Vy h.1;obtain⟨t,e⟩:=h.2;rw[d.enc]at e;exact⟨b,r,a,t,d,by rw[<- e];rfl,by rw[d.enc];rfl⟩
def LD(l:LU):Int:=FT (Dc (l.headD 0).toNat).2 ((l.take (Dc (l.headD 0).toNat).1).drop 1)
def Dec.next{l:LU}{c:Int}(h:Dec l c):(Dc (l.headD 0).toNat).1=(yD c).length/\(yD c).length<=l.length/\LD l=c/\∀x∈(l.take (Dc (l.headD 0).toNat).1).drop 1,128<=x.toNat/\x.toNat<192:=by
 obtain⟨b,r,f,t,a,rfl,d⟩:=h.shape;have e:((b::(r++t)).take (r.length+1)).drop 1=r:=by simp
 refine⟨by rw[jw,a.head,d],by rw[d,aK,aF];omega,?_,?_⟩
 ·rw[LD,jw,a.head];rw[e,a.fold]
 rw[jw,a.head];rw[e];exact a.tail
def Dec.one{l:LU}{c d:Int}(h:Dec l c)(a:Dec l d):c=d:=by
 rw[<- h.next.2.2.1,<- a.next.2.2.1]
def Hm(l:LU)(cs:lI):Prop:=(∀c∈cs,CS c)/\cs.flatMap yD=l
theorem Hm.nil{cs:lI}(h:Hm [] cs):cs=[]:=by
 cases cs with
 |nil=>rfl
 |cons c r=>
  have b:=KP (h.1 c (.head _));have a:=congrArg List.length h.2;simp only[bW,aF,dK]at a;omega
theorem Hm.cons{l:LU}{cs:lI}(h:Hm l cs)(b:l≠[]):∃c r,cs=c::r/\Dec l c/\Hm (l.drop (yD c).length) r:=by
 cases cs with
 |nil=>exact(b h.2.symm).elim
 |cons c r=>
  have a:=h.2;rw[bW]at a;refine⟨c,r,rfl,⟨h.1 c (.head _),⟨_,a⟩⟩,λd e=>h.1 d (.tail _ e),?_⟩;rw[<- a,jg]
theorem Hm.one:∀{cs ds:lI}{l:LU},Hm l cs->Hm l ds->cs=ds
 | [],ds,l,h,h'=>by
  have:l=[]:=h.2.symm;subst this;exact h'.nil.symm
 |c::r,ds,l,h,h'=>by
  have d:l≠[]:=λe=>by subst e;exact absurd h.nil (by simp)
  obtain⟨i,j,e,f,g⟩:=h.cons d;cases e;obtain⟨m,n,rfl,a,b⟩:=h'.cons d;have:=f.one a;subst this;rw[g.one b]
def Uk(s:BA):Prop:=∃cs,Hm s.data.toList cs
def CZ(s:BA):Prop:=1<=s.size/\s.size<=60/\∃cs,Hm s.data.toList cs/\(∀c∈cs,IB c)/\∀c,cs.head? =some c->EH c
noncomputable section
open Classical
structure It where
 level:Int
 x:NX
abbrev At:=BA×BA
def ltB(a b:BA):Prop:=a.data.toList<b.data.toList
def EF(a:BA):¬ltB a a:=kz _
def Fq{a b c:BA}(h:ltB a b)(d:ltB b c):ltB a c:=List.lt_trans h d
def V7{a b:BA}(h:ltB a b)(c:ltB b a):False:=EF a (Fq h c)
def eqB{a b:BA}(h:a.data.toList=b.data.toList):a=b:=by
 obtain⟨a⟩:=a;obtain⟨b⟩:=b;exact congrArg ByteArray.mk (pI h)
def P6(a b:BA):ltB a b\/a=b\/ltB b a:=by
 by_cases h:a.data.toList<b.data.toList
 ·exact .inl h
 rcases oV.1 (List.not_lt.1 h)with h|h
 ·exact .inr (.inr h)
 exact .inr (.inl (eqB h).symm)
def Rs(l:List At):Prop:=l.Pairwise λa b=>ltB a.1 b.1
def BH(s:BA):Int:=if¬Uk s then 64 else if 1500<s.size then 67 else 0
def Nj(l:List At):Prop:=(∀a∈l,CZ a.1)/\Rs l
def valsE:List At->Int
 | []=>0
 |a::r=>if BH a.2=0 then valsE r else BH a.2
def CG(x:NX):Int:=if¬CZ x.name then 63 else if¬Nj x.FP then 63 else if 20<x.FP.length then 67 else 0
def Ap(x:NX):Int:=
 if x.kind=2 then(if x.name=⟨#[]⟩/\x.FP=[]then BH x.text else 68)
 else if x.kind=1/\x.text=⟨#[]⟩then(if CG x=0 then valsE x.FP else CG x)else 68
def Bi(l:List It)(k:Nat)(x:It):Int:=
 if k=0/\(x.level≠0\/x.x.kind≠1)then 69
 else if 0<k/\(x.level<1\/∃y,l[k-1]? =some y/\(y.level+1<x.level\/(y.level<x.level/\y.x.kind=2)))then 69
 else if 40<=x.level then 42 else if 1000<=k then 43 else 0
def zN(l:List It)(k:Nat)(x:It):Int:=if Bi l k x=0 then Ap x.x else Bi l k x
def Ep(l:List It):Nat->List It->Nat×Int
 |_,[]=>(0,0)
 |k,x::r=>if zN l k x=0 then Ep l (k+1) r else(k,zN l k x)
def Dp(l:List It):Nat×Int:=if l=[]then(0,40)else Ep l 0 l
theorem NJ(l:List It):∀(r:List It)(k:Nat),(Ep l k r).2=0↔∀(i:Nat)(x:It),r[i]? =some x->zN l (k+i) x=0
 | [],k=>by simp[Ep]
 |x::r,k=>by
  rw[Ep];split
  ·rename_i h;rw[NJ l r (k+1)];constructor
   ·intro a i y b;cases i with
    |zero=>cases b;exact h
    |succ i=>rw[show k+(i+1)=k+1+i by omega];exact a i y b
   intro a i y b;rw[show k+1+i=k+(i+1) by omega];exact a (i+1) y b
  rename_i h;constructor
  ·intro a;exact(h a).elim
  intro a;exact(h (a 0 x rfl)).elim
def Vj{x:NX}(h:Ap x=0):x.kind=1\/x.kind=2:=by
 rw[Ap]at h;split at h
 ·exact .inr (by assumption)
 split at h
 ·exact .inl (by rename_i a;exact a.1)
 cases h
def FOk:Fo->Prop
 |.nil=>True
 |.cons _ x k s=>Ap x=0/\(x.kind≠1->k=.nil)/\FOk k/\FOk s
def KFL(p r:Rw):Prop:=r.level<=p.level+1/\(p.x.kind≠1->r.level<=p.level)
def Adj:List Rw->Prop
 | []=>True
 | [_]=>True
 |p::r::t=>KFL p r/\Adj (r::t)
theorem Yg{p:Rw}{t:List Rw}(h:Adj (p::t)):Adj t:=by
 cases t with
 |nil=>trivial
 |cons r t=>exact h.2
theorem UB:∀(X Y:List Rw),Adj (X++Y)->Adj X/\Adj Y
 | [],Y,h=>⟨trivial,h⟩
 | [x],Y,h=>⟨trivial,Yg h⟩
 |x::y::X,Y,h=>by
  obtain⟨a,b⟩:=UB (y::X) Y h.2;exact⟨⟨h.1,a⟩,b⟩
theorem Zc:∀(X Y:List Rw),Adj X->Adj Y->(∀p r,X.getLast? =some p->Y.head? =some r->KFL p r)->Adj (X++Y)
 | [],Y,_,h,_=>h
 | [x],[],_,_,_=>trivial
 | [x],y::Y,_,h,hj=>⟨hj x y rfl rfl,h⟩
 |x::y::X,Y,h,h',hj=>⟨h.1,Zc (y::X) Y h.2 h' λp r a b=>hj p r (by rw[<- a];exact List.getLast?_cons_cons) b⟩
theorem Qq:∀(L:List Rw)(u:Int),Adj L->(∀r,L.head? =some r->r.level<=u+1)->Steps u L
 | [],u,_,_=>trivial
 | [r],u,_,h=>⟨h r rfl,trivial⟩
 |p::r::t,u,h,h'=>⟨h' p rfl,Qq (r::t) p.level h.2 λb a=>by cases a;exact h.1.1⟩
theorem Ll:∀(F:Fo)(l:Int),FOk F->Adj (flat F l)
 |.nil,l,_=>trivial
 |.cons i x k s,l,h=>by
  obtain⟨n,c,d,f⟩:=h;rw[flat,<- aH];refine Zc _ _ ?_ (Ll s l f) λp r g b=>?_
  ·cases hk:flat k (l+1)with
   |nil=>trivial
   |cons r t=>
    have b:=Fj k (l+1) r (by rw[hk];rfl);refine⟨⟨?_,λj=>?_⟩,?_⟩
    ·show r.level<=l+1;omega
    ·have:=c j;subst this;cases hk
    rw[<- hk];exact Ll k (l+1) d
  have e:=Fj s l r b
  have m:l<=p.level:=by
   have a:=mD g;rcases aP.1 a with rfl|a
   ·exact gz _
   have:=Bh k (l+1) p a;omega
  exact⟨om,λ_=>by omega⟩
theorem Pn:∀(F:Fo)(l:Int),Adj (flat F l)->(∀r∈flat F l,Ap r.x=0)->FOk F
 |.nil,l,_,_=>trivial
 |.cons i x k s,l,h,hp=>by
  rw[flat]at h hp;obtain⟨a,c⟩:=UB (_::flat k (l+1)) (flat s l) (by rw[aH];exact h);refine⟨hp _ (.head _),λd=>?_,Pn k (l+1) (Yg a) λr b=>hp r (.tail _ (aS _ b)),Pn s l c λr b=>hp r (.tail _ (aI _ b))⟩;cases k with
  |nil=>rfl
  |cons j y f g=>
   rw[flat]at a;have e:=a.1.2 d;dsimp only at e;omega
theorem GH:∀(F:Fo)(l:Int),FOk F->∀r∈flat F l,Ap r.x=0
 |.nil,l,_,r,a=>by cases a
 |.cons i x k s,l,h,r,a=>by
  rw[flat]at a;rcases aP.1 a with rfl|a
  ·exact h.1
  rcases aT.1 a with a|a
  ·exact GH k _ h.2.2.1 r a
  exact GH s _ h.2.2.2 r a
end
noncomputable section
open Classical
structure Tr where
 L:List Rw
 next:Int
structure OpP where
 kind:Int
 id:Int
 to:Int
 at_:Int
 name:BA
 text:BA
 l:List It
def Ar(n more:Int):List It->List Rw
 | []=>[]
 |x::r=>⟨n,x.level+more,x.x⟩::Ar (n+1) more r
theorem Eo(more:Int):∀(l:List It)(n:Int),(Ar n more l).length=l.length
 | [],_=>rfl
 |x::r,n=>by rw[Ar,aK,aK,Eo more r]
theorem Dz(more:Int):∀(l:List It)(n:Int)(k:Nat),(Ar n more l)[k]? =(l[k]?).map λx=>⟨n+k,x.level+more,x.x⟩
 | [],n,k=>by simp[Ar]
 |x::r,n,0=>by simp[Ar]
 |x::r,n,k+1=>by
  rw[Ar,bI,bI,Dz more r (n+1) k];rw[show n+1+(k:Int)=n+((k+1:Nat):Int) by omega]
def atR(L:List Rw)(i:Int):Option (Nat×Rw):=match EI L i with
 |some k=>(L[k]?).map λr=>(k,r)
 |none=>none
def IR:Option It->Int
 |none=>0
 |some y=>if y.x.kind=2 then y.level else y.level+1
def DW:Option It->List It->Int
 |_,[]=>0
 |p,x::r=>if x.level<0\/IR p<x.level then 69 else if Ap x.x=0 then DW (some x) r else Ap x.x
def CX(l:List It):Int:=if l=[]then 40 else DW none l
def J9(d:Int):List It->Int
 | []=>d
 |x::r=>J9 (max d x.level) r
def deepest(l:List It):Int:=J9 0 l
def Tr.load(T:Tr)(l:List It):Tr×Int×Int:=
 if(Dp l).2≠0 then(T,0,(Dp l).2)else if 2147483647<T.next+l.length then(T,0,66)
 else(⟨Ar T.next 0 l,T.next+l.length⟩,T.next,0)
def Tr.insert(T:Tr)(id at_:Int)(l:List It):Tr×Int×Int:=match atR T.L id with
 |none=>(T,0,60)
 |some (k,r)=>
  if r.x.kind≠1 then(T,0,68)else if at_<0\/((EK T.L k).length:Int)<at_ then(T,0,69)
  else if CX l≠0 then(T,0,CX l)else if 40<=r.level+1+deepest l then(T,0,65)
  else if 1000<T.L.length+l.length\/2147483647<T.next+l.length then(T,0,66)
  else(⟨Ky T.L (IA T.L k at_.toNat) (Ar T.next (r.level+1) l),T.next+l.length⟩,T.next,0)
def Tr.delete(T:Tr)(id:Int):Tr×Int:=match atR T.L id with
 |none=>(T,60)
 |some (k,_)=>if k=0 then(T,62)else(⟨BX T.L k,T.next⟩,0)
def Tr.move(T:Tr)(id to at_:Int):Tr×Int:=match atR T.L id,atR T.L to with
 |some (k,r),some (p,q)=>
  if k=0 then(T,62)else if q.x.kind≠1 then(T,68)else if k<=p/\p<yg T.L k then(T,61)
  else match EI (BX T.L k) to with
   |none=>(T,60)
   |some p'=>
    if at_<0\/((EK (BX T.L k) p').length:Int)<at_ then(T,69)
    else if∃x∈Ho (KBS T.L k) (r.level-q.level-1),40<=x.level then(T,65)
    else(⟨Ky (BX T.L k) (IA (BX T.L k) p' at_.toNat) (Ho (KBS T.L k) (r.level-q.level-1)),T.next⟩,0)
 |_,_=>(T,60)
def CQ:List At->At->List At
 | [],a=>[a]
 |x::r,a=>if ltB x.1 a.1 then x::CQ r a else a::(x::r).filter λy=> !decide (y.1=a.1)
def BR(l:List At)(n:BA):List At:=l.filter λy=> !decide (y.1=n)
def KAn(L:List Rw)(k:Nat)(r:Rw)(x:NX):List Rw:=L.set k {r with x:=x}
def Tr.Be(T:Tr)(id:Int)(a:At):Tr×Int:=match atR T.L id with
 |none=>(T,60)
 |some (k,r)=>
  if r.x.kind≠1 then(T,68)else if¬CZ a.1 then(T,63)else if BH a.2≠0 then(T,BH a.2)
  else if 20<(CQ r.x.FP a).length then(T,67)else(⟨KAn T.L k r {r.x with FP:=CQ r.x.FP a},T.next⟩,0)
def Tr.Bj(T:Tr)(id:Int)(n:BA):Tr×Int:=match atR T.L id with
 |none=>(T,60)
 |some (k,r)=>
  if r.x.kind≠1 then(T,68)else if(BR r.x.FP n).length=r.x.FP.length then(T,63)
  else(⟨KAn T.L k r {r.x with FP:=BR r.x.FP n},T.next⟩,0)
def Tr.Bv(T:Tr)(id:Int)(s:BA):Tr×Int:=match atR T.L id with
 |none=>(T,60)
 |some (k,r)=>
  if r.x.kind≠2 then(T,68)else if BH s≠0 then(T,BH s)else(⟨KAn T.L k r {r.x with text:=s},T.next⟩,0)
def Tr.xg(T:Tr)(o:OpP):Tr×Int×Int:=
 if o.kind=0 then T.load o.l else if o.kind=1 then T.insert o.id o.at_ o.l
 else if o.kind=2 then((T.delete o.id).1,0,(T.delete o.id).2)
 else if o.kind=3 then((T.move o.id o.to o.at_).1,0,(T.move o.id o.to o.at_).2)
 else if o.kind=4 then((T.Be o.id (o.name,o.text)).1,0,(T.Be o.id (o.name,o.text)).2)
 else if o.kind=5 then((T.Bj o.id o.name).1,0,(T.Bj o.id o.name).2)
 else if o.kind=6 then((T.Bv o.id o.text).1,0,(T.Bv o.id o.text).2)
 else(T,0,1)
structure Am(F:Fo)(T:Tr):Prop where
 fl:flat F 0=T.L
 ok:FOk F
 nodup:(ids F).Nodup
 one:F=.nil\/∃i x k,F=.cons i x k .nil/\x.kind=1
 deep:∀r∈T.L,r.level<40
 len:T.L.length<=1000
 pos:∀i∈ids F,1<=i/\i<T.next
 next:1<=T.next/\T.next<=2147483647
def good_new:Am .nil ⟨[],1⟩:=⟨rfl,trivial,.nil,.inl rfl,by simp,by simp,by simp[ids],by decide⟩
theorem V9(more:Int):∀(l:List It)(n:Int),(Ar n more l).map (·.id)=(List.range l.length).map λ(k:Nat)=>n+(k:Int)
 |l,n=>by
  apply dN;intro k;rw[au,Dz,au,Option.map_map];by_cases h:k<l.length
  ·rw[aB h,iy h];rfl
  rw[bC om,bC (by rw[fZ];omega)];rfl
def named_nodup(more:Int)(l:List It)(n:Int):((Ar n more l).map (·.id)).Nodup:=by
 rw[V9];refine dD.2 (List.nodup_range.imp λh e=>h ?_);omega
def Rf{more:Int}{l:List It}{n i:Int}(h:i∈(Ar n more l).map (·.id)):n<=i/\i<n+l.length:=by
 rw[V9]at h;obtain⟨k,a,rfl⟩:=aU.1 h;have:=dW.1 a;omega
theorem OT{l:List It}(h:(Dp l).2=0){n:Int}(hn:1<=n)(Y:n+l.length<=2147483647):∃F,Am F ⟨Ar n 0 l,n+l.length⟩/\F≠.nil:=by
 have Z:l≠[]:=λe=>by rw[Dp,if_pos e]at h;cases h
 rw[Dp,if_neg Z,NJ]at h
 have K:∀(k:Nat)(x:It),l[k]? =some x->Bi l k x=0/\Ap x.x=0:=λk x b=>by
  have:=h k x b;rw[cZ,zN]at this;split at this
  ·exact⟨by assumption,this⟩
  exact absurd this (by assumption)
 have a:∀(k:Nat)(r:Rw),(Ar n 0 l)[k]? =some r->∃x,l[k]? =some x/\r=⟨n+k,x.level,x.x⟩:=λk r d=>by
  rw[Dz]at d;obtain⟨x,b,rfl⟩:=cO.1 d;exact⟨x,b,by rw[Int.add_zero]⟩
 have f:∀(k:Nat)(x:It),l[k]? =some x->x.level<40/\k<1000/\(k=0->x.level=0/\x.x.kind=1)/\∀y,0<k->l[k-1]? =some y->1<=x.level/\x.level<=y.level+1/\(y.x.kind=2->x.level<=y.level):=by
  intro k x b;have u:=(K k x b).1;rw[Bi]at u;split at u
  ·cases u
  rename_i ha;split at u
  ·cases u
  rename_i M;split at u
  ·cases u
  split at u
  ·cases u
  refine⟨om,om,λe=>?_,λy N D=>?_⟩
  ·by_cases e1:x.level=0
   ·exact⟨e1,az λe2=>ha ⟨e,.inr e2⟩⟩
   exact(ha ⟨e,.inl e1⟩).elim
  refine⟨jH.1 λe=>M ⟨N,.inl e⟩,jH.1 λe=>M ⟨N,.inr ⟨y,D,.inl e⟩⟩,λw=>jH.1 λe=>M ⟨N,.inr ⟨y,D,.inr ⟨e,w⟩⟩⟩⟩
 have O:∀(m:Nat)(L:List Rw),(∀k r,L[k]? =some r->(Ar n 0 l)[m+k]? =some r)->Adj L:=by
  intro m L
  induction L generalizing m with
  |nil=>intro _;trivial
  |cons p t ih=>
   cases t with
   |nil=>intro _;trivial
   |cons r t=>
    intro R;refine⟨?_,ih (m+1) λk r' T=>by rw[show m+1+k=m+(k+1) by omega];exact R (k+1) r' T⟩;obtain⟨y,D,rfl⟩:=a _ _ (R 0 p rfl);obtain⟨x,b,rfl⟩:=a _ _ (R 1 r rfl);obtain⟨_,_,_,h4⟩:=f _ _ b;obtain⟨h5,h6,h7⟩:=h4 y om (by rw[show m+1-1=m+0 by omega];exact D);refine⟨h6,λw=>h7 ?_⟩;rcases Vj (K _ _ D).2 with e|e
    ·exact(w e).elim
    exact e
 have A:=O 0 _ λk r d=>by rw[cZ];exact d
 obtain⟨c,g,rfl⟩:=dX Z;have U:=f 0 c rfl;obtain⟨e0,ek⟩:=U.2.2.1 rfl
 have G:∀r∈Ar n 0 (c::g),0<=r.level:=λr d=>by
  obtain⟨k,w⟩:=bD d;obtain⟨x,b,rfl⟩:=a k r w;rcases iO k with rfl|X
  ·cases b;show 0<=c.level;omega
  have C:=(aA.1 b).1;have:=((f k x b).2.2.2 _ X (aB om)).1;show 0<=x.level;omega
 obtain⟨F,o⟩:=JR _ (Ar n 0 (c::g)) 0 (aZ _) G (Qq _ _ A λr d=>by
  obtain⟨x,b,rfl⟩:=a 0 r (by rw[gJ]at d;exact d);cases b;show c.level<=_;omega)
 have B:ids F=(Ar n 0 (c::g)).map (·.id):=by rw[<- o,BK]
 have H:F≠.nil:=λe=>by rw[e,flat,Ar]at o;cases o
 refine⟨F,⟨o,Pn F 0 (by rw[o];exact A) λr d=>?_,by rw[B];exact named_nodup _ _ _,.inr ?_,λr d=>?_,?_,λi hi=>?_,?_⟩,H⟩
 ·rw[o]at d;obtain⟨k,w⟩:=bD d;obtain⟨x,b,rfl⟩:=a k r w;exact(K k x b).2
 ·cases F with
  |nil=>exact(H rfl).elim
  |cons i x k s=>
   have hs:s=.nil:=by
    cases s with
    |nil=>rfl
    |cons j y kk ss=>
     exfalso;rw[flat]at o;have Y:(⟨j,0,y⟩:Rw)∈flat k (0+1)++flat (.cons j y kk ss) 0:=aI _ (by rw[flat];exact .head _);obtain⟨q,hq⟩:=bD Y;have:(Ar n 0 (c::g))[q+1]? =some ⟨j,0,y⟩:=by rw[<- o,bI];exact hq
     obtain⟨z,J,e⟩:=a _ _ this;have C:=(aA.1 J).1;have h9:=((f _ z J).2.2.2 _ om (aB om)).1;injection e with _ e2 _
     omega
   subst hs;refine⟨i,x,k,rfl,?_⟩;rw[flat]at o;have:(Ar n 0 (c::g))[0]? =some ⟨i,0,x⟩:=by rw[<- o];rfl
   obtain⟨z,J,e⟩:=a _ _ this;cases J;injection e with _ _ e3
   rw[e3];exact ek
 ·obtain⟨k,w⟩:=bD (show r∈Ar n 0 (c::g)from d);obtain⟨x,b,rfl⟩:=a k r w;exact(f k x b).1
 ·show(Ar n 0 (c::g)).length<=1000;rw[Eo];have C:(c::g).length-1<(c::g).length:=by rw[aK];omega
  have:=(f _ _ (aB C)).2.1;omega
 ·rw[B]at hi;have:=Rf hi;show 1<=i/\i<n+((c::g).length:Int);omega
 show 1<=n+((c::g).length:Int)/\n+((c::g).length:Int)<=2147483647;omega
end
noncomputable section
open Classical
theorem Am.at_{F:Fo}{T:Tr}(G:Am F T)(i:Int):(AZ F 0 i=none/\atR T.L i=none/\EI T.L i=none)\/
  ∃q x k A B v,AZ F 0 i=some (q,x,k)/\Mid F 0 i 0 q x k A B v/\EI T.L i=some A.length/\atR T.L i=some (A.length,⟨i,v,x⟩):=by
 cases h:AZ F 0 i with
 |none=>
  have c:EI T.L i=none:=by
   rw[EI,jT];intro r d;rw[<- G.fl]at d;have a:r.id∈ids F:=by rw[<- BK F 0];exact aU.2 ⟨r,d,rfl⟩
   have:r.id≠i:=λe=>(BI F 0 i).2 (e▸a) h;simpa using this
  exact .inl ⟨rfl,by rw[atR,c],c⟩
 |some z=>
  obtain⟨q,x,k⟩:=z;obtain⟨A,B,v,a⟩:=CV F 0 i 0 G.nodup h;have b:=a.find G.nodup;rw[G.fl]at b;have f:=a.here;rw[G.fl]at f;exact .inr ⟨q,x,k,A,B,v,rfl,a,b,by rw[atR,b];dsimp only;rw[f];rfl⟩
theorem Lp:∀(F:Fo)(p i:Int){q:Int}{x:NX}{k:Fo},FOk F->AZ F p i=some (q,x,k)->Ap x=0/\(x.kind≠1->k=.nil)/\FOk k
 |.nil,p,i,q,x,k,_,h=>by cases h
 |.cons j y kk s,p,i,q,x,k,hf,h=>by
  rw[AZ]at h;split at h
  ·cases h;exact⟨hf.1,hf.2.1,hf.2.2.1⟩
  split at h
  ·rename_i r a;cases h;exact Lp kk j i hf.2.2.1 a
  exact Lp s p i hf.2.2.2 h
theorem Xu(i:Int):∀(F:Fo),FOk F->FOk (yJ i F)
 |.nil,_=>trivial
 |.cons j y k s,h=>by
  rw[yJ];split
  ·exact h.2.2.2
  exact⟨h.1,λe=>by rw[h.2.1 e];rfl,Xu i k h.2.2.1,Xu i s h.2.2.2⟩
theorem qX:∀(F G:Fo),FOk F->FOk G->FOk (app F G)
 |.nil,G,_,h=>h
 |.cons i x k s,G,h,h'=>⟨h.1,h.2.1,h.2.2.1,qX s G h.2.2.2 h'⟩
theorem sS:∀(n:Nat)(N F:Fo),FOk N->FOk F->FOk (putAt n N F)
 |0,N,F,h,h'=>qX N F h h'
 |n+1,N,.nil,h,_=>h
 |n+1,N,.cons i x k s,h,h'=>⟨h'.1,h'.2.1,h'.2.2.1,sS n N s h h'.2.2.2⟩
theorem Qg{f:Fo->Fo}(i:Int):∀(F:Fo)(p:Int){q:Int}{x:NX}{k:Fo},(ids F).Nodup->FOk F->AZ F p i=some (q,x,k)->x.kind=1->FOk (f k)->FOk (under i f F)
 |.nil,p,q,x,k,_,_,h,_,_=>by cases h
 |.cons j y kk s,p,q,x,k,hn,hf,h,hx,hk=>by
  rw[ids,bH,bG]at hn;rw[AZ]at h;rw[under];split at h
  ·rename_i e;cases h;rw[if_pos e];exact⟨hf.1,λe=>(e hx).elim,hk,hf.2.2.2⟩
  rename_i e;rw[if_neg e];split at h
  ·rename_i r a;cases h;have b:i∈ids kk:=(BI kk j i).1 (by rw[a];simp);rw[Hq s λh=>hn.2.2.2 i b i h rfl];exact⟨hf.1,λe=>(by rw[hf.2.1 e]at a;cases a),Qg i kk j hn.2.1 hf.2.2.1 a hx hk,hf.2.2.2⟩
  rename_i a;rw[Hq kk λc=>(BI kk j i).2 c a];exact⟨hf.1,hf.2.1,hf.2.2.1,Qg i s p hn.2.2.1 hf.2.2.2 h hx hk⟩
theorem UD{f:NX->NX}(i:Int):∀(F:Fo)(p:Int){q:Int}{x:NX}{k:Fo},(ids F).Nodup->FOk F->AZ F p i=some (q,x,k)->(f x).kind=x.kind->Ap (f x)=0->FOk (Ed i f F)
 |.nil,p,q,x,k,_,_,h,_,_=>by cases h
 |.cons j y kk s,p,q,x,k,hn,hf,h,hx,hk=>by
  rw[ids,bH,bG]at hn;rw[AZ]at h;rw[Ed];split at h
  ·rename_i e;cases h;rw[if_pos e];exact⟨hk,λe=>hf.2.1 (by rw[<- hx];exact e),hf.2.2.1,hf.2.2.2⟩
  rename_i e;rw[if_neg e];split at h
  ·rename_i r a;cases h;have b:i∈ids kk:=(BI kk j i).1 (by rw[a];simp);rw[JY s λh=>hn.2.2.2 i b i h rfl];exact⟨hf.1,λe=>(by rw[hf.2.1 e]at a;cases a),UD i kk j hn.2.1 hf.2.2.1 a hx hk,hf.2.2.2⟩
  rename_i a;rw[JY kk λc=>(BI kk j i).2 c a];exact⟨hf.1,hf.2.1,hf.2.2.1,UD i s p hn.2.2.1 hf.2.2.2 h hx hk⟩
theorem Vp:∀(l:List It)(p:Option It),DW p l=0->∀(b n:Int),(∀r∈Ar n b l,b<=r.level/\Ap r.x=0)/\Adj (Ar n b l)/\(∀r,(Ar n b l).head? =some r->r.level<=IR p+b)
 | [],p,_,b,n=>⟨by simp[Ar],trivial,by simp[Ar]⟩
 |x::r,p,h,b,n=>by
  rw[DW]at h;split at h
  ·cases h
  rename_i f;split at h
  ·rename_i c;obtain⟨j,m,o⟩:=Vp r (some x) h b (n+1);rw[Ar];have t:0<=x.level/\x.level<=IR p:=⟨jH.1 λe=>f (.inl e),jH.1 λe=>f (.inr e)⟩;refine⟨λz a=>?_,?_,λz a=>?_⟩
   ·rcases aP.1 a with rfl|a
    ·exact⟨by show b<=x.level+b;omega,c⟩
    exact j z a
   ·cases r with
    |nil=>trivial
    |cons y r=>
     refine⟨?_,m⟩;have:=o _ rfl;have g:IR (some x)=if x.x.kind=2 then x.level else x.level+1:=rfl
     refine⟨?_,λs=>?_⟩
     ·show y.level+b<=x.level+b+1;dsimp only at this;rw[g]at this;split at this<;>omega
     show y.level+b<=x.level+b;have d:x.x.kind=2:=(Vj c).resolve_left s;rw[g,if_pos d]at this;omega
   cases a;show x.level+b<=_;omega
  rename_i c;exact(c h).elim
theorem PK:∀(l:List It)(d:Int),d<=J9 d l/\∀x∈l,x.level<=J9 d l
 | [],d=>⟨gz _,by simp⟩
 |x::r,d=>by
  obtain⟨c,b⟩:=PK r (max d x.level);rw[J9];refine⟨om,λy a=>?_⟩;rcases aP.1 a with rfl|a
  ·omega
  exact b y a
def forest_good{l:List It}(h:CX l=0)(b n:Int):∃N,flat N b=Ar n b l/\FOk N/\N≠.nil/\∀r∈flat N b,r.level<=b+deepest l:=by
 have d:l≠[]:=λe=>by rw[CX,if_pos e]at h;cases h
 rw[CX,if_neg d]at h;obtain⟨f,g,m⟩:=Vp l none h b n
 obtain⟨N,c⟩:=JR _ (Ar n b l) b (aZ _) (λr a=>(f r a).1) (Qq _ _ g λr a=>by
  have:=m r a;have e:IR none=0:=rfl;omega)
 refine⟨N,c,Pn N b (by rw[c];exact g) (by rw[c];exact λr a=>(f r a).2),λe=>?_,λr a=>?_⟩
 ·have:=congrArg List.length c;rw[e,flat,Eo]at this;exact d (ay this.symm)
 rw[c]at a;obtain⟨k,j⟩:=bD a;rw[Dz]at j;obtain⟨x,o,rfl⟩:=cO.1 j;have:=(PK l 0).2 x (aC o);show x.level+b<=b+deepest l;rw[deepest];omega
section
variable{F:Fo}{T:Tr}{i q v:Int}{x:NX}{k:Fo}{A B:List Rw}
def Bf(G:Am F T):(ids F).length=T.L.length:=by rw[<- G.fl,BZ]
def one_of{F F':Fo}(h:F=.nil\/∃i x k,F=.cons i x k .nil/\x.kind=1)(f:Fo->Fo)(i:Int):under i f F=.nil\/∃j x k,under i f F=.cons j x k .nil/\x.kind=1:=by
 rcases h with rfl|⟨j,y,b,rfl,a⟩
 ·exact .inl rfl
 rw[under];split
 ·exact .inr ⟨_,_,_,rfl,a⟩
 exact .inr ⟨_,_,_,rfl,a⟩
def Am.put(G:Am F T)(h:AZ F 0 i=some (q,x,k))(m:Mid F 0 i 0 q x k A B v)(g:x.kind=1){n:Nat}(e:n<=(xJ k).length){N:Fo}(l:FOk N)(f:(ids N).Nodup)(o:∀j∈ids N,j∉ids F)
  (p:∀r∈flat N (v+1),r.level<40) (w:(ids N).length+T.L.length<=1000) {next:Int} (s:∀j∈ids N,1<=j/\j<next) (y:T.next<=next/\next<=2147483647):
  Am (under i (putAt n N) F) ⟨flat (under i (putAt n N) F) 0,next⟩:=by
 have t:=Lp F 0 i G.ok h;have c:=WJ G.nodup h e N;have u:=G.next;refine⟨rfl,Qg i F 0 G.nodup G.ok h g (sS n N k l t.2.2),under_nodup G.nodup h e f o,one_of (F':=F) G.one _ _,λr a=>?_,?_,λj d=>?_,?_⟩
 ·have a:r∈flat (under i (putAt n N) F) 0:=a;have b:∀r∈A++((⟨i,v,x⟩:Rw)::(flat k (v+1)++B)),r.level<40:=λr a=>G.deep r (by rw[<- G.fl,m.fl];exact a);rw[m.un,TZ n N k (v+1) e]at a;rcases aT.1 a with a|a
  ·exact b r (aS _ a)
  rcases aP.1 a with rfl|a
  ·exact b _ (aI _ (.head _))
  rcases aT.1 a with a|a
  ·rcases aT.1 a with a|a
   ·rcases aT.1 a with a|a
    ·exact b r (aI _ (.tail _ (aS _ (dJ a))))
    exact p r a
   exact b r (aI _ (.tail _ (aS _ (fA a))))
  exact b r (aI _ (.tail _ (aI _ a)))
 ·show(flat _ 0).length<=1000;have:=c.length_eq;rw[BZ,this,aF,Bf G];omega
 ·have d:=c.mem_iff.1 d;rcases aT.1 d with d|d
  ·exact s j d
  have:=G.pos j d;show 1<=j/\j<next
  omega
 show 1<=next/\next<=2147483647
 omega
def Am.KFc(G:Am F T)(m:Mid F 0 i 0 q x k A B v)(h:AZ F 0 i=some (q,x,k)):A.length=0↔i∈xJ F:=by
 rcases G.one with e|⟨j,y,g,e,_⟩
 ·rw[e]at h;cases h
 have b:=m.find G.nodup;rw[e]at b⊢;rw[flat,EI,mQ]at b;rw[xJ,xJ,aW];split at b
 ·rename_i a;have a:j=i:=of_decide_eq_true a;have:=Option.some.inj b;exact⟨λ_=>a.symm,λ_=>this.symm⟩
 rename_i a;have a:¬j=i:=λe=>a (decide_eq_true e);refine⟨λd=>?_,λf=>(a f.symm).elim⟩;rw[d]at b;obtain⟨c,_,l⟩:=cO.1 b;omega
def Am.cut(G:Am F T)(h:AZ F 0 i=some (q,x,k))(m:Mid F 0 i 0 q x k A B v)(b:i∉xJ F):Am (yJ i F) ⟨flat (yJ i F) 0,T.next⟩:=by
 refine⟨rfl,Xu i F G.ok,m.cutNodup G.nodup,?_,λr a=>?_,?_,λj d=>?_,G.next⟩
 ·rcases G.one with e|⟨j,y,g,e,f⟩
  ·rw[e]at h;cases h
  rw[e]at b⊢;rw[xJ,xJ,aW]at b;rw[yJ,if_neg (λe=>b e.symm),yJ];exact .inr ⟨_,_,_,rfl,f⟩
 ·have a:r∈flat (yJ i F) 0:=a;refine G.deep r ?_;rw[m.cu]at a;rw[<- G.fl,m.fl];rcases aT.1 a with h|h
  ·exact aS _ h
  exact aI _ (.tail _ (aI _ h))
 ·show(flat (yJ i F) 0).length<=1000;have c:=G.len;rw[<- G.fl,m.fl]at c;rw[m.cu];simp at c⊢;omega
 exact G.pos j ((m.VV G.nodup j).1 d).1
def Am.turn(G:Am F T)(h:AZ F 0 i=some (q,x,k))(m:Mid F 0 i 0 q x k A B v){f:NX->NX}(d:(f x).kind=x.kind)(l:Ap (f x)=0):Am (Ed i f F) ⟨flat (Ed i f F) 0,T.next⟩:=by
 have a:=ids_turn G.nodup h f;refine⟨rfl,UD i F 0 G.nodup G.ok h d l,a.nodup_iff.2 G.nodup,?_,λr b=>?_,?_,λj n=>G.pos j (a.mem_iff.1 n),G.next⟩
 ·rcases G.one with e|⟨j,y,p,e,g⟩
  ·rw[e]at h;cases h
  rw[e]at h⊢;rw[Ed];split
  ·rename_i o;rw[AZ,if_pos o]at h;cases h;exact .inr ⟨_,_,_,rfl,by rw[d];exact g⟩
  exact .inr ⟨_,_,_,rfl,g⟩
 ·have b:r∈flat (Ed i f F) 0:=b;have c:∀r∈A++((⟨i,v,x⟩:Rw)::(flat k (v+1)++B)),r.level<40:=λr b=>G.deep r (by rw[<- G.fl,m.fl];exact b);rw[m.tu]at b;rcases aT.1 b with b|b
  ·exact c r (aS _ b)
  rcases aP.1 b with rfl|b
  ·have:=c _ (aI _ (.head _));exact this
  exact c r (aI _ (.tail _ b))
 show(flat (Ed i f F) 0).length<=1000;rw[BZ,a.length_eq,Bf G];exact G.len
def Mid.KAn(m:Mid F 0 i 0 q x k A B v)(f:NX->NX):Nod.KAn (flat F 0) A.length ⟨i,v,x⟩ (f x)=flat (Ed i f F) 0:=by
 rw[Nod.KAn,m.fl,m.tu,List.set_append_right _ _ (aZ _),iL,bz]
end
end
def Ag:Fo->lI
 |.nil=>[]
 |.cons i _ k .nil=>i::Ag k
 |.cons _ _ _ (.cons j y k s)=>Ag (.cons j y k s)
def snoc:Nat->Int->NX->Fo->Fo
 |_,i,x,.nil=>.cons i x .nil .nil
 |0,i,x,.cons j y k .nil=>.cons j y k (.cons i x .nil .nil)
 |d+1,i,x,.cons j y k .nil=>.cons j y (snoc d i x k) .nil
 |d,i,x,.cons j y k (.cons j2 y2 k2 s2)=>.cons j y k (snoc d i x (.cons j2 y2 k2 s2))
theorem NV:∀(d:Nat)(i:Int)(x:NX)(F:Fo)(l:Int),d<=(Ag F).length->flat (snoc d i x F) l=flat F l++[⟨i,l+d,x⟩]
 |d,i,x,.nil,l,h=>by
  have:d=0:=by simpa [Ag]using h
  subst this;simp[snoc,flat]
 |0,i,x,.cons j y k .nil,l,h=>by simp[snoc,flat]
 |d+1,i,x,.cons j y k .nil,l,h=>by
  have a:=NV d i x k (l+1) (by simpa [Ag]using h);have:l+1+(d:Int)=l+((d+1:Nat):Int):=om;rw[this]at a;have c:∀(b:Fo),flat (.cons j y b .nil) l=⟨j,l,y⟩::flat b (l+1):=λb=>by simp[flat]
  rw[snoc,c,c,a];rfl
 |0,i,x,.cons j y k (.cons j2 y2 k2 s2),l,h=>by
  have a:=NV 0 i x (.cons j2 y2 k2 s2) l (bZ _);rw[snoc];show(⟨j,l,y⟩::flat k (l+1))++flat (snoc 0 i x (.cons j2 y2 k2 s2)) l=((⟨j,l,y⟩::flat k (l+1))++flat (.cons j2 y2 k2 s2) l)++_;rw[a,ax]
 |d+1,i,x,.cons j y k (.cons j2 y2 k2 s2),l,h=>by
  have a:=NV (d+1) i x (.cons j2 y2 k2 s2) l (by simpa [Ag]using h);rw[snoc];show(⟨j,l,y⟩::flat k (l+1))++flat (snoc (d+1) i x (.cons j2 y2 k2 s2)) l=((⟨j,l,y⟩::flat k (l+1))++flat (.cons j2 y2 k2 s2) l)++_;rw[a,ax]
theorem sG(d:Nat)(i:Int)(x:NX)(F:Fo):∃j y k s,snoc d i x F=.cons j y k s:=by
 cases F with
 |nil=>exact⟨_,_,_,_,by rw[snoc]⟩
 |cons j y k s=>
  cases s with
  |nil=>cases d with
   |zero=>exact⟨_,_,_,_,by rw[snoc]⟩
   |succ d=>exact⟨_,_,_,_,by rw[snoc]⟩
  |cons a b c e=>cases d with
   |zero=>exact⟨_,_,_,_,by rw[snoc]⟩
   |succ d=>exact⟨_,_,_,_,by rw[snoc]⟩
def RF{j:Int}{y:NX}{k s:Fo}(h:∃j y k t,s=.cons j y k t):Ag (.cons j y k s)=Ag s:=by
 obtain⟨_,_,_,_,rfl⟩:=h;rw[Ag]
theorem Fg:∀(d:Nat)(i:Int)(x:NX)(F:Fo),d<=(Ag F).length->Ag (snoc d i x F)=(Ag F).take d++[i]
 |d,i,x,.nil,h=>by
  have:d=0:=by simpa [Ag]using h
  subst this;simp[snoc,Ag]
 |0,i,x,.cons j y k .nil,h=>by simp[snoc,Ag]
 |d+1,i,x,.cons j y k .nil,h=>by
  have a:=Fg d i x k (by simpa [Ag]using h);rw[snoc,Ag,a,Ag,dY,aH]
 |0,i,x,.cons j y k (.cons j2 y2 k2 s2),h=>by
  have a:=Fg 0 i x (.cons j2 y2 k2 s2) (bZ _);rw[snoc,RF (sG ..),a,Ag]
 |d+1,i,x,.cons j y k (.cons j2 y2 k2 s2),h=>by
  have a:=Fg (d+1) i x (.cons j2 y2 k2 s2) (by simpa [Ag]using h);rw[snoc,RF (sG ..),a,Ag]
theorem KO:∀(i:Int)(x:NX)(F:Fo),xJ (snoc 0 i x F)=xJ F++[i]
 |i,x,.nil=>by simp[snoc,xJ]
 |i,x,.cons j y k .nil=>by simp[snoc,xJ]
 |i,x,.cons j y k (.cons j2 y2 k2 s2)=>by
  have a:=KO i x (.cons j2 y2 k2 s2);rw[snoc,xJ,a,xJ];rfl
theorem KI:∀(d:Nat)(i:Int)(x:NX)(F:Fo),d+1<=(Ag F).length->xJ (snoc (d+1) i x F)=xJ F
 |d,i,x,.nil,h=>by simp[Ag]at h
 |d,i,x,.cons j y k .nil,h=>by simp[snoc,xJ]
 |d,i,x,.cons j y k (.cons j2 y2 k2 s2),h=>by
  have a:=KI d i x (.cons j2 y2 k2 s2) (by simpa [Ag]using h);rw[snoc,xJ,a];simp[xJ]
theorem Ob:∀(i:Int)(x:NX)(F:Fo)(p:Int),(xO (snoc 0 i x F) p).Perm (⟨i,p,x,[]⟩::xO F p)
 |i,x,.nil,p=>by simp[snoc,xO,xJ]
 |i,x,.cons j y k .nil,p=>by
  have a:xO (snoc 0 i x (.cons j y k .nil)) p=(⟨j,p,y,xJ k⟩::xO k j)++[⟨i,p,x,[]⟩]:=by simp[snoc,xO,xJ]
  have b:xO (.cons j y k .nil) p=(⟨j,p,y,xJ k⟩::xO k j):=by simp[xO]
  rw[a,b];exact dU
 |i,x,.cons j y k (.cons j2 y2 k2 s2),p=>by
  have c:=Ob i x (.cons j2 y2 k2 s2) p;have a:xO (snoc 0 i x (.cons j y k (.cons j2 y2 k2 s2))) p=(⟨j,p,y,xJ k⟩::xO k j)++xO (snoc 0 i x (.cons j2 y2 k2 s2)) p:=by rw[snoc,xO];rfl
  have b:xO (.cons j y k (.cons j2 y2 k2 s2)) p=(⟨j,p,y,xJ k⟩::xO k j)++xO (.cons j2 y2 k2 s2) p:=by rw[xO];rfl
  rw[a,b];exact(c.append_left _).trans bP
theorem OB:∀(d:Nat)(i:Int)(x:NX)(F:Fo)(p:Int),d+1<=(Ag F).length->
  ∃(e:En)(R:List En),(Ag F)[d]? =some e.id/\(xO F p).Perm (e::R)/\(xO (snoc (d+1) i x F) p).Perm (⟨i,e.id,x,[]⟩:: {e with kids:=e.kids++[i]}::R)
 |d,i,x,.nil,p,h=>by simp[Ag]at h
 |0,i,x,.cons j y k .nil,p,h=>by
  refine⟨⟨j,p,y,xJ k⟩,xO k j,by simp[Ag],by simp[xO],?_⟩
  have a:xO (snoc (0+1) i x (.cons j y k .nil)) p=⟨j,p,y,xJ k++[i]⟩::xO (snoc 0 i x k) j:=by
   rw[snoc,xO,KO,xO,aX]
  rw[a];exact((Ob i x k j).cons _).trans (.swap _ _ _)
 |d+1,i,x,.cons j y k .nil,p,h=>by
  obtain⟨e,R,b,c,f⟩:=OB d i x k j (by simpa [Ag]using h);refine⟨e,⟨j,p,y,xJ k⟩::R,by simpa [Ag]using b,?_,?_⟩
  ·have g:xO (.cons j y k .nil) p=⟨j,p,y,xJ k⟩::xO k j:=by rw[xO,xO,aX]
   rw[g];exact(c.cons _).trans (.swap _ _ _)
  have a:xO (snoc (d+1+1) i x (.cons j y k .nil)) p=⟨j,p,y,xJ k⟩::xO (snoc (d+1) i x k) j:=by
   rw[snoc,xO,KI d i x k (by simpa [Ag]using h),xO,aX]
  rw[a];refine(f.cons _).trans ((List.Perm.swap _ _ _).trans (List.Perm.cons _ (.swap _ _ _)))
 |d,i,x,.cons j y k (.cons j2 y2 k2 s2),p,h=>by
  obtain⟨e,R,b,c,f⟩:=OB d i x (.cons j2 y2 k2 s2) p (by simpa [Ag]using h);refine⟨e,(⟨j,p,y,xJ k⟩::xO k j)++R,by simpa [Ag]using b,?_,?_⟩
  ·have g:xO (.cons j y k (.cons j2 y2 k2 s2)) p=(⟨j,p,y,xJ k⟩::xO k j)++xO (.cons j2 y2 k2 s2) p:=by rw[xO];rfl
   rw[g];exact(c.append_left _).trans bP
  have a:xO (snoc (d+1) i x (.cons j y k (.cons j2 y2 k2 s2))) p=(⟨j,p,y,xJ k⟩::xO k j)++xO (snoc (d+1) i x (.cons j2 y2 k2 s2)) p:=by rw[snoc,xO];rfl
  rw[a];refine(f.append_left _).trans ?_;refine bP.trans (List.Perm.cons _ bP)
def LC(zs:lI)(l:List It):List Rw:=List.zipWith (λz x=>⟨z,x.level,x.x⟩) zs l
def rowsZ_snoc{a:lI}{l:List It}{k:Nat}{z:Int}{x:It}(b:a[k]? =some z)(c:l[k]? =some x):LC (a.take (k+1)) (l.take (k+1))=LC (a.take k) (l.take k)++[⟨z,x.level,x.x⟩]:=by
 have d:=(aA.1 b).1;have e:=(aA.1 c).1;rw[aG d,aG e,(aA.1 b).2,(aA.1 c).2,LC,LC,jJ (by rw[aJ,aJ];omega)];rfl
theorem Vt{a:lI}{l:List It}(h:a.length=l.length):(LC a l).map (·.id)=a:=by
 induction a generalizing l with
 |nil=>rfl
 |cons z a b=>
  cases l with
  |nil=>cases h
  |cons x l=>
   have:=b (by simpa using h);simp only[LC,nX,aj]at this⊢;rw[this]
def named_rowsZ(n:Int):∀(l:List It)(m:Int),Ar m 0 l=LC ((List.range l.length).map λ(k:Nat)=>m+(k:Int)) l:=by
 intro l m;apply dN;intro k;rw[Dz,LC,oJ,au];by_cases h:k<l.length
 ·rw[iy h,aB h];simp
 rw[bC (by omega:l.length<=k),bC (by rw[fZ];omega)];rfl
def Vu(l:List It):Prop:=∀(k:Nat)(x:It),l[k]? =some x->0<=x.level/\(k=0->x.level=0)/\∀y,0<k->l[k-1]? =some y->x.level<=y.level+1
theorem Vu.le{l:List It}(h:Vu l):∀(k:Nat)(x:It),l[k]? =some x->x.level<=k:=by
 intro k
 induction k with
 |zero=>
  intro x a;have:=(h 0 x a).2.1 rfl;omega
 |succ k b=>
  intro x a;have d:=(aA.1 a).1;have c:=(h (k+1) x a).2.2 _ om (aB (by omega:k+1-1<l.length));have e:=b _ (aB om);simp at c;omega
def Ee(ks:lI)(n:Nat)(ts:lI):lI:=ks.take n++(ts++ks.drop n)
def insAt_nil(a:lI)(n:Nat):Ee a n []=a:=by rw[Ee,aO,bY]
def Qp(a:lI)(n:Nat)(b:lI):(Ee a n b).length=a.length+b.length:=by
 rw[Ee,aF,aF,aJ,bf];omega
def insAt_snoc(a:lI)(n:Nat)(b:lI)(z:Int)(f:n<=a.length):(Ee a n b).take (n+b.length)++([z]++(Ee a n b).drop (n+b.length))=Ee a n (b++[z]):=by
 have c:(a.take n).length=n:=by rw[aJ];omega
 have e:Ee a n b=(a.take n++b)++a.drop n:=by rw[Ee];simp
 have d:(a.take n++b).length=n+b.length:=by rw[aF,c]
 rw[e,<- d,iq,jg,Ee];simp
def UO{n:Nat}{N k:Fo}(h:n<=(xJ k).length):xJ (putAt n N k)=Ee (xJ k) n (xJ N):=by
 rw[YS n N k h,Ee];simp
end Go.Nod
namespace Go.Proofs.YtljenkbpnioipaaGreat
open Go Go.Vc
def noNum:KBH PP:=by
 have h : Tryz.prog.funcs.toList.all (fun fn => !(fn.name == "runtime.NumGoroutine")) = true := by kernel_rfl
 intro f fn hf;have:=fQ.1 h fn (by have:=Array.mem_of_getElem? hf;simpa using this);simpa using this
def cok(an:An){f:FuncId}{fn:Func}{args:LV}{w:Wq}{R:EW}{V:Prop}(hf:PP.funcs[f]? =some fn)(h:V)(h0:decide (args.length<=fn.ntmps)=true:=by kernel_rfl)(e:KEZ PP an fn args w R=V:=by kernel_rfl):CP f args.toArray w R:=calls_of_bodyV noNum hf h0 (e▸h)
noncomputable abbrev P:=PP
abbrev Q:OA->Value:=.pointer
abbrev S:OA->Nat->Nat->Value:=.slice
abbrev E:Value->Ending:=.returned
abbrev lN:=E (.bool false)
abbrev lX:=E (.bool true)
abbrev C1(f:FuncId)(l:LV)(w:Wq)(K:WP):=xk P f l w λk e=>k=Ej (.tuple #[])/\K e
abbrev B0(p:Prop)[Decidable p](x y:Prop):=br (decide p) x y
abbrev B1(p:Prop)[Decidable p](x y:Prop):=br (!decide p) x y
abbrev D1(d:Int)(a:Nat):=0<=d/\d<(↑a:Int)
abbrev G1(w:Wq)(a:Addr)(K:Int->Prop):=∃c,Ld P 3 w a (I c)/\K c
abbrev G2(w:Wq)(a:Addr)(K:BA->Prop):=∃c,Ld P 9 w a (.string c)/\K c
abbrev C2(f:FuncId)(l:LV)(w:Wq)(K:Bool->Wq->Prop):=xk P f l w λk e=>∃c,k=Ej (.bool c)/\K c e
abbrev A1(c:Int)(d:Bool):Value:=.tuple #[I c,.bool d]
abbrev G3(w:Wq)(a:Addr)(K:BA->BA->Prop):=∃c d,Ld P 142 w a (.agg #[.string c,.string d])/\K c d
abbrev C3(f:FuncId)(l:LV)(w:Wq)(K:Int->Wq->Prop):=xk P f l w λk e=>∃c,k=Ej (I c)/\K c e
abbrev C4(f:FuncId)(l:LV)(w:Wq)(K:OA->Wq->Prop):=xk P f l w λk e=>∃c,k=Ej (.pointer c)/\K c e
abbrev C5(f:FuncId)(l:LV)(w:Wq)(K:OA->Nat->Nat->Int->Wq->Prop):=xk P f l w λk e=>∃c d g i,k=Ej (.agg #[.slice c d g,I i])/\K c d g i e
abbrev C6(f:FuncId)(l:LV)(w:Wq)(K:OA->Nat->Nat->Int->Bool->Wq->Prop):=xk P f l w λk e=>∃c d g i j,k=Ej (.tuple #[.agg #[.slice c d g,I i],.bool j])/\K c d g i j e
abbrev A2(c:OA)(d g:Nat)(i:Int):Value:=.agg #[.slice c d g,I i]
abbrev N1(w:Wq)(c:OA)(d g:Nat)(i:Int)(K:Nat->Wq->Prop):=∀h e,New w (.cells #[.slice c d g,I i] 29) h e->K h e
abbrev U1(w:Wq)(b o:Nat)(c:OA)(d g:Nat)(i:Int)(K:WP):=∃e,St P 29 w ⟨b,o,none⟩ (.agg #[.slice c d g,I i]) e/\K e
abbrev L1(w:Wq)(b o:Nat)(K:OA->Nat->Nat->Int->Prop):=∃c d g i,Ld P 29 w ⟨b,o,none⟩ (.agg #[.slice c d g,I i])/\K c d g i
abbrev N2(w:Wq)(c d g i:Int)(j m:BA)(n:OA)(q r:Nat)(K:Nat->Wq->Prop):=∀h e,New w (.cells #[I c,I d,I g,I i,.string j,.string m,.slice n q r] 36) h e->K h e
abbrev C7(f:FuncId)(l:LV)(w:Wq)(K:OA->Nat->Nat->Wq->Prop):=xk P f l w λk e=>∃c d g,k=Ej (.slice c d g)/\K c d g e
abbrev L2(w:Wq)(b o:Nat)(K:Int->Int->Int->Int->BA->BA->OA->Nat->Nat->Prop):=∃c d g i j m n q r,Ld P 36 w ⟨b,o,none⟩ (.agg #[I c,I d,I g,I i,.string j,.string m,.slice n q r])/\K c d g i j m n q r
abbrev C8(f:FuncId)(l:LV)(w:Wq)(K:Int->Int->Int->Int->BA->BA->OA->Nat->Nat->Wq->Prop):=xk P f l w λk e=>∃c d g i j m n q r,k=Ej (.agg #[I c,I d,I g,I i,.string j,.string m,.slice n q r])/\K c d g i j m n q r e
abbrev A3(c d g i:Int)(j m:BA)(n:OA)(q r:Nat):Value:=.agg #[I c,I d,I g,I i,.string j,.string m,.slice n q r]
abbrev C9(f:FuncId)(l:LV)(w:Wq)(K:Int->OA->Nat->Nat->Int->Wq->Prop):=xk P f l w λk e=>∃c d g i j,k=Ej (.tuple #[I c,.slice d g i,I j])/\K c d g i j e
abbrev C10(f:FuncId)(l:LV)(w:Wq)(K:Int->Int->Wq->Prop):=xk P f l w λk e=>∃c d,k=Ej (.tuple #[I c,I d])/\K c d e
abbrev Z1(w:Wq)(a:Addr)(c:BA)(K:WP):=∃e,St P 9 w a (.string c) e/\K e
abbrev G4(w:Wq)(a:Addr)(K:Int->Int->Int->Int->BA->BA->OA->Nat->Nat->Prop):=∃c d g i j m n q r,Ld P 36 w a (.agg #[I c,I d,I g,I i,.string j,.string m,.slice n q r])/\K c d g i j m n q r
abbrev U2(w:Wq)(b o:Nat)(c d g i:Int)(j m:BA)(n:OA)(q r:Nat)(K:WP):=∃e,St P 36 w ⟨b,o,none⟩ (.agg #[I c,I d,I g,I i,.string j,.string m,.slice n q r]) e/\K e
abbrev C11(f:FuncId)(l:LV)(w:Wq)(K:OA->Int->Wq->Prop):=xk P f l w λk e=>∃c d,k=Ej (.tuple #[.pointer c,I d])/\K c d e
abbrev C12(f:FuncId)(l:LV)(w:Wq)(K:Int->Int->Bool->Wq->Prop):=xk P f l w λk e=>∃c d g,k=Ej (.tuple #[.agg #[I c,I d],.bool g])/\K c d g e
abbrev N3(w:Wq)(c d:Int)(K:Nat->Wq->Prop):=∀h e,New w (.cells #[I c,I d] 62) h e->K h e
abbrev U3(w:Wq)(b o:Nat)(c d:Int)(K:WP):=∃e,St P 62 w ⟨b,o,none⟩ (.agg #[I c,I d]) e/\K e
abbrev L3(w:Wq)(b o:Nat)(K:Int->Int->Prop):=∃c d,Ld P 62 w ⟨b,o,none⟩ (.agg #[I c,I d])/\K c d
abbrev A4(c d:Int):Value:=.agg #[I c,I d]
abbrev C13(f:FuncId)(l:LV)(w:Wq)(K:Int->Int->Int->Int->BA->BA->OA->Nat->Nat->Bool->Wq->Prop):=xk P f l w λk e=>∃c d g i j m n q r s,k=Ej (.tuple #[.agg #[I c,I d,I g,I i,.string j,.string m,.slice n q r],.bool s])/\K c d g i j m n q r s e
abbrev N5(w:Wq)(c d g i:Int)(j m:BA)(n:OA)(q r:Nat)(K:Nat->Wq->Prop):=∀h e,New w (.cells #[I c,I d,I g,I i,.string j,.string m,.slice n q r] 71) h e->K h e
abbrev U4(w:Wq)(b o:Nat)(c d g i:Int)(j m:BA)(n:OA)(q r:Nat)(K:WP):=∃e,St P 71 w ⟨b,o,none⟩ (.agg #[I c,I d,I g,I i,.string j,.string m,.slice n q r]) e/\K e
abbrev G5(w:Wq)(a:Addr)(K:Int->Int->BA->Bool->Prop):=∃c d g i,Ld P 79 w a (.agg #[I c,I d,.string g,.bool i])/\K c d g i
abbrev N6(w:Wq)(c d:Int)(g:BA)(i:Bool)(K:Nat->Wq->Prop):=∀h e,New w (.cells #[I c,I d,.string g,.bool i] 79) h e->K h e
abbrev A5(c d:Int)(g:BA)(i:Bool):Value:=.agg #[I c,I d,.string g,.bool i]
abbrev L4(w:Wq)(b o:Nat)(K:Int->Prop):=∃c,Ld P 3 w ⟨b,o,none⟩ (I c)/\K c
abbrev L5(w:Wq)(b o:Nat)(K:Bool->Prop):=∃c,Ld P 4 w ⟨b,o,none⟩ (.bool c)/\K c
abbrev L6(w:Wq)(b o:Nat)(K:OA->Nat->Nat->Prop):=∃c d g,Ld P 34 w ⟨b,o,none⟩ (.slice c d g)/\K c d g
abbrev C14(f:FuncId)(l:LV)(w:Wq)(K:OA->Nat->Nat->Int->Int->Int->Wq->Prop):=xk P f l w λk e=>∃c d g i j m,k=Ej (.tuple #[.agg #[.slice c d g,I i],I j,I m])/\K c d g i j m e
abbrev N7(w:Wq)(c d:Int)(g:BA)(i:Bool)(K:Nat->Wq->Prop):=∀h e,New w (.cells #[I c,I d,.string g,.bool i] 55) h e->K h e
abbrev G6(w:Wq)(a:Addr)(K:OA->Nat->Nat->Prop):=∃c d g,Ld P 84 w a (.slice c d g)/\K c d g
abbrev G7(w:Wq)(a:Addr)(K:OA->Prop):=∃c,Ld P 95 w a (.pointer c)/\K c
abbrev C15(f:FuncId)(l:LV)(w:Wq)(K:BA->Bool->Wq->Prop):=xk P f l w λk e=>∃c d,k=Ej (.tuple #[.string c,.bool d])/\K c d e
abbrev G8(w:Wq)(a:Addr)(K:OA->Prop):=∃c,Ld P 49 w a (.pointer c)/\K c
abbrev G9(w:Wq)(a:Addr)(K:oN->Prop):=∃c,Ld P 80 w a (.map c)/\K c
abbrev G10(w:Wq)(a:Addr)(K:OA->Prop):=∃c,Ld P 81 w a (.pointer c)/\K c
abbrev G11(w:Wq)(a:Addr)(K:oN->Prop):=∃c,Ld P 83 w a (.map c)/\K c
abbrev C16(f:FuncId)(l:LV)(w:Wq)(K:oN->Wq->Prop):=xk P f l w λk e=>∃c,k=Ej (.map c)/\K c e
abbrev N8(w:Wq)(c:OA)(K:Nat->Wq->Prop):=∀h e,New w (.cells #[.pointer c] 95) h e->K h e
abbrev A6(c:Int)(d:OA)(g i:Nat)(j:Int):Value:=.tuple #[I c,.slice d g i,I j]
abbrev N9(w:Wq)(c:Int)(K:Nat->Wq->Prop):=∀h e,New w (.cells #[I c] 3) h e->K h e
abbrev L7(w:Wq)(b o:Nat)(K:BA->Prop):=∃c,Ld P 9 w ⟨b,o,none⟩ (.string c)/\K c
abbrev A7(c d:Int):Value:=.tuple #[I c,I d]
abbrev Z2(w:Wq)(a:Addr)(c:Int)(K:WP):=∃e,St P 3 w a (I c) e/\K e
abbrev A8(c:OA)(d:Int):Value:=.tuple #[.pointer c,I d]
abbrev L8(w:Wq)(b o:Nat)(K:OA->Nat->Nat->Prop):=∃c d g,Ld P 27 w ⟨b,o,none⟩ (.slice c d g)/\K c d g
abbrev A9(c d:Int)(g:Bool):Value:=.tuple #[.agg #[I c,I d],.bool g]
abbrev N10(w:Wq)(c:OA)(d g:Nat)(K:Nat->Wq->Prop):=∀h e,New w (.cells #[.slice c d g] 59) h e->K h e
abbrev L9(w:Wq)(b o:Nat)(K:OA->Nat->Nat->Prop):=∃c d g,Ld P 59 w ⟨b,o,none⟩ (.slice c d g)/\K c d g
abbrev U5(w:Wq)(b o:Nat)(c:OA)(d g:Nat)(K:WP):=∃e,St P 59 w ⟨b,o,none⟩ (.slice c d g) e/\K e
abbrev G12(w:Wq)(a:Addr)(K:oN->Prop):=∃c,Ld P 117 w a (.map c)/\K c
abbrev A10(c:OA)(d:Bool):Value:=.tuple #[.pointer c,.bool d]
abbrev L10(w:Wq)(b o:Nat)(K:Int->Int->Int->Int->BA->BA->OA->Nat->Nat->Prop):=∃c d g i j m n q r,Ld P 71 w ⟨b,o,none⟩ (.agg #[I c,I d,I g,I i,.string j,.string m,.slice n q r])/\K c d g i j m n q r
abbrev G13(w:Wq)(a:Addr)(K:OA->Nat->Nat->Prop):=∃c d g,Ld P 59 w a (.slice c d g)/\K c d g
abbrev G14(w:Wq)(a:Addr)(K:OA->Nat->Nat->Prop):=∃c d g,Ld P 69 w a (.slice c d g)/\K c d g
abbrev U6(w:Wq)(b o:Nat)(c:Int)(K:WP):=∃e,St P 3 w ⟨b,o,none⟩ (I c) e/\K e
abbrev U7(w:Wq)(b o:Nat)(c:OA)(d g:Nat)(K:WP):=∃e,St P 69 w ⟨b,o,none⟩ (.slice c d g) e/\K e
abbrev N11(w:Wq)(c d:Int)(g i:BA)(j:OA)(m n:Nat)(K:Nat->Wq->Prop):=∀h e,New w (.cells #[I c,I d,.string g,.string i,.slice j m n] 123) h e->K h e
abbrev A11(c:OA)(d g:Nat)(i j m:Int):Value:=.tuple #[.agg #[.slice c d g,I i],I j,I m]
abbrev G16(w:Wq)(a:Addr)(K:Int->Int->BA->BA->OA->Nat->Nat->Prop):=∃c d g i j m n,Ld P 123 w a (.agg #[I c,I d,.string g,.string i,.slice j m n])/\K c d g i j m n
abbrev U8(w:Wq)(b o:Nat)(c d:Int)(g i:BA)(j:OA)(m n:Nat)(K:WP):=∃e,St P 123 w ⟨b,o,none⟩ (.agg #[I c,I d,.string g,.string i,.slice j m n]) e/\K e
abbrev L11(w:Wq)(b o:Nat)(K:OA->Nat->Nat->Prop):=∃c d g,Ld P 69 w ⟨b,o,none⟩ (.slice c d g)/\K c d g
abbrev N12(w:Wq)(c:BA)(K:Nat->Wq->Prop):=∀h e,New w (.cells #[.string c] 9) h e->K h e
abbrev A12(c:BA)(d:Bool):Value:=.tuple #[.string c,.bool d]
abbrev G17(w:Wq)(a:Addr)(K:OA->Nat->Nat->Prop):=∃c d g,Ld P 148 w a (.slice c d g)/\K c d g
abbrev G18(w:Wq)(a:Addr)(K:oN->Prop):=∃c,Ld P 147 w a (.map c)/\K c
abbrev C17(f:FuncId)(l:LV)(w:Wq)(K:Int->Bool->Wq->Prop):=xk P f l w λk e=>∃c d,k=Ej (.tuple #[I c,.bool d])/\K c d e
abbrev N13(w:Wq)(c d:BA)(K:Nat->Wq->Prop):=∀h e,New w (.cells #[.string c,.string d] 142) h e->K h e
abbrev U9(w:Wq)(b o:Nat)(c d:BA)(K:WP):=∃e,St P 142 w ⟨b,o,none⟩ (.agg #[.string c,.string d]) e/\K e
abbrev A13(c:OA)(d g:Nat)(i:Int):Value:=.tuple #[.slice c d g,I i]
abbrev G19(w:Wq)(a:Addr)(K:Int->Int->Prop):=∃c d,Ld P 62 w a (.agg #[I c,I d])/\K c d
abbrev G20(w:Wq)(a:Addr)(K:OA->Prop):=∃c,Ld P 23 w a (.pointer c)/\K c
abbrev A14(c:BA):Value:=.agg #[.string c]
abbrev N14(w:Wq)(c d:Int)(K:Nat->Wq->Prop):=∀h e,New w (.cells #[I c,I d] 101) h e->K h e
abbrev U10(w:Wq)(b o:Nat)(c d:Int)(K:WP):=∃e,St P 101 w ⟨b,o,none⟩ (.agg #[I c,I d]) e/\K e
abbrev G21(w:Wq)(a:Addr)(K:oN->Prop):=∃c,Ld P 110 w a (.map c)/\K c
abbrev L12(w:Wq)(b o:Nat)(K:Int->Int->Prop):=∃c d,Ld P 101 w ⟨b,o,none⟩ (.agg #[I c,I d])/\K c d
abbrev C18(f:FuncId)(l:LV)(w:Wq)(K:BA->Wq->Prop):=xk P f l w λk e=>∃c,k=Ej (.string c)/\K c e
abbrev A15(c d g i j m:Int)(n:BA)(q:OA)(r s:Nat):Value:=.agg #[I c,I d,I g,I i,I j,I m,.string n,.slice q r s]
abbrev L13(w:Wq)(b o:Nat)(K:Int->Int->BA->BA->OA->Nat->Nat->Prop):=∃c d g i j m n,Ld P 123 w ⟨b,o,none⟩ (.agg #[I c,I d,.string g,.string i,.slice j m n])/\K c d g i j m n
abbrev A16(c d:Int)(g i:BA)(j:OA)(m n:Nat):Value:=.agg #[I c,I d,.string g,.string i,.slice j m n]
abbrev Z3(w:Wq)(a:Addr)(c:OA)(d g:Nat)(K:WP):=∃e,St P 59 w a (.slice c d g) e/\K e
abbrev A17(c d g:Int)(i:Bool):Value:=.tuple #[I c,I d,I g,.bool i]
abbrev G22(w:Wq)(a:Addr)(K:oN->Prop):=∃c,Ld P 125 w a (.map c)/\K c
abbrev N15(w:Wq)(c:BA)(d:Int)(K:Nat->Wq->Prop):=∀h e,New w (.cells #[.string c,I d] 167) h e->K h e
abbrev Z4(w:Wq)(a:Addr)(c:OA)(d g:Nat)(K:WP):=∃e,St P 148 w a (.slice c d g) e/\K e
abbrev A18(c d g i j m:Int)(n:BA)(q:OA)(r s:Nat)(t:Int):Value:=.tuple #[.agg #[I c,I d,I g,I i,I j,I m,.string n,.slice q r s],I t]
abbrev N16(w:Wq)(c d g i j m:Int)(n:BA)(q:OA)(r s:Nat)(K:Nat->Wq->Prop):=∀h e,New w (.cells #[I c,I d,I g,I i,I j,I m,.string n,.slice q r s] 204) h e->K h e
abbrev U11(w:Wq)(b o:Nat)(c d g i j m:Int)(n:BA)(q:OA)(r s:Nat)(K:WP):=∃e,St P 204 w ⟨b,o,none⟩ (.agg #[I c,I d,I g,I i,I j,I m,.string n,.slice q r s]) e/\K e
abbrev G23(w:Wq)(a:Addr)(K:OA->Nat->Nat->Prop):=∃c d g,Ld P 126 w a (.slice c d g)/\K c d g
abbrev L14(w:Wq)(b o:Nat)(K:Int->Int->Int->Int->Int->Int->BA->OA->Nat->Nat->Prop):=∃c d g i j m n q r s,Ld P 204 w ⟨b,o,none⟩ (.agg #[I c,I d,I g,I i,I j,I m,.string n,.slice q r s])/\K c d g i j m n q r s
abbrev C19(f:FuncId)(l:LV)(w:Wq)(K:OA->Nat->Nat->Bool->Wq->Prop):=xk P f l w λk e=>∃c d g i,k=Ej (.tuple #[.slice c d g,.bool i])/\K c d g i e
abbrev C20(f:FuncId)(l:LV)(w:Wq)(K:OA->Nat->Nat->Int->Int->Wq->Prop):=xk P f l w λk e=>∃c d g i j,k=Ej (.tuple #[.agg #[.slice c d g,I i],I j])/\K c d g i j e
abbrev A19(c d:BA):Value:=.agg #[.string c,.string d]
abbrev U12(w:Wq)(b o:Nat)(c:Int)(K:WP):=∃e,St P 41 w ⟨b,o,none⟩ (I c) e/\K e
abbrev L15(w:Wq)(b o:Nat)(K:Int->Prop):=∃c,Ld P 41 w ⟨b,o,none⟩ (I c)/\K c
abbrev U13(w:Wq)(b o:Nat)(c:BA)(d:Int)(K:WP):=∃e,St P 167 w ⟨b,o,none⟩ (.agg #[.string c,I d]) e/\K e
abbrev G24(w:Wq)(a:Addr)(K:Int->Bool->Prop):=∃c d,Ld P 248 w a (.agg #[I c,.bool d])/\K c d
abbrev N17(w:Wq)(c:Int)(d:Bool)(K:Nat->Wq->Prop):=∀h e,New w (.cells #[I c,.bool d] 248) h e->K h e
abbrev A20(c:Int)(d:Bool):Value:=.agg #[I c,.bool d]
abbrev L16(w:Wq)(b o:Nat)(K:OA->Nat->Nat->Prop):=∃c d g,Ld P 202 w ⟨b,o,none⟩ (.slice c d g)/\K c d g
abbrev N18(w:Wq)(c:Int)(d:BA)(K:Nat->Wq->Prop):=∀h e,New w (.cells #[I c,.string d] 260) h e->K h e
abbrev G25(w:Wq)(a:Addr)(K:Int->Prop):=∃c,Ld P 5 w a (iU c)/\K c
abbrev U14(w:Wq)(b o:Nat)(c:BA)(K:WP):=∃e,St P 9 w ⟨b,o,none⟩ (.string c) e/\K e
abbrev U15(w:Wq)(b o:Nat)(c:Int)(d:BA)(K:WP):=∃e,St P 260 w ⟨b,o,none⟩ (.agg #[I c,.string d]) e/\K e
abbrev A21(c:OA)(d g:Nat)(i:Bool):Value:=.tuple #[.slice c d g,.bool i]
abbrev A22(c:OA)(d g:Nat)(i j:Int):Value:=.tuple #[.agg #[.slice c d g,I i],I j]
abbrev L17(w:Wq)(b o:Nat)(K:OA->Prop):=∃c,Ld P 95 w ⟨b,o,none⟩ (.pointer c)/\K c
abbrev N19(w:Wq)(c:Int)(K:Nat->Wq->Prop):=∀h e,New w (.cells #[iU c] 5) h e->K h e
abbrev A23(c d:Int):Value:=.tuple #[iJ c,I d]
abbrev A24(c d:Int):Value:=.agg #[iJ c,iJ d]
abbrev A25(c d:Int):Value:=.tuple #[I c,iJ d]
abbrev C21(f:FuncId)(l:LV)(w:Wq)(K:Int->Wq->Prop):=xk P f l w λk e=>∃c,k=Ej (iU c)/\K c e
section
variable{w:World}{R:Ending->World->Prop}{p0 p1 p2:Option Addr}{n0 n1 n2 n3:Nat}{i0 i1 i2 i3 i4 i5 i6 i7 i8 i9 i10 i11:Int}{s0 s1 s2 s3:ByteArray}{b0 b1:Bool}{m0:Option Nat}{v0:Value}
def KEh(k0 k1:Nat):Prop:=∃a,Eqv P .eql k0 (.tmp 3) (.const (S none 0 0)) w (S p0 n0 n1) (S none 0 0) a/\br a (R (E (S none 0 0)) w) (∀a h,New w (.cells #[] k1) a h->∃b d c i,App P #[k0,k0] k0 h (S (some (.mk a 0 none)) 0 0) (S p0 n0 n1) (S b d c) i/\R (E (S b d c)) i)
def Jbn(h: @KEh w R p0 n0 n1 69 142):Calls P 70 #[S p0 n0 n1] w R:=cok {} Tryz.func70 h
def Jbo(h: @KEh w R p0 n0 n1 59 3):Calls P 87 #[S p0 n0 n1] w R:=cok {} Tryz.func87 h
def Jbp(h: @KEh w R p0 n0 n1 148 167):Calls P 89 #[S p0 n0 n1] w R:=cok {} Tryz.func89 h
def KEk(k0:Nat):Prop:=∃b,Eqv P .eql k0 (.tmp 3) (.const (.map none)) w (.map m0) (.map none) b/\br b (R (E (.map none)) w) (KEs P 88 [.iface k0 (.map m0)] w λe d=>∃c,e=E c/\∃m0,TAs P 20 k0 false d c (.map m0)/\R (E (.map m0)) d)
def Jb0(h: @KEk w R m0 80):Calls P 50 #[.map m0] w R:=cok {} Tryz.func50 h
def Jby(h: @KEk w R m0 83):Calls P 52 #[.map m0] w R:=cok {} Tryz.func52 h
def Jbz(h: @KEk w R m0 147):Calls P 90 #[.map m0] w R:=cok {} Tryz.func90 h
def KFD(k0 k1 k2 k3:Nat):Prop:=(0<=i0/\i0<=(↑n0:Int))/\B0 ((↑n2:Int)=0) (R (E (S p0 n0 n1)) w) (B0 (i0=(↑n0:Int)) (∃i e h f,App P #[k0,k0] k0 w (S p0 n0 n1) (S p1 n2 n3) (S i e h) f/\R (E (S i e h)) f) (gB ((↑n0:Int)+(↑n2:Int))/\B0 ((↑n1:Int)<(↑n0:Int)+(↑n2:Int)) ((0<=i0/\i0<=(↑n1:Int))/\gB ((↑n0:Int)+(↑n2:Int))/\gB ((↑n0:Int)+(↑n2:Int)-i0)/\∃i e h f,App P #[k0,3] k0 w (S p0 (i0.toNat) n1) (I ((↑n0:Int)+(↑n2:Int)-i0)) (S i e h) f/\(0<=i0/\i0<=(↑e:Int))/\∃p l,Cpy P #[k0,k0] 3 f (S (slA i h (i0.toNat) k1) (e-i0.toNat) (h-i0.toNat)) (S p1 n2 n3) (I p) l/\gB (i0+(↑n2:Int))/\(0<=i0+(↑n2:Int)/\i0+(↑n2:Int)<=(↑e:Int))/\(0<=i0/\i0<=(↑n0:Int))/\∃q f,Cpy P #[k0,k0] 3 l.drew (S (slA i h (Int.toNat (i0+(↑n2:Int))) k1) (e-Int.toNat (i0+(↑n2:Int))) (h-Int.toNat (i0+(↑n2:Int)))) (S (slA p0 n1 (i0.toNat) k1) (n0-i0.toNat) (n1-i0.toNat)) (I q) f/\R (E (S i e h)) f) (gB ((↑n0:Int)+(↑n2:Int))/\(0<=(↑n0:Int)+(↑n2:Int)/\(↑n0:Int)+(↑n2:Int)<=(↑n1:Int))/\gB (i0+(↑n2:Int))/\(0<=i0+(↑n2:Int)/\i0+(↑n2:Int)<=(↑(Int.toNat ((↑n0:Int)+(↑n2:Int))):Int))/\KEs P k2 [S p1 n2 n3,S (slA p0 n1 (Int.toNat (i0+(↑n2:Int))) k1) (Int.toNat ((↑n0:Int)+(↑n2:Int))-Int.toNat (i0+(↑n2:Int))) (n1-Int.toNat (i0+(↑n2:Int)))] w λn m=>∃o,n=E (.bool o)/\br (!o) (gB (i0+(↑n2:Int))/\(0<=i0+(↑n2:Int)/\i0+(↑n2:Int)<=(↑(Int.toNat ((↑n0:Int)+(↑n2:Int))):Int))/\(0<=i0/\i0<=(↑(Int.toNat ((↑n0:Int)+(↑n2:Int))):Int))/\∃e f,Cpy P #[k0,k0] 3 m.drew (S (slA p0 n1 (Int.toNat (i0+(↑n2:Int))) k1) (Int.toNat ((↑n0:Int)+(↑n2:Int))-Int.toNat (i0+(↑n2:Int))) (n1-Int.toNat (i0+(↑n2:Int)))) (S (slA p0 n1 (i0.toNat) k1) (Int.toNat ((↑n0:Int)+(↑n2:Int))-i0.toNat) (n1-i0.toNat)) (I e) f/\(0<=i0/\i0<=(↑(Int.toNat ((↑n0:Int)+(↑n2:Int))):Int))/\∃e l,Cpy P #[k0,k0] 3 f (S (slA p0 n1 (i0.toNat) k1) (Int.toNat ((↑n0:Int)+(↑n2:Int))-i0.toNat) (n1-i0.toNat)) (S p1 n2 n3) (I e) l/\R (E (S p0 (Int.toNat ((↑n0:Int)+(↑n2:Int))) n1)) l) ((0<=(↑n0:Int)/\(↑n0:Int)<=(↑(Int.toNat ((↑n0:Int)+(↑n2:Int))):Int))/\∃e f,Cpy P #[k0,k0] 3 m (S (slA p0 n1 (Int.toNat (↑n0:Int)) k1) (Int.toNat ((↑n0:Int)+(↑n2:Int))-Int.toNat (↑n0:Int)) (n1-Int.toNat (↑n0:Int))) (S p1 n2 n3) (I e) f/\(0<=i0/\i0<=(↑(Int.toNat ((↑n0:Int)+(↑n2:Int))):Int))/\C1 k3 [S (slA p0 n1 (i0.toNat) k1) (Int.toNat ((↑n0:Int)+(↑n2:Int))-i0.toNat) (n1-i0.toNat),I (↑n2:Int)] f λm=>R (E (S p0 (Int.toNat ((↑n0:Int)+(↑n2:Int))) n1)) m))))
def Jbw(h: @KFD w R p0 p1 n0 n1 n2 n3 i0 59 1 181 182):Calls P 122 #[S p0 n0 n1,I i0,S p1 n2 n3] w R:=cok {} Tryz.func122 h
def Jbv(h: @KFD w R p0 p1 n0 n1 n2 n3 i0 69 2 220 221):Calls P 153 #[S p0 n0 n1,I i0,S p1 n2 n3] w R:=cok {} Tryz.func153 h
def KEv(k0 k1:Nat):Prop:=(0<=i0/\i0<=i1/\i1<=(↑n0:Int)/\(↑n0:Int)<=(↑n1:Int))/\B0 (i0=i1) (R (E (S p0 n0 n1)) w) ((0<=i0/\i0<=(↑n1:Int))/\(0<=i1/\i1<=(↑n0:Int))/\∃g c f i,App P #[k0,k0] k0 w.drew (S p0 (i0.toNat) n1) (S (slA p0 n1 (i1.toNat) k1) (n0-i1.toNat) (n1-i1.toNat)) (S g c f) i/\(0<=(↑c:Int)/\(↑c:Int)<=(↑n0:Int)/\(↑n0:Int)<=(↑f:Int))/\∃j,Clr P #[k0] 0 i (S (slA g f (Int.toNat (↑c:Int)) k1) (Int.toNat (↑n0:Int)-Int.toNat (↑c:Int)) (f-Int.toNat (↑c:Int))) j/\R (E (S g c f)) j)
def Jbs(h: @KEv w R p0 n0 n1 i0 i1 69 2):Calls P 154 #[S p0 n0 n1,I i0,I i1] w R:=cok {} Tryz.func154 h
def Jbt(h: @KEv w R p0 n0 n1 i0 i1 59 1):Calls P 216 #[S p0 n0 n1,I i0,I i1] w R:=cok {} Tryz.func216 h
def Jbu(h:xI (St:=Int) (λa b f=>B0 (a<n0) (onP p0 λe=>D1 a n0/\G1 b (e.add (a.toNat*1)) λc=>B0 (i0=c) (R (E (I a)) b) (gB (a+1)/\f (a+1) b)) (R (E (I (-1:Int))) b)) 0 w):Calls P 215 #[S p0 n0 n1,I i0] w R:=cok ⟨[],[(2,[(8,iI)])],[],[]⟩ Tryz.func215 h
def Jbm(h:xI (St:=Int×Int) (λa b j=>B0 (a.1<a.2) (gB (a.1+a.2)/\(0:Int)<=(1:Int)/\onP p0 λd=>((0:Int)<=IntKind.wrap .i64 (Int.fdiv (IntKind.wrap .u64 (a.1+a.2)) ((2:Int)^min (Int.toNat (1:Int)) (IntKind.bits .u64)))/\IntKind.wrap .i64 (Int.fdiv (IntKind.wrap .u64 (a.1+a.2)) ((2:Int)^min (Int.toNat (1:Int)) (IntKind.bits .u64)))<n0)/\G2 b (d.add (Int.toNat (IntKind.wrap .i64 (Int.fdiv (IntKind.wrap .u64 (a.1+a.2)) ((2:Int)^min (Int.toNat (1:Int)) (IntKind.bits .u64))))*1)) λf=>C2 155 [.string f,.string s0] b λc b=>br c (gB (IntKind.wrap .i64 (Int.fdiv (IntKind.wrap .u64 (a.1+a.2)) ((2:Int)^min (Int.toNat (1:Int)) (IntKind.bits .u64)))+(1:Int))/\j (IntKind.wrap .i64 (Int.fdiv (IntKind.wrap .u64 (a.1+a.2)) ((2:Int)^min (Int.toNat (1:Int)) (IntKind.bits .u64)))+(1:Int),a.2) b) (j (a.1,IntKind.wrap .i64 (Int.fdiv (IntKind.wrap .u64 (a.1+a.2)) ((2:Int)^min (Int.toNat (1:Int)) (IntKind.bits .u64)))) b)) (B0 (a.1<n0) (onP p0 λd=>((0:Int)<=a.1/\a.1<n0)/\G2 b (d.add (a.1.toNat*1)) λf=>B0 (f=s0) (R (E (A1 a.1 true)) b) (onP p0 λd=>((0:Int)<=a.1/\a.1<n0)/\G2 b (d.add (a.1.toNat*1)) λk=>C2 156 [.string k] b λc b=>br c (C2 156 [.string s0] b λc b=>R (E (A1 a.1 c)) b) (R (E (A1 a.1 false)) b))) (R (E (A1 a.1 false)) b))) ((0:Int),n0) w):Calls P 98 #[S p0 n0 n1,.string s0] w R:=cok ⟨[],[(3,[(7,iI),(8,iI)])],[],[]⟩ Tryz.func98 h
def Jbl(h:xI (St:=Int×Int) (λa b j=>B0 (a.1<a.2) (gB (a.1+a.2)/\(0:Int)<=(1:Int)/\onP p0 λg=>((0:Int)<=IntKind.wrap .i64 (Int.fdiv (IntKind.wrap .u64 (a.1+a.2)) ((2:Int)^min (Int.toNat (1:Int)) (IntKind.bits .u64)))/\IntKind.wrap .i64 (Int.fdiv (IntKind.wrap .u64 (a.1+a.2)) ((2:Int)^min (Int.toNat (1:Int)) (IntKind.bits .u64)))<n0)/\G3 b (g.add (Int.toNat (IntKind.wrap .i64 (Int.fdiv (IntKind.wrap .u64 (a.1+a.2)) ((2:Int)^min (Int.toNat (1:Int)) (IntKind.bits .u64))))*2)) λd e=>zC P v0 [.agg #[.string d,.string e],.string s0] b λh b=>∃c,h=E (I c)/\B0 (c<(0:Int)) (gB (IntKind.wrap .i64 (Int.fdiv (IntKind.wrap .u64 (a.1+a.2)) ((2:Int)^min (Int.toNat (1:Int)) (IntKind.bits .u64)))+(1:Int))/\j (IntKind.wrap .i64 (Int.fdiv (IntKind.wrap .u64 (a.1+a.2)) ((2:Int)^min (Int.toNat (1:Int)) (IntKind.bits .u64)))+(1:Int),a.2) b) (j (a.1,IntKind.wrap .i64 (Int.fdiv (IntKind.wrap .u64 (a.1+a.2)) ((2:Int)^min (Int.toNat (1:Int)) (IntKind.bits .u64)))) b)) (B0 (a.1<n0) (onP p0 λg=>((0:Int)<=a.1/\a.1<n0)/\G3 b (g.add (a.1.toNat*2)) λd e=>zC P v0 [.agg #[.string d,.string e],.string s0] b λh b=>∃c,h=E (I c)/\R (E (A1 a.1 (decide (c=(0:Int))))) b) (R (E (A1 a.1 false)) b))) ((0:Int),n0) w):Calls P 218 #[S p0 n0 n1,.string s0,v0] w R:=cok ⟨[],[(3,[(9,iI),(10,iI)])],[],[]⟩ Tryz.func218 h
def Jbx(h:C2 222 [.string s0] w λa b=>br a (C2 222 [.string s1] b λa b=>br (!a) (R lX b) (R (E (.bool (Op.bytesLess (Array.toList (ByteArray.data s0)) (Array.toList (ByteArray.data s1))))) b)) (R (E (.bool (Op.bytesLess (Array.toList (ByteArray.data s0)) (Array.toList (ByteArray.data s1))))) b)):Calls P 155 #[.string s0,.string s1] w R:=cok {} Tryz.func155 h
def Jb1(h:R (E (.bool !decide (s0=s0))) w):Calls P 156 #[.string s0] w R:=cok {} Tryz.func156 h
def Jb2(h:R (E (.bool !decide (s0=s0))) w):Calls P 222 #[.string s0] w R:=cok {} Tryz.func222 h
def Jbr(h:C3 259 [.string s0,.string s1] w λa e=>R (E (I a)) e):Calls P 201 #[.string s0,.string s1] w R:=cok {} Tryz.func201 h
def Jbq(h:KEs P 298 [.string s0,.string s1] w λd e=>∃a,d=E (I a)/\R (E (I a)) e):Calls P 259 #[.string s0,.string s1] w R:=cok {} Tryz.func259 h
def Jc4(h:C4 10 [] w λk a=>xM (λi a=>br i (∃c,Eqv P .neq 23 (.tmp 35) (.const (Q none)) a (Q k) (Q none) c/\br c (C2 12 [] a λc a=>R (E (.bool c)) a) (R lN a)) (C5 14 [] a λe b f g a=>C6 13 [Q k,A2 e b f g,S p0 n0 n1] a λe b f g c a=>N1 a none 0 0 0 λp h=>U1 h p 0 e b f g λaa=>C7 17 [Q k] aa λe b f a=>br (!c) (R lN a) (xM (St:=OA×Nat×Nat) (λi a=>C11 25 [S i.1 i.2.1 i.2.2] a λo g a=>B1 (g=0) (R lN a) (∃c,Eqv P .eql 23 (.tmp 79) (.const (Q none)) a (Q o) (Q none) c/\br c (R lN a) (L1 a p 0 λe b f g=>C2 15 [Q o,A2 e b f g] a λc a=>br (!c) (R lN a) (C7 17 [Q o] a λe b f a=>C7 16 [S e b f] a λe b f a=>C7 17 [Q k] a λt H y a=>C7 16 [S t H y] a λq K z a=>C2 21 [S e b f,S q K z] a λc a=>br (!c) (R lN a) (L1 a p 0 λe b f g=>C7 26 [A2 e b f g] a λe b f a=>xI (St:=Int) (λi a ab=>B0 (i<(↑b:Int)) (onP e λe=>D1 i b/\G1 a (e.add (i.toNat*1)) λg=>C12 27 [Q k,I g] a λA B c a=>N3 a 0 0 λn h=>U3 h n 0 A B λl=>C12 27 [Q o,I g] l λg C r a=>N3 a 0 0 λs h=>U3 h s 0 g C λm=>L3 m n 0 λg D=>L3 m s 0 λF G=>∃x,Eqv P .neq 62 (.tmp 117) (.tmp 118) m (A4 g D) (A4 F G) x/\br x (R lN m) (br (!c) (R lN m) (br (!r) (R lN m) (gB (i+1)/\ab (i+1) m)))) (L1 a p 0 λe b f g=>C6 13 [Q o,A2 e b f g,S p1 n2 n3] a λe b f g c a=>N1 a none 0 0 0 λn h=>U1 h n 0 e b f g λl=>C2 12 [] l λr a=>br r (br c (L1 a n 0 λe b f g=>C2 15 [Q o,A2 e b f g] a λc a=>br c (L1 a p 0 λe b f g=>C2 15 [Q k,A2 e b f g] a λc a=>R (E (.bool c)) a) (R lN a)) (R lN a)) (R lN a))) 0 a))))) λJ=>xM (λi a=>br i ((↑b:Int)≠0/\(0<=Int.tmod i0 (↑b:Int)/\Int.tmod i0 (↑b:Int)<=(↑b:Int))/\(0<=Int.tmod i0 (↑b:Int)/\Int.tmod i0 (↑b:Int)<=(↑f:Int))/\∀c h,New a.drew (.cells #[] 55) c h->∃q V L l,App P #[39,39] 39 h (S (some (.mk c 0 none)) 0 0) (S (slA e f (Int.toNat (Int.tmod i0 (↑b:Int))) 4) (b-Int.toNat (Int.tmod i0 (↑b:Int))) (f-Int.toNat (Int.tmod i0 (↑b:Int)))) (S q V L) l/\∃v W M h,App P #[39,39] 39 l (S q V L) (S e (Int.toNat (Int.tmod i0 (↑b:Int))) f) (S v W M) h/\J (v,W,M) h) (J (e,b,f) a)) λ(J:Bool->Wq->Prop)=>B0 (0<i0) (J (decide (0<(↑b:Int))) a) (J false a)))) λ(J:Bool->Wq->Prop)=>∃c,Eqv P .eql 23 (.tmp 23) (.const (Q none)) a (Q k) (Q none) c/\br c (J true a) (C2 11 [S p0 n0 n1] a λc a=>br (!c) (J true a) (C2 11 [S p1 n2 n3] a λc a=>J (!c) a))):Calls P 7 #[S p0 n0 n1,S p1 n2 n3,I i0] w R:=cok ⟨[],[(15,[(101,iI)])],[(3,[(34,.inr 0)]),(11,[(10,.inr 3)]),(9,[(57,.inr 0)])],[]⟩ Tryz.func7 h
def Jcn(h:C4 37 [] w λg c=>∀d a,New c (.map #[] 0) d a->C4 38 [] a λh c=>∀e a,New c (.map #[] 0) e a->∀f i,New a (.cells #[Q g,.map (some d),Q h,S none 0 0,.map (some e)] 86) f i->R (E (Q (some (.mk f 0 none)))) i):Calls P 10 #[] w R:=cok {} Tryz.func10 h
def Jaa(h:C4 10 [] w λc a=>∃d,Eqv P .eql 23 (.tmp 8) (.const (Q none)) a (Q c) (Q none) d/\br d (R lN a) (C7 24 [] a λf h g a=>C9 19 [Q c,A3 0 0 0 0 (.mk #[]) (.mk #[]) f h g] a λe f h g i a=>C7 17 [Q c] a λf k g a=>C11 25 [S f k g] a λc j a=>B0 (e=1) (B0 (0<(↑h:Int)) (B0 (i=0) (B0 (j=0) (∃d,Eqv P .neq 23 (.tmp 40) (.const (Q none)) a (Q c) (Q none) d/\br d (C4 22 [Q c] a λl a=>∃d,Eqv P .neq 49 (.tmp 45) (.const (Q none)) a (Q l) (Q none) d/\br d (C4 22 [Q c] a λm a=>C3 30 [Q m] a λe a=>B0 (e=2) (C4 22 [Q c] a λc a=>C3 39 [Q c] a λe a=>R (E (.bool (decide (e=3)))) a) (R lN a)) (R lN a)) (R lN a)) (R lN a)) (R lN a)) (R lN a)) (R lN a))):Calls P 12 #[] w R:=cok {} Tryz.func12 h
def Jdc(h:N1 w p1 n0 n1 i0 λh g=>N1 g none 0 0 0 λn ag=>C7 17 [Q p0] ag λc a b d=>C7 16 [S c a b] d λc a b d=>xI (St:=(OA×Nat×Nat)×Int) (λi d ah=>B0 (i.2<(↑n2:Int)) (xM (St:=OA×Nat×Nat) (λk d=>gB (i.2+1)/\ah ((k.1,k.2.1,k.2.2),i.2+1) d) λJ=>onP p2 λc=>D1 i.2 n2/\G4 d (c.add (i.2.toNat*7)) λe B M N k Y l a b=>N2 d 0 0 0 0 (.mk #[]) (.mk #[]) none 0 0 λj g=>U2 g j 0 e B M N k Y l a b λt=>L1 t h 0 λc a b e=>L2 t j 0 λO T V W Z aa m q o=>C14 40 [A2 c a b e,A3 O T V W Z aa m q o] t λc a b e X x d=>N1 d none 0 0 0 λs g=>U1 g s 0 c a b e λz=>L2 z j 0 λe C D F ab ac c a b=>C8 20 [A3 e C D F ab ac c a b] z λe G H K ad ae c a b d=>C9 19 [Q p0,A3 e G H K ad ae c a b] d λe c a b v d=>xM (St:=PUnit) (λao d=>L1 d s 0 λA r p L=>U1 d h 0 A r p L λg=>xM (λam d=>br am (L1 d h 0 λc a b e=>U1 d n 0 c a b e λg=>L1 g n 0 λc a b e=>R (E (.tuple #[(A2 c a b e),.bool false])) g) (C7 16 [S c a b] d λc a b d=>C7 42 [S i.1.1 i.1.2.1 i.1.2.2,S c a b] d λc a b d=>J (c,a,b) d)) λ(J:Bool->Wq->Prop)=>B1 (e=X) (J true g) (B1 (x=v) (J true g) (B1 (x=0) (B0 (0<(↑a:Int)) (J true g) (C7 16 [S c a b] g λc a b d=>C2 34 [S c a b] d λh d=>J (!h) d)) (C7 16 [S c a b] g λc a b d=>C2 34 [S c a b] d λh d=>J (!h) d)))) λJ_1=>B0 (v=94) (L1 d s 0 λc a b e=>C2 41 [A2 c a b e] d λh d=>br h (J (i.1.1,i.1.2.1,i.1.2.2) d) (J_1 () d)) (J_1 () d)) (L1 d.drew h 0 λc a b e=>C7 17 [Q p0] d.drew λl q o d=>Ld P 29 d (.mk h 0 none) (A2 c a b e)/\C7 16 [S l q o] d λm r p d=>Ld P 29 d (.mk h 0 none) (A2 c a b e)/\C2 21 [S i.1.1 i.1.2.1 i.1.2.2,S m r p] d λj d=>Ld P 29 d (.mk h 0 none) (A2 c a b e)/\U1 d n 0 c a b e λg=>L1 g n 0 λc a b e=>R (E (.tuple #[(A2 c a b e),.bool j])) g)) ((c,a,b),0) d):Calls P 13 #[Q p0,A2 p1 n0 n1 i0,S p2 n2 n3] w R:=cok ⟨[],[(3,[(8,.inr 3),(22,iI)])],[(12,[(8,.inr 3)]),(8,[]),(10,[(70,.inr 0)])],[]⟩ Tryz.func13 h
def Jdv(h:N1 w none 0 0 0 λa g=>U1 g a 0 none 0 0 1 λb=>L1 b a 0 λc f d e=>R (E (A2 c f d e)) b):Calls P 14 #[] w R:=cok {} Tryz.func14 h
def Je6(h:N1 w p1 n0 n1 i0 λd z=>C4 22 [Q p0] z λh a=>∃o,Eqv P .neq 49 (.tmp 8) (.const (Q none)) a.drew (Q h) (Q none) o/\br o (L4 a.drew d 1 λg=>C3 39 [Q h] a.drew λs a=>Ld P 3 a (.mk d 1 none) (I g)/\B0 (s=g) (L1 a d 0 λc f e g=>C7 28 [Q h] a λm x q a=>Ld P 29 a (.mk d 0 none) (A2 c f e g)/\C7 26 [A2 c f e g] a λc f e a=>C2 43 [S m x q,S c f e] a λp a=>br p (L1 a d 0 λc f e g=>L1 a d 0 λi l j k=>C3 33 [Q h] a λt a=>Ld P 29 a (.mk d 0 none) (A2 i l j k)/\Ld P 29 a (.mk d 0 none) (A2 c f e g)/\C7 32 [Q h,I t] a λn y r a=>Ld P 29 a (.mk d 0 none) (A2 i l j k)/\Ld P 29 a (.mk d 0 none) (A2 c f e g)/\C3 46 [A2 i l j k] a λv a=>Ld P 29 a (.mk d 0 none) (A2 c f e g)/\C7 45 [A2 c f e g,I v] a λc f e a=>C2 44 [S n y r,S c f e] a λd a=>R (E (.bool d)) a) (R lN a)) (R lN a)) (R lN a.drew)):Calls P 15 #[Q p0,A2 p1 n0 n1 i0] w R:=cok {} Tryz.func15 h
def Jdb(h:xI (St:=(OA×Nat×Nat)×Int) (λa g s=>B0 (a.2<n0) (onP p0 λe=>D1 a.2 n0/\∃c j o b,Ld P 55 g (e.add (a.2.toNat*4)) (A5 c j o b)/\N7 g 0 0 (.mk #[]) false λf d=>∃h,St P 55 d (.mk f 0 none) (A5 c j o b) h/\∃c k p b,Ld P 55 h (.mk f 0 none) (A5 c k p b)/\N6 h c k p b λi d=>∃e n m q,App P #[37,37] 37 d (S a.1.1 a.1.2.1 a.1.2.2) (S (some (.mk i 0 none)) 1 1) (S e n m) q/\gB (a.2+1)/\s ((e,n,m),a.2+1) q) (R (E (S a.1.1 a.1.2.1 a.1.2.2)) g)) ((none,0,0),0) w):Calls P 16 #[S p0 n0 n1] w R:=cok ⟨[],[(3,[(3,.inr 3),(8,iI)])],[],[]⟩ Tryz.func16 h
def Jcv(h:onP p0 λc=>G6 w (c.add 3) λk e g=>xI (St:=(OA×Nat×Nat)×Int) (λa d q=>B0 (a.2<e) (onP k λc=>D1 a.2 e/\G7 d (c.add (a.2.toNat*1)) λj=>C7 47 [Q j] d λc e g d=>xI (St:=(OA×Nat×Nat)×Int) (λb d r=>B0 (b.2<e) (onP c λc=>D1 b.2 e/\G1 d (c.add (b.2.toNat*1)) λi=>C15 48 [Q j,I i] d λn f d=>N7 d a.2 i n false λf o=>∃c m l p,App P #[39,39] 39 o (S b.1.1 b.1.2.1 b.1.2.2) (S (some (.mk f 0 none)) 1 1) (S c m l) p/\gB (b.2+1)/\r ((c,m,l),b.2+1) p) (gB (a.2+1)/\q ((b.1.1,b.1.2.1,b.1.2.2),a.2+1) d)) ((a.1.1,a.1.2.1,a.1.2.2),0) d) (R (E (S a.1.1 a.1.2.1 a.1.2.2)) d)) ((none,0,0),0) w):Calls P 17 #[Q p0] w R:=cok ⟨[],[(3,[(3,.inr 3),(15,iI)]),(6,[(3,.inr 3),(23,iI)])],[],[]⟩ Tryz.func17 h
def Jcb(h:onP p0 λb=>G8 w.drew b λc=>onP p0 λb=>G9 w.drew (b.add 1) λf=>onP p0 λo=>G10 w.drew (o.add 2) λn=>onP p0 λm=>G11 w.drew (m.add 4) λk=>C4 49 [Q c] w.drew λc a=>Ld P 83 a (m.add 4) (.map k)/\Ld P 81 a (o.add 2) (Q n)/\Ld P 80 a (b.add 1) (.map f)/\C16 50 [.map f] a λf a=>Ld P 83 a (m.add 4) (.map k)/\Ld P 81 a (o.add 2) (Q n)/\C4 51 [Q n] a λv a=>Ld P 83 a (m.add 4) (.map k)/\C16 52 [.map k] a λs a=>∀h d,New a (.cells #[Q c,.map f,Q v,S none 0 0,.map s] 86) h d->onP p0 λb=>G6 d (b.add 3) λp g i=>xI (St:=Int) (λj a y=>B0 (j<g) (onP p λb=>D1 j g/\G7 a (b.add (j.toNat*1)) λc=>∃b g i,Ld P 84 a.drew (.mk h 3 none) (S b g i)/\C4 53 [Q c] a.drew λc a=>Ld P 84 a (.mk h 3 none) (S b g i)/\N8 a c λr d=>Ld P 84 d (.mk h 3 none) (S b g i)/\∃q t f x,App P #[84,84] 84 d (S b g i) (S (some (.mk r 0 none)) 1 1) (S q t f) x/\∃d,St P 84 x (.mk h 3 none) (S q t f) d/\gB (j+1)/\y (j+1) d) (R (E (Q (some (.mk h 0 none)))) a)) 0 d):Calls P 18 #[Q p0] w R:=cok ⟨[],[(3,[(33,iI)])],[],[]⟩ Tryz.func18 h
def Jcc(h:∀i h,New w (.cells #[I i0,I i1,I i2,I i3,.string s0,.string s1,S p1 n0 n1] 45) i h->C4 18 [Q p0] h λf a=>onP f λb=>G8 a.drew b λL=>∃k C D F d T b e j,Ld P 45 a.drew (.mk i 0 none) (A3 k C D F d T b e j)/\C10 54 [Q L,A3 k C D F d T b e j] a.drew λk q a=>B1 (q=0) (R (E (A6 0 none 0 0 q)) a) (xM (St:=OA×Nat×Nat) (λd a=>onP f λb=>G10 a.drew (b.add 2) λl=>onP f λx=>G8 a.drew x λt=>onP f λV=>G8 a.drew V λM=>C3 33 [Q M] a.drew λm a=>Ld P 49 a x (Q t)/\Ld P 81 a (b.add 2) (Q l)/\C7 32 [Q t,I m] a λy e j a=>Ld P 81 a (b.add 2) (Q l)/\C7 57 [S y e j] a λz e j a=>Ld P 81 a (b.add 2) (Q l)/\C3 56 [Q l,S z e j] a λr a=>B1 (r=0) (R (E (A6 0 none 0 0 r)) a) (onP f λb=>G8 a.drew b λN=>onP p0 λb=>G9 a.drew (b.add 1) λg=>C16 58 [Q N,.map g,S d.1 d.2.1 d.2.2] a.drew λg a=>onP f λb=>∃h,St P 80 a (b.add 1) (.map g) h/\∀i n,New h (.map #[] 0) i n->∀p h,New n (.cells #[Q f,.map (some i)] 112) p h->C16 60 [Q f] h λg a=>C3 59 [Q (some (.mk p 0 none)),.map g] a λs a=>B1 (s=0) (R (E (A6 0 none 0 0 s)) a) (C7 61 [Q (some (.mk p 0 none)),Q p0] a λb e j a=>onP f λW=>∃f g O A G B H,Ld P 86 a W (.agg #[Q f,.map g,Q O,S A G B,.map H])/\onP p0 λX=>∃h,St P 86 a X (.agg #[Q f,.map g,Q O,S A G B,.map H]) h/\R (E (A6 k b e j 0)) h))) λJ=>L4 a i 0 λk=>B0 (k=3) (onP f λb=>G8 a b λl=>C7 28 [Q l] a λb e j a=>xI (St:=(OA×Nat×Nat)×Int) (λd a ah=>B0 (d.2<e) (xM (St:=OA×Nat×Nat) (λv a=>gB (d.2+1)/\ah ((v.1,v.2.1,v.2.2),d.2+1) a) λJ=>onP b λb=>D1 d.2 e/\G1 a (b.add (d.2.toNat*1)) λk=>L4 a i 1 λm=>C2 55 [Q f,I k,I m] a λi a=>br i (N9 a k λi h=>∃b K g n,App P #[59,59] 59 h (S d.1.1 d.1.2.1 d.1.2.2) (S (some (.mk i 0 none)) 1 1) (S b K g) n/\J (b,K,g) n) (J (d.1.1,d.1.2.1,d.1.2.2) a)) (J (d.1.1,d.1.2.1,d.1.2.2) a)) ((none,0,0),0) a) (J (none,0,0) a))):Calls P 19 #[Q p0,A3 i0 i1 i2 i3 s0 s1 p1 n0 n1] w R:=cok ⟨[],[(8,[(10,.inr 3),(38,iI)])],[(13,[(10,.inr 3)]),(12,[(10,.inr 3)])],[]⟩ Tryz.func19 h
def Jc5(h:N2 w i0 i1 i2 i3 s0 s1 p0 n0 n1 λb c=>∀i a,New c (.cells #[I 0,I 0,I 0,I 0,.string (.mk #[]),.string (.mk #[]),S none 0 0] 45) i a->L4 a b 0 λf=>L4 a b 1 λj=>L4 a b 2 λk=>L4 a b 3 λl=>L7 a b 4 λh=>L7 a b 5 λp=>L6 a b 6 λd g e=>∃c,St P 45 a (.mk i 0 none) (A3 f j k l h p d g e) c/\∃f m n o h q d g e,Ld P 45 c (.mk i 0 none) (A3 f m n o h q d g e)/\R (E (A3 f m n o h q d g e)) c):Calls P 20 #[A3 i0 i1 i2 i3 s0 s1 p0 n0 n1] w R:=cok {} Tryz.func20 h
def Jei(h:B1 ((↑n0:Int)=n2) (R lN w) (xI (St:=Int) (λa b q=>B0 (a<n0) (onP p0 λc=>D1 a n0/\G5 b.drew (c.add (a.toNat*4)) λi j m e=>onP p1 λc=>D1 a n2/\G5 b.drew (c.add (a.toNat*4)) λk l n f=>∃g,Eqv P .neq 79 (.tmp 20) (.tmp 24) b.drew (A5 i j m e) (A5 k l n f) g/\br g (R lN b.drew) (gB (a+1)/\q (a+1) b.drew)) (R lX b)) 0 w)):Calls P 21 #[S p0 n0 n1,S p1 n2 n3] w R:=cok ⟨[],[(4,[(5,iI)])],[],[]⟩ Tryz.func21 h
def Jcz(h:onP p0 λb=>G8 w b λa=>C4 49 [Q a] w λa e=>R (E (Q a)) e):Calls P 22 #[Q p0] w R:=cok {} Tryz.func22 h
def Ja9(h:C10 62 [S p1 n0 n1] w λb h c=>B1 (h=0) (R (E (A7 0 h)) c) (onP p0 λa=>G1 c (a.add 2) λb=>gB (2147483647-b)/\B0 (2147483647-b<n0) (R (E (A7 0 66)) c) (∀i f,New c (.map #[] 0) i f->onP p0 λa=>∃n,St P 117 f a (.map (some i)) n/\onP p0 λa=>Z2 n (a.add 1) 0 λf=>C7 64 [Q p0,I n0] f λa k j c=>C3 63 [Q p0,I 0,I 0,S p1 n0 n1,S a k j] c λb c=>R (E (A7 b 0)) c))):Calls P 23 #[Q p0,S p1 n0 n1] w R:=cok {} Tryz.func23 h
def Jad(h:∀a b,New w (.cells #[I 0,I 1,.string (ByteArray.mk #[(97:UInt8)]),.string (.mk #[]),S none 0 0,I 1,I 2,.string (.mk #[]),.string (ByteArray.mk #[(120:UInt8)]),S none 0 0] 123) a b->R (E (S (some (.mk a 0 none)) 2 2)) b):Calls P 24 #[] w R:=cok {} Tryz.func24 h
def Jcl(h:C4 10 [] w λe a=>∀b f,New a (.map #[] 0) b f->∀g t,New f (.cells #[Q e,I 0,S none 0 0,.map (some b),S none 0 0] 128) g t->xI (St:=Int) (λi a v=>B0 (i<n0) (onP p0 λh=>D1 i n0/\∃d m r b,Ld P 55 a (h.add (i.toNat*4)) (A5 d m r b)/\N7 a 0 0 (.mk #[]) false λj f=>∃k,St P 55 f (.mk j 0 none) (A5 d m r b) k/\∃d n s b,Ld P 55 k (.mk j 0 none) (A5 d n s b)/\C2 65 [Q (some (.mk g 0 none)),A5 d n s b] k λb a=>br (!b) (R (E (A8 none 160)) a) (gB (i+1)/\v (i+1) a)) (∃h o l,Ld P 106 a (.mk g 2 none) (S h o l)/\C11 66 [S h o l] a λe d a=>B1 (d=0) (R (E (A8 none 160)) a) (C2 67 [Q (some (.mk g 0 none))] a λb a=>br (!b) (R (E (A8 none 160)) a) (∃p,Ld P 23 a (.mk g 0 none) (Q p)/\onP p λh=>∃f,St P 81 a (h.add 2) (Q e) f/\C2 68 [Q (some (.mk g 0 none))] f λb a=>br (!b) (R (E (A8 none 160)) a) (∃e,Ld P 23 a (.mk g 0 none) (Q e)/\R (E (A8 e 0)) a))))) 0 t):Calls P 25 #[S p0 n0 n1] w R:=cok ⟨[],[(3,[(15,iI)])],[],[]⟩ Tryz.func25 h
def Jdw(h:N1 w p0 n0 n1 i0 λc f=>xI (St:=(OA×Nat×Nat)×Int) (λa e l=>L8 e c 0 λb d g=>B0 (a.2<d) (L8 e c 0 λb d g=>onP b λb=>D1 a.2 d/\G1 e (b.add (a.2.toNat*6)) λh=>N9 e h λc f=>∃b j i k,App P #[59,59] 59 f (S a.1.1 a.1.2.1 a.1.2.2) (S (some (.mk c 0 none)) 1 1) (S b j i) k/\gB (a.2+1)/\l ((b,j,i),a.2+1) k) (R (E (S a.1.1 a.1.2.1 a.1.2.2)) e)) ((none,0,0),0) f):Calls P 26 #[A2 p0 n0 n1 i0] w R:=cok ⟨[],[(3,[(3,.inr 3),(4,iI)])],[],[]⟩ Tryz.func26 h
def Jcw(h:N3 w 0 0 λc b=>onP p0 λl=>G9 b (l.add 1) λj=>∃a g f,Lk P 80 true b (.map j) (I i0) (A9 a g f)/\N3 b 0 0 λd k=>U3 k d 0 a g λb=>L3 b d 0 λa h=>U3 b c 0 a h λe=>L3 e c 0 λa i=>R (E (A9 a i f)) e):Calls P 27 #[Q p0,I i0] w R:=cok {} Tryz.func27 h
def Jbd(h:N10 w none 0 0 λf a=>onP p0 λc=>G1 a (c.add 1) λm=>xk P 69 [Q p0,I m,I 0] a λv b=>∃q,v=E q/\∃(h:FuncId),∃(l:Array Value),∃(k:Array Value),q=Value.func (.func h) l k/\zo P h/\KAA P h (Array.toList l) (Array.toList k) (λ(g:Int×Int)=>[I g.1,I g.2]) (λ(g:Int×Int)(b:Wq)(t:Wq->(Wq->Prop)->Prop)(x z:WP)(A:Nat->Wq->Prop)=>t b λs=>L9 s f 0 λc e d=>N9 s g.1 λj a=>∃i o n r,App P #[59,59] 59 a (S c e d) (S (some (.mk j 0 none)) 1 1) (S i o n) r/\U5 r f 0 i o n λa=>x a) b (λD b=>L9 b f 0 λc e d=>∃a,zS b D a/\R (E (S c e d)) a) (λD b=>False) λ(y D:Nat)(b:Wq)=>False):Calls P 28 #[Q p0] w R:=cok ⟨[],[],[],[(4,[(11,iI),(12,iI)])]⟩ Tryz.func28 h
def Ja2(h:N5 w 0 0 0 0 (.mk #[]) (.mk #[]) none 0 0 λh a=>onP p0 λb=>G12 a b λH=>∃n t,Lk P 117 true a (.map H) (I i0) (A10 n t)/\br (!t) (U4 a h 0 0 0 0 0 (.mk #[]) (.mk #[]) none 0 0 λg=>L10 g h 0 λe j k l f m b c d=>R (E (.tuple #[(A3 e j k l f m b c d),.bool false])) g) (onP n λb=>∃e j k l f m p c d,Ld P 71 a b (A3 e j k l f m p c d)/\N5 a 0 0 0 0 (.mk #[]) (.mk #[]) none 0 0 λi g=>U4 g i 0 e j k l f m p c d λa=>onP n λb=>G13 a.drew (b.add 7) λq c d=>onP n λN=>G14 a.drew (N.add 6) λr F v=>C7 70 [S r F v] a.drew λs G x M=>Ld P 59 M (b.add 7) (S q c d)/\U6 M i 3 c λa=>U7 a i 6 s G x λo=>L10 o i 0 λe y z A f K b c d=>U4 o h 0 e y z A f K b c d λa=>L10 a h 0 λe B C D f L b c d=>R (E (.tuple #[(A3 e B C D f L b c d),.bool true])) a)):Calls P 29 #[Q p0,I i0] w R:=cok {} Tryz.func29 h
def Ja7(h:onP p0 λc=>G12 w c λb=>∃a,LenM P #[117] 3 w (.map b) (I a)/\R (E (I a)) w):Calls P 30 #[Q p0] w R:=cok {} Tryz.func30 h
def Ja6(h:∀h b,New w (.cells #[Q p0] 49) h b->∀i q,New b (.cells #[S none 0 0] 34) i q->∃c,Ld P 49 q (.mk h 0 none) (Q c)/\xk P 69 [Q c,I i0,I 0] q λl a=>∃L,l=E L/\∃(m:FuncId),∃(C:Array Value),∃(B:Array Value),L=Value.func (.func m) C B/\zo P m/\KAA P m (Array.toList C) (Array.toList B) (λ(k:Int×Int)=>[I k.1,I k.2]) (λ(k:Int×Int)(a:Wq)(O:Wq->(Wq->Prop)->Prop)(T W:WP)(X:Nat->Wq->Prop)=>O a λe=>∃c,Ld P 49 e (.mk h 0 none) (Q c)/\onP c λd=>G12 e d λj=>∃c,Lk P 117 false e (.map j) (I k.1) (Q c)/\L6 e.drew i 0 λd g f=>onP c λr=>G1 e.drew (r.add 2) λn=>onP c λs=>G2 e.drew (s.add 4) λo=>onP c λt=>G2 e.drew (t.add 5) λp=>onP c λN=>G14 e.drew (N.add 6) λv G z=>C7 70 [S v G z] e.drew λx H A a=>Ld P 9 a (t.add 5) (.string p)/\Ld P 9 a (s.add 4) (.string o)/\Ld P 3 a (r.add 2) (I n)/\Ld P 34 a (.mk i 0 none) (S d g f)/\N11 a k.2 n o p x H A λh b=>Ld P 34 b (.mk i 0 none) (S d g f)/\∃y K j M,App P #[34,34] 34 b (S d g f) (S (some (.mk h 0 none)) 1 1) (S y K j) M/\∃b,St P 34 M (.mk i 0 none) (S y K j) b/\T b) a (λD a=>L6 a i 0 λd g f=>∃b,zS a D b/\R (E (S d g f)) b) (λD a=>False) λ(i0 D:Nat)(a:Wq)=>False):Calls P 32 #[Q p0,I i0] w R:=cok ⟨[],[],[],[(5,[(12,iI),(13,iI)])]⟩ Tryz.func32 h
def Jbf(h:onP p0 λb=>G1 w (b.add 1) λa=>R (E (I a)) w):Calls P 33 #[Q p0] w R:=cok {} Tryz.func33 h
def Jd7(h:xI (St:=Int) (λa b o=>B0 (a<n0) (gB (a-1)/\onP p0 λd=>(0<=a-1/\a-1<n0)/\G5 b.drew (d.add (Int.toNat (a-1)*4)) λg h l c=>onP p0 λd=>D1 a n0/\G5 b.drew (d.add (a.toNat*4)) λi j m f=>C2 76 [A5 g h l c,A5 i j m f] b.drew λc b=>br (!c) (R lN b) (gB (a+1)/\o (a+1) b)) (R lX b)) 1 w):Calls P 34 #[S p0 n0 n1] w R:=cok ⟨[],[(2,[(3,iI)])],[],[]⟩ Tryz.func34 h
def Jbb(h:∀a c,New w (.map #[] 0) a c->∀b d,New c (.cells #[.map (some a),I 0,I 1] 119) b d->R (E (Q (some (.mk b 0 none)))) d):Calls P 37 #[] w R:=cok {} Tryz.func37 h
def Jfh(h:∀a c,New w (.map #[] 0) a c->∀b d,New c (.cells #[S none 0 0,.map (some a)] 150) b d->R (E (Q (some (.mk b 0 none)))) d):Calls P 38 #[] w R:=cok {} Tryz.func38 h
def Jbc(h:onP p0 λb=>G1 w (b.add 2) λa=>R (E (I a)) w):Calls P 39 #[Q p0] w R:=cok {} Tryz.func39 h
def Jd9(h:N1 w p0 n0 n1 i0 λj b=>N2 b i1 i2 i3 i4 s0 s1 p1 n2 n3 λh v=>N1 v none 0 0 0 λg b=>xM (λi f=>br i (L1 f j 0 λc e d a=>U1 f g 0 c e d a λb=>L1 b g 0 λc e d a=>R (E (A11 c e d a 0 1)) b) (L1 f j 0 λc e d a=>L2 f h 0 λm n o p i t k s l=>C14 77 [A2 c e d a,A3 m n o p i t k s l] f λc e d a q r f=>U1 f g 0 c e d a λb=>L1 b g 0 λc e d a=>R (E (A11 c e d a q r)) b)) λ(J:Bool->Wq->Prop)=>L4 b h 0 λa=>B0 (a<0) (J true b) (L4 b h 0 λa=>J (decide (6<a)) b)):Calls P 40 #[A2 p0 n0 n1 i0,A3 i1 i2 i3 i4 s0 s1 p1 n2 n3] w R:=cok ⟨[],[],[(2,[(14,.inr 0)])],[]⟩ Tryz.func40 h
end
section
variable{w:World}{R:Ending->World->Prop}{p0 p1 p2:Option Addr}{n0 n1 n2 n3:Nat}{i0 i1 i2 i3 i4 i5 i6 i7 i8 i9 i10 i11:Int}{s0 s1 s2 s3:ByteArray}{b0 b1:Bool}{m0:Option Nat}{v0:Value}
def Jeb(h:N1 w p0 n0 n1 i0 λe h=>xI (St:=(OA×Nat×Nat)×Int×Int) (λc d B=>L8 d e 0 λb f g=>B0 (c.2.2<(↑f:Int)) (L8 d e 0 λb f g=>onP b λb=>D1 c.2.2 f/\G16 d (Addr.add (b.add (c.2.2.toNat*6)) 1) λk v x y s f g=>N11 d 0 0 (.mk #[]) (.mk #[]) none 0 0 λe h=>U8 h e 0 k v x y s f g λj=>L7 j e 2 λo=>gB (c.2.1+(↑(o.size):Int))/\L7 j e 3 λr=>gB (c.2.1+(↑(o.size):Int)+(↑(r.size):Int))/\xM (St:=OA×Nat×Nat) (λi d=>xI (St:=(OA×Nat×Nat)×Int×Int) (λa d C=>L11 d e 4 λb f g=>B0 (a.2.2<(↑f:Int)) (xM (St:=(OA×Nat×Nat)×Int) (λc d=>gB (a.2.2+1)/\C ((c.1.1,c.1.2.1,c.1.2.2),c.2,a.2.2+1) d) λJ=>L11 d.drew e 4 λb f g=>onP b λb=>D1 a.2.2 f/\G2 d.drew (b.add (a.2.2.toNat*2)) λc=>gB (a.2.1+(↑(c.size):Int))/\L11 d.drew e 4 λb f g=>onP b λb=>D1 a.2.2 f/\G2 d.drew (Addr.add (b.add (a.2.2.toNat*2)) 1) λp=>gB (a.2.1+(↑(c.size):Int)+(↑(p.size):Int))/\L11 d.drew e 4 λb f g=>onP b λb=>D1 a.2.2 f/\G2 d.drew (b.add (a.2.2.toNat*2)) λz=>C2 78 [S a.1.1 a.1.2.1 a.1.2.2,.string z] d.drew λt d=>br (!t) (L11 d e 4 λb f g=>onP b λb=>D1 a.2.2 f/\G2 d (b.add (a.2.2.toNat*2)) λA=>N12 d A λe h=>∃b m l n,App P #[106,106] 106 h (S a.1.1 a.1.2.1 a.1.2.2) (S (some (.mk e 0 none)) 1 1) (S b m l) n/\J ((b,m,l),a.2.1+(↑(c.size):Int)+(↑(p.size):Int)) n) (J ((a.1.1,a.1.2.1,a.1.2.2),a.2.1+(↑(c.size):Int)+(↑(p.size):Int)) d)) (gB (c.2.2+1)/\B ((a.1.1,a.1.2.1,a.1.2.2),a.2.1,c.2.2+1) d)) ((i.1,i.2.1,i.2.2),c.2.1+(↑(o.size):Int)+(↑(r.size):Int),0) d) λJ=>xM (λi d=>br i (L7 d e 2 λa=>N12 d a λe h=>∃b m l n,App P #[106,106] 106 h (S c.1.1 c.1.2.1 c.1.2.2) (S (some (.mk e 0 none)) 1 1) (S b m l) n/\J (b,m,l) n) (J (c.1.1,c.1.2.1,c.1.2.2) d)) λ(J:Bool->Wq->Prop)=>L4 j e 1 λk=>B0 (k=1) (L7 j e 2 λi=>C2 78 [S c.1.1 c.1.2.1 c.1.2.2,.string i] j λe d=>J (!e) d) (J false j)) (B0 (4000<(↑c.1.2.1:Int)) (R lX d) (R (E (.bool (decide (10000000<c.2.1)))) d))) ((none,0,0),0,0) h):Calls P 41 #[A2 p0 n0 n1 i0] w R:=cok ⟨[],[(4,[(3,.inr 3),(4,iI),(5,iI)]),(11,[(3,.inr 3),(4,iI),(7,iI)])],[(10,[(3,.inr 3)]),(9,[(39,.inr 0)]),(12,[(3,.inr 3),(4,iI)])],[]⟩ Tryz.func41 h
def Jdf(h:xI (St:=(OA×Nat×Nat)×Int) (λa b t=>B0 (a.2<n2) (xM (St:=OA×Nat×Nat) (λg b=>gB (a.2+1)/\t ((g.1,g.2.1,g.2.2),a.2+1) b) λJ=>onP p1 λc=>D1 a.2 n2/\G5 b (c.add (a.2.toNat*4)) λh l g d=>C7 79 [S a.1.1 a.1.2.1 a.1.2.2,A5 h l g d] b λc f e b=>onP p1 λo=>D1 a.2 n2/\∃d,Ld P 4 b (Addr.add (o.add (a.2.toNat*4)) 3) (.bool d)/\br (!d) (onP p1 λp=>D1 a.2 n2/\G5 b (p.add (a.2.toNat*4)) λh m n d=>C7 80 [S c f e,A5 h m n d] b λc f e b=>J (c,f,e) b) (J (c,f,e) b)) (R (E (S a.1.1 a.1.2.1 a.1.2.2)) b)) ((p0,n0,n1),0) w):Calls P 42 #[S p0 n0 n1,S p1 n2 n3] w R:=cok ⟨[],[(2,[(0,.inr 3),(5,iI)])],[(3,[(0,.inr 3)])],[]⟩ Tryz.func42 h
def Jdz(h:B1 ((↑n0:Int)=n2) (R lN w) (xI (St:=Int) (λa b j=>B0 (a<n0) (onP p0 λc=>D1 a n0/\G1 b.drew (c.add (a.toNat*1)) λf=>onP p1 λc=>D1 a n2/\G1 b.drew (c.add (a.toNat*1)) λg=>B1 (f=g) (R lN b.drew) (gB (a+1)/\j (a+1) b.drew)) (R lX b)) 0 w)):Calls P 43 #[S p0 n0 n1,S p1 n2 n3] w R:=cok ⟨[],[(4,[(5,iI)])],[],[]⟩ Tryz.func43 h
def Jeh(h:B1 ((↑n0:Int)=n2) (R lN w) (xI (St:=Int) (λa c y=>B0 (a<n0) (onP p0 λb=>D1 a n0/\G1 c.drew (b.add (a.toNat*5)) λh=>onP p1 λb=>D1 a n2/\G1 c.drew (b.add (a.toNat*5)) λn=>B1 (h=n) (R lN c.drew) (onP p0 λb=>D1 a n0/\G1 c.drew (Addr.add (b.add (a.toNat*5)) 1) λh=>onP p1 λb=>D1 a n2/\G1 c.drew (Addr.add (b.add (a.toNat*5)) 1) λo=>B1 (h=o) (R lN c.drew) (onP p0 λb=>D1 a n0/\G2 c.drew (Addr.add (b.add (a.toNat*5)) 2) λr=>onP p1 λb=>D1 a n2/\G2 c.drew (Addr.add (b.add (a.toNat*5)) 2) λs=>B1 (r=s) (R lN c.drew) (onP p0 λb=>D1 a n0/\G2 c.drew (Addr.add (b.add (a.toNat*5)) 3) λt=>onP p1 λb=>D1 a n2/\G2 c.drew (Addr.add (b.add (a.toNat*5)) 3) λv=>B1 (t=v) (R lN c.drew) (onP p0 λb=>D1 a n0/\G14 c.drew (Addr.add (b.add (a.toNat*5)) 4) λi p l=>onP p1 λb=>D1 a n2/\G14 c.drew (Addr.add (b.add (a.toNat*5)) 4) λj q m=>C2 81 [S i p l,S j q m] c.drew λk c=>br (!k) (R lN c) (gB (a+1)/\y (a+1) c)))))) (R lX c)) 0 w)):Calls P 44 #[S p0 n0 n1,S p1 n2 n3] w R:=cok ⟨[],[(4,[(5,iI)])],[],[]⟩ Tryz.func44 h
def Jdo(h:N1 w p0 n0 n1 i0 λg h=>L1 h g 0 λc e d a=>C3 82 [A2 c e d a,I i1] h λa b=>B0 (a<0) (R (E (S none 0 0)) b) (L8 b.drew g 0 λc e d=>L1 b.drew g 0 λn v q s=>L8 b.drew g 0 λk m r=>onP k λo=>D1 a m/\G1 b.drew (Addr.add (o.add (a.toNat*6)) 1) λl=>C3 84 [A2 n v q s,I a] b.drew λj b=>Ld P 3 b (Addr.add (o.add (a.toNat*6)) 1) (I l)/\Ld P 27 b (.mk g 0 none) (S k m r)/\Ld P 27 b (.mk g 0 none) (S c e d)/\(0<=a/\a<=j/\j<=d)/\C7 83 [S (slA c d (a.toNat) 6) (j.toNat-a.toNat) (d-a.toNat),I l] b λc e d b=>xI (St:=(OA×Nat×Nat)×Int) (λf b D=>B0 (f.2<e) (onP c λc=>D1 f.2 e/\G16 b (Addr.add (c.add (f.2.toNat*6)) 1) λa t z A p e d=>N11 b a t z A p e d λg h=>∃c y x B,App P #[34,34] 34 h (S f.1.1 f.1.2.1 f.1.2.2) (S (some (.mk g 0 none)) 1 1) (S c y x) B/\gB (f.2+1)/\D ((c,y,x),f.2+1) B) (R (E (S f.1.1 f.1.2.1 f.1.2.2)) b)) ((none,0,0),0) b)):Calls P 45 #[A2 p0 n0 n1 i0,I i1] w R:=cok ⟨[],[(7,[(5,.inr 3),(8,iI)])],[],[]⟩ Tryz.func45 h
def Jdy(h:N1 w p0 n0 n1 i0 λd b=>L8 b d 0 λa c e=>B0 ((↑c:Int)=0) (R (E (I 0)) b) (L8 b d 0 λa c e=>onP a λa=>D1 0 c/\G1 b a λf=>R (E (I f)) b)):Calls P 46 #[A2 p0 n0 n1 i0] w R:=cok {} Tryz.func46 h
def Je4(h:N10 w none 0 0 λf a=>∃(g:FuncId),∃(l:Array Value),∃(k:Array Value),Value.func (.func 85) #[Q p0] #[]=Value.func (.func g) l k/\zo P g/\KAA P g (Array.toList l) (Array.toList k) (λh=>[I h]) (λ(h:Int)(b:Wq)(q:Wq->(Wq->Prop)->Prop)(r v:WP)(x:Nat->Wq->Prop)=>q b λp=>L9 p f 0 λc e d=>N9 p h λj a=>∃i n m o,App P #[59,59] 59 a (S c e d) (S (some (.mk j 0 none)) 1 1) (S i n m) o/\U5 o f 0 i n m λa=>r a) a (λD b=>L9 b f 0 λc e d=>∃a,zS b D a/\R (E (S c e d)) a) (λD b=>False) λ(t D:Nat)(b:Wq)=>False):Calls P 47 #[Q p0] w R:=cok ⟨[],[],[],[(4,[(7,iI)])]⟩ Tryz.func47 h
def Jbj(h:C10 86 [Q p0,I i0] w λa b c=>B0 (a=0) (R (E (A12 (.mk #[]) false)) c) (onP p0 λf=>gB (a+b)/\(0<=a/\a<=a+b/\a+b<=(↑(4096:Nat):Int))/\∃e,B2S P 159 9 c (S (slA (some f) 4096 (a.toNat) 1) (Int.toNat (a+b)-a.toNat) (4096-a.toNat)) (.string e)/\R (E (A12 e true)) c)):Calls P 48 #[Q p0,I i0] w R:=cok {} Tryz.func48 h
def Jau(h:onP p0 λb=>G1 w.drew (b.add 1) λg=>onP p0 λy=>G1 w.drew (y.add 2) λp=>∀c a,New w.drew (.map #[] 0) c a->Ld P 3 a (y.add 2) (I p)/\Ld P 3 a (b.add 1) (I g)/\∀m t,New a (.cells #[.map (some c),I g,I p] 119) m t->onP p0 λb=>G12 t b λh=>∃i a,Rng P 117 t (.map h) (Q i) a/\xI (St:=PUnit) (λr f V=>(∃a,Nxt P false 0 f (Q i) (.tuple #[.bool false]) a/\R (E (Q (some (.mk m 0 none)))) a)\/∃T W a,Nxt P false 0 f (Q i) (.tuple #[.bool true,T,W]) a/\∃g j v,Etr P a (Q i) (.tuple #[I g,Q j]) v/\onP j λb=>∃G H K L r O z e d A M D,Ld P 139 v b (.agg #[I G,I H,I K,I L,.string r,.string O,S z e d,S A M D])/\∀c a,New v (.cells #[I 0,I 0,I 0,I 0,.string (.mk #[]),.string (.mk #[]),S none 0 0,S none 0 0] 139) c a->∃k,St P 139 a (.mk c 0 none) (.agg #[I G,I H,I K,I L,.string r,.string O,S z e d,S A M D]) k/\onP j λb=>G13 k.drew (b.add 7) λB e d=>onP j λb=>G14 k.drew (b.add 6) λl q n=>C7 87 [S B e d] k.drew λC e d f=>Ld P 69 f (b.add 6) (S l q n)/\C7 70 [S l q n] f λb N F f=>U5 f c 7 C e d λa=>∃x,St P 69 a (Addr.add (.mk c 0 none) 6) (S b N F) x/\∃h,Ld P 117 x (.mk m 0 none) (.map h)/\∃a,MUp P 117 x (.map h) (I g) (Q (some (.mk c 0 none))) a/\V () a) () a):Calls P 49 #[Q p0] w R:=cok ⟨[],[(3,[])],[],[]⟩ Tryz.func49 h
def Jfb(h:onP p0 λe=>G17 w.drew e λh d c=>onP p0 λe=>G18 w.drew (e.add 1) λa=>C7 89 [S h d c] w.drew λi d c f=>Ld P 147 f (e.add 1) (.map a)/\C16 90 [.map a] f λa f=>∀p0 j,New f (.cells #[S i d c,.map a] 150) p0 j->R (E (Q (some (.mk p0 0 none)))) j):Calls P 51 #[Q p0] w R:=cok {} Tryz.func51 h
def Jab(h:onP p0 λg=>∃(b:LV),∃c d,Ld P 162 w g (.agg (List.toArray (b++([I c]++([I d]++[])))))/\∀a e,New w (.cells (List.toArray (zl P 162)) 162) a e->∃f,St P 162 e (.mk a 0 none) (.agg (List.toArray (b++([I c]++([I d]++[]))))) f/\R (E (Q (some (.mk a 0 none)))) f):Calls P 53 #[Q p0] w R:=cok {} Tryz.func53 h
def Jce(h:∀c b,New w (.cells #[I i0,I i1,I i2,I i3,.string s0,.string s1,S p1 n0 n1] 45) c b->L4 b c 0 λa=>B0 (a=0) (L6 b c 6 λi l j=>C10 23 [Q p0,S i l j] b λa f e=>R (E (A7 a f)) e) (B0 (a=1) (L4 b c 1 λa=>L4 b c 3 λf=>L6 b c 6 λi l j=>C10 91 [Q p0,I a,I f,S i l j] b λa k e=>R (E (A7 a k)) e) (B0 (a=2) (L4 b c 1 λa=>C3 92 [Q p0,I a] b λa e=>R (E (A7 0 a)) e) (B0 (a=3) (L4 b c 1 λa=>L4 b c 2 λf=>L4 b c 3 λk=>C3 93 [Q p0,I a,I f,I k] b λa e=>R (E (A7 0 a)) e) (B0 (a=4) (L4 b c 1 λa=>L7 b c 4 λg=>L7 b c 5 λm=>C3 94 [Q p0,I a,.string g,.string m] b λa e=>R (E (A7 0 a)) e) (B0 (a=5) (L4 b c 1 λa=>L7 b c 4 λg=>C3 95 [Q p0,I a,.string g] b λa e=>R (E (A7 0 a)) e) (B0 (a=6) (L4 b c 1 λa=>L7 b c 5 λg=>C3 96 [Q p0,I a,.string g] b λa e=>R (E (A7 0 a)) e) (R (E (A7 0 1)) b)))))))):Calls P 54 #[Q p0,A3 i0 i1 i2 i3 s0 s1 p1 n0 n1] w R:=cok {} Tryz.func54 h
def Jb6(h:xI (St:=Int) (λa b r=>B1 (a=0) (B1 (a=i1) (onP p0 λe=>G8 b e λm=>C13 29 [Q m,I a] b λd i j k a n e l h c b=>N5 b 0 0 0 0 (.mk #[]) (.mk #[]) none 0 0 λc o=>U4 o c 0 d i j k a n e l h λg=>L4 g c 1 λd=>r d g) (R (E (.bool (decide (a=i1)))) b)) (R (E (.bool (decide (a=i1)))) b)) i0 w):Calls P 55 #[Q p0,I i0,I i1] w R:=cok ⟨[],[(1,[(1,iI)])],[],[]⟩ Tryz.func55 h
def Jck(h:C7 97 [Q p0] w λe j n a=>xI (St:=Int) (λb a i=>B0 (b<j) (onP e λe=>D1 b j/\G2 a (e.add (b.toNat*1)) λd=>C17 98 [S p1 n0 n1,.string d] a λh g a=>xM (λp a=>br p (gB (b+1)/\C2 99 [Q p0,I (b+1)] a λp0 a=>gB (b+1)/\i (b+1) a) (gB (b+1)/\i (b+1) a)) λ(J:Bool->Wq->Prop)=>B1 (d=.mk #[]) (J (!g) a) (J false a)) (xI (St:=Int) (λb a i=>B0 (b<n0) (onP p1 λe=>D1 b n0/\G2 a (e.add (b.toNat*1)) λd=>C17 100 [Q p0,.string d] a λh g a=>br g (gB (b+1)/\i (b+1) a) (C10 101 [Q p0,.string d] a λh l a=>B1 (l=0) (R (E (I 94)) a) (gB (b+1)/\i (b+1) a))) (R (E (I 0)) a)) 0 a)) 0 a):Calls P 56 #[Q p0,S p1 n0 n1] w R:=cok ⟨[],[(2,[(18,iI)]),(9,[(42,iI)])],[(6,[(34,.inr 0)])],[]⟩ Tryz.func56 h
def Jcm(h:∀h c,New w (.map #[] 0) h c->xI (St:=Int) (λa b y=>B0 (a<n0) (onP p0 λe=>D1 a n0/\G16 b (e.add (a.toNat*5)) λd p r s o f g=>N11 b 0 0 (.mk #[]) (.mk #[]) none 0 0 λk c=>U8 c k 0 d p r s o f g λj=>xM (St:=PUnit) (λB b=>L11 b k 4 λe f g=>xI (St:=Int) (λi b z=>B0 (i<f) (onP e λe=>D1 i f/\G3 b (e.add (i.toNat*2)) λa t=>N13 b (.mk #[]) (.mk #[]) λm c=>U9 c m 0 a t λl=>L7 l m 0 λa=>∃d,Lk P 147 false l (.map (some h)) (.string a) (I d)/\gB (d+1)/\∃c,MUp P 147 l (.map (some h)) (.string a) (I (d+1)) c/\gB (i+1)/\z (i+1) c) (gB (a+1)/\y (a+1) b)) 0 b) λJ=>L4 j k 1 λd=>B0 (d=1) (L7 j k 2 λa=>∃d,Lk P 147 false j (.map (some h)) (.string a) (I d)/\gB (d+1)/\∃c,MUp P 147 j (.map (some h)) (.string a) (I (d+1)) c/\J () c) (J () j)) (xk P 103 [.map (some h)] b λn b=>∃v,n=E v/\C7 102 [v] b λe f g b=>R (E (S e f g)) b)) 0 c):Calls P 57 #[S p0 n0 n1] w R:=cok ⟨[],[(3,[(11,iI)]),(8,[(26,iI)])],[(7,[])],[]⟩ Tryz.func57 h
def Jci(h:C3 33 [Q p0] w λd a=>C7 32 [Q p0,I d] a λe g j a=>C7 28 [Q p0] a λl n r a=>C16 50 [.map m0] a λi a=>xI (St:=Int) (λb a o=>B0 (b<n0) (onP p1 λe=>D1 b n0/\G1 a (e.add (b.toNat*1)) λd=>∃f,Del P #[80,3] 0 a (.map i) (I d) f/\gB (b+1)/\o (b+1) f) (C7 105 [S e g j,S l n r] a λq y s a=>xk P 104 [S q y s,.map i] a λc a=>∃i h,c=E (.tuple #[.map i,.bool h])/\br h (R (E (.map i)) a) (∀h f,New a (.map #[] 0) h f->xk P 106 [S e g j] f λc a=>∃e g j d,c=E (A13 e g j d)/\xI (St:=Int) (λb a o=>B0 (b<g) (onP e λe=>D1 b g/\G19 a (e.add (b.toNat*2)) λd t=>N3 a 0 0 λm f=>U3 f m 0 d t λk=>onP l λe=>D1 b n/\G1 k.drew (e.add (b.toNat*1)) λd=>L3 k.drew m 0 λv x=>∃f,MUp P 80 k.drew (.map (some h)) (I d) (A4 v x) f/\gB (b+1)/\o (b+1) f) (R (E (.map (some h))) a)) 0 a))) 0 a):Calls P 58 #[Q p0,.map m0,S p1 n0 n1] w R:=cok ⟨[],[(4,[(28,iI)]),(14,[(53,iI)])],[],[]⟩ Tryz.func58 h
def Jc3(h:onP p0 λb=>G20 w b λf=>onP f λb=>G11 w (b.add 4) λD=>xk P 107 [.map D] w λe a=>∃p,e=E p/\C7 102 [p] a λb g o a=>xI (St:=Int) (λd a q=>B0 (d<g) (onP b λb=>D1 d g/\G2 a (b.add (d.toNat*1)) λi=>∃r n,Lk P 114 true a (.map m0) (.string i) (.tuple #[(A14 r),.bool n])/\∀j k,New a (.cells #[.string (.mk #[])] 192) j k->∃h,St P 192 k (.mk j 0 none) (A14 r) h/\br (!n) (C1 108 [Q p0,.string i] h λa=>gB (d+1)/\q (d+1) a) (gB (d+1)/\q (d+1) h)) (xk P 109 [.map m0] a λe a=>∃p,e=E p/\C7 102 [p] a λb g o a=>xI (St:=Int) (λd a q=>B0 (d<g) (onP b λb=>D1 d g/\G2 a (b.add (d.toNat*1)) λi=>onP p0 λb=>G20 a b λf=>onP f λb=>G11 a (b.add 4) λF=>∃c B n,Lk P 83 true a (.map F) (.string i) (A9 c B n)/\N14 a 0 0 λj k=>U10 k j 0 c B λh=>xM (St:=PUnit) (λr a=>∃v,Lk P 114 false a (.map m0) (.string i) (A14 v)/\C3 111 [Q p0,.string i,.string v] a λc a=>B1 (c=0) (R (E (I c)) a) (gB (d+1)/\q (d+1) a)) λJ=>br n (onP p0 λb=>G20 h.drew b λf=>onP f λb=>G6 h.drew (b.add 3) λz g o=>L4 h.drew j 0 λc=>onP z λb=>D1 c g/\G7 h.drew (b.add (c.toNat*1)) λf=>L4 h.drew j 1 λc=>C15 48 [Q f,I c] h.drew λr n a=>∃v,Lk P 114 false a (.map m0) (.string i) (A14 v)/\B0 (r=v) (gB (d+1)/\q (d+1) a) (onP p0 λb=>G21 a.drew (b.add 1) λt=>L12 a.drew j 0 λc x=>∃y,Lk P 110 false a.drew (.map t) (A4 c x) (I y)/\gB (y+1)/\∃p C k,MEn P 110 a.drew (.map t) (A4 c x) (.tuple #[p,I C]) k/\Lk P 110 false k (.map t) (A4 c x) (I y)/\∃l,ESt P 110 k (.map t) (I C) (I (y+1)) l/\onP p0 λb=>G20 l.drew b λf=>onP f λb=>G6 l.drew (b.add 3) λA g o=>L4 l.drew j 0 λc=>onP A λb=>D1 c g/\G7 l.drew (b.add (c.toNat*1)) λf=>L4 l.drew j 1 λc=>∃G,Lk P 114 false l.drew (.map m0) (.string i) (A14 G)/\C3 110 [Q f,I c,.string G] l.drew λc a=>B0 (c=0) (gB (d+1)/\q (d+1) a) (C1 108 [Q p0,.string i] a λa=>J () a))) (J () h)) (R (E (I 0)) a)) 0 a)) 0 a):Calls P 59 #[Q p0,.map m0] w R:=cok ⟨[],[(2,[(26,iI)]),(9,[(46,iI)])],[(18,[])],[]⟩ Tryz.func59 h
def Jct(h:∀j i,New w (.map #[] 0) j i->∀m L,New i (.cells #[.map none] 114) m L->∃i,St P 114 L (.mk m 0 none) (.map (some j)) i/\onP p0 λb=>G8 i b λh=>C3 39 [Q h] i λf a=>C18 114 [I f,I 4] a λc a=>(↑(ByteArray.size (ByteArray.mk #[(104:UInt8)])+c.size):Int)<=9223372036854775807/\C1 112 [.string (ByteArray.mk #[(104:UInt8)]++c),Q (some (.mk m 0 none))] a λa=>onP p0 λb=>G10 a (b.add 2) λh=>C7 97 [Q h] a λb e g a=>xI (St:=Int) (λc a p=>B0 (c<e) (onP b λb=>D1 c e/\G2 a (b.add (c.toNat*1)) λk=>B1 (k=.mk #[]) (gB (c+1)/\C18 114 [I (c+1),I 2] a λl a=>(↑(ByteArray.size (ByteArray.mk #[(119:UInt8)])+l.size):Int)<=9223372036854775807/\(↑(ByteArray.size (ByteArray.mk #[(119:UInt8)]++l)+k.size):Int)<=9223372036854775807/\C1 112 [.string (ByteArray.mk #[(119:UInt8)]++l++k),Q (some (.mk m 0 none))] a λa=>gB (c+1)/\p (c+1) a) (gB (c+1)/\p (c+1) a)) (onP p0 λb=>G8 a b λh=>C7 28 [Q h] a λb e g a=>xI (St:=Int) (λc a p=>B0 (c<e) (onP b λb=>D1 c e/\G1 a (b.add (c.toNat*1)) λf=>onP p0 λb=>G8 a b λh=>C13 29 [Q h,I f] a λf r v x k l b e g j a=>N5 a 0 0 0 0 (.mk #[]) (.mk #[]) none 0 0 λj i=>U4 i j 0 f r v x k l b e g λq=>L10 q j 0 λf y z A G H b e g=>xk P 116 [Q p0,A3 f y z A G H b e g] q λd a=>∃f B C D s t K b e g,d=E (A15 f B C D s t K b e g)/\xk P 115 [A15 f B C D s t K b e g] a λd a=>∃b e g f,d=E (A13 b e g f)/\xI (St:=Int) (λn a M=>B0 (n<e) (onP b λb=>D1 n e/\G2 a (b.add (n.toNat*1)) λc=>(↑(ByteArray.size (ByteArray.mk #[(110:UInt8)])+c.size):Int)<=9223372036854775807/\C1 112 [.string (ByteArray.mk #[(110:UInt8)]++c),Q (some (.mk m 0 none))] a λa=>gB (n+1)/\M (n+1) a) (gB (c+1)/\p (c+1) a)) 0 a) (∃F,Ld P 114 a (.mk m 0 none) (.map F)/\R (E (.map F)) a)) 0 a)) 0 a):Calls P 60 #[Q p0] w R:=cok ⟨[],[(5,[(32,iI)]),(11,[(54,iI)]),(16,[(76,iI)])],[],[]⟩ Tryz.func60 h
def Jb9(h:onP p0 λg=>G21 w (g.add 1) λi=>∃f b,Rng P 110 w (.map i) (Q f) b/\xI (St:=OA×Nat×Nat) (λc a t=>(∃b,Nxt P false 0 a (Q f) (.tuple #[.bool false]) b/\C1 118 [S c.1 c.2.1 c.2.2,Value.func (.func 119) #[] #[]] b λa=>R (E (S c.1 c.2.1 c.2.2)) a)\/∃A l b,Nxt P false 0 a (Q f) (.tuple #[.bool true,A,l]) b/\∃d o l x,Etr P b (Q f) (.tuple #[(A4 d o),l]) x/\N14 x 0 0 λe b=>U10 b e 0 d o λm=>L12 m e 0 λd p=>C15 117 [Q p1,A4 d p] m λv n a=>onP p0 λg=>G20 a.drew g λf=>L12 a.drew e 0 λd q=>C15 117 [Q f,A4 d q] a.drew λk j a=>xM (λC a=>br C (L4 a e 0 λd=>L4 a e 1 λr=>∀e b,New a (.cells #[I d,I r,.string k,.bool !j] 55) e b->∃g s i y,App P #[39,39] 39 b (S c.1 c.2.1 c.2.2) (S (some (.mk e 0 none)) 1 1) (S g s i) y/\t (g,s,i) y) (t (c.1,c.2.1,c.2.2) a)) λ(J:Bool->Wq->Prop)=>B1 (v=k) (J true a) (J (!n==j) a)) (none,0,0) b):Calls P 61 #[Q p0,Q p1] w R:=cok ⟨[],[(3,[(5,.inr 3)])],[(8,[(42,.inr 0)])],[]⟩ Tryz.func61 h
def Jc7(h:B0 ((↑n0:Int)=0) (R (E (A7 0 40)) w) (xI (St:=Int) (λb c n=>B0 (b<n0) (onP p0 λf=>D1 b n0/\G16 c (f.add (b.toNat*5)) λa k o p j e d=>N11 c 0 0 (.mk #[]) (.mk #[]) none 0 0 λh s=>U8 s h 0 a k o p j e d λt=>C3 120 [S p0 n0 n1,I b] t λa c=>B0 (a=0) (L13 c h 0 λa l q r f e d=>C3 121 [A16 a l q r f e d] c λa c=>B1 (a=0) (R (E (A7 b a)) c) (gB (b+1)/\n (b+1) c)) (B1 (a=0) (R (E (A7 b a)) c) (gB (b+1)/\n (b+1) c))) (R (E (A7 0 0)) c)) 0 w)):Calls P 62 #[S p0 n0 n1] w R:=cok ⟨[],[(4,[(12,iI)])],[],[]⟩ Tryz.func62 h
def Ja4(h:N9 w i0 λb a=>xI (St:=Int×(OA×Nat×Nat)×Int) (λe f ak=>B0 (e.2.2<n0) (xM (St:=Int×OA×Nat×Nat) (λr f=>gB (e.2.2+(1:Int))/\ak (r.1,(r.2.1,r.2.2.1,r.2.2.2),e.2.2+(1:Int)) f) λJ=>onP p1 λk=>((0:Int)<=e.2.2/\e.2.2<n0)/\G16 f (k.add (e.2.2.toNat*5)) λh Z r ag T d c=>N11 f 0 0 (.mk #[]) (.mk #[]) none 0 0 λb a=>U8 a b 0 h Z r ag T d c λB=>onP p2 λk=>((0:Int)<=e.2.2/\e.2.2<n2)/\G1 B (k.add (e.2.2.toNat*1)) λh=>L4 B b 0 λy=>gB (y+(1:Int))/\L4 B b 0 λz=>gB (z+(1:Int))/\((0:Int)<=y+(1:Int)/\y+(1:Int)<=z+(1:Int)/\z+(1:Int)<=e.2.1.2.2)/\N9 B h λX a=>∃k A D o,App P #[59,59] 59 a (S e.2.1.1 (Int.toNat (y+(1:Int))) (Int.toNat (z+(1:Int)))) (S (some (.mk X 0 none)) 1 1) (S k A D) o/\L4 o b 0 λC=>onP k λah=>((0:Int)<=C/\C<A)/\G1 o (ah.add (C.toNat*1)) λi=>onP p0 λK=>G12 o.drew K λF=>L4 o.drew b 1 λM=>L7 o.drew b 2 λN=>L7 o.drew b 3 λO=>L11 o.drew b 4 λV d c=>C7 70 [S V d c] o.drew λW d c f=>Ld P 9 f (.mk b 3 none) (.string O)/\Ld P 9 f (.mk b 2 none) (.string N)/\Ld P 3 f (.mk b 1 none) (I M)/\Ld P 117 f K (.map F)/\∀Y a,New f (.cells #[I h,I i,I M,I 0,.string N,.string O,S W d c,S none 0 0] 139) Y a->Ld P 117 a K (.map F)/\∃g,MUp P 117 a (.map F) (I h) (Q (some (.mk Y 0 none))) g/\B0 (i=(0:Int)) (onP p0 λl=>Z2 g (l.add 1) h λa=>J (e.1,k,A,D) a) (L4 g b 0 λaa=>B0 (aa=(0:Int)) (onP p0 λl=>G12 g.drew l λj=>∃n,Lk P 117 false g.drew (.map j) (I i) (Q n)/\onP p0 λv=>G12 g.drew v λm=>∃q,Lk P 117 false g.drew (.map m) (I i) (Q q)/\onP q λx=>G13 g.drew (x.add 7) λp d c=>N9 g.drew h λb a=>Ld P 59 a (x.add 7) (S p d c)/\Lk P 117 false a (.map m) (I i) (Q q)/\Ld P 117 a v (.map m)/\Lk P 117 false a (.map j) (I i) (Q n)/\Ld P 117 a l (.map j)/\C7 122 [S p d c,I e.1,S (some (.mk b 0 none)) 1 1] a λt d c f=>Lk P 117 false f (.map j) (I i) (Q n)/\Ld P 117 f l (.map j)/\onP n λH=>Z3 f (H.add 7) t d c λa=>gB (e.1+(1:Int))/\J (e.1+(1:Int),k,A,D) a) (onP p0 λl=>G12 g.drew l λj=>∃n,Lk P 117 false g.drew (.map j) (I i) (Q n)/\onP p0 λv=>G12 g.drew v λm=>∃q,Lk P 117 false g.drew (.map m) (I i) (Q q)/\onP q λx=>G13 g.drew (x.add 7) λp d c=>N9 g.drew h λb a=>Ld P 59 a (x.add 7) (S p d c)/\Lk P 117 false a (.map m) (I i) (Q q)/\Ld P 117 a v (.map m)/\Lk P 117 false a (.map j) (I i) (Q n)/\Ld P 117 a l (.map j)/\∃t af ae G,App P #[59,59] 59 a (S p d c) (S (some (.mk b 0 none)) 1 1) (S t af ae) G/\Lk P 117 false G (.map j) (I i) (Q n)/\Ld P 117 G l (.map j)/\onP n λH=>Z3 G (H.add 7) t af ae λa=>J (e.1,k,A,D) a))) (onP p2 λk=>((0:Int)<=(0:Int)/\(0:Int)<n2)/\G1 f k λh=>R (E (I h)) f)) (i1,(some (.mk b 0 none),1,1),(0:Int)) a):Calls P 63 #[Q p0,I i0,I i1,S p1 n0 n1,S p2 n2 n3] w R:=cok ⟨[],[(3,[(2,iI),(11,.inr 3),(20,iI)])],[(15,[(2,iI),(11,.inr 3)])],[]⟩ Tryz.func63 h
def Ja3(h:xI (St:=(OA×Nat×Nat)×Int) (λa f n=>B0 (a.2<i0) (onP p0 λd=>G1 f (d.add 2) λb=>N9 f b λh c=>∃d j i g,App P #[59,59] 59 c (S a.1.1 a.1.2.1 a.1.2.2) (S (some (.mk h 0 none)) 1 1) (S d j i) g/\onP p0 λk=>G1 g (k.add 2) λb=>gB (b+1)/\onP p0 λl=>Z2 g (l.add 2) (b+1) λc=>gB (a.2+1)/\n ((d,j,i),a.2+1) c) (R (E (S a.1.1 a.1.2.1 a.1.2.2)) f)) ((none,0,0),0) w):Calls P 64 #[Q p0,I i0] w R:=cok ⟨[],[(3,[(5,.inr 3),(7,iI)])],[],[]⟩ Tryz.func64 h
def Jcy(h:N7 w i0 i1 s0 b0 λf b=>L5 b f 3 λA=>br A (R lN b) (L4 b f 0 λc=>B0 (c<(0:Int)) (R lN b) (L4 b f 0 λc=>B0 ((4096:Int)<=c) (R lN b) (L7 b f 2 λe=>B0 (e=.mk #[]) (R lN b) (xI (St:=PUnit) (λe a Z=>onP p0 λd=>G20 a.drew d λg=>onP g λd=>G6 a.drew (d.add 3) λN h i=>L4 a.drew f 0 λc=>B0 ((↑h:Int)<=c) (onP p0 λd=>G20 a.drew.drew d λg=>onP p0 λo=>G20 a.drew.drew o λs=>onP s λp=>G6 a.drew.drew (p.add 3) λn h i=>C4 123 [] a.drew.drew λL a=>Ld P 84 a (p.add 3) (S n h i)/\Ld P 23 a o (Q s)/\Ld P 23 a d (Q g)/\N8 a L λf b=>Ld P 84 b (p.add 3) (S n h i)/\Ld P 23 b o (Q s)/\Ld P 23 b d (Q g)/\∃y q k l,App P #[84,84] 84 b (S n h i) (S (some (.mk f 0 none)) 1 1) (S y q k) l/\Ld P 23 l d (Q g)/\onP g λd=>∃b,St P 84 l (d.add 3) (S y q k) b/\Z () b) (L7 a.drew f 2 λe=>C18 113 [.string e] a.drew λe a=>onP p0 λd=>G20 a d λg=>onP g λd=>G11 a (d.add 4) λk=>∃c G B,Lk P 83 true a (.map k) (.string e) (A9 c G B)/\N14 a 0 0 λC b=>U10 b C 0 c G λl=>onP p0 λd=>G20 l.drew d λg=>onP g λd=>G6 l.drew (d.add 3) λo h i=>L4 l.drew f 0 λc=>onP o λd=>((0:Int)<=c/\c<h)/\G7 l.drew (d.add (c.toNat*1)) λg=>L4 l.drew f 1 λc=>C15 48 [Q g,I c] l.drew λaa D a=>br B (R lN a.drew) (br D (R lN a.drew) (onP p0 λd=>G20 a.drew d λg=>onP g λd=>G6 a.drew (d.add 3) λp h i=>L4 a.drew f 0 λc=>onP p λd=>((0:Int)<=c/\c<h)/\G7 a.drew (d.add (c.toNat*1)) λg=>L4 a.drew f 1 λc=>L7 a.drew f 2 λM=>C3 110 [Q g,I c,.string M] a.drew λc a=>B1 (c=(0:Int)) (R lN a) (onP p0 λd=>G20 a.drew d λg=>onP g λd=>G11 a.drew (d.add 4) λk=>L4 a.drew f 0 λc=>L4 a.drew f 1 λH=>∃b,MUp P 83 a.drew (.map k) (.string e) (A4 c H) b/\L7 b f 2 λe=>((0:Int)<=(0:Int)/\(0:Int)<(↑(e.size):Int))/\B0 (sb e (0:Int)=(104:Int)) (L7 b f 2 λe=>L7 b f 2 λt=>((0:Int)<=(1:Int)/\(1:Int)<=min (↑(t.size):Int) (8:Int)/\min (↑(t.size):Int) (8:Int)<=(↑(e.size):Int))/\C3 124 [.string (ByteArray.extract e (Int.toNat (1:Int)) (Int.toNat (min (↑(t.size):Int) (8:Int))))] b λc a=>onP p0 λd=>Z2 a (d.add 1) c λb=>L7 b f 2 λe=>R (E (.bool (decide ((↑(e.size):Int)=(5:Int))))) b) (B0 (sb e (0:Int)=(119:Int)) (L7 b f 2 λe=>C2 125 [Q p0,.string e] b λf a=>R (E (.bool f)) a) (B0 (sb e (0:Int)=(110:Int)) (L7 b f 2 λe=>((0:Int)<=(1:Int)/\(1:Int)<=(↑(e.size):Int))/\xk P 126 [.string (ByteArray.extract e (Int.toNat (1:Int)) (e.size))] b λj a=>∃c X Y F,j=E (A17 c X Y F)/\onP p0 λd=>G22 a.drew (d.add 3) λk=>onP p0 λn=>G22 a.drew (n.add 3) λr=>∃v h i,Lk P 125 false a.drew (.map r) (I c) (S v h i)/\L7 a.drew f 2 λe=>((0:Int)<=(1:Int)/\(1:Int)<=(↑(e.size):Int))/\N12 a.drew (ByteArray.extract e (Int.toNat (1:Int)) (e.size)) λf b=>Lk P 125 false b (.map r) (I c) (S v h i)/\Ld P 125 b (n.add 3) (.map r)/\Ld P 125 b (d.add 3) (.map k)/\∃z q K x,App P #[106,106] 106 b (S v h i) (S (some (.mk f 0 none)) 1 1) (S z q K) x/\Ld P 125 x (d.add 3) (.map k)/\∃b,MUp P 125 x (.map k) (I c) (S z q K) b/\R (E (.bool F)) b) (R lN b)))))))) () b))))):Calls P 65 #[Q p0,A5 i0 i1 s0 b0] w R:=cok ⟨[],[(3,[])],[],[]⟩ Tryz.func65 h
def Jff(h:C4 38 [] w λe b=>xI (St:=Int) (λg b q=>B0 (g<(↑n0:Int)) (onP p0 λa=>D1 g n0/\G2 b (a.add (g.toNat*1)) λk=>onP e λa=>G18 b (a.add 1) λh=>∃p i,Lk P 147 true b (.map h) (.string k) (A1 p i)/\B0 (4000<=g) (R (E (A8 none 150)) b) (xM (λC b=>br C (R (E (A8 none 63)) b) (B0 (k=.mk #[]) (onP e λa=>G17 b a λj c d=>N15 b (.mk #[]) 0 λi f=>∃a n h o,App P #[148,148] 148 f (S j c d) (S (some (.mk i 0 none)) 1 1) (S a n h) o/\onP e λl=>Z4 o l a n h λf=>gB (g+1)/\q (g+1) f) (onP e λa=>G17 b a λj c d=>N15 b k 1 λi f=>∃a n h o,App P #[148,148] 148 f (S j c d) (S (some (.mk i 0 none)) 1 1) (S a n h) o/\onP e λl=>Z4 o l a n h λf=>onP e λa=>G18 f (a.add 1) λh=>gB (g+1)/\∃x,MUp P 147 f (.map h) (.string k) (I (g+1)) x/\gB (g+1)/\q (g+1) x))) λ(J:Bool->Wq->Prop)=>B1 (k=.mk #[]) (C2 127 [.string k] b λt b=>br (!t) (J true b) (J i b)) (J false b))) (xI (St:=PUnit) (λg b q=>onP e λa=>G17 b.drew a λj c d=>B0 (0<(↑c:Int)) (onP e λa=>G17 b.drew a λl c d=>onP e λa=>G17 b.drew a λy m d=>gB ((↑m:Int)-1)/\onP l λa=>(0<=(↑m:Int)-1/\(↑m:Int)-1<(↑c:Int))/\G1 b.drew (Addr.add (a.add (Int.toNat ((↑m:Int)-1)*2)) 1) λp=>B0 (p=0) (onP e λa=>G17 b.drew.drew a λs c d=>onP e λa=>G17 b.drew.drew a λz c A=>gB ((↑c:Int)-1)/\(0<=(↑c:Int)-1/\(↑c:Int)-1<=(↑d:Int))/\onP e λa=>Z4 b.drew.drew a s (Int.toNat ((↑c:Int)-1)) d λf=>q () f) (R (E (A8 e 0)) b.drew)) (R (E (A8 e 0)) b.drew)) () b)) 0 b):Calls P 66 #[S p0 n0 n1] w R:=cok ⟨[],[(3,[(12,iI)]),(15,[])],[(9,[(29,.inr 0)])],[]⟩ Tryz.func66 h
def Jco(h:onP p0 λa=>G22 w (a.add 3) λh=>xk P 129 [.map h] w λe c=>∃K,e=E K/\C7 128 [K] c λa b d c=>xI (St:=Int) (λj c N=>B0 (j<b) (onP a λa=>D1 j b/\G1 c (a.add (j.toNat*1)) λg=>onP p0 λa=>G22 c (a.add 3) λh=>∃a b d,Lk P 125 false c (.map h) (I g) (S a b d)/\C1 130 [S a b d] c λc=>xk P 131 [S a b d] c λe c=>∃g q t v x y G a b d z,e=E (A18 g q t v x y G a b d z)/\N16 c 0 0 0 0 0 0 (.mk #[]) none 0 0 λi f=>U11 f i 0 g q t v x y G a b d λk=>B1 (z=0) (R lN k) (onP p0 λa=>G23 k.drew (a.add 4) λm b d=>L14 k.drew i 0 λg A B C r s H o D p=>N16 k.drew g A B C r s H o D p λi f=>Ld P 126 f (a.add 4) (S m b d)/\∃a F h L,App P #[126,126] 126 f (S m b d) (S (some (.mk i 0 none)) 1 1) (S a F h) L/\onP p0 λM=>∃f,St P 126 L (M.add 4) (S a F h) f/\gB (j+1)/\N (j+1) f)) (onP p0 λa=>G23 c (a.add 4) λn b d=>C1 132 [S n b d,Value.func (.func 133) #[] #[]] c λc=>R lX c)) 0 c):Calls P 67 #[Q p0] w R:=cok ⟨[],[(2,[(15,iI)])],[],[]⟩ Tryz.func67 h
def Jc0(h:onP p0 λb=>G23 w (b.add 4) λac h g=>xI (St:=(OA×Nat×Nat)×Int) (λa f X=>B0 (a.2<h) (onP ac λb=>D1 a.2 h/\∃d y z A B C G Y h g,Ld P 204 f (b.add (a.2.toNat*8)) (A15 d y z A B C G Y h g)/\N16 f 0 0 0 0 0 0 (.mk #[]) none 0 0 λe c=>U11 c e 0 d y z A B C G Y h g λp=>L3 p e 4 λd i=>N3 p d i λe c=>∃b r q l,App P #[187,187] 187 c (S a.1.1 a.1.2.1 a.1.2.2) (S (some (.mk e 0 none)) 1 1) (S b r q) l/\gB (a.2+1)/\X ((b,r,q),a.2+1) l) (C19 134 [S a.1.1 a.1.2.1 a.1.2.2] f λb h g e f=>br (!e) (R lN f) (onP p0 λY=>G23 f (Y.add 4) λad ab g=>xI (St:=(OA×Nat×Nat)×(OA×Nat×Nat)×Int) (λa f X=>B0 (a.2.2<ab) (onP ad λZ=>D1 a.2.2 ab/\∃d y z A B C G V ae g,Ld P 204 f (Z.add (a.2.2.toNat*8)) (A15 d y z A B C G V ae g)/\N16 f 0 0 0 0 0 0 (.mk #[]) none 0 0 λe c=>U11 c e 0 d y z A B C G V ae g λp=>xM (St:=OA×Bool) (λo f=>br (!o.2) (R lN f) (xM (St:=(OA×Nat×Nat)×OA×Nat×Nat) (λj f=>onP p0 λb=>G20 f.drew b λT=>onP T λb=>G9 f.drew (b.add 1) λq=>L4 f.drew e 0 λd=>L3 f.drew e 4 λi k=>∃c,MUp P 80 f.drew (.map q) (I d) (A4 i k) c/\gB (a.2.2+1)/\X ((j.1.1,j.1.2.1,j.1.2.2),(j.2.1,j.2.2.1,j.2.2.2),a.2.2+1) c) λJ=>(∃d i j x b h g,(onP o.1 λn=>Ld P 123 f.drew n (A16 d i j x b h g))/\L4 f.drew e 0 λk=>N11 f.drew d i j x b h g λm c=>Ld P 3 c (.mk e 0 none) (I k)/\∃b r q l,App P #[34,34] 34 c (S a.1.1 a.1.2.1 a.1.2.2) (S (some (.mk m 0 none)) 1 1) (S b r q) l/\Ld P 3 l (.mk e 0 none) (I k)/\N9 l k λe c=>∃L F D H,App P #[59,59] 59 c (S a.2.1.1 a.2.1.2.1 a.2.1.2.2) (S (some (.mk e 0 none)) 1 1) (S L F D) H/\J ((b,r,q),L,F,D) H)/\(∃d i j x b h g,(onP o.1 λn=>Ld P 123 f.drew n (A16 d i j x b h g))/\L4 f.drew e 0 λk=>N11 f.drew d i j x b h g λm c=>Ld P 3 c (.mk e 0 none) (I k)/\N9 c k λe l=>∃b r q c,App P #[34,34] 34 l (S a.1.1 a.1.2.1 a.1.2.2) (S (some (.mk m 0 none)) 1 1) (S b r q) c/\∃n F D H,App P #[59,59] 59 c (S a.2.1.1 a.2.1.2.1 a.2.1.2.2) (S (some (.mk e 0 none)) 1 1) (S n F D) H/\J ((b,r,q),n,F,D) H)/\∃d i j x b h g,(onP o.1 λn=>Ld P 123 f.drew n (A16 d i j x b h g))/\L4 f.drew e 0 λk=>N9 f.drew k λe c=>(onP o.1 λL=>Ld P 123 c L (A16 d i j x b h g))/\N11 c d i j x b h g λm l=>∃b r q c,App P #[34,34] 34 l (S a.1.1 a.1.2.1 a.1.2.2) (S (some (.mk m 0 none)) 1 1) (S b r q) c/\∃L F D H,App P #[59,59] 59 c (S a.2.1.1 a.2.1.2.1 a.2.1.2.2) (S (some (.mk e 0 none)) 1 1) (S L F D) H/\J ((b,r,q),L,F,D) H)) λJ=>(L14 p.drew e 0 λd i k t v M o n O g=>onP b λb=>D1 a.2.2 h/\G1 p.drew (b.add (a.2.2.toNat*1)) λN=>xk P 135 [Q p0,A15 d i k t v M o n O g,I N] p.drew λs f=>∃d W a j b h g e,s=E (.tuple #[(A16 d W a j b h g),.bool e])/\N11 f 0 0 (.mk #[]) (.mk #[]) none 0 0 λm c=>U8 c m 0 d W a j b h g λl=>J (some (.mk m 0 none),e) l)/\L14 p.drew e 0 λd i k t v M o n O g=>onP b λb=>D1 a.2.2 h/\G1 p.drew (b.add (a.2.2.toNat*1)) λN=>N11 p.drew 0 0 (.mk #[]) (.mk #[]) none 0 0 λm c=>Ld P 3 c (b.add (a.2.2.toNat*1)) (I N)/\Ld P 204 c (.mk e 0 none) (A15 d i k t v M o n O g)/\xk P 135 [Q p0,A15 d i k t v M o n O g,I N] c λs f=>∃d W a j b h g e,s=E (.tuple #[(A16 d W a j b h g),.bool e])/\U8 f m 0 d W a j b h g λc=>J (some (.mk m 0 none),e) c) (onP p0 λb=>G1 f (b.add 1) λd=>C11 136 [S a.1.1 a.1.2.1 a.1.2.2,S a.2.1.1 a.2.1.2.1 a.2.1.2.2,I (max d 1)] f λT d f=>B1 (d=0) (R lN f) (onP p0 λb=>G20 f b λaf=>onP af λb=>∃c,St P 49 f b (Q T) c/\onP p0 λb=>G23 c (b.add 4) λZ h g=>xI (St:=Int) (λa f X=>B0 (a<h) (onP Z λb=>D1 a h/\∃d y z A B C G V h g,Ld P 204 f (b.add (a.toNat*8)) (A15 d y z A B C G V h g)/\N16 f 0 0 0 0 0 0 (.mk #[]) none 0 0 λe c=>U11 c e 0 d y z A B C G V h g λp=>L4 p e 0 λd=>C13 29 [Q T,I d] p λd i k t o j b h g m f=>N5 f 0 0 0 0 (.mk #[]) (.mk #[]) none 0 0 λaa c=>U4 c aa 0 d i k t o j b h g λl=>L4 l aa 1 λd=>L4 l e 1 λv=>B1 (d=v) (R lN l) (gB (a+1)/\X (a+1) l)) (R lX f)) 0 c))) ((none,0,0),(none,0,0),0) f))) ((none,0,0),0) w):Calls P 68 #[Q p0] w R:=cok ⟨[],[(3,[(3,.inr 3),(25,iI)]),(13,[(8,.inr 3),(9,.inr 3),(47,iI)]),(26,[(110,iI)])],[(16,[(12,.inr 2),(13,.inr 0)]),(19,[(8,.inr 3),(9,.inr 3)])],[]⟩ Tryz.func68 h
def Jas(h:∀b a,New w (.cells #[Q p0] 49) b a->N9 a i0 λc e=>N9 e i1 λd a=>R (E (Value.func (.func 137) #[] #[Q (some (.mk b 0 none)),Q (some (.mk c 0 none)),Q (some (.mk d 0 none))])) a):Calls P 69 #[Q p0,I i0,I i1] w R:=cok {} Tryz.func69 h
def Jee(h:B0 ((↑n0:Int)=0) (R (E (A7 0 40)) w) (xI (St:=Int) (λa b h=>B0 (a<n0) (C3 138 [S p0 n0 n1,I a] b λc b=>B1 (c=0) (R (E (A7 a c)) b) (gB (a+1)/\h (a+1) b)) (R (E (A7 0 0)) b)) 0 w)):Calls P 71 #[S p0 n0 n1] w R:=cok ⟨[],[(4,[(4,iI)])],[],[]⟩ Tryz.func71 h
def Jde(h:N6 w i0 i1 s0 b0 λd g=>N6 g i2 i3 s1 b1 λe a=>L4 a d 0 λb=>L4 a e 0 λf=>B1 (b=f) (L4 a d 0 λb=>L4 a e 0 λc=>R (E (.bool (decide (b<c)))) a) (L4 a d 1 λb=>L4 a e 1 λc=>R (E (.bool (decide (b<c)))) a)):Calls P 76 #[A5 i0 i1 s0 b0,A5 i2 i3 s1 b1] w R:=cok {} Tryz.func76 h
def Jdj(h:N1 w p0 n0 n1 i0 λj b=>N2 b i1 i2 i3 i4 s0 s1 p1 n2 n3 λh t=>N1 t none 0 0 0 λm b=>xM (λl i=>L1 i j 0 λc e d a=>U1 i m 0 c e d a λb=>L1 b m 0 λc e d a=>R (E (A11 c e d a 0 l)) b) λ(J:Int->Wq->Prop)=>L4 b h 0 λa=>B0 (a=0) (L1 b j 0 λc e d a=>L6 b h 6 λn r o=>C14 139 [A2 c e d a,S n r o] b λc e d a f g i=>U1 i m 0 c e d a λb=>L1 b m 0 λc e d a=>R (E (A11 c e d a f g)) b) (B0 (a=1) (L1 b j 0 λc e d a=>L4 b h 1 λf=>L4 b h 3 λg=>L6 b h 6 λn r o=>C14 140 [A2 c e d a,I f,I g,S n r o] b λc e d a p q i=>U1 i m 0 c e d a λb=>L1 b m 0 λc e d a=>R (E (A11 c e d a p q)) b) (B0 (a=2) (L1 b j 0 λc e d a=>L4 b h 1 λf=>C20 141 [A2 c e d a,I f] b λc e d a g i=>U1 i j 0 c e d a λb=>J g b) (B0 (a=3) (L1 b j 0 λc e d a=>L4 b h 1 λf=>L4 b h 2 λg=>L4 b h 3 λp=>C20 142 [A2 c e d a,I f,I g,I p] b λc e d a q i=>U1 i j 0 c e d a λb=>J q b) (B0 (a=4) (L1 b j 0 λc e d a=>L4 b h 1 λf=>L7 b h 4 λl=>L7 b h 5 λs=>C20 143 [A2 c e d a,I f,A19 l s] b λc e d a g i=>U1 i j 0 c e d a λb=>J g b) (B0 (a=5) (L1 b j 0 λc e d a=>L4 b h 1 λf=>L7 b h 4 λl=>C20 144 [A2 c e d a,I f,.string l] b λc e d a g i=>U1 i j 0 c e d a λb=>J g b) (B0 (a=6) (L1 b j 0 λc e d a=>L4 b h 1 λf=>L7 b h 5 λl=>C20 145 [A2 c e d a,I f,.string l] b λc e d a g i=>U1 i j 0 c e d a λb=>J g b) (J 0 b)))))))):Calls P 77 #[A2 p0 n0 n1 i0,A3 i1 i2 i3 i4 s0 s1 p1 n2 n3] w R:=cok ⟨[],[],[(17,[(7,iI)])],[]⟩ Tryz.func77 h
def Jea(h:xI (St:=Int) (λa b g=>B0 (a<n0) (onP p0 λe=>D1 a n0/\G2 b (e.add (a.toNat*1)) λd=>B0 (d=s0) (R lX b) (gB (a+1)/\g (a+1) b)) (R lN b)) 0 w):Calls P 78 #[S p0 n0 n1,.string s0] w R:=cok ⟨[],[(2,[(5,iI)])],[],[]⟩ Tryz.func78 h
def Jek(h:N6 w i0 i1 s0 b0 λe h=>xI (St:=(OA×Nat×Nat)×Int) (λa b v=>B0 (a.2<n0) (xM (St:=OA×Nat×Nat) (λg b=>gB (a.2+1)/\v ((g.1,g.2.1,g.2.2),a.2+1) b) λJ=>xM (λg b=>br g (onP p0 λc=>D1 a.2 n0/\G5 b (c.add (a.2.toNat*4)) λd f o e=>N6 b d f o e λk h=>∃c n m p,App P #[37,37] 37 h (S a.1.1 a.1.2.1 a.1.2.2) (S (some (.mk k 0 none)) 1 1) (S c n m) p/\J (c,n,m) p) (J (a.1.1,a.1.2.1,a.1.2.2) b)) λ(J:Bool->Wq->Prop)=>onP p0 λc=>D1 a.2 n0/\G1 b.drew (c.add (a.2.toNat*4)) λd=>L4 b.drew e 0 λf=>B1 (d=f) (J true b.drew) (onP p0 λc=>D1 a.2 n0/\G1 b.drew (Addr.add (c.add (a.2.toNat*4)) 1) λd=>L4 b.drew e 1 λl=>J (!decide (d=l)) b.drew)) (R (E (S a.1.1 a.1.2.1 a.1.2.2)) b)) ((none,0,0),0) h):Calls P 79 #[S p0 n0 n1,A5 i0 i1 s0 b0] w R:=cok ⟨[],[(3,[(5,.inr 3),(6,iI)])],[(4,[(5,.inr 3)]),(6,[(30,.inr 0)])],[]⟩ Tryz.func79 h
def Jej(h:N6 w i0 i1 s0 b0 λb i=>xI (St:=(OA×Nat×Nat)×Bool×Int) (λa c y=>B0 (a.2.2<n0) (xM (St:=(OA×Nat×Nat)×Bool) (λe c=>onP p0 λd=>D1 a.2.2 n0/\G5 c (d.add (a.2.2.toNat*4)) λg h l b=>N6 c g h l b λf i=>∃d k j m,App P #[37,37] 37 i (S e.1.1 e.1.2.1 e.1.2.2) (S (some (.mk f 0 none)) 1 1) (S d k j) m/\gB (a.2.2+1)/\y ((d,k,j),e.2,a.2.2+1) m) λJ=>xM (λe c=>br e (∃g h l f,Ld P 79 c (.mk b 0 none) (A5 g h l f)/\N6 c g h l f λb i=>∃d k j m,App P #[37,37] 37 i (S a.1.1 a.1.2.1 a.1.2.2) (S (some (.mk b 0 none)) 1 1) (S d k j) m/\J ((d,k,j),true) m) (J ((a.1.1,a.1.2.1,a.1.2.2),a.2.1) c)) λ(J:Bool->Wq->Prop)=>br (!a.2.1) (∃g h e f,Ld P 79 c.drew (.mk b 0 none) (A5 g h e f)/\onP p0 λd=>D1 a.2.2 n0/\G5 c.drew (d.add (a.2.2.toNat*4)) λo p l b=>C2 76 [A5 g h e f,A5 o p l b] c.drew λb c=>J b c) (J false c.drew)) (br (!a.2.1) (∃g h e f,Ld P 79 c (.mk b 0 none) (A5 g h e f)/\N6 c g h e f λb i=>∃d k j m,App P #[37,37] 37 i (S a.1.1 a.1.2.1 a.1.2.2) (S (some (.mk b 0 none)) 1 1) (S d k j) m/\R (E (S d k j)) m) (R (E (S a.1.1 a.1.2.1 a.1.2.2)) c))) ((none,0,0),false,0) i):Calls P 80 #[S p0 n0 n1,A5 i0 i1 s0 b0] w R:=cok ⟨[],[(4,[(5,.inr 3),(6,.inr 0),(7,iI)])],[(9,[(5,.inr 3),(6,.inr 0)]),(7,[(23,.inr 0)])],[]⟩ Tryz.func80 h
def Jd8(h:B1 ((↑n0:Int)=n2) (R lN w) (xI (St:=Int) (λa b m=>B0 (a<n0) (onP p0 λc=>D1 a n0/\G3 b.drew (c.add (a.toNat*2)) λg h=>onP p1 λc=>D1 a n2/\G3 b.drew (c.add (a.toNat*2)) λi j=>∃e,Eqv P .neq 142 (.tmp 20) (.tmp 24) b.drew (A19 g h) (A19 i j) e/\br e (R lN b.drew) (gB (a+1)/\m (a+1) b.drew)) (R lX b)) 0 w)):Calls P 81 #[S p0 n0 n1,S p1 n2 n3] w R:=cok ⟨[],[(4,[(5,iI)])],[],[]⟩ Tryz.func81 h
def Jdl(h:N1 w p0 n0 n1 i0 λe h=>xI (St:=Int) (λa c j=>L8 c e 0 λb d f=>B0 (a<d) (L8 c e 0 λb d f=>onP b λb=>D1 a d/\G1 c (b.add (a.toNat*6)) λg=>B0 (g=i1) (R (E (I a)) c) (gB (a+1)/\j (a+1) c)) (R (E (I (-1:Int))) c)) 0 h):Calls P 82 #[A2 p0 n0 n1 i0,I i1] w R:=cok ⟨[],[(2,[(5,iI)])],[],[]⟩ Tryz.func82 h
def Jdx(h:xI (St:=(OA×Nat×Nat)×Int) (λa h A=>B0 (a.2<n0) (onP p0 λe=>D1 a.2 n0/\∃b k l s t j g f,Ld P 133 h (e.add (a.2.toNat*6)) (.agg #[I b,I k,I l,.string s,.string t,S j g f])/\∀d c,New h (.cells #[I 0,I 0,I 0,.string (.mk #[]),.string (.mk #[]),S none 0 0] 133) d c->∃i,St P 133 c (.mk d 0 none) (.agg #[I b,I k,I l,.string s,.string t,S j g f]) i/\L4 i d 1 λb=>gB (b-i0)/\U6 i d 1 (b-i0) λc=>∃b m n v x e g f,Ld P 133 c (.mk d 0 none) (.agg #[I b,I m,I n,.string v,.string x,S e g f])/\∀d y,New c (.cells #[I b,I m,I n,.string v,.string x,S e g f] 133) d y->∃e r q c,App P #[27,27] 27 y (S a.1.1 a.1.2.1 a.1.2.2) (S (some (.mk d 0 none)) 1 1) (S e r q) c/\gB (a.2+1)/\A ((e,r,q),a.2+1) c) (R (E (S a.1.1 a.1.2.1 a.1.2.2)) h)) ((none,0,0),0) w):Calls P 83 #[S p0 n0 n1,I i0] w R:=cok ⟨[],[(3,[(5,.inr 3),(6,iI)])],[],[]⟩ Tryz.func83 h
def Jdk(h:N1 w p0 n0 n1 i0 λf j=>gB (i1+1)/\xI (St:=Int) (λe c k=>L8 c f 0 λa b d=>B0 (e<b) (L8 c.drew f 0 λa b d=>onP a λa=>D1 e b/\G1 c.drew (Addr.add (a.add (e.toNat*6)) 1) λh=>L8 c.drew f 0 λa b d=>onP a λa=>D1 i1 b/\G1 c.drew (Addr.add (a.add (i1.toNat*6)) 1) λi=>B0 (h<=i) (R (E (I e)) c.drew) (gB (e+1)/\k (e+1) c.drew)) (L8 c f 0 λa b d=>R (E (I b)) c)) (i1+1) j):Calls P 84 #[A2 p0 n0 n1 i0,I i1] w R:=cok ⟨[],[(2,[(5,iI)])],[],[]⟩ Tryz.func84 h
def Jaf(h:onP p0 λh=>G1 w (h.add 4096) λc=>xI (St:=Int) (λb a f=>B0 (b<c) (C10 86 [Q p0,I b] a λc i a=>B0 (0<c) (zC P v0 [I b] a λd a=>∃e,d=E (.bool e)/\br (!e) (R (E (.tuple #[])) a) (gB (b+1)/\f (b+1) a)) (gB (b+1)/\f (b+1) a)) (R (E (.tuple #[])) a)) 0 w):Calls P 85 #[Q p0,v0] w R:=cok ⟨[],[(1,[(11,iI)])],[],[]⟩ Tryz.func85 h
def Je3(h:B0 (i0<0) (R (E (A7 0 0)) w) (onP p0 λg=>G1 w (g.add 4096) λb=>B0 (b<=i0) (R (E (A7 0 0)) w) (gB (4*i0)/\gB (10+4*i0)/\C3 146 [Q p0,I (10+4*i0)] w λb e=>gB (4*i0)/\gB (10+4*i0)/\gB (10+4*i0+2)/\C3 146 [Q p0,I (10+4*i0+2)] e λf e=>R (E (A7 b f)) e))):Calls P 86 #[Q p0,I i0] w R:=cok {} Tryz.func86 h
def Ja5(h:C11 147 [Q p0,I i0] w λp b a=>B1 (b=0) (R (E (A7 0 b)) a) (B0 (i1<0) (R (E (A7 0 69)) a) (onP p λd=>G13 a (d.add 7) λq g h=>B0 ((↑g:Int)<i1) (R (E (A7 0 69)) a) (C10 148 [S p1 n0 n1] a λb k a=>B1 (k=0) (R (E (A7 0 k)) a) (C3 149 [Q p0,I i0] a λi a=>gB (i+1)/\gB (i+1+b)/\B0 (40<=i+1+b) (R (E (A7 0 65)) a) (onP p0 λd=>G12 a d λo=>∃b,LenM P #[117] 3 a (.map o) (I b)/\gB (b+n0)/\B0 (1000<b+n0) (R (E (A7 0 66)) a) (onP p0 λd=>G1 a (d.add 2) λb=>gB (2147483647-b)/\B0 (2147483647-b<n0) (R (E (A7 0 66)) a) (C7 64 [Q p0,I n0] a λd g h a=>C3 63 [Q p0,I i0,I i1,S p1 n0 n1,S d g h] a λb a=>R (E (A7 b 0)) a)))))))):Calls P 91 #[Q p0,I i0,I i1,S p1 n0 n1] w R:=cok {} Tryz.func91 h
def Jax(h:onP p0 λc=>G12 w c λe=>∃A f,Lk P 117 true w (.map e) (I i0) (A10 A f)/\br (!f) (R (E (I 60)) w) (onP p0 λc=>G1 w (c.add 1) λh=>B0 (i0=h) (R (E (I 62)) w) (C1 150 [Q p0,I i0] w λa=>N10 a none 0 0 λf b=>xk P 69 [Q p0,I i0,I 0] b λl a=>∃s,l=E s/\∃(m:FuncId),∃(q:Array Value),∃(p:Array Value),s=Value.func (.func m) q p/\zo P m/\KAA P m (Array.toList q) (Array.toList p) (λ(d:Int×Int)=>[I d.1,I d.2]) (λ(d:Int×Int)(a:Wq)(x:Wq->(Wq->Prop)->Prop)(y B:WP)(C:Nat->Wq->Prop)=>x a λv=>L9 v f 0 λc g k=>N9 v d.1 λo b=>∃n r e t,App P #[59,59] 59 b (S c g k) (S (some (.mk o 0 none)) 1 1) (S n r e) t/\U5 t f 0 n r e λb=>y b) a (λD a=>L9 a f 0 λc g k=>xI (St:=Int) (λd a z=>B0 (d<g) (onP c λc=>D1 d g/\G1 a (c.add (d.toNat*1)) λh=>onP p0 λc=>G12 a c λe=>∃b,Del P #[117,3] 0 a (.map e) (I h) b/\gB (d+1)/\z (d+1) b) (∃b,zS a D b/\R (E (I 0)) b)) 0 a) (λD a=>False) λ(i0 D:Nat)(a:Wq)=>False))):Calls P 92 #[Q p0,I i0] w R:=cok ⟨[],[(12,[(44,iI)])],[],[(10,[(36,iI),(37,iI)])]⟩ Tryz.func92 h
def Jba(h:N9 w i1 λm b=>∀e i,New b (.cells #[I 0] 41) e i->onP p0 λd=>G12 i d λq=>∃x A,Lk P 117 true i (.map q) (I i0) (A10 x A)/\onP p0 λd=>G12 i.drew d λq=>L4 i.drew m 0 λa=>∃r B,Lk P 117 true i.drew (.map q) (I a) (A10 r B)/\xM (λf c=>br f (U12 c e 0 60 λb=>L15 b e 0 λa=>R (E (I a)) b) (onP p0 λd=>G1 c (d.add 1) λa=>B0 (i0=a) (U12 c e 0 62 λb=>L15 b e 0 λa=>R (E (I a)) b) (onP r λd=>G1 c (d.add 2) λa=>B1 (a=1) (U12 c e 0 68 λb=>L15 b e 0 λa=>R (E (I a)) b) (N9 c 0 λn b=>U6 b n 0 0 λK=>xk P 69 [Q p0,I i0,I 0] K λk c=>∃H,k=E H/\∃(v:FuncId),∃(G:Array Value),∃(F:Array Value),H=Value.func (.func v) G F/\zo P v/\KAA P v (Array.toList G) (Array.toList F) (λ(f:Int×Int)=>[I f.1,I f.2]) (λ(f:Int×Int)(c:Wq)(N:Wq->(Wq->Prop)->Prop)(O T:WP)(W:Nat->Wq->Prop)=>N c λs=>L4 s m 0 λa=>B0 (f.1=a) (U12 s e 0 61 λb=>T b) (L4 s n 0 λa=>U6 s n 0 (max a f.2) λb=>O b)) c (λD c=>onP r λd=>G13 c (d.add 7) λL g j=>xM (λf c=>xM (λf c=>br f (U12 c e 0 69 λb=>∃h,zS b D h/\L15 h e 0 λa=>R (E (I a)) h) (L4 c.drew m 0 λa=>L4 c.drew n 0 λl=>C3 149 [Q p0,I a] c.drew λa c=>Ld P 3 c (.mk n 0 none) (I l)/\gB (a+1)/\gB (a+1+l)/\B0 (40<=a+1+l) (U12 c e 0 65 λb=>∃h,zS b D h/\L15 h e 0 λa=>R (E (I a)) h) (C1 150 [Q p0,I i0] c λc=>onP r λd=>G13 c (d.add 7) λz g j=>N9 c i0 λC b=>C7 122 [S z g j,I i2,S (some (.mk C 0 none)) 1 1] b λd g j c=>onP r λM=>Z3 c (M.add 7) d g j λb=>L4 b m 0 λa=>onP x λd=>Z2 b (d.add 1) a λh=>U12 h e 0 0 λb=>∃y,zS b D y/\L15 y e 0 λa=>R (E (I a)) y))) λ(J:Bool->Wq->Prop)=>B0 (i2<0) (J true c) (J (decide (f<i2)) c)) λ(J:Int->Wq->Prop)=>onP x λd=>G1 c.drew (d.add 1) λa=>L4 c.drew m 0 λl=>B0 (a=l) (gB ((↑g:Int)-1)/\J ((↑g:Int)-1) c.drew) (J g c.drew)) (λD c=>∃b,zS c D b/\L15 b e 0 λa=>R (E (I a)) b) λ(i0 D:Nat)(c:Wq)=>False)))) λ(J:Bool->Wq->Prop)=>br (!A) (J true i.drew) (J (!B) i.drew)):Calls P 93 #[Q p0,I i0,I i1,I i2] w R:=cok ⟨[],[],[(4,[(35,.inr 0)]),(19,[(16,iI)]),(20,[(81,.inr 0)])],[(13,[(59,iI),(60,iI)])]⟩ Tryz.func93 h
def Jbg(h:C11 147 [Q p0,I i0] w λi b a=>B1 (b=0) (R (E (I b)) a) (C2 127 [.string s0] a λg a=>br (!g) (R (E (I 63)) a) (C3 151 [.string s1] a λb a=>B1 (b=0) (C3 151 [.string s1] a λb a=>R (E (I b)) a) (C17 152 [Q i,.string s0] a λb g a=>br g (onP i λe=>G14 a (e.add 6) λj d f=>onP j λe=>D1 b d/\Z1 a (Addr.add (e.add (b.toNat*2)) 1) s1 λh=>R (E (I 0)) h) (onP i λe=>G14 a (e.add 6) λj d f=>B0 (20<=(↑d:Int)) (R (E (I 67)) a) (onP i λe=>G14 a (e.add 6) λm d f=>N13 a s0 s1 λg h=>C7 153 [S m d f,I b,S (some (.mk g 0 none)) 1 1] h λe d f a=>onP i λn=>∃h,St P 69 a (n.add 6) (S e d f) h/\R (E (I 0)) h)))))):Calls P 94 #[Q p0,I i0,.string s0,.string s1] w R:=cok {} Tryz.func94 h
def Jaw(h:C11 147 [Q p0,I i0] w λg a b=>B1 (a=0) (R (E (I a)) b) (C17 152 [Q g,.string s0] b λa i b=>br (!i) (R (E (I 63)) b) (onP g λf=>G14 b (f.add 6) λh e c=>gB (a+1)/\C7 154 [S h e c,I a,I (a+1)] b λf e c b=>onP g λk=>∃j,St P 69 b (k.add 6) (S f e c) j/\R (E (I 0)) j))):Calls P 95 #[Q p0,I i0,.string s0] w R:=cok {} Tryz.func95 h
end
section
variable{w:World}{R:Ending->World->Prop}{p0 p1 p2:Option Addr}{n0 n1 n2 n3:Nat}{i0 i1 i2 i3 i4 i5 i6 i7 i8 i9 i10 i11:Int}{s0 s1 s2 s3:ByteArray}{b0 b1:Bool}{m0:Option Nat}{v0:Value}
def Jbh(h:onP p0 λb=>G12 w b λh=>∃e g,Lk P 117 true w (.map h) (I i0) (A10 e g)/\br (!g) (R (E (I 60)) w) (onP e λb=>G1 w (b.add 2) λa=>B1 (a=2) (R (E (I 68)) w) (C3 151 [.string s0] w λa c=>B1 (a=0) (C3 151 [.string s0] c λa c=>R (E (I a)) c) (onP e λb=>Z1 c (b.add 5) s0 λi=>R (E (I 0)) i)))):Calls P 96 #[Q p0,I i0,.string s0] w R:=cok {} Tryz.func96 h
def Je9(h:onP p0 λc=>G17 w c λh e o=>xI (St:=(OA×Nat×Nat)×Int) (λa f p=>B0 (a.2<e) (onP h λc=>D1 a.2 e/\∃l i,Ld P 167 f (c.add (a.2.toNat*2)) (.agg #[.string l,I i])/\N15 f (.mk #[]) 0 λp0 d=>U13 d p0 0 l i λg=>L7 g p0 0 λm=>N12 g m λp0 d=>∃c k j n,App P #[106,106] 106 d (S a.1.1 a.1.2.1 a.1.2.2) (S (some (.mk p0 0 none)) 1 1) (S c k j) n/\gB (a.2+1)/\p ((c,k,j),a.2+1) n) (R (E (S a.1.1 a.1.2.1 a.1.2.2)) f)) ((none,0,0),0) w):Calls P 97 #[Q p0] w R:=cok ⟨[],[(3,[(3,.inr 3),(11,iI)])],[],[]⟩ Tryz.func97 h
def Jfc(h:xk P 157 [Q p0,I i0] w λB g=>∃i c,B=E (.agg #[.string i,I c])/\N15 g (.mk #[]) 0 λk d=>U13 d k 0 i c λj=>L4 j k 1 λc=>B0 (c=0) (R lN j) (onP p0 λa=>G17 j a λn b e=>gB (i0-1)/\onP n λa=>(0<=i0-1/\i0-1<(↑b:Int))/\G1 j (Addr.add (a.add (Int.toNat (i0-1)*2)) 1) λc=>gB (c-1)/\onP n λa=>(0<=i0-1/\i0-1<(↑b:Int))/\Z2 j (Addr.add (a.add (Int.toNat (i0-1)*2)) 1) (c-1) λd=>L4 d k 1 λc=>B0 (1<c) (R lX d) (onP p0 λa=>G18 d.drew (a.add 1) λs=>L7 d.drew k 0 λi=>∃o,Del P #[147,9] 0 d.drew (.map s) (.string i) o/\onP p0 λa=>G17 o a λp b e=>gB (i0-1)/\onP p λa=>(0<=i0-1/\i0-1<(↑b:Int))/\∃d,St P 167 o (a.add (Int.toNat (i0-1)*2)) (.agg #[.string (.mk #[]),I 0]) d/\xI (St:=PUnit) (λi g C=>onP p0 λa=>G17 g.drew a λt b e=>B0 (0<(↑b:Int)) (onP p0 λa=>G17 g.drew a λq b e=>onP p0 λa=>G17 g.drew a λv l e=>gB ((↑l:Int)-1)/\onP q λa=>(0<=(↑l:Int)-1/\(↑l:Int)-1<(↑b:Int))/\G1 g.drew (Addr.add (a.add (Int.toNat ((↑l:Int)-1)*2)) 1) λc=>B0 (c=0) (onP p0 λa=>G17 g.drew.drew a λr b e=>onP p0 λa=>G17 g.drew.drew a λx b z=>gB ((↑b:Int)-1)/\onP p0 λa=>G17 g.drew.drew a λy m A=>gB ((↑m:Int)-1)/\(0<=(↑b:Int)-1/\(↑b:Int)-1<=(↑m:Int)-1/\(↑m:Int)-1<=(↑e:Int))/\onP p0 λa=>Z4 g.drew.drew a r (Int.toNat ((↑b:Int)-1)) (Int.toNat ((↑m:Int)-1)) λd=>C () d) (R lX g.drew)) (R lX g.drew)) () d))):Calls P 99 #[Q p0,I i0] w R:=cok ⟨[],[(9,[])],[],[]⟩ Tryz.func99 h
def Jfd(h:onP p0 λd=>G18 w (d.add 1) λc=>∃b p0,Lk P 147 true w (.map c) (.string s0) (A1 b p0)/\R (E (A1 b p0)) w):Calls P 100 #[Q p0,.string s0] w R:=cok {} Tryz.func100 h
def Je8(h:onP p0 λa=>G18 w (a.add 1) λf=>∃b o,Lk P 147 true w (.map f) (.string s0) (A1 b o)/\C2 127 [.string s0] w λp c=>br (!p) (R (E (A7 0 63)) c) (br o (onP p0 λa=>G17 c a λh d i=>gB (b-1)/\onP h λa=>(0<=b-1/\b-1<d)/\G1 c (Addr.add (a.add (Int.toNat (b-1)*2)) 1) λm=>gB (m+1)/\onP h λa=>(0<=b-1/\b-1<d)/\Z2 c (Addr.add (a.add (Int.toNat (b-1)*2)) 1) (m+1) λe=>R (E (A7 b 0)) e) (onP p0 λa=>G18 c (a.add 1) λf=>∃b,LenM P #[147] 3 c (.map f) (I b)/\B0 (4000<=b) (R (E (A7 0 150)) c) (C3 158 [Q p0] c λb c=>xM (St:=PUnit) (λt c=>onP p0 λa=>G17 c a λh d i=>gB (b-1)/\onP h λa=>(0<=b-1/\b-1<d)/\∃e,St P 167 c (a.add (Int.toNat (b-1)*2)) (.agg #[.string s0,I 1]) e/\onP p0 λa=>G18 e (a.add 1) λf=>∃j,MUp P 147 e (.map f) (.string s0) (I b) j/\R (E (A7 b 0)) j) λJ=>onP p0 λa=>G17 c a λh d i=>B0 ((↑d:Int)<b) (onP p0 λa=>G17 c a λn d i=>N15 c (.mk #[]) 0 λq e=>∃a r f j,App P #[148,148] 148 e (S n d i) (S (some (.mk q 0 none)) 1 1) (S a r f) j/\onP p0 λs=>Z4 j s a r f λe=>J () e) (J () c))))):Calls P 101 #[Q p0,.string s0] w R:=cok ⟨[],[],[(12,[])],[]⟩ Tryz.func101 h
def Jcx(h:∀h g,New w (.map #[] 0) h g->xI (St:=Int) (λb a k=>B0 (b<n0) (onP p0 λd=>D1 b n0/\G24 a (d.add (b.toNat*2)) λc m=>N17 a 0 false λf g=>∃r,St P 248 g (.mk f 0 none) (A20 c m) r/\∃c s,Ld P 248 r (.mk f 0 none) (A20 c s)/\C3 161 [.map m0,A20 c s] r λc a=>B0 (0<=c) (L4 a f 0 λc=>L4 a f 0 λn=>∃t v,Lk P 80 false a (.map m0) (I n) (A4 t v)/\∃g,MUp P 80 a (.map (some h)) (I c) (A4 t v) g/\gB (b+1)/\k (b+1) g) (gB (b+1)/\k (b+1) a)) (xI (St:=Int×Int×Int) (λb a k=>B0 (b.2.2<=n0) (xM (St:=Int×Int) (λl a=>gB (b.2.2+1)/\k (l.1,l.2,b.2.2+1) a) λJ=>xM (λl a=>B0 (l<0) (J (b.1,b.2.1) a) (gB (b.2.2-b.2.1)/\C19 162 [I b.1,I l,I (b.2.2-b.2.1)] a λd o x m a=>br (!m) (R (E (.tuple #[.map none,.bool false])) a) (xI (St:=Int) (λe a k=>B0 (e<o) (onP d λd=>D1 e o/\G1 a (d.add (e.toNat*1)) λc=>gB (b.2.1+e)/\onP p0 λd=>(0<=b.2.1+e/\b.2.1+e<n0)/\G24 a (d.add (Int.toNat (b.2.1+e)*2)) λn f=>C1 163 [.map (some h),A20 n f,I c] a λa=>gB (e+1)/\k (e+1) a) (gB (b.2.2+1)/\J (l,b.2.2+1) a)) 0 a))) λ(J:Int->Wq->Prop)=>B0 (b.2.2<n0) (onP p0 λd=>D1 b.2.2 n0/\G24 a (d.add (b.2.2.toNat*2)) λc h=>C3 161 [.map m0,A20 c h] a λc a=>J c a) (J 4611686018427387904 a)) (R (E (.tuple #[.map (some h),.bool true])) a)) (0,0,0) a)) 0 g):Calls P 104 #[S p0 n0 n1,.map m0] w R:=cok ⟨[],[(3,[(20,iI)]),(10,[(9,iI),(10,iI),(11,iI)]),(20,[(67,iI)])],[(11,[(9,iI),(10,iI)]),(15,[(12,iI)])],[]⟩ Tryz.func104 h
def Jb7(h:∀g a,New w (.cells #[S none 0 0] 185) g a->∀i B,New a (.cells #[S none 0 0] 185) i B->xI (St:=Int) (λe h K=>B0 (e<n0) (onP p0 λd=>D1 e n0/\G16 h (d.add (e.toNat*5)) λf t z A p c b=>N11 h 0 0 (.mk #[]) (.mk #[]) none 0 0 λl a=>U8 a l 0 f t z A p c b λn=>L4 n l 0 λf=>C1 164 [I f,Q (some (.mk i 0 none)),Q (some (.mk g 0 none))] n λh=>∃d c b,Ld P 185 h.drew (.mk g 0 none) (S d c b)/\onP p1 λF=>D1 e n2/\G1 h.drew (F.add (e.toNat*1)) λf=>N17 h.drew f false λs a=>Ld P 185 a (.mk g 0 none) (S d c b)/\∃q k j C,App P #[185,185] 185 a (S d c b) (S (some (.mk s 0 none)) 1 1) (S q k j) C/\∃a,St P 185 C (.mk g 0 none) (S q k j) a/\∃d c b,Ld P 185 a.drew (.mk i 0 none) (S d c b)/\onP p1 λG=>D1 e n2/\G1 a.drew (G.add (e.toNat*1)) λf=>N17 a.drew f true λg o=>Ld P 185 o (.mk i 0 none) (S d c b)/\∃r k j a,App P #[185,185] 185 o (S d c b) (S (some (.mk g 0 none)) 1 1) (S r k j) a/\∃D,St P 185 a (.mk i 0 none) (S r k j) D/\gB (e+1)/\K (e+1) D) (C1 164 [I 0,Q (some (.mk i 0 none)),Q (some (.mk g 0 none))] h λh=>∃d c b,Ld P 185 h (.mk g 0 none) (S d c b)/\R (E (S d c b)) h)) 0 B):Calls P 105 #[S p0 n0 n1,S p1 n2 n3] w R:=cok ⟨[],[(4,[(13,iI)])],[],[]⟩ Tryz.func105 h
def Jey(h:C10 62 [S p0 n0 n1] w λc p d=>B1 (p=0) (R (E (A13 none 0 0 p)) d) (∃b n m a,MkS P 187 d (I n0) (I n0) (S b n m) a/\∀h A,New a (.cells #[S none 0 0] 187) h A->∃a,St P 187 A (.mk h 0 none) (S b n m) a/\N10 a none 0 0 λj B=>N9 B 0 λi a=>U6 a i 0 0 λC=>xI (St:=Int) (λg d G=>B0 (g<n0) (onP p0 λb=>D1 g n0/\G16 d (b.add (g.toNat*5)) λc v y z s e f=>N11 d 0 0 (.mk #[]) (.mk #[]) none 0 0 λo a=>U8 a o 0 c v y z s e f λq=>L4 q o 0 λc=>C1 165 [I c,Q (some (.mk j 0 none)),Q (some (.mk i 0 none)),Q (some (.mk h 0 none))] q λd=>L4 d i 0 λc=>gB (c+1099511627776)/\U6 d i 0 (c+1099511627776) λa=>∃b e f,Ld P 187 a (.mk h 0 none) (S b e f)/\L4 a i 0 λc=>onP b λb=>D1 g e/\Z2 a (b.add (g.toNat*2)) c λr=>L9 r j 0 λb e f=>N9 r g λh a=>∃t n m D,App P #[59,59] 59 a (S b e f) (S (some (.mk h 0 none)) 1 1) (S t n m) D/\U5 D j 0 t n m λa=>gB (g+1)/\G (g+1) a) (C1 165 [I 0,Q (some (.mk j 0 none)),Q (some (.mk i 0 none)),Q (some (.mk h 0 none))] d λd=>∃b e f,Ld P 187 d (.mk h 0 none) (S b e f)/\R (E (A13 b e f 0)) d)) 0 C)):Calls P 106 #[S p0 n0 n1] w R:=cok ⟨[],[(9,[(26,iI)])],[],[]⟩ Tryz.func106 h
def Jcd(h:onP p0 λb=>G20 w b λd=>onP d λb=>G11 w (b.add 4) λc=>∃a n,Lk P 83 false w (.map c) (.string s0) (A4 a n)/\N14 w 0 0 λg e=>U10 e g 0 a n λf=>onP p0 λb=>G20 f.drew b λd=>onP d λb=>G6 f.drew (b.add 3) λm q r=>L4 f.drew g 0 λa=>onP m λb=>D1 a q/\G7 f.drew (b.add (a.toNat*1)) λd=>L4 f.drew g 1 λa=>C3 167 [Q d,I a] f.drew λa j=>onP p0 λb=>G21 j.drew (b.add 1) λc=>L12 j.drew g 0 λa h=>∃i,Lk P 110 false j.drew (.map c) (A4 a h) (I i)/\gB (i+1)/\∃t o e,MEn P 110 j.drew (.map c) (A4 a h) (.tuple #[t,I o]) e/\Lk P 110 false e (.map c) (A4 a h) (I i)/\∃k,ESt P 110 e (.map c) (I o) (I (i+1)) k/\onP p0 λb=>G20 k b λd=>onP d λb=>G11 k (b.add 4) λc=>∃e,Del P #[83,9] 0 k (.map c) (.string s0) e/\R (E (.tuple #[])) e):Calls P 108 #[Q p0,.string s0] w R:=cok {} Tryz.func108 h
def Jdd(h:B0 (i0<0) (R (E (I 110)) w) (B0 (120<=i0) (R (E (I 110)) w) (C3 169 [Q p0] w λa b=>C10 86 [Q p0,I i0] b λk i b=>xM (λo b=>B0 (o<(↑(s0.size):Int)) (R (E (I 111)) b) (C1 170 [Q p0,I i0] b λb=>xI (St:=PUnit) (λp b n=>onP p0 λc=>G1 b (c.add 4096) λa=>B0 (a<=i0) (onP p0 λc=>G1 b (c.add 4096) λa=>C1 171 [Q p0,I a,I 0,I 0] b λb=>onP p0 λc=>G1 b (c.add 4096) λa=>gB (a+1)/\onP p0 λc=>Z2 b (c.add 4096) (a+1) λg=>n () g) (onP p0 λc=>G1 b (c.add 4096) λa=>C1 172 [Q p0,I 8,I a] b λb=>onP p0 λc=>G1 b (c.add 4097) λa=>gB (a-(↑(s0.size):Int))/\onP p0 λc=>Z2 b (c.add 4097) (a-(↑(s0.size):Int)) λg=>onP p0 λc=>onP p0 λl=>G1 g.drew (l.add 4097) λa=>(0<=a/\a<=(↑(4096:Nat):Int))/\∃m j,Cpy P #[159,9] 3 g.drew (S (slA (some c) 4096 (a.toNat) 1) (4096-a.toNat) (4096-a.toNat)) (.string s0) (I m) j/\onP p0 λc=>G1 j (c.add 4097) λa=>C1 171 [Q p0,I i0,I a,I (↑(s0.size):Int)] j λb=>R (E (I 0)) b)) () b)) λ(J:Int->Wq->Prop)=>B0 (0<k) (gB (a+i)/\J (a+i) b) (J a b)))):Calls P 110 #[Q p0,I i0,.string s0] w R:=cok ⟨[],[(10,[])],[(7,[(7,iI)])],[]⟩ Tryz.func110 h
def Jcr(h:xI (St:=Int) (λf a B=>B0 (4096<=f) (R (E (I 94)) a) (xM (St:=PUnit) (λF a=>onP p0 λb=>G20 a b λc=>onP c λb=>G6 a (b.add 3) λl g h=>onP l λb=>D1 f g/\G7 a (b.add (f.toNat*1)) λc=>C10 173 [Q c,.string s1] a λk v a=>B0 (v=0) (onP p0 λb=>G20 a b λc=>onP c λb=>G11 a (b.add 4) λe=>∃d,MUp P 83 a (.map e) (.string s0) (A4 f k) d/\onP p0 λb=>G21 d.drew (b.add 1) λe=>∃n,Lk P 110 false d.drew (.map e) (A4 f k) (I n)/\gB (n+1)/\∃D x i,MEn P 110 d.drew (.map e) (A4 f k) (.tuple #[D,I x]) i/\Lk P 110 false i (.map e) (A4 f k) (I n)/\∃d,ESt P 110 i (.map e) (I x) (I (n+1)) d/\R (E (I 0)) d) (gB (f+1)/\B (f+1) a)) λJ=>onP p0 λb=>G20 a b λc=>onP c λb=>G6 a (b.add 3) λl g h=>B0 (f=g) (onP p0 λb=>G20 a.drew b λc=>onP p0 λp=>G20 a.drew p λo=>onP o λq=>G6 a.drew (q.add 3) λm g h=>C4 123 [] a.drew λz a=>Ld P 84 a (q.add 3) (S m g h)/\Ld P 23 a p (Q o)/\Ld P 23 a b (Q c)/\N8 a z λt d=>Ld P 84 d (q.add 3) (S m g h)/\Ld P 23 d p (Q o)/\Ld P 23 d b (Q c)/\∃s y e i,App P #[84,84] 84 d (S m g h) (S (some (.mk t 0 none)) 1 1) (S s y e) i/\Ld P 23 i b (Q c)/\onP c λb=>∃d,St P 84 i (b.add 3) (S s y e) d/\J () d) (J () a))) 0 w):Calls P 111 #[Q p0,.string s0,.string s1] w R:=cok ⟨[],[(3,[(7,iI)])],[(7,[])],[]⟩ Tryz.func111 h
def Jcu(h:∃b,(onP p0 λa=>Ld P 114 w.drew a (.map b))/\C18 113 [.string s0] w.drew λe f=>(onP p0 λa=>Ld P 114 f a (.map b))/\∃g,MUp P 114 f (.map b) (.string e) (A14 s0) g/\R (E (.tuple #[])) g):Calls P 112 #[.string s0,Q p0] w R:=cok {} Tryz.func112 h
def Jb4(h:B0 (s0=.mk #[]) (R (E (.string (.mk #[]))) w) (((0:Int)<=(0:Int)/\(0:Int)<(↑(s0.size):Int))/\B0 (sb s0 (0:Int)=(119:Int)) (((0:Int)<=min (↑(s0.size):Int) (3:Int)/\min (↑(s0.size):Int) (3:Int)<=(↑(s0.size):Int))/\R (E (.string (ByteArray.extract s0 0 (Int.toNat (min (↑(s0.size):Int) (3:Int)))))) w) (((0:Int)<=(0:Int)/\(0:Int)<(↑(s0.size):Int))/\B0 (sb s0 (0:Int)=(110:Int)) (((0:Int)<=min (↑(s0.size):Int) (6:Int)/\min (↑(s0.size):Int) (6:Int)<=(↑(s0.size):Int))/\R (E (.string (ByteArray.extract s0 0 (Int.toNat (min (↑(s0.size):Int) (6:Int)))))) w) (((0:Int)<=(1:Int)/\(1:Int)<=(↑(s0.size):Int))/\R (E (.string (ByteArray.extract s0 0 (Int.toNat (1:Int))))) w)))):Calls P 113 #[.string s0] w R:=cok {} Tryz.func113 h
def Jcq(h:∃c e g d,MkS P 159 w (I i1) (I i1) (S c e g) d/\xI (St:=Int) (λa f i=>B0 (a<e) (gB (i1-1)/\gB (i1-1-a)/\gB (8*(i1-1-a))/\0<=8*(i1-1-a)/\onP c λc=>D1 a e/\∃d,St P 5 f (c.add (a.toNat*1)) (iU (IntKind.wrap .u8 (Int.fdiv i0 (2^min (Int.toNat (8*(i1-1-a))) (IntKind.bits .i64))))) d/\gB (a+1)/\i (a+1) d) (∃a,B2S P 159 9 f (S c e g) (.string a)/\R (E (.string a)) f)) 0 d):Calls P 114 #[I i0,I i1] w R:=cok ⟨[],[(3,[(11,iI)])],[],[]⟩ Tryz.func114 h
def Jai(h:N16 w i0 i1 i2 i3 i4 i5 s0 p0 n0 n1 λf c=>L14 c f 0 λh p r s t v a d b g=>C2 174 [A15 h p r s t v a d b g] c λn e=>br (!n) (R (E (A13 none 0 0 160)) e) (L14 e f 0 λh x y z A q a d b g=>C7 175 [A15 h x y z A q a d b g] e λd b g e=>gB ((↑b:Int)+(900:Int))/\gB ((↑b:Int)+(900:Int)-(1:Int))/\(900:Int)≠(0:Int)/\gB (Int.tdiv ((↑b:Int)+(900:Int)-(1:Int)) (900:Int))/\xI (St:=(OA×Nat×Nat)×Int) (λa e F=>B0 (a.2<Int.tdiv ((↑b:Int)+(900:Int)-(1:Int)) (900:Int)) (L4 e f 0 λh=>∀f c,New e (.cells #[I h,I 4,I a.2,I 1,I (Int.tdiv ((↑b:Int)+(900:Int)-(1:Int)) (900:Int)),I 1] 258) f c->C7 176 [S none 0 0,S (some (.mk f 0 none)) 3 3] c λl B o e=>gB (a.2*(900:Int))/\gB (a.2+(1:Int))/\gB ((a.2+(1:Int))*(900:Int))/\((0:Int)<=a.2*(900:Int)/\a.2*(900:Int)<=min (↑b:Int) ((a.2+(1:Int))*(900:Int))/\min (↑b:Int) ((a.2+(1:Int))*(900:Int))<=(↑g:Int))/\∃m k j c,App P #[159,159] 159 e (S l B o) (S (slA d g (Int.toNat (a.2*(900:Int))) 1) (Int.toNat (min (↑b:Int) ((a.2+(1:Int))*(900:Int)))-Int.toNat (a.2*(900:Int))) (g-Int.toNat (a.2*(900:Int)))) (S m k j) c/\∃C,B2S P 159 9 c (S m k j) (.string C)/\N12 c C λf D=>∃d k j c,App P #[106,106] 106 D (S a.1.1 a.1.2.1 a.1.2.2) (S (some (.mk f 0 none)) 1 1) (S d k j) c/\gB (a.2+(1:Int))/\F ((d,k,j),a.2+(1:Int)) c) (R (E (A13 a.1.1 a.1.2.1 a.1.2.2 0)) e)) ((none,0,0),(0:Int)) e)):Calls P 115 #[A15 i0 i1 i2 i3 i4 i5 s0 p0 n0 n1] w R:=cok ⟨[],[(7,[(6,.inr 3),(20,iI)])],[],[]⟩ Tryz.func115 h
def Jcs(h:N5 w i0 i1 i2 i3 s0 s1 p1 n0 n1 λb a=>N16 a 0 0 0 0 0 0 (.mk #[]) none 0 0 λp i=>L4 i.drew b 0 λe=>L4 i.drew b 1 λr=>L4 i.drew b 2 λs=>L7 i.drew b 5 λd=>onP p0 λc=>G9 i.drew (c.add 1) λj=>L4 i.drew b 0 λn=>∃t v,Lk P 80 false i.drew (.map j) (I n) (A4 t v)/\N16 i.drew 0 0 0 0 0 0 (.mk #[]) none 0 0 λk a=>Lk P 80 false a (.map j) (I n) (A4 t v)/\Ld P 3 a (.mk b 0 none) (I n)/\Ld P 80 a (c.add 1) (.map j)/\Ld P 9 a (.mk b 5 none) (.string d)/\Ld P 3 a (.mk b 2 none) (I s)/\Ld P 3 a (.mk b 1 none) (I r)/\Ld P 3 a (.mk b 0 none) (I e)/\U11 a k 0 e r s 0 t v d none 0 0 λl=>xM (St:=PUnit) (λd f=>L11 f b 6 λc g h=>xI (St:=Int) (λd f Y=>B0 (d<g) (onP c λc=>D1 d g/\G3 f (c.add (d.toNat*2)) λN O=>N13 f (.mk #[]) (.mk #[]) λb a=>U9 a b 0 N O λo=>onP p0 λc=>G10 o.drew (c.add 2) λm=>L7 o.drew b 0 λT=>C17 100 [Q m,.string T] o.drew λe X f=>L16 f k 7 λc g h=>L7 f b 1 λV=>N18 f e V λb a=>∃y M j W,App P #[202,202] 202 a (S c g h) (S (some (.mk b 0 none)) 1 1) (S y M j) W/\∃a,St P 202 W (.mk k 7 none) (S y M j) a/\gB (d+1)/\Y (d+1) a) (L14 f k 0 λe G H K L z d c g h=>U11 f p 0 e G H K L z d c g h λa=>L14 a p 0 λe A B C D F d c g h=>R (E (A15 e A B C D F d c g h)) a)) 0 f) λJ=>L4 l b 2 λe=>B0 (e=1) (onP p0 λc=>G10 l.drew (c.add 2) λm=>L7 l.drew b 4 λd=>C17 100 [Q m,.string d] l.drew λe b f=>U6 f k 3 e λa=>J () a) (J () l)):Calls P 116 #[Q p0,A3 i0 i1 i2 i3 s0 s1 p1 n0 n1] w R:=cok ⟨[],[(5,[(43,iI)])],[(4,[])],[]⟩ Tryz.func116 h
def Jcf(h:N14 w i0 i1 λc b=>L4 b.drew c 0 λa=>onP p0 λd=>G6 b.drew (d.add 3) λk e f=>B0 ((↑e:Int)<=a) (R (E (A12 (.mk #[]) false)) b.drew) (onP p0 λd=>G6 b.drew.drew (d.add 3) λg e f=>L4 b.drew.drew c 0 λa=>onP g λd=>D1 a e/\G7 b.drew.drew (d.add (a.toNat*1)) λh=>L4 b.drew.drew c 1 λa=>C15 48 [Q h,I a] b.drew.drew λi c o=>R (E (A12 i c)) o)):Calls P 117 #[Q p0,A4 i0 i1] w R:=cok {} Tryz.func117 h
def Jca(h:N7 w i0 i1 s0 b0 λe h=>N7 h i2 i3 s1 b1 λf c=>L4 c e 0 λa=>L4 c f 0 λb=>gB (a-b)/\gB ((a-b)*120)/\L4 c e 1 λd=>gB ((a-b)*120+d)/\L4 c f 1 λg=>gB ((a-b)*120+d-g)/\R (E (I ((a-b)*120+d-g))) c):Calls P 119 #[A5 i0 i1 s0 b0,A5 i2 i3 s1 b1] w R:=cok {} Tryz.func119 h
def Jda(h:onP p0 λe=>D1 i0 n0/\G16 w (e.add (i0.toNat*5)) λa m f p k o l=>N11 w 0 0 (.mk #[]) (.mk #[]) none 0 0 λd q=>U8 q d 0 a m f p k o l λg=>xM (λf c=>br f (R (E (I 69)) c) (xM (λf c=>br f (R (E (I 69)) c) (L4 c d 0 λa=>B0 (40<=a) (R (E (I 42)) c) (B0 (1000<=i0) (R (E (I 43)) c) (R (E (I 0)) c)))) λ(J:Bool->Wq->Prop)=>B0 (0<i0) (L4 c.drew d 0 λa=>B0 (a<1) (J true c.drew) (L4 c.drew d 0 λa=>gB (i0-1)/\onP p0 λe=>(0<=i0-1/\i0-1<n0)/\G1 c.drew (e.add (Int.toNat (i0-1)*5)) λj=>gB (j+1)/\B0 (j+1<a) (J true c.drew) (L4 c.drew d 0 λa=>gB (i0-1)/\onP p0 λe=>(0<=i0-1/\i0-1<n0)/\G1 c.drew (e.add (Int.toNat (i0-1)*5)) λn=>B0 (n<a) (gB (i0-1)/\onP p0 λe=>(0<=i0-1/\i0-1<n0)/\G1 c.drew (Addr.add (e.add (Int.toNat (i0-1)*5)) 1) λa=>J (decide (a=2)) c.drew) (J false c.drew)))) (J false c.drew))) λ(J:Bool->Wq->Prop)=>B0 (i0=0) (L4 g d 0 λa=>B1 (a=0) (J true g) (L4 g d 1 λa=>J (!decide (a=1)) g)) (J false g)):Calls P 120 #[S p0 n0 n1,I i0] w R:=cok ⟨[],[],[(3,[(10,.inr 0)]),(5,[(23,.inr 0)])],[]⟩ Tryz.func120 h
def Jc9(h:N11 w i0 i1 s0 s1 p0 n0 n1 λd e=>xM (λa b=>br a (L7 b d 3 λa=>C3 179 [.string a] b λc b=>R (E (I c)) b) (L4 b d 1 λc=>B1 (c=1) (R (E (I 68)) b) (L7 b d 3 λa=>B1 (a=.mk #[]) (R (E (I 68)) b) (L13 b d 0 λc l a m f g h=>C3 180 [A16 c l a m f g h] b λc b=>L11 b d 4 λf g h=>xI (St:=Int×Int) (λa b o=>B0 (a.2<g) (xM (λj b=>gB (a.2+1)/\o (j,a.2+1) b) λ(J:Int->Wq->Prop)=>onP f λf=>D1 a.2 g/\G3 b (f.add (a.2.toNat*2)) λj n=>N13 b (.mk #[]) (.mk #[]) λd e=>U9 e d 0 j n λk=>B0 (a.1=0) (L7 k d 1 λa=>C3 179 [.string a] k λc b=>J c b) (J a.1 k)) (R (E (I a.1)) b)) (c,0) b)))) λ(J:Bool->Wq->Prop)=>L4 e d 1 λc=>B0 (c=2) (L7 e d 2 λa=>B0 (a=.mk #[]) (L11 e d 4 λf g h=>J (decide ((↑g:Int)=0)) e) (J false e)) (J false e)):Calls P 121 #[A16 i0 i1 s0 s1 p0 n0 n1] w R:=cok ⟨[],[(7,[(3,iI),(38,iI)])],[(2,[(6,.inr 0)]),(11,[(3,iI)])],[]⟩ Tryz.func121 h
def Je5(h:∀a b,New w (.cells (List.toArray (KEg P 162 [(2,I 4096)])) 162) a b->R (E (Q (some (.mk a 0 none)))) b):Calls P 123 #[] w R:=cok {} Tryz.func123 h
def Jc1(h:∃b c g f,S2B P 9 159 w (.string s0) (S b c g) f/\xI (St:=Int×Int) (λs0 d h=>B0 (s0.2<c) (onP b λb=>((0:Int)<=s0.2/\s0.2<c)/\G25 d (b.add (s0.2.toNat*1)) λe=>(0:Int)<=(8:Int)/\gB (s0.1*(2:Int)^min (Int.toNat (8:Int)) (IntKind.bits .i64))/\gB (s0.2+(1:Int))/\h (Vc.bits .or .i64 (s0.1*(2:Int)^min (Int.toNat (8:Int)) (IntKind.bits .i64)) (IntKind.wrap .i64 e),s0.2+(1:Int)) d) (R (E (I s0.1)) d)) ((0:Int),(0:Int)) f):Calls P 124 #[.string s0] w R:=cok ⟨[],[(3,[(3,iI),(9,iI)])],[],[]⟩ Tryz.func124 h
def Jc2(h:B0 ((↑(s0.size):Int)<(4:Int)) (R lN w) (((0:Int)<=(1:Int)/\(1:Int)<=(3:Int)/\(3:Int)<=(↑(s0.size):Int))/\C3 124 [.string (ByteArray.extract s0 (Int.toNat (1:Int)) (Int.toNat (3:Int)))] w λc b=>B0 (c<(1:Int)) (R lN b) (B0 ((4000:Int)<c) (R lN b) (xI (St:=PUnit) (λr b q=>onP p0 λa=>∃n d f,Ld P 106 b (a.add 2) (S n d f)/\B0 ((↑d:Int)<c) (onP p0 λa=>∃h d f,Ld P 106 b (a.add 2) (S h d f)/\N12 b (.mk #[]) λj e=>∃a l k m,App P #[106,106] 106 e (S h d f) (S (some (.mk j 0 none)) 1 1) (S a l k) m/\onP p0 λo=>∃e,St P 106 m (o.add 2) (S a l k) e/\q () e) (onP p0 λa=>∃h d f,Ld P 106 b.drew (a.add 2) (S h d f)/\gB (c-(1:Int))/\((0:Int)<=(3:Int)/\(3:Int)<=(↑(s0.size):Int))/\onP h λa=>((0:Int)<=c-(1:Int)/\c-(1:Int)<d)/\Z1 b.drew (a.add (Int.toNat (c-(1:Int))*1)) (ByteArray.extract s0 (Int.toNat (3:Int)) (s0.size)) λe=>R lX e)) () b)))):Calls P 125 #[Q p0,.string s0] w R:=cok ⟨[],[(6,[])],[],[]⟩ Tryz.func125 h
def Jaj(h:B0 ((↑(s0.size):Int)<6) (R (E (A17 0 0 0 false)) w) (B0 (906<(↑(s0.size):Int)) (R (E (A17 0 0 0 false)) w) (∃h j i k,S2B P 9 159 w (.string s0) (S h j i) k/\∀c l,New k (.cells #[S h j i,.bool false] 266) c l->C3 183 [Q (some (.mk c 0 none)),I 4] l λd a=>C3 183 [Q (some (.mk c 0 none)),I 1] a λe a=>C3 183 [Q (some (.mk c 0 none)),I 1] a λf a=>B0 (d<1) (R (E (A17 0 0 0 false)) a) (B0 (2147483647<d) (R (E (A17 0 0 0 false)) a) (B0 (f<=e) (R (E (A17 0 0 0 false)) a) (R (E (A17 d e f true)) a)))))):Calls P 126 #[.string s0] w R:=cok {} Tryz.func126 h
def Jfo(h:B1 (s0=.mk #[]) (B0 ((↑(s0.size):Int)<=60) (∀b d,New w (.cells #[Value.func (.func 185) #[] #[]] 269) b d->C3 184 [.string s0,S (some (.mk b 0 none)) 1 1] d λc f=>R (E (.bool (decide (0<c)))) f) (R (E (.bool false)) w)) (R (E (.bool false)) w)):Calls P 127 #[.string s0] w R:=cok {} Tryz.func127 h
def Jag(h:N16 w 0 0 0 0 0 0 (.mk #[]) none 0 0 λi c=>C19 192 [S p0 n0 n1] c λe h f C a=>br (!C) (U11 a i 0 0 0 0 0 0 0 (.mk #[]) none 0 0 λc=>L14 c i 0 λb q r s t v d e h f=>R (E (A18 b q r s t v d e h f 160)) c) (∀j c,New a (.cells #[S e h f,.bool false] 266) j c->C3 183 [Q (some (.mk j 0 none)),I 4] c λb a=>C3 183 [Q (some (.mk j 0 none)),I 4] a λq a=>N16 a 0 0 0 0 0 0 (.mk #[]) none 0 0 λk c=>U11 c k 0 b q 0 0 0 0 (.mk #[]) none 0 0 λX=>C3 183 [Q (some (.mk j 0 none)),I 8] X λb a=>C3 183 [Q (some (.mk j 0 none)),I 8] a λr a=>U3 a k 4 b r λc=>C3 183 [Q (some (.mk j 0 none)),I 1] c λb a=>C3 183 [Q (some (.mk j 0 none)),I 2] a λs a=>U6 a k 2 b λc=>U6 c k 3 s λY=>C3 183 [Q (some (.mk j 0 none)),I 2] Y λb a=>C18 193 [Q (some (.mk j 0 none)),I b] a λd a=>U14 a k 6 d λc=>C3 183 [Q (some (.mk j 0 none)),I 1] c λb a=>xI (St:=Int) (λd a A=>B0 (d<b) (C3 183 [Q (some (.mk j 0 none)),I 2] a λb a=>N18 a 0 (.mk #[]) λi c=>U15 c i 0 b (.mk #[]) λZ=>C3 183 [Q (some (.mk j 0 none)),I 2] Z λb a=>C18 193 [Q (some (.mk j 0 none)),I b] a λx a=>U14 a i 1 x λc=>L16 c k 7 λe h f=>∃b y,Ld P 260 c (.mk i 0 none) (.agg #[I b,.string y])/\N18 c b y λi aa=>∃B W V c,App P #[202,202] 202 aa (S e h f) (S (some (.mk i 0 none)) 1 1) (S B W V) c/\∃ab,St P 202 c (.mk k 7 none) (S B W V) ab/\gB (d+1)/\A (d+1) ab) (L14 a k 0 λb t v L M N d e h f=>xk P 115 [A15 b t v L M N d e h f] a λg a=>∃e h f b,g=E (A13 e h f b)/\xM (λd a=>br d (U11 a i 0 0 0 0 0 0 0 (.mk #[]) none 0 0 λc=>L14 c i 0 λb p l m n o d e h f=>R (E (A18 b p l m n o d e h f 160)) c) (xI (St:=Int) (λd a A=>B0 (d<(↑n0:Int)) (onP e λe=>D1 d h/\G2 a.drew (e.add (d.toNat*1)) λx=>onP p0 λe=>D1 d n0/\G2 a.drew (e.add (d.toNat*1)) λy=>B1 (x=y) (U11 a.drew i 0 0 0 0 0 0 0 (.mk #[]) none 0 0 λc=>L14 c i 0 λb p l m n o d e h f=>R (E (A18 b p l m n o d e h f 160)) c) (gB (d+1)/\A (d+1) a.drew)) (L14 a k 0 λb p l m n o d e h f=>U11 a i 0 b p l m n o d e h f λc=>L14 c i 0 λb D F G H K d e h f=>R (E (A18 b D F G H K d e h f 0)) c)) 0 a)) λ(J:Bool->Wq->Prop)=>L5 a j 1 λi=>br i (J true a) (∃e O f,Ld P 159 a (.mk j 0 none) (S e O f)/\B0 (0<(↑O:Int)) (J true a) (B1 (b=0) (J true a) (J (!decide ((↑h:Int)=(↑n0:Int))) a))))) 0 a)):Calls P 131 #[S p0 n0 n1] w R:=cok ⟨[],[(11,[(53,iI)]),(20,[(101,iI)])],[(18,[(97,.inr 0)])],[]⟩ Tryz.func131 h
def Jcp(h:N16 w i0 i1 i2 i3 i4 i5 s0 p0 n0 n1 λb f=>N16 f i6 i7 i8 i9 i10 i11 s1 p1 n2 n3 λc a=>L4 a b 4 λd=>L4 a c 4 λe=>B0 (d<e) (R (E (I (-1:Int))) a) (R (E (I 1)) a)):Calls P 133 #[A15 i0 i1 i2 i3 i4 i5 s0 p0 n0 n1,A15 i6 i7 i8 i9 i10 i11 s1 p1 n2 n3] w R:=cok {} Tryz.func133 h
def Je0(h:xI (St:=(OA×Nat×Nat)×(OA×Nat×Nat)×Int) (λa b v=>B0 (a.2.2<(↑n0:Int)) (onP p0 λh=>D1 a.2.2 n0/\G19 b (h.add (a.2.2.toNat*2)) λc y=>N3 b 0 0 λd e=>U3 e d 0 c y λB=>xM (St:=OA×Nat×Nat) (λf b=>xM (λC b=>br C (R (E (A21 none 0 0 false)) b) (xM (λD b=>br D (R (E (A21 none 0 0 false)) b) (B0 (0<(↑f.2.1:Int)) (L3 b.drew d 0 λc g=>gB ((↑f.2.1:Int)-1)/\onP f.1 λh=>(0<=(↑f.2.1:Int)-1/\(↑f.2.1:Int)-1<(↑f.2.1:Int))/\G19 b.drew (h.add (Int.toNat ((↑f.2.1:Int)-1)*2)) λj o=>C2 197 [A4 c g,A4 j o] b.drew λi b=>br (!i) (R (E (A21 none 0 0 false)) b) (N9 b (↑f.2.1:Int) λm e=>∃h r p k,App P #[59,59] 59 e (S a.1.1 a.1.2.1 a.1.2.2) (S (some (.mk m 0 none)) 1 1) (S h r p) k/\L3 k d 0 λc z=>N3 k c z λd e=>∃l s q t,App P #[187,187] 187 e (S f.1 f.2.1 f.2.2) (S (some (.mk d 0 none)) 1 1) (S l s q) t/\gB (a.2.2+1)/\v ((h,r,p),(l,s,q),a.2.2+1) t)) (N9 b.drew (↑f.2.1:Int) λi e=>∃h r p k,App P #[59,59] 59 e (S a.1.1 a.1.2.1 a.1.2.2) (S (some (.mk i 0 none)) 1 1) (S h r p) k/\L3 k d 0 λc g=>N3 k c g λd e=>∃l s q t,App P #[187,187] 187 e (S f.1 f.2.1 f.2.2) (S (some (.mk d 0 none)) 1 1) (S l s q) t/\gB (a.2.2+1)/\v ((h,r,p),(l,s,q),a.2.2+1) t))) λ(J:Bool->Wq->Prop)=>B0 (0<a.2.2) (L4 b.drew d 0 λc=>gB (a.2.2-1)/\onP p0 λh=>(0<=a.2.2-1/\a.2.2-1<(↑n0:Int))/\G1 b.drew (h.add (Int.toNat (a.2.2-1)*2)) λg=>J (decide (c<=g)) b.drew) (J false b.drew))) λ(J:Bool->Wq->Prop)=>L4 b d 0 λc=>L4 b d 1 λg=>∀i e,New b (.cells #[I c,I g] 3) i e->C2 196 [S (some (.mk i 0 none)) 2 2] e λm b=>br (!m) (J true b) (L4 b d 0 λc=>L4 b d 1 λj=>J (decide (j<=c)) b)) λJ=>xI (St:=OA×Nat×Nat) (λa b v=>B0 (0<(↑a.2.1:Int)) (gB ((↑a.2.1:Int)-1)/\onP a.1 λh=>(0<=(↑a.2.1:Int)-1/\(↑a.2.1:Int)-1<(↑a.2.1:Int))/\G19 b.drew (h.add (Int.toNat ((↑a.2.1:Int)-1)*2)) λc g=>L3 b.drew d 0 λj o=>C2 195 [A4 c g,A4 j o] b.drew λd b=>br d (gB ((↑a.2.1:Int)-1)/\gB ((↑a.2.1:Int)-1)/\(0<=(↑a.2.1:Int)-1/\(↑a.2.1:Int)-1<=(↑a.2.1:Int)-1/\(↑a.2.1:Int)-1<=(↑a.2.2:Int))/\v (a.1,Int.toNat ((↑a.2.1:Int)-1),Int.toNat ((↑a.2.1:Int)-1)) b) (J (a.1,a.2.1,a.2.2) b)) (J (a.1,a.2.1,a.2.2) b.drew)) (a.2.1.1,a.2.1.2.1,a.2.1.2.2) B) (R (E (A21 a.1.1 a.1.2.1 a.1.2.2 true)) b)) ((none,0,0),(none,0,0),0) w):Calls P 134 #[S p0 n0 n1] w R:=cok ⟨[],[(4,[(4,.inr 3),(5,.inr 3),(10,iI)]),(6,[(5,.inr 3)])],[(8,[(5,.inr 3)]),(9,[(36,.inr 0)]),(11,[(51,.inr 0)])],[]⟩ Tryz.func134 h
def Jcg(h:N16 w i0 i1 i2 i3 i4 i5 s0 p1 n0 n1 λe b=>N11 b 0 0 (.mk #[]) (.mk #[]) none 0 0 λs r=>L4 r e 2 λc=>L7 r e 6 λf=>N11 r 0 0 (.mk #[]) (.mk #[]) none 0 0 λj b=>U8 b j 0 i6 c (.mk #[]) f none 0 0 λk=>xM (λf d=>L16 d e 7 λa g h=>xI (St:=Bool×Int) (λf d F=>B0 (f.2<g) (onP a λa=>D1 f.2 g/\∃c m,Ld P 260 d (a.add (f.2.toNat*2)) (.agg #[I c,.string m])/\N18 d 0 (.mk #[]) λe b=>U15 b e 0 c m λp=>onP p0 λa=>G20 p.drew a λi=>onP i λa=>G10 p.drew (a.add 2) λi=>L4 p.drew e 0 λc=>C15 198 [Q i,I c] p.drew λn v d=>xM (λq d=>L11 d j 4 λa g h=>L7 d e 1 λo=>N13 d n o λe b=>∃t A z B,App P #[69,69] 69 b (S a g h) (S (some (.mk e 0 none)) 1 1) (S t A z) B/\U7 B j 4 t A z λb=>gB (f.2+1)/\F (q,f.2+1) b) λ(J:Bool->Wq->Prop)=>br f.1 (J v d) (J false d)) (L11 d j 4 λa g h=>C1 199 [S a g h,Value.func (.func 200) #[] #[]] d λd=>L13 d j 0 λc x m n a g h=>U8 d s 0 c x m n a g h λb=>L13 b s 0 λc y q o a g h=>R (E (.tuple #[(A16 c y q o a g h),.bool f.1])) b)) (f,0) d) λ(J:Bool->Wq->Prop)=>L4 k e 2 λc=>B0 (c=1) (onP p0 λa=>G20 k.drew a λi=>onP i λa=>G10 k.drew (a.add 2) λi=>L4 k.drew e 3 λc=>C15 198 [Q i,I c] k.drew λf e d=>U14 d j 2 f λb=>J e b) (J true k)):Calls P 135 #[Q p0,A15 i0 i1 i2 i3 i4 i5 s0 p1 n0 n1,I i6] w R:=cok ⟨[],[(6,[(9,.inr 0),(40,iI)])],[(5,[(9,.inr 0)]),(10,[(9,.inr 0)])],[]⟩ Tryz.func135 h
def Jbe(h:B1 ((↑n2:Int)=n0) (R (E (A8 none 1)) w) (B0 (i0<1) (R (E (A8 none 1)) w) (B0 (2147483647<i0) (R (E (A8 none 1)) w) (C4 37 [] w λf a=>onP f λl=>Z2 a (l.add 2) i0 λg=>∀h q,New g (.map #[] 0) h q->xI (St:=Int) (λd a s=>B0 (d<n2) (onP p1 λl=>D1 d n2/\G1 a (l.add (d.toNat*1)) λb=>B0 (b<1) (R (E (A8 none 1)) a) (B0 (i0<=b) (R (E (A8 none 1)) a) (∃c,Lk P 281 false a (.map (some h)) (I b) (I c)/\B0 (0<c) (R (E (A8 none 1)) a) (∃m,Lk P 281 false a (.map (some h)) (I b) (I m)/\gB (m+1)/\∃g,MUp P 281 a (.map (some h)) (I b) (I (m+1)) g/\gB (d+1)/\s (d+1) g)))) (B0 ((↑n0:Int)=0) (R (E (A8 f 0)) a) (C10 62 [S p0 n0 n1] a λb c a=>B1 (c=0) (R (E (A8 none c)) a) (C3 63 [Q f,I 0,I 0,S p0 n0 n1,S p1 n2 n3] a λb a=>R (E (A8 f 0)) a)))) 0 q)))):Calls P 136 #[S p0 n0 n1,S p1 n2 n3,I i0] w R:=cok ⟨[],[(7,[(35,iI)])],[],[]⟩ Tryz.func136 h
def Jat(h:∀h b,New w (.cells #[Value.func (.yield n0) #[] #[]] 104) h b->∃f,(onP p0 λc=>Ld P 49 b.drew c (Q f))/\onP f λc=>G12 b.drew c λx=>∃e,(onP p1 λc=>Ld P 3 b.drew c (I e))/\∃f n,Lk P 117 true b.drew (.map x) (I e) (A10 f n)/\br (!n) (∃y,KAD [] b.drew y/\R (E (.tuple #[])) y) (∃g,Ld P 104 b.drew (.mk h 0 none) g/\∃e,(onP p1 λc=>Ld P 3 b.drew c (I e))/\∃v,(onP p2 λc=>Ld P 3 b.drew c (I v))/\zC P g [I e,I v] b.drew λi a=>∃o,i=E (.bool o)/\br (!o) (∃b,KAD [] a b/\R (E (.tuple #[])) b) (onP f λc=>G13 a (c.add 7) λm n0 B=>xI (St:=Int×Nq) (λd a G=>B0 (d.1<n0) (onP m λc=>D1 d.1 n0/\G1 a (c.add (d.1.toNat*1)) λe=>∃f,(onP p0 λc=>Ld P 49 a c (Q f))/\∃l,(onP p2 λc=>Ld P 3 a c (I l))/\gB (l+1)/\xk P 69 [Q f,I e,I (l+1)] a λi a=>∃g,i=E g/\∃(k:FuncId),∃(q:Array Value),∃(p:Array Value),g=Value.func (.func k) q p/\zo P k/\KAA P k (Array.toList q) (Array.toList p) (λ(d:Int×Int)=>[I d.1,I d.2]) (λ(d:Int×Int)(a:Wq)(A:Wq->(Wq->Prop)->Prop)(C F:WP)(K:Nat->Wq->Prop)=>A a λz=>∃g,Ld P 104 z (.mk h 0 none) g/\zC P g [I d.1,I d.2] z λi a=>∃h,i=E (.bool h)/\br (!h) (F a) (C a)) a (λD a=>gB (d.1+1)/\G (d.1+1,D::d.2) a) (λD a=>∃b,KAD (D::d.2) a b/\R (E (.tuple #[])) b) λ(H D:Nat)(a:Wq)=>False) (∃b,KAD d.2 a b/\R (E (.tuple #[])) b)) (0,[]) a))):Calls P 137 #[.func (.yield n0) #[] #[],Q p0,Q p1,Q p2] w R:=cok ⟨[],[(4,[(34,iI)])],[],[(9,[(43,iI),(44,iI)])]⟩ Tryz.func137 h
def Jef(h:onP p0 λd=>D1 i0 n0/\G16 w (d.add (i0.toNat*5)) λa r h s q g f=>N11 w 0 0 (.mk #[]) (.mk #[]) none 0 0 λe t=>U8 t e 0 a r h s q g f λb=>B0 (i0=0) (L4 b e 0 λa=>B1 (a=0) (R (E (I 69)) b) (L4 b e 1 λa=>B1 (a=1) (R (E (I 69)) b) (B0 (0<i0) (L4 b.drew e 0 λa=>B0 (a<1) (R (E (I 69)) b.drew) (L4 b.drew e 0 λa=>gB (a-1)/\gB (i0-1)/\onP p0 λd=>(0<=i0-1/\i0-1<n0)/\G1 b.drew (d.add (Int.toNat (i0-1)*5)) λk=>B0 (k<a-1) (R (E (I 69)) b.drew) (L4 b.drew e 0 λa=>gB (a-1)/\gB (i0-1)/\onP p0 λd=>(0<=i0-1/\i0-1<n0)/\G1 b.drew (d.add (Int.toNat (i0-1)*5)) λp=>B0 (a-1=p) (gB (i0-1)/\onP p0 λd=>(0<=i0-1/\i0-1<n0)/\G1 b.drew (Addr.add (d.add (Int.toNat (i0-1)*5)) 1) λa=>B0 (a=2) (R (E (I 69)) b.drew) (L4 b.drew e 0 λa=>B0 (40<=a) (R (E (I 42)) b.drew) (B0 (1000<=i0) (R (E (I 43)) b.drew) (L13 b.drew e 0 λa l h i d g f=>C3 202 [A16 a l h i d g f] b.drew λa m=>R (E (I a)) m)))) (L4 b.drew e 0 λa=>B0 (40<=a) (R (E (I 42)) b.drew) (B0 (1000<=i0) (R (E (I 43)) b.drew) (L13 b.drew e 0 λa l h i d g f=>C3 202 [A16 a l h i d g f] b.drew λa m=>R (E (I a)) m)))))) (L4 b.drew e 0 λa=>B0 (40<=a) (R (E (I 42)) b.drew) (B0 (1000<=i0) (R (E (I 43)) b.drew) (L13 b.drew e 0 λa k h i d g f=>C3 202 [A16 a k h i d g f] b.drew λa m=>R (E (I a)) m)))))) (B0 (0<i0) (L4 b.drew e 0 λa=>B0 (a<1) (R (E (I 69)) b.drew) (L4 b.drew e 0 λa=>gB (a-1)/\gB (i0-1)/\onP p0 λd=>(0<=i0-1/\i0-1<n0)/\G1 b.drew (d.add (Int.toNat (i0-1)*5)) λk=>B0 (k<a-1) (R (E (I 69)) b.drew) (L4 b.drew e 0 λa=>gB (a-1)/\gB (i0-1)/\onP p0 λd=>(0<=i0-1/\i0-1<n0)/\G1 b.drew (d.add (Int.toNat (i0-1)*5)) λp=>B0 (a-1=p) (gB (i0-1)/\onP p0 λd=>(0<=i0-1/\i0-1<n0)/\G1 b.drew (Addr.add (d.add (Int.toNat (i0-1)*5)) 1) λa=>B0 (a=2) (R (E (I 69)) b.drew) (L4 b.drew e 0 λa=>B0 (40<=a) (R (E (I 42)) b.drew) (B0 (1000<=i0) (R (E (I 43)) b.drew) (L13 b.drew e 0 λa l h i d g f=>C3 202 [A16 a l h i d g f] b.drew λa m=>R (E (I a)) m)))) (L4 b.drew e 0 λa=>B0 (40<=a) (R (E (I 42)) b.drew) (B0 (1000<=i0) (R (E (I 43)) b.drew) (L13 b.drew e 0 λa l h i d g f=>C3 202 [A16 a l h i d g f] b.drew λa m=>R (E (I a)) m)))))) (L4 b.drew e 0 λa=>B0 (40<=a) (R (E (I 42)) b.drew) (B0 (1000<=i0) (R (E (I 43)) b.drew) (L13 b.drew e 0 λa k h i d g f=>C3 202 [A16 a k h i d g f] b.drew λa m=>R (E (I a)) m))))):Calls P 138 #[S p0 n0 n1,I i0] w R:=cok {} Tryz.func138 h
def Jds(h:N1 w p0 n0 n1 i0 λg e=>N1 e none 0 0 0 λh p=>C10 71 [S p1 n2 n3] p λa m f=>B1 (m=0) (L1 f g 0 λb d c a=>U1 f h 0 b d c a λe=>L1 e h 0 λb d c a=>R (E (A11 b d c a 0 m)) e) (L4 f g 1 λa=>gB (a+n2)/\B0 (2147483647<a+n2) (L1 f g 0 λb d c a=>U1 f h 0 b d c a λe=>L1 e h 0 λb d c a=>R (E (A11 b d c a 0 66)) e) (L1 f.drew g 0 λb d c a=>L4 f.drew g 1 λj=>gB (j+n2)/\L4 f.drew g 1 λk=>C7 203 [A2 b d c a,S p1 n2 n3,I 0] f.drew λb d c f=>Ld P 3 f (.mk g 1 none) (I k)/\Ld P 3 f (.mk g 1 none) (I j)/\U1 f h 0 b d c (j+n2) λe=>Ld P 3 e (.mk g 1 none) (I k)/\L1 e h 0 λb d c a=>R (E (A11 b d c a k 0)) e))):Calls P 139 #[A2 p0 n0 n1 i0,S p1 n2 n3] w R:=cok {} Tryz.func139 h
def Jdn(h:N1 w p0 n0 n1 i0 λg f=>N1 f none 0 0 0 λn L=>L1 L g 0 λa b c d=>C3 82 [A2 a b c d,I i1] L λd e=>B0 (d<0) (L1 e g 0 λa b c d=>U1 e n 0 a b c d λf=>L1 f n 0 λa b c d=>R (E (A11 a b c d 0 60)) f) (L8 e g 0 λa b c=>onP a λa=>D1 d b/\G1 e (Addr.add (Addr.add (a.add (d.toNat*6)) 1) 1) λM=>B1 (M=1) (L1 e g 0 λa b c d=>U1 e n 0 a b c d λf=>L1 f n 0 λa b c d=>R (E (A11 a b c d 0 68)) f) (xM (λF e=>br F (L1 e g 0 λa b c d=>U1 e n 0 a b c d λf=>L1 f n 0 λa b c d=>R (E (A11 a b c d 0 69)) f) (C3 205 [S p1 n2 n3] e λB e=>B1 (B=0) (L1 e g 0 λa b c d=>U1 e n 0 a b c d λf=>L1 f n 0 λa b c d=>R (E (A11 a b c d 0 B)) f) (L8 e g 0 λa b c=>onP a λa=>D1 d b/\G1 e (Addr.add (a.add (d.toNat*6)) 1) λy=>gB (y+1)/\C3 206 [S p1 n2 n3] e λK e=>gB (y+1+K)/\B0 (40<=y+1+K) (L1 e g 0 λa b c d=>U1 e n 0 a b c d λf=>L1 f n 0 λa b c d=>R (E (A11 a b c d 0 65)) f) (xM (λF e=>br F (L1 e g 0 λa b c d=>U1 e n 0 a b c d λf=>L1 f n 0 λa b c d=>R (E (A11 a b c d 0 66)) f) (xM (λF e=>L4 e g 1 λd=>gB (d+(↑n2:Int))/\onP F λa=>Z2 e (a.add 1) (d+(↑n2:Int)) λf=>∃a b c d,(onP F λo=>Ld P 29 f.drew o (A2 a b c d))/\L4 f.drew g 1 λi=>U1 f.drew n 0 a b c d λz=>Ld P 3 z (.mk g 1 none) (I i)/\L1 z n 0 λa b c d=>R (E (A11 a b c d i 0)) z) λ(J:OA->Wq->Prop)=>(L1 e.drew g 0 λa b c i=>L1 e.drew g 0 λo r p q=>L1 e.drew g 0 λj m k l=>C3 208 [A2 o r p q,I d,I i2] e.drew λd e=>Ld P 29 e (.mk g 0 none) (A2 j m k l)/\Ld P 29 e (.mk g 0 none) (A2 a b c i)/\C7 203 [A2 j m k l,S p1 n2 n3,I (y+1)] e λG x v e=>Ld P 29 e (.mk g 0 none) (A2 a b c i)/\C5 207 [A2 a b c i,I d,S G x v] e λa b c d e=>N1 e none 0 0 0 λg f=>U1 f g 0 a b c d λz=>J (some (.mk g 0 none)) z)/\(L1 e.drew g 0 λa b c i=>L1 e.drew g 0 λo r p q=>L1 e.drew g 0 λj m k l=>C3 208 [A2 o r p q,I d,I i2] e.drew λd e=>Ld P 29 e (.mk g 0 none) (A2 j m k l)/\Ld P 29 e (.mk g 0 none) (A2 a b c i)/\C7 203 [A2 j m k l,S p1 n2 n3,I (y+1)] e λG x v e=>Ld P 29 e (.mk g 0 none) (A2 a b c i)/\N1 e none 0 0 0 λt f=>Ld P 29 f (.mk g 0 none) (A2 a b c i)/\C5 207 [A2 a b c i,I d,S G x v] f λa b c d e=>U1 e t 0 a b c d λf=>J (some (.mk t 0 none)) f)/\(L1 e.drew g 0 λa b c i=>L1 e.drew g 0 λo r p q=>L1 e.drew g 0 λj m k l=>C3 208 [A2 o r p q,I d,I i2] e.drew λd e=>Ld P 29 e (.mk g 0 none) (A2 j m k l)/\Ld P 29 e (.mk g 0 none) (A2 a b c i)/\N1 e none 0 0 0 λt f=>Ld P 29 f (.mk g 0 none) (A2 j m k l)/\Ld P 29 f (.mk g 0 none) (A2 a b c i)/\C7 203 [A2 j m k l,S p1 n2 n3,I (y+1)] f λH x v e=>Ld P 29 e (.mk g 0 none) (A2 a b c i)/\C5 207 [A2 a b c i,I d,S H x v] e λa b c d e=>U1 e t 0 a b c d λf=>J (some (.mk t 0 none)) f)/\L1 e.drew g 0 λa b c i=>L1 e.drew g 0 λo r p q=>L1 e.drew g 0 λj m k l=>N1 e.drew none 0 0 0 λt f=>Ld P 29 f (.mk g 0 none) (A2 j m k l)/\Ld P 29 f (.mk g 0 none) (A2 o r p q)/\Ld P 29 f (.mk g 0 none) (A2 a b c i)/\C3 208 [A2 o r p q,I d,I i2] f λd e=>Ld P 29 e (.mk g 0 none) (A2 j m k l)/\Ld P 29 e (.mk g 0 none) (A2 a b c i)/\C7 203 [A2 j m k l,S p1 n2 n3,I (y+1)] e λH x v e=>Ld P 29 e (.mk g 0 none) (A2 a b c i)/\C5 207 [A2 a b c i,I d,S H x v] e λa b c d e=>U1 e t 0 a b c d λf=>J (some (.mk t 0 none)) f)) λ(J:Bool->Wq->Prop)=>L8 e g 0 λa b c=>gB ((↑b:Int)+(↑n2:Int))/\B0 (1000<(↑b:Int)+(↑n2:Int)) (J true e) (L4 e g 1 λd=>gB (d+(↑n2:Int))/\J (decide (2147483647<d+(↑n2:Int))) e))))) λ(J:Bool->Wq->Prop)=>B0 (i2<0) (J true e) (L1 e g 0 λa b c B=>C7 204 [A2 a b c B,I d] e λa b c e=>J (decide ((↑b:Int)<i2)) e)))):Calls P 140 #[A2 p0 n0 n1 i0,I i1,I i2,S p1 n2 n3] w R:=cok ⟨[],[],[(7,[(39,.inr 0)]),(15,[(75,.inr 0)]),(17,[(14,.inr 2)])],[]⟩ Tryz.func140 h
def Jdi(h:N1 w p0 n0 n1 i0 λh e=>N1 e none 0 0 0 λg j=>L1 j h 0 λb d c a=>C3 82 [A2 b d c a,I i1] j λa f=>B0 (a<0) (L1 f h 0 λb d c a=>U1 f g 0 b d c a λe=>L1 e g 0 λb d c a=>R (E (A22 b d c a 60)) e) (B0 (a=0) (L1 f h 0 λb d c a=>U1 f g 0 b d c a λe=>L1 e g 0 λb d c a=>R (E (A22 b d c a 62)) e) (L1 f h 0 λb d c k=>C5 209 [A2 b d c k,I a] f λb d c a f=>U1 f g 0 b d c a λe=>L1 e g 0 λb d c a=>R (E (A22 b d c a 0)) e))):Calls P 141 #[A2 p0 n0 n1 i0,I i1] w R:=cok {} Tryz.func141 h
def Jdt(h:N1 w p0 n0 n1 i0 λg f=>N1 f none 0 0 0 λi B=>L1 B g 0 λb c d a=>C3 82 [A2 b c d a,I i1] B λa e=>L1 e g 0 λb c d Z=>C3 82 [A2 b c d Z,I i2] e λk e=>xM (λj e=>br j (L1 e g 0 λb c d a=>U1 e i 0 b c d a λf=>L1 f i 0 λb c d a=>R (E (A22 b c d a 60)) f) (B0 (a=0) (L1 e g 0 λb c d a=>U1 e i 0 b c d a λf=>L1 f i 0 λb c d a=>R (E (A22 b c d a 62)) f) (L8 e g 0 λb c d=>onP b λb=>D1 k c/\G1 e (Addr.add (Addr.add (b.add (k.toNat*6)) 1) 1) λab=>B1 (ab=1) (L1 e g 0 λb c d a=>U1 e i 0 b c d a λf=>L1 f i 0 λb c d a=>R (E (A22 b c d a 68)) f) (xM (λj e=>br j (L1 e g 0 λb c d a=>U1 e i 0 b c d a λf=>L1 f i 0 λb c d a=>R (E (A22 b c d a 61)) f) (L8 e.drew g 0 λb c d=>L1 e.drew g 0 λD ad N n=>L8 e.drew g 0 λs y O=>onP s λG=>D1 a y/\G1 e.drew (Addr.add (G.add (a.toNat*6)) 1) λo=>L8 e.drew g 0 λt z T=>onP t λH=>D1 k z/\G1 e.drew (Addr.add (H.add (k.toNat*6)) 1) λp=>gB (o-p)/\gB (o-p-1)/\C3 84 [A2 D ad N n,I a] e.drew λq e=>Ld P 3 e (Addr.add (H.add (k.toNat*6)) 1) (I p)/\Ld P 27 e (.mk g 0 none) (S t z T)/\Ld P 3 e (Addr.add (G.add (a.toNat*6)) 1) (I o)/\Ld P 27 e (.mk g 0 none) (S s y O)/\Ld P 27 e (.mk g 0 none) (S b c d)/\(0<=a/\a<=q/\q<=d)/\C7 83 [S (slA b d (a.toNat) 6) (q.toNat-a.toNat) (d-a.toNat),I (o-p-1)] e λb c d e=>L1 e g 0 λK ae V ac=>C5 209 [A2 K ae V ac,I a] e λL af W a e=>N1 e none 0 0 0 λl f=>U1 f l 0 L af W a λC=>L1 C l 0 λM ag X a=>C3 82 [A2 M ag X a,I i2] C λa e=>xM (λj e=>br j (L1 e g 0 λb c d a=>U1 e i 0 b c d a λf=>L1 f i 0 λb c d a=>R (E (A22 b c d a 69)) f) (xI (St:=Int) (λj e ak=>B0 (j<c) (onP b λb=>D1 j c/\G1 e (Addr.add (b.add (j.toNat*6)) 1) λa=>B0 (40<=a) (L1 e g 0 λb c d a=>U1 e i 0 b c d a λf=>L1 f i 0 λb c d a=>R (E (A22 b c d a 65)) f) (gB (j+1)/\ak (j+1) e)) (L1 e.drew l 0 λr A x m=>L1 e.drew l 0 λF ah Y aa=>C3 208 [A2 F ah Y aa,I a,I i3] e.drew λa e=>Ld P 29 e (.mk l 0 none) (A2 r A x m)/\C5 207 [A2 r A x m,I a,S b c d] e λb c d a e=>U1 e i 0 b c d a λf=>L1 f i 0 λb c d a=>R (E (A22 b c d a 0)) f)) 0 e)) λ(J:Bool->Wq->Prop)=>B0 (i3<0) (J true e) (L1 e l 0 λb c d m=>C7 204 [A2 b c d m,I a] e λb c d e=>J (decide ((↑c:Int)<i3)) e))) λ(J:Bool->Wq->Prop)=>B0 (a<=k) (L1 e g 0 λb c d n=>C3 84 [A2 b c d n,I a] e λa e=>J (decide (k<a)) e) (J false e))))) λ(J:Bool->Wq->Prop)=>B0 (a<0) (J true e) (J (decide (k<0)) e)):Calls P 142 #[A2 p0 n0 n1 i0,I i1,I i2,I i3] w R:=cok ⟨[],[(17,[(14,iI)])],[(4,[(26,.inr 0)]),(10,[(49,.inr 0)]),(15,[(90,.inr 0)])],[]⟩ Tryz.func142 h
def Jd1(h:N1 w p0 n0 n1 i0 λi e=>N13 e s0 s1 λm G=>N1 G none 0 0 0 λh e=>L1 e i 0 λb a c d=>C3 82 [A2 b a c d,I i1] e λd f=>B0 (d<0) (L1 f i 0 λb a c d=>U1 f h 0 b a c d λe=>L1 e h 0 λb a c d=>R (E (A22 b a c d 60)) e) (L8 f i 0 λb a c=>onP b λb=>D1 d a/\G16 f (Addr.add (b.add (d.toNat*6)) 1) λt v g C p a c=>N11 f 0 0 (.mk #[]) (.mk #[]) none 0 0 λk e=>U8 e k 0 t v g C p a c λl=>L4 l k 1 λx=>B1 (x=1) (L1 l i 0 λb a c d=>U1 l h 0 b a c d λe=>L1 e h 0 λb a c d=>R (E (A22 b a c d 68)) e) (L7 l m 0 λg=>C2 210 [.string g] l λr f=>br (!r) (L1 f i 0 λb a c d=>U1 f h 0 b a c d λe=>L1 e h 0 λb a c d=>R (E (A22 b a c d 63)) e) (L7 f m 1 λg=>C3 211 [.string g] f λn f=>B1 (n=0) (L1 f i 0 λb a c d=>U1 f h 0 b a c d λe=>L1 e h 0 λb a c d=>R (E (A22 b a c d n)) e) (L11 f k 4 λb a c=>∃g D,Ld P 142 f (.mk m 0 none) (A19 g D)/\C7 212 [S b a c,A19 g D] f λb a c f=>U7 f k 4 b a c λe=>L11 e k 4 λb a c=>B0 (20<(↑a:Int)) (L1 e i 0 λb a c d=>U1 e h 0 b a c d λo=>L1 o h 0 λb a c d=>R (E (A22 b a c d 67)) o) (L1 e i 0 λb a c y=>L13 e k 0 λz A g F q B s=>C5 213 [A2 b a c y,I d,A16 z A g F q B s] e λb a c d f=>U1 f h 0 b a c d λe=>L1 e h 0 λb a c d=>R (E (A22 b a c d 0)) e)))))):Calls P 143 #[A2 p0 n0 n1 i0,I i1,A19 s0 s1] w R:=cok {} Tryz.func143 h
def Jdh(h:N1 w p0 n0 n1 i0 λh e=>N1 e none 0 0 0 λg m=>L1 m h 0 λb a c d=>C3 82 [A2 b a c d,I i1] m λd f=>B0 (d<0) (L1 f h 0 λb a c d=>U1 f g 0 b a c d λe=>L1 e g 0 λb a c d=>R (E (A22 b a c d 60)) e) (L8 f h 0 λb a c=>onP b λb=>D1 d a/\G16 f (Addr.add (b.add (d.toNat*6)) 1) λq r l A n a c=>N11 f 0 0 (.mk #[]) (.mk #[]) none 0 0 λi e=>U8 e i 0 q r l A n a c λj=>L4 j i 1 λs=>B1 (s=1) (L1 j h 0 λb a c d=>U1 j g 0 b a c d λe=>L1 e g 0 λb a c d=>R (E (A22 b a c d 68)) e) (L11 j i 4 λb a c=>C7 214 [S b a c,.string s0] j λb a c f=>L11 f i 4 λC y D=>B0 ((↑a:Int)=y) (L1 f h 0 λb a c d=>U1 f g 0 b a c d λe=>L1 e g 0 λb a c d=>R (E (A22 b a c d 63)) e) (U7 f i 4 b a c λe=>L1 e h 0 λb a c t=>L13 e i 0 λv x l B o z p=>C5 213 [A2 b a c t,I d,A16 v x l B o z p] e λb a c d f=>U1 f g 0 b a c d λe=>L1 e g 0 λb a c d=>R (E (A22 b a c d 0)) e)))):Calls P 144 #[A2 p0 n0 n1 i0,I i1,.string s0] w R:=cok {} Tryz.func144 h
end
section
variable{w:World}{R:Ending->World->Prop}{p0 p1 p2:Option Addr}{n0 n1 n2 n3:Nat}{i0 i1 i2 i3 i4 i5 i6 i7 i8 i9 i10 i11:Int}{s0 s1 s2 s3:ByteArray}{b0 b1:Bool}{m0:Option Nat}{v0:Value}
def Jd2(h:N1 w p0 n0 n1 i0 λh e=>N1 e none 0 0 0 λg n=>L1 n h 0 λb a c d=>C3 82 [A2 b a c d,I i1] n λd f=>B0 (d<0) (L1 f h 0 λb a c d=>U1 f g 0 b a c d λe=>L1 e g 0 λb a c d=>R (E (A22 b a c d 60)) e) (L8 f h 0 λb a c=>onP b λb=>D1 d a/\G16 f (Addr.add (b.add (d.toNat*6)) 1) λr s A B o a c=>N11 f 0 0 (.mk #[]) (.mk #[]) none 0 0 λi e=>U8 e i 0 r s A B o a c λl=>L4 l i 1 λt=>B1 (t=2) (L1 l h 0 λb a c d=>U1 l g 0 b a c d λe=>L1 e g 0 λb a c d=>R (E (A22 b a c d 68)) e) (C3 211 [.string s0] l λm f=>B1 (m=0) (L1 f h 0 λb a c d=>U1 f g 0 b a c d λe=>L1 e g 0 λb a c d=>R (E (A22 b a c d m)) e) (U14 f i 3 s0 λe=>L1 e h 0 λb a c v=>L13 e i 0 λx y s0 C p z q=>C5 213 [A2 b a c v,I d,A16 x y s0 C p z q] e λb a c d f=>U1 f g 0 b a c d λe=>L1 e g 0 λb a c d=>R (E (A22 b a c d 0)) e)))):Calls P 145 #[A2 p0 n0 n1 i0,I i1,.string s0] w R:=cok {} Tryz.func145 h
def Je7(h:onP p0 λb=>((0:Int)<=i0/\i0<(↑(4096:Nat):Int))/\G25 w.drew (b.add (i0.toNat*1)) λc=>(0:Int)<=(8:Int)/\gB (IntKind.wrap .i64 c*(2:Int)^min (Int.toNat (8:Int)) (IntKind.bits .i64))/\gB (i0+(1:Int))/\onP p0 λb=>((0:Int)<=i0+(1:Int)/\i0+(1:Int)<(↑(4096:Nat):Int))/\G25 w.drew (b.add (Int.toNat (i0+(1:Int))*1)) λd=>R (E (I (Vc.bits .or .i64 (IntKind.wrap .i64 c*(2:Int)^min (Int.toNat (8:Int)) (IntKind.bits .i64)) (IntKind.wrap .i64 d)))) w.drew):Calls P 146 #[Q p0,I i0] w R:=cok {} Tryz.func146 h
def Jay(h:onP p0 λa=>G12 w a λe=>∃b c,Lk P 117 true w (.map e) (I i0) (A10 b c)/\br (!c) (R (E (A8 none 60)) w) (onP b λa=>G1 w (a.add 2) λd=>B1 (d=1) (R (E (A8 none 68)) w) (R (E (A8 b 0)) w))):Calls P 147 #[Q p0,I i0] w R:=cok {} Tryz.func147 h
def Ja1(h:B0 ((↑n0:Int)=0) (R (E (A7 0 40)) w) (xI (St:=Int×Int) (λb c v=>B0 (b.2<n0) (onP p0 λd=>D1 b.2 n0/\G16 c (d.add (b.2.toNat*5)) λa t x y s i g=>N11 c 0 0 (.mk #[]) (.mk #[]) none 0 0 λe f=>U8 f e 0 a t x y s i g λo=>xM (St:=Int×Bool) (λr c=>L4 c e 0 λa=>B0 (a<0) (R (E (A7 0 69)) c) (L4 c e 0 λa=>B0 (r.1<a) (R (E (A7 0 69)) c) (br r.2 (L4 c e 0 λa=>B0 (a=r.1) (R (E (A7 0 69)) c) (U6 c e 0 1 λf=>L13 f e 0 λa h m n d i g=>∀e p,New f (.cells #[I 0,I 1,.string (ByteArray.mk #[(120:UInt8)]),.string (.mk #[]),S none 0 0,I a,I h,.string m,.string n,S d i g] 123) e p->C10 62 [S (some (.mk e 0 none)) 2 2] p λa j c=>B1 (j=0) (R (E (A7 0 j)) c) (onP p0 λd=>D1 b.2 n0/\G1 c (d.add (b.2.toNat*5)) λa=>gB (b.2+1)/\v (max b.1 a,b.2+1) c))) (U6 c e 0 1 λf=>L13 f e 0 λa h m n d i g=>∀e p,New f (.cells #[I 0,I 1,.string (ByteArray.mk #[(120:UInt8)]),.string (.mk #[]),S none 0 0,I a,I h,.string m,.string n,S d i g] 123) e p->C10 62 [S (some (.mk e 0 none)) 2 2] p λa j c=>B1 (j=0) (R (E (A7 0 j)) c) (onP p0 λd=>D1 b.2 n0/\G1 c (d.add (b.2.toNat*5)) λa=>gB (b.2+1)/\v (max b.1 a,b.2+1) c))))) λJ=>B0 (0<b.2) (gB (b.2-1)/\onP p0 λd=>(0<=b.2-1/\b.2-1<n0)/\G1 o.drew (d.add (Int.toNat (b.2-1)*5)) λa=>gB (a+1)/\gB (b.2-1)/\onP p0 λd=>(0<=b.2-1/\b.2-1<n0)/\G1 o.drew (Addr.add (d.add (Int.toNat (b.2-1)*5)) 1) λh=>J (a+1,decide (h=2)) o.drew) (J (0,false) o)) (R (E (A7 b.1 0)) c)) (0,0) w)):Calls P 148 #[S p0 n0 n1] w R:=cok ⟨[],[(5,[(4,iI),(16,iI)])],[(10,[(7,iI),(8,.inr 0)])],[]⟩ Tryz.func148 h
def Ja8(h:xI (St:=Int×Int) (λf a i=>onP p0 λb=>G12 a b λd=>∃e,Lk P 117 false a (.map d) (I f.1) (Q e)/\onP e λb=>G1 a (b.add 1) λc=>B1 (c=0) (onP p0 λb=>G12 a b λd=>∃e,Lk P 117 false a (.map d) (I f.1) (Q e)/\onP e λb=>G1 a (b.add 1) λc=>gB (f.2+1)/\i (c,f.2+1) a) (R (E (I f.2)) a)) (i0,0) w):Calls P 149 #[Q p0,I i0] w R:=cok ⟨[],[(2,[(1,iI),(5,iI)])],[],[]⟩ Tryz.func149 h
def Jav(h:onP p0 λa=>G12 w.drew a λk=>onP p0 λa=>G12 w.drew a λl=>∃e,Lk P 117 false w.drew (.map l) (I i0) (Q e)/\onP e λa=>G1 w.drew (a.add 1) λd=>∃e,Lk P 117 false w.drew (.map k) (I d) (Q e)/\onP e λa=>G13 w.drew (a.add 7) λh c b=>C3 215 [S h c b,I i0] w.drew λd f=>onP e λa=>G13 f (a.add 7) λi c b=>gB (d+1)/\C7 216 [S i c b,I d,I (d+1)] f λa c b f=>onP e λo=>Z3 f (o.add 7) a c b λn=>R (E (.tuple #[])) n):Calls P 150 #[Q p0,I i0] w R:=cok {} Tryz.func150 h
def Jbi(h:C3 217 [.string s0] w λb a=>B0 (b<0) (R (E (I 64)) a) (B0 (1500<(↑(s0.size):Int)) (R (E (I 67)) a) (R (E (I 0)) a))):Calls P 151 #[.string s0] w R:=cok {} Tryz.func151 h
def Jaz(h:onP p0 λf=>G14 w (f.add 6) λa e c=>C17 218 [S a e c,.string s0,Value.func (.func 219) #[] #[]] w λd b j=>R (E (A1 d b)) j):Calls P 152 #[Q p0,.string s0] w R:=cok {} Tryz.func152 h
def Jfa(h:N15 w (.mk #[]) 0 λd e=>B0 (i0<1) (U13 e d 0 (.mk #[]) 0 λc=>∃b a,Ld P 167 c (.mk d 0 none) (.agg #[.string b,I a])/\R (E (.agg #[.string b,I a])) c) (onP p0 λg=>G17 e g λl h i=>B0 ((↑h:Int)<i0) (U13 e d 0 (.mk #[]) 0 λc=>∃b a,Ld P 167 c (.mk d 0 none) (.agg #[.string b,I a])/\R (E (.agg #[.string b,I a])) c) (onP p0 λg=>G17 e g λj h i=>gB (i0-1)/\onP j λg=>(0<=i0-1/\i0-1<h)/\∃b a,Ld P 167 e (g.add (Int.toNat (i0-1)*2)) (.agg #[.string b,I a])/\U13 e d 0 b a λc=>∃b a,Ld P 167 c (.mk d 0 none) (.agg #[.string b,I a])/\R (E (.agg #[.string b,I a])) c))):Calls P 157 #[Q p0,I i0] w R:=cok {} Tryz.func157 h
def Jfe(h:xI (St:=Int) (λa b j=>onP p0 λc=>G17 b c λi d e=>B0 (a<=d) (onP p0 λc=>G17 b c λf d e=>gB (a-1)/\onP f λc=>(0<=a-1/\a-1<d)/\G1 b (Addr.add (c.add (Int.toNat (a-1)*2)) 1) λh=>B0 (h=0) (R (E (I a)) b) (gB (a+1)/\j (a+1) b)) (R (E (I a)) b)) 1 w):Calls P 158 #[Q p0] w R:=cok ⟨[],[(2,[(3,iI)])],[],[]⟩ Tryz.func158 h
def Jb5(h:N17 w i0 b0 λd a=>L4 a d 0 λb=>∃g h e,Lk P 80 true a (.map m0) (I b) (A9 g h e)/\N3 a 0 0 λc i=>U3 i c 0 g h λa=>br (!e) (R (E (I (-1:Int))) a) (L5 a d 1 λf=>br f (L4 a c 1 λb=>R (E (I b)) a) (L4 a c 0 λb=>R (E (I b)) a))):Calls P 161 #[.map m0,A20 i0 b0] w R:=cok {} Tryz.func161 h
def Jev(h:xM (λa b=>br a (R (E (A21 none 0 0 false)) b) (xI (St:=(OA×Nat×Nat)×Int) (λa b m=>B0 (a.2<=i2) (gB (i1-i0)/\gB (i2+1)/\C3 224 [I i0,I (i1-i0),I a.2,I (i2+1)] b λj b=>N9 b j λd g=>∃i i2 k l,App P #[59,59] 59 g (S a.1.1 a.1.2.1 a.1.2.2) (S (some (.mk d 0 none)) 1 1) (S i i2 k) l/\gB (a.2+1)/\m ((i,i2,k),a.2+1) l) (R (E (A21 a.1.1 a.1.2.1 a.1.2.2 true)) b)) ((none,0,0),1) b)) λ(J:Bool->Wq->Prop)=>∀d g,New w (.cells #[I i0,I i1] 3) d g->C2 196 [S (some (.mk d 0 none)) 2 2] g λd b=>br (!d) (J true b) (B0 (i2<0) (J true b) (B0 (4096<i2) (J true b) (gB (i1-i0)/\J (decide (i1-i0<=i2)) b)))):Calls P 162 #[I i0,I i1,I i2] w R:=cok ⟨[],[(5,[(8,.inr 3),(9,iI)])],[(2,[(29,.inr 0)])],[]⟩ Tryz.func162 h
def Jcj(h:N17 w i0 b0 λe a=>L4 a e 0 λc=>∃j k,Lk P 80 false a (.map m0) (I c) (A4 j k)/\N3 a 0 0 λd m=>U3 m d 0 j k λa=>L5 a e 1 λi=>br i (U6 a d 1 i1 λb=>L4 b e 0 λc=>L3 b d 0 λf g=>∃a,MUp P 80 b (.map m0) (I c) (A4 f g) a/\R (E (.tuple #[])) a) (U6 a d 0 i1 λb=>L4 b e 0 λc=>L3 b d 0 λf g=>∃a,MUp P 80 b (.map m0) (I c) (A4 f g) a/\R (E (.tuple #[])) a)):Calls P 163 #[.map m0,A20 i0 b0,I i1] w R:=cok {} Tryz.func163 h
def Jb8(h:xI (St:=PUnit) (λD e C=>∃a b c,(onP p0 λf=>Ld P 185 e f (S a b c))/\B0 (i0<(↑b:Int)) (∃a b c,(onP p1 λf=>Ld P 185 e.drew f (S a b c))/\∃f o y,(onP p0 λa=>Ld P 185 e.drew a (S f o y))/\∃t h z,(onP p0 λa=>Ld P 185 e.drew a (S t h z))/\gB ((↑h:Int)-1)/\onP f λv=>(0<=(↑h:Int)-1/\(↑h:Int)-1<(↑o:Int))/\G24 e.drew (v.add (Int.toNat ((↑h:Int)-1)*2)) λn l=>N17 e.drew n l λm d=>(onP p1 λi=>Ld P 185 d i (S a b c))/\∃i q p r,App P #[185,185] 185 d (S a b c) (S (some (.mk m 0 none)) 1 1) (S i q p) r/\onP p1 λa=>∃d,St P 185 r a (S i q p) d/\∃a b c,(onP p0 λj=>Ld P 185 d j (S a b c))/\∃j b A,(onP p0 λa=>Ld P 185 d a (S j b A))/\gB ((↑b:Int)-1)/\(0<=(↑b:Int)-1/\(↑b:Int)-1<=(↑c:Int))/\onP p0 λx=>∃s,St P 185 d x (S a (Int.toNat ((↑b:Int)-1)) c) s/\C () s) (R (E (.tuple #[])) e)) () w):Calls P 164 #[I i0,Q p0,Q p1] w R:=cok ⟨[],[(0,[])],[],[]⟩ Tryz.func164 h
def Jez(h:xI (St:=PUnit) (λA k z=>∃a b c,(onP p0 λg=>Ld P 59 k g (S a b c))/\B0 (i0<(↑b:Int)) (∃e,(onP p1 λa=>Ld P 3 k a (I e))/\gB (e+1099511627776)/\onP p1 λa=>Z2 k a (e+1099511627776) λd=>∃a b c,(onP p2 λg=>Ld P 187 d.drew g (S a b c))/\∃g o c,(onP p0 λa=>Ld P 59 d.drew a (S g o c))/\∃p h c,(onP p0 λa=>Ld P 59 d.drew a (S p h c))/\gB ((↑h:Int)-1)/\onP g λq=>(0<=(↑h:Int)-1/\(↑h:Int)-1<(↑o:Int))/\G1 d.drew (q.add (Int.toNat ((↑h:Int)-1)*1)) λe=>∃n,(onP p1 λa=>Ld P 3 d.drew a (I n))/\onP a λa=>D1 e b/\Z2 d.drew (Addr.add (a.add (e.toNat*2)) 1) n λj=>∃a b c,(onP p0 λl=>Ld P 59 j l (S a b c))/\∃l b t,(onP p0 λa=>Ld P 59 j a (S l b t))/\gB ((↑b:Int)-1)/\∃r i v,(onP p0 λa=>Ld P 59 j a (S r i v))/\gB ((↑i:Int)-1)/\(0<=(↑b:Int)-1/\(↑b:Int)-1<=(↑i:Int)-1/\(↑i:Int)-1<=(↑c:Int))/\onP p0 λs=>Z3 j s a (Int.toNat ((↑b:Int)-1)) (Int.toNat ((↑i:Int)-1)) λd=>z () d) (R (E (.tuple #[])) k)) () w):Calls P 165 #[I i0,Q p0,Q p1,Q p2] w R:=cok ⟨[],[(0,[])],[],[]⟩ Tryz.func165 h
def Jac(h:C10 86 [Q p0,I i0] w λc f a=>B0 (c=0) (R (E (I 110)) a) (C1 170 [Q p0,I i0] a λa=>R (E (I 0)) a)):Calls P 167 #[Q p0,I i0] w R:=cok {} Tryz.func167 h
def Jec(h:N8 w p0 λf a=>N9 a 0 λe l=>U6 l e 0 3600 λa=>L17 a f 0 λp0=>∃(g:FuncId),∃(k:Array Value),∃(j:Array Value),Value.func (.func 85) #[Q p0] #[]=Value.func (.func g) k j/\zo P g/\KAA P g (Array.toList k) (Array.toList j) (λi=>[I i]) (λ(i:Int)(b:Wq)(n:Wq->(Wq->Prop)->Prop)(p r:WP)(s:Nat->Wq->Prop)=>n b λm=>L17 m f 0 λp0=>C10 86 [Q p0,I i] m λc h b=>L4 b e 0 λc=>gB (c-h)/\U6 b e 0 (c-h) λa=>p a) a (λD b=>L4 b e 0 λc=>∃a,zS b D a/\R (E (I c)) a) (λD b=>False) λ(q D:Nat)(b:Wq)=>False):Calls P 169 #[Q p0] w R:=cok ⟨[],[],[],[(4,[(9,iI)])]⟩ Tryz.func169 h
def Jae(h:N8 w p0 λe d=>L17 d e 0 λp0=>C10 86 [Q p0,I i0] d λb A c=>N9 c 0 λn d=>N9 d 0 λk G=>U6 G n 0 b λd=>U6 d k 0 A λg=>L4 g n 0 λb=>B0 (b=0) (R (E (.tuple #[])) g) (L17 g.drew e 0 λp0=>onP p0 λf=>L17 g.drew e 0 λp0=>onP p0 λK=>G1 g.drew (K.add 4097) λb=>L4 g.drew k 0 λl=>gB (b+l)/\L4 g.drew n 0 λp=>L4 g.drew k 0 λq=>gB (p+q)/\(0<=b+l/\b+l<=p+q/\p+q<=(↑(4096:Nat):Int))/\L17 g.drew e 0 λp0=>onP p0 λL=>L17 g.drew e 0 λp0=>onP p0 λM=>G1 g.drew (M.add 4097) λo=>L4 g.drew n 0 λt=>(0<=o/\o<=t/\t<=(↑(4096:Nat):Int))/\∃V d,Cpy P #[159,159] 3 g.drew (S (slA (some f) 4096 (Int.toNat (b+l)) 1) (Int.toNat (p+q)-Int.toNat (b+l)) (4096-Int.toNat (b+l))) (S (slA (some L) 4096 (o.toNat) 1) (t.toNat-o.toNat) (4096-o.toNat)) (I V) d/\L17 d e 0 λp0=>∃(v:FuncId),∃(z:Array Value),∃(y:Array Value),Value.func (.func 85) #[Q p0] #[]=Value.func (.func v) z y/\zo P v/\KAA P v (Array.toList z) (Array.toList y) (λs=>[I s]) (λ(s:Int)(c:Wq)(T:Wq->(Wq->Prop)->Prop)(B Y:WP)(Z:Nat->Wq->Prop)=>T c λH=>L17 H e 0 λp0=>C10 86 [Q p0,I s] H λb i c=>L4 c n 0 λj=>B0 (b<=j) (L17 c e 0 λp0=>L4 c k 0 λm=>gB (b+m)/\C1 171 [Q p0,I s,I (b+m),I i] c λc=>B c) (B c)) d (λD c=>L17 c.drew e 0 λp0=>onP p0 λf=>L17 c.drew e 0 λp0=>onP p0 λN=>G1 c.drew (N.add 4097) λb=>L17 c.drew e 0 λp0=>onP p0 λO=>G1 c.drew (O.add 4097) λi=>L4 c.drew k 0 λj=>gB (i+j)/\(0<=b/\b<=i+j/\i+j<=(↑(4096:Nat):Int))/\∃d,Clr P #[159] 0 c.drew (S (slA (some f) 4096 (b.toNat) 1) (Int.toNat (i+j)-b.toNat) (4096-b.toNat)) d/\L17 d.drew e 0 λp0=>onP p0 λf=>G1 d.drew (f.add 4097) λb=>L4 d.drew k 0 λm=>gB (b+m)/\onP p0 λf=>Z2 d.drew (f.add 4097) (b+m) λx=>L17 x e 0 λp0=>C1 171 [Q p0,I i0,I 0,I 0] x λc=>xI (St:=PUnit) (λs c W=>L17 c.drew e 0 λp0=>onP p0 λf=>G1 c.drew (f.add 4096) λb=>B0 (0<b) (L17 c.drew e 0 λp0=>L17 c.drew e 0 λr=>onP r λf=>G1 c.drew (f.add 4096) λb=>gB (b-1)/\gB (4*(b-1))/\gB (10+4*(b-1))/\C3 146 [Q p0,I (10+4*(b-1))] c.drew λb c=>B0 (b=0) (L17 c e 0 λp0=>onP p0 λf=>G1 c (f.add 4096) λb=>gB (b-1)/\onP p0 λf=>Z2 c (f.add 4096) (b-1) λd=>W () d) (L17 c.drew e 0 λp0=>L17 c.drew e 0 λC=>onP C λf=>G1 c.drew (f.add 4096) λb=>C1 172 [Q p0,I 8,I b] c.drew λc=>∃d,zS c D d/\R (E (.tuple #[])) d)) (L17 c.drew.drew e 0 λp0=>L17 c.drew.drew e 0 λr=>onP r λf=>G1 c.drew.drew (f.add 4096) λb=>C1 172 [Q p0,I 8,I b] c.drew.drew λc=>∃d,zS c D d/\R (E (.tuple #[])) d)) () c) (λD c=>False) λ(X D:Nat)(c:Wq)=>False)):Calls P 170 #[Q p0,I i0] w R:=cok ⟨[],[(12,[])],[],[(6,[(42,iI)])]⟩ Tryz.func170 h
def Je2(h:gB (4*i0)/\gB (10+4*i0)/\C1 172 [Q p0,I (10+4*i0),I i1] w λc=>gB (4*i0)/\gB (10+4*i0)/\gB (10+4*i0+2)/\C1 172 [Q p0,I (10+4*i0+2),I i2] c λc=>R (E (.tuple #[])) c):Calls P 171 #[Q p0,I i0,I i1,I i2] w R:=cok {} Tryz.func171 h
def Jb3(h:gB (i0+(1:Int))/\(0:Int)<=(8:Int)/\onP p0 λf=>((0:Int)<=i0/\i0<(↑(4096:Nat):Int))/\onP p0 λg=>∃d,St P 5 w.drew (f.add (i0.toNat*1)) (iU (IntKind.wrap .u8 (Int.fdiv i1 ((2:Int)^min (Int.toNat (8:Int)) (IntKind.bits .i64))))) d/\((0:Int)<=i0+(1:Int)/\i0+(1:Int)<(↑(4096:Nat):Int))/\∃e,St P 5 d (g.add (Int.toNat (i0+(1:Int))*1)) (iU (IntKind.wrap .u8 i1)) e/\R (E (.tuple #[])) e):Calls P 172 #[Q p0,I i0,I i1] w R:=cok {} Tryz.func172 h
def Jbk(h:N9 w 0 λd b=>U6 b d 0 0 λl=>∃(g:FuncId),∃(i:Array Value),∃(h:Array Value),Value.func (.func 85) #[Q p0] #[]=Value.func (.func g) i h/\zo P g/\KAA P g (Array.toList i) (Array.toList h) (λs0=>[I s0]) (λ(s0:Int)(c:Wq)(m:Wq->(Wq->Prop)->Prop)(j p:WP)(q:Nat->Wq->Prop)=>m c λf=>L4 f d 0 λa=>B0 (s0=a) (L4 f d 0 λa=>gB (a+1)/\U6 f d 0 (a+1) λb=>j b) (j f)) l (λD c=>L4 c d 0 λa=>B0 (120<=a) (∃b,zS c D b/\R (E (A7 0 111)) b) (L4 c d 0 λa=>C3 110 [Q p0,I a,.string s0] c λa c=>B1 (a=0) (∃b,zS c D b/\R (E (A7 0 a)) b) (L4 c d 0 λa=>∃b,zS c D b/\R (E (A7 a 0)) b))) (λD c=>False) λ(o D:Nat)(c:Wq)=>False):Calls P 173 #[Q p0,.string s0] w R:=cok ⟨[],[],[],[(4,[(11,iI)])]⟩ Tryz.func173 h
def Jao(h:N16 w i0 i1 i2 i3 i4 i5 s0 p0 n0 n1 λc b=>L3 b c 4 λa i=>N3 b 0 0 λd p=>U3 p d 0 a i λb=>L4 b c 0 λa=>B0 (a<1) (R (E (.bool false)) b) (L4 b c 0 λa=>B0 (2147483647<a) (R (E (.bool false)) b) (L4 b c 1 λa=>B0 (a<0) (R (E (.bool false)) b) (L4 b c 1 λa=>B0 (2147483647<a) (R (E (.bool false)) b) (L4 b d 0 λa=>B0 (a<0) (R (E (.bool false)) b) (L4 b d 0 λa=>L4 b d 1 λj=>B0 (j<=a) (R (E (.bool false)) b) (L4 b d 1 λa=>B0 (4611686018427387904<a) (R (E (.bool false)) b) (L4 b c 2 λa=>B0 (a=1) (L14 b c 0 λa k l m n o f g e h=>C2 225 [A15 a k l m n o f g e h] b λc D=>R (E (.bool c)) D) (B0 (a=2) (L4 b c 3 λa=>B0 (a=0) (L16 b c 7 λg e h=>B0 ((↑e:Int)=0) (L7 b c 6 λf=>R (E (.bool (decide ((↑(f.size):Int)<=1500)))) b) (R (E (.bool false)) b)) (R (E (.bool false)) b)) (R (E (.bool false)) b)))))))))):Calls P 174 #[A15 i0 i1 i2 i3 i4 i5 s0 p0 n0 n1] w R:=cok {} Tryz.func174 h
def Jaq(h:N16 w i0 i1 i2 i3 i4 i5 s0 p0 n0 n1 λb a=>L4 a b 0 λi=>L4 a b 1 λv=>L4 a b 4 λx=>G1 a (Addr.add (.mk b 4 none) 1) λy=>L4 a b 2 λz=>L4 a b 3 λA=>L7 a b 6 λc=>∀t D,New a (.cells #[I i,I 4,I v,I 4,I x,I 8,I y,I 8,I z,I 1,I A,I 2,I (↑(c.size):Int),I 2] 258) t D->C7 176 [S none 0 0,S (some (.mk t 0 none)) 7 7] D λe f g d=>xM (St:=OA×Nat×Nat) (λc d=>L16 d b 7 λe f g=>xI (St:=(OA×Nat×Nat)×Int) (λc d F=>B0 (c.2<f) (onP e λe=>D1 c.2 f/\∃i B,Ld P 260 d (e.add (c.2.toNat*2)) (.agg #[I i,.string B])/\N18 d 0 (.mk #[]) λb a=>U15 a b 0 i B λh=>L4 h.drew b 0 λi=>L7 h.drew b 1 λC=>L7 h.drew b 1 λq=>∀o a,New h.drew (.cells #[I i,I 2,I (↑(C.size):Int),I 2] 258) o a->Ld P 9 a (.mk b 1 none) (.string q)/\C7 176 [S c.1.1 c.1.2.1 c.1.2.2,S (some (.mk o 0 none)) 2 2] a λe f g d=>Ld P 9 d (.mk b 1 none) (.string q)/\∃l k j a,App P #[159,9] 159 d (S e f g) (.string q) (S l k j) a/\gB (c.2+1)/\F ((l,k,j),c.2+1) a) (R (E (S c.1.1 c.1.2.1 c.1.2.2)) d)) ((c.1,c.2.1,c.2.2),0) d) λJ=>(L7 d.drew b 6 λc=>L16 d.drew b 7 λl n p=>∃r k j a,App P #[159,9] 159 d.drew (S e f g) (.string c) (S r k j) a/\Ld P 202 a (.mk b 7 none) (S l n p)/\∀b h,New a (.cells #[I n,I 1] 258) b h->C7 176 [S r k j,S (some (.mk b 0 none)) 1 1] h λe f g d=>J (e,f,g) d)/\L7 d.drew b 6 λc=>L16 d.drew b 7 λl n p=>∀o a,New d.drew (.cells #[I n,I 1] 258) o a->Ld P 9 a (.mk b 6 none) (.string c)/\∃s k j h,App P #[159,9] 159 a (S e f g) (.string c) (S s k j) h/\C7 176 [S s k j,S (some (.mk o 0 none)) 1 1] h λe f g d=>J (e,f,g) d):Calls P 175 #[A15 i0 i1 i2 i3 i4 i5 s0 p0 n0 n1] w R:=cok ⟨[],[(4,[(3,.inr 3),(45,iI)])],[(3,[(3,.inr 3)])],[]⟩ Tryz.func175 h
def Jal(h:xI (St:=(OA×Nat×Nat)×Int) (λa e r=>B0 (a.2<n2) (onP p1 λg=>D1 a.2 n2/\∃c i,Ld P 258 e (g.add (a.2.toNat*2)) (A4 c i)/\∀d f,New e (.cells #[I 0,I 0] 258) d f->∃h,St P 258 f (.mk d 0 none) (A4 c i) h/\L4 h d 1 λc=>gB (c-1)/\xI (St:=(OA×Nat×Nat)×Int) (λb e s=>B0 (0<=b.2) (L4 e d 0 λc=>gB (8*b.2)/\0<=8*b.2/\N19 e (IntKind.wrap .u8 (Int.fdiv c (2^min (Int.toNat (8*b.2)) (IntKind.bits .i64)))) λd f=>∃g l k m,App P #[159,159] 159 f (S b.1.1 b.1.2.1 b.1.2.2) (S (some (.mk d 0 none)) 1 1) (S g l k) m/\gB (b.2-1)/\s ((g,l,k),b.2-1) m) (gB (a.2+1)/\r ((b.1.1,b.1.2.1,b.1.2.2),a.2+1) e)) ((a.1.1,a.1.2.1,a.1.2.2),c-1) h) (R (E (S a.1.1 a.1.2.1 a.1.2.2)) e)) ((p0,n0,n1),0) w):Calls P 176 #[S p0 n0 n1,S p1 n2 n3] w R:=cok ⟨[],[(2,[(0,.inr 3),(10,iI)]),(5,[(0,.inr 3),(7,iI)])],[],[]⟩ Tryz.func176 h
def Jc6(h:C3 217 [.string s0] w λb a=>B0 (b<0) (R (E (I 64)) a) (B0 (1500<(↑(s0.size):Int)) (R (E (I 67)) a) (R (E (I 0)) a))):Calls P 179 #[.string s0] w R:=cok {} Tryz.func179 h
def Jc8(h:N11 w i0 i1 s0 s1 p0 n0 n1 λc f=>L7 f c 2 λb=>C2 127 [.string b] f λk a=>br (!k) (R (E (I 63)) a) (L11 a c 4 λd e g=>xI (St:=BA×Int) (λb a q=>B0 (b.2<(↑e:Int)) (onP d λd=>D1 b.2 e/\G3 a (d.add (b.2.toNat*2)) λm n=>N13 a (.mk #[]) (.mk #[]) λc f=>U9 f c 0 m n λj=>L7 j c 0 λo=>C2 127 [.string o] j λl a=>br (!l) (R (E (I 63)) a) (L7 a c 0 λi=>br (Op.bytesLess (Array.toList (ByteArray.data i)) (Array.toList (ByteArray.data b.1))||decide (i=b.1)) (R (E (I 63)) a) (L7 a c 0 λp=>gB (b.2+1)/\q (p,b.2+1) a))) (L11 a c 4 λd e g=>B0 (20<(↑e:Int)) (R (E (I 67)) a) (R (E (I 0)) a))) (.mk #[],0) a)):Calls P 180 #[A16 i0 i1 s0 s1 p0 n0 n1] w R:=cok ⟨[],[(5,[(3,.inr 1),(13,iI)])],[],[]⟩ Tryz.func180 h
def Jan(h:C18 193 [Q p0,I i0] w λa b=>∃c d g f,S2B P 9 159 b (.string a) (S c d g) f/\xI (St:=Int×Int) (λa b j=>B0 (a.2<d) (onP c λc=>((0:Int)<=a.2/\a.2<d)/\G25 b (c.add (a.2.toNat*1)) λe=>(0:Int)<=(8:Int)/\gB (a.2+(1:Int))/\j (Vc.bits .or .i64 (IntKind.wrap .i64 (a.1*(2:Int)^min (Int.toNat (8:Int)) (IntKind.bits .i64))) (IntKind.wrap .i64 e),a.2+(1:Int)) b) (R (E (I a.1)) b)) ((0:Int),(0:Int)) f):Calls P 183 #[Q p0,I i0] w R:=cok ⟨[5],[(3,[(5,iI),(13,iI)])],[],[]⟩ Tryz.func183 h
def Jfk(h:xI (St:=BA×Int) (λs0 a l=>B1 (s0.1=.mk #[]) (xk P 237 [.string s0.1] a λe a=>∃g d,e=E (A23 g d)/\B0 (d=0) (R (E (I (-1:Int))) a) (xI (St:=Int) (λc a m=>B0 (c<n0) (onP p0 λj=>D1 c n0/\∃i,Ld P 269 a (j.add (c.toNat*1)) i/\zC P i [iJ g,.bool (decide (s0.2=0))] a λe a=>∃f,e=E (.bool f)/\br (!f) (R (E (I (-1:Int))) a) (gB (c+1)/\m (c+1) a)) (gB (s0.2+1)/\(0<=d/\d<=(↑(ByteArray.size s0.1):Int))/\l (ByteArray.extract s0.1 (d.toNat) (ByteArray.size s0.1),s0.2+1) a)) 0 a)) (R (E (I s0.2)) a)) (s0,0) w):Calls P 184 #[.string s0,S p0 n0 n1] w R:=cok ⟨[],[(2,[(0,.inr 1),(5,iI)]),(7,[(21,iI)])],[],[]⟩ Tryz.func184 h
def Jfp(h:C2 186 [.int .i32 i0] w λa b=>br a (br (!b0) (R (E (.bool true)) b) (C2 187 [.int .i32 i0] b λa b=>R (E (.bool a)) b)) (R (E (.bool false)) b)):Calls P 185 #[.int .i32 i0,.bool b0] w R:=cok {} Tryz.func185 h
def Jfr(h:xI (St:=Int) (λc b k=>B0 (c<5) ((0<=c/\c<(↑(5:Nat):Int))/\∃d h,Prt P 315 [.int .i32 45,.int .i32 46,.int .i32 48,.int .i32 57,.int .i32 183,.int .i32 183,.int .i32 768,.int .i32 879,.int .i32 8255,.int .i32 8256] (c.toNat*2) (A24 d h)/\∀a j,New b (.cells #[.int .i32 0,.int .i32 0] 315) a j->∃f,St P 315 j (.mk a 0 none) (A24 d h) f/\∃d i,Ld P 315 f (.mk a 0 none) (A24 d i)/\C2 238 [A24 d i,.int .i32 i0] f λa b=>br a (R (E (.bool true)) b) (inR .i64 (c+1)/\k (c+1) b)) (C2 187 [.int .i32 i0] b λa b=>R (E (.bool a)) b)) 0 w):Calls P 186 #[.int .i32 i0] w R:=cok ⟨[],[(2,[(11,.inl .i64)])],[],[]⟩ Tryz.func186 h
def Jft(h:xk P 239 [] w λe a=>∃(g:List Value),e=E (.agg (List.toArray g))/\xI (St:=Int) (λc a l=>B0 (c<15) ((0<=c/\c<(↑(15:Nat):Int))/\∃d h,Prt P 315 g (c.toNat*2) (A24 d h)/\∀b j,New a (.cells #[.int .i32 0,.int .i32 0] 315) b j->∃f,St P 315 j (.mk b 0 none) (A24 d h) f/\∃d i,Ld P 315 f (.mk b 0 none) (A24 d i)/\C2 238 [A24 d i,.int .i32 i0] f λb a=>br b (R (E (.bool true)) a) (inR .i64 (c+1)/\l (c+1) a)) (R (E (.bool false)) a)) 0 a):Calls P 187 #[.int .i32 i0] w R:=cok ⟨[],[(2,[(6,.inl .i64)])],[],[]⟩ Tryz.func187 h
def Jak(h:xI (St:=(OA×Nat×Nat)×Int) (λa b t=>B0 (a.2<n0) (onP p0 λc=>((0:Int)<=a.2/\a.2<n0)/\G2 b (c.add (a.2.toNat*1)) λd=>xk P 126 [.string d] b λf b=>∃h i j g,f=E (A17 h i j g)/\onP p0 λc=>((0:Int)<=(0:Int)/\(0:Int)<n0)/\G2 b c λo=>xk P 126 [.string o] b λf b=>∃k r s q,f=E (A17 k r s q)/\br (!g) (R (E (A21 none 0 0 false)) b) (B1 (h=k) (R (E (A21 none 0 0 false)) b) (B1 (i=a.2) (R (E (A21 none 0 0 false)) b) (B1 (j=n0) (R (E (A21 none 0 0 false)) b) (((0:Int)<=(6:Int)/\(6:Int)<=(↑(d.size):Int))/\∃c n m p,App P #[159,9] 159 b (S a.1.1 a.1.2.1 a.1.2.2) (.string (ByteArray.extract d (Int.toNat (6:Int)) (d.size))) (S c n m) p/\gB (a.2+(1:Int))/\t ((c,n,m),a.2+(1:Int)) p))))) (R (E (A21 a.1.1 a.1.2.1 a.1.2.2 (decide ((0:Int)<a.1.2.1)))) b)) ((none,0,0),(0:Int)) w):Calls P 192 #[S p0 n0 n1] w R:=cok ⟨[],[(3,[(4,.inr 3),(17,iI)])],[],[]⟩ Tryz.func192 h
def Jap(h:onP p0 λa=>∃k d b,Ld P 159 w a (S k d b)/\B0 ((↑d:Int)<i0) (onP p0 λa=>∃f,St P 159 w a (S none 0 0) f/\onP p0 λa=>∃j,St P 4 f (a.add 1) (.bool true) j/\R (E (.string (.mk #[]))) j) (onP p0 λa=>∃g d b,Ld P 159 w a (S g d b)/\(0<=i0/\i0<=b)/\∃i,B2S P 159 9 w (S g (i0.toNat) b) (.string i)/\onP p0 λa=>∃h d b,Ld P 159 w a (S h d b)/\(0<=i0/\i0<=d)/\onP p0 λa=>∃f,St P 159 w a (S (slA h b (i0.toNat) 1) (d-i0.toNat) (b-i0.toNat)) f/\R (E (.string i)) f)):Calls P 193 #[Q p0,I i0] w R:=cok {} Tryz.func193 h
def Jeu(h:N3 w i0 i1 λb f=>N3 f i2 i3 λc a=>L4 a b 1 λd=>L4 a c 0 λe=>R (E (.bool (decide (d<e)))) a):Calls P 195 #[A4 i0 i1,A4 i2 i3] w R:=cok {} Tryz.func195 h
def Jex(h:xI (St:=Int) (λa b g=>B0 (a<n0) (onP p0 λe=>D1 a n0/\G1 b (e.add (a.toNat*1)) λc=>B0 (c<0) (R (E (.bool false)) b) (B0 (4611686018427387904<c) (R (E (.bool false)) b) (inR .i64 (a+1)/\g (a+1) b))) (R (E (.bool true)) b)) 0 w):Calls P 196 #[S p0 n0 n1] w R:=cok ⟨[],[(2,[(7,.inl .i64)])],[],[]⟩ Tryz.func196 h
def Jew(h:N3 w i0 i1 λc g=>N3 g i2 i3 λd a=>L4 a d 0 λb=>L4 a c 0 λe=>B0 (b<e) (L4 a c 1 λb=>L4 a d 1 λf=>R (E (.bool (decide (b<f)))) a) (R (E (.bool false)) a)):Calls P 197 #[A4 i0 i1,A4 i2 i3] w R:=cok {} Tryz.func197 h
def Jfg(h:xk P 157 [Q p0,I i0] w λf h=>∃c b,f=E (.agg #[.string c,I b])/\N15 h (.mk #[]) 0 λp0 e=>U13 e p0 0 c b λd=>L7 d.drew p0 0 λc=>L4 d.drew p0 1 λb=>R (E (A12 c (decide (0<b)))) d.drew):Calls P 198 #[Q p0,I i0] w R:=cok {} Tryz.func198 h
def Jch(h:N13 w s0 s1 λb g=>N13 g s2 s3 λc a=>L7 a b 0 λe=>L7 a c 0 λf=>C3 201 [.string e,.string f] a λd m=>R (E (I d)) m):Calls P 200 #[A19 s0 s1,A19 s2 s3] w R:=cok {} Tryz.func200 h
def Jeg(h:N11 w i0 i1 s0 s1 p0 n0 n1 λe g=>L4 g e 1 λh=>B0 (h=2) (L7 g e 2 λa=>B1 (a=.mk #[]) (R (E (I 68)) g) (L11 g e 4 λc d f=>B0 (0<(↑d:Int)) (R (E (I 68)) g) (L7 g e 3 λa=>C3 260 [.string a] g λh b=>R (E (I h)) b))) (L4 g e 1 λh=>B1 (h=1) (R (E (I 68)) g) (L7 g e 3 λa=>B1 (a=.mk #[]) (R (E (I 68)) g) (L7 g e 2 λa=>C2 210 [.string a] g λn b=>br (!n) (R (E (I 63)) b) (xI (St:=Int) (λa b k=>L11 b e 4 λc d f=>B0 (a<(↑d:Int)) (L11 b.drew e 4 λc d f=>onP c λc=>D1 a d/\G2 b.drew (c.add (a.toNat*2)) λj=>C2 210 [.string j] b.drew λo b=>br (!o) (R (E (I 63)) b) (B0 (0<a) (L11 b e 4 λc d f=>onP c λc=>D1 a d/\G2 b (c.add (a.toNat*2)) λl=>L11 b e 4 λc d f=>gB (a-1)/\onP c λc=>(0<=a-1/\a-1<(↑d:Int))/\G2 b (c.add (Int.toNat (a-1)*2)) λm=>br (Op.bytesLess (Array.toList (ByteArray.data l)) (Array.toList (ByteArray.data m))||decide (l=m)) (R (E (I 63)) b) (gB (a+1)/\k (a+1) b)) (gB (a+1)/\k (a+1) b))) (L11 b e 4 λc d f=>B0 (20<(↑d:Int)) (R (E (I 67)) b) (xI (St:=Int) (λa b k=>L11 b e 4 λc d f=>B0 (a<(↑d:Int)) (L11 b e 4 λc d f=>onP c λc=>D1 a d/\G2 b (Addr.add (c.add (a.toNat*2)) 1) λj=>C3 260 [.string j] b λh b=>B1 (h=0) (R (E (I h)) b) (gB (a+1)/\k (a+1) b)) (R (E (I 0)) b)) 0 b))) 0 b))))):Calls P 202 #[A16 i0 i1 s0 s1 p0 n0 n1] w R:=cok ⟨[],[(10,[(3,iI)]),(17,[(4,iI)])],[],[]⟩ Tryz.func202 h
def Jdu(h:N1 w p0 n0 n1 i0 λe b=>xI (St:=(OA×Nat×Nat)×Int) (λa i A=>B0 (a.2<n2) (onP p1 λd=>D1 a.2 n2/\G16 i (d.add (a.2.toNat*5)) λc l s t k h g=>N11 i 0 0 (.mk #[]) (.mk #[]) none 0 0 λf b=>U8 b f 0 c l s t k h g λj=>L4 j f 0 λc=>gB (c+i1)/\U6 j f 0 (c+i1) λb=>L4 b e 1 λc=>gB (c+a.2)/\L13 b f 0 λm n v x d h g=>∀e y,New b (.cells #[I (c+a.2),I m,I n,.string v,.string x,S d h g] 133) e y->∃d r p b,App P #[27,27] 27 y (S a.1.1 a.1.2.1 a.1.2.2) (S (some (.mk e 0 none)) 1 1) (S d r p) b/\gB (a.2+1)/\A ((d,r,p),a.2+1) b) (R (E (S a.1.1 a.1.2.1 a.1.2.2)) i)) ((none,0,0),0) b):Calls P 203 #[A2 p0 n0 n1 i0,S p1 n2 n3,I i1] w R:=cok ⟨[],[(3,[(7,.inr 3),(8,iI)])],[],[]⟩ Tryz.func203 h
def Jdp(h:N1 w p0 n0 n1 i0 λf i=>gB (i1+1)/\xI (St:=(OA×Nat×Nat)×Int) (λa c p=>L1 c f 0 λb e g d=>C3 84 [A2 b e g d,I i1] c λd c=>B0 (a.2<d) (xM (St:=OA×Nat×Nat) (λk c=>gB (a.2+1)/\p ((k.1,k.2.1,k.2.2),a.2+1) c) λJ=>L8 c.drew f 0 λb e g=>onP b λb=>D1 a.2 e/\G1 c.drew (Addr.add (b.add (a.2.toNat*6)) 1) λd=>L8 c.drew f 0 λb e g=>onP b λb=>D1 i1 e/\G1 c.drew (Addr.add (b.add (i1.toNat*6)) 1) λj=>gB (j+1)/\B0 (d=j+1) (N9 c.drew a.2 λf i=>∃b m l n,App P #[59,59] 59 i (S a.1.1 a.1.2.1 a.1.2.2) (S (some (.mk f 0 none)) 1 1) (S b m l) n/\J (b,m,l) n) (J (a.1.1,a.1.2.1,a.1.2.2) c.drew)) (R (E (S a.1.1 a.1.2.1 a.1.2.2)) c)) ((none,0,0),i1+1) i):Calls P 204 #[A2 p0 n0 n1 i0,I i1] w R:=cok ⟨[],[(3,[(5,.inr 3),(6,iI)])],[(4,[(5,.inr 3)])],[]⟩ Tryz.func204 h
def Jdm(h:B0 ((↑n0:Int)=0) (R (E (I 40)) w) (xI (St:=Int) (λa c n=>B0 (a<n0) (xM (λo c=>onP p0 λd=>D1 a n0/\G1 c (d.add (a.toNat*5)) λb=>B0 (b<0) (R (E (I 69)) c) (onP p0 λd=>D1 a n0/\G1 c (d.add (a.toNat*5)) λb=>B0 (o<b) (R (E (I 69)) c) (onP p0 λd=>D1 a n0/\G16 c (d.add (a.toNat*5)) λb f k l h j i=>C3 202 [A16 b f k l h j i] c λb c=>B1 (b=0) (R (E (I b)) c) (gB (a+1)/\n (a+1) c)))) λ(J:Int->Wq->Prop)=>B0 (0<a) (gB (a-1)/\onP p0 λd=>(0<=a-1/\a-1<n0)/\G1 c (d.add (Int.toNat (a-1)*5)) λb=>gB (a-1)/\onP p0 λd=>(0<=a-1/\a-1<n0)/\G1 c (Addr.add (d.add (Int.toNat (a-1)*5)) 1) λf=>B1 (f=2) (gB (b+1)/\J (b+1) c) (J b c)) (J 0 c)) (R (E (I 0)) c)) 0 w)):Calls P 205 #[S p0 n0 n1] w R:=cok ⟨[],[(4,[(3,iI)])],[(11,[(4,iI)])],[]⟩ Tryz.func205 h
def Jdg(h:xI (St:=Int×Int) (λa b g=>B0 (a.2<n0) (onP p0 λe=>D1 a.2 n0/\G1 b (e.add (a.2.toNat*5)) λc=>gB (a.2+1)/\g (max a.1 c,a.2+1) b) (R (E (I a.1)) b)) (0,0) w):Calls P 206 #[S p0 n0 n1] w R:=cok ⟨[],[(3,[(3,iI),(4,iI)])],[],[]⟩ Tryz.func206 h
def Jdq(h:N1 w p0 n0 n1 i0 λf b=>N1 b none 0 0 0 λi j=>L8 j f 0 λc d a=>(0<=i1/\i1<=a)/\∃m q h b,App P #[27,27] 27 j (S none 0 0) (S c (i1.toNat) a) (S m q h) b/\∃c r p k,App P #[27,27] 27 b (S m q h) (S p1 n2 n3) (S c r p) k/\L8 k f 0 λn d a=>(0<=i1/\i1<=d)/\∃o s h b,App P #[27,27] 27 k (S c r p) (S (slA n a (i1.toNat) 6) (d-i1.toNat) (a-i1.toNat)) (S o s h) b/\∃l,St P 27 b (.mk f 0 none) (S o s h) l/\L1 l f 0 λc d a g=>U1 l i 0 c d a g λb=>L1 b i 0 λc d a g=>R (E (A2 c d a g)) b):Calls P 207 #[A2 p0 n0 n1 i0,I i1,S p1 n2 n3] w R:=cok {} Tryz.func207 h
def Jd3(h:N1 w p0 n0 n1 i0 λg i=>L1 i g 0 λb c d a=>C7 204 [A2 b c d a,I i1] i λb c d e=>B0 (i2<c) (onP b λb=>D1 i2 c/\G1 e (b.add (i2.toNat*1)) λa=>R (E (I a)) e) (L1 e g 0 λb c d a=>C3 84 [A2 b c d a,I i1] e λa e=>R (E (I a)) e)):Calls P 208 #[A2 p0 n0 n1 i0,I i1,I i2] w R:=cok {} Tryz.func208 h
def Jd6(h:N1 w p0 n0 n1 i0 λf c=>N1 c none 0 0 0 λh i=>L8 i f 0 λd e b=>(0<=i1/\i1<=b)/\∃k r p c,App P #[27,27] 27 i (S none 0 0) (S d (i1.toNat) b) (S k r p) c/\L8 c.drew f 0 λd e b=>L1 c.drew f 0 λl o n a=>C3 84 [A2 l o n a,I i1] c.drew λa t=>Ld P 27 t (.mk f 0 none) (S d e b)/\(0<=a/\a<=e)/\∃m s q c,App P #[27,27] 27 t (S k r p) (S (slA d b (a.toNat) 6) (e-a.toNat) (b-a.toNat)) (S m s q) c/\∃j,St P 27 c (.mk f 0 none) (S m s q) j/\L1 j f 0 λd e b a=>U1 j h 0 d e b a λc=>L1 c h 0 λd e b a=>R (E (A2 d e b a)) c):Calls P 209 #[A2 p0 n0 n1 i0,I i1] w R:=cok {} Tryz.func209 h
def Jeo(h:C19 261 [.string s0] w λd g i c a=>br (!c) (R (E (.bool false)) a) (B0 ((↑(s0.size):Int)<1) (R (E (.bool false)) a) (B0 (60<(↑(s0.size):Int)) (R (E (.bool false)) a) (onP d λh=>D1 0 g/\∃f,Ld P 21 a h (.int .i32 f)/\C2 262 [.int .i32 f] a λc a=>br (!c) (R (E (.bool false)) a) (xI (St:=Int) (λs0 a j=>B0 (s0<g) (onP d λd=>D1 s0 g/\∃f,Ld P 21 a (d.add (s0.toNat*1)) (.int .i32 f)/\C2 263 [.int .i32 f] a λc a=>br (!c) (R (E (.bool false)) a) (inR .i64 (s0+1)/\j (s0+1) a)) (R (E (.bool true)) a)) 0 a))))):Calls P 210 #[.string s0] w R:=cok ⟨[],[(5,[(5,.inl .i64)])],[],[]⟩ Tryz.func210 h
def Jd4(h:C3 264 [.string s0] w λb a=>B0 (b<0) (R (E (I 64)) a) (B0 (1500<(↑(s0.size):Int)) (R (E (I 67)) a) (R (E (I 0)) a))):Calls P 211 #[.string s0] w R:=cok {} Tryz.func211 h
def Jd5(h:N13 w s0 s1 λe f=>xI (St:=(OA×Nat×Nat)×Bool×Int) (λa c r=>B0 (a.2.2<n0) (xM (St:=(OA×Nat×Nat)×Bool) (λb c=>gB (a.2.2+1)/\r ((b.1.1,b.1.2.1,b.1.2.2),b.2,a.2.2+1) c) λJ=>xM (St:=(OA×Nat×Nat)×Bool) (λb c=>onP p0 λd=>D1 a.2.2 n0/\G2 c.drew (d.add (a.2.2.toNat*2)) λi=>L7 c.drew e 0 λk=>B1 (i=k) (onP p0 λd=>D1 a.2.2 n0/\G3 c.drew (d.add (a.2.2.toNat*2)) λn o=>N13 c.drew n o λe f=>∃d h g j,App P #[69,69] 69 f (S b.1.1 b.1.2.1 b.1.2.2) (S (some (.mk e 0 none)) 1 1) (S d h g) j/\J ((d,h,g),b.2) j) (J ((b.1.1,b.1.2.1,b.1.2.2),b.2) c.drew)) λJ=>xM (λb c=>br b (∃i k,Ld P 142 c (.mk e 0 none) (A19 i k)/\N13 c i k λe f=>∃d h g j,App P #[69,69] 69 f (S a.1.1 a.1.2.1 a.1.2.2) (S (some (.mk e 0 none)) 1 1) (S d h g) j/\J ((d,h,g),true) j) (J ((a.1.1,a.1.2.1,a.1.2.2),a.2.1) c)) λ(J:Bool->Wq->Prop)=>br (!a.2.1) (onP p0 λd=>D1 a.2.2 n0/\G2 c.drew (d.add (a.2.2.toNat*2)) λb=>L7 c.drew e 0 λa=>J (!Op.bytesLess (Array.toList (ByteArray.data b)) (Array.toList (ByteArray.data a))) c.drew) (J false c.drew)) (br (!a.2.1) (∃b i,Ld P 142 c (.mk e 0 none) (A19 b i)/\N13 c b i λe f=>∃d h g j,App P #[69,69] 69 f (S a.1.1 a.1.2.1 a.1.2.2) (S (some (.mk e 0 none)) 1 1) (S d h g) j/\R (E (S d h g)) j) (R (E (S a.1.1 a.1.2.1 a.1.2.2)) c))) ((none,0,0),false,0) f):Calls P 212 #[S p0 n0 n1,A19 s0 s1] w R:=cok ⟨[],[(4,[(5,.inr 3),(6,.inr 0),(7,iI)])],[(5,[(5,.inr 3),(6,.inr 0)]),(9,[(5,.inr 3),(6,.inr 0)]),(7,[(25,.inr 0)])],[]⟩ Tryz.func212 h
def Jd0(h:N1 w p0 n0 n1 i0 λf a=>N11 a i2 i3 s0 s1 p1 n2 n3 λm s=>N1 s none 0 0 0 λh a=>∀n k,New a (.cells #[] 133) n k->L8 k f 0 λb d c=>∃g j p a,App P #[27,27] 27 k (S (some (.mk n 0 none)) 0 0) (S b d c) (S g j p) a/\L13 a m 0 λe o q r b d c=>onP g λv=>D1 i1 j/\∃t,St P 123 a (Addr.add (v.add (i1.toNat*6)) 1) (A16 e o q r b d c) t/\∃a,St P 27 t (.mk f 0 none) (S g j p) a/\L1 a f 0 λb d c e=>U1 a h 0 b d c e λl=>L1 l h 0 λb d c e=>R (E (A2 b d c e)) l):Calls P 213 #[A2 p0 n0 n1 i0,I i1,A16 i2 i3 s0 s1 p1 n2 n3] w R:=cok {} Tryz.func213 h
def Jdr(h:xI (St:=(OA×Nat×Nat)×Int) (λa c i=>B0 (a.2<n0) (onP p0 λb=>D1 a.2 n0/\G2 c (b.add (a.2.toNat*2)) λj=>B1 (j=s0) (onP p0 λb=>D1 a.2 n0/\G3 c (b.add (a.2.toNat*2)) λk l=>N13 c k l λe m=>∃b h g n,App P #[69,69] 69 m (S a.1.1 a.1.2.1 a.1.2.2) (S (some (.mk e 0 none)) 1 1) (S b h g) n/\gB (a.2+1)/\i ((b,h,g),a.2+1) n) (gB (a.2+1)/\i ((a.1.1,a.1.2.1,a.1.2.2),a.2+1) c)) (R (E (S a.1.1 a.1.2.1 a.1.2.2)) c)) ((none,0,0),0) w):Calls P 214 #[S p0 n0 n1,.string s0] w R:=cok ⟨[],[(3,[(5,.inr 3),(6,iI)])],[],[]⟩ Tryz.func214 h
def Jfj(h:C3 184 [.string s0,S none 0 0] w λa d=>R (E (I a)) d):Calls P 217 #[.string s0] w R:=cok {} Tryz.func217 h
def Ja0(h:N13 w s0 s1 λc b=>L7 b c 0 λa=>br (Op.bytesLess (Array.toList (ByteArray.data a)) (Array.toList (ByteArray.data s2))) (R (E (I (-1:Int))) b) (L7 b c 0 λa=>br (!(Op.bytesLess (Array.toList (ByteArray.data a)) (Array.toList (ByteArray.data s2))||decide (a=s2))) (R (E (I 1)) b) (R (E (I 0)) b))):Calls P 219 #[A19 s0 s1,.string s2] w R:=cok {} Tryz.func219 h
def Je1(h:i3≠0/\gB (Int.tdiv i1 i3)/\gB (Int.tdiv i1 i3*i2)/\gB (i0+Int.tdiv i1 i3*i2)/\i3≠0/\gB (Int.tmod i1 i3*i2)/\i3≠0/\gB (Int.tdiv (Int.tmod i1 i3*i2) i3)/\gB (i0+Int.tdiv i1 i3*i2+Int.tdiv (Int.tmod i1 i3*i2) i3)/\R (E (I (i0+Int.tdiv i1 i3*i2+Int.tdiv (Int.tmod i1 i3*i2) i3))) w.drew):Calls P 224 #[I i0,I i1,I i2,I i3] w R:=cok {} Tryz.func224 h
def Jah(h:N16 w i0 i1 i2 i3 i4 i5 s0 p0 n0 n1 λc e=>∀i m,New e (.map #[] 0) i m->L16 m c 7 λf g j=>xI (St:=Int) (λd a r=>B0 (d<g) (onP f λf=>D1 d g/\∃b p,Ld P 260 a (f.add (d.toNat*2)) (.agg #[I b,.string p])/\N18 a 0 (.mk #[]) λc e=>U15 e c 0 b p λn=>L4 n c 0 λb=>C2 266 [I b] n λh a=>br (!h) (R lN a) (L4 a c 0 λb=>∃o,Lk P 281 false a (.map (some i)) (I b) (I o)/\B0 (0<o) (R lN a) (L7 a c 1 λq=>B0 (1500<(↑(q.size):Int)) (R lN a) (L4 a c 0 λb=>∃l,Lk P 281 false a (.map (some i)) (I b) (I l)/\gB (l+1)/\∃e,MUp P 281 a (.map (some i)) (I b) (I (l+1)) e/\gB (d+1)/\r (d+1) e)))) (L4 a c 3 λb=>C2 266 [I b] a λh a=>br h (L7 a c 6 λd=>B0 (d=.mk #[]) (L16 a c 7 λf g j=>R (E (.bool (decide ((↑g:Int)<=20)))) a) (R lN a)) (R lN a))) 0 m):Calls P 225 #[A15 i0 i1 i2 i3 i4 i5 s0 p0 n0 n1] w R:=cok ⟨[],[(3,[(10,iI)])],[],[]⟩ Tryz.func225 h
def Jfq(h:B0 (s0=.mk #[]) (R (E (A23 0 0)) w) (((0:Int)<=(0:Int)/\(0:Int)<(↑(s0.size):Int))/\xk P 273 [.int .u8 (sb s0 (0:Int))] w λf b=>∃a i,f=E (A25 a i)/\B0 (a=(0:Int)) (R (E (A23 (-1:Int) 0)) b) (B0 ((↑(s0.size):Int)<a) (R (E (A23 (-1:Int) 0)) b) (((0:Int)<=(1:Int)/\(1:Int)<=a/\a<=(↑(s0.size):Int))/\∃e g l k,S2B P 9 159 b (.string (ByteArray.extract s0 (Int.toNat (1:Int)) (a.toNat))) (S e g l) k/\xI (St:=Int×Int) (λc b m=>B0 (c.2<g) (onP e λe=>((0:Int)<=c.2/\c.2<g)/\G25 b (e.add (c.2.toNat*1)) λa=>B1 (Vc.bits .and .u8 a (192:Int)=(128:Int)) (R (E (A23 (-1:Int) 0)) b) ((0:Int)<=(6:Int)/\inR .i32 (c.1*(2:Int)^min (Int.toNat (6:Int)) (IntKind.bits .i32))/\inR .i64 (c.2+(1:Int))/\m (Vc.bits .or .i32 (c.1*(2:Int)^min (Int.toNat (6:Int)) (IntKind.bits .i32)) (IntKind.wrap .i32 (Vc.bits .and .u8 a (63:Int))),c.2+(1:Int)) b)) (C15 274 [.int .i32 c.1] b λj h b=>br (!h) (R (E (A23 (-1:Int) 0)) b) (((0:Int)<=a/\a<=(↑(s0.size):Int))/\B1 (j=ByteArray.extract s0 0 (a.toNat)) (R (E (A23 (-1:Int) 0)) b) (R (E (A23 c.1 a)) b)))) (i,(0:Int)) k)))):Calls P 237 #[.string s0] w R:=cok ⟨[],[(7,[(5,.inl .i32),(31,.inl .i64)])],[],[]⟩ Tryz.func237 h
def Jfl(h:∀c b,New w (.cells #[.int .i32 i0,.int .i32 i1] 315) c b->∃a,Ld P 21 b (.mk c 0 none) (.int .i32 a)/\B0 (a<=i2) (∃a,Ld P 21 b (.mk c 1 none) (.int .i32 a)/\R (E (.bool (decide (i2<=a)))) b) (R (E (.bool false)) b)):Calls P 238 #[A24 i0 i1,.int .i32 i2] w R:=cok {} Tryz.func238 h
def Jfu(h:∀a d,New w (.cells #[.int .i32 0,.int .i32 0,.int .i32 0,.int .i32 0,.int .i32 0,.int .i32 0,.int .i32 0,.int .i32 0,.int .i32 0,.int .i32 0,.int .i32 0,.int .i32 0,.int .i32 0,.int .i32 0,.int .i32 0,.int .i32 0,.int .i32 0,.int .i32 0,.int .i32 0,.int .i32 0,.int .i32 0,.int .i32 0,.int .i32 0,.int .i32 0,.int .i32 0,.int .i32 0,.int .i32 0,.int .i32 0,.int .i32 0,.int .i32 0] 317) a d->∃b,St P 317 d (.mk a 0 none) (.agg #[.int .i32 65,.int .i32 90,.int .i32 95,.int .i32 95,.int .i32 97,.int .i32 122,.int .i32 192,.int .i32 214,.int .i32 216,.int .i32 246,.int .i32 248,.int .i32 767,.int .i32 880,.int .i32 893,.int .i32 895,.int .i32 8191,.int .i32 8204,.int .i32 8205,.int .i32 8304,.int .i32 8591,.int .i32 11264,.int .i32 12271,.int .i32 12289,.int .i32 55295,.int .i32 63744,.int .i32 64975,.int .i32 65008,.int .i32 65533,.int .i32 65536,.int .i32 983039]) b/\∃(c:List Value),Ld P 317 b (.mk a 0 none) (.agg (List.toArray c))/\R (E (.agg (List.toArray c))) b):Calls P 239 #[] w R:=cok {} Tryz.func239 h
def Jed(h:C3 264 [.string s0] w λb a=>B0 (b<0) (R (E (I 64)) a) (B0 (1500<(↑(s0.size):Int)) (R (E (I 67)) a) (R (E (I 0)) a))):Calls P 260 #[.string s0] w R:=cok {} Tryz.func260 h
def Jel(h:xI (St:=BA×OA×Nat×Nat) (λs0 c l=>B1 (s0.1=.mk #[]) (xk P 299 [.string s0.1] c λk c=>∃f b,k=E (A23 f b)/\B0 (b=0) (R (E (A21 none 0 0 false)) c) (∀e i,New c (.cells #[iJ f] 21) e i->∃d h g j,App P #[332,332] 332 i (S s0.2.1 s0.2.2.1 s0.2.2.2) (S (some (.mk e 0 none)) 1 1) (S d h g) j/\(0<=b/\b<=(↑(ByteArray.size s0.1):Int))/\l (ByteArray.extract s0.1 (b.toNat) (ByteArray.size s0.1),d,h,g) j)) (R (E (A21 s0.2.1 s0.2.2.1 s0.2.2.2 true)) c)) (s0,none,0,0) w):Calls P 261 #[.string s0] w R:=cok ⟨[],[(2,[(0,.inr 1),(4,.inr 3)])],[],[]⟩ Tryz.func261 h
def Jet(h:xM (λc b=>br c (R lX b) (xM (λc b=>br c (R lX b) (xM (λc b=>br c (R lX b) (B0 (63744<=i0) (B0 (i0<=64975) (R lX b) (B0 (65008<=i0) (B0 (i0<=65533) (R lX b) (B0 (65536<=i0) (R (E (.bool (decide (i0<=983039)))) b) (R lN b))) (B0 (65536<=i0) (R (E (.bool (decide (i0<=983039)))) b) (R lN b)))) (B0 (65008<=i0) (B0 (i0<=65533) (R lX b) (B0 (65536<=i0) (R (E (.bool (decide (i0<=983039)))) b) (R lN b))) (B0 (65536<=i0) (R (E (.bool (decide (i0<=983039)))) b) (R lN b))))) λ(J:Bool->Wq->Prop)=>B0 (8304<=i0) (B0 (i0<=8591) (J true b) (B0 (11264<=i0) (B0 (i0<=12271) (J true b) (B0 (12289<=i0) (J (decide (i0<=55295)) b) (J false b))) (B0 (12289<=i0) (J (decide (i0<=55295)) b) (J false b)))) (B0 (11264<=i0) (B0 (i0<=12271) (J true b) (B0 (12289<=i0) (J (decide (i0<=55295)) b) (J false b))) (B0 (12289<=i0) (J (decide (i0<=55295)) b) (J false b))))) λ(J:Bool->Wq->Prop)=>B0 (248<=i0) (B0 (i0<=767) (J true b) (B0 (880<=i0) (B0 (i0<=893) (J true b) (B0 (895<=i0) (B0 (i0<=8191) (J true b) (B0 (i0=8204) (J true b) (J (decide (i0=8205)) b))) (B0 (i0=8204) (J true b) (J (decide (i0=8205)) b)))) (B0 (895<=i0) (B0 (i0<=8191) (J true b) (B0 (i0=8204) (J true b) (J (decide (i0=8205)) b))) (B0 (i0=8204) (J true b) (J (decide (i0=8205)) b))))) (B0 (880<=i0) (B0 (i0<=893) (J true b) (B0 (895<=i0) (B0 (i0<=8191) (J true b) (B0 (i0=8204) (J true b) (J (decide (i0=8205)) b))) (B0 (i0=8204) (J true b) (J (decide (i0=8205)) b)))) (B0 (895<=i0) (B0 (i0<=8191) (J true b) (B0 (i0=8204) (J true b) (J (decide (i0=8205)) b))) (B0 (i0=8204) (J true b) (J (decide (i0=8205)) b)))))) λ(J:Bool->Wq->Prop)=>B0 (65<=i0) (B0 (i0<=90) (J true w) (B0 (i0=95) (J true w) (B0 (97<=i0) (B0 (i0<=122) (J true w) (B0 (192<=i0) (B0 (i0<=214) (J true w) (B0 (216<=i0) (J (decide (i0<=246)) w) (J false w))) (B0 (216<=i0) (J (decide (i0<=246)) w) (J false w)))) (B0 (192<=i0) (B0 (i0<=214) (J true w) (B0 (216<=i0) (J (decide (i0<=246)) w) (J false w))) (B0 (216<=i0) (J (decide (i0<=246)) w) (J false w)))))) (B0 (i0=95) (J true w) (B0 (97<=i0) (B0 (i0<=122) (J true w) (B0 (192<=i0) (B0 (i0<=214) (J true w) (B0 (216<=i0) (J (decide (i0<=246)) w) (J false w))) (B0 (216<=i0) (J (decide (i0<=246)) w) (J false w)))) (B0 (192<=i0) (B0 (i0<=214) (J true w) (B0 (216<=i0) (J (decide (i0<=246)) w) (J false w))) (B0 (216<=i0) (J (decide (i0<=246)) w) (J false w)))))):Calls P 262 #[iJ i0] w R:=cok ⟨[],[],[(2,[(36,.inr 0)]),(4,[(66,.inr 0)]),(6,[(88,.inr 0)])],[]⟩ Tryz.func262 h
def Jeq(h:C2 262 [iJ i0] w λc b=>br c (R lX b) (B0 (i0=45) (R lX b) (B0 (i0=46) (R lX b) (B0 (48<=i0) (B0 (i0<=57) (R lX b) (B0 (i0=183) (R lX b) (B0 (768<=i0) (B0 (i0<=879) (R lX b) (B0 (i0=8255) (R lX b) (R (E (.bool (decide (i0=8256)))) b))) (B0 (i0=8255) (R lX b) (R (E (.bool (decide (i0=8256)))) b))))) (B0 (i0=183) (R lX b) (B0 (768<=i0) (B0 (i0<=879) (R lX b) (B0 (i0=8255) (R lX b) (R (E (.bool (decide (i0=8256)))) b))) (B0 (i0=8255) (R lX b) (R (E (.bool (decide (i0=8256)))) b)))))))):Calls P 263 #[iJ i0] w R:=cok {} Tryz.func263 h
def Jen(h:C19 261 [.string s0] w λd b e a c=>br (!a) (R (E (I (-1:Int))) c) (R (E (I b)) c)):Calls P 264 #[.string s0] w R:=cok {} Tryz.func264 h
def Jam(h:B0 (1<=i0) (R (E (.bool (decide (i0<=4000)))) w) (R lN w)):Calls P 266 #[I i0] w R:=cok {} Tryz.func266 h
def Jfm(h:B0 (i0<128) (R (E (A25 1 (IntKind.wrap .i32 i0))) w) (B0 (i0<192) (R (E (A25 0 0)) w) (B0 (i0<224) (R (E (A25 2 (IntKind.wrap .i32 (Vc.bits .and .u8 i0 31)))) w) (B0 (i0<240) (R (E (A25 3 (IntKind.wrap .i32 (Vc.bits .and .u8 i0 15)))) w) (B0 (i0<248) (R (E (A25 4 (IntKind.wrap .i32 (Vc.bits .and .u8 i0 7)))) w) (R (E (A25 0 0)) w)))))):Calls P 273 #[iU i0] w R:=cok {} Tryz.func273 h
def Jfs(h:C2 302 [iJ i0] w λe a=>br (!e) (R (E (A12 (.mk #[]) false)) a) (B0 (i0<128) (C18 303 [iJ i0,iU 0,I 1] a λb a=>R (E (A12 b true)) a) (B0 (i0<2048) (C18 303 [iJ i0,iU 192,I 2] a λb a=>R (E (A12 b true)) a) (B0 (i0<65536) (C18 303 [iJ i0,iU 224,I 3] a λb a=>R (E (A12 b true)) a) (C18 303 [iJ i0,iU 240,I 4] a λb a=>R (E (A12 b true)) a))))):Calls P 274 #[iJ i0] w R:=cok {} Tryz.func274 h
def Jep(h:B0 (s0=.mk #[]) (R (E (A23 0 0)) w) (((0:Int)<=(0:Int)/\(0:Int)<(↑(s0.size):Int))/\xM (St:=Int×Int) (λe b=>xM (St:=Int×Int) (λf b=>xM (St:=Int×Int) (λd b=>B0 ((↑(s0.size):Int)<d.1) (R (E (A23 (-1:Int) 0)) b) (xI (St:=Int×Int) (λc b j=>B0 (c.2<d.1) (inR .i32 (c.1*(64:Int))/\((0:Int)<=c.2/\c.2<(↑(s0.size):Int))/\inR .i32 (c.1*(64:Int)+IntKind.wrap .i32 (sb s0 c.2))/\inR .i32 (c.1*(64:Int)+IntKind.wrap .i32 (sb s0 c.2)-(128:Int))/\gB (c.2+(1:Int))/\j (c.1*(64:Int)+IntKind.wrap .i32 (sb s0 c.2)-(128:Int),c.2+(1:Int)) b) (C15 313 [iJ c.1] b λh g b=>br (!g) (R (E (A23 (-1:Int) 0)) b) (((0:Int)<=d.1/\d.1<=(↑(s0.size):Int))/\B1 (h=ByteArray.extract s0 0 (d.1.toNat)) (R (E (A23 (-1:Int) 0)) b) (R (E (A23 c.1 d.1)) b)))) (d.2,(1:Int)) b)) λJ=>xM (λs0 b=>br s0 (inR .i32 (f.2-(240:Int))/\J ((4:Int),f.2-(240:Int)) b) (J (f.1,f.2) b)) λ(J:Bool->Wq->Prop)=>((0:Int)<=(0:Int)/\(0:Int)<(↑(s0.size):Int))/\B0 ((240:Int)<=sb s0 (0:Int)) (((0:Int)<=(0:Int)/\(0:Int)<(↑(s0.size):Int))/\J (decide (sb s0 (0:Int)<(248:Int))) b) (J false b)) λJ=>xM (λs0 b=>br s0 (inR .i32 (e.2-(224:Int))/\J ((3:Int),e.2-(224:Int)) b) (J (e.1,e.2) b)) λ(J:Bool->Wq->Prop)=>((0:Int)<=(0:Int)/\(0:Int)<(↑(s0.size):Int))/\B0 ((224:Int)<=sb s0 (0:Int)) (((0:Int)<=(0:Int)/\(0:Int)<(↑(s0.size):Int))/\J (decide (sb s0 (0:Int)<(240:Int))) b) (J false b)) λJ=>xM (λe b=>br e (inR .i32 (IntKind.wrap .i32 (sb s0 (0:Int))-(192:Int))/\J ((2:Int),IntKind.wrap .i32 (sb s0 (0:Int))-(192:Int)) b) (J ((1:Int),IntKind.wrap .i32 (sb s0 (0:Int))) b)) λ(J:Bool->Wq->Prop)=>((0:Int)<=(0:Int)/\(0:Int)<(↑(s0.size):Int))/\B0 ((192:Int)<=sb s0 (0:Int)) (((0:Int)<=(0:Int)/\(0:Int)<(↑(s0.size):Int))/\J (decide (sb s0 (0:Int)<(224:Int))) w) (J false w))):Calls P 299 #[.string s0] w R:=cok ⟨[],[(17,[(5,.inl .i32),(6,iI)])],[(8,[(4,iI),(5,.inl .i32)]),(6,[(21,.inr 0)]),(11,[(4,iI),(5,.inl .i32)]),(9,[(31,.inr 0)]),(14,[(4,iI),(5,.inl .i32)]),(12,[(41,.inr 0)])],[]⟩ Tryz.func299 h
def Jfi(h:B0 (i0<32) (B0 (i0=9) (R lX w) (B0 (i0=10) (R lX w) (R (E (.bool (decide (i0=13)))) w))) (B0 (i0<55296) (R lX w) (B0 (i0<57344) (R lN w) (B0 (i0<65534) (R lX w) (B0 (65536<=i0) (R (E (.bool (decide (i0<=1114111)))) w) (R lN w)))))):Calls P 302 #[iJ i0] w R:=cok {} Tryz.func302 h
def Jfn(h:gB (i2-1)/\gB (6*(i2-1))/\0<=6*(i2-1)/\N19 w (Vc.bits .or .u8 i1 (IntKind.wrap .u8 (Int.fdiv i0 (2^min (Int.toNat (6*(i2-1))) (IntKind.bits .i32))))) λc d=>gB (i2-2)/\xI (St:=(OA×Nat×Nat)×Int) (λa e m=>B0 (0<=a.2) (gB (6*a.2)/\0<=6*a.2/\N19 e (Vc.bits .or .u8 128 (Vc.bits .and .u8 (IntKind.wrap .u8 (Int.fdiv i0 (2^min (Int.toNat (6*a.2)) (IntKind.bits .i32)))) 63)) λc d=>∃f i h k,App P #[159,159] 159 d (S a.1.1 a.1.2.1 a.1.2.2) (S (some (.mk c 0 none)) 1 1) (S f i h) k/\gB (a.2-1)/\m ((f,i,h),a.2-1) k) (∃j,B2S P 159 9 e (S a.1.1 a.1.2.1 a.1.2.2) (.string j)/\R (E (.string j)) e)) ((some (.mk c 0 none),1,1),i2-2) d):Calls P 303 #[iJ i0,iU i1,I i2] w R:=cok ⟨[],[(3,[(7,.inr 3),(8,iI)])],[],[]⟩ Tryz.func303 h
def Jer(h:C2 316 [iJ i0] w λd b=>br (!d) (R (E (A12 (.mk #[]) false)) b) (B0 (i0<(128:Int)) (N19 b (IntKind.wrap .u8 i0) λd c=>∃f,B2S P 159 9 c (S (some (.mk d 0 none)) 1 1) (.string f)/\R (E (A12 f true)) c) (B0 (i0<(2048:Int)) ((64:Int)≠(0:Int)/\inR .i32 (Int.tdiv i0 (64:Int))/\inR .i32 ((192:Int)+Int.tdiv i0 (64:Int))/\C21 317 [iJ i0,iJ 1] b λg b=>∀d c,New b (.cells #[iU (IntKind.wrap .u8 ((192:Int)+Int.tdiv i0 (64:Int))),iU g] 5) d c->∃f,B2S P 159 9 c (S (some (.mk d 0 none)) 2 2) (.string f)/\R (E (A12 f true)) c) (B0 (i0<(65536:Int)) ((4096:Int)≠(0:Int)/\inR .i32 (Int.tdiv i0 (4096:Int))/\inR .i32 ((224:Int)+Int.tdiv i0 (4096:Int))/\C21 317 [iJ i0,iJ 64] b λg b=>C21 317 [iJ i0,iJ 1] b λh b=>∀d c,New b (.cells #[iU (IntKind.wrap .u8 ((224:Int)+Int.tdiv i0 (4096:Int))),iU g,iU h] 5) d c->∃f,B2S P 159 9 c (S (some (.mk d 0 none)) 3 3) (.string f)/\R (E (A12 f true)) c) ((262144:Int)≠(0:Int)/\inR .i32 (Int.tdiv i0 (262144:Int))/\inR .i32 ((240:Int)+Int.tdiv i0 (262144:Int))/\C21 317 [iJ i0,iJ 4096] b λg b=>C21 317 [iJ i0,iJ 64] b λh b=>C21 317 [iJ i0,iJ 1] b λi b=>∀d c,New b (.cells #[iU (IntKind.wrap .u8 ((240:Int)+Int.tdiv i0 (262144:Int))),iU g,iU h,iU i] 5) d c->∃f,B2S P 159 9 c (S (some (.mk d 0 none)) 4 4) (.string f)/\R (E (A12 f true)) c))))):Calls P 313 #[iJ i0] w R:=cok {} Tryz.func313 h
def Jem(h:B0 (i0=9) (R lX w) (B0 (i0=10) (R lX w) (B0 (i0=13) (R lX w) (B0 (32<=i0) (B0 (i0<=55295) (R lX w) (B0 (57344<=i0) (B0 (i0<=65533) (R lX w) (B0 (65536<=i0) (R (E (.bool (decide (i0<=1114111)))) w) (R lN w))) (B0 (65536<=i0) (R (E (.bool (decide (i0<=1114111)))) w) (R lN w)))) (B0 (57344<=i0) (B0 (i0<=65533) (R lX w) (B0 (65536<=i0) (R (E (.bool (decide (i0<=1114111)))) w) (R lN w))) (B0 (65536<=i0) (R (E (.bool (decide (i0<=1114111)))) w) (R lN w))))))):Calls P 316 #[iJ i0] w R:=cok {} Tryz.func316 h
def Jes(h:i1≠(0:Int)/\inR .i32 (Int.tdiv i0 i1)/\(64:Int)≠(0:Int)/\inR .i32 ((128:Int)+Int.tmod (Int.tdiv i0 i1) (64:Int))/\R (E (iU (IntKind.wrap .u8 ((128:Int)+Int.tmod (Int.tdiv i0 i1) (64:Int))))) w):Calls P 317 #[iJ i0,iJ i1] w R:=cok {} Tryz.func317 h
end
open Go.Proofs Go.RowKit Go.Maps Go.Sort Go.Shelf
def FB {P : Program} {f : FuncId} {B : Func} (h1 : ((((P.funcs[f]?).map (·.name)).getD "") == "runtime.NumGoroutine") = false := by kernel_rfl) (h2 : P.funcs[f]? = some { B with name := ((P.funcs[f]?).map (·.name)).getD "" } := by kernel_rfl) : Bears P f B := ⟨_, h1, h2⟩
def uV:Ren:= {f:=λ|7=>103|10=>160|n=>n,t:=λ|23=>147|26=>9|3=>3|28=>181|0=>0|27=>180|33=>213|4=>4|n=>n,g:=λn=>n}
def vZ:SlLaysZ.n7 PP uV:=by constructor<;>first|(intros;kernel_rfl)|exact FB
def YP:Ren:= {f:=λ|6=>102|8=>159|9=>130|11=>223|13=>178|12=>191|23=>234|24=>235|14=>242|15=>243|16=>244|17=>245|18=>246|19=>247|20=>155|21=>248|22=>249|25=>284|26=>268|27=>269|28=>285|29=>286|30=>222|31=>308|n=>n,t:=λ|26=>9|28=>181|24=>106|0=>0|3=>3|37=>244|48=>308|50=>310|4=>4|40=>302|39=>301|45=>175|5=>5|9=>9|51=>335|55=>339|57=>359|58=>157|33=>213|n=>n,g:=λn=>n}
def TQ:SlLaysZ.n6 PP YP:=by constructor<;>first|(intros;kernel_rfl)|exact FB
def sortSR:Ren:= {f:=λ|6=>130|8=>178|9=>191|19=>234|20=>235|21=>242|22=>243|23=>244|24=>245|25=>246|26=>247|27=>155|28=>248|29=>249|36=>284|31=>268|32=>269|37=>285|38=>286|39=>222|41=>308|n=>n,t:=λ|27=>106|29=>9|3=>3|32=>244|26=>106|0=>0|44=>308|46=>310|4=>4|36=>302|35=>301|41=>175|5=>5|9=>9|53=>335|57=>339|63=>359|64=>157|n=>n,g:=λn=>n}
def YG:SlLaysM.n6 PP sortSR:=by constructor<;>first|(intros;kernel_rfl)|exact FB
def Yi:Ren:= {f:=λ|6=>128|8=>188|9=>189|11=>240|13=>178|12=>241|23=>234|24=>235|14=>275|15=>276|16=>277|17=>278|18=>279|19=>280|20=>281|21=>282|22=>283|25=>304|26=>268|27=>269|28=>305|29=>306|30=>307|31=>314|n=>n,t:=λ|26=>3|28=>217|24=>59|0=>0|3=>3|37=>244|48=>308|50=>310|4=>4|40=>302|39=>301|45=>175|5=>5|9=>9|51=>335|55=>339|57=>359|58=>157|33=>143|n=>n,g:=λn=>n}
def sortedIL:SlLaysZI.n6 PP Yi:=by constructor<;>first|(intros;kernel_rfl)|exact FB
def sortIR:Ren:= {f:=λ|5=>189|8=>178|7=>241|19=>234|20=>235|10=>275|11=>276|12=>277|13=>278|14=>279|15=>280|16=>281|17=>282|18=>283|30=>304|31=>268|32=>269|33=>305|34=>306|35=>307|40=>314|n=>n,t:=λ|23=>59|25=>3|3=>3|32=>244|22=>59|0=>0|44=>308|46=>310|4=>4|36=>302|35=>301|41=>175|5=>5|9=>9|53=>335|57=>339|63=>359|64=>157|n=>n,g:=λn=>n}
def vT:SlLaysM.n5 PP sortIR:=by constructor<;>first|(intros;kernel_rfl)|exact FB
def wL:Ren:= {f:=λ|7=>107|10=>166|n=>n,t:=λ|23=>83|26=>9|3=>101|28=>181|0=>0|27=>180|33=>213|4=>4|n=>n,g:=λn=>n}
def vV:SlLaysZ.n7 PP wL:=by constructor<;>first|(intros;kernel_rfl)|exact FB
def vz:Ren:= {f:=λ|7=>109|10=>168|n=>n,t:=λ|23=>114|26=>9|3=>192|28=>181|0=>0|27=>180|33=>213|4=>4|n=>n,g:=λn=>n}
def vw:SlLaysZ.n7 PP vz:=by constructor<;>first|(intros;kernel_rfl)|exact FB
def ut:Ren:= {f:=λ|7=>129|10=>190|n=>n,t:=λ|23=>125|26=>3|3=>106|28=>217|0=>0|27=>156|33=>143|4=>4|n=>n,g:=λn=>n}
def vO:SlLaysZI.n7 PP ut:=by constructor<;>first|(intros;kernel_rfl)|exact FB
def KFZ:Ren:= {f:=λ|6=>118|15=>178|14=>177|28=>234|29=>235|20=>226|21=>227|22=>228|23=>229|24=>230|25=>231|26=>232|27=>233|46=>267|47=>268|48=>269|49=>270|50=>271|57=>301|n=>n,t:=λ|22=>39|24=>55|25=>208|3=>3|39=>244|0=>0|53=>308|55=>310|4=>4|46=>302|45=>301|50=>175|5=>5|9=>9|66=>335|70=>339|76=>359|77=>157|n=>n,g:=λn=>n}
def sfCL:SlLaysF0.n6 PP KFZ:=by constructor<;>first|(intros;kernel_rfl)|exact FB
def KFa:Ren:= {f:=λ|6=>132|15=>178|14=>194|28=>234|29=>235|20=>250|21=>251|22=>252|23=>253|24=>254|25=>255|26=>256|27=>257|46=>287|47=>268|48=>269|49=>288|50=>289|57=>309|n=>n,t:=λ|22=>126|24=>204|25=>223|3=>3|39=>244|0=>0|53=>308|55=>310|4=>4|46=>302|45=>301|50=>175|5=>5|9=>9|66=>335|70=>339|76=>359|77=>157|n=>n,g:=λn=>n}
def sfRL:SlLaysF0.n6 PP KFa:=by constructor<;>first|(intros;kernel_rfl)|exact FB
def KFY:Ren:= {f:=λ|6=>199|15=>178|14=>258|28=>234|29=>235|20=>290|21=>291|22=>292|23=>293|24=>294|25=>295|26=>296|27=>297|46=>310|47=>268|48=>269|49=>311|50=>312|57=>315|n=>n,t:=λ|22=>69|24=>142|25=>280|3=>3|39=>244|0=>0|53=>308|55=>310|4=>4|46=>302|45=>301|50=>175|5=>5|9=>9|66=>335|70=>339|76=>359|77=>157|n=>n,g:=λn=>n}
def sfAL:SlLaysF0.n6 PP KFY:=by constructor<;>first|(intros;kernel_rfl)|exact FB
section
variable{w:World}{R:Ending->World->Prop}{p0 p1 p2:Option Addr}{n0 n1 n2 n3:Nat}{i0 i1 i2 i3 i4 i5 i6 i7 i8 i9 i10 i11:Int}{s0 s1 s2 s3:ByteArray}{b0 b1:Bool}{m0:Option Nat}{v0:Value}
def Jar(h:xI (St:=Int×Int) (λa d q=>B0 (a.2<n0) (onP p0 λe=>D1 a.2 n0/\G4 d (e.add (a.2.toNat*7)) λj k l m n o i b c=>N2 d 0 0 0 0 (.mk #[]) (.mk #[]) none 0 0 λf p=>U2 p f 0 j k l m n o i b c λh=>L6 h f 6 λe b c=>q (IntKind.wrap .i64 (a.1+b),IntKind.wrap .i64 (a.2+1)) h) (B0 ((↑n0:Int)<=50) (R (E (.bool (decide (a.1<=1200)))) d) (R lN d))) (0,0) w):Calls P 11 #[S p0 n0 n1] w R:=cok ⟨[0,1,2,3,4,5,6,7,8,9,10,11,12],[(3,[(3,iI),(8,iI)])],[],[]⟩ Tryz.func11 h
end
end Go.Proofs.YtljenkbpnioipaaGreat
namespace Go.Vc
open Go
noncomputable section
def dec(p:Prop):Bool:= @decide p (Classical.propDecidable p)
def DI{p:Prop}:dec p=true↔p:=by unfold dec;exact @decide_eq_true_iff p (Classical.propDecidable p)
def MR{p q:Prop}[Decidable p](h:p↔q):decide p=dec q:=by
 rw[iD,DI,decide_eq_true_iff];exact h
def DV{q:Prop}(h:q):true=dec q:=(DI.2 h).symm
theorem Bz{q:Prop}(h:¬q):false=dec q:=by
 cases e:dec q with
 |false=>rfl
 |true=>exact(h (DI.1 e)).elim
def not_dec_of{p q:Prop}[Decidable p](h:¬p↔q):(!decide p)=dec q:=by
 rw[iD,DI,lC,decide_eq_false_iff_not];exact h
def KAl{p:Prop}{x y:Prop}(a:p->x)(b:¬p->y):br (dec p) x y:=
 Du (λh=>a (DI.1 h)) (λh=>b λc=>by rw[DI.2 c]at h;cases h)
def Hg{p:Prop}{x y:Prop}(a:¬p->x)(b:p->y):br (!dec p) x y:=
 Es (λh=>a λc=>by rw[DI.2 c]at h;cases h) (λh=>b (DI.1 h))
end
def rQ{P:Program}{e n a:Nat}{cs vs:LV}(A:Agg P e n)(h:(cs.drop a).take n=vs):Prt P e cs a (.agg vs.toArray):=by
 intro w;simp only[part,Sem.run_bind,Ih A.agg,Result.andThen_ok,if_true,yI A.size,Sem.run_pure];congr 2;apply iF.1;rw[<- h];simp[kJ,gu]
def IP{z:Int}:inR .i32 z↔ -2147483648<=z/\z<=2147483647:=by
 simp[inR,IntKind.min,IntKind.max,IntKind.signed,IntKind.bits]
end Go.Vc
namespace Go.Proofs.YtljenkbpnioipaaGreat
open Go Go.Vc Go.Nod
def KFd:Scl PP 21:=BQ (by kernel_rfl)
def xK:Scl PP 3:=BQ (by kernel_rfl)
def yU8:Scl PP 5:=BQ (by kernel_rfl)
def xx:Scl PP 9:=BQ (by kernel_rfl)
def yFn:Scl PP 269:=BQ (by kernel_rfl)
def WY:Agg PP 315 2:=DN (by kernel_rfl)
def vC:Agg PP 317 30:=DN (by kernel_rfl)
def xG:Elt PP 159 5 1 1:=DU (by kernel_rfl)
def Yv:PP.underlying 9=some .string:=by kernel_rfl
def XX:PP.underlying 159=some (.slice 5):=by kernel_rfl
def ZY:PP.underlying 5=some (.int .u8):=by kernel_rfl
def XT(a b c:Int)(w:Wq):CP 238 #[.agg #[iJ a,iJ b],iJ c] w λe w'=>e=Ej (.bool (dec (a<=c/\c<=b)))/\Hp [] w w' []:=by
 apply Jfl;intro p g f;have H:=(Hp.start w).nw f;refine⟨_,H.lo KFd,AB (λh=>⟨_,H.lo KFd,?_,H.drop⟩) (λh=>⟨?_,H.drop⟩)⟩
 ·rw[MR (q:=a<=c/\c<=b) ⟨λd=>⟨h,d⟩,λd=>d.2⟩]
 rw[Bz (q:=a<=c/\c<=b) λd=>h d.1]
def spC(l:List (Int×Int)):LV:=l.flatMap λp=>[iJ p.1,iJ p.2]
theorem Z5:∀(l:List (Int×Int))(k:Nat)(p:Int×Int),l[k]? =some p->((spC l).drop (k*2)).take 2=[iJ p.1,iJ p.2]
 |q::r,0,p,h=>by cases h;rfl
 |q::r,k+1,p,h=>by
  rw[show(k+1)*2=k*2+2 by omega,<- dS];rw[show(spC (q::r)).drop (k*2)=(spC (q::r)).drop (k*2)from rfl,dS,iG,<- dS];exact Z5 r k p h
def Cb:List (Int×Int):=[(65,90),(95,95),(97,122),(192,214),(216,246),(248,767),(880,893),(895,8191),(8204,8205),(8304,8591),(11264,12271),(12289,55295),(63744,64975),(65008,65533),(65536,983039)]
def Ve:List (Int×Int):=[(45,46),(48,57),(183,183),(768,879),(8255,8256)]
def inL(l:List (Int×Int))(c:Int):Prop:=∃p∈l,p.1<=c/\c<=p.2
def WV{c:Int}:inL Cb c↔EH c:=by simp[inL,Cb,EH]
def Tc{c:Int}:inL Ve c\/EH c↔IB c:=by
 simp only[inL,Ve,IB,aP,iP,or_false,exists_eq_or_imp,exists_eq_left];constructor
 ·rintro((h|h|h|h|h)|h)
  ·exact .inl h
  ·exact .inr (.inl h)
  ·exact .inr (.inr (.inl h))
  ·exact .inr (.inr (.inr (.inl h)))
  ·exact .inr (.inr (.inr (.inr (.inl h))))
  exact .inr (.inr (.inr (.inr (.inr h))))
 rintro(h|h|h|h|h|h)
 ·exact .inl (.inl h)
 ·exact .inl (.inr (.inl h))
 ·exact .inl (.inr (.inr (.inl h)))
 ·exact .inl (.inr (.inr (.inr (.inl h))))
 ·exact .inl (.inr (.inr (.inr (.inr h))))
 exact .inr h
def yStarts_spec(w:Wq):CP 239 #[] w λe w'=>e=Ej (.agg (spC Cb).toArray)/\Hp [] w w' []:=by
 apply Jfu;intro p b a;have H:=(Hp.start w).nw a;refine Hp.stA H EQ4 vC rfl rfl (by simp) rfl λc H=>?_;exact⟨spC Cb,H.loA vC,rfl,H.drop⟩
def RD(c:Int)(w:Wq):CP 187 #[iJ c] w λe w'=>e=Ej (.bool (dec (EH c)))/\Hp [] w w' []:=by
 apply Jft;refine AC (yStarts_spec w) ?_;rintro _ x ⟨rfl,H⟩;refine⟨spC Cb,rfl,?_⟩;refine xI.mk (λm s w'=>∃k:Nat,m=15-k/\k<=15/\s=(k:Int)/\Hp [] w w' []/\∀(j:Nat)(p:Int×Int),j<k->Cb[j]? =some p->¬(p.1<=c/\c<=p.2)) 15 ⟨0,rfl,om,rfl,H,λj p i=>by omega⟩ ?_;rintro m s y next ⟨k,rfl,z,rfl,H,d⟩ a
 refine AB (λh=>?_) (λh=>?_)
 ·have l:k<Cb.length:=by show k<15;omega
  obtain⟨p,f⟩:∃p,Cb[k]? =some p:=⟨_,aB l⟩;refine⟨⟨om,om⟩,p.1,p.2,rQ WY (Z5 Cb k p f),?_⟩;intro b A o;replace H:=H.nw o;refine Hp.stA H EQ4 WY rfl rfl (by simp) rfl λB H=>?_;refine⟨p.1,p.2,H.loA WY,AC (XT _ _ _ _) ?_⟩;rintro _ C ⟨rfl,r⟩;replace H:=H.xN r;refine⟨_,rfl,KAl (λg=>⟨?_,H.drop⟩) (λg=>⟨iR,a _ _ _ ?_ ⟨k+1,rfl,om,om,H.drop,λj q i n=>?_⟩⟩)⟩
  ·rw[DV (WV.1 ⟨p,aC f,g⟩)]
  ·omega
  by_cases e:j=k
  ·subst e;rw[f]at n;cases n;exact g
  exact d j q om n
 refine⟨?_,H⟩;rw[Bz λg=>?_];obtain⟨p,f,t⟩:=WV.2 g;obtain⟨j,i⟩:=bD f;have u:=(aA.1 i).1;have:Cb.length=15:=rfl;exact d j p om i t
def yPart_spec(c:Int)(w:Wq):CP 186 #[iJ c] w λe w'=>e=Ej (.bool (dec (IB c)))/\Hp [] w w' []:=by
 apply Jfr;refine xI.mk (λm s w'=>∃k:Nat,m=5-k/\k<=5/\s=(k:Int)/\Hp [] w w' []/\∀(j:Nat)(p:Int×Int),j<k->Ve[j]? =some p->¬(p.1<=c/\c<=p.2)) 5 ⟨0,rfl,om,rfl,Hp.start w,λj p g=>by omega⟩ ?_;rintro m s r next ⟨k,rfl,z,rfl,H,d⟩ a
 refine AB (λh=>?_) (λh=>?_)
 ·have i:k<Ve.length:=by show k<5;omega
  obtain⟨p,f⟩:∃p,Ve[k]? =some p:=⟨_,aB i⟩;refine⟨⟨om,om⟩,p.1,p.2,rQ WY (Z5 Ve k p f),?_⟩;intro b t u;replace H:=H.nw u;refine Hp.stA H EQ4 WY rfl rfl (by simp) rfl λA H=>?_;refine⟨p.1,p.2,H.loA WY,AC (XT _ _ _ _) ?_⟩;rintro _ B ⟨rfl,l⟩;replace H:=H.xN l;refine⟨_,rfl,KAl (λn=>⟨?_,H.drop⟩) (λn=>⟨iR,a _ _ _ ?_ ⟨k+1,rfl,om,om,H.drop,λj q g o=>?_⟩⟩)⟩
  ·rw[DV (Tc.1 (.inl ⟨p,aC f,n⟩))]
  ·omega
  by_cases e:j=k
  ·subst e;rw[f]at o;cases o;exact n
  exact d j q om o
 refine AC (RD c r) ?_;rintro _ t ⟨rfl,l⟩;refine⟨_,rfl,?_,H.xN l⟩;rw[Ending.returned.injEq,Value.bool.injEq,iD,DI,DI];refine⟨λh=>Tc.1 (.inr h),λh=>(Tc.2 h).resolve_left ?_⟩;rintro⟨p,f,x⟩;obtain⟨j,g⟩:=bD f;have y:=(aA.1 g).1;have:Ve.length=5:=rfl;exact d j p om g x
def yChar_spec(c:Int)(w:Wq):CP 302 #[iJ c] w λe w'=>e=Ej (.bool (dec (CS c)))/\Hp [] w w' []:=by
 apply Jfi;have t:CS c->Ending.returned (.bool true)=Ej (.bool (dec (CS c)))/\Hp [] w w []:=λh=>⟨by rw[<- DV h],Hp.start w⟩;have f:¬CS c->Ending.returned (.bool false)=Ej (.bool (dec (CS c)))/\Hp [] w w []:=λh=>⟨by rw[<- Bz h],Hp.start w⟩;have d:∀{p:Prop} [Decidable p],(p↔CS c)->Ending.returned (.bool (decide p))=Ej (.bool (dec (CS c)))/\Hp [] w w []:=λh=>⟨by rw[MR h],Hp.start w⟩;unfold CS at*;refine AB (λh=>AB (λa=>t om) (λa=>AB (λb=>t om) (λb=>d om))) (λh=>?_);refine AB (λa=>t om) (λa=>AB (λb=>f om) (λb=>AB (λg=>t om) (λg=>AB (λi=>d om) (λi=>f om))))
def F6{z:Int}(h: -2147483648<=z/\z<=2147483647):IntKind.i32.wrap z=z:=KAs (IP.2 h)
def cont_byte:∀y:Fin 256,Vc.bits .or .u8 128 (Vc.bits .and .u8 (y.val:Int) 63)=128+(y.val:Int)%64:=by decide+kernel
def and_63:∀y:Fin 256,Vc.bits .and .u8 (y.val:Int) 63=(y.val:Int)%64:=by decide+kernel
def and_31:∀y:Fin 256,Vc.bits .and .u8 (y.val:Int) 31=(y.val:Int)%32:=by decide+kernel
def and_15:∀y:Fin 256,Vc.bits .and .u8 (y.val:Int) 15=(y.val:Int)%16:=by decide+kernel
def and_7:∀y:Fin 256,Vc.bits .and .u8 (y.val:Int) 7=(y.val:Int)%8:=by decide+kernel
def and_192:∀y:Fin 256,(Vc.bits .and .u8 (y.val:Int) 192=128)↔(128<=y.val/\y.val<192):=by decide+kernel
def or_0:∀y:Fin 128,Vc.bits .or .u8 0 (y.val:Int)=(y.val:Int):=by decide+kernel
def or_192:∀y:Fin 32,Vc.bits .or .u8 192 (y.val:Int)=192+(y.val:Int):=by decide+kernel
def or_224:∀y:Fin 16,Vc.bits .or .u8 224 (y.val:Int)=224+(y.val:Int):=by decide+kernel
def or_240:∀y:Fin 8,Vc.bits .or .u8 240 (y.val:Int)=240+(y.val:Int):=by decide+kernel
def Nr{n:Nat}{z:Int}(h:0<=z)(a:z<n):∃y:Fin n,z=(y.val:Int):=⟨⟨z.toNat,om⟩,by dsimp only;omega⟩
def or_six(c y:Nat)(d:c<33554432)(e:y<64):Vc.bits .or .i32 ((c:Int)*64) (y:Int)=((c*64+y:Nat):Int):=by
 show IntKind.i32.wrap ((BitVec.ofInt 32 ((c:Int)*64)|||BitVec.ofInt 32 (y:Int)).toNat:Int)=_;rw[BitVec.toNat_or,BitVec.toNat_ofInt,BitVec.toNat_ofInt];have a:(((c:Int)*64)%((2^32:Nat):Int)).toNat=c<<<6:=by rw[jf];omega
 have b:((y:Int)%((2^32:Nat):Int)).toNat=y:=om;rw[a,b,<- ji om,jf];exact F6 om
def KBw(c:Int)(k:Nat):UInt8:=u8 (128+c/64^k%64)
def O5(c:Int)(k:Nat)(h:k<=5){j:Int}(a:j=k):Int.fdiv c ((2:Int)^min (Int.toNat (6*j)) (IntKind.bits IntKind.i32))=c/64^k:=by
 subst a;have b:Int.toNat ((6:Int)*(k:Int))=6*k:=om;have d:min (6*k) (IntKind.bits IntKind.i32)=6*k:=by simp only[IntKind.bits];omega
 rw[b,d,kK _ (pW (Int.pow_pos om)),qI];rfl
def six_byte(c:Int)(k:Nat)(h:k<=5){j:Int}(a:j=k):Vc.bits .or .u8 128 (Vc.bits .and .u8 (IntKind.u8.wrap (Int.fdiv c ((2:Int)^min (Int.toNat (6*j)) (IntKind.bits IntKind.i32)))) 63)=((KBw c k).toNat:Int):=by
 rw[O5 c k h a,Fh];obtain⟨y,b⟩:=Nr (n:=256) (z:=c/64^k%256) om om;rw[b,cont_byte,KBw,IK om om];omega
def yLaid_spec(c d:Int)(many:Nat)(f:UInt8)(u:1<=many)(o:many<=4)(w:Wq)
  (p:Vc.bits .or .u8 d (IntKind.u8.wrap (Int.fdiv c ((2:Int)^min (Int.toNat (6*((many:Int)-1))) (IntKind.bits IntKind.i32))))=(f.toNat:Int)):
  CP 303 #[iJ c,iU d,I (many:Int)] w λe w'=>e=Ej (sv (f::(List.range (many-1)).map λj=>KBw c (many-2-j)))/\Hp [] w w' []:=by
 apply Jfn;refine⟨iR,iR,om,λb x i=>?_⟩;rw[p]at i;have H:=((Hp.start w).nw i).xB 1 1 rfl (by simp[maxLen]);refine⟨iR,?_⟩
 refine xI.mk (λm s w'=>∃(k:Nat)(a:OA)(l:Nat),m=many-1-k/\k<=many-1/\s=((a,k+1,l),(many:Int)-2-(k:Int))/\
  Hp [] w w' [.own 5 1 a (k+1) l (Ae (f::(List.range k).map λj=>KBw c (many-2-j)))]) (many-1) ⟨0,_,_,om,om,by simp,H⟩ ?_
 rintro m s y next ⟨k,a,l,rfl,z,rfl,H⟩ g
 dsimp only;refine AB (λh=>?_) (λh=>?_)
 ·refine⟨iR,om,λA B i=>?_⟩;rw[six_byte c (many-2-k) om om]at i;replace H:=H.nw i;have q:=H.AX;refine Hp.app xG om q EQ4 (Blk.src XX (H.blk (.head _)) rfl rfl) (by simp only[maxLen];omega) om ?_;intro r t C H;refine⟨iR,g (many-1-(k+1)) _ _ om ⟨k+1,r,t,rfl,om,?_,?_⟩⟩
  ·have:(many:Int)-2-(k:Int)-1=(many:Int)-2-((k+1:Nat):Int):=om;rw[this]
  rw[gQ,ai]
  have e:Ae (f::((List.range k).map (λj=>KBw c (many-2-j))++[k].map λj=>KBw c (many-2-j)))=Ae (f::(List.range k).map λj=>KBw c (many-2-j))++[iU ((KBw c (many-2-k)).toNat:Int)]:=by
   rw[<- aH,DK];rfl
  rw[e];exact H.KBe
 have n:k=many-1:=om;subst n;refine⟨⟨(f::(List.range (many-1)).map λj=>KBw c (many-2-j)).toArray⟩,b2s XX ZY Yv ?_ ?_,rfl,H.drop⟩
 ·rw[DF];exact(H.xh (.head _)).cells
 rw[Gy];simp
def yPut_spec(c:Int)(w:Wq):CP 274 #[iJ c] w λe w'=>((CS c/\e=Ej (.tuple #[sv (yD c),.bool true]))\/(¬CS c/\e=Ej (.tuple #[sv [],.bool false])))/\Hp [] w w' []:=by
 apply Jfs;refine AC (yChar_spec c w) ?_;rintro _ o ⟨rfl,H⟩;refine⟨_,rfl,Hg (λh=>⟨.inr ⟨h,rfl⟩,H⟩) (λh=>?_)⟩;have u:0<=c/\c<=1114111:=by unfold CS at h;omega
 have d:∀(f:UInt8)(a:Nat)(b:Int),1<=a->a<=4->yD c=(f::(List.range (a-1)).map λj=>KBw c (a-2-j))->
   Vc.bits .or .u8 b (IntKind.u8.wrap (Int.fdiv c ((2:Int)^min (Int.toNat (6*((a:Int)-1))) (IntKind.bits IntKind.i32))))=(f.toNat:Int)->
   xk PP 303 [iJ c,iU b,I (a:Int)] o λe w'=>∃s,e=Ej (.string s)/\(((CS c/\Ending.returned (.tuple #[.string s,.bool true])=Ej (.tuple #[sv (yD c),.bool true]))\/(¬CS c/\Ending.returned (.tuple #[.string s,.bool true])=Ej (.tuple #[sv [],.bool false])))/\Hp [] w w' []):=by
  intro f a b g p q r;refine AC (yLaid_spec c b a f g p o r) ?_;rintro _ x ⟨rfl,t⟩;exact⟨_,rfl,.inl ⟨h,by rw[q];rfl⟩,H.xN t⟩
 refine AB (λg=>?_) (λg=>AB (λl=>?_) (λl=>AB (λm=>?_) (λm=>?_)))
 ·refine d (u8 c) 1 0 om om (by rw[yD,if_pos g];rfl) ?_;rw[O5 c 0 om om,Fh];obtain⟨y,i⟩:=Nr (z:=c) om om;have e:c/64^0%256=(y.val:Int):=by rw[nY];omega
  rw[e,or_0,IK om om,i]
 ·refine d (u8 (192+c/64)) 2 192 om om (by rw[yD,if_neg g,if_pos l];simp[gQ,KBw]) ?_;rw[O5 c 1 om om,Fh];obtain⟨y,i⟩:=Nr (n:=32) (z:=c/64) om om;have e:c/64^1%256=(y.val:Int):=by rw[qA,nY];omega
  rw[e,or_192,IK om om,i]
 ·refine d (u8 (224+c/4096)) 3 224 om om (by rw[yD,if_neg g,if_neg l,if_pos m];simp[gQ,KBw]) ?_;rw[O5 c 2 om om,Fh];obtain⟨y,i⟩:=Nr (n:=16) (z:=c/4096) om om;have e:c/64^2%256=(y.val:Int):=by rw[show(64:Int)^2=4096 by decide];omega
  rw[e,or_224,IK om om,i]
 refine d (u8 (240+c/262144)) 4 240 om om (by rw[yD,if_neg g,if_neg l,if_neg m];simp[gQ,KBw]) ?_;rw[O5 c 3 om om,Fh];obtain⟨y,i⟩:=Nr (n:=8) (z:=c/262144) om om;have e:c/64^3%256=(y.val:Int):=by rw[show(64:Int)^3=262144 by decide];omega
 rw[e,or_240,IK om om,i]
def yHead_spec(x:UInt8)(w:Wq):CP 273 #[iU (x.toNat:Int)] w λe w'=>e=Ej (.tuple #[I ((Dc x.toNat).1:Int),iJ (Dc x.toNat).2])/\Hp [] w w' []:=by
 apply Jfm;have m:=x.toNat_lt;obtain⟨y,d⟩:=Nr (n:=256) (z:=(x.toNat:Int)) om om
 have c:∀{a b:Int},Dc x.toNat=(a.toNat,b)->0<=a->Ending.returned (.tuple #[I a,iJ b])=Ej (.tuple #[I ((Dc x.toNat).1:Int),iJ (Dc x.toNat).2])/\Hp [] w w []:=λh f=>by
  rw[h,jI f];exact⟨rfl,Hp.start w⟩
 refine AB (λh=>?_) (λh=>AB (λg=>?_) (λg=>AB (λi=>?_) (λi=>AB (λj=>?_) (λj=>AB (λl=>?_) (λl=>?_)))))
 ·refine c ?_ om;rw[Dc,if_pos om,F6 om];rfl
 ·refine c ?_ om;rw[Dc,if_neg om,if_pos om];rfl
 ·refine c ?_ om;rw[Dc,if_neg om,if_neg om,if_pos om,d,and_31,F6 om];rfl
 ·refine c ?_ om;rw[Dc,if_neg om,if_neg om,if_neg om,if_pos om,d,and_15,F6 om];rfl
 ·refine c ?_ om;rw[Dc,if_neg om,if_neg om,if_neg om,if_neg om,if_pos om,d,and_7,F6 om];rfl
 refine c ?_ om;rw[Dc,if_neg om,if_neg om,if_neg om,if_neg om,if_neg om];rfl
def OO(c:Int)(l:LU)(x:UInt8):FT c (l++[x])=FT c l*64+(x.toNat:Int)%64:=by simp[FT]
def headN_le(x:Nat):(Dc x).1<=4/\0<=(Dc x).2/\((Dc x).1≠1->(Dc x).2<32):=by
 unfold Dc
 repeat' split
 all_goals exact⟨om,om,om⟩
def Xw{c:Int}(h:Dec [] c):False:=by
 have:=KP h.1;have a:=h.2.length_le;rw[dK]at a;omega
def uM(l:LU)(e:Ending):Prop:=
 (∃c,Dec l c/\e=Ej (.tuple #[iJ c,I ((yD c).length:Int)]))\/((∀c,¬Dec l c)/\∃z,e=Ej (.tuple #[iJ z,I 0]))
def BO(s:BA):s.data.toList.length=s.size:=by rw[bT];rfl
def FQ{s:BA}:s=⟨#[]⟩↔s.data.toList=[]:=by
 constructor
 ·rintro rfl;rfl
 intro h;exact eqB h
def J8(s:BA)(i j:Nat):(s.extract i j).data.toList=(s.data.toList.take j).drop i:=by
 have:=X7 s.data.toList i j;rw[<- qY]at this;rw[this]
def yNext_spec(s:BA)(hs:s.size<=maxLen)(w:Wq):CP 237 #[.string s] w λe w'=>uM s.data.toList e/\Hp [] w w' []:=by
 apply Jfq;obtain⟨l,p⟩:∃l,l=s.data.toList:=⟨_,rfl⟩;have M:l.length=s.size:=by rw[p];exact BO s
 simp only[maxLen]at hs;rw[<- p];have f:∀(z:Int)(w':Wq),(∀c,¬Dec l c)->Hp [] w w' []->uM l (Ej (.tuple #[iJ z,I 0]))/\Hp [] w w' []:=λz w' h H=>⟨.inr ⟨h,z,rfl⟩,H⟩;refine AB (λh=>?_) (λh=>?_)
 ·refine f 0 w (λc d=>?_) (Hp.start w);rw[p,FQ.1 h]at d;exact Xw d
 have N:l≠[]:=λe=>h (FQ.2 (by rw[<- p];exact e));obtain⟨x,t,O⟩:=dX N
 have R:sb s 0=(x.toNat:Int):=by
  have:s.data.toList[(0:Int).toNat]? =some x:=by rw[<- p,O];rfl
  rw[sb,this];rfl
 have ah:0<s.size:=by rw[<- M,O];simp
 have D:l.headD 0=x:=by rw[O];rfl
 refine⟨⟨om,om⟩,?_⟩;rw[R];refine AC (yHead_spec x w) ?_;rintro _ w1 ⟨rfl,H⟩;obtain⟨ak,U,X⟩:=headN_le x.toNat
 have g:∀c,Dec l c->(Dc x.toNat).1=(yD c).length/\(yD c).length<=l.length/\LD l=c/\∀y∈(l.take (Dc x.toNat).1).drop 1,128<=y.toNat/\y.toNat<192:=λc d=>by
  have:=d.next
  rwa [D]at this
 generalize hn:(Dc x.toNat).1=n at*;generalize Y:(Dc x.toNat).2=c0 at*;refine⟨_,_,rfl,AB (λh1=>?_) (λh1=>AB (λh2=>?_) (λh2=>?_))⟩
 ·refine f _ _ (λc d=>?_) H;have:=(g c d).1;have:=KP d.1;omega
 ·refine f _ _ (λc d=>?_) H;have:=g c d;omega
 refine⟨⟨om,om,om⟩,?_⟩;have e1:Int.toNat 1=1:=rfl;have e2:Int.toNat (n:Int)=n:=aN n;rw[e1,e2];obtain⟨T,L⟩:∃T,T=(l.take n).drop 1:=⟨_,rfl⟩;have Z:T.length=n-1:=by rw[L,bf,aJ];omega
 have F:(s.extract 1 n).data.toList=T:=by rw[J8,L,p]
 have q:(s.extract 1 n).size=n-1:=by rw[<- BO,F,Z]
 refine Hp.s2b H EQ4 Yv XX ZY (by rw[q];simp only[maxLen];omega) ?_;intro a cc w2 H;rw[Ib,F,q]at H;rw[q]
 refine xI.mk (λm st w'=>∃k:Nat,m=n-1-k/\k<=n-1/\st=(FT c0 (T.take k),(k:Int))/\(∀y∈T.take k,128<=y.toNat/\y.toNat<192)/\(0<=FT c0 (T.take k)/\(n≠1->FT c0 (T.take k)<32*64^k))/\Hp [] w w' [.own 5 1 a (n-1) cc (Ae T)]) (n-1)
  ⟨0,om,om,rfl,by simp,⟨U,λh=>by have:=X h;rw[nY];exact this⟩,H⟩ ?_
 rintro m st w3 next ⟨k,rfl,hk,rfl,r,⟨aa,ab⟩,H⟩ u
 refine AB (λh3=>?_) (λh3=>?_)
 ·have A:k<T.length:=om;obtain⟨ad,ha,ac⟩:=H.ldO (o:=k) (v:=iU (T[k].toNat:Int)) EQ4 yU8 (.head _) (by simp[Ae,A]);refine AA ha ⟨⟨om,h3⟩,(T[k].toNat:Int),by rw[aN,bV];exact ac,?_⟩;have al:=T[k].toNat_lt;obtain⟨y,hy⟩:=Nr (n:=256) (z:=(T[k].toNat:Int)) om om;have i:=and_192 y;have G:=and_63 y;rw[<- hy]at i G;have j:T.take (k+1)=T.take k++[T[k]]:=aG A;refine AQ (λh4=>?_) (λh4=>?_)
  ·refine f _ _ (λc d=>h4 (i.2 ?_)) H.drop;have:=(g c d).2.2.2 T[k] (by rw[<- L];exact eY A);omega
  have am:=i.1 h4;have ae:n≠1:=om;have hb:=ab ae;have an:k<=2:=om
  have ao:FT c0 (T.take k)<131072:=by
   have ap:(64:Int)^k<=4096:=by
    have h:k=0\/k=1\/k=2:=om;rcases h with e|e|e<;>rw[e]<;>decide
   omega
  have e6:(2:Int)^min (Int.toNat 6) (IntKind.bits .i32)=64:=by decide
  rw[e6];refine⟨om,IP.2 om,DT.2 om,?_⟩;have B:=or_six (FT c0 (T.take k)).toNat (T[k].toNat%64) om om
  have e7:Vc.bits .or .i32 (FT c0 (T.take k)*64) (IntKind.i32.wrap (Vc.bits .and .u8 (T[k].toNat:Int) 63))=FT c0 (T.take (k+1)):=by
   rw[G,F6 om,j,OO];have e8:((FT c0 (T.take k)).toNat:Int)=FT c0 (T.take k):=jI aa;rw[e8]at B;have e9:((T[k].toNat%64:Nat):Int)=(T[k].toNat:Int)%64:=om;rw[e9]at B;rw[B];omega
  rw[e7];refine u (n-1-(k+1)) _ _ om ⟨k+1,rfl,om,by rw[show(k:Int)+1=((k+1:Nat):Int) by omega],?_,⟨?_,λ_=>?_⟩,H⟩
  ·intro z C;rw[j]at C;rcases aT.1 C with C|C
   ·exact r z C
   rw[aW.1 C];omega
  ·rw[j,OO];omega
  rw[j,OO,qA];have:32*(64^k*64)=(32*(64:Int)^k)*64:=by rw[Int.mul_assoc]
  omega
 have af:k=T.length:=om;rw[af,bJ];have hf:FT c0 T=LD l:=by rw[LD,D,hn,Y,L]
 rw[hf];refine AC (yPut_spec (LD l) w3) ?_;rintro e w4 ⟨⟨hp,rfl⟩|⟨hp,rfl⟩,H'⟩
 ·replace H:=H.xN H';refine⟨_,_,rfl,Au ⟨⟨om,om⟩,?_⟩⟩;have J:(s.extract 0 n).data.toList=l.take n:=by rw[J8,fF,p]
  refine AQ (λh5=>?_) (λh5=>?_)
  ·refine f _ _ (λc d=>h5 ?_) H.drop;obtain⟨g1,g2,g3,_⟩:=g c d;refine eqB ?_;rw[J,g3];obtain⟨t2,ag⟩:=d.2;rw[g1,<- ag,iq]
  have K:=congrArg (λb:BA=>b.data.toList) h5;rw[J]at K;have K:yD (LD l)=l.take n:=by simpa using K
  have h7:(yD (LD l)).length=n:=by rw[K,aJ];omega
  refine⟨.inl ⟨LD l,⟨hp,by rw[K];exact List.take_prefix _ _⟩,?_⟩,H.drop⟩;rw[h7]
 replace H:=H.xN H';refine⟨_,_,rfl,Cc (f _ _ (λc d=>hp ?_) H.drop)⟩;rw[(g c d).2.2.1];exact d.1
end Go.Proofs.YtljenkbpnioipaaGreat
namespace Go.Vc
def VR{P:Program}{g:FuncId}{fn:Func}{c:Code}{a b:Array Value}{args:LV}{w:Wq}{R:EW}(h:P.funcs[g]? =some fn)(d:fn.body=some c)(e:xk P g (a.toList++args++b.toList) w R):zC P (.func (.func g) a b) args w R:=by
 unfold zC;simp only[h,d];exact e
end Go.Vc
namespace Go.Proofs.YtljenkbpnioipaaGreat
open Go Go.Vc Go.Nod
def KFJ(p:Int->Bool->Prop)(cs:lI):Prop:=∀(j:Nat)(c:Int),cs[j]? =some c->p c (decide (j=0))
def EachR(p:Int->Bool->Prop)(l:LU)(e:Ending):Prop:=
 (∃cs,Hm l cs/\KFJ p cs/\e=Ej (I (cs.length:Int)))\/((∀cs,Hm l cs->¬KFJ p cs)/\e=Ej (I (-1)))
theorem NQ:∀(a:lI){t:LU}{cs:lI},(∀c∈a,CS c)->Hm (a.flatMap yD++t) cs->∃r,cs=a++r/\Hm t r
 | [],t,cs,_,h=>⟨cs,rfl,h⟩
 |c::a,t,cs,hp,h=>by
  rw[bW,ax]at h;have b:=hp c (.head _)
  have f:yD c++(a.flatMap yD++t)≠[]:=λe=>by
   have:=KP b;have j:=congrArg List.length e;rw[aF,dK]at j;omega
  obtain⟨d,r,rfl,l,i⟩:=h.cons f;have:d=c:=l.one ⟨b,List.prefix_append _ _⟩;subst this;rw[jg]at i;obtain⟨m,rfl,g⟩:=NQ a (λc b=>hp c (.tail _ b)) i;exact⟨m,rfl,g⟩
def Uh(s:BA)(hs:s.size<=maxLen)(p:Int->Bool->Prop)(fa:OA)(n fc:Nat)(G:Value)(w:Wq)(hn:n<=1)
  (h0:n=0->∀c b,p c b) (h1:n=1->∃b T,fa=some ⟨b,0,none⟩/\Blk w b [G] T)
  (hc:n=1->∀c b w',zC PP G [iJ c,.bool b] w' λe J=>e=Ej (.bool (dec (p c b)))/\Hp [] w' J []):
  CP 184 #[.string s,.slice fa n fc] w λe w'=>EachR p s.data.toList e/\Hp [] w w' []:=by
 apply Jfk;obtain⟨l,K⟩:∃l,l=s.data.toList:=⟨_,rfl⟩;have ac:l.length=s.size:=by rw[K];exact BO s
 rw[<- K];simp only[maxLen]at hs;refine xI.mk (λm st w'=>∃a:lI,m=st.1.size/\(∀c∈a,CS c)/\a.flatMap yD++st.1.data.toList=l/\KFJ p a/\st.2=(a.length:Int)/\a.length+st.1.size<=s.size/\Hp [] w w' []) s.size ⟨[],rfl,by simp,by rw[K];rfl,λj c h=>(by cases h),rfl,by simp,Hp.start w⟩ ?_;rintro m ⟨t,aa⟩ J next ⟨a,rfl,D,f,q,rfl,ab,H⟩ x
 dsimp only at*;refine AQ (λh=>?_) (λh=>?_)
 ·refine AC (yNext_spec t (by simp only[maxLen];omega) J) ?_;rintro e w3 ⟨⟨c,y,rfl⟩|⟨L,z,rfl⟩,F⟩
  ·replace H:=H.xN F;have ad:=KP y.1;have M:=y.2.length_le;rw[BO]at M;refine⟨_,_,rfl,AB (λh=>by omega) (λ_=>?_)⟩
   have hb:(decide ((a.length:Int)=0))=decide (a.length=0):=by
    rw[decide_eq_decide];omega
   have go:∀B,Hp [] w B []->p c (decide (a.length=0))->gB ((a.length:Int)+1)/\(0<=((yD c).length:Int)/\((yD c).length:Int)<=(t.size:Int))/\next (t.extract (Int.toNat ((yD c).length:Int)) t.size,(a.length:Int)+1) B:=by
    intro B H N;refine⟨DT.2 om,⟨om,om⟩,?_⟩;rw[aN]
    have hx:(t.extract (yD c).length t.size).data.toList=t.data.toList.drop (yD c).length:=by
     rw[J8,aV (by rw[BO];exact aZ _)]
    have O:(t.extract (yD c).length t.size).size=t.size-(yD c).length:=by rw[<- BO,hx,bf,BO]
    refine x (t.size-(yD c).length) _ _ om ⟨a++[c],O.symm,λd g=>?_,?_,λj d A=>?_,by simp,by simp;omega,H⟩
    ·rcases aT.1 g with h|h
     ·exact D d h
     rw[aW.1 h];exact y.1
    ·show(a++[c]).flatMap yD++(t.extract (yD c).length t.size).data.toList=l;rw[hx,<- f,dR,ax];congr 1;obtain⟨u,hu⟩:=y.2;rw[<- hu,jg];simp
    by_cases e:j<a.length
    ·rw[bQ e]at A;exact q j d A
    rw[bg om]at A
    have:j=a.length:=by
     have:=(aA.1 A).1;simp at this;omega
    subst this;rw[iL]at A;cases A;exact N
   refine xI.mk (λm st w'=>∃k:Nat,m=n-k/\k<=n/\st=(k:Int)/\Hp [] w w' []/\(k=1->p c (decide (a.length=0)))) n ⟨0,rfl,om,rfl,H,om⟩ ?_;rintro m st B R ⟨k,rfl,hk,rfl,H,U⟩ o;refine AB (λh4=>?_) (λh4=>?_)
   ·have C:n=1:=om;have X:k=0:=om;subst X;obtain⟨b,T,rfl,hB⟩:=h1 C;refine AA rfl ⟨⟨om,h4⟩,G,(hB.chg H.chg (by simp)).ld yFn.agg rfl,?_⟩;rw[hb];refine uK (hc C _ _ _) ?_;rintro _ w5 ⟨rfl,F⟩;replace H:=H.xN F;refine⟨_,rfl,Hg (λY=>⟨.inr ⟨λcs i ha=>Y ?_,rfl⟩,H⟩) (λY=>⟨DT.2 om,o 0 _ _ om ⟨1,om,om,rfl,H,λ_=>Y⟩⟩)⟩;rw[<- f]at i;obtain⟨r,rfl,Z⟩:=NQ a D i
    obtain⟨d,r2,rfl,g,_⟩:=Z.cons (λe=>by
     have:=y.2;rw[e]at this;exact Xw ⟨y.1,this⟩)
    have:=g.one y;subst this;exact ha a.length d (by simp)
   refine go B H ?_;rcases iO n with e|e
   ·exact h0 e _ _
   exact U om
  refine⟨_,_,rfl,AB (λ_=>⟨.inr ⟨λcs i _=>?_,rfl⟩,H.xN F⟩) (λh=>(h rfl).elim)⟩;rw[<- f]at i;obtain⟨r,rfl,Z⟩:=NQ a D i;obtain⟨d,r2,rfl,g,_⟩:=Z.cons (λe=>h (FQ.2 e));exact L d g
 have h:=FQ.1 h;rw[h,aX]at f;exact⟨.inl ⟨a,⟨D,f⟩,q,rfl⟩,H⟩
def Qz(s:BA)(c:s.size<=maxLen)(w:Wq):CP 217 #[.string s] w λe w'=>(∃z,e=Ej (I z)/\(z<0↔¬Uk s))/\Hp [] w w' []:=by
 apply Jfj;refine AC (Uh s c (λ_ _=>True) none 0 0 (.bool true) w om (λ_ _ _=>trivial) om om) ?_;rintro e f ⟨⟨a,b,_,rfl⟩|⟨b,rfl⟩,H⟩
 ·exact⟨_,rfl,⟨_,rfl,om,λh=>(h ⟨a,b⟩).elim⟩,H⟩
 exact⟨_,rfl,⟨_,rfl,λ_ ⟨a,d⟩=>b a d λ_ _ _=>trivial,λ_=>by omega⟩,H⟩
theorem yName1_spec(c:Int)(first:Bool)(w:Wq):CP 185 #[iJ c,.bool first] w λe w'=>e=Ej (.bool (dec (IB c/\(first=true->EH c))))/\Hp [] w w' []:=by
 apply Jfp;refine AC (yPart_spec c w) ?_;rintro _ d ⟨rfl,H⟩;refine⟨_,rfl,KAl (λh=>?_) (λh=>⟨congrArg (λb=>Ending.returned (Value.bool b)) (Bz λa=>h a.1),H⟩)⟩;cases first with
 |false=>exact⟨congrArg (λb=>Ending.returned (Value.bool b)) (DV ⟨h,λh=>by cases h⟩),H⟩
 |true=>
  refine AC (RD c d) ?_;rintro _ g ⟨rfl,f⟩;refine⟨_,rfl,?_,H.xN f⟩;rw[Ending.returned.injEq,Value.bool.injEq,iD,DI,DI];exact⟨λa=>⟨h,λ_=>a⟩,λa=>a.2 rfl⟩
def Iz(s:BA)(w:Wq):CP 127 #[.string s] w λe w'=>e=Ej (.bool (dec (CZ s)))/\Hp [] w w' []:=by
 apply Jfo;refine AQ (λh=>AB (λq=>?_) (λq=>⟨by rw[Bz λi:CZ s=>q (by have:=i.2.1;omega)],Hp.start w⟩)) (λh=>⟨by rw[Bz λi:CZ s=>by rw[h]at i;exact absurd i.1 (by decide)],Hp.start w⟩);intro b u y;have H:=(Hp.start w).nw y;have z:s.size<=maxLen:=by simp only[maxLen];omega
 refine AC (Uh s z (λc f=>IB c/\(f=true->EH c)) (Pq b) 1 1 _ u om om (λ_=>⟨b,_,rfl,H.blk (.head _)⟩) λ_ c f w'=>?_) ?_
 ·refine VR Tryz.func185 rfl ⟨yName1_spec c f w'⟩
 have a:s.data.toList≠[]:=λe=>h (FQ.2 e)
 have d:1<=s.size:=by
  rw[<- BO];exact fC.2 a
 rintro e F ⟨⟨l,g,r,rfl⟩|⟨g,rfl⟩,t⟩
 ·refine⟨_,rfl,?_,(H.xN t).drop⟩;have o:l≠[]:=λe=>a (by rw[e]at g;exact g.2.symm);have G:=fC.2 o
  have p:CZ s:=by
   refine⟨d,om,l,g,λc m=>?_,λc m=>?_⟩
   ·obtain⟨j,n⟩:=bD m;exact(r j c n).1
   rw[gJ]at m;exact(r 0 c m).2 rfl
  rw[<- DV p];exact congrArg (λx=>Ending.returned (Value.bool x)) (decide_eq_true om)
 refine⟨_,rfl,?_,(H.xN t).drop⟩
 have p:¬CZ s:=λ⟨_,_,l,A,B,C⟩=>g l A λj c n=>⟨B c (aC n),λD=>C c (by
  have:j=0:=by simpa using D
  subst this;rw[gJ];exact n)⟩
 rw[<- Bz p];rfl
end Go.Proofs.YtljenkbpnioipaaGreat
