/- Part 6 of 6 of the proof of nodetabBack_holds: for every input, from every world that may be reached. -/
import Derived.Test.YtljenkbpnioipaaGreatPbk5
set_option linter.unusedVariables false
set_option linter.unusedSimpArgs false
set_option linter.defProp false
set_option maxRecDepth 100000
set_option maxHeartbeats 4000000
open List(map_id)
namespace Go.Proofs.YtljenkbpnioipaaGreat
noncomputable section
open Go Go.Vc Go.Nod
def xeltS:Elt PP 187 62 2 16:=DU (by kernel_rfl)
def xundS:PP.underlying 187=some (.slice 62):=by kernel_rfl
def Ef(r:Fol.Rec):Sp:=(r.frm,r.to)
def spR(l:List Fol.Rec):SM:=l.foldl (λS r=>KAF S r.id (Ef r)) []
def spR_snoc(l:List Fol.Rec)(r:Fol.Rec):spR (l++[r])=KAF (spR l) r.id (Ef r):=by rw[spR,ig];rfl
structure rW(W:Lj)(T:Tr)(recs:List Fol.Rec):Prop where
 len:recs.length=T.L.length
 id:∀(j:Nat)(r:Rw)(q:Fol.Rec),T.L[j]? =some r->recs[j]? =some q->q.id=r.id
 par:∀(j:Nat)(r:Rw)(q:Fol.Rec),T.L[j]? =some r->recs[j]? =some q->q.parent=AY T.L j
 it:∀(j:Nat)(r:Rw)(q:Fol.Rec),T.L[j]? =some r->recs[j]? =some q->Tv W r.level q=Ac r
 known:∀q∈recs,vI W q
 lev:GV (recs.map Ef)=some (T.L.map (·.level))
theorem rwC_at{a:List RW}{j:Nat}{p:RW}(h:a[j]? =some p):((a.flatMap rwC).drop (j*8)).take 8=rwC p:=by
 induction a generalizing j with
 |nil=>simp at h
 |cons q r b=>
  cases j with
  |zero=>
   simp at h;subst h;rw[bW,jV,fF];exact iM rfl
  |succ j=>
   rw[bI]at h;rw[bW,di,iG,<- dS,kX (by rfl)];exact b h
def nTreeQ_spec{B:Nq}{w0 w:Wq}{L:List Asn}(xb:Nat)(z:WN)(pa:OA)(n pc:Nat)(next:Int)(wa:OA)(wn wc pb:Nat)(aa:OA)(ac:Nat)(d:List RW)(wf:Nq)(W:Lj){F:Fo}{T:Tr}(hG:Am F T)(hT:rW W T (d.map (·.1)))(cm:max next 1=T.next)
  (H:Hp B w0 w (.blk xb (ldC z.ub next wa wn wc pb aa d.length ac) 128::.blk z.ub (tbC z pa n pc) 86::.own 204 8 aa d.length ac (d.flatMap rwC)::.Z6 z.sb .i64 (smC [])::Az wf z.wb W::(d.map rwO++L))):
  CP 68 #[pq xb] w λe w'=>∃tf tb,e=Ej (.bool true)/\
   Hp B w0 w' (.blk xb (ldC z.ub next wa wn wc pb aa d.length ac) 128::.blk z.ub (tbC {z with tb:=tb} pa n pc) 86::AV tf tb T::.Z6 z.sb .i64 (smC (spR (d.map (·.1))))::Az wf z.wb W::L):=by
 apply Jc0;have cz:=hG.len;have cn:d.length=T.L.length:=by rw[<- hT.len,aQ]
 obtain⟨X0,an⟩:∃X0,X0=Asn.blk xb (ldC z.ub next wa wn wc pb aa d.length ac) 128:=⟨_,rfl⟩;obtain⟨A0,bq⟩:∃A0,A0=Asn.own 204 8 aa d.length ac (d.flatMap rwC):=⟨_,rfl⟩;rw[<- an,<- bq]at H
 have bb:∀{W:Wq}{M:List Asn},Hp B w0 W M->X0∈M->∀{W':Wq},Eqw W W'->Ld PP 126 W' (Addr.add ⟨xb,0,none⟩ 4) (.slice aa d.length ac):=λ{W M} H m _ e=>by
  rw[an]at m;rw[add_lit];exact H.ld e vSR m rfl
 have bv:∀{W:Wq}{M:List Asn},Hp B w0 W M->X0∈M->∀{W':Wq},Eqw W W'->Ld PP 23 W' ⟨xb,0,none⟩ (pq z.ub):=λ{W M} H m _ e=>by
  rw[an]at m;exact H.ld e rPT m rfl
 have bc:∀{W:Wq}{M:List Asn}{j:Nat}{p:RW},Hp B w0 W M->A0∈M->d[j]? =some p->∃ad,aa=some ad/\Ld PP 204 W (ad.add ((j:Int).toNat*8)) (.agg (rwC p).toArray):=λ{W M j p} H m hj=>by
  rw[bq]at m;rw[aN];exact H.ldOA EQ4 Fol.Dh om m (rwC_at hj) rfl
 refine AA rfl ⟨aa,d.length,ac,bb H (.head _) EQ4,?_⟩;obtain⟨Y,hY⟩:∃Y:List Asn,Y=X0::.blk z.ub (tbC z pa n pc) 86::A0::.Z6 z.sb .i64 (smC [])::Az wf z.wb W::(d.map rwO++L):=⟨_,rfl⟩;rw[<- hY]at H;have mX:X0∈Y:=by rw[hY];exact .head _
 have mA:A0∈Y:=by rw[hY];exact .tail _ m1
 obtain⟨b,N⟩:∃b,b=d.map (·.1):=⟨_,rfl⟩;rw[<- N]at hT;have ak:b.length=d.length:=by rw[N,aQ]
 have bd:∀{j:Nat}{p:RW},d[j]? =some p->b[j]? =some p.1:=λ{j p} h=>by rw[N,au,h];rfl
 have bw:∀{j:Nat}{p:RW},d[j]? =some p->b.take (j+1)=b.take j++[p.1]:=λ{j p} h=>by
  have h2:=bd h;rw[aG (aA.1 h2).1,(aA.1 h2).2]
 refine xI.mk (λm s w'=>∃(j:Nat)(sa:OA)(sc:Nat)(X:List Asn),m=d.length-j/\j<=d.length/\s=((sa,j,sc),(j:Int))/\Hp B w0 w' (.own 62 2 sa j sc (BP ((b.take j).map Ef))::(Y++X))) d.length ⟨0,none,0,[],rfl,om,rfl,by rw[aX];exact H.yS 62 2⟩ ?_;rintro m s w1 nx ⟨j,sa,sc,X,rfl,hj,rfl,H⟩ bx;dsimp only;refine AB (λh1=>?_) (λh1=>?_)
 ·have ah:j<d.length:=om;obtain⟨p,hp⟩:∃p,d[j]? =some p:=⟨_,aB ah⟩;obtain⟨ad,aq,ao⟩:=bc H (.tail _ (aS _ mA)) hp;refine AA aq ⟨⟨om,h1⟩,_,_,_,_,_,_,_,_,_,_,ao,λyb w2 co=>?_⟩;have H2:=H.nw co;refine Hp.stA H2 EQ4 Fol.Dh rfl rfl (by simp[KCe]) (cs':=rwC p) rfl λw3 A=>?_;refine⟨p.1.frm,p.1.to,A.loA Fz,λy w4 bh=>?_⟩;have H4:=A.nw bh;refine Hp.app xeltS om H4.BF EQ4 (Blk.src (P:=PP) xundS (H4.blk (.head _)) rfl rfl) (by simp only[maxLen];omega) om ?_;intro a2 c2 w5 H5;refine⟨iR,bx (d.length-(j+1)) _ _ om ⟨j+1,a2,c2,.blk y [I p.1.frm,I p.1.to] 62::.blk yb (rwC p) 204::X,rfl,om,rfl,H5.perm ?_⟩⟩
  have e1:BP ((b.take (j+1)).map Ef)=BP ((b.take j).map Ef)++[I p.1.frm,I p.1.to]:=by
   rw[bw hp,ai];simp[BP,Ef]
  refine AL λff gg i l q u=>?_;simp only[I,Q,e1,q,l,i,aY,aO,aH];omega
 have ah:j=d.length:=om;rw[ah,<- ak,bJ]at H;have cp:Own w1 0 62 2 sa b.length sc (BP (b.map Ef)):=H.xh (.head _);rw[ah,<- ak];refine AC (sLevels_spec sa b.length sc (b.map Ef) w1 cp.cells (by rw[aQ]) om) ?_;rintro _ w2 (⟨b0,_⟩|⟨Lv,va,vc,b1,b2,rfl,H2⟩)
 ·rw[hT.lev]at b0;cases b0
 rw[hT.lev]at b1;cases b1;have A:=H.yC H2;refine⟨_,_,_,_,rfl,Au (x:=_) (AA rfl ⟨aa,d.length,ac,bb A (t2 (aS _ mX)) EQ4,?_⟩)⟩;rw[ak]at A b2⊢;have cq:spR []=[]:=rfl
 have H4:Hp B w0 w2 (.Z6 z.sb .i64 (smC (spR (b.take 0)))::X0::.blk z.ub (tbC z pa n pc) 86::A0::Az wf z.wb W::.own 3 1 va d.length vc (AO (T.L.map (·.level)))::(d.map rwO++(L++(.own 62 2 sa d.length sc (BP (b.map Ef))::X)))):=A.perm (by
  refine AL λff gg i l q u=>?_;simp only[hY,fD,cq,q,l,i,aY,aO,aH];omega)
 generalize c0:(Asn.own 62 2 sa d.length sc (BP (b.map Ef))::X)=X1 at H4;obtain⟨Z,hZ⟩:∃Z:List Asn,Z=X0::.blk z.ub (tbC z pa n pc) 86::A0::Az wf z.wb W::.own 3 1 va d.length vc (AO (T.L.map (·.level)))::(d.map rwO++L):=⟨_,rfl⟩;have zX:X0∈Z:=by rw[hZ];exact .head _
 have zA:A0∈Z:=by rw[hZ];exact .tail _ m1
 have zT:Asn.blk z.ub (tbC z pa n pc) 86∈Z:=by rw[hZ];exact .tail _ (.head _)
 have zB:Az wf z.wb W∈Z:=by rw[hZ];exact .tail _ m2
 have zV:Asn.own 3 1 va d.length vc (AO (T.L.map (·.level)))∈Z:=by rw[hZ];exact .tail _ m3
 have zO:∀{j:Nat}{p:RW},d[j]? =some p->rwO p∈Z:=λ{j p} h=>by
  rw[hZ];exact .tail _ (t4 (aS _ (aU.2 ⟨p,aC h,rfl⟩)))
 refine xI.mk (λm s w'=>∃(j:Nat)(ia:OA)(ic:Nat)(za:OA)(zc:Nat)(f:List Sl3)(X:List Asn),m=d.length-j/\j<=d.length/\s=((ia,j,ic),(za,j,zc),(j:Int))/\KCh ((T.L.take j).map Ac) f/\
  Hp B w0 w' (.Z6 z.sb .i64 (smC (spR (b.take j)))::.own 123 5 ia j ic (yK ((T.L.take j).map Ac) f)::.own 3 1 za j zc (AO ((T.L.take j).map (·.id)))::(Bo ((T.L.take j).map Ac) f++(Z++X)))) d.length ⟨0,none,0,none,0,[],X1,rfl,om,rfl,⟨by simp,λk x s h=>by simp at h⟩,?_⟩ ?_
 ·exact((H4.yS 3 1).yS 123 5).perm (by
   refine AL λff gg i l q u=>?_;have e1:yK [] []=[]:=rfl;have e2:Bo [] []=[]:=rfl;have e3:AO []=[]:=rfl;simp only[I,Q,fD,jC,e1,e2,e3,hZ,q,l,i,aY,aO,aH];omega)
 rintro m s w3 nx ⟨j,ia,ic,za,zc,f,X,rfl,hj,rfl,ar,H⟩ a8;dsimp only;have b3:∀{x a1 a2 a3:Asn},x∈Z->x∈a1::a2::a3::(Bo ((T.L.take j).map Ac) f++(Z++X)):=λh=>.tail _ (t2 (aI _ (aS _ h)));refine AB (λh1=>?_) (λh1=>?_)
 ·have ah:j<d.length:=om;obtain⟨p,hp⟩:∃p,d[j]? =some p:=⟨_,aB ah⟩;obtain⟨r,hr⟩:∃r,T.L[j]? =some r:=⟨_,aB om⟩;have ap:=bd hp;have bi:=hT.id j r p.1 hr ap;have av:=hT.it j r p.1 hr ap;have cr:=hT.known p.1 (aC ap)
  have b4:T.L.take (j+1)=T.L.take j++[r]:=by
   rw[aG (aA.1 hr).1,(aA.1 hr).2]
  obtain⟨ad,aq,ao⟩:=bc H (b3 zA) hp;refine AA aq ⟨⟨om,h1⟩,_,_,_,_,_,_,_,_,_,_,ao,λyb w4 bh=>?_⟩;have H2:=H.new (cs:=KCe) EQ4 bh;refine Hp.stA H2 EQ4 Fol.Dh (vs:=rwC p) rfl rfl (by simp[KCe]) (cs':=rwC p) rfl λw5 A=>?_;have K:∀{x a0:Asn},x∈Z->x∈a0::.Z6 z.sb .i64 (smC (spR (b.take j)))::.own 123 5 ia j ic (yK ((T.L.take j).map Ac) f)::.own 3 1 za j zc (AO ((T.L.take j).map (·.id)))::(Bo ((T.L.take j).map Ac) f++(Z++X)):=λh=>.tail _ (b3 h);have b5:(AO (T.L.map (·.level)))[j]? =some (I r.level):=by simp[AO,hr]
  have al:∀{w6:Wq},Hp B w0 w6 (.blk yb (rwC p) 204::.Z6 z.sb .i64 (smC (spR (b.take j)))::.own 123 5 ia j ic (yK ((T.L.take j).map Ac) f)::.own 3 1 za j zc (AO ((T.L.take j).map (·.id)))::(Bo ((T.L.take j).map Ac) f++(Z++X)))->
    CP 135 #[pq xb,.agg (rwC p).toArray,I r.level] w6 λe w'=>∃a c,e=Ej (.tuple #[.agg (itC (Ac r) (a,p.1.FP.length,c)).toArray,.bool true])/\Hp [] w6 w' [.own 142 2 a p.1.FP.length c (atC r.x.FP)]:=λ{w6} H6=>by
   have hb:Blk w6 xb (ldC z.ub next wa wn wc pb aa d.length ac) 128:=H6.blk (by rw[<- an];exact K zX);have ho:Own w6 0 260 2 p.2.1 p.1.FP.length p.2.2 (Fol.BL p.1.FP):=H6.xh (K (zO hp));have:=nItem_spec xb z.ub z.wb (ldC z.ub next wa wn wc pb aa d.length ac) (tbC z pa n pc) 128 86 hb rfl (H6.blk (K zT)) rfl (W:=W) (H6.ok (Az wf z.wb W) (K zB)) p.1 p.2.1 p.2.2 ho.cells cr r.level;rw[av]at this;exact this
  refine xM.mk (λt w'=>∃(ib:Nat)(a:OA)(c:Nat),t=(some ⟨ib,0,none⟩,true)/\Hp B w0 w' (.blk ib (itC (Ac r) (a,p.1.FP.length,c)) 123::.own 142 2 a p.1.FP.length c (atC r.x.FP)::.blk yb (rwC p) 204::.Z6 z.sb .i64 (smC (spR (b.take j)))::.own 123 5 ia j ic (yK ((T.L.take j).map Ac) f)::.own 3 1 za j zc (AO ((T.L.take j).map (·.id)))::(Bo ((T.L.take j).map Ac) f++(Z++X)))) ?_ ?_;rotate_left
  ·intro J hJ;obtain⟨vd,bj,b6⟩:=A.ldO (w':=w5.drew) (o:=j) EQ4 xK (K zV) b5;refine⟨⟨_,_,_,_,_,_,_,_,_,_,A.ldA (o:=0) (cs:=rwC p) EQ4 Fol.Dh (.head _) rfl rfl,AA bj ⟨⟨om,om⟩,r.level,by rw[aN,bV];exact b6,AC (al A.drew) ?_⟩⟩,⟨_,_,_,_,_,_,_,_,_,_,A.ldA (o:=0) (cs:=rwC p) EQ4 Fol.Dh (.head _) rfl rfl,AA bj ⟨⟨om,om⟩,r.level,by rw[aN,bV];exact b6,λib w6 ct=>?_⟩⟩⟩
   ·rintro _ w6 ⟨a,c,rfl,H6⟩;refine⟨_,_,_,_,_,_,_,_,rfl,λib w7 D=>?_⟩;have C:=(A.drew.yC H6).new (cs:=itZ) EQ4 D;refine Hp.stA C EQ4 CB (vs:=itC (Ac r) (a,p.1.FP.length,c)) rfl rfl (by simp[itZ]) (cs':=itC (Ac r) (a,p.1.FP.length,c)) rfl λw8 O=>hJ _ _ ⟨ib,a,c,rfl,O⟩
   have H6:=A.drew.new (cs:=itZ) EQ4 ct;obtain⟨ve,b7,b8⟩:=H6.ldO (w':=w6) (o:=j) EQ4 xK (.tail _ (K zV)) b5;rw[bj]at b7;cases b7;refine⟨by rw[aN,bV];exact b8,H6.ldA (o:=0) (cs:=rwC p) EQ4 Fol.Dh m1 rfl rfl,AC (al H6.drop) ?_⟩;rintro _ w7 ⟨a,c,rfl,C⟩;refine⟨_,_,_,_,_,_,_,_,rfl,?_⟩;refine Hp.stA (H6.yC C).AX EQ4 CB (vs:=itC (Ac r) (a,p.1.FP.length,c)) rfl rfl (by simp[itZ]) (cs':=itC (Ac r) (a,p.1.FP.length,c)) rfl λw8 O=>hJ _ _ ⟨ib,a,c,rfl,O⟩
  clear A al;rintro t w6 ⟨ib,a,c,rfl,H⟩;refine Au (x:=_) ?_;obtain⟨g,U⟩:∃g,g=itC (Ac r) (a,p.1.FP.length,c):=⟨_,rfl⟩;rw[<- U]at H;have b9:p.1.id=r.id:=bi
  have ca:KCh ((T.L.take j).map Ac++[Ac r]) (f++[(a,p.1.FP.length,c)]):=ar.snoc (by
   have:=congrArg (λx:It=>x.x.FP.length) av;rw[Tv]at this;simp only[aQ]at this;exact this)
  have cu:p.1.FP.length=(Ac r).x.FP.length:=by
   have:=congrArg (λx:It=>x.x.FP.length) av;rw[Tv]at this;simp only[aQ]at this;exact this
  have cb:f.length=((T.L.take j).map Ac).length:=ar.len;have aw:(T.L.take (j+1)).map Ac=(T.L.take j).map Ac++[Ac r]:=by rw[b4,ai];rfl
  have cc:yK ((T.L.take (j+1)).map Ac) (f++[(a,p.1.FP.length,c)])=yK ((T.L.take j).map Ac) f++g:=by rw[aw,XK cb,U]
  have cd:Bo ((T.L.take (j+1)).map Ac) (f++[(a,p.1.FP.length,c)])=Bo ((T.L.take j).map Ac) f++[.own 142 2 a p.1.FP.length c (atC r.x.FP)]:=by
   rw[aw,Vf cb,cu];rfl
  have ce:AO ((T.L.take (j+1)).map (·.id))=AO ((T.L.take j).map (·.id))++[I r.id]:=by rw[b4,ai];simp[AO]
  have a4:g.length=5:=by rw[U];rfl
  have cv:g.all (·.oneCell')=true:=by rw[U];rfl
  refine xM.mk (λt w'=>∃(ab:OA)(ae:Nat)(af:OA)(ag:Nat)(X':List Asn),t=((ab,j+1,ae),(af,j+1,ag))/\Hp B w0 w' (.blk yb (rwC p) 204::.Z6 z.sb .i64 (smC (spR (b.take j)))::.own 123 5 ab (j+1) ae (yK ((T.L.take (j+1)).map Ac) (f++[(a,p.1.FP.length,c)]))::.own 3 1 af (j+1) ag (AO ((T.L.take (j+1)).map (·.id)))::(Bo ((T.L.take (j+1)).map Ac) (f++[(a,p.1.FP.length,c)])++(Z++X')))) ?_ ?_
  ·rintro t w7 ⟨ab,ae,af,ag,X',rfl,C⟩;have mz:∀{x a0 a1 a2 a3:Asn}{M1 M2:List Asn},x∈Z->x∈a0::a1::a2::a3::(M1++(Z++M2)):=λh=>.tail _ (t3 (aI _ (aS _ h)));refine AA rfl ⟨_,bv C (mz zX) EQ4,AA rfl ⟨some z.sb,by rw[add_lit];exact C.ld (o:=1) (cs:=tbC z pa n pc) EQ4 KDq (mz zT) rfl,p.1.id,C.lo xK,p.1.frm,p.1.to,C.loA Fz,?_⟩⟩;refine Hp.KCj I4 C.AX EQ4 λw8 O=>⟨iR,a8 (d.length-(j+1)) _ _ om ⟨j+1,ab,ae,af,ag,f++[(a,p.1.FP.length,c)],X',rfl,om,rfl,by rw[aw];exact ca,?_⟩⟩
   have e1:xY (smC (spR (b.take j))) p.1.id (.agg #[I p.1.frm,I p.1.to])=smC (spR (b.take (j+1))):=by
    rw[bw hp,spR_snoc];exact NY (spR (b.take j)) p.1.id (Ef p.1)
   rw[e1]at O;exact O.KBe
  intro J hJ
  have bk:∀{w9:Wq}{ab af:OA}{ae ag:Nat}{y ub:Nat}{T1 T2:TypeId},Hp B w0 w9 (.own 3 1 af (j+1) ag (AO ((T.L.take j).map (·.id))++[I p.1.id])::.own 123 5 ab (j+1) ae (yK ((T.L.take j).map Ac) f++g)::.blk y g T1::.blk ub [I p.1.id] T2::.blk ib g 123::.own 142 2 a p.1.FP.length c (atC r.x.FP)::.blk yb (rwC p) 204::.Z6 z.sb .i64 (smC (spR (b.take j)))::(Bo ((T.L.take j).map Ac) f++(Z++X)))->J ((ab,j+1,ae),(af,j+1,ag)) w9:=λ{w9 ab af ae ag y ub T1 T2} H9=>
   hJ _ _ ⟨ab,ae,af,ag,.blk y g T1::.blk ub [I p.1.id] T2::.blk ib g 123::X,rfl,H9.perm (by
    refine AL λff gg i l q u=>?_;simp only[cc,cd,ce,b9,q,l,i,aY,aO,aH];omega)⟩
  have a5:∀{w8 am:Wq}{y:Nat}{M:List Asn}{G:OA->Nat->Nat->Wq->Prop},Hp B w0 w8 (.own 123 5 ia j ic (yK ((T.L.take j).map Ac) f)::M)->Asn.blk y g 123∈M->Eqw w8 am->(∀a' c' w1,Hp B w0 w1 (.own 123 5 a' (j+1) c' (yK ((T.L.take j).map Ac) f++g)::M)->G a' (j+1) c' w1)->∃a' n' c' w1,App PP #[34,34] 34 am (.slice ia j ic) (.slice (Pq y) 1 1) (.slice a' n' c') w1/\G a' n' c' w1:=λ{w8 am y M G} O hm e k=>
   Hp.app qN om O e (Blk.src (P:=PP) Zq ((O.go e).blk (.tail _ hm)) (by rw[a4]) cv) (by simp only[maxLen];omega) om k
  have KEf:∀{w8 am:Wq}{y:Nat}{M:List Asn}{G:OA->Nat->Nat->Wq->Prop},Hp B w0 w8 (.own 3 1 za j zc (AO ((T.L.take j).map (·.id)))::M)->Asn.blk y [I p.1.id] 3∈M->Eqw w8 am->(∀a' c' w1,Hp B w0 w1 (.own 3 1 a' (j+1) c' (AO ((T.L.take j).map (·.id))++[I p.1.id])::M)->G a' (j+1) c' w1)->∃a' n' c' w1,App PP #[59,59] 59 am (.slice za j zc) (.slice (Pq y) 1 1) (.slice a' n' c') w1/\G a' n' c' w1:=λ{w8 am y M G} O hm e k=>
   Hp.app Kz om O e (Blk.src (P:=PP) LH ((O.go e).blk (.tail _ hm)) rfl rfl) (by simp only[maxLen];omega) om k
  have bl:∀{W:Wq},Eqw w6 W->Ld PP 123 W ⟨ib,0,none⟩ (.agg (itC (Ac r) (a,p.1.FP.length,c)).toArray):=λe=>by
   rw[<- U];exact H.ldA (o:=0) (cs:=g) e CB (.head _) (by rw[fF];exact aV (jo a4)) a4
  have bm:∀{W:Wq},Eqw w6 W->Ld PP 3 W ⟨yb,0,none⟩ (I p.1.id):=λe=>H.ld (o:=0) (cs:=rwC p) e xK m2 rfl;refine⟨⟨_,_,_,_,_,_,_,AA rfl (bl EQ4),p.1.id,bm EQ4,λy w7 D=>?_⟩,⟨_,_,_,_,_,_,_,AA rfl (bl EQ4),p.1.id,bm EQ4,λy w7 D=>?_⟩,⟨_,_,_,_,_,_,_,AA rfl (bl EQ4),p.1.id,bm EQ4,λub w7 D=>?_⟩⟩
  ·have C:=H.drew.new (cs:=g) EQ4 (by rw[U];exact D)
   refine⟨C.lo xK,a5 (M:=.blk y g 123::.blk ib g 123::.own 142 2 a p.1.FP.length c (atC r.x.FP)::.blk yb (rwC p) 204::.Z6 z.sb .i64 (smC (spR (b.take j)))::.own 3 1 za j zc (AO ((T.L.take j).map (·.id)))::(Bo ((T.L.take j).map Ac) f++(Z++X))) (C.perm (by
    refine AL λff gg i l q u=>?_;simp only[q,l,i,aY,aO,aH];omega)) (.head _) EQ4 λa2 c2 w8 O=>⟨O.lo xK,λub w9 cw=>?_⟩⟩
   have H9:=O.nw cw
   refine KEf (M:=.own 123 5 a2 (j+1) c2 (yK ((T.L.take j).map Ac) f++g)::.blk y g 123::.blk ub [I p.1.id] 3::.blk ib g 123::.own 142 2 a p.1.FP.length c (atC r.x.FP)::.blk yb (rwC p) 204::.Z6 z.sb .i64 (smC (spR (b.take j)))::(Bo ((T.L.take j).map Ac) f++(Z++X))) (H9.perm (by
    refine AL λff gg i l q u=>?_;simp only[q,l,i,aY,aO,aH];omega)) m2 EQ4 λa3 c3 bo a6=>bk a6
  ·have C:=H.drew.new (cs:=g) EQ4 (by rw[U];exact D);refine⟨C.lo xK,λub w8 bp=>?_⟩;have O:=C.nw bp
   refine a5 (M:=.blk y g 123::.blk ub [I p.1.id] 3::.blk ib g 123::.own 142 2 a p.1.FP.length c (atC r.x.FP)::.blk yb (rwC p) 204::.Z6 z.sb .i64 (smC (spR (b.take j)))::.own 3 1 za j zc (AO ((T.L.take j).map (·.id)))::(Bo ((T.L.take j).map Ac) f++(Z++X))) (O.perm (by
    refine AL λff gg i l q u=>?_;simp only[q,l,i,aY,aO,aH];omega)) (.head _) EQ4 λa2 c2 w9 H9=>?_
   refine KEf (M:=.own 123 5 a2 (j+1) c2 (yK ((T.L.take j).map Ac) f++g)::.blk y g 123::.blk ub [I p.1.id] 3::.blk ib g 123::.own 142 2 a p.1.FP.length c (atC r.x.FP)::.blk yb (rwC p) 204::.Z6 z.sb .i64 (smC (spR (b.take j)))::(Bo ((T.L.take j).map Ac) f++(Z++X))) (H9.perm (by
    refine AL λff gg i l q u=>?_;simp only[q,l,i,aY,aO,aH];omega)) m2 EQ4 λa3 c3 bo a6=>bk a6
  have C:=H.drew.nw D;refine⟨AA rfl (show Ld PP 123 w7 ⟨ib,0,none⟩ (.agg (itC (Ac r) (a,p.1.FP.length,c)).toArray) by rw[<- U];exact C.ldA (o:=0) (cs:=g) EQ4 CB m1 (by rw[fF];exact aV (jo a4)) a4),λy w8 bp=>?_⟩;have O:=C.new (cs:=g) EQ4 (by rw[U];exact bp)
  refine a5 (M:=.blk y g 123::.blk ub [I p.1.id] 3::.blk ib g 123::.own 142 2 a p.1.FP.length c (atC r.x.FP)::.blk yb (rwC p) 204::.Z6 z.sb .i64 (smC (spR (b.take j)))::.own 3 1 za j zc (AO ((T.L.take j).map (·.id)))::(Bo ((T.L.take j).map Ac) f++(Z++X))) (O.perm (by
   refine AL λff gg i l q u=>?_;simp only[q,l,i,aY,aO,aH];omega)) (.head _) EQ4 λa2 c2 w9 H9=>?_
  refine KEf (M:=.own 123 5 a2 (j+1) c2 (yK ((T.L.take j).map Ac) f++g)::.blk y g 123::.blk ub [I p.1.id] 3::.blk ib g 123::.own 142 2 a p.1.FP.length c (atC r.x.FP)::.blk yb (rwC p) 204::.Z6 z.sb .i64 (smC (spR (b.take j)))::(Bo ((T.L.take j).map Ac) f++(Z++X))) (H9.perm (by
   refine AL λff gg i l q u=>?_;simp only[q,l,i,aY,aO,aH];omega)) m2 EQ4 λa3 c3 bo a6=>bk a6
 clear a8;have ah:j=d.length:=om;rw[ah]at H ar⊢;rw[show T.L.take d.length=T.L from aV om]at H ar;rw[show b.take d.length=b from aV om]at H;have cf:∀{x a1 a2 a3:Asn}{M:List Asn},x∈Z->x∈a1::a2::a3::(M++(Z++X)):=λh=>.tail _ (t2 (aI _ (aS _ h)));refine AA rfl ⟨next,by rw[add_lit];exact H.ld (o:=1) (cs:=ldC z.ub next wa wn wc pb aa d.length ac) EQ4 xK (by rw[<- an];exact cf zX) rfl,?_⟩;dsimp only;rw[cm];have a7:d.length=T.L.length:=cn
 have a9:CW [] w3 ia d.length (T.L.map yH) f:=by
  rw[a7];exact QL hG (ia:=ia) (ic:=ic) ar H (by rw[<- a7];exact .tail _ (.head _)) (λx hx=>.tail _ (t2 (aS _ hx)))
 have cg:Own w3 0 3 1 za d.length zc (AO (T.L.map (·.id))):=H.xh m2;refine AC (gRestore_spec hG ia d.length ic f za d.length zc w3 a9 cg.cells a7) ?_;rintro _ w4 ⟨tf,tb,rfl,H2⟩;have A:=H.yC H2;clear H H2 a9 cg;refine⟨_,_,rfl,AQ (λh=>(h rfl).elim) (λ_=>?_)⟩
 have H5:Hp B w0 w4 (.blk z.ub (tbC z pa n pc) 86::AV tf tb T::X0::A0::.Z6 z.sb .i64 (smC (spR b))::Az wf z.wb W::(L++(d.map rwO++(.own 3 1 va d.length vc (AO (T.L.map (·.level)))::.own 123 5 ia d.length ic (yK (T.L.map Ac) f)::.own 3 1 za d.length zc (AO (T.L.map (·.id)))::(Bo (T.L.map Ac) f++X))))):=A.perm (by
  refine AL λff gg i l q u=>?_;simp only[hZ,q,l,i,aY,aO,aH];omega)
 clear A;generalize c1:(d.map rwO++(Asn.own 3 1 va d.length vc (AO (T.L.map (·.level)))::.own 123 5 ia d.length ic (yK (T.L.map Ac) f)::.own 3 1 za d.length zc (AO (T.L.map (·.id)))::(Bo (T.L.map Ac) f++X)))=X2 at H5;refine AA rfl ⟨_,bv H5 m2 EQ4,AA rfl ?_⟩;refine Hp.st (o:=0) H5 EQ4 nPT rfl rfl (by simp[tbC]) (cs':=tbC {z with tb:=tb} pa n pc) rfl λw5 H6=>?_;clear H5;refine AA rfl ⟨aa,d.length,ac,bb H6 m2 EQ4,?_⟩;have cx:=hG.Kr;refine xI.mk (λm s w'=>∃(j:Nat)(tf:Nq)(X:List Asn),m=d.length-j/\j<=d.length/\s=(j:Int)/\Hp B w0 w' (AV tf tb T::X0::A0::.blk z.ub (tbC {z with tb:=tb} pa n pc) 86::.Z6 z.sb .i64 (smC (spR b))::Az wf z.wb W::(L++X))) d.length ⟨0,tf,X2,rfl,om,rfl,H6.perm ?_⟩ ?_
 ·refine AL λff gg i l q u=>?_;simp only[q,l,i,aY,aO,aH];omega
 clear H6;rintro m s w6 c4 ⟨j3,ch,X3,rfl,c5,rfl,H⟩ ci;refine AB (λh2=>?_) (λh2=>?_)
 ·have cj:j3<d.length:=om;obtain⟨p,hp⟩:∃p,d[j3]? =some p:=⟨_,aB cj⟩;obtain⟨r,hr⟩:∃r,T.L[j3]? =some r:=⟨_,aB om⟩;have ap:=bd hp;have bi:=hT.id j3 r p.1 hr ap;have ck:=hT.par j3 r p.1 hr ap;obtain⟨ad,aq,ao⟩:=bc H m2 hp;refine AA aq ⟨⟨om,h2⟩,_,_,_,_,_,_,_,_,_,_,ao,λyb w7 D=>?_⟩;have H2:=H.new (cs:=KCe) EQ4 D;refine Hp.stA H2 EQ4 Fol.Dh (vs:=rwC p) rfl rfl (by simp[KCe]) (cs':=rwC p) rfl λw8 A=>?_;clear H H2 D ao;refine⟨p.1.id,A.lo xK,?_⟩;have cl:=qP cx hr;rw[bi];refine AC (QR (A.ok (AV ch tb T) m1) r.id) ?_;rintro _ w9 ⟨cy,⟨h3,_⟩|⟨k,r',a,c,kd,h3,rfl,h4,H4⟩⟩
  ·rw[cl]at h3;cases h3
  rw[cl]at h3;cases h3;have H5:=A.AX.zK H4;clear A H4;refine⟨_,_,_,_,_,_,_,_,_,_,rfl,λy bo ba=>?_⟩;have H6:=H5.nw ba;refine Hp.sA H6 LG (cs':=ndC r.id (AY T.L j3) kd r.x a r.x.FP.length c) λc6 C=>?_;clear H5 H6 ba;refine⟨AY T.L j3,C.lo xK,p.1.parent,C.lo xK,AQ (λh=>(h ck.symm).elim) (λ_=>⟨iR,ci (d.length-(j3+1)) _ _ om ⟨j3+1,cy,.blk y (ndC r.id (AY T.L j3) kd r.x a r.x.FP.length c) 71::.own 142 2 a r.x.FP.length c (atC r.x.FP)::.blk yb (rwC p) 204::X3,rfl,om,rfl,C.perm ?_⟩⟩)⟩;refine AL λff gg i l q u=>?_;simp only[q,l,i,aY,aO,aH];omega
 refine⟨ch,tb,rfl,?_⟩;rw[<- an,<- N]
 exact Hp.BM (R:=A0::X3) (H.perm (by
  refine AL λff gg i l q u=>?_;simp only[q,l,i,aY,aO,aH];omega))
end
noncomputable section
open Go Go.Vc Go.Nod
def Gx:LdS->List Cg->Option LdS
 |st,[]=>some st
 |st,c::r=>match P8 st c with
  |none=>none
  |some st'=>Gx st' r
def KBQ:LdS:=⟨[],[],0,[],[]⟩
structure LdG(st:LdS)(N:Nat):Prop where
 ok:KEd st N
 w:DD ⟨st.P,st.Q,[]⟩ 0
 ql:st.Q.length<=N
 cn:(st.C.map (·.1)).Nodup
 cl:st.C.length<=N
 ci:∀i∈st.C.map (·.1),0<=i/\i<=4294967296
def YB:LdG KBQ 0:=⟨⟨bZ _,bZ _,λi=>bZ _⟩,⟨bZ _,λe h=>(by cases h),.nil,λe h=>(by cases h),λe h=>(by cases h),.nil⟩,bZ _,.nil,bZ _,λi h=>(by cases h)⟩
def headF_id{l:LU}{x:Nat×Nat×Nat}(h:Fol.EU l=some x):x.1<=4294967296:=by
 rw[Fol.EU]at h;split at h
 ·cases h
 split at h
 ·cases h
 cases h;omega
def LdG.take{st m:LdS}{N:Nat}{c:Cg}(h:LdG st N)(b:P8 st c=some m):LdG m (N+1):=by
 have n:=h.ok.take b;rw[P8]at b;split at b
 ·cases b
 rename_i H;split at b
 ·cases b
 rename_i A;obtain⟨⟨J,K,r⟩,a,t⟩:=cO.1 b;subst t;have L:=h.ok.P
 have o:0<=c.slot/\c.slot<120:=by
  have f:(Sl.xY (Aj (KAR st.P (c.page.toNat+1)) c.page.toNat) c.slot c.s.data.toList).2=0:=az λh=>A (.inr (.inr h));rw[Sl.xY]at f;split at f
  ·cases f
  omega
 have p:st.P.length<=((KAR st.P (c.page.toNat+1)).set c.page.toNat (Sl.xY (Aj (KAR st.P (c.page.toNat+1)) c.page.toNat) c.slot c.s.data.toList).1).length/\c.page.toNat<((KAR st.P (c.page.toNat+1)).set c.page.toNat (Sl.xY (Aj (KAR st.P (c.page.toNat+1)) c.page.toNat) c.slot c.s.data.toList).1).length:=by
  rw[bU,KAR,aF,dQ];omega
 have l:=h.w.pages p.1 n.P
 have u:c.page<(((KAR st.P (c.page.toNat+1)).set c.page.toNat (Sl.xY (Aj (KAR st.P (c.page.toNat+1)) c.page.toNat) c.slot c.s.data.toList).1).length:Int):=by
  have:=p.2;omega
 have B:DD ⟨(KAR st.P (c.page.toNat+1)).set c.page.toNat (Sl.xY (Aj (KAR st.P (c.page.toNat+1)) c.page.toNat) c.slot c.s.data.toList).1,yR st.Q (Aa c.s) (c.page,c.slot),[]⟩ 0:=by
  refine⟨l.len,λe g=>?_,Gn l.qn _ _,λe g=>?_,l.d,l.dn⟩
  ·rcases Jk g with rfl|g
   ·exact⟨by show 0<=c.page;omega,u,o.1,o.2⟩
   exact l.q e g
  rcases Jk g with rfl|g
  ·exact Ug _
  exact l.key e g
 have D:=VK st.Q (Aa c.s) (c.page,c.slot)
 have y:(r.map (·.1)).Nodup/\r.length<=N+1/\∀i∈r.map (·.1),0<=i/\i<=4294967296:=by
  have same:(st.C.map (·.1)).Nodup/\st.C.length<=N+1/\∀i∈st.C.map (·.1),0<=i/\i<=4294967296:=⟨h.cn,kH h.cl,h.ci⟩;rw[IU.eq_def]at a;split at a
  ·cases a
  split at a
  ·split at a
   ·cases a;exact same
   cases a
  split at a
  ·obtain⟨M,F,e⟩:=cO.1 a;cases e;exact same
  split at a
  ·obtain⟨x,G,e⟩:=cO.1 a;cases e;refine⟨Gn h.cn _ _,fJ (VK _ _ _) (Nat.succ_le_succ h.cl),λi j=>?_⟩;rw[Ie]at j
   have z:i∈st.C.map (·.1)\/i=(x.1:Int):=by
    split at j
    ·exact .inl j
    rw[aT,aW]at j;exact j
   rcases z with j|rfl
   ·exact h.ci i j
   have:=headF_id G;omega
  cases a
 exact⟨n,B,by have:=h.ql;show(yR st.Q (Aa c.s) (c.page,c.slot)).length<=N+1;omega,y.1,y.2.1,y.2.2⟩
theorem OY:∀(l:List Cg)(st a:LdS)(N:Nat),LdG st N->Gx st l=some a->LdG a (N+l.length)
 | [],st,a,N,h,ht=>by cases ht;exact h
 |c::r,st,a,N,h,ht=>by
  rw[Gx]at ht;split at ht
  ·cases ht
  rename_i s1 b;have:=OY r s1 a (N+1) (h.take b) ht;rw[aK,show N+(r.length+1)=N+1+r.length by omega];exact this
structure uT(l:List Cg)(st:LdS)(recs:List Fol.Rec)(F:Fo)(T:Tr):Prop where
 take:Gx KBQ l=some st
 words:WOk st.V
 keys:∃(K:lI)(rK:List Fol.Rec),K.Perm (st.C.map (·.1))/\(K.Pairwise λx y=>x<y)/\rK.length=K.length/\(∀(j:Nat)(i:Int)(r:Fol.Rec),K[j]? =some i->rK[j]? =some r->Fol.KCB (sortL (yN st.C i)) r)/\recs.Perm rK
 rise:recs.Pairwise λa b=>a.frm<b.frm
 good:Am F T
 tree:rW st.V T recs
 next:max st.next 1=T.next
def Uj{l:List Cg}{st:LdS}{d:List Fol.Rec}{F:Fo}{T:Tr}(J:uT l st d F T)(la:OA)(n lc:Nat)(w:Wq)(a3:∀W,Chg [] w W->Cells W la (xy l))(hn:n=l.length)(bp:n<=400000):
  CP 25 #[.slice la n lc] w λe w'=>∃f b,e=Ej (.tuple #[pq b,I 0])/\Hp [] w w' [xu f b ⟨T,spR d,st.V,st.P,st.Q⟩]:=by
 apply Jcl;have t:=OY l KBQ st 0 YB J.take;rw[cZ]at t;refine AC (QI w) ?_;rintro _ w1 ⟨b,f,rfl,H1⟩;obtain⟨M,⟨z,u,y,N,tf,wf,rfl,_,rfl⟩,H2,_⟩:=H1.unpack;refine⟨_,rfl,λO w2 a4 xb w3 a5=>?_⟩;obtain⟨cf,H3⟩:=pcs_nil (H2.KDN EQ4 .i64 a4);have H4:=(H3.new (cs:=ldC z.ub 0 none 0 0 O none 0 0) EQ4 a5).yS 9 1
 refine xI.mk (λm s w'=>∃(j:Nat)(q:OA)(r:Nat)(cf N:Nq)(u:OA)(y:Nat)(s1:LdS)(X:List Asn),m=n-j/\j<=n/\s=(j:Int)/\LdG s1 j/\Gx s1 (l.drop j)=some st/\
  Hp [] w w' (ldL xb O z q r none 0 0 cf N u y s1++(AV tf z.tb ⟨[],1⟩::.Z6 z.sb .i64 (smC [])::Az wf z.wb []::X))) n ⟨0,none,0,cf,N,u,y,KBQ,[],rfl,om,rfl,YB,J.take,H4.perm ?_⟩ ?_
 ·refine AL λff gg h0 R U ab=>?_;have e1:BN KBQ.V=[]:=rfl;have e2:zD.T=⟨[],1⟩/\zD.S=[]/\zD.W=[]/\zD.P=KBQ.P/\zD.Q=KBQ.Q:=⟨rfl,rfl,rfl,rfl,rfl⟩;have e3:KBQ.V.length=0/\KBQ.next=0/\KBQ.C=[]:=⟨rfl,rfl,rfl⟩;simp only[I,Q,KAg,ldL,e1,e2.1,e2.2.1,e2.2.2.1,e2.2.2.2.1,e2.2.2.2.2,e3.1,e3.2.1,e3.2.2,U,R,h0,aY,aO,aH];omega
 rintro m s w4 nx ⟨j,q,r,cf,N,u,y,s1,X,rfl,hj,rfl,hg,ht,H⟩ a6;refine AB (λh1=>?_) (λh1=>?_)
 ·have A:j<l.length:=om;obtain⟨c,ag⟩:∃c,c=l[j]:=⟨_,rfl⟩;have R:l[j]? =some c:=by rw[ag];exact aB A
  have a7:l.drop j=c::l.drop (j+1):=by rw[ag];exact bM A
  rw[a7,Gx]at ht;split at ht
  ·cases ht
  rename_i s2 ae;have ah:=a3 w4 H.chg;have af:=NF R;obtain⟨ad,ak⟩:=ah.some (λe=>by rw[e]at af;simp[cgC]at af);refine AA ak ⟨⟨om,h1⟩,c.page,c.slot,c.s,c.gone,ah.ldA KDn ak af rfl,λyb w5 a8=>?_⟩;have H2:=H.nw a8;refine Hp.stA H2 EQ4 KDn rfl rfl (by simp) rfl λw6 H3=>?_;refine⟨c.page,c.slot,c.s,c.gone,H3.loA KDn,?_⟩;have H4:=H3.drop;obtain⟨pg,sl,s,al⟩:=c;have am:s=bts s.data.toList:=(Bc s).symm;have an:=ae;rw[am]at ae;have ao:=nTake_spec xb O z q r none 0 0 cf N u y s1 s2 j hg.ok om pg sl s.data.toList al ae H4;rw[<- am]at ao;refine AC ao ?_;rintro _ w7 ⟨a9,ba,bb,bc,bd,bh,rfl,H5⟩;refine⟨true,rfl,Au ⟨iR,a6 (n-(j+1)) _ _ om ⟨j+1,a9,ba,bb,bc,bd,bh,s2,X,rfl,om,rfl,hg.take an,ht,H5⟩⟩⟩
 have A:j=l.length:=om;rw[A,iQ,Gx]at ht;cases ht;refine⟨q,st.V.length,r,H.lo rSS,?_⟩;have bi:Own w4 0 9 1 q st.V.length r (BN st.V):=H.xh m1;refine AC (xLoad_spec q st.V.length r st.V w4 bi.cells rfl J.words) ?_;rintro _ w5 ⟨B,Y,rfl,H2⟩;have H3:=H.yC H2;refine⟨_,_,rfl,AQ (λh=>(h rfl).elim) (λ_=>?_)⟩;obtain⟨K,rK,k1,k2,k3,k4,k5⟩:=J.keys
 have H4:Hp [] w w5 (.blk xb (ldC z.ub st.next q st.V.length r O none 0 0) 128::KBv cf O st.C::(Az B Y st.V::.blk z.ub (tbC z u st.P.length y) 86::yO N u y st.P::.xH z.qb (gC Ai st.Q)::.Z6 z.sb .i64 (smC [])::.own 9 1 q st.V.length r (BN st.V)::AV tf z.tb ⟨[],1⟩::Az wf z.wb []::X)):=H3.perm (by
  refine AL λff gg h0 R U ab=>?_;simp only[ldL,U,R,h0,aY,aO,aH];omega)
 refine AC (nNodes_spec xb z.ub O st.next q st.V.length r cf st.C t.cn (by have:=t.cl;omega) (λi=>by have:=t.ok.C i;omega) (λi hi=>by have:=t.ci i hi;omega) K k1 k2 rK k3 k4 H4) ?_;rintro _ w6 ⟨aa,ac,D,rfl,bj,bk,H5⟩
 have ap:D.map (·.1)=d:=by
  have h1:(D.map (·.1)).Perm d:=bj.trans k5.symm;have h2:(D.map (·.1)).Pairwise λa b=>a.frm<=b.frm:=dD.2 bk;refine dh (le:=λa b=>a.frm<=b.frm) (λa b U hb h3 h4=>?_) h2 (J.rise.imp λh=>pW h) h1;have bq:a.frm=b.frm:=Int.le_antisymm h3 h4;have bl:=h1.mem_iff.1 U;obtain⟨i,hi⟩:=bD bl;obtain⟨j,hj⟩:=bD hb;obtain⟨aq,ar⟩:=aA.1 hi;obtain⟨A,av⟩:=aA.1 hj;rcases nK i j with h|h|h
  ·have:=dE.1 J.rise i j aq A h;rw[ar,av]at this;omega
  ·subst h;rw[hi]at hj;exact Option.some.inj hj
  have:=dE.1 J.rise j i A aq h;rw[ar,av]at this;omega
 refine⟨true,rfl,Au (x:=_) ⟨_,H5.lo rPT,AA rfl ?_⟩⟩;rw[add_lit]
 have H6:Hp [] w w6 (.blk z.ub (tbC z u st.P.length y) 86::.blk xb (ldC z.ub st.next q st.V.length r O aa D.length ac) 128::.own 204 8 aa D.length ac (D.flatMap rwC)::.Z6 z.sb .i64 (smC [])::Az B Y st.V::(D.map rwO++(yO N u y st.P::.xH z.qb (gC Ai st.Q)::.own 9 1 q st.V.length r (BN st.V)::AV tf z.tb ⟨[],1⟩::Az wf z.wb []::X))):=H5.perm (by
  refine AL λff gg h0 R U ab=>?_;simp only[U,R,h0,aY,aO,aH];omega)
 obtain⟨p,aw⟩:∃p:WN,p= {z with wb:=Y}:=⟨_,rfl⟩;have Z:p.ub=z.ub/\p.sb=z.sb/\p.wb=Y/\p.qb=z.qb:=by rw[aw];exact⟨rfl,rfl,rfl,rfl⟩
 refine Hp.st (o:=0+2) H6 EQ4 rPB rfl rfl (by simp[tbC]) (cs':=tbC p u st.P.length y) (by rw[aw];rfl) λw7 H7=>?_
 have H8:Hp [] w w7 (.blk xb (ldC p.ub st.next q st.V.length r O aa D.length ac) 128::.blk p.ub (tbC p u st.P.length y) 86::.own 204 8 aa D.length ac (D.flatMap rwC)::.Z6 p.sb .i64 (smC [])::Az B p.wb st.V::(D.map rwO++(yO N u y st.P::.xH z.qb (gC Ai st.Q)::.own 9 1 q st.V.length r (BN st.V)::AV tf z.tb ⟨[],1⟩::Az wf z.wb []::X))):=by
  rw[Z.1,Z.2.1,Z.2.2.1];exact H7.AX
 refine AC (nTreeQ_spec xb p u st.P.length y st.next q st.V.length r O aa ac D B st.V J.good (by rw[ap];exact J.tree) J.next H8) ?_;rintro _ w8 ⟨a0,a1,rfl,H9⟩;rw[ap]at H9;refine⟨true,rfl,Au (x:=_) ⟨_,H9.lo rPT,?_⟩⟩;obtain⟨G,a2⟩:∃G:WN,G= {p with tb:=a1}:=⟨_,rfl⟩;have g:G.ub=p.ub/\G.tb=a1/\G.sb=p.sb/\G.wb=p.wb/\G.qb=z.qb:=by rw[a2];exact⟨rfl,rfl,rfl,rfl,Z.2.2.2⟩
 rw[<- a2]at H9
 have bm:Hp [] w w8 (KAg G u y N a0 B ⟨T,spR d,st.V,st.P,st.Q⟩++(.blk xb (ldC p.ub st.next q st.V.length r O aa D.length ac) 128::.own 9 1 q st.V.length r (BN st.V)::AV tf z.tb ⟨[],1⟩::Az wf z.wb []::X)):=H9.perm (by
  refine AL λff gg h0 R U ab=>?_;simp only[KAg,g.1,g.2.1,g.2.2.1,g.2.2.2.1,g.2.2.2.2,U,R,h0,aY,aO,aH];omega)
 obtain⟨f',bo⟩:=bm.D5 (Q:=KDQ G.ub ⟨T,spR d,st.V,st.P,st.Q⟩) ⟨G,u,y,N,a0,B,rfl,⟨t.w,by have:=t.ql;show st.Q.length<=500000;omega⟩,rfl⟩;exact⟨f',G.ub,by rw[g.1],Hp.BM (L:=[_]) bo⟩
end
end Go.Proofs.YtljenkbpnioipaaGreat
namespace Go.Nod
open Go
def KAk:List It->lI->List Bd->List Bd
 |x::r,i::is,op=>(op.drop x.level.toNat).reverse++(i,false)::KAk r is (op.take x.level.toNat++[(i,true)])
 |_,_,op=>op.reverse
def Po(ids:lI)(a:List Bd):KAk [] ids a=a.reverse:=by
 cases ids<;>rfl
theorem ZV:∀(n:Nat)(s:BSt),n<=s.op.length->JW n s=⟨s.op.take (s.op.length-n),s.out++(s.op.drop (s.op.length-n)).reverse⟩
 |0,s,_=>by simp[JW]
 |n+1,s,h=>by
  rw[Oo,ZV n s om,KCk];obtain⟨k,c⟩:∃k,s.op.length-(n+1)=k:=⟨_,rfl⟩;have b:s.op.length-n=k+1:=om;have a:k<s.op.length:=om;rw[c,b]
  have d:(s.op.take (k+1)).dropLast=s.op.take k:=by
   rw[aG a,List.dropLast_concat]
  have e:(s.op.take (k+1)).getLastD (0,true)=s.op[k]:=by
   rw[aG a,oh]
  have f:s.op.drop k=s.op[k]::s.op.drop (k+1):=bM a;rw[d,e,f,qG,ax]
def Yb(d:Int)(s:BSt):GG d s=⟨s.op.take d.toNat,s.out++(s.op.drop d.toNat).reverse⟩:=by
 rw[GG,ZV _ s om];by_cases h:d.toNat<=s.op.length
 ·rw[show s.op.length-(s.op.length-d.toNat)=d.toNat by omega]
 rw[show s.op.length-(s.op.length-d.toNat)=s.op.length by omega,aV (aZ _),aV om,eu (aZ _),eu om]
theorem qW:∀(l:List It)(ids:lI)(s:BSt),ids.length=l.length->(GG 0 (KBO l ids s)).out=s.out++KAk l ids s.op
 | [],ids,s,_=>by rw[KBO,Yb,Po];rfl
 |x::r,[],s,h=>by cases h
 |x::r,i::is,s,h=>by
  rw[KBO,lD,jw,qW r is _ (by simpa using h),Yb,KDj,KAk];simp
def Ij{l:List It}{ids:lI}(h:ids.length=l.length):DJ l ids=KAk l ids []:=by
 rw[DJ,qW l ids _ h];rfl
theorem NR:∀(l:List It)(ids:lI)(a:List Bd),ids.length=l.length->(KAk l ids a).Perm (a++ids.flatMap λi=>[(i,false),(i,true)])
 | [],[],a,_=>by rw[Po];simp
 | [],_::_,a,h=>by cases h
 |x::r,[],a,h=>by cases h
 |x::r,i::is,a,h=>by
  have c:=NR r is (a.take x.level.toNat++[(i,true)]) (by simpa using h);rw[KAk]
  have d:((a.drop x.level.toNat).reverse++(i,false)::KAk r is (a.take x.level.toNat++[(i,true)])).Perm (a.drop x.level.toNat++(i,false)::(a.take x.level.toNat++[(i,true)]++is.flatMap λi=>[(i,false),(i,true)])):=
   (List.reverse_perm _).append (c.cons _)
  refine d.trans ?_
  have b:(a.drop x.level.toNat++(i,false)::(a.take x.level.toNat++[(i,true)]++is.flatMap λi=>[(i,false),(i,true)])).Perm ((a.take x.level.toNat++a.drop x.level.toNat)++((i,false)::(i,true)::is.flatMap λi=>[(i,false),(i,true)])):=by
   rw[oq];intro z;simp only[pX,ny,List.count_nil];omega
  rw[bY]at b;exact b
theorem XJ{l:List It}{ids:lI}(h:ids.length=l.length)(c:ids.Nodup):(DJ l ids).Nodup:=by
 rw[Ij h,(NR l ids [] h).nodup_iff,aO];clear h
 induction ids with
 |nil=>simp
 |cons i d f=>
  rw[bH]at c;rw[bW];show((i,false)::(i,true)::d.flatMap λi=>[(i,false),(i,true)]).Nodup
  have b:∀e:Bool,(i,e)∉d.flatMap λi=>[((i,false):Bd),(i,true)]:=λe a=>by
   obtain⟨j,g,a⟩:=fH.1 a;simp at a;rcases a with a|a<;>exact c.1 (a.1▸g)
  rw[bH,bH];refine⟨λa=>?_,b true,f c.2⟩;rcases aP.1 a with a|a
  ·cases a
  exact b false a
def Ov{l:List It}{ids:lI}(h:ids.length=l.length){b:Bd}:b∈DJ l ids↔b.1∈ids:=by
 rw[Ij h,(NR l ids [] h).mem_iff,aO,fH];obtain⟨i,e⟩:=b;constructor
 ·rintro⟨j,c,a⟩;simp at a;rcases a with a|a<;>exact a.1▸c
 intro d;exact⟨i,d,by cases e<;>simp⟩
theorem sF:∀(l:List It)(ids:lI)(a:List Bd),(a.reverse).Sublist (KAk l ids a)
 | [],ids,a=>by rw[Po];exact .refl _
 |x::r,[],a=>.refl _
 |x::r,i::is,a=>by
  have c:=sF r is (a.take x.level.toNat++[(i,true)]);rw[mJ]at c;have b:(a.take x.level.toNat).reverse.Sublist (KAk r is (a.take x.level.toNat++[(i,true)])):=(mr _ _).trans c;rw[KAk];have e:a.reverse=(a.drop x.level.toNat).reverse++(a.take x.level.toNat).reverse:=by rw[<- mJ,bY]
  rw[e];exact(List.Sublist.refl _).append (b.cons _)
structure KDF(S:SM)(bs:List Bd):Prop where
 lt:bs.Pairwise λa b=>atB S a<atB S b
 pos:∀b∈bs,0<atB S b/\atB S b<4611686018427387904
def spB(S:SM)(i:Int):Sp:=(atB S (i,false),atB S (i,true))
def KEe:Nat->List It->Prop
 |_,[]=>True
 |m,x::r=>0<=x.level/\x.level.toNat<=m/\KEe (x.level.toNat+1) r
theorem sK(o:List Sp)(x:Sp)(d:Nat)(g:d<=o.length)(c:∀k y,d<=k->o[k]? =some y->y.2<x.1)(f:∀k y,k<d->o[k]? =some y->¬y.2<x.1):∀n,d<=n->n<=o.length->KAz n o x=o.take d
 |0,hn,hl=>by
  have:d=0:=om;rw[this,KAz,fD]
 |n+1,hn,hl=>by
  obtain⟨y,a⟩:∃y,o[n]? =some y:=⟨_,aB om⟩;rw[KAz,a];dsimp only;by_cases e:d<=n
  ·rw[if_pos (c n y e a)];exact sK o x d g c f n e om
  have b:d=n+1:=om;rw[if_neg (f n y om a),b]
theorem uY(S:SM):∀(l:List It)(ids:lI)(f:List Bd)(p:Option Int),ids.length=l.length->KEe f.length l->(∀b∈f,b.2=true)->KDF S (KAk l ids f)->(∀b∈f,∀c∈KAk l ids f,atB S (b.1,false)<atB S c)->(∀z,p=some z->∀c∈KAk l ids f,z<atB S c)->
  KCC p (f.map λb=>spB S b.1) (ids.map (spB S))=some (l.map (·.level))/\(ids.map (spB S)).Pairwise (λa b=>a.1<b.1)/\∀i∈ids,(spB S i).1<(spB S i).2
 | [],[],f,p,_,_,_,_,_,_=>⟨rfl,.nil,λi hi=>(by cases hi)⟩
 | [],_::_,f,p,h,_,_,_,_,_=>by cases h
 |x::r,[],f,p,h,_,_,_,_,_=>by cases h
 |x::r,i::is,f,p,h,hlev,hop,hR,hfr,hp=>by
  obtain⟨l0,R,Y⟩:=hlev;rw[KAk]at hR hfr hp;obtain⟨d,hd⟩:∃d,d=x.level.toNat:=⟨_,rfl⟩;rw[<- hd]at hR hfr hp R Y;obtain⟨g,m⟩:∃g,g=f.take d++[(i,true)]:=⟨_,rfl⟩;rw[<- m]at hR hfr hp;obtain⟨o,n⟩:∃o,o=KAk r is g:=⟨_,rfl⟩;rw[<- n]at hR hfr hp;have w:g.reverse.Sublist o:=by rw[n];exact sF r is g
  have A:g.reverse=(i,true)::(f.take d).reverse:=by rw[m,mJ];rfl
  have G:=eP.1 hR.lt;have q:=bF.1 G.2.1;have C:KDF S o:=⟨q.2,λb e=>hR.pos b (aI _ (.tail _ e))⟩;have H:(i,true)∈o:=w.subset (by rw[A];exact .head _);have T:(spB S i).1<(spB S i).2:=q.1 _ H;have J:∀b∈f.drop d,atB S b<atB S (i,false):=λb e=>G.2.2 b (List.mem_reverse.2 e) _ (.head _)
  have s:∀b∈f.take d,atB S (i,true)<atB S b:=λb e=>by
   have t:(g.reverse).Pairwise λa b=>atB S a<atB S b:=C.lt.sublist w;rw[A]at t;exact(bF.1 t).1 b (List.mem_reverse.2 e)
  have K:KAz (f.map λb=>spB S b.1).length (f.map λb=>spB S b.1) (spB S i)=(f.take d).map λb=>spB S b.1:=by
   rw[sK _ (spB S i) d (by rw[aQ];exact R) (λk y Z D=>?_) (λk y Z D=>?_) _ (by rw[aQ];exact R) (aZ _),iE]
   ·rw[au]at D;obtain⟨b,e,rfl⟩:=cO.1 D;have B:b∈f.drop d:=aC (by rw[dm,show d+(k-d)=k by omega];exact e);have:=J b B;have u:=hop b (aC e);obtain⟨U,b2⟩:=b;subst u;exact this
   rw[au]at D;obtain⟨b,e,rfl⟩:=cO.1 D;have B:b∈f.take d:=aC (by rw[bn Z];exact e);have:=s b B;have u:=hop b (aC e);obtain⟨U,b2⟩:=b;subst u;intro h;have t:atB S (U,true)<atB S (i,false):=h;have O:atB S (i,false)<atB S (i,true):=T;omega
  have L:¬KEA p ((f.take d).map λb=>spB S b.1) (spB S i):=by
   have p1:=hR.pos (i,false) (aI _ (.head _));have p2:=C.pos _ H;rintro(t|t|⟨z,t,O⟩|⟨y,t,O⟩)
   ·exact t ⟨⟨by show 0<=atB S (i,false);omega,by show atB S (i,false)<=_;omega⟩,⟨by show 0<=atB S (i,true);omega,by show atB S (i,true)<=_;omega⟩⟩
   ·exact absurd T om
   ·have:=hp z t (i,false) (aI _ (.head _));have h3:atB S (i,false)<=z:=O;omega
   rw[List.getLast?_map]at t;obtain⟨b,e,rfl⟩:=cO.1 t;have B:b∈f.take d:=mD e;have M:b∈f:=dJ B;have h3:=s b B;have h4:=hfr b M (i,false) (aI _ (.head _));have u:=hop b M;obtain⟨U,b2⟩:=b;subst u;exact O ⟨h4,h3⟩
  have X:g.length=d+1:=by
   rw[m,aF,aJ];simp;omega
  obtain⟨i1,i2,i3⟩:=uY S r is g (some (atB S (i,false))) (by simpa using h) (by rw[X];exact Y) (λb e=>by
   rw[m,aT,aW]at e;rcases e with e|e
   ·exact hop b (dJ e)
   ·rw[e]) (by rw[<- n];exact C) (λb e c F=>by
   rw[<- n]at F;rw[m,aT,aW]at e;rcases e with e|e
   ·exact hfr b (dJ e) c (aI _ (.tail _ F))
   ·rw[e];exact q.1 c F) (λz hz c F=>by
   rw[<- n]at F;cases hz;exact q.1 c F)
  refine⟨?_,?_,λj N=>?_⟩
  ·rw[aj,KCC,K,if_neg L];have e1:((f.take d).map λb=>spB S b.1)++[spB S i]=g.map λb=>spB S b.1:=by rw[m,ai];rfl
   rw[e1,show(spB S i).1=atB S (i,false)from rfl,i1]
   have e2:(((f.take d).map λb=>spB S b.1).length:Int)=x.level:=by
    rw[aQ,aJ];omega
   rw[e2];rfl
  ·rw[aj,bF];refine⟨λy D=>?_,i2⟩;obtain⟨j,N,rfl⟩:=aU.1 D
   have B:(j,false)∈o:=by
    rw[n,(NR r is g (by simpa using h)).mem_iff,aT];exact .inr (fH.2 ⟨j,N,.head _⟩)
   exact q.1 _ B
  rcases aP.1 N with rfl|N
  ·exact T
  exact i3 j N
def levels_ok{S:SM}{l:List It}{ids:lI}(h:ids.length=l.length)(c:KEe 0 l)(e:KDF S (DJ l ids)):GV (ids.map (spB S))=some (l.map (·.level))/\(ids.map (spB S)).Pairwise (λa b=>a.1<b.1)/\∀i∈ids,(spB S i).1<(spB S i).2:=by
 rw[Ij h]at e;exact uY S l ids [] none h c (λb d=>(by cases d)) e (λb d=>(by cases d)) (λz f=>(by cases f))
def part_zero(low wide N:Int):GI low wide 0 N=low:=by simp[GI]
def part_full{low wide N:Int}(a:0<N):GI low wide N N=low+wide:=by
 rw[GI,oz _ om];have:=oK wide N;rw[Int.mul_comm]at this;omega
def XD{low wide k N:Int}(a:0<N)(b:N<=wide):GI low wide k N<GI low wide (k+1) N:=by
 have c:1<=wide/N:=by
  have:=nU a b
  rwa [Int.ediv_self om]at this
 have d:0<=wide%N:=ni _ om;have e:wide%N*k/N<=wide%N*(k+1)/N:=nU a (by rw[Int.mul_add];omega);rw[GI,GI,Int.mul_add (wide/N)];omega
theorem WZ{low wide N:Int}(b:0<N)(c:N<=wide)(a:Nat):∀d:Nat,GI low wide (a:Int) N<GI low wide ((a+d+1:Nat):Int) N
 |0=>XD b c
 |d+1=>Int.lt_trans (WZ b c a d) (XD b c)
def vX{low c n:Int}{f:lI}(h:KBd low c n=some f):f.length=n.toNat/\0<=n/\0<=low/\c<=4611686018427387904/\(low::(f++[c])).Pairwise (· < ·):=by
 rw[KBd]at h;split at h;rotate_left
 ·cases h
 rename_i g;obtain⟨i,j,l,q,r⟩:=g;cases h;refine⟨by rw[aQ,fZ],l,i.1,j.2,?_⟩
 have e:low::(((List.range n.toNat).map λ(k:Nat)=>GI low (c-low) ((k:Int)+1) (n+1))++[c])=(List.range (n.toNat+2)).map λ(k:Nat)=>GI low (c-low) (k:Int) (n+1):=by
  rw[gQ,ai,jq,aj,dB,jv];have m:GI low (c-low) ((0:Nat):Int) (n+1)=low:=part_zero _ _ _
  have o:GI low (c-low) ((n.toNat+1:Nat):Int) (n+1)=c:=by
   rw[show((n.toNat+1:Nat):Int)=n+1 by omega,part_full om];omega
  rw[m,o];rfl
 rw[e,dD];refine jr.imp λ{a b} p=>?_;obtain⟨d,rfl⟩:∃d,b=a+d+1:=⟨b-a-1,om⟩;exact WZ om om a d
theorem MW{S:SM}{b:Bd}(h:0<=atB S b):(xm S b.1).isSome:=by
 cases e:xm S b.1 with
 |none=>
  rw[atB,e]at h;have a:(0:Int)<= -1:=h;omega
 |some x=>rfl
def lay_get(S:SM)(b:Bd)(n:Int)(i:Int):(xm (KAW S b n) i).isSome=(decide (i=b.1)||(xm S i).isSome):=by
 rw[KAW,JE];by_cases h:i=b.1
 ·simp[h]
 simp[h]
def lay_self(S:SM)(b:Bd)(n:Int):atB (KAW S b n) b=n:=by
 rw[KAW,atB,JE,if_pos rfl];cases e:b.2<;>simp
def lay_other{S:SM}{b c:Bd}{n:Int}(h:c≠b)(e:(xm S c.1).isSome):atB (KAW S b n) c=atB S c:=by
 rw[KAW,atB,JE];by_cases a:c.1=b.1
 ·rw[if_pos a,atB];obtain⟨z,d⟩:=gU.1 e
  have f:b.2= !c.2:=by
   obtain⟨i,x⟩:=c;obtain⟨j,y⟩:=b;simp only at a⊢;subst a;cases x<;>cases y<;>simp_all
  rw[f,d,<- a,d];cases c.2<;>simp
 rw[if_neg a,<- atB]
theorem Q9:∀(bs:List Bd)(a:lI)(S:SM)(i:Int),(xm S i).isSome->(xm (layAll S bs a) i).isSome
 | [],a,S,i,h=>by rw[layAll];exact h;intros;simp_all
 |b::bs,[],S,i,h=>by rw[Ir];exact h
 |b::bs,n::a,S,i,h=>by
  rw[layAll];exact Q9 bs a _ i (by rw[lay_get,h,qF])
theorem Ls:∀(bs:List Bd)(a:lI)(S:SM)(i:Int),(xm (layAll S bs a) i).isSome->(xm S i).isSome\/∃b∈bs,b.1=i
 | [],a,S,i,h=>by
  have e:layAll S [] a=S:=by cases a<;>rfl
  rw[e]at h;exact .inl h
 |b::bs,[],S,i,h=>by rw[Ir]at h;exact .inl h
 |b::bs,n::a,S,i,h=>by
  rw[layAll]at h;rcases Ls bs a _ i h with h|⟨c,d,rfl⟩
  ·rw[lay_get]at h;by_cases e:i=b.1
   ·exact .inr ⟨b,.head _,e.symm⟩
   simp[e]at h;exact .inl h
  exact .inr ⟨c,.tail _ d,rfl⟩
theorem IZ:∀(bs:List Bd)(a:lI)(S:SM)(c:Bd),c∉bs.take a.length->(xm S c.1).isSome->atB (layAll S bs a) c=atB S c
 | [],a,S,c,_,_=>by
  have e:layAll S [] a=S:=by cases a<;>rfl
  rw[e]
 |b::bs,[],S,c,_,_=>by rw[Ir]
 |b::bs,n::a,S,c,h,hs=>by
  rw[aK,dY,aP,not_or]at h;rw[layAll,IZ bs a _ c h.2 (by rw[lay_get,hs,qF]),lay_other h.1 hs]
theorem OM:∀(bs:List Bd)(a:lI)(S:SM),bs.Nodup->a.length<=bs.length->(bs.take a.length).map (atB (layAll S bs a))=a
 |bs,[],S,_,_=>by simp
 | [],n::a,S,_,h=>by simp at h
 |b::bs,n::a,S,hn,h=>by
  rw[bH]at hn;rw[aK,dY,aj,layAll,OM bs a _ hn.2 (by simpa using h)];rw[IZ bs a _ b (λc=>hn.1 (dJ c)) (by rw[lay_get];simp),lay_self]
theorem VH(old:SM):∀(l:List Bd)(S:SM)(i:Int),xm (F7 old l S) i=if∃b∈l,b.1=i/\0<=atB old b then xm old i else xm S i
 | [],S,i=>by simp[F7]
 |b::r,S,i=>by
  rw[F7,VH old r];by_cases e:∃c∈r,c.1=i/\0<=atB old c
  ·obtain⟨c,a,e,d⟩:=e;rw[if_pos ⟨c,a,e,d⟩,if_pos ⟨c,.tail _ a,e,d⟩]
  rw[if_neg e];by_cases d:0<=atB old b
  ·rw[if_pos d,JE];obtain⟨z,j⟩:=gU.1 (MW d);by_cases f:i=b.1
   ·rw[if_pos f,if_pos ⟨b,.head _,f.symm,d⟩,f,j];rfl
   rw[if_neg f,if_neg];rintro⟨c,a,g,h⟩;rcases aP.1 a with rfl|a
   ·exact f g.symm
   exact e ⟨c,a,g,h⟩
  rw[if_neg d,if_neg];rintro⟨c,a,g,h⟩;rcases aP.1 a with rfl|a
  ·exact d h
  exact e ⟨c,a,g,h⟩
structure SpI(l:List Bd)(old:SM)(k fr:Nat)(low:Int)(S:SM):Prop where
 le:fr<=k
 z:0<=low
 rise:((l.take fr).map (atB S)).Pairwise (· < ·)
 pos:∀b∈l.take fr,0<atB S b/\atB S b<=low
 no:∀q b,fr<=q->q<k->l[q]? =some b->atB old b<0
 old_:∀q b,fr<=q->l[q]? =some b->0<=atB old b->atB S b=atB old b/\(xm S b.1).isSome
def SpI.step{l:List Bd}(u:l.Nodup){old:SM}{k fr:Nat}{low c:Int}{S:SM}(h:SpI l old k fr low S)(O:k<=l.length){d:lI}(w:KBd low c ((k:Int)-(fr:Int))=some d):
  ((l.take k).map (atB (layAll S (l.drop fr) d))).Pairwise (· < ·)/\(∀b∈l.take k,0<atB (layAll S (l.drop fr) d) b/\atB (layAll S (l.drop fr) d) b<c)/\(∀q b,k<=q->l[q]? =some b->0<=atB old b->atB (layAll S (l.drop fr) d) b=atB old b/\(xm (layAll S (l.drop fr) d) b.1).isSome):=by
 obtain⟨R,T,U,X,J⟩:=vX w;have z:=h.le;have A:d.length=k-fr:=om;have B:(l.drop fr).Nodup:=u.sublist (lF _ _)
 have i:l.take k=l.take fr++(l.drop fr).take d.length:=by
  rw[A,<- gu,show l.take fr=(l.take k).take fr by rw[jE,fE z],bY]
 have n:∀b∈l.take fr,b∉(l.drop fr).take d.length:=λb a C=>by
  have:(l.take k).Nodup:=u.sublist (List.take_sublist _ _);rw[i,bG]at this;exact this.2.2 b a b C rfl
 have o:∀b∈l.take fr,atB (layAll S (l.drop fr) d) b=atB S b:=λb a=>IZ _ _ _ _ (n b a) (MW (by have:=(h.pos b a).1;omega));have e:((l.drop fr).take d.length).map (atB (layAll S (l.drop fr) d))=d:=OM _ _ _ B (by rw[bf];omega);have m:=bF.1 J;have p:=eP.1 m.2;have g:∀x∈d,low<x:=λx r=>m.1 x (aS _ r);have s:∀x∈d,x<c:=λx r=>p.2.2 x r c (.head _);have K:low<c:=m.1 c (aI _ (.head _));refine⟨?_,?_,?_⟩
 ·rw[i,ai,e,je o,eP];refine⟨h.rise,p.1,λx r y L=>?_⟩;obtain⟨b,w,rfl⟩:=aU.1 r;have:=(h.pos b w).2;have:=g y L;omega
 ·intro b a;rw[i,aT]at a;rcases a with a|a
  ·rw[o b a];have:=h.pos b a;exact⟨this.1,om⟩
  have t:atB (layAll S (l.drop fr) d) b∈d:=by
   have:=eG (f:=atB (layAll S (l.drop fr) d)) a
   rwa [e]at this
  have:=g _ t;exact⟨om,s _ t⟩
 intro q b Y a M;obtain⟨N,H⟩:=h.old_ q b om a M;refine⟨?_,Q9 _ _ _ _ H⟩;rw[IZ _ _ _ _ (λt=>?_) H,N];obtain⟨j,D⟩:=jA.1 t
 have F:j<d.length:=by
  have:=(aA.1 D).1;rw[aJ]at this;omega
 rw[bn F,dm]at D;have G:=(aA.1 a).1;have:q=fr+j:=(nM G u).1 (by rw[a,D]);omega
theorem UE{l:List Bd}(p:l.Nodup){old:SM}:∀(f k:Nat)(low:Int)(fr:Nat)(S S':SM),f+k=l.length+1->k<=l.length->SpI l old k fr low S->FW l old f k low fr S=some S'->KDF S' l
 |0,k,low,fr,S,S',hf,hk,_,_=>by omega
 |f+1,k,low,fr,S,S',hf,hk,hI,hs=>by
  rw[FW]at hs;split at hs
  ·rename_i a
   have d:k<l.length:=by
    rcases Nat.lt_or_ge k l.length with h|h
    ·exact h
    rw[KC,bC h]at a;simp at a
   refine UE p f (k+1) low fr S S' om om ⟨by have:=hI.le;omega,hI.z,hI.rise,hI.pos,λq b r s m=>?_,hI.old_⟩ hs;by_cases e:q=k
   ·subst e;rw[KC,m]at a;exact a
   exact hI.no q b r om m
  rename_i a;split at hs
  ·cases hs
  rename_i H u;obtain⟨s1,i,w⟩:=hI.step p hk u;by_cases d:k<l.length
  ·obtain⟨b,g⟩:∃b,l[k]? =some b:=⟨_,aB d⟩;have n:KC l old k=atB old b:=by rw[KC,g]
   rw[n]at hs i a;obtain⟨A,J⟩:=w k b (aZ _) g om
   have B:l.take (k+1)=l.take k++[b]:=by
    rw[aG d,(aA.1 g).2]
   obtain⟨_,_,K,_,C⟩:=vX u;rw[n]at C;have F:low<atB old b:=(bF.1 C).1 _ (aI _ (.head _));refine UE p f (k+1) _ (k+1) _ S' om om ⟨aZ _,om,?_,?_,λq b r s m=>by omega,λq b r s m=>w q b om s m⟩ hs
   ·rw[B,ai,eP];refine⟨s1,nT _ _,λx G y D=>?_⟩;obtain⟨c,j,rfl⟩:=aU.1 G;rw[jv,aW]at D;rw[D,A];exact(i c j).2
   intro c j;rw[B,aT,aW]at j;rcases j with j|rfl
   ·have:=i c j;exact⟨this.1,om⟩
   rw[A];exact⟨om,om⟩
  have o:k=l.length:=om;have t:f=0:=om;subst t;rw[FW]at hs;cases hs;have n:KC l old k=4611686018427387904:=by rw[KC,bC om]
  rw[o,bJ]at s1 i;rw[o]at n;rw[n]at i;exact⟨dD.1 s1,i⟩
theorem OH{l:List Bd}{old:SM}:∀(f k:Nat)(low:Int)(fr:Nat)(S S':SM),FW l old f k low fr S=some S'->∀i,(xm S' i).isSome->(xm S i).isSome\/∃b∈l,b.1=i
 |0,k,low,fr,S,S',a,i,c=>by
  rw[FW]at a;cases a;exact .inl c
 |f+1,k,low,fr,S,S',a,i,c=>by
  rw[FW]at a;split at a
  ·exact OH f _ _ _ _ _ a i c
  split at a
  ·cases a
  rcases OH f _ _ _ _ _ a i c with h|h
  ·rcases Ls _ _ _ _ h with h|⟨b,d,e⟩
   ·exact .inl h
   exact .inr ⟨b,fA d,e⟩
  exact .inr h
def spanned_ok{l:List Bd}(j:l.Nodup){old S:SM}(h:Eg l old=some S):KDF S l/\∀i,(xm S i).isSome↔∃b∈l,b.1=i:=by
 have d:KDF S l:=by
  refine UE j (l.length+1) 0 0 0 (F7 old l []) S om om ⟨aZ _,gz _,by simp,λb c=>by simp at c,λq b a f=>by omega,λq b a f g=>?_⟩ h;have m:b∈l:=aC f;have e:xm (F7 old l []) b.1=xm old b.1:=by rw[VH,if_pos ⟨b,m,rfl,g⟩]
  exact⟨by rw[atB,e,<- atB],by rw[e];exact MW g⟩
 refine⟨d,λi=>⟨λn=>?_,?_⟩⟩
 ·rcases OH _ _ _ _ _ _ h i n with a|a
  ·rw[VH]at a;split at a
   ·rename_i o;obtain⟨b,c,e,_⟩:=o;exact⟨b,c,e⟩
   cases a
  exact a
 rintro⟨b,c,rfl⟩;exact MW (by have:=(d.pos b c).1;omega)
theorem Ui:∀(ids:lI)(P:List Sp)(m:SM),ids.Nodup->(∀i∈ids,i∉m.map (·.1))->ids.length=P.length->Et m ids P=m++ids.zip P
 | [],[],m,_,_,_=>by rw[Et];simp;intros;simp_all
 | [],_::_,m,_,_,h=>by cases h
 |_::_,[],m,_,_,h=>by cases h
 |i::ids,p::P,m,hn,hd,h=>by
  rw[bH]at hn
  have b:∀m:SM,i∉m.map (·.1)->KAF m i p=m++[(i,p)]:=by
   intro m
   induction m with
   |nil=>intro _;rfl
   |cons q m d=>
    obtain⟨x,u⟩:=q;intro a;rw[aj,aP,not_or]at a;rw[KAF,if_neg a.1,d a.2];rfl
  rw[Et,b m (hd i (.head _)),Ui ids P _ hn.2 (λj c a=>?_) (by simpa using h),ax]
  ·rfl
  rw[ai,aT]at a;rcases a with a|a
  ·exact hd j (.tail _ c) a
  rw[jv,aW]at a;have a:j=i:=a;exact hn.1 (a▸c)
theorem YJ:∀(ids:lI)(P:List Sp)(k:Nat)(i:Int),ids.Nodup->ids[k]? =some i->xm (ids.zip P) i=P[k]?
 | [],P,k,i,_,h=>by simp at h
 |j::ids,[],k,i,_,h=>by simp[xm]
 |j::ids,p::P,0,i,_,h=>by
  simp at h;subst h;rw[jP,xm,if_pos rfl];rfl
 |j::ids,p::P,k+1,i,hn,h=>by
  rw[bH]at hn;rw[bI]at h;rw[jP,xm,if_neg (λe=>hn.1 (by rw[<- e];exact aC h)),YJ ids P k i hn.2 h];rfl
theorem YK:∀(ids:lI)(P:List Sp)(k:Nat)(i:Int)(v:Sp),ids.Nodup->ids.length=P.length->ids[k]? =some i->KAF (ids.zip P) i v=ids.zip (P.set k v)
 | [],P,k,i,v,_,_,h=>by simp at h
 |j::ids,[],k,i,v,_,hl,h=>by cases hl
 |j::ids,p::P,0,i,v,_,_,h=>by
  simp at h;subst h;rw[jP,KAF,if_pos rfl];rfl
 |j::ids,p::P,k+1,i,v,hn,hl,h=>by
  rw[bH]at hn;rw[bI]at h;rw[jP,KAF,if_neg (λe=>hn.1 (by rw[<- e];exact aC h)),YK ids P k i v hn.2 (by simpa using hl) h];rfl
def KBg:SM->List Bd->Int->SM
 |s,[],_=>s
 |s,b::r,a=>KBg (KAW s b (a+1099511627776)) r (a+1099511627776)
def Ju:Int->Nat->lI
 |_,0=>[]
 |a,n+1=>(a+1099511627776)::Ju (a+1099511627776) n
theorem QX:∀(n:Nat)(a:Int),(Ju a n).length=n
 |0,a=>rfl
 |n+1,a=>by rw[Ju,aK,QX n]
theorem Ym:∀(bs:List Bd)(s:SM)(a:Int),KBg s bs a=layAll s bs (Ju a bs.length)
 | [],s,a=>by exact(Ir s []).symm
 |b::r,s,a=>by rw[KBg,aK,Ju,layAll,Ym r]
theorem VJ:∀(x y:List Bd)(s:SM)(a:Int),KBg s (x++y) a=KBg (KBg s x a) y (a+1099511627776*(x.length:Int))
 | [],y,s,a=>by simp[KBg]
 |b::x,y,s,a=>by
  rw[aH,KBg,KBg,VJ x y,aK];congr 1;omega
theorem Nv:∀(n:Nat)(a:Int),∀z∈Ju a n,a<z/\z<=a+1099511627776*(n:Int)
 |0,a,z,h=>by cases h
 |n+1,a,z,h=>by
  rcases aP.1 h with rfl|h
  ·omega
  have:=Nv n _ z h;omega
theorem WR:∀(n:Nat)(a:Int),(Ju a n).Pairwise (· < ·)
 |0,a=>.nil
 |n+1,a=>.cons (λz b=>(Nv n _ z b).1) (WR n _)
def endOf(ids:lI)(j:Nat):Bd:=(ids[j]?.getD 0,true)
def put_to{ids:lI}(b:ids.Nodup){out:List Sp}(c:ids.length=out.length){k:Nat}(d:k<ids.length)(z:Int):ids.zip (Nk out k z)=KAW (ids.zip out) (endOf ids k) z:=by
 obtain⟨i,a⟩:∃i,ids[k]? =some i:=⟨_,aB d⟩;rw[KAW,endOf,a];show _=KAF (ids.zip out) i (((xm (ids.zip out) i).getD (0,0)).1,z);rw[YJ ids out k i b a,YK ids out k i _ b c a];rfl
def put_fr{ids:lI}(a:ids.Nodup){out:List Sp}(c:ids.length=out.length){k:Nat}{i:Int}(b:ids[k]? =some i)(z:Int):ids.zip (O7 out k z)=KAW (ids.zip out) (i,false) z:=by
 rw[KAW];rw[YJ ids out k i a b,YK ids out k i _ a c b];rfl
theorem Zg{ids:lI}(c:ids.Nodup):∀(n:Nat)(s:LSt),n<=s.op.length->(∀k∈s.op,k<ids.length)->ids.length=s.out.length->ids.zip (KBA n s).out=KBg (ids.zip s.out) (((s.op.drop (s.op.length-n)).reverse).map (endOf ids)) s.at_
 |0,s,_,_,_=>by simp[KBA,KBg]
 |n+1,s,h,ho,hl=>by
  have d:=Zg c n s om ho hl;obtain⟨e,f,g⟩:=Iq n s om;obtain⟨k,i⟩:∃k,s.op.length-(n+1)=k:=⟨_,rfl⟩;have b:s.op.length-n=k+1:=om;have a:k<s.op.length:=om;rw[b]at d e
  have j:(KBA n s).op.getLastD 0=s.op[k]:=by
   rw[e,aG a,oh]
  have l:s.op.drop k=s.op[k]::s.op.drop (k+1):=bM a;have m:(s.op.drop (k+1)).length=n:=by rw[bf];omega
  rw[QK,KCd];rw[j,put_to c (by rw[g];exact hl) (ho _ (eY a)),d,i,l,qG,ai,VJ,aQ,o7,m,f];rfl
def Yc{ids:lI}(a:ids.Nodup)(d:Int)(s:LSt)(b:∀k∈s.op,k<ids.length)(c:ids.length=s.out.length):ids.zip (Dt d s).out=KBg (ids.zip s.out) (((s.op.map (endOf ids)).drop d.toNat).reverse) s.at_/\(Dt d s).op=s.op.take d.toNat/\(Dt d s).at_=s.at_+1099511627776*(((s.op.map (endOf ids)).drop d.toNat).length:Int)/\(Dt d s).out.length=s.out.length:=by
 obtain⟨f,g,i⟩:=Iq (s.op.length-d.toNat) s om;have h:=Zg a (s.op.length-d.toNat) s om b c;rw[Dt]
 have e:((s.op.map (endOf ids)).drop d.toNat).reverse=((s.op.drop (s.op.length-(s.op.length-d.toNat))).reverse).map (endOf ids):=by
  rw[<- jd,List.map_reverse];by_cases j:d.toNat<=s.op.length
  ·rw[show s.op.length-(s.op.length-d.toNat)=d.toNat by omega]
  rw[eu om,eu om]
 have l:(KBA (s.op.length-d.toNat) s).op=s.op.take d.toNat:=by
  rw[f];by_cases j:d.toNat<=s.op.length
  ·congr 1;omega
  rw[aV om,aV om]
 exact⟨by rw[h,e],l,by rw[g,bf,aQ],i⟩
theorem uN{ids:lI}(c:ids.Nodup):∀(l:List It)(k:Nat)(s:LSt),k+l.length=ids.length->(∀j∈s.op,j<ids.length)->ids.length=s.out.length->ids.zip (KEB l k s).out=KBg (ids.zip s.out) (KAk l (ids.drop k) (s.op.map (endOf ids))) s.at_
 | [],k,s,hk,ho,hl=>by
  obtain⟨d,e,g,f⟩:=Yc c 0 s ho hl;rw[KEB,d,Po];rfl
 |x::r,k,s,hk,ho,hl=>by
  rw[aK]at hk;obtain⟨d,e,g,f⟩:=Yc c x.level s ho hl;have a:k<ids.length:=om;have h:ids[k]? =some ids[k]:=aB a;rw[KEB,uN c r (k+1) (KBG k (Dt x.level s)) om ?_ ?_]
  ·rw[bM a,KAk,VJ]
   have i:(KBG k (Dt x.level s)).op.map (endOf ids)=(s.op.map (endOf ids)).take x.level.toNat++[(ids[k],true)]:=by
    rw[KBG,e,ai,iE,jv];rw[endOf,h];rfl
   have m:ids.zip (KBG k (Dt x.level s)).out=KAW (ids.zip (Dt x.level s).out) (ids[k],false) ((Dt x.level s).at_+1099511627776):=put_fr c (by rw[f];exact hl) h _;rw[i,m,d,KBg,o7,<- g];rfl
  ·intro j b;rw[KBG,aT,aW,e]at b;rcases b with b|b
   ·exact ho j (dJ b)
   omega
  rw[KBG];rw[O7,bU,f];exact hl
def label_lay{ids:lI}(a:ids.Nodup){l:List It}(h:ids.length=l.length):Et [] ids (IJ l)=layAll (ids.zip (List.replicate l.length (0,0))) (DJ l ids) (Ju 0 (DJ l ids).length):=by
 rw[Ui ids _ [] a (λi _ b=>by cases b) (by rw[Wl,h]),aO,IJ,uN a l 0 _ om (λj c=>by cases c) (by simp[h]),<- Ym,Ij h];rfl
theorem label_ok{ids:lI}(q:ids.Nodup){l:List It}(h:ids.length=l.length)(w:l.length<=100000):KDF (Et [] ids (IJ l)) (DJ l ids)/\∀i,(xm (Et [] ids (IJ l)) i).isSome↔∃b∈DJ l ids,b.1=i:=by
 have a:=XJ h q;have m:=UH l ids;rw[label_lay q h];obtain⟨bs,c⟩:∃bs,bs=DJ l ids:=⟨_,rfl⟩;have d:∀{b:Bd},b∈bs↔b.1∈ids:=λ{b}=>by rw[c];exact Ov h
 rw[<- c]at a m⊢;have n:=OM bs (Ju 0 bs.length) (ids.zip (List.replicate l.length (0,0))) a (by rw[QX];exact aZ _);rw[QX,bJ]at n
 have r:KDF (layAll (ids.zip (List.replicate l.length (0,0))) bs (Ju 0 bs.length)) bs:=by
  refine⟨dD.1 (by rw[n];exact WR _ _),λb o=>?_⟩
  have g:atB (layAll (ids.zip (List.replicate l.length (0,0))) bs (Ju 0 bs.length)) b∈Ju 0 bs.length:=by
   have:=eG (f:=atB (layAll (ids.zip (List.replicate l.length (0,0))) bs (Ju 0 bs.length))) o
   rwa [n]at this
  have:=Nv _ _ _ g;omega
 refine⟨r,λi=>⟨λs=>?_,?_⟩⟩
 ·rcases Ls _ _ _ _ s with g|g
  ·have:i∈ids:=by
    have t:∀(ids:lI)(P:List Sp),(xm (ids.zip P) i).isSome->i∈ids:=by
     intro ids
     induction ids with
     |nil=>intro P h;cases h
     |cons j ids u=>
      intro P h;cases P with
      |nil=>cases h
      |cons p P=>
       rw[jP,xm]at h;split at h
       ·rename_i e;rw[e];exact .head _
       exact .tail _ (u P h)
    exact t _ _ g
   exact⟨(i,true),d.2 this,rfl⟩
  exact g
 rintro⟨b,o,rfl⟩;exact MW (by have:=(r.pos b o).1;omega)
theorem qm:∀(l:List It)(m:Nat),(∀(k:Nat)(x:It),l[k]? =some x->0<=x.level/\(k=0->x.level<=(m:Int))/\∀y,0<k->l[k-1]? =some y->x.level<=y.level+1)->KEe m l
 | [],m,_=>trivial
 |x::r,m,h=>by
  obtain⟨b,c,_⟩:=h 0 x rfl;have:=c rfl;refine⟨b,om,qm r _ λk y d=>?_⟩;obtain⟨f,i,a⟩:=h (k+1) y (by rw[bI];exact d);refine⟨f,λe=>?_,λz n g=>?_⟩
  ·subst e;have:=a x om rfl;omega
  refine a z om ?_;obtain⟨j,rfl⟩:∃j,k=j+1:=⟨k-1,om⟩;exact g
def levR_ok{l:List It}(h:Vu l):KEe 0 l:=qm l 0 λk x a=>by
 obtain⟨b,c,d⟩:=h k x a;exact⟨b,λe=>by rw[c e];exact gz _,d⟩
structure RX(T:Tr)(S:SM):Prop where
 rise:KDF S (DJ (T.L.map yH) (T.L.map (·.id)))
 keys:∀i,(xm S i).isSome↔i∈T.L.map (·.id)
def labelN_ok{F:Fo}{T:Tr}(f:Am F T)(old:SM)(moved:lI):RX T (Je T old moved):=by
 have g:=f.len;have h:=f.Kr;have a:(T.L.map (·.id)).length=(T.L.map yH).length:=by rw[aQ,aQ]
 have j:∀i,(∃b∈DJ (T.L.map yH) (T.L.map (·.id)),b.1=i)↔i∈T.L.map (·.id):=λi=>
  ⟨λ⟨b,l,e⟩=>e▸(Ov a).1 l,λm=>⟨(i,true),(Ov a).2 m,rfl⟩⟩
 rw[Je];split
 ·rename_i s n;obtain⟨c,d⟩:=spanned_ok (XJ a h) n;exact⟨c,λi=>(d i).trans (j i)⟩
 obtain⟨c,d⟩:=label_ok h a (by rw[aQ];omega);exact⟨c,λi=>(d i).trans (j i)⟩
end Go.Nod
namespace Go.Proofs.YtljenkbpnioipaaGreat
noncomputable section
open Go Go.Vc Go.Nod
end
noncomputable section
open Go Go.Vc Go.Nod
def KZ(p:Nat×LU)(r:Sl.xR)(i:Int):Sl.lk (p::r) i=if(p.1:Int)=i then some p.2 else Sl.lk r i:=by
 unfold Sl.lk;rw[List.find?_cons];by_cases h:(p.1:Int)=i
 ·simp[h]
 simp[h]
def lk_nil(i:Int):Sl.lk [] i=none:=rfl
theorem vH:∀(L:Sl.xR)(k:Nat)(i:Int),Sl.lk (Sl.wo L k) i=if i=(k:Int)then none else Sl.lk L i
 | [],k,i=>by rw[show Sl.wo [] k=[]from rfl,lk_nil];split<;>rfl
 |p::r,k,i=>by
  have b:=vH r k i;by_cases h:p.1=k
  ·have e:Sl.wo (p::r) k=Sl.wo r k:=by
    show List.filter _ (p::r)=_;rw[dL,if_neg (by simp[h])];rfl
   rw[e,b,KZ];by_cases a:i=(k:Int)
   ·rw[if_pos a,if_pos a]
   rw[if_neg a,if_neg a,if_neg (λe=>a om)]
  have e:Sl.wo (p::r) k=p::Sl.wo r k:=by
   show List.filter _ (p::r)=_;rw[dL,if_pos (by simp[h])];rfl
  rw[e,KZ,KZ,b];by_cases a:(p.1:Int)=i
  ·rw[if_pos a,if_pos a,if_neg (λe=>h om)]
  rw[if_neg a,if_neg a]
theorem rY(k:Nat)(s:LU):∀(L:Sl.xR)(i:Int),(∀p∈L,p.1≠k)->Sl.lk (Sl.KAE (k,s) L) i=if i=(k:Int)then some s else Sl.lk L i
 | [],i,_=>by
  rw[Sl.KAE,KZ];by_cases h:i=(k:Int)
  ·rw[if_pos h.symm,if_pos h]
  rw[if_neg λe=>h e.symm,if_neg h]
 |p::r,i,h=>by
  rw[Sl.KAE];split
  ·rw[KZ];by_cases a:i=(k:Int)
   ·rw[if_pos a.symm,if_pos a]
   rw[if_neg λe=>a e.symm,if_neg a]
  have b:=h p (.head _);rw[KZ,KZ,rY k s r i λq c=>h q (.tail _ c)];by_cases a:(p.1:Int)=i
  ·rw[if_pos a,if_neg (λe=>b om),if_pos a]
  rw[if_neg a,if_neg a]
structure PgW(L:Sl.xR):Prop where
 up:L.Pairwise λa b=>a.1<b.1
 lt:∀p∈L,p.1<120
 few:Sl.tot L<=3600
theorem Kt(f:Nat×LU->Bool):∀L:Sl.xR,Sl.tot (L.filter f)<=Sl.tot L
 | []=>aZ _
 |p::r=>by
  have a:=Kt f r;rw[dL];split
  ·rw[Sl.Dk,Sl.Dk];omega
  rw[Sl.Dk];omega
def PgW.nil:PgW []:=⟨.nil,λp h=>(by cases h),by show 0<=3600;omega⟩
def PgW.wo{L:Sl.xR}(h:PgW L)(k:Nat):PgW (Sl.wo L k):=⟨h.up.filter _,λp a=>h.lt p (Sl.Zv.1 a).1,fJ (Kt _ L) h.few⟩
def PgW.xY{L:Sl.xR}(h:PgW L){k:Int}{s:LU}(a:(Sl.xY L k s).2=0):0<=k/\k<120/\PgW (Sl.xY L k s).1/\∀i,Sl.lk (Sl.xY L k s).1 i=if i=k then some s else Sl.lk L i:=by
 unfold Sl.xY at a⊢;split at a
 ·cases a
 rename_i g;split at a
 ·cases a
 rename_i e;rw[if_neg g,if_neg e];obtain⟨K,rfl⟩:∃K:Nat,k=(K:Int):=⟨k.toNat,om⟩;rw[aN]at e⊢;have f:=h.wo K;have b:∀p∈Sl.wo L K,p.1≠K:=λp c=>(Sl.Zv.1 c).2;refine⟨om,om,⟨Sl.LK _ _ f.up b,λp c=>?_,?_⟩,λi=>?_⟩
 ·rcases(Sl.JD _ _ _).1 c with rfl|c
  ·show K<120;omega
  exact f.lt p c
 ·show Sl.tot (Sl.KAE (K,s) (Sl.wo L K))<=3600;rw[Sl.Me (Sl.Jw _ _),Sl.Dk];show s.length+Sl.tot (Sl.wo L K)<=3600;omega
 show Sl.lk (Sl.KAE (K,s) (Sl.wo L K)) i=_;rw[rY K s _ i b,vH];by_cases d:i=(K:Int)
 ·rw[if_pos d,if_pos d]
 rw[if_neg d,if_neg d,if_neg d]
theorem qZ:∀(l:Nq)(a:Nat),l.Pairwise (· < ·)->(∀k∈l,a<=k)->Sl.ff l a∉l/\a<=Sl.ff l a
 | [],a,_,_=>⟨λh=>(by cases h),aZ _⟩
 |k::r,a,hs,hge=>by
  obtain⟨c,f⟩:=bF.1 hs;have m:=hge k (.head _);rw[Sl.ff];split
  ·rename_i e;obtain⟨n,p⟩:=qZ r (a+1) f λj d=>by have:=c j d;omega
   refine⟨λh=>?_,om⟩;rcases aP.1 h with h|h
   ·omega
   exact n h
  rename_i e;have b:∀j∈r,a+1<=j:=λj d=>by have:=c j d;omega
  have g:∀(l:Nq),(∀j∈l,a+1<=j)->Sl.ff l a=a:=by
   intro l
   induction l with
   |nil=>intro _;rfl
   |cons x l o=>
    intro i;have:=i x (.head _);rw[Sl.ff,if_neg om];exact o λj d=>i j (.tail _ d)
  rw[g r b];refine⟨λh=>?_,aZ _⟩;rcases aP.1 h with h|h
  ·omega
  have:=b a h;omega
def PgW.zJ{L:Sl.xR}(h:PgW L){s:List UInt8}(a:(Sl.zJ L s).2.2=0):Sl.lk L (Sl.zJ L s).2.1=none/\PgW (Sl.zJ L s).1/\∀i,Sl.lk (Sl.zJ L s).1 i=if i=(Sl.zJ L s).2.1 then some s else Sl.lk L i:=by
 obtain⟨n,d⟩:∃n,n=Sl.ff (L.map (·.1)) 0:=⟨_,rfl⟩;have e:Sl.zJ L s=if 120<=n then(L,0,111)else if(Sl.xY L n s).2=0 then((Sl.xY L n s).1,(n:Int),0)else(L,0,(Sl.xY L n s).2):=by rw[d];rfl
 rw[e]at a⊢;split at a
 ·cases a
 rename_i f;split at a;rotate_left
 ·rename_i c;exact absurd a c
 rename_i c;rw[if_neg f,if_pos c];obtain⟨_,_,g,j⟩:=h.xY c;refine⟨Sl.sQ λp l m=>?_,g,j⟩;have b:=(qZ (L.map (·.1)) 0 (dD.2 h.up) (λk _=>bZ _)).1;rw[<- d]at b;exact b (aU.2 ⟨p,l,by have:(p.1:Int)=(n:Int):=m;omega⟩)
def cel(P:List Sl.xR)(p:Pl):Option (LU):=Sl.lk (Aj P p.1.toNat) p.2
def JF{P:List Sl.xR}{n:Nat}(h:P.length<=n):Aj P n=[]:=by rw[Aj,bC h];rfl
def VO(P:List Sl.xR)(p:Pl):KAc P p=cel P p:=by
 rw[KAc,cel];split
 ·rw[JF om];rfl
 rfl
def Z8{P:List Sl.xR}{p:Pl}{s:LU}(h:cel P p=some s):p.1.toNat<P.length:=by
 refine az λa=>?_;rw[cel,JF om]at h;cases h
def WB{P:List Sl.xR}{n:Nat}(a:n<P.length)(L:Sl.xR)(m:Nat):Aj (P.set n L) m=if m=n then L else Aj P m:=by
 rw[Aj,jX];by_cases h:m=n
 ·subst h;rw[if_pos rfl,if_pos rfl,if_pos a];rfl
 rw[if_neg λe=>h e.symm,if_neg h];rfl
def Xo{P:List Sl.xR}{n:Nat}(a:n<P.length)(L:Sl.xR)(q:Pl):cel (P.set n L) q=if q.1.toNat=n then Sl.lk L q.2 else cel P q:=by
 rw[cel,WB a];split<;>rfl
theorem MS(P:List Sl.xR)(n:Nat)(q:Pl):cel (EJ P n) q=cel P q:=by
 rw[EJ];split
 ·rw[cel,cel];congr 1;rw[Aj,Aj,gy];split
  ·rfl
  rename_i h;rw[bC (l:=P) om];cases e:q.1.toNat-P.length with
  |zero=>rfl
  |succ k=>rfl
 rfl
def zg(P:List Sl.xR):Prop:=∀L∈P,PgW L
theorem zg.page{P:List Sl.xR}(h:zg P)(n:Nat):PgW (Aj P n):=by
 rw[Aj];cases e:P[n]? with
 |none=>exact .nil
 |some L=>exact h L (aC e)
def zg.set{P:List Sl.xR}(h:zg P)(n:Nat){L:Sl.xR}(b:PgW L):zg (P.set n L):=λM a=>by
 rcases gG a with a|rfl
 ·exact h M a
 exact b
def zg.grow{P:List Sl.xR}(h:zg P)(n:Nat):zg (EJ P n):=λM a=>by
 rw[EJ]at a;split at a
 ·rcases aT.1 a with a|a
  ·exact h M a
  rw[aW.1 a];exact .nil
 exact h M a
theorem YU(s:LU):∀(f n:Nat)(P:List Sl.xR)(p:Pl),n<=P.length->zg P->(KAS s f n P).2=some p->0<=p.1/\cel P p=none/\zg (KAS s f n P).1/\∀q:Pl,0<=q.1->cel (KAS s f n P).1 q=if q=p then some s else cel P q
 |0,n,P,p,_,_,h=>by cases h
 |f+1,n,P,p,hn,hP,h=>by
  have d:=hP.grow n;have g:=(Vd P n).2.2 hn;rw[KAS]at h⊢;split at h
  ·rename_i a;rw[if_pos a];obtain⟨m,o,r⟩:=(d.page n).zJ a;cases h;refine⟨om,?_,d.set n o,λq i=>?_⟩
   ·rw[<- MS P n];show Sl.lk (Aj (EJ P n) (n:Int).toNat) _=none;rw[aN];exact m
   rw[Xo g,r];obtain⟨j,t⟩:=q;by_cases b:j.toNat=n
   ·have l:j=(n:Int):=by have:0<=j:=i;omega
    rw[if_pos b];by_cases c:t=(Sl.zJ (Aj (EJ P n) n) s).2.1
    ·rw[if_pos c,if_pos (by rw[l,c])]
    rw[if_neg c,if_neg (λe=>c (congrArg (·.2) e)),<- MS P n,cel,b]
   rw[if_neg b,if_neg (λe=>b (by have:=congrArg (·.1) e;simp only at this;omega)),MS]
  rename_i a;rw[if_neg a];obtain⟨u,w,x,y⟩:=YU s f (n+1) (EJ P n) p om d h;exact⟨u,by rw[<- MS P n];exact w,x,λq i=>by rw[y q i,MS]⟩
structure KFM(P:List Sl.xR)(Q:QM):Prop where
 w:zg P
 at_:∀k p,xP Q k=some p->0<=p.1/\∃s,cel P p=some s/\Aa (bts s)=k
 all:∀(p:Pl) s,0<=p.1->cel P p=some s->xP Q (Aa (bts s))=some p
def KFM.one{P:List Sl.xR}{Q:QM}(h:KFM P Q){k a:BA}{p:Pl}(c:xP Q k=some p)(d:xP Q a=some p):k=a:=by
 obtain⟨_,s,e,f⟩:=h.at_ k p c;obtain⟨_,t,b,g⟩:=h.at_ a p d;rw[e]at b;cases b;rw[<- f,g]
def yY(st:WSt)(k:BA):Option (LU):=(xP st.Q k).bind (cel st.P)
def Tch(st st':WSt):Prop:=∀q:Pl,xP st'.D q=none->xP st.D q=none/\(0<=q.1->cel st'.P q=cel st.P q)
def Tch.refl(st:WSt):Tch st st:=λq h=>⟨h,λ_=>rfl⟩
def Tch.trans{a b c:WSt}(e:Tch a b)(f:Tch b c):Tch a c:=λq h=>by
 obtain⟨g,i⟩:=f q h;obtain⟨j,l⟩:=e q g;exact⟨j,λd=>by rw[i d,l d]⟩
def KJ{D:DM}{p q:Pl}(h:xP (touch D p) q=none):q≠p/\xP D q=none:=by
 rw[touch,EP]at h;split at h
 ·cases h
 rename_i a;exact⟨a,h⟩
structure KAj(st:WSt):Prop where
 pi:KFM st.P st.Q
 qn:(st.Q.map (·.1)).Nodup
structure Ch1(st st':WSt)(k:BA)(v:Option (LU)):Prop where
 inv:KAj st'
 x8:yY st' k=v
 xW:∀k',k'≠k->yY st' k'=yY st k'
 tch:Tch st st'
theorem Xy{st:WSt}(h:KAj st){k:BA}{p:Pl}(j:xP st.Q k=some p):Ch1 st (st.drop k) k none:=by
 obtain⟨G,s,n,R⟩:=h.pi.at_ k p j;have o:=Z8 n
 have B:(st.drop k).P=st.P.set p.1.toNat (Sl.wo (Aj st.P p.1.toNat) p.2.toNat):=by
  rw[WSt.drop,j];show st.P.set p.1.toNat (Sl.zx (Aj st.P p.1.toNat) p.2).1=_;rw[Sl.zx,show Sl.lk (Aj st.P p.1.toNat) p.2=some s from n];rfl
 have H:0<=p.2:=by
  rcases Sl.LZ p.2 with⟨c,_⟩|⟨K,t,c,_⟩
  ·rw[show Sl.lk (Aj st.P p.1.toNat) p.2=some s from n]at c;cases c
  omega
 have C:(st.drop k).Q=zY st.Q k:=rfl;have J:(st.drop k).D=touch st.D p:=by rw[WSt.drop,j];rfl
 have a:∀q:Pl,0<=q.1->cel (st.drop k).P q=if q=p then none else cel st.P q:=λq d=>by
  rw[B,Xo o,vH];obtain⟨r,L⟩:=q;obtain⟨u,M⟩:=p;by_cases c:r.toNat=u.toNat
  ·have y:r=u:=om;rw[if_pos c];by_cases i:L=M
   ·rw[if_pos om,if_pos (by rw[y,i])]
   rw[if_neg om,if_neg (λe=>i (congrArg (·.2) e)),cel,c]
  rw[if_neg c,if_neg (λe=>c (by rw[show r=u from congrArg (·.1) e]))]
 have b:∀x,xP (st.drop k).Q x=if x=k then none else xP st.Q x:=λx=>by rw[C,J4 _ _ _ h.qn]
 have l:∀f q,f≠k->xP st.Q f=some q->q≠p:=λf q c i e=>c (h.pi.one i (e▸j));refine⟨⟨⟨?_,λf q d=>?_,λq t d m=>?_⟩,by rw[C];exact OJ h.qn k⟩,?_,λf g=>?_,λq d=>?_⟩
 ·rw[B];exact h.pi.w.set _ ((h.pi.w.page _).wo _)
 ·rw[b]at d;split at d
  ·cases d
  rename_i g;obtain⟨F,t,N,O⟩:=h.pi.at_ f q d;exact⟨F,t,by rw[a q F,if_neg (l f q g d),N],O⟩
 ·rw[a q d]at m;split at m
  ·cases m
  rename_i z;have:=h.pi.all q t d m;rw[b,if_neg,this];intro e;rw[e,j]at this;exact z (Option.some.inj this).symm
 ·rw[yY,b,if_pos rfl];rfl
 ·rw[yY,yY,b,if_neg g];cases e:xP st.Q f with
  |none=>rfl
  |some q=>
   show cel _ q=cel _ q;rw[a q (h.pi.at_ f q e).1,if_neg (l f q g e)]
 rw[J]at d;obtain⟨c,i⟩:=KJ d;exact⟨i,λA=>by rw[a q A,if_neg c]⟩
theorem uS{st:WSt}(h:KAj st){k s:BA}(C:xP st.Q k=none)(z:Aa s=k)(j:(st.put k s).2=0):Ch1 st (st.put k s).1 k (some s.data.toList):=by
 rw[WSt.put]at j⊢;cases e:KAS s.data.toList 4096 0 st.P with
 |mk P o=>
  rw[e]at j;cases o with
  |none=>cases j
  |some p=>
   obtain⟨l,D,A,c⟩:=YU s.data.toList 4096 0 st.P p (bZ _) h.pi.w (by rw[e]);rw[e]at A c
   have d:∀b q,xP st.Q b=some q->q≠p:=λb q m n=>by
    obtain⟨_,t,g,_⟩:=h.pi.at_ b q m;rw[n,D]at g;cases g
   refine⟨⟨⟨A,λb q a=>?_,λq t a f=>?_⟩,Gn h.qn _ _⟩,?_,λb r=>?_,λq a=>?_⟩
   ·dsimp only at a⊢;rw[EP]at a;split at a
    ·rename_i u;cases a;exact⟨l,_,by rw[c p l,if_pos rfl],by rw[Bc,z,u]⟩
    obtain⟨B,t,F,G⟩:=h.pi.at_ b q a;exact⟨B,t,by rw[c q B,if_neg (d b q a),F],G⟩
   ·dsimp only at f⊢;rw[c q a]at f;split at f
    ·rename_i x;cases f;rw[Bc,z,EP,if_pos rfl,x]
    have:=h.pi.all q t a f;rw[EP,if_neg,this];intro i;rw[i,C]at this;cases this
   ·rw[yY];rw[EP,if_pos rfl];show cel P p=_;rw[c p l,if_pos rfl]
   ·rw[yY,yY];rw[EP,if_neg r];cases i:xP st.Q b with
    |none=>rfl
    |some q=>
     show cel P q=cel st.P q;rw[c q (h.pi.at_ b q i).1,if_neg (d b q i)]
   dsimp only at a⊢;obtain⟨m,n⟩:=KJ a;exact⟨n,λy=>by rw[c q y,if_neg m]⟩
def recK_some{st:WSt}(h:KAj st){k:BA}{p:Pl}(a:xP st.Q k=some p):∃s,yY st k=some s/\cel st.P p=some s/\Aa (bts s)=k/\0<=p.1:=by
 obtain⟨c,s,b,d⟩:=h.pi.at_ k p a;exact⟨s,by rw[yY,a];exact b,b,d,c⟩
theorem vM{st:WSt}(h:KAj st){R:RM}{k r:ByteArray}(K:xP R k=some r)(u:Aa r=k)(g:(st.one R k).2=0):Ch1 st (st.one R k).1 k (some r.data.toList):=by
 rw[WSt.one]at g⊢;rw[K]at g⊢;rw[fG]at g⊢;cases e:xP st.Q k with
 |none=>
  rw[e]at g;exact uS h e u g
 |some p=>
  rw[e]at g;dsimp only at g⊢;obtain⟨s,s1,J,X,s4⟩:=recK_some h e;have L:Sl.lk (Aj st.P p.1.toNat) p.2=some s:=J;rw[L,fG]at g⊢;split at g
  ·rename_i i;rw[if_pos i];exact⟨h,by rw[s1,i],λ_ _=>rfl,.refl _⟩
  rename_i i;rw[if_neg i];split at g
  ·rename_i j;rw[if_pos j];have z:=Z8 J;obtain⟨Y,Z,M,N⟩:=(h.pi.w.page p.1.toNat).xY j
   have a:∀q:Pl,0<=q.1->cel (st.P.set p.1.toNat (Sl.xY (Aj st.P p.1.toNat) p.2 r.data.toList).1) q=if q=p then some r.data.toList else cel st.P q:=λq c=>by
    rw[Xo z,N];obtain⟨A,O⟩:=q;obtain⟨B,T⟩:=p;by_cases l:A.toNat=B.toNat
    ·have C:A=B:=om;rw[if_pos l];by_cases m:O=T
     ·rw[if_pos m,if_pos (by rw[C,m])]
     rw[if_neg m,if_neg (λe=>m (congrArg (·.2) e)),cel,l]
    rw[if_neg l,if_neg (λe=>l (by rw[show A=B from congrArg (·.1) e]))]
   have n:∀f q,f≠k->xP st.Q f=some q->q≠p:=λf q i j x=>i (h.pi.one j (x▸e));refine⟨⟨⟨h.pi.w.set _ M,λf q c=>?_,λq t c o=>?_⟩,h.qn⟩,?_,λf d=>?_,λq c=>?_⟩
   ·dsimp only at c⊢;by_cases d:f=k
    ·subst d;rw[e]at c;cases c;exact⟨s4,_,by rw[a p s4,if_pos rfl],by rw[Bc,u]⟩
    obtain⟨l,t,m,U⟩:=h.pi.at_ f q c;exact⟨l,t,by rw[a q l,if_neg (n f q d c),m],U⟩
   ·dsimp only at o⊢;rw[a q c]at o;split at o
    ·rename_i F;cases o;rw[Bc,u,e,F]
    exact h.pi.all q t c o
   ·rw[yY];rw[e];show cel _ p=_;rw[a p s4,if_pos rfl]
   ·rw[yY,yY];cases x:xP st.Q f with
    |none=>rfl
    |some q=>
     show cel _ q=cel st.P q;rw[a q (h.pi.at_ f q x).1,if_neg (n f q d x)]
   dsimp only at c⊢;obtain⟨i,j⟩:=KJ c;exact⟨j,λG=>by rw[a q G,if_neg i]⟩
  rename_i j;rw[if_neg j];have H:Ch1 ⟨st.P,st.Q,touch st.D p⟩ (WSt.drop ⟨st.P,st.Q,touch st.D p⟩ k) k none:=Xy (st:=⟨st.P,st.Q,touch st.D p⟩) ⟨h.pi,h.qn⟩ e
  have c:xP (WSt.drop ⟨st.P,st.Q,touch st.D p⟩ k).Q k=none:=by
   show xP (zY st.Q k) k=none;rw[J4 _ _ _ h.qn,if_pos rfl]
  have y:=uS H.inv c u g;refine⟨y.inv,y.x8,λf d=>by rw[y.xW f d,H.xW f d];rfl,?_⟩;refine Tch.trans (b:=⟨st.P,st.Q,touch st.D p⟩) (λq c=>⟨(KJ c).2,λ_=>rfl⟩) (H.tch.trans y.tch)
open Classical in
theorem Oy(R:RM):∀(K:Lj)(st:WSt),KAj st->K.Nodup->(∀k∈K,(xP st.Q k).isSome)->KAj (Fp R K st)/\(∀k,yY (Fp R K st) k=if k∈K/\xP R k=none then none else yY st k)/\Tch st (Fp R K st)
 | [],st,h,_,_=>⟨h,λk=>by simp[Fp],.refl _⟩
 |x::K,st,h,hn,hin=>by
  rw[bH]at hn;rw[Fp];by_cases e:xP R x=none
  ·rw[if_pos e];obtain⟨p,m⟩:=gU.1 (hin x (.head _));have f:=Xy h m
   have d:∀k∈K,(xP (st.drop x).Q k).isSome:=λk a=>by
    show(xP (zY st.Q x) k).isSome;rw[J4 _ _ _ h.qn,if_neg (λn=>hn.1 (by rw[<- n];exact a))];exact hin k (.tail _ a)
   obtain⟨i,j,l⟩:=Oy R K (st.drop x) f.inv hn.2 d;refine⟨i,λk=>?_,f.tch.trans l⟩;rw[j];by_cases c:k=x
   ·subst c;rw[if_neg (λo=>hn.1 o.1),if_pos ⟨.head _,e⟩];exact f.x8
   rw[f.xW k c];by_cases a:k∈K/\xP R k=none
   ·rw[if_pos a,if_pos ⟨.tail _ a.1,a.2⟩]
   rw[if_neg a,if_neg];rintro⟨b,g⟩;rcases aP.1 b with b|b
   ·exact c b
   exact a ⟨b,g⟩
  rw[if_neg e];obtain⟨i,j,l⟩:=Oy R K st h hn.2 λk a=>hin k (.tail _ a);refine⟨i,λk=>?_,l⟩;rw[j];by_cases a:k∈K/\xP R k=none
  ·rw[if_pos a,if_pos ⟨.tail _ a.1,a.2⟩]
  rw[if_neg a,if_neg];rintro⟨b,g⟩;rcases aP.1 b with b|b
  ·exact e (b▸g)
  exact a ⟨b,g⟩
open Classical in
theorem uJ(R:RM):∀(M:Lj)(st:WSt),KAj st->(∀k∈M,∃r,xP R k=some r/\Aa r=k)->(zh R M st).2=0->KAj (zh R M st).1/\(∀k,yY (zh R M st).1 k=if k∈M then(xP R k).map (·.data.toList)else yY st k)/\Tch st (zh R M st).1
 | [],st,h,_,_=>⟨h,λk=>by simp[zh],.refl _⟩
 |x::M,st,h,hin,hc=>by
  rw[zh]at hc⊢;split at hc
  ·rename_i c;exact absurd hc c
  rename_i c;rw[if_neg c];obtain⟨r,e,f⟩:=hin x (.head _);have d:=vM h e f (eU.1 c);obtain⟨g,i,j⟩:=uJ R M _ d.inv (λk b=>hin k (.tail _ b)) hc;refine⟨g,λk=>?_,d.tch.trans j⟩;rw[i];by_cases b:k∈M
  ·rw[if_pos b,if_pos (.tail _ b)]
  rw[if_neg b];by_cases a:k=x
  ·subst a;rw[if_pos (.head _),e];exact d.x8
  rw[if_neg (by rw[aP,not_or];exact⟨a,b⟩)];exact d.xW k a
def Zd{R:RM}{st:WSt}(h:KAj st)(m:∀k r,xP R k=some r->Aa r=k)(i:(EO R st).2=0):KAj (EO R st).1/\(∀k,yY (EO R st).1 k=(xP R k).map (·.data.toList))/\Tch st (EO R st).1:=by
 have a:∀{k},(xP st.Q k).isSome↔k∈st.Q.map (·.1):=λ{k}=>by
  rw[kQ,ne_eq,CY,eU]
 obtain⟨K,g⟩:∃K:Lj,K=Eh (st.Q.map (·.1)):=⟨_,rfl⟩;obtain⟨M,j⟩:∃M:Lj,M=Eh (R.map (·.1)):=⟨_,rfl⟩;have n:EO R st=zh R M (Fp R K st):=by rw[g,j];rfl
 rw[n]at i⊢;have c:∀k,k∈K↔k∈st.Q.map (·.1):=λk=>by rw[g];exact Dy
 have d:∀k,k∈M↔k∈R.map (·.1):=λk=>by rw[j];exact Dy
 obtain⟨o,p,q⟩:=Oy R K st h (by rw[g];exact(Dq _).nodup_iff.2 h.qn) (λk f=>a.2 ((c k).1 f))
 obtain⟨s,t,u⟩:=uJ R M _ o (λk f=>by
  have:xP R k≠none:=λe=>CY.1 e ((d k).1 f);obtain⟨r,l⟩:=dw.1 this;exact⟨r,l,m k r l⟩) i
 refine⟨s,λk=>?_,q.trans u⟩;rw[t];split
 ·rfl
 rename_i f;have b:xP R k=none:=CY.2 λw=>f ((d k).2 w);rw[p];split
 ·rw[b];rfl
 rename_i x;have:xP st.Q k=none:=az λy=>x ⟨(c k).2 (a.1 (kQ.2 y)),b⟩;rw[yY,this,b];rfl
end
noncomputable section
open Go Go.Vc Go.Nod
def GN{a b:LU}(h:bts a=bts b):a=b:=by
 have:=congrArg (λs:BA=>s.data.toList) h;exact this
def KEQ:LU->LU
 | []=>[]
 |b::r=>if b.toNat=119 then(b::r).take 3 else if b.toNat=110 then(b::r).take 6 else [b]
theorem QV(l:LU):Aa (bts l)=bts (KEQ l):=by
 cases l with
 |nil=>rfl
 |cons b r=>
  have f:bts (b::r)≠none0:=λe=>by
   have:=congrArg (λs:BA=>s.data.toList) e;cases this
  have g:sb (bts (b::r)) 0=(b.toNat:Int):=rfl
  have a:∀n,(bts (b::r)).extract 0 n=bts ((b::r).take n):=λn=>by
   apply nP;rw[kw,bts,bts];simp
  rw[Aa,if_neg f,g,KEQ,a,a,a,D9];by_cases c:b.toNat=119
  ·rw[if_pos om,if_pos c];congr 1;rcases Nat.le_total (b::r).length 3 with h|h
   ·rw[fE h,aV (aZ _),aV h]
   rw[Nat.min_eq_right h]
  rw[if_neg om,if_neg c];by_cases d:b.toNat=110
  ·rw[if_pos om,if_pos d];congr 1;rcases Nat.le_total (b::r).length 6 with h|h
   ·rw[fE h,aV (aZ _),aV h]
   rw[Nat.min_eq_right h]
  rw[if_neg om,if_neg d];rfl
def Zu{n m:Int}{k:Nat}(c:0<=n)(d:n<256^k)(e:0<=m)(f:m<256^k)(h:be n k=be m k):n=m:=by
 have a:=Fol.Ec c d;have b:=Fol.Ec e f;rw[h]at a;omega
def Ew:LU:=[104]
def FH(k:Nat):LU:=119::be ((k:Int)+1) 2
def IG(id:Int)(k:Nat):LU:=110::(be id 4++be (k:Int) 1)
def Gi(n:Int):Aa (DX n)=bts Ew:=QV _
def abo_word(k:Nat)(l:LU):KEQ (119::(be ((k:Int)+1) 2++l))=FH k:=by
 rw[KEQ,if_pos (by decide),dY,iM (AU _ _)];rfl
def E8(k:Nat)(s:BA):Aa (EZ k s)=bts (FH k):=by
 rw[EZ,QV,abo_word]
def MB(r:Fol.Rec)(k:Nat):∃l,Fol.BC r k=be r.id 4++(be (k:Int) 1++(be (Fol.BG (Fol.Ad r).length:Int) 1++l))/\l=((Fol.Ad r).drop (900*k)).take 900:=by
 refine⟨_,?_,rfl⟩;simp[Fol.BC,Fol.headB,Fol.laid]
def abo_piece(r:Fol.Rec)(k:Nat):KEQ (110::Fol.BC r k)=IG r.id k:=by
 obtain⟨l,h,_⟩:=MB r k;rw[h,KEQ,if_neg (by decide),if_pos (by decide),dY];have e:be r.id 4++(be (k:Int) 1++(be (Fol.BG (Fol.Ad r).length:Int) 1++l))=(be r.id 4++be (k:Int) 1)++(be (Fol.BG (Fol.Ad r).length:Int) 1++l):=by simp
 rw[e,iM (by rw[aF,AU,AU])];rfl
def DL(r:Fol.Rec)(k:Nat):Aa (CO (Fol.BC r k))=bts (IG r.id k):=by
 rw[CO,QV,abo_piece]
def WF{j k:Nat}(a:j<65535)(b:k<65535)(h:FH j=FH k):j=k:=by
 have:=Zu om om om om (List.cons.inj h).2;omega
def Oa{i a:Int}{k b:Nat}(d:0<=i/\i<4294967296)(c:0<=a/\a<4294967296)(l:k<256)(e:b<256)(h:IG i k=IG a b):i=a/\k=b:=by
 obtain⟨f,g⟩:=List.append_inj (List.cons.inj h).2 (by rw[AU,AU]);have j:=Zu d.1 om c.1 om f;have m:=Zu om om om om g;exact⟨j,om⟩
theorem Fv:∀(l:Lj)(k:Nat)(r:BA),r∈Dx k l↔∃(j:Nat)(s:BA),l[j]? =some s/\s≠none0/\r=EZ (k+j) s
 | [],k,r=>by simp[Dx]
 |x::l,k,r=>by
  rw[Dx,aT,Fv l (k+1) r];constructor
  ·rintro(h|⟨j,s,a,b,c⟩)
   ·by_cases d:x=none0
    ·rw[if_pos d]at h;cases h
    rw[if_neg d,aW]at h;exact⟨0,x,rfl,d,h⟩
   exact⟨j+1,s,a,b,by rw[c,jb,iG 1 j]⟩
  rintro⟨j,s,a,b,c⟩;cases j with
  |zero=>
   cases a;rw[if_neg b];exact .inl (by rw[c];exact .head _)
  |succ j=>exact .inr ⟨j,s,a,b,by rw[c,jb,iG 1 j]⟩
theorem RZ:∀(l:Lj)(k:Nat),k+l.length<=65535->((Dx k l).map Aa).Nodup
 | [],k,_=>.nil
 |x::l,k,h=>by
  rw[aK]at h;have a:=RZ l (k+1) om;rw[Dx,ai];by_cases b:x=none0
  ·rw[if_pos b];exact a
  rw[if_neg b];refine bH.2 ⟨λc=>?_,a⟩;obtain⟨r,d,e⟩:=aU.1 c;obtain⟨j,s,f,_,rfl⟩:=(Fv l (k+1) r).1 d;have g:=(aA.1 f).1;rw[E8,E8]at e;have:=WF om om (GN e);omega
theorem FC{T:Tr}{S:SM}{W:Lj}{j:Nat}{s:BA}:s∈GM T S W j↔∃(r:Rw)(k:Nat),T.L[j]? =some r/\Fol.Df (yP S W r.id (AY T.L j) r.x)/\k<Fol.BG (Fol.Ad (yP S W r.id (AY T.L j) r.x)).length/\s=CO (Fol.BC (yP S W r.id (AY T.L j) r.x) k):=by
 rw[GM];cases e:T.L[j]? with
 |none=>simp
 |some r=>
  rw[aU];constructor
  ·rintro⟨p,a,rfl⟩;rw[Fol.out]at a;split at a
   ·rename_i b;obtain⟨k,c,rfl⟩:=aU.1 a;exact⟨r,k,rfl,b,dW.1 c,rfl⟩
   cases a
  rintro⟨h,k,d,f,g,rfl⟩;cases d;refine⟨_,?_,rfl⟩;rw[Fol.out,if_pos f];exact aU.2 ⟨k,dW.2 g,rfl⟩
def Pj{r:Fol.Rec}(h:Fol.Df r):Fol.BG (Fol.Ad r).length<=34:=by
 have:=(Fol.ES h).2.1;rw[Fol.BG];omega
theorem nodeR_nodup(T:Tr)(S:SM)(W:Lj)(j:Nat):((GM T S W j).map Aa).Nodup:=by
 rw[GM];cases e:T.L[j]? with
 |none=>exact .nil
 |some r=>
  dsimp only;rw[Fol.out];split
  ·rename_i d;have i:=Pj d;have:=d.1;have:=d.2.1;rw[Fol.pieces,dB,dB];refine dD.2 ((jr).imp_of_mem λ{a b} f g h c=>?_);have f:=dW.1 f;have g:=dW.1 g;have c:Aa (CO (Fol.BC (yP S W r.id (AY T.L j) r.x) a))=Aa (CO (Fol.BC (yP S W r.id (AY T.L j) r.x) b)):=c;rw[DL,DL]at c;have:=(Oa ⟨om,om⟩ ⟨om,om⟩ om om (GN c)).2;omega
  exact .nil
def Ns{T:Tr}{S:SM}{W:Lj}{n:Nat}{s:BA}:s∈Di T S W n↔∃j,j<n/\s∈GM T S W j:=by
 rw[Di,fH];constructor
 ·rintro⟨j,a,h⟩;exact⟨j,dW.1 a,h⟩
 rintro⟨j,a,h⟩;exact⟨j,dW.2 a,h⟩
theorem PZ{F:Fo}{T:Tr}(f:Am F T)(S:SM)(W:Lj):∀n,((Di T S W n).map Aa).Nodup
 |0=>.nil
 |n+1=>by
  rw[Ht,ai,bG];refine⟨PZ f S W n,nodeR_nodup T S W n,λx l y m g=>?_⟩;obtain⟨s,a,rfl⟩:=aU.1 l;obtain⟨t,o,rfl⟩:=aU.1 m;obtain⟨j,z,a⟩:=Ns.1 a;obtain⟨r,k,p,b,A,rfl⟩:=FC.1 a;obtain⟨h,B,q,c,C,rfl⟩:=FC.1 o;have D:=Pj b;have G:=Pj c;have H:=b.1;have J:=b.2.1;have K:=c.1;have M:=c.2.1;rw[DL,DL]at g;have d:r.id=h.id:=(Oa ⟨om,om⟩ ⟨om,om⟩ om om (GN g)).1;have u:=f.Kr;have i:(T.L.map (·.id))[j]? =some r.id:=by rw[au,p];rfl
  have w:(T.L.map (·.id))[n]? =some h.id:=by rw[au,q];rfl
  have e:(T.L.map (·.id))[j]? =(T.L.map (·.id))[n]? :=i.trans ((congrArg some d).trans w.symm);have:=(nM (aA.1 i).1 u).1 e;omega
def Ia{T:Tr}{S:SM}{W:Lj}{s:BA}:s∈DY T S W↔s=DX T.next\/s∈Dx 0 W\/∃j,j<T.L.length/\s∈GM T S W j:=by
 rw[DY,aH,aP,aT,Ns]
def all_nodup{F:Fo}{T:Tr}(h:Am F T)(S:SM){W:Lj}(o:W.length<=4000):((DY T S W).map Aa).Nodup:=by
 rw[DY,aH,aj,ai,bH,bG]
 have d:∀x∈(Dx 0 W).map Aa,∃k,x=bts (FH k):=λx b=>by
  obtain⟨s,c,rfl⟩:=aU.1 b;obtain⟨j,t,_,_,rfl⟩:=(Fv _ _ _).1 c;exact⟨_,E8 _ _⟩
 have f:∀x∈(Di T S W T.L.length).map Aa,∃i k,x=bts (IG i k):=λx b=>by
  obtain⟨s,c,rfl⟩:=aU.1 b;obtain⟨j,_,c⟩:=Ns.1 c;obtain⟨r,k,_,_,_,rfl⟩:=FC.1 c;exact⟨_,_,DL _ _⟩
 refine⟨λa=>?_,RZ W 0 om,PZ h S W _,λx b y l m=>?_⟩
 ·rw[Gi,aT]at a;rcases a with a|a
  ·obtain⟨k,e⟩:=d _ a;have:=iT (GN e);revert this;decide
  obtain⟨i,k,e⟩:=f _ a;have:=iT (GN e);revert this;decide
 obtain⟨k,g⟩:=d _ b;obtain⟨i,p,n⟩:=f _ l;rw[m,n]at g;have:=iT (GN g);revert this;decide
theorem tY:∀(l:Lj)(m:RM)(k r:BA),xP (KAI m l) k=some r->(r∈l/\Aa r=k)\/xP m k=some r
 | [],m,k,r,h=>.inr h
 |x::l,m,k,r,h=>by
  rcases tY l (yR m (Aa x) x) k r h with h|h
  ·exact .inl ⟨.tail _ h.1,h.2⟩
  rw[EP]at h;split at h
  ·rename_i e;cases h;exact .inl ⟨.head _,e.symm⟩
  exact .inr h
theorem YX:∀(l:Lj)(m:RM),(l.map Aa).Nodup->∀k,(∀r∈l,Aa r=k->xP (KAI m l) k=some r)/\(k∉l.map Aa->xP (KAI m l) k=xP m k)
 | [],m,_,k=>⟨λr h=>(by cases h),λ_=>rfl⟩
 |x::l,m,hn,k=>by
  rw[aj,bH]at hn;obtain⟨d,c⟩:=YX l (yR m (Aa x) x) hn.2 k;refine⟨λr b a=>?_,λa=>?_⟩
  ·rcases aP.1 b with rfl|b
   ·show xP (KAI (yR m (Aa r) r) l) k=some r;rw[c (by rw[<- a];exact hn.1),EP,if_pos a.symm]
   exact d r b a
  rw[aj,aP,not_or]at a;show xP (KAI (yR m (Aa x) x) l) k=_;rw[c a.2,EP,if_neg a.1]
def DZ(T:Tr)(S:SM)(W:Lj){k r:BA}(h:xP (BV T S W) k=some r):r∈DY T S W/\Aa r=k:=by
 rcases tY _ _ _ _ h with h|h
 ·exact h
 cases h
def RH{F:Fo}{T:Tr}(a:Am F T)(S:SM){W:Lj}(b:W.length<=4000){k r:BA}:xP (BV T S W) k=some r↔r∈DY T S W/\Aa r=k:=
 ⟨DZ T S W,λh=>(YX _ [] (all_nodup a S b) k).1 r h.1 h.2⟩
end
noncomputable section
open Go Go.Vc Go.Nod
def posW_lt{W:Lj}{n:BA}(h:n∈W):yz W n<W.length:=(aA.1 (Nu h)).1
def MK{W:Lj}(a:WOk W){n:BA}(h:KAP W n):1<=zi W n/\zi W n<=4000/\atW W (zi W n)=n:=by
 have:=posW_lt h.1;have:=a.len;rw[zi,if_pos h,atW,if_neg om,show((yz W n:Int)+1).toNat-1=yz W n by omega,Nu h.1];exact⟨om,om,rfl⟩
def Vl{s:BA}(h:CZ s):s≠none0:=λe=>by
 have:=h.1;rw[e]at this;exact absurd this (by decide)
def goodA_nodup{l:List At}(h:Rs l):(l.map (·.1)).Nodup:=by
 refine dD.2 (h.imp λ{a b} c d=>?_);rw[d]at c;exact EF _ c
structure TInv0(X:Tab):Prop where
 wok:WOk X.W
 names:∀s,s≠none0->(s∈X.W↔s∈FM (X.T.L.map yH))
 inv:KAj ⟨X.P,X.Q,[]⟩
 recs:∀k,k≠bts Ew->yY ⟨X.P,X.Q,[]⟩ k=(xP (BV X.T X.S X.W) k).map (·.data.toList)
 head:yY ⟨X.P,X.Q,[]⟩ (bts Ew)=some (DX X.T.next).data.toList\/(yY ⟨X.P,X.Q,[]⟩ (bts Ew)=none/\X.T.next=1)
theorem tinv0:TInv0 zD:=by
 refine⟨rF,λs g=>?_,⟨⟨λL h=>(by cases h),λk p h=>(by cases h),λp s _ h=>(by cases h)⟩,.nil⟩,λk b=>?_,.inr ⟨rfl,rfl⟩⟩
 ·refine⟨λh=>(by cases h),λh=>?_⟩;obtain⟨x,c,_⟩:=NT.1 h;cases c
 show none=_;cases e:xP (BV zD.T zD.S zD.W) k with
 |none=>rfl
 |some r=>
  obtain⟨d,a⟩:=DZ _ _ _ e;rcases Ia.1 d with h|h|⟨j,f,_⟩
  ·rw[h,Gi]at a;exact absurd a.symm b
  ·cases h
  exact absurd f (Nat.not_lt_zero _)
structure KAi(X:Tab):Prop extends TInv0 X where
 span:RX X.T X.S
def P5{F:Fo}{T:Tr}(g:Am F T){s:BA}(h:s∈FM (T.L.map yH)):CZ s:=by
 obtain⟨x,i,b⟩:=NT.1 h;have e:=Dl g x i;obtain⟨l,f,j⟩:=DC e;rw[EG,aT]at b;rcases b with b|b
 ·split at b
  ·rename_i c;rw[aW]at b;rw[b];exact(f c).1
  cases b
 obtain⟨a,d,rfl⟩:=aU.1 b;rcases JO e with c|c
 ·exact(f c).2.1.1 a d
 rw[(j c).1]at d;cases d
structure RowOk(X:Tab)(r:Rw):Prop where
 parts:Ap r.x=0
 name:r.x.kind=1->KAP X.W r.x.name
 at_:∀a∈r.x.FP,KAP X.W a.1
def YA{F:Fo}{X:Tab}(e:Am F X.T)(g:TInv0 X){r:Rw}(h:r∈X.T.L):RowOk X r:=by
 have f:yH r∈X.T.L.map yH:=eG h
 have b:∀n∈EG (yH r),KAP X.W n:=λn i=>by
  have c:n∈FM (X.T.L.map yH):=NT.2 ⟨_,f,i⟩;have d:=Vl (P5 e c);exact⟨(g.names n d).2 c,d⟩
 refine⟨Dl e _ f,λj=>b _ ?_,λa l=>b _ ?_⟩
 ·rw[EG,aT];exact .inl (by rw[show(yH r).x.kind=1 from j,if_pos rfl];exact .head _)
 rw[EG,aT];exact .inr (eG l)
def sget_sp{S:SM}{i:Int}(h:(xm S i).isSome):(xm S i).getD (0,0)=spB S i:=by
 obtain⟨z,a⟩:=gU.1 h;rw[a,spB,atB,atB,a];rfl
def qf{F:Fo}{T:Tr}{S:SM}(e:Am F T)(h:RX T S):GV ((T.L.map (·.id)).map (spB S))=some (T.L.map (·.level))/\((T.L.map (·.id)).map (spB S)).Pairwise (λa b=>a.1<b.1)/\∀i∈T.L.map (·.id),(spB S i).1<(spB S i).2/\0<(spB S i).1/\(spB S i).2<4611686018427387904/\(xm S i).getD (0,0)=spB S i:=by
 have c:(T.L.map (·.id)).length=(T.L.map yH).length:=by rw[aQ,aQ]
 obtain⟨f,g,j⟩:=levels_ok c (levR_ok (PI (b:=0) e.ok e.fl)) h.rise;rw[show(T.L.map yH).map (·.level)=T.L.map (·.level)from dB]at f;refine⟨f,g,λi d=>⟨j i d,?_,?_,sget_sp ((h.keys i).2 d)⟩⟩
 ·exact(h.rise.pos (i,false) ((Ov c).2 d)).1
 exact(h.rise.pos (i,true) ((Ov c).2 d)).2
def par_range{F:Fo}{T:Tr}(a:Am F T)(j:Nat):0<=AY T.L j/\AY T.L j<=2147483647:=by
 rcases Xa with h|⟨k,r,_,b,c⟩
 ·rw[h];exact⟨gz _,om⟩
 have d:r.id∈ids F:=by
  rw[<- BK F 0,a.fl];exact eG (aC b)
 have:=a.pos _ d;have:=a.next;rw[c];omega
def YN{F:Fo}{T:Tr}(a:Am F T){r:Rw}(h:r∈T.L):1<=r.id/\r.id<=2147483647:=by
 have b:r.id∈ids F:=by
  rw[<- BK F 0,a.fl];exact eG h
 have:=a.pos _ b;have:=a.next;omega
def J5{F:Fo}{X:Tab}(h:Am F X.T)(e:KAi X){j:Nat}{r:Rw}(y:X.T.L[j]? =some r):Fol.Df (yP X.S X.W r.id (AY X.T.L j) r.x):=by
 have l:=aC y;have f:=YA h e.toTInv0 l;obtain⟨z,A⟩:=YN h l;obtain⟨B,C⟩:=par_range h j;obtain⟨_,_,D⟩:=qf h e.span;obtain⟨s1,O,s4,q⟩:=D r.id (eG l);obtain⟨G,H,J⟩:=DC f.parts;have s:(yP X.S X.W r.id (AY X.T.L j) r.x).frm=(spB X.S r.id).1:=congrArg (·.1) q;have t:(yP X.S X.W r.id (AY X.T.L j) r.x).to=(spB X.S r.id).2:=congrArg (·.2) q;refine⟨z,A,B,C,by rw[s];omega,by rw[s,t];exact s1,by rw[t];omega,?_⟩;rcases JO f.parts with c|c
 ·obtain⟨u,d,w,K⟩:=H c;refine .inl ⟨c,⟨λp M=>?_,?_,?_,w,?_⟩⟩
  ·obtain⟨a,i,rfl⟩:=aU.1 M;have g:=MK e.wok (f.at_ a i);refine⟨⟨g.1,g.2.1⟩,?_⟩;have:=(Gt _).1 K a i;rw[BH]at this;split at this
   ·cases this
   split at this
   ·cases this
   show a.2.size<=1500;omega
  ·show((r.x.FP.map λa=>(zi X.W a.1,a.2)).map (·.1)).Nodup;rw[dB];have m:=goodA_nodup d.2;refine dD.2 ((dD.1 m).imp_of_mem λ{a b} i N n o=>n ?_);have o:zi X.W a.1=zi X.W b.1:=o;rw[<- (MK e.wok (f.at_ a i)).2.2,o,(MK e.wok (f.at_ b N)).2.2]
  ·have g:=MK e.wok (f.name c);show Fol.JI (if r.x.kind=1 then zi X.W r.x.name else 0);rw[if_pos c];exact⟨g.1,g.2.1⟩
  show(r.x.FP.map _).length<=20;rw[aQ];exact G
 obtain⟨u,d,w⟩:=J c;refine .inr ⟨c,?_,?_,?_⟩
 ·show(if r.x.kind=1 then zi X.W r.x.name else 0)=0;rw[if_neg om]
 ·show r.x.FP.map _=[];rw[u];rfl
 rw[BH]at d;split at d
 ·cases d
 split at d
 ·cases d
 show r.x.text.size<=1500;omega
def Cf(X:Tab):List Fol.Rec:=(List.range X.T.L.length).filterMap λj=>(X.T.L[j]?).map λr=>yP X.S X.W r.id (AY X.T.L j) r.x
theorem Ku{α:Type}(X:Tab)(f:Fol.Rec->α)(g:Rw->α)(h:∀j r,X.T.L[j]? =some r->f (yP X.S X.W r.id (AY X.T.L j) r.x)=g r):(Cf X).map f=X.T.L.map g:=by
 have a:∀n,n<=X.T.L.length->((List.range n).filterMap λj=>(X.T.L[j]?).map λr=>yP X.S X.W r.id (AY X.T.L j) r.x).map f=(X.T.L.take n).map g:=by
  intro n
  induction n with
  |zero=>intro _;rfl
  |succ n c=>
   intro b;have e:X.T.L[n]? =some X.T.L[n]:=aB b;rw[gQ,kF,ai,c om,aG b,ai];congr 1;rw[jK,e];exact congrArg (λx=>[x]) (h n _ e)
 have:=a X.T.L.length (aZ _);rw[bJ]at this;exact this
def KR(X:Tab):(Cf X).length=X.T.L.length:=by
 have:=congrArg List.length (Ku X (λ_=>()) (λ_=>()) (λ_ _ _=>rfl));simpa using this
theorem Rj(X:Tab){j:Nat}{r:Rw}(b:X.T.L[j]? =some r):(Cf X)[j]? =some (yP X.S X.W r.id (AY X.T.L j) r.x):=by
 have c:∀n,n<=X.T.L.length->∀j r,j<n->X.T.L[j]? =some r->((List.range n).filterMap λj=>(X.T.L[j]?).map λr=>yP X.S X.W r.id (AY X.T.L j) r.x)[j]? =some (yP X.S X.W r.id (AY X.T.L j) r.x)/\((List.range n).filterMap λj=>(X.T.L[j]?).map λr=>yP X.S X.W r.id (AY X.T.L j) r.x).length=n:=by
  intro n
  induction n with
  |zero=>intro _ j r b;omega
  |succ n g=>
   intro i j r b d;have e:X.T.L[n]? =some X.T.L[n]:=aB i
   have l:([n].filterMap λj=>(X.T.L[j]?).map λr=>yP X.S X.W r.id (AY X.T.L j) r.x)=[yP X.S X.W (X.T.L[n]).id (AY X.T.L n) (X.T.L[n]).x]:=by
    rw[jK,e];rfl
   have a:((List.range n).filterMap λj=>(X.T.L[j]?).map λr=>yP X.S X.W r.id (AY X.T.L j) r.x).length=n:=by
    cases n with
    |zero=>rfl
    |succ n=>exact(g om 0 X.T.L[0] om (aB om)).2
   rw[gQ,kF,l,aF,a];refine⟨?_,rfl⟩;by_cases h:j<n
   ·rw[bQ om];exact(g om j r h d).1
   have f:j=n:=om;subst f;rw[e]at d;cases d;rw[bg om,a,iL];rfl
 exact(c _ (aZ _) j r (aA.1 b).1 b).1
def tree_recs{F:Fo}{X:Tab}(t:Am F X.T)(g:KAi X):rW X.W X.T (Cf X)/\(Cf X).Pairwise (λa b=>a.frm<b.frm):=by
 obtain⟨s1,A,B⟩:=qf t g.span
 have e:∀{j:Nat}{r:Rw}{q:Fol.Rec},X.T.L[j]? =some r->(Cf X)[j]? =some q->q=yP X.S X.W r.id (AY X.T.L j) r.x:=λh i=>by
  rw[Rj X h]at i;exact(Option.some.inj i).symm
 have m:(Cf X).map Ef=(X.T.L.map (·.id)).map (spB X.S):=by
  rw[dB];exact Ku X Ef _ λj r u=>(B r.id (eG (aC u))).2.2.2
 have n:∀r∈X.T.L,(r.x.FP.map λa=>(zi X.W a.1,a.2)).map (λa=>(atW X.W a.1,a.2))=r.x.FP:=λr l=>by
  have d:=YA t g.toTInv0 l;rw[dB];refine(je λa w=>?_).trans (map_id _);show(atW X.W (zi X.W a.1),a.2)=a;rw[(MK g.wok (d.at_ a w)).2.2]
 refine⟨⟨KR X,λj r q h i=>by rw[e h i];rfl,λj r q h i=>by rw[e h i];rfl,λj r q h i=>?_,λq C=>?_,by rw[m];exact s1⟩,?_⟩
 ·rw[e h i];have l:=aC h;have d:=YA t g.toTInv0 l;rw[Tv,Ac];congr 1
  have D:(if(yP X.S X.W r.id (AY X.T.L j) r.x).kind=1 then atW X.W (yP X.S X.W r.id (AY X.T.L j) r.x).name else none0)=r.x.name:=by
   show(if r.x.kind=1 then atW X.W (if r.x.kind=1 then zi X.W r.x.name else 0)else none0)=_;by_cases c:r.x.kind=1
   ·rw[if_pos c,if_pos c,(MK g.wok (d.name c)).2.2]
   rw[if_neg c];have y:r.x.kind=2:=(JO d.parts).resolve_left c;exact((DC d.parts).2.2 y).2.2.symm
  rw[D];show({kind:=r.x.kind,name:=r.x.name,text:=r.x.text,FP:=(r.x.FP.map λa=>(zi X.W a.1,a.2)).map (λa=>(atW X.W a.1,a.2))}:NX)=r.x;rw[n r l]
 ·obtain⟨j,u⟩:=jA.1 C;have z:j<X.T.L.length:=by rw[<- KR X];exact(aA.1 u).1
  obtain⟨r,l⟩:∃r,X.T.L[j]? =some r:=⟨_,aB z⟩;rw[e l u];have o:=aC l;have d:=YA t g.toTInv0 o;obtain⟨G,H,J⟩:=DC d.parts;refine⟨λc=>?_,λp K=>?_,?_,?_⟩
  ·have c:r.x.kind=1:=c;have s:=MK g.wok (d.name c);show(if r.x.kind=1 then zi X.W r.x.name else 0)<=4000/\atW X.W (if r.x.kind=1 then zi X.W r.x.name else 0)≠none0;rw[if_pos c,s.2.2];exact⟨s.2.1,(d.name c).2⟩
  ·obtain⟨a,w,rfl⟩:=aU.1 K;have s:=MK g.wok (d.at_ a w);rw[s.2.2];exact⟨s.2.1,(d.at_ a w).2⟩
  ·show Rs ((r.x.FP.map λa=>(zi X.W a.1,a.2)).map (λa=>(atW X.W a.1,a.2)));rw[n r o];rcases JO d.parts with c|c
   ·exact(H c).2.1.2
   rw[(J c).1];exact .nil
  show(r.x.FP.map _).length<=20;rw[aQ];exact G
 have:((Cf X).map Ef).Pairwise (λa b=>a.1<b.1):=by rw[m];exact A
 exact(dD (f:=Ef)).1 this
def uQ{F:Fo}{X:Tab}{o:OpP}(j:TInv0 X)(b:Am F (doP X o).1.T)(a:(doP X o).2.2.2=0):TInv0 (doP X o).1/\yY ⟨(doP X o).1.P,(doP X o).1.Q,[]⟩ (bts Ew)=some (DX (doP X o).1.T.next).data.toList:=by
 rw[doP]at a b⊢;split at a
 ·rename_i h;exact absurd a h
 rename_i m;split at a
 ·rename_i h;exact absurd a h
 rename_i c;split at a
 ·rename_i h;exact absurd a h
 rename_i d;rw[if_neg m,if_neg c,if_neg d]at b⊢;obtain⟨T,n⟩:∃T,T=(X.T.xg o).1:=⟨_,rfl⟩;rw[<- n]at b c d⊢;have e:=Yh j.wok (λs p=>Vl (P5 b p)) (eU.1 c);obtain⟨f,g,q⟩:=Zd (R:=BV T (X.spans T o) (X.words T).1) j.inv (λk r h=>(DZ _ _ _ h).2) (eU.1 d);have i:EO (BV T (X.spans T o) (X.words T).1) ⟨X.P,X.Q,[]⟩=X.wr T o:=rfl;rw[i]at f g
 have l:yY ⟨(X.wr T o).1.P,(X.wr T o).1.Q,[]⟩ (bts Ew)=some (DX T.next).data.toList:=by
  show yY (X.wr T o).1 (bts Ew)=_;rw[g,(RH b _ (W:=(X.words T).1) e.1.len).2 ⟨Ia.2 (.inl rfl),Gi _⟩];rfl
 exact⟨⟨e.1,e.2,⟨f.pi,f.qn⟩,λk _=>g k,.inl l⟩,l⟩
def Zx{X:Tab}{o:OpP}(a:(doP X o).2.2.2≠0):(doP X o).1=X/\(doP X o).2.1=0/\(doP X o).2.2.1=[]:=by
 rw[doP]at a⊢;split
 ·exact⟨rfl,rfl,rfl⟩
 rename_i b;rw[if_neg b]at a;split
 ·exact⟨rfl,rfl,rfl⟩
 rename_i c;rw[if_neg c]at a;split
 ·exact⟨rfl,rfl,rfl⟩
 rename_i d;rw[if_neg d]at a;exact absurd rfl a
def do_tinv{F:Fo}{X:Tab}{o:OpP}(a:TInv0 X)(c:Am F (doP X o).1.T):TInv0 (doP X o).1:=by
 by_cases b:(doP X o).2.2.2=0
 ·exact(uQ a c b).1
 rw[(Zx b).1];exact a
end
noncomputable section
open Go Go.Vc Go.Nod
theorem Qb:∀(P:List Sl.xR)(n:Nat)(c:Cg),c∈FO n P↔∃m p,p∈Aj P m/\c=⟨((n+m:Nat):Int),((p.1:Nat):Int),bts p.2,false⟩
 | [],n,c=>by
  constructor
  ·intro h;cases h
  rintro⟨m,p,h,_⟩;rw[JF (bZ _)]at h;cases h
 |R::r,n,c=>by
  rw[FO,aT,Qb r (n+1) c,Hr,aU];constructor
  ·rintro(⟨p,a,rfl⟩|⟨m,p,a,rfl⟩)
   ·exact⟨0,p,a,rfl⟩
   exact⟨m+1,p,a,by rw[jb,iG 1 m]⟩
  rintro⟨m,p,a,rfl⟩;cases m with
  |zero=>exact .inl ⟨p,a,rfl⟩
  |succ m=>exact .inr ⟨m,p,a,by rw[jb,iG 1 m]⟩
def NH{P:List Sl.xR}{c:Cg}:c∈BJ P↔∃(m:Nat)(p:Nat×LU),p∈Aj P m/\c=⟨(m:Int),(p.1:Int),bts p.2,false⟩:=by
 rw[BJ,Qb];simp
def Hu{P:List Sl.xR}(h:zg P){c:Cg}:c∈BJ P↔c.gone=false/\0<=c.page/\cel P (c.page,c.slot)=some c.s.data.toList:=by
 rw[NH];constructor
 ·rintro⟨m,p,i,rfl⟩;refine⟨rfl,by dsimp only;omega,?_⟩;show Sl.lk (Aj P ((m:Int).toNat)) _=_;rw[aN];exact Sl.rM (h.page m).up i
 rintro⟨b,d,e⟩;rcases Sl.LZ c.slot with⟨g,_⟩|⟨K,s,f,j,a⟩
 ·rw[show Sl.lk (Aj P c.page.toNat) c.slot=some c.s.data.toList from e]at g;cases g
 rw[show Sl.lk (Aj P c.page.toNat) c.slot=some c.s.data.toList from e]at a;refine⟨c.page.toNat,(K,s),j,?_⟩;obtain⟨l,sl,n,o⟩:=c;dsimp only at b d f a⊢;cases a;rw[b,f,Bc,jI d]
def FI(a b:Cg):Prop:=a.page<b.page\/a.page=b.page/\a.slot<b.slot
theorem Tn:∀(P:List Sl.xR)(n:Nat),zg P->(FO n P).Pairwise FI
 | [],n,_=>.nil
 |R::r,n,h=>by
  rw[FO,eP];refine⟨?_,Tn r (n+1) (λL c=>h L (.tail _ c)),λa d b e=>?_⟩
  ·rw[Hr,dD];refine(h R (.head _)).up.imp λ{a b} f=>.inr ⟨rfl,?_⟩;show(a.1:Int)<(b.1:Int);omega
  obtain⟨p,_,rfl⟩:=aU.1 d;obtain⟨m,q,_,rfl⟩:=(Qb r (n+1) b).1 e;left;show(n:Int)<((n+1+m:Nat):Int);omega
def NM{P:List Sl.xR}(h:zg P):(BJ P).Pairwise FI:=Tn P 0 h
def rows_nodup{P:List Sl.xR}(h:zg P):(BJ P).Nodup:=(NM h).imp λ{a b} c d=>by
 subst d;rcases c with h|⟨_,h⟩<;>omega
def KE{P:List Sl.xR}(c:zg P){a b:Cg}(e:a∈BJ P)(f:b∈BJ P)(g:a.page=b.page)(h:a.slot=b.slot):a=b:=by
 obtain⟨j,l,d⟩:=(Hu c).1 e;obtain⟨m,n,i⟩:=(Hu c).1 f;rw[g,h,i]at d;have o:a.s=b.s:=by rw[<- Bc a.s,<- Bc b.s,Option.some.inj d]
 obtain⟨_,_,_,_⟩:=a;obtain⟨_,_,_,_⟩:=b
 simp_all
theorem Rh(k:Nat)(s:LU)(f g:Nat×LU->Bool):∀L:Sl.xR,L.Pairwise (λa b=>a.1<b.1)->(k,s)∈L->f (k,s)=false->(∀p∈L,g p=(f p||decide (p.1=k)))->Sl.KAE (k,s) (L.filter f)=L.filter g
 |p::r,hs,i,hf,hg=>by
  obtain⟨l,n⟩:=bF.1 hs;have d:=hg p (.head _);have h:∀q∈r,g q=(f q||decide (q.1=k)):=λq c=>hg q (.tail _ c);rcases aP.1 i with o|i
  ·subst o;rw[dL,hf,if_neg (by decide),dL,d,hf,if_pos (by simp)]
   have e:r.filter g=r.filter f:=qH λq c=>by
    rw[h q c];have:=l q c;simp only at this;rw[decide_eq_false om,lw]
   rw[e];cases e2:r.filter f with
   |nil=>rfl
   |cons q t=>
    have c:q∈r:=(dO.1 (show q∈r.filter f by rw[e2];exact .head _)).1;rw[Sl.KAE,if_pos (l q c)]
  have u:p.1<k:=l _ i;rw[dL,dL,d,decide_eq_false om,lw];have m:=Rh k s f g r n i hf h;by_cases j:f p=true
  ·rw[if_pos j,if_pos j,Sl.KAE,if_neg om,m]
  rw[if_neg j,if_neg j,m]
def XH(P:List Sl.xR)(n m:Nat):Aj (KAR P n) m=Aj P m:=by
 rw[Aj,Aj,KAR,gy];split
 ·rfl
 rename_i h;rw[bC (l:=P) om,gp];split<;>rfl
def GY{X:Tab}(f:TInv0 X){c:Cg}(p:c∈BJ X.P):xP X.Q (Aa c.s)=some (c.page,c.slot)/\(c.s=DX X.T.next\/(∃(j:Nat)(s:BA),X.W[j]? =some s/\s≠none0/\c.s=EZ j s)\/
  ∃(j:Nat)(r:Rw)(k:Nat),X.T.L[j]? =some r/\k<Fol.BG (Fol.Ad (yP X.S X.W r.id (AY X.T.L j) r.x)).length/\c.s=CO (Fol.BC (yP X.S X.W r.id (AY X.T.L j) r.x) k)):=by
 have q:=f.inv.pi.w;obtain⟨A,t,m⟩:=(Hu q).1 p;have b:=f.inv.pi.all (c.page,c.slot) _ t m;rw[Bc]at b;have b:xP X.Q (Aa c.s)=some (c.page,c.slot):=b
 have a:yY ⟨X.P,X.Q,[]⟩ (Aa c.s)=some c.s.data.toList:=by
  rw[yY];rw[b];exact m
 refine⟨b,?_⟩;have d:∀r:BA,r.data.toList=c.s.data.toList->c.s=r:=λr h=>by rw[<- Bc c.s,<- Bc r,h]
 by_cases n:Aa c.s=bts Ew
 ·rw[n]at a;rcases f.head with h|⟨h,_⟩
  ·rw[h]at a;exact .inl (d _ (Option.some.inj a))
  rw[h]at a;cases a
 rw[f.recs _ n]at a;obtain⟨r,e,i⟩:=cO.1 a;have u:=d r i;rw[<- u]at e;rcases Ia.1 (DZ _ _ _ e).1 with h|h|⟨j,B,h⟩
 ·exact .inl h
 ·obtain⟨j,s,l,o,g⟩:=(Fv _ _ _).1 h;rw[cZ]at g;exact .inr (.inl ⟨j,s,l,o,g⟩)
 obtain⟨y,k,l,o,g,z⟩:=FC.1 h;exact .inr (.inr ⟨j,y,k,l,g,z⟩)
def atL(V:Lj)(j:Nat):BA:=V[j]?.getD none0
def Has(d:List Cg)(k:LU):Prop:=∃c∈d,Aa c.s=bts k
def IC{d:List Cg}{c:Cg}{k:LU}:Has (d++[c]) k↔Has d k\/Aa c.s=bts k:=by
 constructor
 ·rintro⟨x,a,h⟩;rcases aT.1 a with a|a
  ·exact .inl ⟨x,a,h⟩
  rw[aW.1 a]at h;exact .inr h
 rintro(⟨x,a,h⟩|h)
 ·exact⟨x,aS _ a,h⟩
 exact⟨c,aI _ (.head _),h⟩
def FY(i:Int)(c:Cg):Option (LU):=match c.s.data.toList with
 | []=>none
 |b::p=>if b.toNat=110 then(match Fol.EU p with
  |some h=>if(h.1:Int)=i then some p else none
  |none=>none)else none
structure LdI(X:Tab)(d:List Cg)(st:LdS):Prop where
 pg:∀n,Aj st.P n=(Aj X.P n).filter λp=>dec (∃c∈d,c.page=(n:Int)/\c.slot=(p.1:Int))
 q:∀k p,xP st.Q k=some p↔∃c∈d,Aa c.s=k/\p=(c.page,c.slot)
 next:(Has d Ew->st.next=X.T.next)/\(¬Has d Ew->st.next=0)
 w:∀j,(Has d (FH j)->atL st.V j=atL X.W j)/\(¬Has d (FH j)->atL st.V j=none0)
 wl:st.V.getLast? ≠some none0
 c:∀i,yN st.C i=d.filterMap (FY i)
 ck:∀i,i∈st.C.map (·.1)↔∃c∈d,(FY i c).isSome
def ldI0(X:Tab):LdI X [] KBQ:=by
 refine⟨λn=>?_,λk p=>⟨λh=>(by cases h),λ⟨c,h,_⟩=>(by cases h)⟩,⟨λ⟨c,h,_⟩=>(by cases h),λ_=>rfl⟩,λj=>⟨λ⟨c,h,_⟩=>(by cases h),λ_=>rfl⟩,λh=>(by cases h),λi=>rfl,λi=>⟨λh=>(by cases h),λ⟨c,h,_⟩=>(by cases h)⟩⟩;have e:Aj KBQ.P n=[]:=JF (bZ _);rw[e];symm;rw[nZ];intro p _ h;obtain⟨c,a,_⟩:=DI.1 h;cases a
def take_head(st:LdS)(n:Int):IU st (DX n).data.toList=some ((yM (be n 4):Int),st.V,st.C):=by
 show IU st (104::be n 4)=_;rw[IU,if_pos (by decide),if_pos (AU _ _)]
def take_word(st:LdS){j:Nat}{s:BA}(f:j<4000)(a:s≠none0):IU st (EZ j s).data.toList=some (st.next,(KAm st.V (j+1)).set j s,st.C):=by
 show IU st (119::(be ((j:Int)+1) 2++s.data.toList))=_
 have g:1<=s.data.toList.length:=by
  rcases iO s.data.toList.length with h|h
  ·refine absurd ?_ a;rw[<- Bc s,ay h];rfl
  exact h
 have b:yM ((((119:UInt8)::(be ((j:Int)+1) 2++s.data.toList)).take 3).drop 1)=j+1:=by
  rw[dY,eF,fF,iM (AU _ _)];have:=Fol.Ec (n:=(j:Int)+1) (k:=2) om om;have e:yM (be ((j:Int)+1) 2)=Fol.yM (be ((j:Int)+1) 2):=rfl;omega
 have c:((119:UInt8)::(be ((j:Int)+1) 2++s.data.toList)).length=3+s.data.toList.length:=by
  rw[aK,aF,AU];omega
 have d:((119:UInt8)::(be ((j:Int)+1) 2++s.data.toList)).drop 3=s.data.toList:=by
  rw[eF,kX (AU _ _)]
 rw[IU,if_neg (by decide),if_pos (by decide),WQ,b,c,d,if_neg om,Bc];rfl
def take_node(st:LdS){r:Fol.Rec}{k:Nat}(b:Fol.Df r)(c:k<Fol.BG (Fol.Ad r).length):IU st (CO (Fol.BC r k)).data.toList=some (st.next,st.V,yR st.C r.id (yN st.C r.id++[Fol.BC r k])):=by
 show IU st (110::Fol.BC r k)=_;have a:((r.id.toNat:Nat):Int)=r.id:=by have:=b.1;omega
 rw[IU,if_neg (by decide),if_neg (by decide),if_pos (by decide),Fol.head_piece b c];show some (st.next,st.V,yR st.C ((r.id.toNat:Nat):Int) (yN st.C ((r.id.toNat:Nat):Int)++[Fol.BC r k]))=_;rw[a]
def Kv{c:Cg}{r:Fol.Rec}{k:Nat}(b:Fol.Df r)(d:k<Fol.BG (Fol.Ad r).length)(f:c.s=CO (Fol.BC r k))(i:Int):FY i c=if r.id=i then some (Fol.BC r k)else none:=by
 have e:c.s.data.toList=110::Fol.BC r k:=by rw[f];rfl
 have a:((r.id.toNat:Nat):Int)=r.id:=by have:=b.1;omega
 rw[FY,e];dsimp only;rw[if_pos (by decide),Fol.head_piece b d];dsimp only;rw[a]
def JP{c:Cg}{b:UInt8}{l:LU}(a:c.s.data.toList=b::l)(d:b.toNat≠110)(i:Int):FY i c=none:=by
 rw[FY,a];dsimp only;rw[if_neg d]
def OG(j:Nat):bts Ew≠bts (FH j):=λh=>by
 have:=iT (GN h);revert this;decide
def JK(i:Int)(k:Nat):bts Ew≠bts (IG i k):=λh=>by
 have:=iT (GN h);revert this;decide
def RI(j:Nat)(i:Int)(k:Nat):bts (FH j)≠bts (IG i k):=λh=>by
 have:=iT (GN h);revert this;decide
def tZ{V:Lj}{j:Nat}(s:BA)(i:Nat):atL ((KAm V (j+1)).set j s) i=if i=j then s else atL V i:=by
 have a:j<(KAm V (j+1)).length:=by rw[KAm,aF,dQ];omega
 rw[atL,jX];by_cases h:i=j
 ·rw[if_pos h.symm,if_pos h,if_pos a];rfl
 rw[if_neg λe=>h e.symm,if_neg h,KAm,gy,atL];split
 ·rfl
 rename_i b;rw[bC (l:=V) om,gp];split<;>rfl
def last_set{V:Lj}{j:Nat}{s:BA}(c:s≠none0)(d:V.getLast? ≠some none0):((KAm V (j+1)).set j s).getLast? ≠some none0:=by
 have a:((KAm V (j+1)).set j s).length=max V.length (j+1):=by rw[bU,KAm,aF,dQ];omega
 intro h;rw[dZ,a]at h;have f:=congrArg (λo:Option BA=>o.getD none0) h;have b:atL ((KAm V (j+1)).set j s) (max V.length (j+1)-1)=none0:=f;rw[tZ]at b;split at b
 ·exact c b
 rename_i g;have i:j+1<V.length:=om;apply d;rw[dZ];have e:max V.length (j+1)-1=V.length-1:=om;rw[e,atL,aB om]at b;rw[aB om];exact congrArg some b
theorem LdI.step{F:Fo}{X:Tab}(hG:Am F X.T)(hX:KAi X)(aq:X.P.length<=4096){d:List Cg}{c:Cg}{st:LdS}(h:LdI X d st)(hc:c∈BJ X.P)(G:c∉d)(hd:∀x∈d,x∈BJ X.P):∃ad,P8 st c=some ad/\LdI X (d++[c]) ad:=by
 have hP:=hX.inv.pi.w;obtain⟨c1,c2,c3⟩:=(Hu hP).1 hc;obtain⟨hq,o⟩:=GY hX.toTInv0 hc;obtain⟨n,hn⟩:∃n:Nat,c.page=(n:Int):=⟨c.page.toNat,om⟩;have H:c.page.toNat=n:=om;have ae:=Z8 c3;dsimp only at ae;rw[H]at ae
 obtain⟨K,s,k1,k2,k3⟩:∃(K:Nat)(s:LU),c.slot=(K:Int)/\(K,s)∈Aj X.P n/\s=c.s.data.toList:=by
  have af:Sl.lk (Aj X.P n) c.slot=some c.s.data.toList:=by rw[<- H];exact c3
  rcases Sl.LZ c.slot with⟨g,_⟩|⟨K,s,g1,g2,g3⟩
  ·rw[af]at g;cases g
  rw[af]at g3;exact⟨K,s,g1,g2,(Option.some.inj g3).symm⟩
 have J:=hP.page n;have al:=J.lt _ k2;obtain⟨M,hM⟩:∃M,M=Aj st.P n:=⟨_,rfl⟩;have N:=h.pg n;rw[<- hM]at N
 have B:∀p∈M,p.1≠K:=λp hp O=>by
  rw[N,dO]at hp;obtain⟨x,a,b,f⟩:=DI.1 hp.2;have:x=c:=KE hP (hd x a) hc (by rw[b,hn]) (by rw[f,k1,O]);exact G (this▸a)
 have D:Sl.KAE (K,s) M=(Aj X.P n).filter λp=>dec (∃x∈d++[c],x.page=(n:Int)/\x.slot=(p.1:Int)):=by
  rw[N];refine Rh K s _ _ _ J.up k2 ?_ λp hp=>?_
  ·refine(Bz λl=>?_).symm;obtain⟨x,a,b,f⟩:=l;have:x=c:=KE hP (hd x a) hc (by rw[b,hn]) (by rw[f,k1]);exact G (this▸a)
  apply iD.2;rw[DI,nz,DI,decide_eq_true_eq];constructor
  ·rintro⟨x,a,b,f⟩;rcases aT.1 a with a|a
   ·exact .inl ⟨x,a,b,f⟩
   rw[aW.1 a,k1]at f;exact .inr om
  rintro(⟨x,a,b,f⟩|O)
  ·exact⟨x,aS _ a,b,f⟩
  exact⟨c,aI _ (.head _),hn,by rw[k1,O]⟩
 have am:Sl.wo M K=M:=Sl.Sm λt ht=>B _ ht rfl
 have ar:Sl.tot M+s.length<=3600:=by
  have e1:Sl.tot (Sl.KAE (K,s) M)=s.length+Sl.tot M:=by rw[Sl.Me (Sl.Jw _ _),Sl.Dk]
  have e2:Sl.tot (Sl.KAE (K,s) M)<=3600:=by rw[D];exact fJ (Kt _ _) J.few
  omega
 have U:Sl.xY M c.slot s=(Sl.KAE (K,s) M,0):=by
  rw[Sl.xY,if_neg om,k1,aN,am,if_neg om]
 have ag:xP st.Q (Aa c.s)=none:=by
  cases e:xP st.Q (Aa c.s)with
  |none=>rfl
  |some p=>
   obtain⟨x,a,b,f⟩:=(h.q _ _).1 e;have y:=(GY hX.toTInv0 (hd x a)).1;rw[b,hq]at y;have y:=Option.some.inj y;have:c=x:=KE hP hc (hd x a) (congrArg (·.1) y) (congrArg (·.2) y);exact(G (this▸a)).elim
 have an:Sl.lk M c.slot=none:=Sl.sQ λp hp O=>B p hp (by rw[k1]at O;omega)
 obtain⟨k,ah,Y⟩:∃k,IU st c.s.data.toList=some k/\((Has (d++[c]) Ew->k.1=X.T.next)/\(¬Has (d++[c]) Ew->k.1=0))/\(∀j,(Has (d++[c]) (FH j)->atL k.2.1 j=atL X.W j)/\(¬Has (d++[c]) (FH j)->atL k.2.1 j=none0))/\k.2.1.getLast? ≠some none0/\(∀i,yN k.2.2 i=(d++[c]).filterMap (FY i))/\(∀i,i∈k.2.2.map (·.1)↔∃x∈d++[c],(FY i x).isSome):=by
  have z:∀(Z:∀i,FY i c=none),(∀i,yN st.C i=(d++[c]).filterMap (FY i))/\(∀i,i∈st.C.map (·.1)↔∃x∈d++[c],(FY i x).isSome):=λZ=>by
   refine⟨λi=>?_,λi=>?_⟩
   ·rw[kF,h.c i,jK,Z i];simp
   rw[h.ck i];constructor
   ·rintro⟨x,a,u⟩;exact⟨x,aS _ a,u⟩
   rintro⟨x,a,u⟩;rcases aT.1 a with a|a
   ·exact⟨x,a,u⟩
   rw[aW.1 a,Z i]at u;cases u
  rcases o with o|⟨j,t,j1,j2,o⟩|⟨j,r,m,j1,j2,o⟩
  ·have A:Aa c.s=bts Ew:=by rw[o,Gi]
   obtain⟨n1,n2⟩:=z λi=>JP (by rw[o];rfl) (by decide) i;have av:=hG.next;refine⟨_,by rw[o];exact take_head st _,⟨λ_=>?_,λl=>(l (IC.2 (.inr A))).elim⟩,λj=>?_,h.wl,n1,n2⟩
   ·exact Fol.Ec om om
   have:Has (d++[c]) (FH j)↔Has d (FH j):=IC.trans ⟨λl=>l.elim id λe=>(OG j (A.symm.trans e)).elim,.inl⟩;rw[this];exact h.w j
  ·have A:Aa c.s=bts (FH j):=by rw[o,E8]
   have aw:=hX.wok.len;have a0:=(aA.1 j1).1;obtain⟨n1,n2⟩:=z λi=>JP (by rw[o];rfl) (by decide) i;refine⟨_,by rw[o];exact take_word st om j2,?_,λi=>?_,last_set j2 h.wl,n1,n2⟩
   ·have:Has (d++[c]) Ew↔Has d Ew:=IC.trans ⟨λl=>l.elim id λe=>(OG j (e.symm.trans A)).elim,.inl⟩;rw[this];exact h.next
   show(Has (d++[c]) (FH i)->atL ((KAm st.V (j+1)).set j t) i=atL X.W i)/\(¬Has (d++[c]) (FH i)->atL ((KAm st.V (j+1)).set j t) i=none0);rw[tZ];by_cases aa:i=j
   ·subst aa;rw[if_pos rfl];refine⟨λ_=>?_,λl=>(l (IC.2 (.inr A))).elim⟩;rw[atL,j1];rfl
   rw[if_neg aa];have ao:j<65535:=om;refine⟨λl=>?_,λl=>(h.w i).2 λh2=>l (IC.2 (.inl h2))⟩;rcases IC.1 l with h2|h2
   ·exact(h.w i).1 h2
   rw[A]at h2;by_cases hi:i<65535
   ·exact(aa (WF hi ao (GN h2.symm))).elim
   by_cases ak:Has d (FH i)
   ·exact(h.w i).1 ak
   rw[(h.w i).2 ak,atL,bC om];rfl
  have hr:=J5 hG hX j1;obtain⟨R,hR⟩:∃R,R=yP X.S X.W r.id (AY X.T.L j) r.x:=⟨_,rfl⟩;rw[<- hR]at hr o j2;have A:Aa c.s=bts (IG R.id m):=by rw[o,DL]
  have ab:=Kv hr j2 o;refine⟨_,by rw[o];exact take_node st hr j2,?_,λi=>?_,h.wl,λi=>?_,λi=>?_⟩
  ·have:Has (d++[c]) Ew↔Has d Ew:=IC.trans ⟨λl=>l.elim id λe=>(JK _ _ (e.symm.trans A)).elim,.inl⟩;rw[this];exact h.next
  ·have:Has (d++[c]) (FH i)↔Has d (FH i):=IC.trans ⟨λl=>l.elim id λe=>(RI _ _ _ (e.symm.trans A)).elim,.inl⟩;rw[this];exact h.w i
  ·show yN (yR st.C R.id (yN st.C R.id++[Fol.BC R m])) i=_;rw[YW,kF,<- h.c i,jK,ab i];by_cases hi:i=R.id
   ·rw[if_pos hi,if_pos hi.symm,hi];rfl
   rw[if_neg hi,if_neg λe=>hi e.symm];simp
  show i∈(yR st.C R.id (yN st.C R.id++[Fol.BC R m])).map (·.1)↔_
  have ap:i∈(yR st.C R.id (yN st.C R.id++[Fol.BC R m])).map (·.1)↔i∈st.C.map (·.1)\/i=R.id:=by
   rw[Ie];split
   ·rename_i hm;exact⟨.inl,λl=>l.elim id λe=>e▸hm⟩
   rw[aT,aW]
  rw[ap,h.ck i];constructor
  ·rintro(⟨x,a,u⟩|O)
   ·exact⟨x,aS _ a,u⟩
   exact⟨c,aI _ (.head _),by rw[ab i,if_pos O.symm];rfl⟩
  rintro⟨x,a,u⟩;rcases aT.1 a with a|a
  ·exact .inl ⟨x,a,u⟩
  rw[aW.1 a,ab i]at u;split at u
  ·rename_i e;exact .inr e.symm
  cases u
 obtain⟨r1,r2,r3,r4,r5⟩:=Y;rw[<- k3]at ah;refine⟨⟨(KAR st.P (n+1)).set n (Sl.KAE (K,s) M),yR st.Q (Aa c.s) (c.page,c.slot),k.1,k.2.1,k.2.2⟩,?_,⟨?_,?_,r1,r2,r3,r4,r5⟩⟩
 ·have ac:¬(c.gone=true\/c.page<0\/4096<=c.page):=by
   rw[c1];rintro(h|h|h)
   ·cases h
   ·omega
   omega
  rw[P8,if_neg ac];rw[H,XH,<- hM,<- k3,U,if_neg,ah]
  ·rfl
  rw[ag,an];rintro(h|h|h)
  ·cases h
  ·cases h
  exact h rfl
 ·intro m;rw[WB (by rw[KAR,aF,dQ];omega)];by_cases hm:m=n
  ·rw[if_pos hm,D,hm]
  rw[if_neg hm,XH,h.pg m];refine qH λp hp=>iD.2 ?_;rw[DI,DI];constructor
  ·rintro⟨x,a,b,f⟩;exact⟨x,aS _ a,b,f⟩
  rintro⟨x,a,b,f⟩;rcases aT.1 a with a|a
  ·exact⟨x,a,b,f⟩
  rw[aW.1 a,hn]at b;exact(hm om).elim
 intro k' p;rw[EP];split
 ·rename_i e;constructor
  ·intro u;exact⟨c,aI _ (.head _),e.symm,(Option.some.inj u).symm⟩
  rintro⟨x,a,b,f⟩;rcases aT.1 a with a|a
  ·have:=(h.q k' p).2 ⟨x,a,b,f⟩;rw[e,ag]at this;cases this
  rw[aW.1 a]at f;rw[f]
 rename_i e;rw[h.q];constructor
 ·rintro⟨x,a,b⟩;exact⟨x,aS _ a,b⟩
 rintro⟨x,a,b,f⟩;rcases aT.1 a with a|a
 ·exact⟨x,a,b,f⟩
 rw[aW.1 a]at b;exact(e b.symm).elim
end
noncomputable section
open Go Go.Vc Go.Nod
theorem RQ{F:Fo}{X:Tab}(g:Am F X.T)(i:KAi X)(a:X.P.length<=4096):∀(r d:List Cg)(st:LdS),LdI X d st->(d++r).Nodup->(∀x∈d++r,x∈BJ X.P)->∃b,Gx st r=some b/\LdI X (d++r) b
 | [],d,st,h,_,_=>⟨st,rfl,by rw[aX];exact h⟩
 |c::r,d,st,h,hn,hm=>by
  have f:c∉d:=λj=>by
   rw[bG]at hn;exact hn.2.2 c j c (.head _) rfl
  obtain⟨s1,m,n⟩:=h.step g i a (hm c (aI _ (.head _))) f (λx o=>hm x (aS _ o));have e:d++c::r=(d++[c])++r:=by rw[ax];rfl
  rw[e]at hn hm⊢;obtain⟨p,q,s⟩:=RQ g i a r (d++[c]) s1 n hn hm;exact⟨p,by rw[Gx,m];exact q,s⟩
def atL_ext{V W:Lj}(h:∀j,atL V j=atL W j)(c:V.getLast? ≠some none0)(b:W.getLast? ≠some none0):V=W:=by
 have a:∀{V W:Lj},(∀j,atL V j=atL W j)->W.getLast? ≠some none0->¬V.length<W.length:=λ{V W} h b f=>by
  apply b;have:=h (W.length-1);rw[atL,bC om,atL,aB om]at this;rw[dZ,aB om];exact congrArg some this.symm
 have g:=a h b;have i:=a (λj=>(h j).symm) c;apply List.ext_getElem om;intro j d e;have:=h j;rw[atL,aB d,atL,aB e]at this;exact this
theorem X5{X:Tab}(b:TInv0 X){k:BA}{s:LU}(h:yY ⟨X.P,X.Q,[]⟩ k=some s):∃c∈BJ X.P,c.s=bts s/\Aa c.s=k:=by
 cases e:xP X.Q k with
 |none=>
  have:yY ⟨X.P,X.Q,[]⟩ k=none:=by
   rw[yY];rw[e];rfl
  rw[this]at h;cases h
 |some p=>
  have d:cel X.P p=some s:=by
   rw[yY]at h;have h:(xP X.Q k).bind (cel X.P)=some s:=h;rw[e]at h;exact h
  obtain⟨f,t,a,g⟩:=b.inv.pi.at_ k p e;have a:cel X.P p=some t:=a;rw[d]at a;cases a;exact⟨⟨p.1,p.2,bts s,false⟩,(Hu b.inv.pi.w).2 ⟨rfl,f,d⟩,rfl,g⟩
def Xk{F:Fo}{X:Tab}(b:Am F X.T)(a:KAi X){r:BA}(h:r∈DY X.T X.S X.W)(d:Aa r≠bts Ew):∃c∈BJ X.P,c.s=r:=by
 have f:=(RH b X.S a.wok.len).2 ⟨h,rfl⟩;obtain⟨c,g,e,_⟩:=X5 a.toTInv0 (s:=r.data.toList) (by rw[a.recs _ d,f];rfl);exact⟨c,g,by rw[e,Bc]⟩
theorem uA:∀(p:LU){x y:LU},x<y->p++x<p++y
 | [],x,y,h=>h
 |b::p,x,y,h=>lK.2 (.inr ⟨rfl,uA p h⟩)
theorem wK{k:Nat}(h:k<256):∃x:UInt8,be (k:Int) 1=[x]/\x.toNat=k:=by
 have a:=AU (k:Int) 1;have b:=Fol.Ec (n:=(k:Int)) (k:=1) om om;cases e:be (k:Int) 1 with
 |nil=>rw[e]at a;cases a
 |cons x r=>
  rw[e]at a b;have:r=[]:=ay (by simpa using a);subst this;refine⟨x,rfl,?_⟩;have c:Fol.yM [x]=x.toNat:=by simp[Fol.yM]
  omega
def piece_lt(r:Fol.Rec){a b:Nat}(c:a<b)(d:b<256):Fol.BC r a<Fol.BC r b:=by
 obtain⟨x,e,_⟩:=MB r a;obtain⟨y,f,_⟩:=MB r b;obtain⟨u,g,h⟩:=wK (k:=a) om;obtain⟨v,i,j⟩:=wK d;rw[e,f,g,i];refine uA _ (lK.2 (.inl ?_));rw[UInt8.lt_iff_toNat_lt];omega
def sortL_one{l l':Pcs}(f:l'.Perm l)(g:l'.Pairwise λa b=>a<=b):sortL l=l':=by
 have d:=fV (le:=λx y:LU=>decide (x<=y)) (λa b c d e=>by
  simp only[decide_eq_true_eq]at*;exact lq d e) (λa b=>by
  simp;exact lu a b) l
 have e:(sortL l).Pairwise λa b=>a<=b:=d.imp λh=>by simpa using h
 exact dh (le:=λa b:LU=>a<=b) (λa b _ _ i j=>lZ i j) e g ((Nz l).trans f.symm)
def YY{F:Fo}{T:Tr}(d:Am F T){j a:Nat}{r b:Rw}(e:T.L[j]? =some r)(f:T.L[a]? =some b)(h:r.id=b.id):j=a:=by
 have c:(T.L.map (·.id))[j]? =some r.id:=by rw[au,e];rfl
 have g:(T.L.map (·.id))[a]? =some b.id:=by rw[au,f];rfl
 exact(nM (aA.1 c).1 d.Kr).1 (c.trans ((congrArg some h).trans g.symm))
section
variable{F:Fo}{X:Tab}{l:List Cg}{st:LdS}
def JX(g:Am F X.T)(f:KAi X){c:Cg}(h:c∈BJ X.P){i:Int}{p:LU}(a:FY i c=some p):
  ∃(j:Nat)(r:Rw)(k:Nat),X.T.L[j]? =some r/\r.id=i/\k<Fol.BG (Fol.Ad (yP X.S X.W r.id (AY X.T.L j) r.x)).length/\c.s=CO p/\p=Fol.BC (yP X.S X.W r.id (AY X.T.L j) r.x) k:=by
 rcases(GY f.toTInv0 h).2 with b|⟨j,t,d,e,b⟩|⟨j,r,m,d,e,b⟩
 ·rw[JP (by rw[b];rfl) (by decide) i]at a;cases a
 ·rw[JP (by rw[b];rfl) (by decide) i]at a;cases a
 have n:=J5 g f d;rw[Kv n e b i]at a;split at a
 ·rename_i o;cases a;exact⟨j,r,m,d,o,e,b,rfl⟩
 cases a
def load_pieces(i:Am F X.T)(f:KAi X)(d:l.Perm (BJ X.P))(h:LdI X l st){j:Nat}{r:Rw}(n:X.T.L[j]? =some r):sortL (yN st.C r.id)=Fol.pieces (yP X.S X.W r.id (AY X.T.L j) r.x):=by
 have z:=J5 i f n;have Z:=Pj z;obtain⟨R,m⟩:∃R,R=yP X.S X.W r.id (AY X.T.L j) r.x:=⟨_,rfl⟩;have o:R.id=r.id:=by rw[m];rfl
 have N:=f.inv.pi.w;rw[<- m]at z Z⊢;rw[h.c]
 have s:(Fol.pieces R).Pairwise λa b=>a<b:=by
  rw[Fol.pieces,dD];refine jr.imp_of_mem λ{a b} A t g=>piece_lt R g ?_;have:=dW.1 t;omega
 refine sortL_one ?_ (s.imp λh=>nS h);have D:(Fol.pieces R).Nodup:=s.imp λ{a b} h (e:a=b)=>kz b (by rw[e]at h;exact h);refine(fU D ?_).2 λp=>?_
 ·have G:l.Nodup:=d.nodup_iff.2 (rows_nodup N);rw[List.Nodup,List.pairwise_filterMap];refine G.imp_of_mem λ{a b} A t g p u q hq he=>g ?_;subst he;obtain⟨_,_,_,_,_,_,e1,_⟩:=JX i f (d.mem_iff.1 A) u;obtain⟨_,_,_,_,_,_,e2,_⟩:=JX i f (d.mem_iff.1 t) hq;have O:=(GY f.toTInv0 (d.mem_iff.1 A)).1;have y:=(GY f.toTInv0 (d.mem_iff.1 t)).1;rw[e1]at O;rw[e2,O]at y;have y:=Option.some.inj y;exact KE N (d.mem_iff.1 A) (d.mem_iff.1 t) (congrArg (·.1) y) (congrArg (·.2) y)
 rw[jO];constructor
 ·intro u;obtain⟨k,B,rfl⟩:=aU.1 u;have B:=dW.1 B;have H:CO (Fol.BC R k)∈DY X.T X.S X.W:=Ia.2 (.inr (.inr ⟨j,(aA.1 n).1,FC.2 ⟨r,k,n,by rw[<- m];exact z,by rw[<- m];exact B,by rw[<- m]⟩⟩));obtain⟨c,J,e⟩:=Xk i f H (by rw[DL];exact λe=>JK _ _ e.symm);exact⟨c,d.mem_iff.2 J,by rw[Kv z B e,if_pos o]⟩
 rintro⟨c,J,u⟩;obtain⟨j',r',k,K,g2,U,_,Y⟩:=JX i f (d.mem_iff.1 J) u;have M:=YY i K n g2;subst M;rw[n]at K;cases K;rw[<- m]at U Y;rw[Y];exact aU.2 ⟨k,dW.2 U,rfl⟩
def load_keys(a:Am F X.T)(b:KAi X)(o:l.Perm (BJ X.P))(h:LdI X l st)(i:Int):i∈st.C.map (·.1)↔i∈X.T.L.map (·.id):=by
 rw[h.ck];constructor
 ·rintro⟨c,d,f⟩;obtain⟨p,f⟩:=gU.1 f;obtain⟨j,r,k,s,t,_⟩:=JX a b (o.mem_iff.1 d) f;exact aU.2 ⟨r,aC s,t⟩
 intro u;obtain⟨r,w,rfl⟩:=aU.1 u;obtain⟨j,g⟩:=jA.1 w;have m:=J5 a b g;have y:=(Fol.ES m).1;have q:0<Fol.BG (Fol.Ad (yP X.S X.W r.id (AY X.T.L j) r.x)).length:=by rw[Fol.BG];omega
 have n:CO (Fol.BC (yP X.S X.W r.id (AY X.T.L j) r.x) 0)∈DY X.T X.S X.W:=Ia.2 (.inr (.inr ⟨j,(aA.1 g).1,FC.2 ⟨r,0,g,m,q,rfl⟩⟩));obtain⟨c,d,e⟩:=Xk a b n (by rw[DL];exact λe=>JK _ _ e.symm);exact⟨c,o.mem_iff.2 d,by rw[Kv m q e,if_pos (show(yP X.S X.W r.id (AY X.T.L j) r.x).id=r.id from rfl)];rfl⟩
theorem load_words(f:Am F X.T)(d:KAi X)(g:l.Perm (BJ X.P))(h:LdI X l st):st.V=X.W:=by
 refine atL_ext (λj=>?_) h.wl d.wok.last;by_cases a:Has l (FH j)
 ·exact(h.w j).1 a
 rw[(h.w j).2 a];cases e:X.W[j]? with
 |none=>rw[atL,e];rfl
 |some t=>
  rw[atL,e];refine az λi=>a ?_;have b:EZ j t∈DY X.T X.S X.W:=Ia.2 (.inr (.inl ((Fv _ _ _).2 ⟨j,t,e,λe=>i e.symm,by rw[cZ]⟩)));obtain⟨c,m,e⟩:=Xk f d b (by rw[E8];exact λe=>OG _ e.symm);exact⟨c,g.mem_iff.2 m,by rw[e,E8]⟩
def load_next(d:Am F X.T)(b:KAi X)(f:l.Perm (BJ X.P))(h:LdI X l st):max st.next 1=X.T.next:=by
 have j:=d.next;by_cases a:Has l Ew
 ·rw[h.next.1 a];omega
 rw[h.next.2 a];rcases b.head with g|⟨_,g⟩
 ·obtain⟨c,i,_,e⟩:=X5 b.toTInv0 g;exact(a ⟨c,f.mem_iff.2 i,e⟩).elim
 rw[g];rfl
def load_page(c:KAi X)(a:l.Perm (BJ X.P))(h:LdI X l st)(n:Nat):Aj st.P n=Aj X.P n:=by
 rw[h.pg n,gV];intro p b;exact DI.2 ⟨⟨(n:Int),(p.1:Int),bts p.2,false⟩,a.mem_iff.2 (NH.2 ⟨n,p,b,rfl⟩),rfl,rfl⟩
theorem load_place(a:KAi X)(b:l.Perm (BJ X.P))(h:LdI X l st)(k:BA):xP st.Q k=xP X.Q k:=by
 have d:∀p,xP st.Q k=some p↔xP X.Q k=some p:=λp=>by
  rw[h.q];constructor
  ·rintro⟨c,f,rfl,rfl⟩;exact(GY a.toTInv0 (b.mem_iff.1 f)).1
  intro g;obtain⟨i,s,j,m⟩:=a.inv.pi.at_ k p g;exact⟨⟨p.1,p.2,bts s,false⟩,b.mem_iff.2 ((Hu a.inv.pi.w).2 ⟨rfl,i,j⟩),m,rfl⟩
 cases e:xP st.Q k with
 |none=>
  cases e2:xP X.Q k with
  |none=>rfl
  |some p=>rw[(d p).2 e2]at e;cases e
 |some p=>exact((d p).1 e).symm
end
def TY{P a:List Sl.xR}(h:∀n,Aj P n=Aj a n)(p:Pl):cel P p=cel a p:=by rw[cel,cel,h]
def rows_page{P P':List Sl.xR}(h:∀n,Aj P n=Aj P' n)(hP:zg P)(hP':zg P'):BJ P=BJ P':=by
 have hp:(BJ P).Perm (BJ P'):=(fU (rows_nodup hP) (rows_nodup hP')).2 λc=>by
  rw[NH,NH];simp only[h]
 exact dh (le:=FI) (λa b _ _ h1 h2=>by
  rcases h1 with h1|⟨h1,h3⟩<;>rcases h2 with h2|⟨h2,h4⟩<;>omega) (NM hP) (NM hP') hp
def Yj{P b:List Sl.xR}(h:∀n,Aj P n=Aj b n)(a:zg b):zg P:=λL c=>by
 obtain⟨n,d⟩:=jA.1 c;have e:Aj P n=L:=by rw[Aj,d];rfl
 rw[<- e,h];exact a.page n
theorem spR_get(l:List Fol.Rec):∀(S:SM),(l.map (·.id)).Nodup->∀i,(∀r∈l,r.id=i->xm (l.foldl (λS r=>KAF S r.id (Ef r)) S) i=some (Ef r))/\(i∉l.map (·.id)->xm (l.foldl (λS r=>KAF S r.id (Ef r)) S) i=xm S i):=by
 induction l with
 |nil=>intro S _ i;exact⟨λr h=>(by cases h),λ_=>rfl⟩
 |cons x l e=>
  intro S b i;rw[aj,bH]at b;obtain⟨f,d⟩:=e (KAF S x.id (Ef x)) b.2 i;refine⟨λr c a=>?_,λa=>?_⟩
  ·rw[dP];rcases aP.1 c with rfl|c
   ·rw[d (by rw[<- a];exact b.1),JE,if_pos a.symm]
   exact f r c a
  rw[aj,aP,not_or]at a;rw[dP,d a.2,JE,if_neg a.1]
def Qu{S S':SM}(h:∀i,xm S' i=xm S i)(b:Bd):atB S' b=atB S b:=by rw[atB,atB,h]
def recP_congr{S S':SM}(h:∀i,xm S' i=xm S i)(W:Lj)(i p:Int)(x:NX):yP S' W i p x=yP S W i p x:=by rw[yP,yP,h]
def records_congr{S S':SM}(h:∀i,xm S' i=xm S i)(T:Tr)(W:Lj):BV T S' W=BV T S W:=by
 have e:∀j,GM T S' W j=GM T S W j:=λj=>by
  rw[GM,GM];split
  ·rw[recP_congr h]
  rfl
 have a:∀n,Di T S' W n=Di T S W n:=λn=>by
  rw[Di,Di,show GM T S' W=GM T S W from funext e]
 rw[BV,BV,DY,DY,a]
structure Like(X Y:Tab):Prop where
 T:Y.T=X.T
 W:Y.W=X.W
 S:∀i,xm Y.S i=xm X.S i
 P:∀n,Aj Y.P n=Aj X.P n
 Q:∀k,xP Y.Q k=xP X.Q k
def Like.rows{X Y:Tab}(h:Like X Y)(a:KAi X):BJ Y.P=BJ X.P:=rows_page h.P (Yj h.P a.inv.pi.w) a.inv.pi.w
def Like.inv{X Y:Tab}(h:Like X Y)(a:KAi X)(j:(Y.Q.map (·.1)).Nodup):KAi Y:=by
 have c:∀k,yY ⟨Y.P,Y.Q,[]⟩ k=yY ⟨X.P,X.Q,[]⟩ k:=λk=>by
  rw[yY,yY];rw[h.Q,show cel Y.P=cel X.P from funext (TY h.P)]
 refine⟨⟨h.W▸a.wok,λs d=>?_,⟨⟨Yj h.P a.inv.pi.w,λk p e=>?_,λp s e d=>?_⟩,j⟩,λk m=>?_,?_⟩,⟨⟨?_,λb g=>?_⟩,λi=>?_⟩⟩
 ·rw[h.W,h.T];exact a.names s d
 ·have e:xP Y.Q k=some p:=e;rw[h.Q]at e;obtain⟨n,s,o,q⟩:=a.inv.pi.at_ k p e;exact⟨n,s,(TY h.P p).trans o,q⟩
 ·have d:cel Y.P p=some s:=d;rw[TY h.P]at d;rw[h.Q];exact a.inv.pi.all p s e d
 ·rw[c,a.recs k m,h.T,h.W,records_congr h.S]
 ·rw[c,h.T];exact a.head
 ·rw[h.T];exact a.span.rise.lt.imp λf=>by rw[Qu h.S,Qu h.S];exact f
 ·rw[h.T]at g;rw[Qu h.S];exact a.span.rise.pos b g
 rw[h.S,h.T];exact a.span.keys i
theorem load_ok{F:Fo}{X:Tab}(o:Am F X.T)(f:KAi X)(A:X.P.length<=4096){l:List Cg}(q:l.Perm (BJ X.P)):∃st m,uT l st m F X.T/\Like X ⟨X.T,spR m,st.V,st.P,st.Q⟩/\KAi ⟨X.T,spR m,st.V,st.P,st.Q⟩:=by
 have M:l.Nodup:=q.nodup_iff.2 (rows_nodup f.inv.pi.w);obtain⟨st,y,h⟩:=RQ o f A l [] KBQ (ldI0 X) M (λx hx=>q.mem_iff.1 hx);rw[aO]at h;have B:=OY l KBQ st 0 YB y;have N:=load_words o f q h;obtain⟨t1,t2⟩:=tree_recs o f;have g:(Cf X).map (·.id)=X.T.L.map (·.id):=Ku X (·.id) (·.id) λj r _=>rfl;have s:((Cf X).map (·.id)).Nodup:=by rw[g];exact o.Kr
 have n:∀R∈Cf X,∃j r,X.T.L[j]? =some r/\R=yP X.S X.W r.id (AY X.T.L j) r.x:=λR J=>by
  obtain⟨j,K⟩:=jA.1 J;have D:j<X.T.L.length:=by rw[<- KR X];exact(aA.1 K).1
  refine⟨j,_,aB D,?_⟩;rw[Rj X (aB D)]at K;exact(Option.some.inj K).symm
 have Z:Like X ⟨X.T,spR (Cf X),st.V,st.P,st.Q⟩:=by
  refine⟨rfl,N,λi=>?_,load_page f q h,load_place f q h⟩;obtain⟨g1,g2⟩:=spR_get (Cf X) [] s i;by_cases p:i∈(Cf X).map (·.id)
  ·obtain⟨R,J,rfl⟩:=aU.1 p;obtain⟨j,r,K,e⟩:=n R J;rw[spR,g1 R J rfl];rw[g]at p;obtain⟨z,O⟩:=gU.1 ((f.span.keys _).2 p);have e1:Ef R=(xm X.S r.id).getD (0,0):=by rw[e];rfl
   have U:R.id=r.id:=by rw[e];rfl
   rw[U]at O⊢;rw[O,e1,O];rfl
  rw[spR,g2 p];rw[g]at p;cases e:xm X.S i with
  |none=>rfl
  |some z=>exact(p ((f.span.keys i).1 (by rw[e];rfl))).elim
 refine⟨st,Cf X,⟨y,N▸f.wok,?_,t2,o,N▸t1,load_next o f q h⟩,Z,Z.inv f B.w.qn⟩;obtain⟨t,G⟩:∃t,t=(Cf X).mergeSort λa b=>decide (a.id<=b.id):=⟨_,rfl⟩;have d:t.Perm (Cf X):=by rw[G];exact gW _ _
 have u:t.Pairwise λa b=>a.id<=b.id:=by
  have y:=fV (le:=λa b:Fol.Rec=>decide (a.id<=b.id)) (λa b c y h2=>by simp only[decide_eq_true_eq]at*;omega) (λa b=>by simp;omega) (Cf X);rw[G];exact y.imp λh=>by simpa using h
 have Y:(t.map (·.id)).Nodup:=(d.map _).nodup_iff.2 s;refine⟨t.map (·.id),t,?_,?_,by rw[aQ],λj i r p hr=>?_,d.symm⟩
 ·refine(d.map (·.id)).trans ?_;rw[g];exact((fU B.cn o.Kr).2 λi=>load_keys o f q h i).symm
 ·rw[dD];have:=dD.1 Y
  exact(u.and this).imp λ{a b} h=>by
   have y:=h.1;have h2:=h.2;omega
 rw[au,hr]at p;cases p;obtain⟨j',r',H,e⟩:=n r (d.mem_iff.1 (aC hr));have U:r.id=r'.id:=by rw[e];rfl
 show Fol.KCB (sortL (yN st.C r.id)) r;rw[U,load_pieces o f q h H,<- e];exact⟨by rw[e];exact J5 o f H,rfl⟩
end
noncomputable section
open Go Go.Vc Go.Nod
theorem VN{l:Lj}:∀(r W:Lj),WOk W->(∀s∈W,s≠none0->s∈l)->(∀s∈r,s∈l/\CZ s)->(GU r W).2≠0->(GU r W).2=94/\4000<l.length
 | [],W,_,_,_,h=>absurd rfl h
 |n::r,W,hW,hin,hr,h=>by
  rw[GU]at h⊢;by_cases m:KAP W n
  ·rw[if_pos m]at h⊢;exact VN r W hW hin (λs d=>hr s (.tail _ d)) h
  rw[if_neg m]at h⊢;obtain⟨A,D⟩:=hr n (.head _);by_cases e:(KAU W n).2.2≠0
  ·rw[if_pos e];refine⟨rfl,?_⟩
   have f:4000<=KDI W:=by
    rw[KAU,if_neg (not_not_intro D)]at e;split at e
    ·assumption
    exact absurd rfl e
   have o:(W.filter λs=> !decide (s=none0)).Nodup:=by
    rw[List.Nodup,dE];intro i j B F p q;obtain⟨V,N⟩:∃V,V=W.filter λs=> !decide (s=none0):=⟨_,rfl⟩;have g:(W.filter λs=> !decide (s=none0)).Sublist W:=kV
    have t:W.Pairwise λa b=>a≠none0->a≠b:=by
     rw[dE];intro a b G H J c q;have:=hW.one a b W[a] (aB G) (by rw[q];exact aB H) c;omega
    have u:=dE.1 (t.sublist g) i j B F p;have w:=dO.1 (eY B);exact u (by simpa using w.2) q
   have y:n∉W.filter λs=> !decide (s=none0):=λC=>m ⟨(dO.1 C).1,by simpa using(dO.1 C).2⟩
   have:=Gv (l':=l) (bH.2 ⟨y,o⟩) (λx z=>by
    rcases aP.1 z with rfl|z
    ·exact A
    obtain⟨u,w⟩:=dO.1 z;exact hin x u (by simpa using w))
   rw[aK]at this;rw[KDI]at f;omega
  rw[if_neg e]at h⊢;obtain⟨K,L,M⟩:=rf (az e);rw[M]at h⊢;refine VN r (KAV W n) (hW.add K m L) (λs d c=>?_) (λs d=>hr s (.tail _ d)) h;rcases(Zi c).1 d with d|rfl
  ·exact hin s d c
  exact A
def learn_bad{W l:Lj}(c:WOk W)(d:∀s∈l,CZ s)(h:(Io W l).2≠0):(Io W l).2=94/\4000<l.length:=by
 obtain⟨e,f⟩:=QH (W0:=W) W 0 W (by simp) c (λj s _ _=>qJ);refine VN l _ e (λs a b=>?_) (λs a=>⟨a,d s a⟩) h;obtain⟨k,g⟩:=bD a;exact((f k s b).1 g).2 (bZ _)
def ZC(more:Int)(l:List It)(n:Int){r:Rw}(h:r∈Ar n more l):n<=r.id:=by
 have:=Rf (eG h);exact this.1
def VY(T:Tr)(id:Int)(r:Rw):Prop:=(∃r0∈T.L,r0.id=r.id/\(r0.x=r.x\/r.id=id))\/T.next<=r.id
def XW{T:Tr}{id:Int}{r:Rw}(h:r∈T.L):VY T id r:=.inl ⟨r,h,rfl,.inl rfl⟩
def WI{T:Tr}{id:Int}{L M:List Rw}{n:Nat}(b:∀r∈L,VY T id r)(c:∀r∈M,VY T id r):∀r∈Ky L n M,VY T id r:=λr a=>by
 rw[Ky,aT,aT]at a;rcases a with(a|a)|a
 ·exact b r (dJ a)
 ·exact c r a
 exact b r (fA a)
def Rz{L:List Rw}{k:Nat}{r:Rw}(h:r∈BX L k):r∈L:=by
 rw[BX,aT]at h;rcases h with h|h
 ·exact dJ h
 exact fA h
def VE{T:Tr}{id:Int}{k:Nat}{b:Rw}(c:atR T.L id=some (k,b))(x:NX):∀r∈KAn T.L k b x,VY T id r:=λr a=>by
 obtain⟨d,e⟩:=uz c;rw[KAn]at a;rcases gG a with a|rfl
 ·exact XW a
 exact .inl ⟨b,aC d,rfl,.inr e⟩
def edit_rows(T:Tr)(o:OpP):∀r∈(T.xg o).1.L,VY T o.id r:=by
 have a:∀r∈T.L,VY T o.id r:=λr b=>XW b;rw[Tr.xg];split
 ·rw[Tr.load];split
  ·exact a
  split
  ·exact a
  exact λr b=>.inr (ZC 0 _ _ b)
 split
 ·rw[Tr.insert];split
  ·exact a
  split
  ·exact a
  split
  ·exact a
  split
  ·exact a
  split
  ·exact a
  split
  ·exact a
  exact WI a λr b=>.inr (ZC _ _ _ b)
 split
 ·rw[Tr.delete];split
  ·exact a
  split
  ·exact a
  exact λr b=>a r (Rz b)
 split
 ·rw[Tr.move];split
  ·split
   ·exact a
   split
   ·exact a
   split
   ·exact a
   split
   ·exact a
   split
   ·exact a
   split
   ·exact a
   refine WI (λr b=>a r (Rz b)) λr b=>?_;rw[Ho]at b;obtain⟨q,c,rfl⟩:=aU.1 b;rw[KBS]at c;exact .inl ⟨q,dJ (fA c),rfl,.inl rfl⟩
  exact a
 split
 ·rw[Tr.Be];split
  ·exact a
  rename_i k d e;split
  ·exact a
  split
  ·exact a
  split
  ·exact a
  split
  ·exact a
  exact VE e _
 split
 ·rw[Tr.Bj];split
  ·exact a
  rename_i k d e;split
  ·exact a
  split
  ·exact a
  exact VE e _
 split
 ·rw[Tr.Bv];split
  ·exact a
  rename_i k d e;split
  ·exact a
  split
  ·exact a
  exact VE e _
 exact a
def wt(L:Sl.xR):Nat:=(L.map λp=>2*p.2.length+45).sum
theorem xE:∀L:Sl.xR,wt L=2*Sl.tot L+45*L.length
 | []=>rfl
 |p::r=>by
  have a:=xE r;rw[wt,aj,iW,<- wt,a,Sl.Dk,aK];omega
def ains_wt{L:Sl.xR}{s:LU}(d:s.length<=907)(h:(Sl.zJ L s).2.2≠0):5387<=wt L:=by
 rw[xE];obtain⟨n,c⟩:∃n,n=Sl.ff (L.map (·.1)) 0:=⟨_,rfl⟩;have a:=Sl.xA (L.map (·.1)) 0;rw[<- c,aQ]at a;have e:Sl.zJ L s=if 120<=n then(L,0,111)else if(Sl.xY L n s).2=0 then((Sl.xY L n s).1,(n:Int),0)else(L,0,(Sl.xY L n s).2):=by rw[c];rfl
 rw[e]at h;split at h
 ·omega
 rename_i f;split at h
 ·exact absurd rfl h
 rename_i b;rw[Sl.xY,if_neg om]at b;split at b
 ·rename_i g;have:=Kt (λp=>p.1 !=(n:Int).toNat) L;have i:Sl.tot (Sl.wo L (n:Int).toNat)<=Sl.tot L:=this;omega
 exact absurd rfl b
theorem UA(P:List Sl.xR)(n m:Nat):Aj (EJ P n) m=Aj P m:=by
 rw[EJ];split
 ·rw[Aj,Aj,gy];split
  ·rfl
  rename_i h;rw[bC (l:=P) om];cases e:m-P.length with
  |zero=>rfl
  |succ k=>rfl
 rfl
theorem Y0(s:LU):∀(f n:Nat)(P:List Sl.xR),(KAS s f n P).2=none->∀m,n<=m->m<n+f->(Sl.zJ (Aj P m) s).2.2≠0
 |0,n,P,_,m,h1,h2=>by omega
 |f+1,n,P,h,m,h1,h2=>by
  rw[KAS]at h;split at h
  ·cases h
  rename_i a;rw[UA]at a;by_cases e:m=n
  ·rw[e];exact a
  have:=Y0 s f (n+1) (EJ P n) h m om om
  rwa [UA]at this
theorem Zj(c:Nat)(a:0<c):∀(N:Nat)(P:List Sl.xR),(∀n,n<N->c<=wt (Aj P n))->N*c<=(P.map wt).sum
 |0,P,_=>by rw[jV];exact bZ _
 |N+1,[],h=>by
  have:=h 0 om;rw[JF (bZ _)]at this;have e:wt []=0:=rfl;omega
 |N+1,L::r,h=>by
  have b:c<=wt L:=h 0 om;have d:=Zj c a N r λn f=>h (n+1) om;rw[aj,iW,di];omega
def wtC(c:Cg):Nat:=2*c.s.size+45
theorem rH:∀(P:List Sl.xR)(n:Nat),((FO n P).map wtC).sum=(P.map wt).sum
 | [],n=>rfl
 |R::r,n=>by
  have a:=rH r (n+1)
  have e:((Hr n R).map wtC).sum=wt R:=by
   rw[Hr,dB,wt];congr 1
  rw[FO,ai,kY,a,e,aj,iW]
theorem Zl{α:Type}(key:α->BA)(w:α->Nat):∀(l:List α)(K:List (BA×Nat)),(l.map key).Nodup->(∀c∈l,∃e∈K,e.1=key c/\w c<=e.2)->(l.map w).sum<=(K.map (·.2)).sum
 | [],K,_,_=>bZ _
 |c::l,K,hn,h=>by
  rw[aj,bH]at hn;obtain⟨e,f,g,n⟩:=h c (.head _);obtain⟨A,B,rfl⟩:=gI f
  have i:=Zl key w l (A++B) hn.2 λx b=>by
   obtain⟨j,a,d,m⟩:=h x (.tail _ b);refine⟨j,?_,d,m⟩;rw[aT,aP]at a;rw[aT];rcases a with a|a|a
   ·exact .inl a
   ·refine(hn.1 ?_).elim;rw[<- g,<- a,d];exact eG b
   exact .inr a
  simp at i⊢;omega
end
noncomputable section
open Go Go.Vc Go.Nod
theorem tX{st:WSt}{k s:BA}(h:(st.put k s).2≠0):(st.put k s).2=94/\∀n,n<4096->(Sl.zJ (Aj st.P n) s.data.toList).2.2≠0:=by
 rw[WSt.put]at h⊢;cases e:KAS s.data.toList 4096 0 st.P with
 |mk P o=>
  rw[e]at h;cases o with
  |some p=>exact absurd rfl h
  |none=>exact⟨rfl,λn a=>Y0 _ 4096 0 st.P (by rw[e]) n (bZ _) om⟩
structure Full(R:RM)(st st2:WSt):Prop where
 inv:KAj st2
 recs:∀k s,yY st2 k=some s->(∃r,xP R k=some r/\r.data.toList=s)\/yY st k=some s
 full:∃k r,xP R k=some r/\∀n,n<4096->(Sl.zJ (Aj st2.P n) r.data.toList).2.2≠0
theorem one_bad{st:WSt}(h:KAj st){R:RM}{k r:BA}(c:xP R k=some r)(a:(st.one R k).2≠0):(st.one R k).2=94/\∃d,Full R st d:=by
 rw[WSt.one]at a⊢;rw[c]at a⊢;rw[fG]at a⊢;cases e:xP st.Q k with
 |none=>
  rw[e]at a;obtain⟨f,g⟩:=tX a;exact⟨f,st,h,λk s b=>.inr b,k,r,c,g⟩
 |some p=>
  rw[e]at a;dsimp only at a⊢;split at a
  ·exact absurd rfl a
  rename_i m;split at a
  ·exact absurd rfl a
  rename_i n;rw[if_neg m,if_neg n];obtain⟨f,g⟩:=tX a;have i:Ch1 ⟨st.P,st.Q,touch st.D p⟩ (WSt.drop ⟨st.P,st.Q,touch st.D p⟩ k) k none:=Xy (st:=⟨st.P,st.Q,touch st.D p⟩) ⟨h.pi,h.qn⟩ e;refine⟨f,_,i.inv,λj s b=>.inr ?_,k,r,c,g⟩;by_cases l:j=k
  ·subst l;rw[i.x8]at b;cases b
  rw[i.xW j l]at b;exact b
theorem Yq(R:RM):∀(M:Lj)(st:WSt),KAj st->(∀k∈M,∃r,xP R k=some r/\Aa r=k)->(zh R M st).2≠0->(zh R M st).2=94/\∃a,Full R st a
 | [],st,_,_,h=>absurd rfl h
 |x::M,st,h,hin,hc=>by
  obtain⟨r,c,i⟩:=hin x (.head _);rw[zh]at hc⊢;by_cases d:(st.one R x).2≠0
  ·rw[if_pos d]at hc⊢;exact one_bad h c hc
  rw[if_neg d]at hc⊢;have e:=vM h c i (eU.1 d);obtain⟨j,a,f⟩:=Yq R M _ e.inv (λk b=>hin k (.tail _ b)) hc;refine⟨j,a,f.inv,λk s l=>?_,f.full⟩;rcases f.recs k s l with g|g
  ·exact .inl g
  by_cases b:k=x
  ·subst b;rw[e.x8]at g;exact .inl ⟨r,c,Option.some.inj g⟩
  rw[e.xW k b]at g;exact .inr g
theorem write_bad{R:RM}{st:WSt}(h:KAj st)(q:∀k r,xP R k=some r->Aa r=k)(l:(EO R st).2≠0):(EO R st).2=94/\∃a,KAj a/\(∀k s,yY a k=some s->∃r,xP R k=some r/\(r.data.toList=s\/yY st k=some s))/\∃k r,xP R k=some r/\∀n,n<4096->(Sl.zJ (Aj a.P n) r.data.toList).2.2≠0:=by
 have b:∀{k},(xP st.Q k).isSome↔k∈st.Q.map (·.1):=λ{k}=>by
  rw[kQ,ne_eq,CY,eU]
 obtain⟨K,d⟩:∃K:Lj,K=Eh (st.Q.map (·.1)):=⟨_,rfl⟩;obtain⟨M,m⟩:∃M:Lj,M=Eh (R.map (·.1)):=⟨_,rfl⟩;have t:EO R st=zh R M (Fp R K st):=by rw[d,m];rfl
 rw[t]at l⊢;have c:∀k,k∈K↔k∈st.Q.map (·.1):=λk=>by rw[d];exact Dy
 have f:∀k,k∈M↔k∈R.map (·.1):=λk=>by rw[m];exact Dy
 obtain⟨u,w,C⟩:=Oy R K st h (by rw[d];exact(Dq _).nodup_iff.2 h.qn) (λk i=>b.2 ((c k).1 i))
 obtain⟨x,a,j⟩:=Yq R M _ u (λk i=>by
  have:xP R k≠none:=λe=>CY.1 e ((f k).1 i);obtain⟨r,o⟩:=dw.1 this;exact⟨r,o,q k r o⟩) l
 refine⟨x,a,j.inv,λk s y=>?_,j.full⟩;rcases j.recs k s y with⟨r,z,A⟩|g
 ·exact⟨r,z,.inl A⟩
 rw[w]at g;split at g
 ·cases g
 rename_i B;cases e:xP R k with
 |some r=>exact⟨r,rfl,.inr g⟩
 |none=>
  refine(B ⟨(c k).2 (b.1 ?_),e⟩).elim;cases e2:xP st.Q k with
  |some p=>rfl
  |none=>rw[yY,e2]at g;cases g
def s4(l:List At):Nat:=(l.map λa=>4+a.2.size).sum
def sB(l:List At):Nat:=(l.map λa=>a.1.size+a.2.size).sum
def KAe(x:NX):Nat:=30+x.text.size+s4 x.FP
theorem attrsB_len(l:List (Int×BA)):(Fol.EQ l).length=(l.map λa=>4+a.2.size).sum:=by
 induction l with
 |nil=>rfl
 |cons p r b=>
  rw[Fol.EQ]at b;rw[Fol.EQ,bW,aF,b,aj,iW];simp only[aF,AU];have:p.2.data.toList.length=p.2.size:=by simp
  omega
def JG(S:SM)(W:Lj)(i p:Int)(x:NX):(Fol.Ad (yP S W i p x)).length=KAe x:=by
 rw[Fol.XY,attrsB_len];show 30+x.text.size+((x.FP.map λa=>(zi W a.1,a.2)).map λa=>4+a.2.size).sum=_;rw[dB];rfl
def rowB(x:NX):Nat:=x.name.size+x.text.size+sB x.FP
def VX(T:Tr):Nat:=(T.L.map λr=>rowB r.x).sum
def pcB(o:Int)(r:Rw)(k:Nat):Nat:=59+2*min 900 (KAe r.x-900*k)+if r.id=o then 1800 else 0
def Uo(o:Int)(r:Rw):List (BA×Nat):=(List.range (Fol.BG (KAe r.x))).map λk=>(bts (IG r.id k),pcB o r k)
def WS(o:Int)(L:List Rw):List (BA×Nat):=(bts Ew,55)::((List.range 4000).map λj=>(bts (FH j),171))++L.flatMap (Uo o)
theorem V6{α:Type}(c:Nat):∀l:List α,(l.map λ_=>c).sum=c*l.length
 | []=>rfl
 |x::l=>by rw[aj,iW,V6 c l,aK,Nat.mul_succ];omega
theorem ZL(o:Int)(r:Rw):∀m,((List.range m).map (pcB o r)).sum<=59*m+2*min (KAe r.x) (900*m)+m*(if r.id=o then 1800 else 0)
 |0=>by simp
 |m+1=>by
  have a:=ZL o r m;have e:(m+1)*(if r.id=o then 1800 else 0)=m*(if r.id=o then 1800 else 0)+(if r.id=o then 1800 else 0):=di _ _;rw[gQ,ai,kY,jv,List.sum_singleton,e,pcB];omega
theorem attrs4(l:List At):s4 l<=4*l.length+sB l:=by
 induction l with
 |nil=>simp[s4]
 |cons a l b=>simp only[s4,sB,aj,iW,aK]at b⊢;omega
theorem vW(o:Int):∀(L:List Rw),(∀r∈L,r.x.FP.length<=20/\KAe r.x<=30110)->900*((L.flatMap (Uo o)).map (·.2)).sum<=1859*(L.map λr=>rowB r.x).sum+257531*L.length+55080000*(L.map (·.id)).count o
 | [],_=>by simp
 |r::L,h=>by
  have l:=vW o L λx i=>h x (.tail _ i);obtain⟨n,p⟩:=h r (.head _);have c:=ZL o r (Fol.BG (KAe r.x));have q:=attrs4 r.x.FP;have g:((Uo o r).map (·.2)).sum=((List.range (Fol.BG (KAe r.x))).map (pcB o r)).sum:=by rw[Uo,dB];rfl
  have j:Fol.BG (KAe r.x)=(KAe r.x+899)/900:=rfl
  have s:KAe r.x<=110+rowB r.x:=by
   have e:KAe r.x=30+r.x.text.size+s4 r.x.FP:=rfl;have t:rowB r.x=r.x.name.size+r.x.text.size+sB r.x.FP:=rfl;omega
  obtain⟨m,d⟩:∃m,m=Fol.BG (KAe r.x):=⟨_,rfl⟩;rw[<- d]at c g j;have a:m<=34:=om;rw[bW,ai,kY,g,aj,iW,aj,ny,aK];by_cases b:r.id=o
  ·rw[if_pos b]at c;have f:(r.id==o)=true:=by simpa using b
   rw[if_pos f];have:m*1800<=34*1800:=dF _ a;omega
  rw[if_neg b]at c;have f:¬(r.id==o)=true:=by simpa using b
  rw[if_neg f];omega
def KQ{st:WSt}(h:KAj st){c:Cg}(d:c∈BJ st.P):xP st.Q (Aa c.s)=some (c.page,c.slot)/\yY st (Aa c.s)=some c.s.data.toList:=by
 obtain⟨f,e,b⟩:=(Hu h.pi.w).1 d;have a:=h.pi.all (c.page,c.slot) _ e b;rw[Bc]at a;exact⟨a,by rw[yY,a];exact b⟩
def Wp{W:Lj}(a:WOk W){j:Nat}{s:BA}(h:W[j]? =some s)(b:s≠none0):(EZ j s).size<=63:=by
 have c:=(a.ok s (aC h)).resolve_left b;have:=c.2.1;rw[EZ,D9,aK,aF,AU];have e:s.data.toList.length=s.size:=by simp
 omega
def Og(r:Fol.Rec)(k:Nat):(CO (Fol.BC r k)).size=7+min 900 ((Fol.Ad r).length-900*k):=by
 rw[CO,D9,aK,Fol.Qk];omega
def head_size(n:Int):(DX n).size=5:=by rw[DX,D9,aK,AU]
def rec_size{T:Tr}{S:SM}{W:Lj}(a:WOk W){s:BA}(h:s∈DY T S W):s.size<=907:=by
 rcases Ia.1 h with h|h|⟨j,_,h⟩
 ·rw[h,head_size];omega
 ·obtain⟨j,t,b,c,rfl⟩:=(Fv _ _ _).1 h;rw[cZ];have:=Wp a b c;omega
 obtain⟨r,k,_,_,_,rfl⟩:=FC.1 h;rw[Og];omega
theorem qj{F:Fo}{T:Tr}(p:Am F T){r:Rw}(q:r∈T.L):r.x.FP.length<=20/\KAe r.x<=30110:=by
 have f:=Dl p (yH r) (eG q);obtain⟨g,t,u⟩:=DC f;refine⟨g,?_⟩
 have w:∀(l:List At),(∀a∈l,a.2.size<=1500)->s4 l<=1504*l.length:=by
  intro l
  induction l with
  |nil=>intro _;simp[s4]
  |cons a l y=>
   intro h;have i:=h a (.head _);have j:=y λb z=>h b (.tail _ z);have e:s4 (a::l)=(4+a.2.size)+s4 l:=rfl;rw[e,aK];omega
 have c:∀{s:BA},BH s=0->s.size<=1500:=λ{s} h=>by
  rw[BH]at h;split at h
  ·cases h
  split at h
  ·cases h
  omega
 have e:KAe r.x=30+r.x.text.size+s4 r.x.FP:=rfl;rcases JO f with d|d
 ·obtain⟨m,n,o,A⟩:=t d;have i:s4 r.x.FP<=1504*r.x.FP.length:=w r.x.FP λa B=>c ((Gt _).1 A a B);have j:r.x.text.size=0:=by rw[show r.x.text=⟨#[]⟩from o];rfl
  have C:r.x.FP.length<=20:=g;omega
 obtain⟨m,n,o⟩:=u d;have i:r.x.text.size<=1500:=c n;have j:s4 r.x.FP=0:=by rw[show r.x.FP=[]from m];rfl
 omega
def full_wide{F0 F:Fo}{X:Tab}{o:OpP}{T:Tr}{S:SM}{W:Lj}(hX:TInv0 X)(d:Am F0 X.T)(hG:Am F T)(hT:T=(X.T.xg o).1)(hW:WOk W)(hc:(EO (BV T S W) ⟨X.P,X.Q,[]⟩).2≠0):(EO (BV T S W) ⟨X.P,X.Q,[]⟩).2=94/\10000000<VX T:=by
 obtain⟨w1,u,G,w3,k0,r0,w4,w5⟩:=write_bad (st:=⟨X.P,X.Q,[]⟩) hX.inv (λk r h=>(DZ _ _ _ h).2) hc;refine⟨w1,?_⟩;have am:=rec_size hW (DZ _ _ _ w4).1
 have af:4096*5387<=((BJ u.P).map wtC).sum:=by
  rw[BJ,rH];refine Zj 5387 om 4096 u.P λn hn=>ains_wt ?_ (w5 n hn);have e:r0.data.toList.length=r0.size:=by simp
  omega
 have H:∀{r:Rw},r∈T.L->r.x.FP.length<=20/\KAe r.x<=30110:=λhr=>qj hG hr
 have J:((BJ u.P).map λc=>Aa c.s).Nodup:=by
  refine dD.2 ((rows_nodup G.pi.w).imp_of_mem λ{a b} K hb aa he=>aa ?_);have C:=(KQ G K).1;have q2:=(KQ G hb).1;rw[he,q2]at C;have C:=Option.some.inj C;exact KE G.pi.w K hb (congrArg (·.1) C).symm (congrArg (·.2) C).symm
 have an:((BJ u.P).map wtC).sum<=((WS o.id T.L).map (·.2)).sum:=by
  refine Zl (λc=>Aa c.s) wtC _ _ J λc hc=>?_
  have g:∀n,c.s=DX n->∃e∈WS o.id T.L,e.1=Aa c.s/\wtC c<=e.2:=λn h=>by
   refine⟨_,aS _ (.head _),by rw[h,Gi],?_⟩;rw[wtC,h,head_size];show 2*5+45<=55;omega
  have l:∀{V:Lj}{j:Nat}{t:BA},WOk V->V[j]? =some t->t≠none0->c.s=EZ j t->∃e∈WS o.id T.L,e.1=Aa c.s/\wtC c<=e.2:=λ{V j t} hV h1 h2 h=>by
   have hj:=(aA.1 h1).1;have:=hV.len;refine⟨_,aS _ (.tail _ (aU.2 ⟨j,dW.2 om,rfl⟩)),by rw[h,E8],?_⟩;have:=Wp hV h1 h2;rw[wtC,h];show 2*(EZ j t).size+45<=171;omega
  have p:∀{r:Rw}{k z:Nat},r∈T.L->k<Fol.BG (KAe r.x)->Aa c.s=bts (IG r.id k)->c.s.size=7+min 900 (z-900*k)->(z=KAe r.x\/r.id=o.id)->∃e∈WS o.id T.L,e.1=Aa c.s/\wtC c<=e.2:=λ{r k z} h1 h2 h3 h4 M=>by
   refine⟨(bts (IG r.id k),pcB o.id r k),aI _ (fH.2 ⟨r,h1,aU.2 ⟨k,dW.2 h2,rfl⟩⟩),h3.symm,?_⟩;rw[wtC,h4,pcB];rcases M with M|M
   ·rw[M];omega
   rw[if_pos M];omega
  obtain⟨C,q2⟩:=KQ G hc;obtain⟨r',ab,ac⟩:=w3 _ _ q2;obtain⟨n1,y⟩:=DZ _ _ _ ab;rcases ac with hn|ho
  ·have he:c.s=r':=by rw[<- Bc c.s,<- Bc r',hn]
   rw[<- he]at n1;rcases Ia.1 n1 with h|h|⟨j,_,h⟩
   ·exact g _ h
   ·obtain⟨j,t,N,D,q⟩:=(Fv _ _ _).1 h;rw[cZ]at q;exact l hW N D q
   obtain⟨r,k,N,D,q,g4⟩:=FC.1 h;rw[JG]at q;exact p (aC N) q (by rw[g4,DL];rfl) (by rw[g4,Og,JG]) (.inl rfl)
  obtain⟨c0,ad,e0,_⟩:=X5 hX ho;rw[Bc]at e0;rcases(GY hX ad).2 with A|⟨j,t,O,j2,A⟩|⟨j,r,m,O,j2,A⟩
  ·exact g _ (e0▸A)
  ·exact l hX.wok O j2 (e0▸A)
  rw[e0]at A;have K:Aa c.s=bts (IG r.id m):=by rw[A,DL];rfl
  rw[K]at y;have B:=aC O
  have ag:Fol.BG (KAe r.x)<=34:=by
   have:=(qj d B).2;unfold Fol.BG;omega
  rw[JG]at j2;have ao:=YN d B;rcases Ia.1 n1 with h|h|⟨j',_,h⟩
  ·rw[h,Gi]at y;exact(JK _ _ y).elim
  ·obtain⟨j',t,_,_,q⟩:=(Fv _ _ _).1 h;rw[q,E8]at y;exact(RI _ _ _ y).elim
  obtain⟨r1,k,N,D,q,g4⟩:=FC.1 h;have R:=Pj D;rw[JG]at q R;rw[g4,DL]at y;have g5:=D.1;have g6:=D.2.1;have U:=aC N;obtain⟨e1,e2⟩:=Oa ⟨om,om⟩ ⟨om,om⟩ om om (GN y);have e1:r1.id=r.id:=e1;subst e2;refine p (r:=r1) (z:=KAe r.x) U q (by rw[K,e1]) (by rw[A,Og,JG]) ?_;rcases edit_rows X.T o r1 (by rw[<- hT];exact U)with⟨r2,f1,f2,Y⟩|f
  ·obtain⟨i,hi⟩:=jA.1 f1;have ae:=YY d hi O (f2.trans e1);subst ae;rw[O]at hi;cases hi;rcases Y with Y|Y
   ·exact .inl (by rw[Y])
   exact .inr Y
  exfalso
  have Z:r.id∈ids F0:=by
   rw[<- BK F0 0,d.fl];exact eG B
  have:=(d.pos _ Z).2;omega
 have ap:=vW o.id T.L λr hr=>H hr;have ah:(T.L.map (·.id)).count o.id<=1:=List.nodup_iff_count.1 hG.Kr _;have ak:=hG.len
 have al:((WS o.id T.L).map (·.2)).sum=55+171*4000+((T.L.flatMap (Uo o.id)).map (·.2)).sum:=by
  rw[WS,aH,aj,iW,ai,kY,dB];have e:((λx:BA×Nat=>x.2)∘λj:Nat=>(bts (FH j),171))=λ_=>171:=rfl;rw[e,V6,fZ];omega
 have hb:VX T=(T.L.map λr=>rowB r.x).sum:=rfl;omega
end
end Go.Proofs.YtljenkbpnioipaaGreat
namespace Go.Vc
open Go
def Calls.ex{P:Program}{f:FuncId}{args:Array Value}{w:Wq}{R:EW}(h:Calls P f args w R):∃e w',R e w':=by
 obtain⟨e,w',_,a,_⟩:=h [];exact⟨e,w',a⟩
end Go.Vc
namespace Go.Proofs.YtljenkbpnioipaaGreat
noncomputable section
open Go Go.Vc Go.Nod
def LQ{f:Nq}{b:Nat}{X:Tab}{w:Wq}(h:(xu f b X).ok w):∃F,Am F X.T:=by
 obtain⟨L,⟨z,e,g,i,a,j,_,c,rfl⟩,H,_⟩:=(BU h:Hp f w w [xu f b X]).unpack;obtain⟨F,_,_,d,_⟩:=FD (H.ok (AV a z.tb X.T) m1);exact⟨F,d⟩
def edit_good{f:Nq}{b:Nat}{X:Tab}{w:Wq}(h:(xu f b X).ok w)(o:OpP)(c:OA)(n lc:Nat)(ss:List Sl3)(i:CW f w c n o.l ss)(a:n<=140737488355328)(j:o.text.size<=maxLen):∃F,Am F (X.T.xg o).1:=by
 obtain⟨L,⟨z,s,t,u,d,x,_,m,rfl⟩,H,_⟩:=(BU h:Hp f w w [xu f b X]).unpack;have g:CW d w c n o.l ss:=i.go H λk p=>BD.2 ⟨AV d z.tb X.T,.tail _ (.head _),p⟩;obtain⟨e,y,A,_,q⟩:=Calls.ex (UY (H.ok (AV d z.tb X.T) m1) o c n lc ss g a j);obtain⟨F,_,_,r,_⟩:=FD (q.ok _ (.head _));exact⟨F,r⟩
def YV(T:Tr):Prop:=4000<(uniq ((T.L.map yH).flatMap EG)).length\/10000000<VX T
def do_cases{l F:Fo}{X:Tab}{o:OpP}(e:TInv0 X)(f:Am l X.T)(g:Am F (X.T.xg o).1):
  ((X.T.xg o).2.2≠0/\doP X o=(X,0,[],(X.T.xg o).2.2))\/((X.T.xg o).2.2=0/\doP X o=(X,0,[],94)/\YV (X.T.xg o).1)\/
  ((X.T.xg o).2.2=0/\(doP X o).2.2.2=0/\(doP X o).1.T=(X.T.xg o).1/\(doP X o).2.1=(X.T.xg o).2.1):=by
 by_cases b:(X.T.xg o).2.2≠0
 ·exact .inl ⟨b,by rw[doP,if_pos b]⟩
 have a:=eU.1 b;by_cases c:(X.words (X.T.xg o).1).2≠0
 ·obtain⟨h,d⟩:=learn_bad e.wok (λs i=>P5 g i) c;refine .inr (.inl ⟨a,?_,.inl ?_⟩)
  ·rw[doP,if_neg b,if_pos c,show(X.words (X.T.xg o).1).2=94 from h]
  rw[FM,Il]at d;exact d
 have m:=(Yh e.wok (λs i=>Vl (P5 g i)) (eU.1 c)).1;by_cases j:(X.wr (X.T.xg o).1 o).2≠0
 ·obtain⟨h,d⟩:=full_wide e f g rfl m j;refine .inr (.inl ⟨a,?_,.inr d⟩);rw[doP,if_neg b,if_neg c,if_pos j,show(X.wr (X.T.xg o).1 o).2=94 from h]
 refine .inr (.inr ⟨a,?_,?_,?_⟩)<;>rw[doP,if_neg b,if_neg c,if_neg j]
def Dw(l:List Cg)(c:Cg):List Cg:=l.filter λx=>decide (x.page≠c.page\/x.slot≠c.slot)
def JA(a b:Cg):Prop:=if a.page≠b.page then a.page<b.page else a.slot<b.slot
instance (a b:Cg):Decidable (JA a b):=by unfold JA;infer_instance
def FX(c:Cg):List Cg->List Cg
 | []=>[c]
 |x::r=>if JA c x then c::x::r else x::FX c r
def PG(l:List Cg)(c:Cg):List Cg:=if c.gone then Dw l c else FX c (Dw l c)
def Ci(l more:List Cg):List Cg:=more.foldl PG l
def Ux{a b:Cg}:JA a b↔FI a b:=by
 unfold JA FI;split<;>omega
structure QB(l:List Cg)(v:Pl->Option BA):Prop where
 up:l.Pairwise FI
 mem:∀c,c∈l↔c.gone=false/\0<=c.page/\v (c.page,c.slot)=some c.s
def QB.one{l l':List Cg}{v:Pl->Option BA}(h:QB l v)(d:QB l' v):l=l':=by
 have i:∀{l:List Cg},l.Pairwise FI->l.Nodup:=λh=>h.imp λ{a b} e j=>by
  subst j;rcases e with h|⟨_,h⟩<;>omega
 have m:l.Perm l':=(fU (i h.up) (i d.up)).2 λc=>by rw[h.mem,d.mem]
 exact dh (le:=FI) (λa b _ _ f g=>by
  rcases f with f|⟨f,n⟩<;>rcases g with g|⟨g,o⟩<;>omega) h.up d.up m
theorem VG{P:List Sl.xR}(a:zg P):QB (BJ P) λq=>(cel P q).map bts:=by
 refine⟨NM a,λc=>?_⟩;rw[Hu a]
 have:∀o:Option (List UInt8),o=some c.s.data.toList↔o.map bts=some c.s:=λo=>by
  cases o with
  |none=>simp
  |some l=>
   rw[dG,Option.some.injEq,Option.some.injEq];constructor
   ·intro h;rw[h,Bc]
   intro h;rw[<- h];rfl
 rw[this]
theorem VM{c x:Cg}:∀{l:List Cg},x∈FX c l↔x=c\/x∈l
 | []=>by simp[FX]
 |y::r=>by
  rw[FX];split
  ·rw[aP]
  rw[aP,VM,aP];constructor
  ·rintro(h|h|h)
   ·exact .inr (.inl h)
   ·exact .inl h
   exact .inr (.inr h)
  rintro(h|h|h)
  ·exact .inr (.inl h)
  ·exact .inl h
  exact .inr (.inr h)
theorem rV{c:Cg}:∀{l:List Cg},l.Pairwise FI->(∀x∈l,x.page≠c.page\/x.slot≠c.slot)->(FX c l).Pairwise FI
 | [],_,_=>.cons (λx h=>(by cases h)) .nil
 |y::r,h,hn=>by
  obtain⟨e,f⟩:=bF.1 h;rw[FX];split
  ·rename_i b;rw[Ux]at b;refine bF.2 ⟨λx a=>?_,h⟩;rcases aP.1 a with rfl|a
   ·exact b
   have:=e x a;unfold FI at b this⊢;omega
  rename_i b;rw[Ux]at b;have g:=hn y (.head _);have d:FI y c:=by unfold FI at b⊢;omega
  refine bF.2 ⟨λx a=>?_,rV f λx a=>hn x (.tail _ a)⟩;rcases VM.1 a with rfl|a
  ·exact d
  exact e x a
open Classical in
theorem shows_over{l:List Cg}{v:Pl->Option BA}(h:QB l v)(c:Cg)(g:0<=c.page):QB (PG l c) λq=>if q=(c.page,c.slot)then(if c.gone then none else some c.s)else v q:=by
 have f:∀x,x∈Dw l c↔x∈l/\(x.page≠c.page\/x.slot≠c.slot):=λx=>by rw[Dw,dO,decide_eq_true_eq]
 have d:∀x:Cg,((x.page,x.slot):Pl)=(c.page,c.slot)↔x.page=c.page/\x.slot=c.slot:=λx=>by rw[Prod.mk.injEq]
 have b:(Dw l c).Pairwise FI:=h.up.filter _;rw[PG];cases hg:c.gone with
 |true=>
  rw[if_pos rfl];refine⟨b,λx=>?_⟩;rw[f,h.mem];by_cases e:((x.page,x.slot):Pl)=(c.page,c.slot)
  ·rw[if_pos e,if_pos rfl];have:=(d x).1 e;constructor
   ·rintro⟨_,a⟩;omega
   rintro⟨_,_,a⟩;cases a
  rw[if_neg e]
  have:x.page≠c.page\/x.slot≠c.slot:=by
   rw[d]at e;omega
  exact⟨λa=>a.1,λa=>⟨a,this⟩⟩
 |false=>
  rw[if_neg (by decide)];refine⟨rV b λx i=>((f x).1 i).2,λx=>?_⟩;rw[VM,f,h.mem];by_cases e:((x.page,x.slot):Pl)=(c.page,c.slot)
  ·rw[if_pos e,if_neg (by decide)];have j:=(d x).1 e;constructor
   ·rintro(rfl|⟨_,a⟩)
    ·exact⟨hg,g,rfl⟩
    omega
   rintro⟨m,a,n⟩;left;obtain⟨_,_,_,_⟩:=x;obtain⟨_,_,_,_⟩:=c
   simp_all
  rw[if_neg e]
  have:x.page≠c.page\/x.slot≠c.slot:=by
   rw[d]at e;omega
  constructor
  ·rintro(rfl|a)
   ·omega
   exact a.1
  intro a;exact .inr ⟨a,this⟩
theorem Xg:∀(cs:List Cg){l:List Cg}{v f:Pl->Option BA},QB l v->(cs.Pairwise λa b=>¬(a.page=b.page/\a.slot=b.slot))->(∀c∈cs,0<=c.page/\f (c.page,c.slot)=if c.gone then none else some c.s)->(∀q,0<=q.1->(∀c∈cs,q≠(c.page,c.slot))->f q=v q)->QB (Ci l cs) f
 | [],l,v,f,h,_,_,h2=>⟨h.up,λc=>by
  show c∈l↔_;rw[h.mem];constructor
  ·rintro⟨a,b,d⟩;exact⟨a,b,by rw[h2 (c.page,c.slot) b (λc i=>by cases i)];exact d⟩
  rintro⟨a,b,d⟩;exact⟨a,b,by rw[<- h2 (c.page,c.slot) b (λc i=>by cases i)];exact d⟩⟩
 |c::cs,l,v,f,h,hp,h1,h2=>by
  obtain⟨r,m⟩:=bF.1 hp;obtain⟨n,o⟩:=h1 c (.head _);refine Xg cs (shows_over h c n) m (λd g=>h1 d (.tail _ g)) λq p j=>?_;by_cases e:q=(c.page,c.slot)
  ·rw[if_pos e,e];exact o
  rw[if_neg e];refine h2 q p λd g=>?_;rcases aP.1 g with rfl|g
  ·exact e
  exact j d g
def Um{P a:List Sl.xR}{D:DM}{c:Cg}(h:c∈CJ P a D):(c.page,c.slot)∈D.map (·.1)/\Dj P a (c.page,c.slot)=some c:=by
 rw[CJ,(FZ _).mem_iff,jO]at h;obtain⟨p,d,b⟩:=h;obtain⟨e,f⟩:=Hz b;have:p=(c.page,c.slot):=by rw[e,f]
 rw[<- this];exact⟨d,b⟩
def Ko{P a:List Sl.xR}{D:DM}(b:∀e∈D,0<=e.1.1/\e.1.1<4096/\0<=e.1.2/\e.1.2<120):∀c∈CJ P a D,InS c:=λc d=>by
 obtain⟨e,f,h⟩:=aU.1 (Um d).1;have:=b e f;rw[h]at this;exact this
def Ou{P c:List Sl.xR}{D:DM}(d:∀e∈D,0<=e.1.1/\e.1.1<4096/\0<=e.1.2/\e.1.2<120)(i:(D.map (·.1)).Nodup):(CJ P c D).Pairwise FI:=by
 have j:(CJ P c D).Pairwise λa b=>CU a<=CU b:=VC _
 have l:(CJ P c D).Pairwise λa b=>CU a≠CU b:=by
  have f:((D.map (·.1)).filterMap (Dj P c)).Pairwise λa b=>CU a≠CU b:=Oe i λp f=>by
   obtain⟨e,g,rfl⟩:=aU.1 f;exact⟨(d e g).2.2.1,(d e g).2.2.2⟩
  exact(FZ _).symm.pairwise f (λ{a b} h e=>h e.symm)
 refine(j.and l).imp_of_mem λ{a b} m n h=>?_;obtain⟨_,_,r,s⟩:=Ko d a m;obtain⟨_,_,t,u⟩:=Ko d b n;have o:=h.1;have q:=h.2;rw[CU,CU]at o q;unfold FI;omega
theorem changed_ok{P d:List Sl.xR}{D:DM}(r:zg P)(i:zg d)(n:∀e∈D,0<=e.1.1/\e.1.1<4096/\0<=e.1.2/\e.1.2<120)(u:(D.map (·.1)).Nodup)(w:∀q:Pl,xP D q=none->0<=q.1->cel d q=cel P q):Ci (BJ P) (CJ P d D)=BJ d:=by
 refine(Xg _ (VG r) ?_ ?_ ?_:QB _ λq=>(cel d q).map bts).one (VG i)
 ·refine(Ou n u).imp λ{a b} h=>?_;unfold FI at h;omega
 ·intro c o;refine⟨(Ko n c o).1,?_⟩;have h:=(Um o).2;rw[Dj]at h;split at h
  ·have h:=Option.some.inj h;rw[<- h];rw[KBP,VO];cases e:cel d (c.page,c.slot)with
   |none=>rfl
   |some s=>rfl
  cases h
 intro q x j;by_cases p:xP D q=none
 ·rw[w q p x]
 have y:q∈D.map (·.1):=az λl=>p (CY.2 l);cases e:Dj P d q with
 |some c=>
  obtain⟨g,f⟩:=Hz e
  have m:c∈CJ P d D:=by
   rw[CJ,(FZ _).mem_iff,jO];exact⟨q,y,e⟩
  exact(j c m (by rw[g,f])).elim
 |none=>
  rw[Dj]at e;split at e
  ·cases e
  rename_i h;have h:=eU.1 h;rw[KBP,KBP,VO,VO]at h;cases g:cel P q with
  |none=>
   cases f:cel d q with
   |none=>rfl
   |some s=>rw[g,f]at h;cases h.2
  |some s=>
   cases f:cel d q with
   |none=>rw[g,f]at h;cases h.2
   |some t=>
    rw[g,f]at h;exact congrArg some h.1.symm
def do_changed{F:Fo}{X:Tab}{o:OpP}(i:TInv0 X)(j:Vs X)(g:Am F (doP X o).1.T):(doP X o).2.2.1.Pairwise FI/\(∀c∈(doP X o).2.2.1,InS c)/\Ci (BJ X.P) (doP X o).2.2.1=BJ (doP X o).1.P:=by
 by_cases b:(doP X o).2.2.2=0
 ·have a:=(uQ i g b).1;have x:=b;rw[doP]at b g a⊢;split at b
  ·rename_i h;exact absurd b h
  rename_i l;split at b
  ·rename_i h;exact absurd b h
  rename_i m;split at b
  ·rename_i h;exact absurd b h
  rename_i n;rw[if_neg l,if_neg m,if_neg n]at a g⊢;obtain⟨T,y⟩:∃T,T=(X.T.xg o).1:=⟨_,rfl⟩;rw[<- y]at a g n⊢;obtain⟨t,z,u⟩:=Zd (R:=BV T (X.spans T o) (X.words T).1) i.inv (λk r h=>(DZ _ _ _ h).2) (eU.1 n);have f:=ZP j.st (Ry T (X.spans T o) (X.words T).1);have p:EO (BV T (X.spans T o) (X.words T).1) ⟨X.P,X.Q,[]⟩=X.wr T o:=rfl;rw[p]at t z u f;have G:=f.len
  have s:∀e∈(X.wr T o).1.D,0<=e.1.1/\e.1.1<4096/\0<=e.1.2/\e.1.2<120:=λe A=>by
   have:=f.d e A;exact⟨this.2.2.1,om,this.2.2.2.2⟩
  exact⟨Ou s f.dn,Ko s,changed_ok i.inv.pi.w t.pi.w s f.dn λq l m=>(u q l).2 m⟩
 obtain⟨B,H,C⟩:=Zx b;rw[B,C];exact⟨.nil,λc h=>(by cases h),rfl⟩
end
noncomputable section
open Go Go.Vc Go.Nod
structure NOp where
 o:OpP
 a:OA
 c:Nat
 ss:List Sl3
def KBu(q:NOp):LV:=opC q.o q.a q.o.l.length q.c
def O4(os:List NOp):LV:=os.flatMap KBu
theorem nopsC_len(a:List NOp):(O4 a).length=a.length*7:=by
 induction a with
 |nil=>rfl
 |cons o r b=>rw[O4,bW,aF,<- O4,b,aK];show 7+_=_;omega
theorem YO:∀{a:List NOp}{k:Nat}{q:NOp},a[k]? =some q->((O4 a).drop (k*7)).take 7=KBu q
 |x::r,0,q,h=>by
  simp at h;subst h;rw[O4,bW,jV,fF];exact iM rfl
 |x::r,k+1,q,h=>by
  rw[bI]at h;rw[O4,bW,di,iG,<- dS,kX (by rfl)];exact YO h
structure KCg(w:Wq)(sa:OA)(os:List NOp):Prop where
 cells:Cells w sa (O4 os)
 it:∀q∈os,CW [] w q.a q.o.l.length q.o.l q.ss
 len:os.length<=140737488355328
 lens:∀q∈os,q.o.l.length<=140737488355328
 txt:∀q∈os,q.o.text.size<=maxLen
def ZK:Agg PP 36 7:=DN (by kernel_rfl)
def wX:Agg PP 79 4:=DN (by kernel_rfl)
def wV:Elt PP 37 79 4 40:=DU (by kernel_rfl)
def wu:PP.underlying 37=some (.slice 79):=by kernel_rfl
def mSI:Scl PP 34:=BQ (by kernel_rfl)
def KCg.ld{w w':Wq}{e:OA}{c:List NOp}(h:KCg w e c)(g:Chg [] w w'){k:Nat}{q:NOp}(f:c[k]? =some q):∃b,e=some b/\Ld PP 36 w' (b.add (k*7)) (.agg (KBu q).toArray):=by
 have i:=(aA.1 f).1;have d:0<(O4 c).length:=by rw[nopsC_len];omega
 obtain⟨b,a,_⟩:=h.cells 0 _ (aB d);exact⟨b,a,(h.cells.chg g (by simp)).ldA ZK a (YO f) rfl⟩
def KDs(os:List NOp):Nat:=(os.map λq=>q.o.l.length).sum
structure FewN(os:List NOp):Prop where
 len:os.length<=50
 sum:KDs os<=1200
def sumN_snoc(a:List NOp)(q:NOp):KDs (a++[q])=KDs a+q.o.l.length:=by simp[KDs]
theorem rG:∀(a:List NOp),(∀q∈a,q.o.l.length<=140737488355328)->KDs a<=a.length*140737488355328
 | [],_=>by simp[KDs]
 |o::r,h=>by
  have b:=rG r λq c=>h q (.tail _ c);have:=h o (.head _);simp only[KDs,aj,iW,aK]at b⊢;omega
def ZN(u:OA)(z:Nat)(a:List NOp){w0 w:Wq}(j:KCg w0 u a)(A:Chg [] w0 w):
  CP 11 #[.slice u a.length z] w λe w'=>∃b:Bool,e=Ej (.bool b)/\(b=true->FewN a)/\Hp [] w w' []:=by
 apply Jar;have B:=j.len;refine xI.mk (λm (s:Int×Int) w'=>∃(k:Nat)(n:Int),m=a.length-k/\k<=a.length/\s=(n,(k:Int))/\(k<=60->n=(KDs (a.take k):Int))/\Hp [] w w' []) a.length ⟨0,0,rfl,om,rfl,λ_=>rfl,Hp.start w⟩ ?_;rintro m s K next ⟨k,n,rfl,L,rfl,c,H⟩ d
 refine AB (λx=>?_) (λx=>?_)
 ·have f:k<a.length:=om;obtain⟨q,i⟩:∃q,a[k]? =some q:=⟨_,aB f⟩;obtain⟨M,l,o⟩:=j.ld (A.trans H.chg (by simp) (by simp)) i;have p:a.take (k+1)=a.take k++[q]:=by rw[aG f,(aA.1 i).2]
  refine AA l ⟨⟨om,x⟩,_,_,_,_,_,_,_,_,_,o,?_⟩;intro b N C;have D:=H.nw C;refine Hp.stA D EQ4 ZK rfl rfl (by simp) rfl λO y=>?_;refine⟨_,_,_,y.lo mSI,?_⟩;have r:IntKind.i64.wrap ((k:Int)+1)=((k+1:Nat):Int):=by rw[Ig om];rfl
  refine d (a.length-(k+1)) _ _ om ⟨k+1,_,rfl,om,by rw[r],λF=>?_,y.done⟩;have g:=rG (a.take (k+1)) λq i=>j.lens q (dJ i);rw[aJ]at g;have:min (k+1) a.length<=60:=om;have:min (k+1) a.length*140737488355328<=60*140737488355328:=dF _ this;rw[p,sumN_snoc]at g⊢;rw[c om,Ig om];omega
 have t:k=a.length:=om;subst t;rw[bJ]at c;refine AB (λG=>⟨_,rfl,λJ=>?_,H⟩) (λG=>⟨false,rfl,λh=>(by cases h),H⟩);rw[decide_eq_true_eq]at J;have:=c om;exact⟨om,om⟩
def own_spec(o:OpP)(a:OA)(n lc:Nat)(w:Wq):CP 20 #[.agg (opC o a n lc).toArray] w λe w'=>e=Ej (.agg (opC o a n lc).toArray)/\Hp [] w w' []:=by
 apply Jc5;intro b g c h i d;have H:=((Hp.start w).nw c).nw d;have j:∀{x:Asn}{L:List Asn},Asn.blk b (opC o a n lc) 36∈x::(Asn.blk b (opC o a n lc) 36::L):=.tail _ (.head _);refine⟨o.kind,H.lo xK,o.id,H.lo xK,o.to,H.lo xK,o.at_,H.lo xK,o.name,H.lo xx,o.text,H.lo xx,a,n,lc,H.lo mSI,?_⟩;refine Hp.stA H EQ4 wM rfl rfl (by simp) rfl λl f=>?_;exact⟨_,_,_,_,_,_,_,_,_,f.loA wM,rfl,f.done⟩
def Gh(q:OA)(lc:Nat)(l:List Cg)(w:Wq)(O:l.length<=1000000)(A:Cells w q (xy l)):
  CP 16 #[.slice q l.length lc] w λe w'=>∃a c,e=Ej (.slice a l.length c)/\Hp [] w w' [.own 79 4 a l.length c (xy l)]:=by
 apply Jdb;refine xI.mk (λm s w'=>∃(k:Nat)(a:OA)(c:Nat)(X:List Asn),m=l.length-k/\k<=l.length/\s=((a,k,c),(k:Int))/\Hp [] w w' (.own 79 4 a k c (xy (l.take k))::X)) l.length ⟨0,none,0,[],rfl,om,rfl,(Hp.start w).yS 79 4⟩ ?_;rintro m s R next ⟨k,a,c,X,rfl,T,rfl,H⟩ d
 dsimp only;refine AB (λr=>?_) (λr=>?_)
 ·have f:k<l.length:=om;obtain⟨x,t⟩:∃x,l[k]? =some x:=⟨_,aB f⟩;have i:l.take (k+1)=l.take k++[x]:=by rw[aG f,(aA.1 t).2]
  have h:=A.chg H.chg (by simp);have j:0<(xy l).length:=by rw[MI];omega
  obtain⟨U,g,_⟩:=h 0 _ (aB j);refine AA g ⟨⟨om,r⟩,x.page,x.slot,x.s,x.gone,h.ldA KDn g (NF t) rfl,λb Y n=>?_⟩;have B:=H.nw n;refine Hp.sA B KDn (cs':=cgC x) λZ u=>?_;refine⟨x.page,x.slot,x.s,x.gone,u.loA KDn,λy C o=>?_⟩;have D:=u.new (cs:=cgC x) EQ4 o
  have z:Hp [] w C (.own 79 4 a k c (xy (l.take k))::.blk y (cgC x) 79::(.blk b (cgC x) 55::X)):=D.perm (by
   refine AL λff gg F h G J=>?_;simp only[G,h,F];omega)
  refine Hp.app wV om z EQ4 (Blk.src (P:=PP) wu (z.blk m1) rfl rfl) (by simp only[maxLen];omega) om ?_;intro K M w5 N;refine⟨iR,d (l.length-(k+1)) _ _ om ⟨k+1,K,M,.blk y (cgC x) 79::.blk b (cgC x) 55::X,rfl,om,rfl,?_⟩⟩;rw[i,NG];exact N
 have p:k=l.length:=om;subst p;rw[bJ]at H;exact⟨a,c,rfl,Hp.BM (L:=[_]) H⟩
instance:DecidableEq Cg:=λa b=>decidable_of_iff (a.page=b.page/\a.slot=b.slot/\a.s=b.s/\a.gone=b.gone) ⟨λh=>by
 obtain⟨a1,a2,a3,a4⟩:=a
 obtain⟨b1,b2,b3,b4⟩:=b
 dsimp only at h
 rw[h.1,h.2.1,h.2.2.1,h.2.2.2],λh=>by subst h;exact⟨rfl,rfl,rfl,rfl⟩⟩
def flatCh:Uy PP 79 [(0,iI),(1,iI),(2,.inr 1),(3,.inr 0)]:=Go.Vc.Sz (by kernel_rfl)
def eq_ch(a b:Cg):eqL [(0,iI),(1,iI),(2,.inr 1),(3,.inr 0)] (cgC a) (cgC b)=decide (a=b):=by
 obtain⟨c,d,e,f⟩:=a;obtain⟨g,h,i,j⟩:=b;rw[iD];simp[eqL,sEq,KFN,cgC]
def PT{w:Wq}{d:OA}{l:List Cg}(h:Cells w d (xy l)){k:Nat}{x:Cg}(e:l[k]? =some x):∃b,d=some b/\Ld PP 79 w (b.add (k*4)) (.agg (cgC x).toArray):=by
 have f:=(aA.1 e).1;have c:0<(xy l).length:=by rw[MI];omega
 obtain⟨b,a,_⟩:=h 0 _ (aB c);exact⟨b,a,h.ldA wX a (NF e) rfl⟩
def UC(n:OA)(p:Nat)(xs:List Cg)(o:OA)(q:Nat)(ys:List Cg)(B:xs.length<=100000000)(w:Wq)(r:Cells w n (xy xs))(t:Cells w o (xy ys)):
  CP 21 #[.slice n xs.length p,.slice o ys.length q] w λe w'=>e=Ej (.bool (decide (xs=ys)))/\Hp [] w w' []:=by
 apply Jei;refine AQ (λh=>?_) (λh=>?_)
 ·have:¬xs=ys:=λe=>h (by rw[e]);rw[decide_eq_false this];exact⟨rfl,Hp.start w⟩
 have c:xs.length=ys.length:=om;refine xI.mk (λm s w'=>∃k:Nat,m=xs.length-k/\k<=xs.length/\s=(k:Int)/\xs.take k=ys.take k/\Hp [] w w' []) xs.length ⟨0,rfl,om,rfl,by simp,Hp.start w⟩ ?_;rintro m s C next ⟨k,rfl,D,rfl,a,H⟩ b
 refine AB (λu=>?_) (λu=>?_)
 ·have d:k<xs.length:=om;have f:k<ys.length:=om;obtain⟨F,i,x⟩:=PT (r.chg H.drew.chg (by simp)) (aB d);obtain⟨y,g,z⟩:=PT (t.chg H.drew.chg (by simp)) (aB f);refine AA i ⟨⟨om,om⟩,_,_,_,_,x,AA g ⟨⟨om,om⟩,_,_,_,_,z,?_⟩⟩;have A:=eq_ch xs[k] ys[k];refine⟨!decide (xs[k]=ys[k]),YC (xs:=cgC xs[k]) (ys:=cgC ys[k]) flatCh rfl rfl (by rw[A]),AQ (λj=>?_) (λj=>?_)⟩
  ·have:¬xs=ys:=λe=>j (by simp only[e]);rw[decide_eq_false this];exact⟨rfl,H.drew⟩
  refine⟨iR,b (xs.length-(k+1)) _ _ om ⟨k+1,rfl,om,om,?_,H.drew⟩⟩;rw[aG d,aG f,a,j]
 have l:k=xs.length:=om;subst l;rw[bJ,c,bJ]at a;rw[decide_eq_true a];exact⟨rfl,H⟩
end
noncomputable section
open Go Go.Vc Go.Nod
def KAb:It:=⟨0,{kind:=1,name:=⟨#[97]⟩,text:=⟨#[]⟩,FP:=[]}⟩
def KBq:It:=⟨1,{kind:=2,name:=⟨#[]⟩,text:=⟨#[120]⟩,FP:=[]}⟩
def KAM:List It:=[KAb,KBq]
def KDK:OpP:=⟨0,0,0,0,⟨#[]⟩,⟨#[]⟩,KAM⟩
def XC{b:UInt8}{c:Int}(a:CS c)(e:yD c=[b]):Hm [b] [c]:=⟨λd f=>by rw[aW.1 f];exact a,by simp[e]⟩
def UT:CZ ⟨#[97]⟩:=by
 refine⟨by decide,by decide,[97],XC (by unfold CS;omega) (by unfold yD;rfl),λc a=>?_,λc a=>?_⟩
 ·rw[aW.1 a];unfold IB EH;omega
 cases a;unfold EH;omega
def doc_text:BH ⟨#[120]⟩=0:=by
 rw[BH,if_neg,if_neg (by decide)];exact not_not_intro ⟨[120],XC (by unfold CS;omega) (by unfold yD;rfl)⟩
def Wj:(Dp KAM).2=0:=by
 rw[Dp,if_neg (by simp[KAM]),NJ];intro k x b;rw[cZ,zN];have i:k<2:=(aA.1 b).1;have c:k=0\/k=1:=om;rcases c with rfl|rfl
 ·cases b
  have e:Bi KAM 0 KAb=0:=by
   rw[Bi,if_neg (by simp[KAb]),if_neg om,if_neg (by simp[KAb]),if_neg om]
  rw[if_pos e,Ap,if_neg (by simp[KAb]),if_pos (show KAb.x.kind=1/\KAb.x.text=⟨#[]⟩from⟨rfl,rfl⟩)]
  have d:CG KAb.x=0:=by
   rw[CG,if_neg (not_not_intro (show CZ KAb.x.name from UT)),if_neg (not_not_intro (show Nj KAb.x.FP from⟨λa f=>(by cases f),.nil⟩)),if_neg (by simp[KAb])]
  rw[if_pos d];rfl
 cases b
 have e:Bi KAM 1 KBq=0:=by
  rw[Bi,if_neg om,if_neg,if_neg (by simp[KBq]),if_neg om];rintro⟨_,h|⟨y,g,h⟩⟩
  ·exact absurd h (by simp[KBq])
  cases g;rcases h with h|⟨_,h⟩
  ·simp[KAb,KBq]at h
  simp[KAb]at h
 rw[if_pos e,Ap,if_pos (show KBq.x.kind=2 from rfl),if_pos (show KBq.x.name=⟨#[]⟩/\KBq.x.FP=[]from⟨rfl,rfl⟩)];exact doc_text
def TN:(zD.T.xg KDK)=(⟨Ar 1 0 KAM,3⟩,1,0):=by
 rw[Tr.xg,if_pos (show KDK.kind=0 from rfl)];show Tr.load ⟨[],1⟩ KAM=_;rw[Tr.load,if_neg (by rw[Wj];omega),if_neg (by simp[KAM])];rfl
def doc_good:∃F,Am F (zD.T.xg KDK).1:=by
 obtain⟨F,h,_⟩:=OT Wj (n:=1) om (by simp[KAM]);rw[TN];exact⟨F,h⟩
def doc_spec(w:Wq):CP 24 #[] w λe w'=>∃b,e=Ej (.slice (Pq b) 2 2)/\Hp [] w w' [.blk b (yK KAM [(none,0,0),(none,0,0)]) 123]:=by
 apply Jad;intro b c a;exact⟨b,rfl,(Hp.start w).nw a⟩
def doc_arg{B:Nq}{w0 w:Wq}{L:List Asn}{b:Nat}{f:Nq}(H:Hp B w0 w L)(p:Asn.blk b (yK KAM [(none,0,0),(none,0,0)]) 123∈L)(l:∀W,Chg f w W->(Asn.blk b (yK KAM [(none,0,0),(none,0,0)]) 123).ok W):CW f w (Pq b) 2 KAM [(none,0,0),(none,0,0)]:=by
 refine⟨λW m=>⟨rfl,rfl,λj v d=>?_,λk x s g i=>?_⟩,by simp[maxLen],λs i=>?_,λx g=>?_⟩
 ·have c:Blk W b (yK KAM [(none,0,0),(none,0,0)]) 123:=l W m;exact⟨_,rfl,by rw[add_lit];exact c.cell (by rw[cZ];exact d)⟩
 ·have e:s=(none,0,0):=by
   have:=aC i;simpa using this
  have n:x.x.FP=[]:=by
   have:=aC g;rcases aP.1 this with rfl|h
   ·rfl
   rw[aW.1 h];rfl
  rw[e,n];exact⟨rfl,λj v d=>by cases d⟩
 ·have e:s=(none,0,0):=by simpa using i
  rw[e];exact bZ _
 have:x=KAb\/x=KBq:=by simpa [KAM]using g
 rcases this with rfl|rfl<;>exact⟨by decide,by decide,λa o=>by cases o⟩
def Ua:PP.underlying 23=some (.pointer 86):=by kernel_rfl
def uZ:PP.underlying 49=some (.pointer 119):=by kernel_rfl
theorem rowsT_len{P:List Sl.xR}(f:zg P)(o:P.length<=4096):(BJ P).length<=491520:=by
 have c:∀(P:List Sl.xR)(n:Nat),zg P->(FO n P).length<=120*P.length:=by
  intro P
  induction P with
  |nil=>intro n _;exact bZ _
  |cons R r g=>
   intro n h;have q:=g (n+1) λL i=>h L (.tail _ i)
   have s:R.length<=120:=by
    have d:=h R (.head _);have j:(R.map (·.1)).Nodup:=(dD.2 d.up).imp λ{a b} h e=>by omega
    have:=Gv (l':=List.range 120) j λx l=>by
     obtain⟨p,m,rfl⟩:=aU.1 l;exact dW.2 (d.lt p m)
    rw[aQ,fZ]at this;exact this
   rw[FO,aF,Hr,aQ,aK];omega
 have:=c P 0 f;rw[BJ];omega
def rows_few{F:Fo}{X:Tab}(l:Am F X.T)(d:TInv0 X):(BJ X.P).length<=40001:=by
 have m:((BJ X.P).map λc=>Aa c.s).Nodup:=by
  refine dD.2 ((rows_nodup d.inv.pi.w).imp_of_mem λ{a b} i j g n=>g ?_);have e:=(GY d i).1;have o:=(GY d j).1;rw[n,o]at e;have e:=Option.some.inj e;exact KE d.inv.pi.w i j (congrArg (·.1) e).symm (congrArg (·.2) e).symm
 have:=Gv (l':=bts Ew::(BV X.T X.S X.W).map (·.1)) m λk p=>by
  obtain⟨c,q,rfl⟩:=aU.1 p;by_cases h:Aa c.s=bts Ew
  ·rw[h];exact .head _
  have f:=(KQ d.inv q).2;rw[d.recs _ h]at f;obtain⟨r,f,_⟩:=cO.1 f;exact .tail _ (gget_key f)
 have t:=SA (S:=X.S) (W:=X.W) l.len d.wok.len;rw[aQ,aK,aQ]at this;omega
end
noncomputable section
open Go Go.Vc Go.Nod
def changes_few{l:List Cg}(h:l.Pairwise FI)(d:∀c∈l,InS c):l.length<=491520:=by
 have f:(l.map λc=>(CU c).toNat).Nodup:=by
  refine dD.2 (h.imp_of_mem λ{a b} g i e j=>?_);obtain⟨m,n,o,p⟩:=d a g;obtain⟨s,t,u,w⟩:=d b i;rw[CU,CU]at j;unfold FI at e;omega
 have:=Gv (l':=List.range 491520) f λk q=>by
  obtain⟨c,r,rfl⟩:=aU.1 q;obtain⟨m,n,o,p⟩:=d c r;rw[dW,CU];omega
 rwa [aQ,fZ]at this
def tab_do{f i:Nq}{b:Nat}{X:Tab}{o:OpP}{w w':Wq}(a:TInv0 X)(h:(xu f b X).ok w)(j:(xu i b (doP X o).1).ok w'):TInv0 (doP X o).1/\(doP X o).2.2.1.Pairwise FI/\(∀c∈(doP X o).2.2.1,InS c)/\Ci (BJ X.P) (doP X o).2.2.1=BJ (doP X o).1.P/\(doP X o).2.2.1.length<=491520:=by
 obtain⟨F,d⟩:=LQ j;obtain⟨e,g,l⟩:=do_changed a (Zw h) d;exact⟨do_tinv a d,e,g,l,changes_few e g⟩
end
noncomputable section
open Go Go.Vc Go.Nod
def Q8(a b:Cg)(w:Wq):CP 76 #[.agg (cgC a).toArray,.agg (cgC b).toArray] w λe w'=>e=Ej (.bool (decide (JA a b)))/\Hp [] w w' []:=by
 apply Jde;intro f i c j l d;have H:=((Hp.start w).nw c).nw d;have m:∀{x:Asn}{L:List Asn},Asn.blk f (cgC a) 79∈x::(Asn.blk f (cgC a) 79::L):=.tail _ (.head _);have e:∀{p:Prop} [Decidable p],(JA a b↔p)->decide p=decide (JA a b):=λ{p} _ h=>by simp[h]
 refine⟨a.page,H.lo xK,b.page,H.lo xK,AQ (λh=>?_) (λh=>?_)⟩
 ·refine⟨a.page,H.lo xK,b.page,H.lo xK,?_,H.done⟩;rw[e];unfold JA;rw[if_pos h]
 refine⟨a.slot,H.lo xK,b.slot,H.lo xK,?_,H.done⟩;rw[e];unfold JA;rw[if_neg (λg=>g h)]
def rise_spec(g:OA)(lc:Nat)(l:List Cg)(w:Wq)(x:l.length<=1000000)(j:Cells w g (xy l))(n:l.Pairwise FI):
  CP 34 #[.slice g l.length lc] w λe w'=>e=Ej (.bool true)/\Hp [] w w' []:=by
 apply Jd7;refine xI.mk (λm s w'=>∃k:Nat,m=l.length-k/\1<=k/\s=(k:Int)/\Hp [] w w' []) (l.length-1) ⟨1,rfl,om,rfl,Hp.start w⟩ ?_;rintro m s y next ⟨k,rfl,z,rfl,H⟩ a
 refine AB (λo=>?_) (λo=>⟨rfl,H⟩);have b:k<l.length:=om;have i:=j.chg H.drew.chg (by simp);obtain⟨A,d,p⟩:=PT i (aB (show k-1<l.length by omega));obtain⟨q,c,r⟩:=PT i (aB b);have t:((k:Int)-1).toNat=k-1:=om;refine⟨iR,AA d ⟨⟨om,om⟩,_,_,_,_,by rw[t];exact p,AA c ⟨⟨om,om⟩,_,_,_,_,r,AC (Q8 l[k-1] l[k] _) ?_⟩⟩⟩;rintro _ B ⟨rfl,u⟩;have f:=dE.1 n (k-1) k om b om;refine⟨_,rfl,Es (λh=>?_) (λ_=>⟨iR,a (l.length-(k+1)) _ _ om ⟨k+1,rfl,om,om,H.drew.xN u⟩⟩)⟩;rw[decide_eq_false_iff_not,Ux]at h;exact(h f).elim
def cg_word{w:Wq}{d:OA}{l:List Cg}(h:Cells w d (xy l)){k:Nat}{x:Cg}(f:l[k]? =some x):∃b,d=some b/\Ld PP 3 w (b.add (k*4)) (I x.page)/\Ld PP 3 w ((b.add (k*4)).add 1) (I x.slot)/\Ld PP 9 w ((b.add (k*4)).add 2) (.string x.s):=by
 have i:=(aA.1 f).1;have c:0<(xy l).length:=by rw[MI];omega
 obtain⟨b,a,_⟩:=h 0 _ (aB c)
 have at_:∀{o:Nat}{v:Value},o<4->(cgC x)[o]? =some v->(xy l)[k*4+o]? =some v:=λ{o v} j g=>by
  have e:=NF f;rw[<- e,bn j,dm]at g;exact g
 refine⟨b,a,?_,?_,?_⟩
 ·exact h.ld xK a (at_ (o:=0) om rfl)
 ·rw[add_add];exact h.ld xK a (at_ om rfl)
 rw[add_add];exact h.ld xx a (at_ om rfl)
end
noncomputable section
open Go Go.Vc Go.Nod Classical
variable{f:List Nat}{w w':World}{a:Option Addr}{c:Nat}{M:List DR}{L:List Asn}{nx:Int}
def Tj{N:Lj}{n:Nat}(h:Cells w a (BN N))(r:n=N.length)(x:N.length<=100000000)(s:BA):CP 78 #[.slice a n c,.string s] w λe w'=>e=Ej (.bool (decide (s∈N)))/\Hp [] w w' []:=by
 subst r;apply Jea;refine xI.mk (λm t w'=>∃k:Nat,m=N.length-k/\k<=N.length/\t=(k:Int)/\s∉N.take k/\w'=w) N.length ⟨0,rfl,om,rfl,by simp,rfl⟩ ?_;rintro m t y next ⟨k,rfl,z,rfl,b,u⟩ d
 obtain rfl:=u.symm;refine AB (λo=>?_) (λo=>?_)
 ·obtain⟨p,j⟩:∃p,N[k]? =some p:=⟨_,aB om⟩;have q:(BN N)[k]? =some (.string p):=by rw[BN,au,j];rfl
  obtain⟨A,i,_⟩:=h k _ q;refine AA i ⟨⟨om,o⟩,p,by rw[aN,bV];exact h.ld xx i q,AB (λl=>⟨?_,Hp.start w⟩) (λl=>⟨iR,d (N.length-(k+1)) _ _ om ⟨k+1,rfl,om,rfl,λg=>?_,rfl⟩⟩)⟩
  ·rw[decide_eq_true (l▸aC j)]
  rw[take_snoc j]at g;rcases aT.1 g with g|g
  ·exact b g
  exact l (aW.1 g).symm
 rw[aV om]at b;exact⟨by rw[decide_eq_false b],Hp.start w⟩
def uX{w0 w1 d:Wq}{b:Nat}{a:OA}{c:Nat}{N:Lj}{s:BA}{X:List Asn}(H:Hp [] w w0 (.own 9 1 a N.length c (BN N)::X))(p:N.length<=100000000)(e:Eqw w0 d)(j:New d (.cells #[.string s] 9) b w1){G:OA->Nat->Nat->Wq->Prop}
  (k:∀a' c' d,Hp [] w d (.own 9 1 a' (N++[s]).length c' (BN (N++[s]))::X)->G a' (N++[s]).length c' d):
  ∃a' g c' d,App PP #[106,106] 106 w1 (.slice a N.length c) (.slice (Pq b) 1 1) (.slice a' g c') d/\G a' g c' d:=by
 have h:=(H.new e j).AX;refine Hp.app qi om h EQ4 (Blk.src qp (h.blk m1) rfl rfl) (by simp only[maxLen];omega) om ?_;intro l m n i;have e:N.length+1=(N++[s]).length:=by rw[aF];rfl
 have o:BN N++[.string s]=BN (N++[s]):=by simp[BN]
 rw[e,o]at i;rw[e];exact k l m n i.KBe
def fold_addN(A:Lj)(l:Lj)(x:BA):(l++[x]).foldl addN A=addN (l.foldl addN A) x:=by rw[ig];rfl
def sA(l:List At):Nat:=(l.map λa=>a.1.size+a.2.size).sum
def sum_take{l:Nq}(k:Nat):(l.take k).sum<=l.sum:=by
 have:=congrArg List.sum (bY k l);rw[kY]at this;omega
def Eu(M:List DR):Nat:=(M.map λp=>rowB p.1.x).sum
def bytesK_eq(M:List DR):Eu M=VX ⟨rws M,nx⟩:=by simp[Eu,VX,rws,nJ]
def EM(M:List DR):Lj:=uniq ((rws M).map yH |>.flatMap EG)
theorem rnWide_spec(h:TrA f w a c M)(hn:M.length<=1000)(ae:∀q∈M,q.1.x.FP.length<=1000)(hb:∀q∈M,rowB q.1.x<=1000000):
  CP 41 #[tV a M.length c nx] w λe w'=>e=Ej (.bool (decide (YV ⟨rws M,nx⟩)))/\Hp [] w w' []:=by
 apply Jeb;intro b w1 af;have H:=(Hp.start w).nw af;refine xI.mk (λm (s:(OA×Nat×Nat)×Int×Int) w'=>∃(k:Nat)(d:OA)(g:Nat)(X:List Asn),m=M.length-k/\k<=M.length/\s=((d,(EM (M.take k)).length,g),(Eu (M.take k):Int),(k:Int))/\(EM (M.take k)).length<=1001*k/\Hp [] w w' (.own 9 1 d (EM (M.take k)).length g (BN (EM (M.take k)))::.blk b (tC a M.length c nx) 29::X)) M.length ⟨0,none,0,[],rfl,om,rfl,aZ _,H.yS 9 1⟩ ?_;rintro m s w2 next ⟨k,d,g,X,rfl,hk,rfl,ag,H⟩ C
 dsimp only;have mT:∀{x:Asn}{Z:List Asn},Asn.blk b (tC a M.length c nx) 29∈x::.blk b (tC a M.length c nx) 29::Z:=.tail _ (.head _);refine⟨_,_,_,H.ld EQ4 bSR mT rfl,AB (λh1=>?_) (λh1=>?_)⟩;rotate_left
 ·rw[aV om]at H ag⊢;have e:YV ⟨rws M,nx⟩↔4000<(EM M).length\/10000000<Eu M:=by rw[bytesK_eq (nx:=nx)];rfl
  refine AB (λi=>⟨?_,H.done⟩) (λi=>⟨?_,H.done⟩)
  ·rw[decide_eq_true (e.2 (.inl om))]
  have e2:YV ⟨rws M,nx⟩↔(10000000:Int)<(Eu M:Int):=e.trans ⟨λh=>by omega,λh=>.inr om⟩;rw[decide_eq_decide.2 e2]
 obtain⟨p,hp⟩:∃p,M[k]? =some p:=⟨_,aB om⟩;have D:=aC hp;have aq:=ae p D;have ar:=hb p D;obtain⟨ad,ah,_,_,ld⟩:=(h.go H).ld hp
 have av:Eu (M.take k)<=1000000*k:=by
  have:∀l:List DR,(∀q∈l,rowB q.1.x<=1000000)->Eu l<=1000000*l.length:=by
   intro l
   induction l with
   |nil=>intro _;simp[Eu]
   |cons q r ih=>
    intro hl;have:=ih λq A=>hl q (.tail _ A);have i:=hl q (.head _);have e:Eu (q::r)=rowB q.1.x+Eu r:=by simp[Eu]
    rw[e,aK];omega
  have:=this (M.take k) λq A=>hb q (dJ A);rw[aJ]at this;omega
 have ak:Eu (M.take (k+1))=Eu (M.take k)+rowB p.1.x:=by rw[take_snoc hp];simp[Eu]
 have R:EM (M.take (k+1))=(p.1.x.FP.map (·.1)).foldl addN (if p.1.x.kind=1 then addN (EM (M.take k)) p.1.x.name else EM (M.take k)):=by
  rw[take_snoc hp];simp only[EM,rws,uniq,ai,dR,ig,aj,jC,bW,lY,aX,EG,yH];split<;>rfl
 have T:rowB p.1.x=p.1.x.name.size+p.1.x.text.size+sA p.1.x.FP:=rfl;refine⟨_,_,_,H.ld EQ4 bSR mT rfl,AA ah ⟨⟨om,h1⟩,_,_,_,_,_,_,_,ld,λF w3 al=>?_⟩⟩;have H2:=H.nw al;refine Hp.stA H2 EQ4 CB rfl rfl (by simp) rfl λw4 o=>?_;have u:∀{j:Nat}{t:TypeId}{v:Value}{U w':Wq}{x:Asn}{Z:List Asn},Hp [] w U (x::.blk F (itC ⟨p.1.level,p.1.x⟩ p.2) 123::Z)->Eqw U w'->Scl PP t->(itC ⟨p.1.level,p.1.x⟩ p.2)[j]? =some v->Ld PP t w' ⟨F,j,none⟩ v:=λH e S hv=>H.ld e S m1 hv;replace o:=o.AX;refine⟨p.1.x.name,u o EQ4 xx rfl,iR,p.1.x.text,u o EQ4 xx rfl,iR,?_⟩;refine xM.mk (λ(s:OA×Nat×Nat) w'=>∃(N:Lj)(d:OA)(g:Nat)(X:List Asn),s=(d,N.length,g)/\N=(if p.1.x.kind=1 then addN (EM (M.take k)) p.1.x.name else EM (M.take k))/\N.length<=1001*k+1/\Hp [] w w' (.own 9 1 d N.length g (BN N)::.blk F (itC ⟨p.1.level,p.1.x⟩ p.2) 123::.blk b (tC a M.length c nx) 29::X)) ?_ ?_
 ·clear o;rintro s U ⟨N0,d,g,X,rfl,am,Y,H⟩;rw[<- am]at R;refine xI.mk (λm (s:(OA×Nat×Nat)×Int×Int) w'=>∃(j:Nat)(N:Lj)(d:OA)(g:Nat)(X:List Asn),m=p.1.x.FP.length-j/\j<=p.1.x.FP.length/\s=((d,N.length,g),((Eu (M.take k)+p.1.x.name.size+p.1.x.text.size+sA (p.1.x.FP.take j):Nat):Int),(j:Int))/\N=((p.1.x.FP.take j).map (·.1)).foldl addN N0/\N.length<=1001*k+1+j/\Hp [] w w' (.own 9 1 d N.length g (BN N)::.blk F (itC ⟨p.1.level,p.1.x⟩ p.2) 123::.blk b (tC a M.length c nx) 29::X)) p.1.x.FP.length ⟨0,N0,d,g,X,rfl,om,rfl,rfl,Y,H⟩ ?_;rintro m s w6 an ⟨j,N,d,g,X,rfl,hj,rfl,hN,aa,H⟩ z;dsimp only;have hA:∀{w':Wq}{Z:List Asn},Hp [] w w' Z->AtR w' p.2.1 p.2.2.1 p.1.x.FP:=λH=>AtA.go (h.att p D) H _ (Chg.refl _ _);have aw:=(hA H).len;refine⟨_,_,_,u H EQ4 yx rfl,AB (λi=>?_) (λi=>?_)⟩;rotate_left
  ·have a0:j=p.1.x.FP.length:=om;have B:p.1.x.FP.take j=p.1.x.FP:=aV om;rw[B]at hN;subst hN;rw[<- R]at H aa⊢;refine⟨iR,C (M.length-(k+1)) _ _ om ⟨k+1,d,g,.blk F (itC ⟨p.1.level,p.1.x⟩ p.2) 123::X,rfl,om,?_,om,H.BF.AX⟩⟩;rw[B,ak,T];simp;omega
  obtain⟨q,A⟩:∃q,p.1.x.FP[j]? =some q:=⟨_,aB om⟩;have a1:sA (p.1.x.FP.take (j+1))=sA (p.1.x.FP.take j)+(q.1.size+q.2.size):=by rw[take_snoc A];simp[sA]
  have a3:sA (p.1.x.FP.take (j+1))<=sA p.1.x.FP:=by
   rw[sA,iE];exact sum_take _
  have G:((p.1.x.FP.take (j+1)).map (·.1)).foldl addN N0=addN N q.1:=by rw[take_snoc A,ai,hN];exact fold_addN _ _ _
  refine xM.mk (λ(s:(OA×Nat×Nat)×Int) w'=>∃(d:OA)(g:Nat)(X:List Asn),s=((d,(addN N q.1).length,g),((Eu (M.take k)+p.1.x.name.size+p.1.x.text.size+sA (p.1.x.FP.take (j+1)):Nat):Int))/\(addN N q.1).length<=1001*k+1+(j+1)/\Hp [] w w' (.own 9 1 d (addN N q.1).length g (BN (addN N q.1))::.blk F (itC ⟨p.1.level,p.1.x⟩ p.2) 123::.blk b (tC a M.length c nx) 29::X)) ?_ ?_
  ·rintro s w7 ⟨d,g,X,rfl,g1,g2⟩;exact⟨iR,z (p.1.x.FP.length-(j+1)) _ _ om ⟨j+1,addN N q.1,d,g,X,rfl,om,rfl,G.symm,g1,g2⟩⟩
  intro J hJ;have a4:(j:Int)<((p.2.2.1:Nat):Int):=i;obtain⟨ao,n,la,lb⟩:=(hA H.drew).ld A;refine⟨_,_,_,u H EQ4 yx rfl,AA n ⟨⟨om,i⟩,q.1,la,iR,_,_,_,u H EQ4 yx rfl,AA n ⟨⟨om,i⟩,q.2,lb,iR,_,_,_,u H EQ4 yx rfl,AA n ⟨⟨om,i⟩,q.1,la,AC (Tj (H.drew.xh (.head _)).cells rfl om q.1) ?_⟩⟩⟩⟩;rintro _ w8 ⟨rfl,H'⟩;replace H:=H.drew.xN H';have ab:((Eu (M.take k)+p.1.x.name.size+p.1.x.text.size+sA (p.1.x.FP.take j):Nat):Int)+(q.1.size:Int)+(q.2.size:Int)=((Eu (M.take k)+p.1.x.name.size+p.1.x.text.size+sA (p.1.x.FP.take (j+1)):Nat):Int):=om;rw[ab];refine⟨_,rfl,Es (λK=>?_) (λK=>?_)⟩
  ·have K:q.1∉N:=of_decide_eq_false K;have y:addN N q.1=N++[q.1]:=if_neg K;obtain⟨ao,n,la,_⟩:=(hA H).ld A;refine⟨_,_,_,u H EQ4 yx rfl,AA n ⟨⟨om,i⟩,q.1,la,λb2 w9 O=>?_⟩⟩;refine uX H om EQ4 O λa2 c2 ap H4=>?_;rw[<- y]at H4⊢;exact hJ _ _ ⟨a2,c2,X,rfl,by rw[y,aF,gY];omega,H4⟩
  have K:q.1∈N:=of_decide_eq_true K;have y:addN N q.1=N:=if_pos K;exact hJ _ _ ⟨d,g,X,by rw[y],by rw[y];omega,by rw[y];exact H⟩
 intro J hJ;refine xM.mk (λ(s:Bool) w'=>(s=true↔p.1.x.kind=1/\p.1.x.name∉EM (M.take k))/\Hp [] w w' (.own 9 1 d (EM (M.take k)).length g (BN (EM (M.take k)))::.blk F (itC ⟨p.1.level,p.1.x⟩ p.2) 123::.blk b (tC a M.length c nx) 29::X)) ?_ ?_
 ·clear o;rintro s U ⟨hs,H⟩;refine Du (λi=>?_) (λi=>?_)
  ·obtain⟨g1,g2⟩:=hs.1 i;have y:(if p.1.x.kind=1 then addN (EM (M.take k)) p.1.x.name else EM (M.take k))=EM (M.take k)++[p.1.x.name]:=by rw[if_pos g1];exact if_neg g2
   refine⟨p.1.x.name,u H EQ4 xx rfl,λb2 w9 O=>uX H om EQ4 O λa2 c2 ap H4=>hJ _ _ ⟨_,a2,c2,X,rfl,y.symm,by rw[aF,gY];omega,H4⟩⟩
  have y:(if p.1.x.kind=1 then addN (EM (M.take k)) p.1.x.name else EM (M.take k))=EM (M.take k):=by
   split
   ·rename_i g1;exact if_pos (az λg2=>by rw[hs.2 ⟨g1,g2⟩]at i;cases i)
   rfl
  exact hJ _ _ ⟨_,d,g,X,rfl,y.symm,om,H⟩
 intro J2 ac;refine⟨_,u o EQ4 xK rfl,AB (λi=>⟨p.1.x.name,u o EQ4 xx rfl,AC (Tj (o.xh (.head _)).cells rfl om p.1.x.name) ?_⟩) (λi=>ac _ _ ⟨⟨λh=>(by cases h),λh=>(i h.1).elim⟩,o⟩)⟩;rintro _ U ⟨rfl,H'⟩;refine⟨_,rfl,ac _ _ ⟨?_,o.xN H'⟩⟩;rw[lC,decide_eq_false_iff_not];exact⟨λh=>⟨i,h⟩,λh=>h.2⟩
end
noncomputable section
open Go Go.Vc Go.Nod
variable{f:List Nat}{w w':World}{a:Option Addr}{c:Nat}{M:List DR}{L:List Asn}{nx:Int}
def Xj{w0 w1 d:Wq}{b:Nat}{a:OA}{c:Nat}{N:List Cg}{x:Cg}{X:List Asn}(H:Hp [] w w0 (.own 79 4 a N.length c (xy N)::X))(o:N.length<=100000000)(e:Eqw w0 d)(j:New d (.cells (cgC x).toArray 79) b w1){G:OA->Nat->Nat->Wq->Prop}
  (k:∀a' c' d,Hp [] w d (.own 79 4 a' (N++[x]).length c' (xy (N++[x]))::X)->G a' (N++[x]).length c' d):
  ∃a' g c' d,App PP #[37,37] 37 w1 (.slice a N.length c) (.slice (Pq b) 1 1) (.slice a' g c') d/\G a' g c' d:=by
 have h:=(H.new e j).AX;refine Hp.app wV om h EQ4 (Blk.src wu (h.blk m1) rfl rfl) (by simp only[maxLen];omega) om ?_;intro l m n i;have e:N.length+1=(N++[x]).length:=by rw[aF];rfl
 rw[e,<- NG]at i;rw[e];exact k l m n i.KBe
def rwo_spec{l:List Cg}(t:Cells w a (xy l))(U:l.length<=10000000)(lc:Nat)(x:Cg):
  CP 79 #[.slice a l.length lc,.agg (cgC x).toArray] w λe w'=>∃a' c',e=Ej (.slice a' (Dw l x).length c')/\Hp [] w w' [.own 79 4 a' (Dw l x).length c' (xy (Dw l x))]:=by
 apply Jek;intro b C p;have H:=(Hp.start w).nw p;refine xI.mk (λm s w'=>∃(k:Nat)(a':OA)(c':Nat),m=l.length-k/\k<=l.length/\s=((a',(Dw (l.take k) x).length,c'),(k:Int))/\Hp [] w w' [.own 79 4 a' (Dw (l.take k) x).length c' (xy (Dw (l.take k) x)),.blk b (cgC x) 79]) l.length ⟨0,none,0,rfl,om,rfl,H.yS 79 4⟩ ?_;rintro m s C next ⟨k,a',c',rfl,X,rfl,H⟩ i
 refine AB (λo=>?_) (λo=>?_);rotate_left
 ·rw[aV om]at H⊢;exact⟨_,_,rfl,H.BM (L:=[_])⟩
 obtain⟨y,q⟩:∃y,l[k]? =some y:=⟨_,aB om⟩
 have D:(Dw (l.take k) x).length<=k:=by
  have:=jR (λz:Cg=>decide (z.page≠x.page\/z.slot≠x.slot)) (l.take k);rw[aJ]at this;show(List.filter _ _).length<=k;omega
 have j:Dw (l.take (k+1)) x=Dw (l.take k) x++Dw [y] x:=by rw[take_snoc q,Dw,iC];rfl
 refine xM.mk (λs w'=>∃(a':OA)(c':Nat),s=(a',(Dw (l.take (k+1)) x).length,c')/\Hp [] w w' [.own 79 4 a' (Dw (l.take (k+1)) x).length c' (xy (Dw (l.take (k+1)) x)),.blk b (cgC x) 79]) ?_ ?_
 ·rintro s F ⟨a',c',rfl,H⟩;exact⟨iR,i (l.length-(k+1)) _ _ om ⟨k+1,a',c',rfl,om,rfl,H⟩⟩
 intro J u;refine xM.mk (λs w'=>(s=true↔y.page≠x.page\/y.slot≠x.slot)/\Hp [] w w' [.own 79 4 a' (Dw (l.take k) x).length c' (xy (Dw (l.take k) x)),.blk b (cgC x) 79]) ?_ ?_
 ·clear H;rintro s F ⟨A,H⟩;refine Du (λg=>?_) (λg=>?_)
  ·obtain⟨G,d,ld⟩:=PT (t.chg H.chg (by simp)) q;refine AA d ⟨⟨om,o⟩,_,_,_,_,ld,λY Z r=>Xj H om EQ4 r λK N w4 B=>?_⟩
   have e:Dw (l.take k) x++[y]=Dw (l.take (k+1)) x:=by
    rw[j];congr 1;rw[Dw,dL,if_pos (decide_eq_true (A.1 g))];rfl
   rw[e]at B⊢;exact u _ _ ⟨K,N,rfl,B⟩
  have e:Dw (l.take (k+1)) x=Dw (l.take k) x:=by
   rw[j,show Dw [y] x=[] by rw[Dw,dL,if_neg (by rw[decide_eq_true_eq];exact λh=>by rw[A.2 h]at g;cases g)];rfl,aX]
  exact u _ _ ⟨a',c',by rw[e],by rw[e];exact H⟩
 intro J2 n;obtain⟨G,d,O,R,_⟩:=cg_word (t.chg H.drew.chg (by simp)) q;refine AA d ⟨⟨om,o⟩,_,O,_,H.lo xK,AQ (λg=>n _ _ ⟨⟨λ_=>.inl g,λ_=>rfl⟩,H.drew⟩) (λg=>AA d ⟨⟨om,o⟩,_,R,_,H.lo xK,n _ _ ⟨?_,H.drew⟩⟩)⟩;rw[lC,decide_eq_false_iff_not];exact⟨.inr,λh=>h.resolve_left λT=>T g⟩
def Yr(x:Cg):Bool->List Cg->List Cg
 |true,l=>l
 |false,l=>FX x l
theorem Y4(x:Cg):∀l:List Cg,(FX x l).length=l.length+1
 | []=>rfl
 |y::r=>by
  rw[FX];split
  ·rfl
  rw[aK,Y4 x r,aK]
theorem rwi_spec{l:List Cg}(O:Cells w a (xy l))(hl:l.length<=10000000)(lc:Nat)(x:Cg):
  CP 80 #[.slice a l.length lc,.agg (cgC x).toArray] w λe w'=>∃a' c',e=Ej (.slice a' (FX x l).length c')/\Hp [] w w' [.own 79 4 a' (FX x l).length c' (xy (FX x l))]:=by
 apply Jej;intro b X B;have H:=(Hp.start w).nw B;have C:∀{w' p:Wq}{y:Asn},Hp [] w w' [y,.blk b (cgC x) 79]->Eqw w' p->Ld PP 79 p ⟨b,0,none⟩ (.agg (cgC x).toArray):=λH e=>H.ldA e wX m1 rfl rfl;refine xI.mk (λm s w'=>∃(k:Nat)(N:List Cg)(d:Bool)(a':OA)(c':Nat),m=l.length-k/\k<=l.length/\s=((a',N.length,c'),d,(k:Int))/\N.length<=2*k/\FX x l=N++Yr x d (l.drop k)/\Hp [] w w' [.own 79 4 a' N.length c' (xy N),.blk b (cgC x) 79]) l.length ⟨0,[],false,none,0,rfl,om,rfl,by simp,rfl,H.yS 79 4⟩ ?_;rintro m s X next ⟨k,N,d,a',c',rfl,hk,rfl,Y,i,H⟩ j
 dsimp only;refine AB (λD=>?_) (λD=>?_);rotate_left
 ·rw[eu om]at i;refine Es (λg=>?_) (λg=>?_)
  ·rw[g]at i;refine⟨_,_,_,_,C H EQ4,λR p n=>Xj H om EQ4 n λt u T z=>?_⟩;rw[show N++[x]=FX x l from i.symm]at z⊢;exact⟨_,_,rfl,z.BM (L:=[_])⟩
  rw[g,show Yr x true []=[]from rfl,aX]at i;rw[i];exact⟨_,_,rfl,H.BM (L:=[_])⟩
 obtain⟨y,F⟩:∃y,l[k]? =some y:=⟨_,aB om⟩;have q:=aA.1 F;rw[bM q.1,q.2]at i;refine xM.mk (λ(s:(OA×Nat×Nat)×Bool) w'=>∃(N:List Cg)(a':OA)(c':Nat),s=((a',N.length,c'),s.2)/\N.length<=2*k+1/\FX x l=N++y::Yr x s.2 (l.drop (k+1))/\Hp [] w w' [.own 79 4 a' N.length c' (xy N),.blk b (cgC x) 79]) ?_ ?_
 ·rintro⟨s1,d⟩ Z ⟨N,a',c',A,g1,g2,H⟩;cases A;obtain⟨ad,o,ld⟩:=PT (O.chg H.chg (by simp)) F;refine AA o ⟨⟨om,D⟩,_,_,_,_,ld,λR T G=>Xj H om EQ4 G λt u Z H4=>⟨iR,j (l.length-(k+1)) _ _ om ⟨k+1,N++[y],d,t,u,rfl,om,rfl,by rw[aF,gY];omega,by rw[g2];simp,H4⟩⟩⟩
 intro J U;refine xM.mk (λs w'=>(s=true↔d=false/\JA x y)/\Hp [] w w' [.own 79 4 a' N.length c' (xy N),.blk b (cgC x) 79]) ?_ ?_
 ·clear H;rintro s p ⟨A,H⟩;refine Du (λg=>?_) (λg=>?_)
  ·obtain⟨rfl,K⟩:=A.1 g;refine⟨_,_,_,_,C H EQ4,λR p n=>Xj H om EQ4 n λt u T z=>U _ _ ⟨N++[x],t,u,rfl,by rw[aF,gY];omega,?_,z⟩⟩;rw[i,show Yr x false (y::l.drop (k+1))=FX x (y::l.drop (k+1))from rfl,FX,if_pos K];simp[Yr]
  refine U _ _ ⟨N,a',c',rfl,om,?_,H⟩;rw[i];cases d with
  |true=>rfl
  |false=>
   show N++FX x (y::_)=_;rw[FX,if_neg (λK=>by rw[A.2 ⟨rfl,K⟩]at g;cases g)];rfl
 intro J2 r;refine Es (λg=>?_) (λg=>r _ _ ⟨⟨λh=>(by cases h),λh=>(by rw[g]at h;cases h.1)⟩,H.drew⟩);obtain⟨ad,o,ld⟩:=PT (O.chg H.drew.chg (by simp)) F;refine⟨_,_,_,_,C H EQ4,AA o ⟨⟨om,D⟩,_,_,_,_,ld,AC (Q8 x y _) ?_⟩⟩;rintro _ w5 ⟨rfl,H'⟩;exact⟨_,rfl,r _ _ ⟨decide_eq_true_iff.trans ⟨λh=>⟨g,h⟩,λh=>h.2⟩,H.drew.xN H'⟩⟩
def Y9(l:List Cg)(x:Cg):(Dw l x).length<=l.length:=jR _ _
def LJ(l:List Cg)(x:Cg):(PG l x).length<=l.length+1:=by
 have:=Y9 l x;rw[PG];split
 ·omega
 rw[Y4];omega
def rchanged_spec{l:List Cg}(K:∀W,Chg f w W->Cells W a (xy l))(lt:∀k∈f,k<w.heap.size)(hl:l.length<=1000000)(lc:Nat){x:OA}{m:List Cg}(r:Cells w x (xy m))(hm:m.length<=1000000)(N:Nat):
  CP 42 #[.slice a l.length lc,.slice x m.length N] w λe w'=>∃a' c',e=Ej (.slice a' (Ci l m).length c')/\Hp [] w w' []/\∀W,Chg f w' W->Cells W a' (xy (Ci l m)):=by
 apply Jdf;refine xI.mk (λn s w'=>∃(k:Nat)(a':OA)(c':Nat),n=m.length-k/\k<=m.length/\s=((a',(Ci l (m.take k)).length,c'),(k:Int))/\(Ci l (m.take k)).length<=l.length+k/\Hp [] w w' []/\∀W,Chg f w' W->Cells W a' (xy (Ci l (m.take k)))) m.length ⟨0,a,lc,rfl,om,rfl,aZ _,Hp.start w,K⟩ ?_;rintro n s O next ⟨k,a',c',rfl,hk,rfl,z,H,j⟩ h
 refine AB (λo=>?_) (λo=>?_);rotate_left
 ·rw[aV om]at j⊢;exact⟨_,_,rfl,H,j⟩
 obtain⟨y,p⟩:∃y,m[k]? =some y:=⟨_,aB om⟩;have d:Ci l (m.take (k+1))=PG (Ci l (m.take k)) y:=by rw[take_snoc p,Ci,ig];rfl
 refine xM.mk (λs w'=>∃(a':OA)(c':Nat),s=(a',(Ci l (m.take (k+1))).length,c')/\Hp [] w w' []/\∀W,Chg f w' W->Cells W a' (xy (Ci l (m.take (k+1))))) ?_ ?_
 ·rintro s A ⟨a',c',rfl,H,j⟩;refine⟨iR,h (m.length-(k+1)) _ _ om ⟨k+1,a',c',rfl,om,rfl,?_,H,j⟩⟩;rw[d];have:=LJ (Ci l (m.take k)) y;omega
 intro J B;obtain⟨R,b,ld⟩:=PT (r.chg H.chg (by simp)) p;refine AA b ⟨⟨om,o⟩,_,_,_,_,ld,AC (rwo_spec (j O (Chg.refl _ _)) om c' y) ?_⟩;rintro _ A ⟨T,C,rfl,D⟩;have i:=H.yC D;obtain⟨U,g,t⟩:=PT (r.chg i.chg (by simp)) p;rw[b]at g;cases g
 have X:Ld PP 4 A ((R.add (k*4)).add 3) (.bool y.gone):=by
  rw[add_add];refine(r.chg i.chg (by simp)).ld rD b ?_;have e:=NF p;have F:((((xy m).drop (k*4)).take 4)[3]? :Option Value)=some (.bool y.gone):=by rw[e];rfl
  rw[bn om,dm]at F;exact F
 have Y:=Y9 (Ci l (m.take k)) y;refine⟨_,_,_,rfl,AA b ⟨⟨om,o⟩,_,X,Es (λq=>AA b ⟨⟨om,o⟩,_,_,_,_,t,AC (rwi_spec (D.xh (.head _)).cells om C y) ?_⟩) (λq=>B _ _ ⟨T,C,?_,i.drop,?_⟩)⟩⟩
 ·rintro _ w3 ⟨Z,c3,rfl,G⟩;have e:Ci l (m.take (k+1))=FX y (Dw (Ci l (m.take k)) y):=by rw[d,PG,if_neg (by rw[q];decide)]
  exact⟨_,_,_,rfl,B _ _ ⟨Z,c3,by rw[e],(i.xN G.done).drop,by rw[e];exact λW u=>Own.cells (stay (i.yC G) (.head _) lt u)⟩⟩
 ·rw[d,PG,if_pos q]
 rw[d,PG,if_pos q];exact λW u=>Own.cells (stay i (.head _) lt u)
def rgSameIds_spec{b:OA}{l:lI}{n m:Nat}(r:Cells w a (AO l))(t:Cells w b (AO l))(u:n=l.length)(x:m=l.length)(B:l.length<=1000000)(z:Nat):
  CP 43 #[.slice a n c,.slice b m z] w λe w'=>e=Ej (.bool true)/\Hp [] w w' []:=by
 subst u;subst x;apply Jdz;refine AQ (λh=>(h rfl).elim) (λ_=>?_);refine xI.mk (λm s w'=>∃k:Nat,m=l.length-k/\k<=l.length/\s=(k:Int)/\Hp [] w w' []) l.length ⟨0,rfl,om,rfl,Hp.start w⟩ ?_;rintro m s C next ⟨k,rfl,D,rfl,H⟩ d
 refine AB (λq=>?_) (λq=>⟨rfl,H⟩);obtain⟨y,A⟩:∃y,l[k]? =some y:=⟨_,aB om⟩;have p:(AO l)[k]? =some (I y):=by rw[AO,au,A];rfl
 have g:=r.chg H.drew.chg (by simp);have i:=t.chg H.drew.chg (by simp);obtain⟨F,j,_⟩:=g k _ p;obtain⟨G,o,_⟩:=i k _ p;refine AA j ⟨⟨om,q⟩,_,by rw[aN,bV];exact g.ld xK j p,AA o ⟨⟨om,q⟩,_,by rw[aN,bV];exact i.ld xK o p,AQ (λh=>(h rfl).elim) (λ_=>⟨iR,d (l.length-(k+1)) _ _ om ⟨k+1,rfl,om,rfl,H.drew⟩⟩)⟩⟩
def flatAt:Uy PP 142 [(0,.inr 1),(1,.inr 1)]:=Go.Vc.Sz (by kernel_rfl)
def rlSameAttrs_spec{b:OA}{l:List At}{n m:Nat}(q:AtR w a n l)(r:AtR w b m l)(x:l.length<=1000000)(u:Nat):
  CP 81 #[.slice a n c,.slice b m u] w λe w'=>e=Ej (.bool true)/\Hp [] w w' []:=by
 have z:=q.len;have A:=r.len;apply Jd8;refine AQ (λh=>by omega) (λ_=>?_);refine xI.mk (λm s w'=>∃k:Nat,m=l.length-k/\k<=l.length/\s=(k:Int)/\Hp [] w w' []) l.length ⟨0,rfl,om,rfl,Hp.start w⟩ ?_;rintro m s B next ⟨k,rfl,C,rfl,H⟩ d
 refine AB (λt=>?_) (λt=>⟨rfl,H⟩);obtain⟨y,p⟩:∃y,l[k]? =some y:=⟨_,aB om⟩;have g:=q.go H.drew;have i:=r.go H.drew;obtain⟨D,j,_⟩:=g.ld p;obtain⟨F,o,_⟩:=i.ld p;refine AA j ⟨⟨om,t⟩,_,_,g.cells.ldA EX j (Gg p) rfl,AA o ⟨⟨om,om⟩,_,_,i.cells.ldA EX o (Gg p) rfl,false,YC flatAt rfl rfl (by simp[eqL,sEq,KFN]),Au ⟨iR,d (l.length-(k+1)) _ _ om ⟨k+1,rfl,om,rfl,H.drew⟩⟩⟩⟩
def rpSame_spec{b:OA}{l:List It}{n m:Nat}{ss ts:List Sl3}(U:ItR w a n l ss)(X:ItR w b m l ts)(hl:l.length<=1000000)(F:∀x∈l,x.x.FP.length<=1000000)(bc:Nat):
  CP 44 #[.slice a n c,.slice b m bc] w λe w'=>e=Ej (.bool true)/\Hp [] w w' []:=by
 have h1:=U.len;have h2:=X.len;apply Jeh;refine AQ (λh=>by omega) (λ_=>?_);refine xI.mk (λm s w'=>∃k:Nat,m=l.length-k/\k<=l.length/\s=(k:Int)/\Hp [] w w' []) l.length ⟨0,rfl,om,rfl,Hp.start w⟩ ?_;rintro i s B next ⟨k,rfl,hk,rfl,H⟩ r
 refine AB (λY=>?_) (λY=>⟨rfl,H⟩);have o:=U.go H.drew;have p:=X.go H.drew;obtain⟨x,s,q,G,J⟩:=o.at_ (k:=k) om;obtain⟨x',t,u,K,N⟩:=p.at_ (k:=k) om;rw[q]at u;cases u;obtain⟨Z,d,_⟩:=o.some q G;obtain⟨bd,g,_⟩:=p.some q K;have C:∀{y:TypeId}{j:Nat}{v:Value},Scl PP y->(itC x s)[j]? =some v->Ld PP y B.drew ((Z.add (((k:Int)).toNat*5)).add j) v:=λS O=>by rw[aN,add_add];exact o.ld q G d S O
 have D:∀{y:TypeId}{j:Nat}{v:Value},Scl PP y->(itC x t)[j]? =some v->Ld PP y B.drew ((bd.add (((k:Int)).toNat*5)).add j) v:=λS O=>by rw[aN,add_add];exact p.ld q K g S O
 have R:Ld PP 3 B.drew (Z.add (((k:Int)).toNat*5)) (I x.level):=o.ld q G d xK (j:=0) rfl;have T:Ld PP 3 B.drew (bd.add (((k:Int)).toNat*5)) (I x.level):=p.ld q K g xK (j:=0) rfl;have z:D1 (k:Int) n:=⟨om,Y⟩;have A:D1 (k:Int) m:=⟨om,om⟩;refine AA d ⟨z,_,R,AA g ⟨A,_,T,AQ (λh=>(h rfl).elim) λ_=>AA d ⟨z,_,C xK rfl,AA g ⟨A,_,D xK rfl,AQ (λh=>(h rfl).elim) λ_=>AA d ⟨z,_,C xx rfl,AA g ⟨A,_,D xx rfl,AQ (λh=>(h rfl).elim) λ_=>AA d ⟨z,_,C xx rfl,AA g ⟨A,_,D xx rfl,AQ (λh=>(h rfl).elim) λ_=>AA d ⟨z,_,_,_,C yx rfl,AA g ⟨A,_,_,_,D yx rfl,AC (rlSameAttrs_spec J N (F x (aC q)) _) ?_⟩⟩⟩⟩⟩⟩⟩⟩⟩⟩;rintro _ w2 ⟨rfl,H'⟩;exact⟨_,rfl,Au ⟨iR,r (l.length-(k+1)) _ _ om ⟨k+1,rfl,om,rfl,H.drew.xN H'⟩⟩⟩
end
noncomputable section
open Go Go.Vc Go.Nod
variable{f:List Nat}{w w':World}{a:Option Addr}{c:Nat}{M:List DR}{L:List Asn}{nx:Int}
def app_it{w0 w1:Wq}{b:Nat}{a:OA}{c:Nat}{l:List It}{ss:List Sl3}{x:It}{s:Sl3}{X:List Asn}(H:Hp [] w w0 (.own 123 5 a l.length c (yK l ss)::X))(g:ss.length=l.length)(r:l.length<=100000000)(m:New w0 (.cells (itC x s).toArray 123) b w1){G:OA->Nat->Nat->Wq->Prop}
  (k:∀a' c' d,Hp [] w d (.own 123 5 a' (l++[x]).length c' (yK (l++[x]) (ss++[s]))::X)->G a' (l++[x]).length c' d):
  ∃a' h c' d,App PP #[34,34] 34 w1 (.slice a l.length c) (.slice (Pq b) 1 1) (.slice a' h c') d/\G a' h c' d:=by
 have i:=(H.nw m).AX;refine Hp.app qN om i EQ4 (Blk.src Zq (i.blk m1) rfl rfl) (by simp only[maxLen];omega) om ?_;intro n o p j;have e:l.length+1=(l++[x]).length:=by rw[aF];rfl
 have q:yK l ss++itC x s=yK (l++[x]) (ss++[s]):=by rw[yK,yK,jJ g.symm,List.flatten_append];simp
 rw[e,q]at j;rw[e];exact k n o p j.KBe
structure ww(M:List DR):Prop where
 level:∀p,M[0]? =some p->p.1.level=0
 end_:M≠[]->yg (rws M) 0=M.length
 pos:∀p∈M,p.1.id≠0
theorem rgItems_spec(h:TrA f w a c M)(g:TrG M nx)(Y:ww M):
  CP 45 #[tV a M.length c nx,I (TU ⟨rws M,nx⟩)] w λe w'=>∃a' c' ss,e=Ej (.slice a' M.length c')/\ItR w' a' M.length ((rws M).map yH) ss/\Hp [] w w' []:=by
 apply Jdo;intro b w1 F;have H:=(Hp.start w).nw F;have hl:=g.len;refine⟨_,_,_,_,H.loA bT2,AC (D8 (h.go H) om nx _) ?_⟩;rintro _ w2 ⟨⟨z,rfl,G⟩,y⟩;replace H:=H.xN y;cases hM:M[0]? with
 |none=>
  have J:M=[]:=ay (by rw[kP]at hM;omega);subst J;rcases G with⟨_,_,rfl⟩|⟨k,p,hp,_⟩
  ·exact⟨_,rfl,AB (λ_=>⟨none,0,[],rfl,⟨rfl,rfl,by intro j v hj;simp[yK]at hj,λk x s C=>by simp at C⟩,H.drop⟩) (λh=>by omega)⟩
  simp at hp
 |some p=>
  have A:M≠[]:=λe=>by rw[e]at hM;cases hM
  have K:TU ⟨rws M,nx⟩=p.1.id:=by
   rw[TU,gJ];rw[Kw hM];rfl
  have Z:EI (rws M) p.1.id=some 0:=by
   have:=Ul hM;rw[fF]at this;rw[this,EI,mQ,decide_eq_true rfl];rfl
  rw[K]at G;rcases G with⟨n,_⟩|⟨k,q,d,_,n,_,rfl⟩
  ·rw[Z]at n;cases n
  rw[Z]at n;cases n;rw[hM]at d;cases d;have N:=Y.level p hM;have B:=Y.end_ A;have aa:=h.cap;have ab:=fC.2 A;have lT:∀{w':Wq},Hp [] w w' [.blk b (tC a M.length c nx) 29]->Ld PP 29 w' ⟨b,0,none⟩ (tV a M.length c nx):=λH=>H.loA bT2;have D:∀{w':Wq},Hp [] w w' [.blk b (tC a M.length c nx) 29]->Ld PP 27 w' ⟨b,0,none⟩ (.slice a M.length c):=λH=>H.lo bSR;obtain⟨ad,l,ld,_⟩:=(h.go H.drew).ld hM;refine⟨_,rfl,AB (λh=>by omega) (λ_=>⟨_,_,_,D H.drew,_,_,_,_,lT H.drew,_,_,_,D H.drew,AA l ⟨⟨om,om⟩,_,ld (j:=1) xK rfl,AC (Gm (h.go H.drew) om nx hM) ?_⟩⟩)⟩;rintro _ w3 ⟨rfl,y⟩;replace H:=H.drew.xN y;obtain⟨ac,o,ld,_⟩:=(h.go H).ld hM;rw[l]at o;cases o;rw[B];have r:=(h.go H).sub (i:=0) (aZ _);rw[bJ,fF]at r;have cP:=SI r om (c-0) p.1.level g.wide om;refine⟨_,rfl,ld (j:=1) (v:=I p.1.level) xK rfl,D H,D H,⟨om,om,om⟩,?_⟩;rw[aN,aN];refine AC cP ?_;rintro _ O ⟨a2,c2,rfl,R,y⟩
  have T:JV M p.1.level=M:=by
   rw[N,JV]
   conv=>rhs;rw[<- map_id M]
   refine je λq _=>?_;simp
  rw[T]at R;have H0:Hp [] w O []:=(H.xN y).drop;refine⟨_,_,_,rfl,?_⟩;refine xI.mk (λm s w'=>∃(k:Nat)(a':OA)(c':Nat),m=M.length-k/\k<=M.length/\s=((a',((rws (M.take k)).map yH).length,c'),(k:Int))/\Hp [] O w' [.own 123 5 a' ((rws (M.take k)).map yH).length c' (yK ((rws (M.take k)).map yH) ((M.take k).map (·.2)))]) M.length ⟨0,none,0,rfl,om,rfl,(Hp.start O).yS 123 5⟩ ?_;rintro m s w5 next ⟨k,a',c',rfl,hk,rfl,t⟩ u
  refine AB (λn=>?_) (λn=>?_)
  ·obtain⟨q,d⟩:∃q,M[k]? =some q:=⟨_,aB om⟩;obtain⟨ad,l,_,_,ld⟩:=(R.go t).ld d;refine AA l ⟨⟨om,n⟩,_,_,_,_,_,_,_,ld,λb2 w6 U=>app_it (x:=⟨q.1.level,q.1.x⟩) (s:=q.2) t (by simp) (by simp;omega) U λa3 c3 w7 H7=>⟨iR,u (M.length-(k+1)) _ _ om ⟨k+1,a3,c3,rfl,om,?_,?_⟩⟩⟩
   ·rw[take_snoc d];simp[rws,yH]
   rw[take_snoc d,rws,ai,ai,ai];exact H7
  rw[aV om]at t⊢;have e:((rws M).map yH).length=M.length:=by simp
  rw[e]at t⊢;refine⟨a',c',M.map (·.2),rfl,⟨e.symm,by simp,(t.xh (.head _)).cells,λk x s C X=>?_⟩,H0.xN t.drop⟩;rw[au,au,Option.map_map]at C;rw[au]at X;obtain⟨q,d,rfl⟩:=cO.1 C;rw[d]at X;cases X;exact AtA.go (R.att q (aC d)) t _ (Chg.refl _ _)
def TrA.at_(h:TrA f w a c M)(H:Hp f w w' L):TrA (xq L) w' a c M:=
 ⟨λW b=>h.rd W (H.KDH b),λp d W b=>h.att p d W (H.KDH b),h.cap,λk e=>by
  obtain⟨x,g,i⟩:=BD.1 e;exact Asn.Jb (H.ok x g) k i⟩
def good_root{F:Fo}{T:Tr}(g:Am F T)(e:rws M=T.L):ww M:=by
 have b:∀p∈M,p.1.id≠0:=λp j=>by
  have:p.1.id∈ids F:=by
   rw[<- BK F 0,g.fl,<- e];exact aU.2 ⟨p.1,aU.2 ⟨p,j,rfl⟩,rfl⟩
  have:=g.pos _ this;omega
 rcases g.one with h|⟨i,x,k,h,_⟩
 ·have:M=[]:=by
   have d:=g.fl;rw[h,flat,<- e]at d;exact List.map_eq_nil_iff.1 d.symm
  subst this;exact⟨λp h=>(by cases h),λh=>(h rfl).elim,b⟩
 have d:=g.fl;rw[h,flat,flat,aX,<- e]at d;refine⟨λp j=>?_,λ_=>?_,b⟩
 ·have:=Kw j;rw[<- d,dI]at this;rw[<- Option.some.inj this]
 have l:=Ub (v:=0) (flat k (0+1)) 1 [] (λr m=>by have:=Bh k _ r m;omega) (by simp);rw[aX]at l;have n:M.length=(rws M).length:=(aQ _).symm;rw[n,<- d,yg];show KBr 0 (0+1) (flat k (0+1))=_;rw[l,aK];omega
theorem row_max{x:NX}(h:Ap x=0):rowB x<=1000000:=by
 obtain⟨A,q,r⟩:=DC h
 have d:∀{s:BA},BH s=0->s.size<=1500:=λ{s} h=>by
  rw[BH]at h;split at h
  ·cases h
  split at h
  ·cases h
  omega
 have e:rowB x=x.name.size+x.text.size+sB x.FP:=rfl;rcases JO h with g|g
 ·obtain⟨i,j,m,t⟩:=q g
  have u:∀(l:List At),(∀a∈l,a.1.size<=60/\a.2.size<=1500)->sB l<=1560*l.length:=by
   intro l
   induction l with
   |nil=>intro _;simp[sB]
   |cons a l y=>
    intro h;have n:=h a (.head _);have o:=y λb z=>h b (.tail _ z);have e:sB (a::l)=(a.1.size+a.2.size)+sB l:=rfl;rw[e,aK];omega
  have n:=u x.FP λa p=>⟨(j.1 a p).2.1,d ((Gt _).1 t a p)⟩;have o:x.text.size=0:=by rw[m];rfl
  have:=i.2.1;omega
 obtain⟨i,j,m⟩:=r g;have n:sB x.FP=0:=by rw[i];rfl
 have o:x.name.size=0:=by rw[m];rfl
 have:=d j;omega
def PX{F:Fo}{T:Tr}(b:Am F T)(e:rws M=T.L):TrG M T.next/\(∀q∈M,q.1.x.FP.length<=20)/\∀q∈M,rowB q.1.x<=1000000:=by
 have g:∀q∈M,q.1∈T.L:=λq d=>by rw[<- e];exact aU.2 ⟨q,d,rfl⟩
 refine⟨⟨?_,λq d=>⟨?_,b.deep _ (g q d)⟩,b.next⟩,λq d=>?_,λq d=>?_⟩
 ·have:=b.len;rw[<- e,aQ]at this;exact this
 ·exact Bh F 0 q.1 (by rw[b.fl];exact g q d)
 ·exact(DC (GH F 0 b.ok _ (by rw[b.fl];exact g q d))).1
 exact row_max (GH F 0 b.ok _ (by rw[b.fl];exact g q d))
def NC{b:Nat}{X:Tab}(h:(xu f b X).ok w)(B:TrA f w a c M)(e:rws M=X.T.L):
  CP 15 #[pq b,tV a M.length c X.T.next] w λe w'=>∃f',e=Ej (.bool true)/\Hp f w w' [xu f' b X]:=by
 apply Je6;obtain⟨F,u⟩:=LQ h;obtain⟨g,aa,_⟩:=PX u e;have hl:=g.len;have hR:=good_root u e;have j:X.T.L.length=M.length:=by rw[<- e,aQ]
 intro d w1 C;have H:=(BU h:Hp f w w [xu f b X]).new (cs:=tC a M.length c X.T.next) EQ4 C;refine AC (KY (H.ok _ m1)) ?_;rintro _ w2 ⟨r,f2,s,rfl,i⟩;replace H:Hp f w w2 (AV f2 s X.T::.blk d (tC a M.length c X.T.next) 29::[xu r b X]):=((H.AX).zK i).perm (AL λff D n o p q=>by simp only[p,o,n];omega);have m:∀{w':Wq}{x:Asn}{Z:List Asn},Hp f w w' (x::.blk d (tC a M.length c X.T.next) 29::Z)->Ld PP 29 w' ⟨d,0,none⟩ (tV a M.length c X.T.next):=λH=>H.loA bT2;have O:∀{w':Wq}{x:Asn}{Z:List Asn},Hp f w w' (x::.blk d (tC a M.length c X.T.next) 29::Z)->Ld PP 3 w' ⟨d,1,none⟩ (I X.T.next):=λH=>H.lo xK;refine⟨_,rfl,_,PE uZ,Cc ⟨_,O H.drew,AC (Oc (H.drew.ok _ (.head _))) ?_⟩⟩;rintro _ w3 ⟨rfl,G⟩;obtain rfl:=G.symm;replace H:=H.drew;refine⟨_,rfl,O H,AB (λ_=>⟨_,_,_,_,m H,AC (JZ (H.ok _ (.head _))) ?_⟩) (λh=>(h rfl).elim)⟩;rintro _ w4 ⟨R,oa,oc,rfl,i⟩;replace H:Hp f w w4 (AV R s X.T::.blk d (tC a M.length c X.T.next) 29::.own 3 1 oa X.T.L.length oc (AO (X.T.L.map (·.id)))::[xu r b X]):=(H.zK i).perm (AL λff D n o p q=>by simp only[p,o,n];omega);refine⟨_,_,_,rfl,m H,AC (PL (B.at_ H) om _) ?_⟩;rintro _ w5 ⟨pa,pc,rfl,i⟩;have y:=H.yC i;rw[j]at y⊢;refine⟨_,_,_,rfl,AC (rgSameIds_spec (y.xh m3).cells (by rw[<- e];exact(y.xh (.head _)).cells) (by rw[aQ,j]) (by rw[aQ,j]) (by rw[aQ,j];omega) pc) ?_⟩;rintro _ w6 ⟨rfl,i⟩;replace H:Hp f w w6 (AV R s X.T::.blk d (tC a M.length c X.T.next) 29::[xu r b X]):=((y.xN i).drop).KDJ;refine⟨_,rfl,Cc ⟨_,_,_,_,m H,_,_,_,_,m H,AC (OW (H.ok _ (.head _))) ?_⟩⟩;rintro _ w7 ⟨rfl,G⟩;obtain rfl:=G.symm;refine⟨_,rfl,m H,m H,AC (MQ (H.ok _ (.head _))) ?_⟩;rintro _ w8 ⟨U,Y,ic,z,rfl,J,i⟩;have A:Hp f w w8 (AV U s X.T::.blk d (tC a M.length c X.T.next) 29::(.own 123 5 Y X.T.L.length ic (yK (X.T.L.map Ac) z)::(Bo (X.T.L.map Ac) z++[xu r b X]))):=(H.zK i).perm (AL λff D n o p q=>by simp only[aH,p,o,n];omega);refine⟨_,_,_,rfl,m A,m A,AC (rgRoot_spec (B.at_ A) X.T.next) ?_⟩;rintro _ w9 ⟨rfl,i⟩;have K:=A.xN i;refine⟨_,rfl,m K,AC (rgItems_spec (B.at_ K) g hR) ?_⟩;rintro _ ab ⟨ja,jc,ts,rfl,hB,i⟩;have t:=K.xN i;have hA:=QL u J t m2 λx N=>.tail _ (t2 (aS _ N));refine⟨_,_,_,rfl,AC (rpSame_spec (l:=X.T.L.map yH) hA.now (by rw[<- e];exact hB) (by rw[aQ];omega) (λx N=>by have:=(DC (Dl u x N)).1;omega) jc) ?_⟩;rintro _ ac ⟨rfl,i⟩;refine⟨_,rfl,r,rfl,((t.xN i).perm (M:=[xu r b X]++(AV U s X.T::.blk d (tC a M.length c X.T.next) 29::.own 123 5 Y X.T.L.length ic (yK (X.T.L.map Ac) z)::Bo (X.T.L.map Ac) z)) (AL λff D n o p q=>by simp only[aH,p,o,n];omega)).BM⟩
end
noncomputable section
open Go Go.Vc Go.Nod
def pgs_w{f:Nq}{pa:OA}{pc:Nat}{P:List Sl.xR}{w:Wq}(h:(yO f pa pc P).ok w):zg P:=by
 obtain⟨L,⟨bs,i,a,_⟩,_⟩:=E5 h;intro R e;obtain⟨k,d⟩:=bD e;have c:=(aA.1 d).1;have b:=a.rep k _ R (aB (by rw[a.lg];exact c)) d;have j:=b.ok.many;exact⟨b.sorted,λp g=>by have:=b.below p g;omega,b.small⟩
def su{f:Nq}{b:Nat}{X:Tab}{w:Wq}(h:(xu f b X).ok w):zg X.P/\X.P.length<=4096:=by
 obtain⟨L,⟨z,c,d,e,g,i,_,a,rfl⟩,H,_⟩:=(BU h:Hp f w w [xu f b X]).unpack;exact⟨pgs_w (H.ok (yO e c d X.P) m4),a.st.len⟩
def ru{f:Nq}{b:Nat}{X:Tab}{w:Wq}(h:(xu f b X).ok w):(BJ X.P).length<=491520:=rowsT_len (su h).1 (su h).2
def KAN:Tr:=⟨Ar 1 0 KAM,3⟩
def KAO:Lj:=[⟨#[97]⟩]
def KBp:SM:=[(1,(922337203685477580,3689348814741910323)),(2,(1844674407370955161,2767011611056432742))]
def IL:Fol.Rec:=⟨1,0,1,1,922337203685477580,3689348814741910323,⟨#[]⟩,[]⟩
def IQ:Fol.Rec:=⟨2,1,2,0,1844674407370955161,2767011611056432742,⟨#[120]⟩,[]⟩
def doc_names:FM (KAN.L.map yH)=KAO:=by
 have e:(KAN.L.map yH).flatMap EG=[⟨#[97]⟩]:=by
  simp[KAN,KAM,KAb,KBq,Ar,yH,EG]
 rw[FM,e];simp[uniq,addN,Eh,KAO]
def WG:zD.words KAN=(KAO,0):=by
 rw[Tab.words,doc_names,Io];show GU [⟨#[97]⟩] []=_
 have e:KAU [] ⟨#[97]⟩=(KAV [] ⟨#[97]⟩,(yz [] none0:Int)+1,0):=by
  rw[KAU,if_neg (not_not_intro UT),if_neg (by rw[show KDI []=0 from rfl];omega)]
 rw[GU,if_neg (by simp[KAP]),e,if_neg (by simp)];rfl
theorem Xc:zD.spans KAN KDK=KBp:=by
 rw[Tab.spans,Tab.moved,if_neg (by simp[KDK]),Je]
 show(match Eg [(1,false),(2,false),(2,true),(1,true)] []with
  |some s=>s
  |none=>_)=_
 have e:KBd 0 4611686018427387904 4=some [922337203685477580,1844674407370955161,2767011611056432742,3689348814741910323]:=by
  rw[KBd,if_pos (by unfold inS;omega)];rfl
 have a:Eg [(1,false),(2,false),(2,true),(1,true)] []=some KBp:=by
  rw[Eg];show FW _ _ 5 0 0 0 []=_;rw[FW,if_pos (by decide),FW,if_pos (by decide),FW,if_pos (by decide),FW,if_pos (by decide),FW,if_neg (by decide)]
  show(match KBd 0 4611686018427387904 4 with
   |none=>none
   |some b=>_)=_
  rw[e];rfl
 rw[a]
def KFQ:Lj:=[DX 3,EZ 0 ⟨#[97]⟩,CO (Fol.BC IL 0),CO (Fol.BC IQ 0)]
def Vo:Fol.Df IL:=of_decide_eq_true (by kernel_rfl)
def VW:Fol.Df IQ:=of_decide_eq_true (by kernel_rfl)
def UX:Fol.pieces IL=[Fol.BC IL 0]:=by kernel_rfl
def Ut:Fol.pieces IQ=[Fol.BC IQ 0]:=by kernel_rfl
def doc_recs:DY KAN KBp KAO=KFQ:=by
 have a:yP KBp KAO 1 (AY KAN.L 0) KAb.x=IL:=by
  simp[yP,IL,KBp,KAO,KAb,KAN,KAM,Ar,AY,Eb,xm,zi,KAP,yz,none0]
 have b:yP KBp KAO 2 (AY KAN.L 1) KBq.x=IQ:=by
  simp[yP,IQ,KBp,KAO,KBq,KAb,KAN,KAM,Ar,AY,Eb,xm,zi,KAP,yz,none0]
 have c:GM KAN KBp KAO 0=[CO (Fol.BC IL 0)]:=by
  show(Fol.out (yP KBp KAO 1 (AY KAN.L 0) KAb.x)).map CO=_;rw[a,Fol.out,if_pos Vo,UX];rfl
 have d:GM KAN KBp KAO 1=[CO (Fol.BC IQ 0)]:=by
  show(Fol.out (yP KBp KAO 2 (AY KAN.L 1) KBq.x)).map CO=_;rw[b,Fol.out,if_pos VW,Ut];rfl
 rw[DY];show DX 3::(Dx 0 KAO++Di KAN KBp KAO 2)=_;rw[show(2:Nat)=1+1 from rfl,Ht,show(1:Nat)=0+1 from rfl,Ht,c,d];rfl
def UR:RM:=KAI [] KFQ
def KEw:Lj:=[⟨#[104]⟩,⟨#[110,0,0,0,1,0]⟩,⟨#[110,0,0,0,2,0]⟩,⟨#[119,0,1]⟩]
def doc_keys:UR.map (·.1)=[⟨#[104]⟩,⟨#[119,0,1]⟩,⟨#[110,0,0,0,1,0]⟩,⟨#[110,0,0,0,2,0]⟩]:=by kernel_rfl
def doc_sort:Eh (UR.map (·.1))=KEw:=by
 refine dh (le:=λx y=>x.data.toList<y.data.toList) (λa b _ _ c d=>absurd d (List.lt_asymm c)) (I8 (Vq KFQ [] .nil)) (by unfold KEw;decide) ((Dq _).trans ?_);rw[doc_keys];exact .cons _ (dU (l₁:=[_]) (l₂:=[_,_]))
def Jl:WSt:=(zh UR KEw ⟨[],[],[]⟩).1
def vP:Tab:=⟨KAN,KBp,KAO,Jl.P,Jl.Q⟩
def doc_wr:zD.wr KAN KDK=(Jl,0):=by
 rw[Tab.wr,Xc,WG,BV,doc_recs,EO];show zh UR (Eh (UR.map (·.1))) (Fp UR (Eh []) ⟨[],[],[]⟩)=_;rw[doc_sort,show Eh []=[] by simp[Eh]];have h:(zh UR KEw ⟨[],[],[]⟩).2=0:=by kernel_rfl
 exact pY rfl h
def doc_do2:∃D,doP zD KDK=(vP,1,D,0)/\D≠[]:=by
 have e:(zD.T.xg KDK)=(KAN,1,0):=TN;refine⟨CJ zD.P Jl.P Jl.D,?_,?_⟩
 ·rw[doP,e,if_neg (by simp),WG,if_neg (by simp),doc_wr,if_neg (by simp),Xc];rfl
 intro h;have a:=congrArg List.length h;rw[CJ,QE,(gW _ _).length_eq]at a;have b:((Jl.D.map (·.1)).filterMap (Dj [] Jl.P)).length=4:=by kernel_rfl
 have a:((Jl.D.map (·.1)).filterMap (Dj [] Jl.P)).length=0:=a;omega
def Y8:LdS:=⟨Jl.P,Jl.Q,3,KAO,[(1,[Fol.BC IL 0]),(2,[Fol.BC IQ 0])]⟩
def doc_take:Gx KBQ (BJ Jl.P)=some Y8:=by kernel_rfl
def doc_wok:WOk KAO:=by
 refine⟨λs a=>.inr ?_,λj k s b c _=>?_,by simp[KAO,none0],by simp[KAO]⟩
 ·rw[aW.1 a];exact UT
 have d:=(aA.1 b).1;have e:=(aA.1 c).1;simp only[KAO,aK,dK]at d e;omega
def uD{r:Fol.Rec}(h:Fol.Df r)(e:Fol.pieces r=[Fol.BC r 0]):Fol.KCB (sortL [Fol.BC r 0]) r:=⟨h,by rw[e,sortL,List.mergeSort_singleton]⟩
def doc_lev:GV [Ef IL,Ef IQ]=some [0,1]:=by
 rw[GV,KCC,if_neg,KCC,if_neg,KCC]
 ·rfl
 ·simp[KEA,inS,Ef,IL,IQ,KAz]
 simp[KEA,inS,Ef,IL,IQ,KAz]
theorem doc_tree:rW KAO KAN [IL,IQ]:=by
 refine⟨rfl,?_,?_,?_,?_,doc_lev⟩
 ·intro j r q a b
  match j,a,b with
  |0,a,b=>cases a;cases b;rfl
  |1,a,b=>cases a;cases b;rfl
 ·intro j r q a b
  match j,a,b with
  |0,a,b=>cases a;cases b;rfl
  |1,a,b=>cases a;cases b;rfl
 ·intro j r q a b
  match j,a,b with
  |0,a,b=>cases a;cases b;rfl
  |1,a,b=>cases a;cases b;rfl
 intro q c;rcases aP.1 c with rfl|c
 ·exact⟨λ_=>⟨by decide,by decide⟩,λp d=>(by cases d),.nil,by decide⟩
 rw[aW.1 c];exact⟨λh=>absurd h (by decide),λp d=>(by cases d),.nil,by decide⟩
theorem doc_load:∃F,uT (BJ Jl.P) Y8 [IL,IQ] F KAN:=by
 obtain⟨F,c⟩:=doc_good;rw[TN]at c;refine⟨F,doc_take,doc_wok,⟨[1,2],[IL,IQ],.refl _,by decide,rfl,λj i r a b=>?_,.refl _⟩,by simp[IL,IQ],c,doc_tree,rfl⟩
 match j,a,b with
 |0,a,b=>cases a;cases b;exact uD Vo UX
 |1,a,b=>cases a;cases b;exact uD VW Ut
def Q5(w:Wq):CP 12 #[] w λe w'=>e=Ej (.bool true)/\Hp [] w w' []:=by
 apply Jaa;refine AC (QI w) ?_;rintro _ B ⟨b,f,rfl,C⟩;refine⟨_,rfl,_,Vb Ua,Au ?_⟩;refine AC (doc_spec B) ?_;rintro _ G ⟨y,rfl,H⟩;have J:=C.yC H;refine⟨_,_,_,rfl,?_⟩;have l:=J.AX;have K:CW f G (Pq y) 2 KAM [(none,0,0),(none,0,0)]:=doc_arg l m1 (l.keep (.head _));have m:=l.ok (xu f b zD) (.head _);refine AC (Zm m KDK (Pq y) 2 2 _ K om (by decide)) ?_;rintro _ w3 ⟨L,ca,cc,rfl,M⟩;have n:=l.zK M;obtain⟨D,z,o⟩:=doc_do2;rw[z]at n;rw[z];refine⟨_,_,_,_,_,rfl,AC (Gq (n.ok (xu L b vP) (.head _))) ?_⟩;rintro _ N ⟨O,R,rfl,U⟩;have A:=n.yC U;obtain⟨F,X⟩:=doc_load;refine⟨_,_,_,rfl,AC (Uj X O _ R N (λW Z=>?_) rfl (by decide)) ?_⟩
 ·exact(A.xh (.head _)).cells.chg Z (by simp)
 rintro _ w5 ⟨uf,p,rfl,H9⟩;have a:=A.yC H9;refine⟨_,_,rfl,?_⟩;refine AB (λ_=>AB (λ_=>AB (λ_=>AB (λ_=>⟨_,PE Ua,Cc ?_⟩) (λh=>(h rfl).elim)) (λh=>(h rfl).elim)) (λh=>?_)) (λh=>(h rfl).elim);rotate_left
 ·have:=fC.2 o;exact(h (show(0:Int)<((D.length:Nat):Int) by omega)).elim
 obtain⟨Y,d⟩:∃Y:Tab,Y=⟨KAN,spR [IL,IQ],Y8.V,Y8.P,Y8.Q⟩:=⟨_,rfl⟩;have g:Y.T=⟨Ar 1 0 KAM,3⟩:=by rw[d];rfl
 rw[<- d]at a;refine AC (KY (a.ok (xu uf p Y) (.head _))) ?_;rintro _ w6 ⟨g1,g2,gb,rfl,q⟩;have i:=a.zK q;refine⟨_,rfl,_,PE uZ,Cc (AC (KY (i.ok (xu g1 p Y) (.head _))) ?_)⟩;rintro _ w7 ⟨g3,g4,r,rfl,s⟩;have c:=i.zK s;refine⟨_,rfl,AC (gLen_spec (c.ok (AV g4 r Y.T) m1)) ?_⟩;rintro _ w8 ⟨rfl,t⟩;obtain rfl:=t.symm;refine⟨_,rfl,AB (λ_=>AC (KY (c.ok (xu g3 p Y) (.head _))) ?_) (λh=>(h (by rw[g];rfl)).elim)⟩;rintro _ w9 ⟨g5,g6,u,rfl,x⟩;have j:=c.zK x;refine⟨_,rfl,AC (Oc (j.ok (AV g6 u Y.T) m1)) ?_⟩;rintro _ aa ⟨rfl,t⟩;obtain rfl:=t.symm;refine⟨_,rfl,?_,j.done⟩;rw[g];rfl
end
noncomputable section
open Go Go.Vc Go.Nod Classical
variable{f:List Nat}{w w':World}{a:Option Addr}{c:Nat}{M:List DR}{L:List Asn}{nx:Int}
def TrA.turn{S S' B:Nq}(h:TrA S w a c M)(e:Chg B w w')(j:∀k∈B,k∈S)(g:∀k∈S',k∈S):TrA S' w' a c M:=by
 have i:∀{W:Wq},Chg S' w' W->Chg S w W:=λb=>e.trans b j λk d=>.inl (g k d);exact⟨λW b=>h.rd W (i b),λp l W b=>h.att p l W (i b),h.cap,λk d=>fM (h.lt k (g k d)) e.size⟩
def F7{B:Nq}{w0:Wq}{x:Asn}(H:Hp B w0 w (x::L)){S:Nq}(m:∀k∈S,k∈xq L){W:Wq}(h:Chg S w W):x.ok W:=by
 have b:=H.ok x (.head _);refine Asn.Ri b λk e=>h.2.2.2.2 k (Asn.Jb b k e) λg=>?_;obtain⟨y,i,d⟩:=BD.1 (m k g);exact(bF.1 H.sep).1 y i k e d
def ZE{b h n:Nat}{X:Tab}{cs cs':LV}{T d:TypeId}(e:xu f b X∈L)(i:Asn.blk h cs T∈L)(j:Asn.blk n cs' d∈L):∀k∈f++[h,n],k∈xq L:=λk l=>by
 rcases aT.1 l with g|g
 ·exact BD.2 ⟨_,e,g⟩
 rcases aP.1 g with rfl|g
 ·exact BD.2 ⟨_,i,.head _⟩
 rw[aW.1 g];exact BD.2 ⟨_,j,.head _⟩
def edit_bad{T:Tr}{o:OpP}(h:(T.xg o).2.2≠0):(T.xg o).1=T/\(T.xg o).2.1=0:=by
 have b:∀l,(T.load l).2.2≠0->(T.load l).1=T/\(T.load l).2.1=0:=λl=>by
  unfold Tr.load;repeat' split
  all_goals simp
 have d:∀i a l,(T.insert i a l).2.2≠0->(T.insert i a l).1=T/\(T.insert i a l).2.1=0:=λi a l=>by
  unfold Tr.insert;repeat' split
  all_goals simp
 have e:∀i,(T.delete i).2≠0->(T.delete i).1=T:=λi=>by
  unfold Tr.delete;repeat' split
  all_goals simp
 have g:∀i a l,(T.move i a l).2≠0->(T.move i a l).1=T:=λi a l=>by
  unfold Tr.move;repeat' split
  all_goals simp
 have j:∀i a,(T.Be i a).2≠0->(T.Be i a).1=T:=λi a=>by
  unfold Tr.Be;repeat' split
  all_goals simp
 have m:∀i a,(T.Bj i a).2≠0->(T.Bj i a).1=T:=λi a=>by
  unfold Tr.Bj;repeat' split
  all_goals simp
 have n:∀i a,(T.Bv i a).2≠0->(T.Bv i a).1=T:=λi a=>by
  unfold Tr.Bv;repeat' split
  all_goals simp
 unfold Tr.xg at h⊢
 repeat' split at h
 all_goals simp_all
def KDy(os:List NOp):Prop:=∀q∈os,(∀x∈q.o.l,KCX x.x/\x.level<=9223372036854775807)/\q.o.name.size<=2000000/\q.o.text.size<=2000000
def TrA.atS{U0:Nq}(h:TrA (U0++f) w a c M)(H:Hp f w w' L):TrA (U0++xq L) w' a c M:=by
 have j:∀{W:Wq},Chg (U0++xq L) w' W->Chg (U0++f) w W:=λb=>H.chg.trans b (λk d=>aI _ d) λk d=>(aT.1 d).elim (λg=>.inl (aS _ g)) λg=>by
  obtain⟨x,e,i⟩:=BD.1 g;exact(H.own x e k i).imp (aI _) id
 refine⟨λW b=>h.rd W (j b),λp l W b=>h.att p l W (j b),h.cap,λk d=>(aT.1 d).elim (λg=>fM (h.lt k (aS _ g)) H.chg.size) λg=>?_⟩;obtain⟨x,e,i⟩:=BD.1 g;exact Asn.Jb (H.ok x e) k i
def inS{U0 A B:Nq}(h:∀k∈A,k∈B):∀k∈U0++A,k∈U0++B:=λk b=>(aT.1 b).elim (aS _) λg=>aI _ (h k g)
def swS{U0 A B:Nq}:∀k∈U0++(A++B),k∈A++(U0++B):=λk b=>by simp only[aT]at b⊢;exact b.elim (λh=>.inr (.inl h)) λh=>h.imp id .inr
def Vk{K:Tab->Prop}(hK:∀{f:Nq}{b:Nat}{X:Tab}{o:OpP}{w:Wq},K X->(xu f b (doP X o).1).ok w->K (doP X o).1){U0:Nq}{w0:Wq}{b:Nat}{X:Tab}{Z:List Asn}{sa:OA}{os:List NOp}(H0:Hp [] w0 w (xu f b X::Z))(hZ:∀k∈U0,k∈xq Z)(hX:TInv0 X/\K X)(hT:TrA (U0++f) w a c M)(e:rws M=X.T.L)(hs:KCg w0 sa os)(hf:KDy os)(sc:Nat):
  CP 13 #[pq b,tV a M.length c X.T.next,.slice sa os.length sc] w λe w'=>∃f' X' a' c' M',e=Ej (.tuple #[tV a' M'.length c' X'.T.next,.bool true])/\(TInv0 X'/\K X')/\rws M'=X'.T.L/\TrA (U0++f') w' a' c' M'/\Hp f w w' [xu f' b X']:=by
 apply Jdc;have cb:=hs.len;have ht:=H0.ok _ (.head _);intro h w1 bj n w2 bk;have Hs:Hp f w w [xu f b X]:=BU ht;have H:=(Hs.new (cs:=tC a M.length c X.T.next) EQ4 bj).new (cs:=tC none 0 0 0) EQ4 bk;have bl:=ru ht;refine AC (Gq (H.ok _ m2)) ?_;rintro _ w3 ⟨ra,rc,rfl,p⟩;replace H:=H.yC p;refine⟨_,_,_,rfl,AC (Gh ra rc _ w3 om (H.xh (.head _)).cells) ?_⟩;rintro _ w4 ⟨pa,pc,rfl,p⟩;replace H:=H.yC p;have foot:∀{f:Nq}{X:Tab},(xu f b X).foot=f:=rfl;have cd:∀{r:Nq}{i:Tab}{cs aw:LV}{T T':TypeId},xq [xu r b i,.blk h cs T,.blk n aw T']=r++[h,n]:=λ{r i cs aw T T'}=>rfl;refine⟨_,_,_,rfl,xI.mk (λm s w'=>∃(k:Nat)(r:Nq)(i:Tab)(A:OA)(t:Nat)(u:List DR)(Y:OA)(lc:Nat),m=os.length-k/\k<=os.length/\s=((Y,(BJ i.P).length,lc),(k:Int))/\(TInv0 i/\K i)/\rws u=i.T.L/\TrA (U0++(r++[h,n])) w' A t u/\(∀W,Chg (r++[h,n]) w' W->Cells W Y (xy (BJ i.P)))/\Hp f w w' [xu r b i,.blk h (tC A u.length t i.T.next) 29,.blk n (tC none 0 0 0) 29]) os.length ⟨0,f,X,a,c,M,pa,pc,rfl,om,rfl,hX,e,?_,λW hW=>?_,?_⟩ ?_⟩
 ·have h1:=hT.atS H;exact h1.turn (Chg.refl _ _) (λk z=>z) (inS (ZE m4 m3 m2))
 ·exact Own.cells (F7 H (ZE m3 m2 m1) hW)
 ·exact H.drop.drop.perm (AL λff gg h0 hc ha bm=>by simp only[hc,h0];omega)
 rintro m s w5 next ⟨k,r,i,A,t,u,Y,lc,rfl,z,rfl,hX,e,hT,hC,H⟩ ak
 have al:=H.ok _ (.head _);have bl:=ru al;obtain⟨F,hG⟩:=LQ al;obtain⟨g,bo,ce⟩:=PX hG e;have a0:∀q∈u,q.1.x.FP.length<=1000:=λq hq=>by have:=bo q hq;omega
 refine AB (λh1=>?_) (λh1=>?_);rotate_left
 ·--the end
  have Hd:=H.drew;refine⟨_,_,_,_,Hd.loA bT2,AC (Gq (Hd.ok _ (.head _))) ?_⟩;rintro _ w6 ⟨ra,rc,rfl,p⟩;have H2:=Hd.yC p;refine⟨_,_,_,rfl,H2.loA bT2,AC (Gh ra rc _ w6 om (H2.xh (.head _)).cells) ?_⟩;rintro _ w7 ⟨pa,pc,rfl,a3⟩;have H3:=H2.yC a3;have a4:Chg [] w5 w7:=(((Hp.start w5).drew.xN p.done).xN a3.done).chg;refine⟨_,_,_,rfl,H3.loA bT2,AC (UC Y lc _ pa pc _ om w7 (hC w7 (a4.more (by simp))) (H3.xh (.head _)).cells) ?_⟩;rintro _ w8 ⟨rfl,p⟩;have H4:=H3.xN p;refine⟨_,rfl,H4.loA bT2,?_⟩;refine giv H4.drop.drop.BF rfl λw9 hc H5=>⟨_,_,_,_,H5.loA bT2,r,i,A,t,u,by rw[decide_eq_true rfl],hX,e,?_,H5.drop.BM (L:=[_])⟩;have bp:=(hT.turn (a4.more (T:=[]) (by simp)) (by simp) (λk z=>z)).go p;exact bp.turn hc (by simp) (inS λk z=>aS _ z)
 obtain⟨q,hq⟩:∃q,os[k]? =some q:=⟨_,aB om⟩;have G:=aC hq;obtain⟨bq,bv⟩:=hf q G;obtain⟨ad,bw,bx⟩:=hs.ld (H0.zK H).chg hq;refine xM.mk (λs w'=>∃(r:Nq)(i:Tab)(A:OA)(t:Nat)(u:List DR)(Y:OA)(lc:Nat),s=(Y,(BJ i.P).length,lc)/\(TInv0 i/\K i)/\rws u=i.T.L/\TrA (U0++(r++[h,n])) w' A t u/\(∀W,Chg (r++[h,n]) w' W->Cells W Y (xy (BJ i.P)))/\Hp f w w' [xu r b i,.blk h (tC A u.length t i.T.next) 29,.blk n (tC none 0 0 0) 29]) ?_ ?_
 ·rintro s w6 ⟨r,i,A,t,u,Y,lc,rfl,g1,g2,g3,g4,g5⟩;exact⟨iR,ak (os.length-(k+1)) _ _ om ⟨k+1,r,i,A,t,u,Y,lc,rfl,om,rfl,g1,g2,g3,g4,g5⟩⟩
 intro J hJ;refine AA bw ⟨⟨om,h1⟩,_,_,_,_,_,_,_,_,_,bx,λj w6 b0=>?_⟩;have R:=Hp.Cb H.std;have R2:=R.nw b0;refine Hp.sA R2 ZK (cs':=KBu q) λw7 R3=>?_
 have a6:∀{w':Wq}{L':List Asn},Hp f w w' L'->CW (U0++xq L') w' q.a q.o.l.length q.o.l q.ss:=λp=>(hs.it q G).go (H0.zK p) λk z=>(aT.1 z).elim (λh=>by
  obtain⟨x,hx,an⟩:=BD.1 (hZ k h);exact BD.2 ⟨x,aI _ hx,an⟩) λz=>by
  obtain⟨x,hx,an⟩:=BD.1 z;exact BD.2 ⟨x,aS _ hx,an⟩
 refine⟨_,_,_,_,R3.loA bT2,_,_,_,_,_,_,_,_,_,R3.loA ZK,AC (rnDo_spec (TrA.atS (f:=r++[h,n]) hT R3) g a0 q.o q.a _ q.c q.ss (a6 (H.GR R3)) bq (hs.lens q G) bv) ?_⟩;rintro _ w8 ⟨a2,B,M2,rfl,e2,ac,p⟩;have eX:(⟨rws u,i.T.next⟩:Tr)=i.T:=by rw[e]
 rw[eX]at e2⊢;have R4:=R3.xN p;refine⟨_,_,_,_,_,_,rfl,λs w9 a7=>?_⟩;have b3:=(Hp.start w8).new (cs:=tC none 0 0 0) EQ4 a7;have ao:=ac.mv b3 (S:=[s]) (by simp[xq,Asn.foot]);refine giv (R4.new (cs:=tC none 0 0 0) EQ4 a7) rfl λa8 a9 R6=>?_;replace ao:=ao.turn (S':=U0++([s]++xq [.blk j (KBu q) 36,xu r b i,.blk h (tC A u.length t i.T.next) 29,.blk n (tC none 0 0 0) 29])) a9 (λk z=>aS _ z) swS;have Q:=Hp.Cb R6.std;refine⟨_,_,_,_,_,_,_,_,_,R6.loA ZK,AC (own_spec q.o q.a q.o.l.length q.c _) ?_⟩;rintro _ b4 ⟨rfl,p⟩;replace Q:=Q.xN p
 have hA:CW r b4 q.a q.o.l.length q.o.l q.ss:=by
  have h2:=a6 (H.GR (R6.GR Q));exact⟨λW hW=>h2.rd W (hW.more λk z=>aI _ (BD.2 ⟨xu r b i,.tail _ m1,z⟩)),h2.len,h2.sls,h2.small⟩
 refine⟨_,_,_,_,_,_,_,_,_,rfl,AC (Zm (Q.ok (xu r b i) m2) q.o q.a _ q.c q.ss hA (hs.lens q G) (hs.txt q G)) ?_⟩;obtain⟨F2,ap⟩:=edit_good (Q.ok (xu r b i) m2) q.o q.a _ q.c q.ss hA (hs.lens q G) (hs.txt q G);rintro _ b5 ⟨f2,ca,cc,rfl,p⟩;have Q2:=(Q.BF).zK p;have aa:=Q2.ok (xu f2 b (doP i q.o).1) (.head _);obtain⟨t1,t2,t3,t4,t5⟩:=tab_do hX.1 al aa;replace t1:TInv0 (doP i q.o).1/\K (doP i q.o).1:=⟨t1,hK hX.2 aa⟩;have cases:=do_cases (o:=q.o) hX.1 hG ap;obtain⟨C,ab⟩:∃C,C=(doP i q.o).1:=⟨_,rfl⟩;obtain⟨D,ba⟩:∃D,D=(doP i q.o).2.2.1:=⟨_,rfl⟩;obtain⟨O,ac⟩:∃O,O=(i.T.xg q.o).1:=⟨_,rfl⟩;rw[<- ab]at Q2 aa t1 t4;rw[<- ba]at Q2 t2 t3 t4 t5⊢;rw[<- ac]at e2 ap cases R6 Q2;obtain⟨g2,bb,bc⟩:=PX ap e2;refine⟨_,_,_,_,_,rfl,?_⟩;have b6:∀{w':Wq}{a':OA}{c':Nat}{N:List DR}{ae:OA}{Z':List Asn},rws N=C.T.L->Hp (xq [.blk s (tC a2 M2.length B O.next) 29,.blk j (KBu q) 36,xu r b i,.blk h (tC A u.length t i.T.next) 29,.blk n (tC none 0 0 0) 29]) a8 w' (xu f2 b C::.blk h (tC a' N.length c' C.T.next) 29::.blk n (tC none 0 0 0) 29::Z')->TrA (U0++(f2++[h,n])) w' a' c' N->(∀W,Chg (f2++[h,n]) w' W->Cells W ae (xy (BJ C.P)))->∀aq,J (ae,(BJ C.P).length,aq) w':=λ{w' a' c' N ae Z'} g2 P g3 g4 aq=>hJ _ _ ⟨f2,C,a',c',N,ae,aq,rfl,t1,g2,g3,g4,(H.GR (R6.GR P)).BM (L:=[_,_,_])⟩;have mono:∀{w':Wq}{S S':Nq}{a':OA}{c':Nat}{N:List DR},(∀k∈S',k∈S)->TrA S w' a' c' N->TrA S' w' a' c' N:=λm h=>h.turn (Chg.refl _ _) (λk z=>z) m
 have same:C=i->∀{w':Wq},Hp (xq [.blk s (tC a2 M2.length B O.next) 29,.blk j (KBu q) 36,xu r b i,.blk h (tC A u.length t i.T.next) 29,.blk n (tC none 0 0 0) 29]) a8 w' (xu f2 b C::.own 55 4 ca D.length cc (xy D)::.blk s (tC a2 M2.length B O.next) 29::.blk j (KBu q) 36::.blk h (tC A u.length t i.T.next) 29::[.blk n (tC none 0 0 0) 29])->J (Y,(BJ i.P).length,lc) w':=λaf {w'} P=>by
  have P2:Hp f w w' [xu f2 b C,.blk h (tC A u.length t i.T.next) 29,.blk n (tC none 0 0 0) 29]:=(((H.GR (R6.GR P)).KBe).KBe).KBe;have fe:=ZE (L:=xu f2 b C::.own 55 4 ca D.length cc (xy D)::.blk s (tC a2 M2.length B O.next) 29::.blk j (KBu q) 36::.blk h (tC A u.length t i.T.next) 29::[.blk n (tC none 0 0 0) 29]) (.head _) m4 m5;refine hJ _ _ ⟨f2,C,A,t,u,Y,lc,by rw[af],t1,by rw[af];exact e,mono (inS fe) (TrA.atS (f:=r++[h,n]) hT (R6.GR P)),λW hW=>?_,by rw[af]at P2⊢;exact P2⟩;rw[af];exact hC W ((R6.GR P).KDH (hW.more fe))
 have y:=TrA.atS (f:=xq [.blk s (tC a2 M2.length B O.next) 29,.blk j (KBu q) 36,xu r b i,.blk h (tC A u.length t i.T.next) 29,.blk n (tC none 0 0 0) 29]) ao Q2
 have bd:((doP i q.o).2.1=(i.T.xg q.o).2.1/\(doP i q.o).2.2.2=(i.T.xg q.o).2.2/\C.T=O/\((i.T.xg q.o).2.2≠0->D=[])/\((doP i q.o).2.2.2=94->C=i))\/((doP i q.o).2.2.2=94/\C=i/\YV O):=by
  rcases cases with⟨t,B⟩|⟨t,B,c3⟩|⟨t,B,c3,c4⟩
  ·obtain⟨b1,b2⟩:=edit_bad t;exact .inl ⟨by rw[B,b2],by rw[B],by rw[ab,B,ac,b1],λ_=>by rw[ba,B],λ_=>by rw[ab,B]⟩
  ·exact .inr ⟨by rw[B],by rw[ab,B],c3⟩
  exact .inl ⟨c4,by rw[B,t],by rw[ab,c3],λh=>(h t).elim,λh=>by omega⟩
 refine xM.mk (λ_ w'=>((doP i q.o).2.1=(i.T.xg q.o).2.1/\(doP i q.o).2.2.2=(i.T.xg q.o).2.2/\C.T=O/\((i.T.xg q.o).2.2≠0->D=[]))/\Hp [] b5 w' []) ?_ ?_;rotate_left
 ·intro J1 bh;refine AB (λar=>⟨_,_,_,_,Q2.loA bT2,AC (rnWide_spec y g2.len (λq hq=>by have:=bb q hq;omega) bc) ?_⟩) (λar=>?_)
  ·rintro _ b7 ⟨rfl,p⟩;have eT:(⟨rws M2,O.next⟩:Tr)=O:=by rw[e2]
   rw[eT];rcases bd with⟨o1,o2,o3,o4,o5⟩|⟨_,o2,o3⟩
   ·exact⟨_,rfl,Du (λ_=>same (o5 ar) (Q2.xN p)) (λ_=>bh _ _ ⟨⟨o1,o2,o3,o4⟩,p⟩)⟩
   exact⟨_,rfl,Du (λ_=>same o2 (Q2.xN p)) (λh=>by rw[decide_eq_true o3]at h;cases h)⟩
  rcases bd with⟨o1,o2,o3,o4,o5⟩|⟨o1,_⟩
  ·exact bh _ _ ⟨⟨o1,o2,o3,o4⟩,Hp.start _⟩
  exact(ar o1).elim
 rintro _ b7 ⟨⟨o1,o2,o3,o4⟩,p⟩;replace y:=y.go p;have P:=Q2.xN p;refine⟨_,_,_,_,P.loA bT2,giv P.JH rfl λag hc P2=>?_⟩;replace y:=y.turn hc (λk z=>by rw[aW.1 z];exact aI _ (BD.2 ⟨_,.tail _ m3,.head _⟩)) (inS (ZE (.head _) m4 m5));have mo:∀{W:Wq},Chg [] ag W->Cells W ca (xy D):=λhW=>(P2.xh m2).cells.chg hW (by simp);refine xM.mk (λam w'=>am=false/\Hp [] ag w' []) ?_ ?_;rotate_left
 ·intro J2 b8
  have ah:C7 16 [S ca D.length cc] ag λc a b d=>C2 34 [S c a b] d λh d=>J2 (!h) d:=by
   refine AC (Gh ca cc D ag om (mo (Chg.refl _ _))) ?_;rintro _ av ⟨pa,pc,rfl,p⟩;refine⟨_,_,_,rfl,AC (rise_spec pa pc D av om (p.xh (.head _)).cells t2) ?_⟩;rintro _ b9 ⟨rfl,H2⟩;exact⟨_,rfl,b8 _ _ ⟨rfl,p.drop.xN H2⟩⟩
  refine AQ (λh=>(h o1).elim) (λ_=>AQ (λh=>(h o2.symm).elim) (λ_=>AQ (λh3=>AB (λh4=>?_) (λ_=>ah)) (λ_=>ah)));rw[o4 h3]at h4;simp at h4
 rintro am av ⟨rfl,p⟩;have P3:=P2.xN p;replace y:=y.go p;refine Au (AC (Gh ca cc D av om (mo p.chg)) ?_);rintro _ b9 ⟨pa,pc,rfl,p⟩;have P4:=P3.yC p;replace y:=y.go p;have U:=R6.GR P4;refine⟨_,_,_,rfl,AC (rchanged_spec (λW hW=>hC W (U.KDH hW)) (λk z=>?_) om lc (P4.xh (.head _)).cells om pc) ?_⟩
 ·obtain⟨x,hx,hf⟩:=BD.1 z;exact Asn.Jb (P4.ok x hx) k hf
 rintro _ cf ⟨a5,c5,rfl,p,bi⟩;rw[t4]at bi⊢
 refine⟨_,_,_,rfl,b6 (N:=M2) (e2.trans (by rw[o3])) (Z':=[.own 79 4 pa D.length pc (xy D),.own 55 4 ca D.length cc (xy D),.blk s (tC a2 M2.length B O.next) 29,.blk j (KBu q) 36]) ((P4.xN p).perm (by
  rw[o3];exact AL λff gg h0 hc ha bm=>by simp only[hc,h0];omega)) (y.go p) (λW hW=>bi W (hW.more (ZE m2 m1 m6))) _⟩
end
open Go Go.Vc Go.Nod Go.ChangeAt
def own_:ownKnob PP.godebug=none:=by kernel_rfl
def laid_:laidOutB PP=true:=by kernel_rfl
def und4:PP.underlying 4=some .bool:=by kernel_rfl
theorem PS{H:Type}:∀l:List (DataW H),Rows.uptoBulkAll l=(l.map Rows.uptoBulk).sum
 | []=>rfl
 |d::r=>by rw[Rows.uptoBulkAll,PS r];rfl
theorem bulk_ok{H:Type}:KEr (H:=H) Rows.uptoBulk:=by
 refine⟨λd=>?_,λb=>?_,λl s=>?_,λl=>?_⟩
 ·cases d with
  |lit l=>cases l<;>simp[Rows.uptoBulk]
  |_=>simp[Rows.uptoBulk]
 ·simp[Rows.uptoBulk]
 ·rw[Rows.uptoBulk,PS];omega
 rw[Rows.uptoBulk,PS];omega
def bulk_small{H:Type}(ds:List (DataW H))(h:Rows.uptoSmall H ds=true):(ds.map Rows.uptoBulk).sum<=1048576:=by
 rw[<- PS];exact of_decide_eq_true h
def KDx(W:Wq)(n:Nat)(e:TypeId)(K:LV->Nat->Prop):Prop:=∃(a:OA)(cap:Nat)(els:List (LV×Nat)),els.length<=cap/\cap<=maxLen/\(a=none->els=[])/\(∀x∈els,RdW PP W n e (λcs m=>x.1=cs/\m<=x.2))/\Cells W a (els.map (·.1)).flatten/\K [.slice a els.length cap] ((els.map λx=>x.2+1).sum)
def rdu_at(W:Wq)(n:Nat)(K:LV->Nat->Prop):RdW PP W (n+2) 142 K=(∃s t:BA,K (.string s::.string t::[]) (s.size+(t.size+0))):=by kernel_rfl
def rdu_it(W:Wq)(n:Nat)(K:LV->Nat->Prop):RdW PP W (n+4) 123 K=(∃i,gB i/\∃j,gB j/\∃s t:BA,KDx W (n+2) 142 λx m=>K (I i::I j::.string s::.string t::(x++[])) (0+(0+(s.size+(t.size+(m+0)))))):=by kernel_rfl
def rdu_op(W:Wq)(n:Nat)(K:LV->Nat->Prop):RdW PP W (n+6) 36 K=(∃i,gB i/\∃j,gB j/\∃k,gB k/\∃l,gB l/\∃s t:BA,KDx W (n+4) 123 λx m=>K (I i::I j::I k::I l::.string s::.string t::(x++[])) (0+(0+(0+(0+(s.size+(t.size+(m+0)))))))):=by kernel_rfl
theorem KEx{α:Type}{f:α->LV}{g:α->Nat}{Q:α->Prop}:∀(a:List (LV×Nat)),(∀x∈a,∃p,Q p/\x.1=f p/\g p<=x.2)->∃l:List α,a.map (·.1)=l.map f/\l.length=a.length/\(∀p∈l,Q p/\g p<=(a.map λx=>x.2+1).sum)/\l.length<=(a.map λx=>x.2+1).sum
 | [],_=>⟨[],rfl,rfl,by simp,by simp⟩
 |x::r,h=>by
  obtain⟨p,c,e,n⟩:=h x (.head _);obtain⟨l,d,i,j,o⟩:=KEx r λy m=>h y (.tail _ m);refine⟨p::l,by simp[d,e],by simp[i],λq b=>?_,?_⟩
  ·rw[aj,iW];rcases aP.1 b with rfl|b
   ·exact⟨c,om⟩
   have:=j q b;exact⟨this.1,om⟩
  rw[aj,iW,aK];omega
def argU_at{W:Wq}{n:Nat}{K:LV->Nat->Prop}(h:KDx W (n+2) 142 K):∃(a:OA)(c:Nat)(l:List At)(m:Nat),Cells W a (atC l)/\l.length<=m/\(∀p∈l,p.1.size<=m/\p.2.size<=m)/\K [.slice a l.length c] m:=by
 obtain⟨a,d,e,B,_,C,b,i,j⟩:=h
 obtain⟨l,o,q,r,u⟩:=KEx (f:=λp:At=>[Value.string p.1,.string p.2]) (g:=λp=>p.1.size+p.2.size) (Q:=λ_=>True) e λx w=>by
  have:=b x w;rw[rdu_at]at this;obtain⟨s,t,y,z⟩:=this;exact⟨(s,t),trivial,y,z⟩
 rw[o,<- List.flatMap_def]at i;exact⟨a,d,l,_,i,u,λp A=>by have:=(r p A).2;omega,by rw[q];exact j⟩
theorem W9:∀l:List (It×Sl3×Nat),(l.map λp=>itC p.1 p.2.1).flatten=yK (l.map (·.1)) (l.map (·.2.1))
 | []=>rfl
 |p::r=>by
  have a:=W9 r;rw[yK]at a⊢;rw[aj,nI,a];rfl
def KFK(m:Nat)(x:It):Prop:=x.x.name.size<=m/\x.x.text.size<=m/\(∀a∈x.x.FP,a.1.size<=m/\a.2.size<=m)/\x.level<=9223372036854775807
def argU_it{W:Wq}{n:Nat}{K:LV->Nat->Prop}(h:KDx W (n+4) 123 K):∃(a:OA)(c:Nat)(l:List It)(ss:List Sl3)(m:Nat),(m<=2000000->CW [] W a l.length l ss)/\l.length<=m/\(∀x∈l,KFK m x)/\K [.slice a l.length c] m:=by
 obtain⟨a,w,y,Y,C,Z,e,r,J⟩:=h
 obtain⟨l,L,M,u,N⟩:=KEx (f:=λp:It×Sl3×Nat=>itC p.1 p.2.1) (g:=λp=>p.2.2) (Q:=λp=>AtR W p.2.1.1 p.2.1.2.1 p.1.x.FP/\p.2.1.2.1<=p.2.2/\KFK p.2.2 p.1) y λx d=>by
  have:=e x d;rw[rdu_it]at this;obtain⟨i,O,j,_,s,t,h⟩:=this;obtain⟨a,c,l,m,r,hl,b,z,R⟩:=argU_at h;exact⟨(⟨i,⟨j,s,t,l⟩⟩,(a,l.length,c),x.2),⟨⟨rfl,r⟩,by dsimp only;omega,by dsimp only;omega,by dsimp only;omega,λq T=>by have:=b q T;dsimp only;omega,(DT.1 O).2⟩,z,aZ _⟩
 rw[L,W9]at r;refine⟨a,w,l.map (·.1),l.map (·.2.1),_,λR=>?_,by rw[aQ];exact N,λx d=>?_,by rw[aQ,M];exact J⟩
 ·refine⟨λW' D=>⟨rfl,by simp,r.chg D (by simp),λk x s d o=>?_⟩,by rw[aQ];simp only[maxLen];omega,λs o=>?_,λx d=>?_⟩
  ·rw[au]at d o;obtain⟨p,b,rfl⟩:=cO.1 d;rw[b]at o;cases o;exact(u p (aC b)).1.1.chg D (by simp)
  ·obtain⟨p,b,rfl⟩:=aU.1 o;obtain⟨⟨_,F,_⟩,G⟩:=u p b;simp only[maxLen];omega
  obtain⟨p,b,rfl⟩:=aU.1 d;obtain⟨⟨_,F,U,X,A,H⟩,G⟩:=u p b;exact⟨by simp only[maxLen];omega,by simp only[maxLen];omega,λa B=>by have:=A a B;simp only[maxLen];omega⟩
 obtain⟨p,b,rfl⟩:=aU.1 d;obtain⟨⟨_,F,U,X,A,H⟩,G⟩:=u p b;exact⟨om,om,λa B=>by have:=A a B;omega,H⟩
def KEt(W:Wq)(m:Nat)(q:NOp):Prop:=(m<=2000000->CW [] W q.a q.o.l.length q.o.l q.ss)/\q.o.l.length<=m/\(∀x∈q.o.l,KFK m x)/\q.o.name.size<=m/\q.o.text.size<=m
def rdw_op{W:Wq}{n:Nat}{K:LV->Nat->Prop}(h:RdW PP W (n+6) 36 K):∃(q:NOp)(m:Nat),KEt W m q/\K (KBu q) m:=by
 rw[rdu_op]at h;obtain⟨i,_,j,_,k,_,n,_,s,t,h⟩:=h;obtain⟨a,c,l,b,m,d,u,e,f⟩:=argU_it h;refine⟨⟨⟨i,j,k,n,s,t,l⟩,a,c,b⟩,_,⟨λw=>d om,by dsimp only;omega,λx g=>?_,by dsimp only;omega,by dsimp only;omega⟩,f⟩;obtain⟨y,z,o,p⟩:=e x g;exact⟨om,om,λa r=>by have:=o a r;omega,p⟩
def Pi{W:Wq}{m:Nat}{q:NOp}(h:KEt W m q)(b:m<=2000000):CW [] W q.a q.o.l.length q.o.l q.ss/\q.o.l.length<=140737488355328/\q.o.text.size<=maxLen/\(∀x∈q.o.l,KCX x.x/\x.level<=9223372036854775807)/\q.o.name.size<=2000000/\q.o.text.size<=2000000:=by
 obtain⟨c,j,d,n,p⟩:=h;refine⟨c b,om,by simp only[maxLen];omega,λx e=>?_,om,om⟩;obtain⟨r,s,f,g⟩:=d x e;exact⟨⟨om,om,λa i=>by have:=f a i;omega⟩,g⟩
def WW{W:Wq}{K:LV->Nat->Prop}(h:KDx W 6 36 K):∃(a:OA)(c:Nat)(e:List NOp)(m:Nat),(m<=2000000->KCg W a e/\KDy e)/\K [.slice a e.length c] m:=by
 obtain⟨a,i,j,o,_,r,d,s,t⟩:=h
 obtain⟨l,u,w,y,H⟩:=KEx (f:=λp:NOp×Nat=>KBu p.1) (g:=λp=>p.2) (Q:=λp=>KEt W p.2 p.1) j λx n=>by
  obtain⟨q,m,o,r,z⟩:=rdw_op (d x n);exact⟨(q,m),o,r,z⟩
 refine⟨a,i,l.map (·.1),_,λJ=>?_,by rw[aQ,w];exact t⟩
 have b:∀q∈l.map (·.1),KEt W 2000000 q:=λq b=>by
  obtain⟨p,A,rfl⟩:=aU.1 b;obtain⟨⟨B,L,C,M,N⟩,O⟩:=y p A
  exact⟨λ_=>B om,om,λx n=>by
   obtain⟨R,T,D,F⟩:=C x n;exact⟨om,om,λa G=>by have:=D a G;omega,F⟩,om,om⟩
 refine⟨⟨?_,λq h=>(Pi (b q h) (aZ _)).1,by rw[aQ];omega,λq h=>(Pi (b q h) (aZ _)).2.1,λq h=>(Pi (b q h) (aZ _)).2.2.1⟩,λq h=>(Pi (b q h) (aZ _)).2.2.2⟩;rw[u]at s;rw[O4,List.flatMap_def,dB];exact s
noncomputable section
variable{f:List Nat}{w w':World}{a:Option Addr}{c:Nat}{M:List DR}{L:List Asn}{nx:Int}
def rgNew_spec(w:Wq):CP 14 #[] w λe w'=>e=Ej (tV none 0 0 1)/\Hp [] w w' []:=by
 apply Jdv;intro b g d;exact giv ((Hp.start w).new (cs:=tC none 0 0 0) EQ4 d) rfl λh i H=>⟨_,_,_,_,H.loA bT2,rfl,H.done⟩
def tra0(H:Hp [] w w' L):TrA (xq L) w' none 0 []:=⟨λW i j v b=>by simp[yV]at b,λp d=>(by cases d),aZ _,λk e=>by
 obtain⟨x,g,h⟩:=BD.1 e;exact Asn.Jb (H.ok x g) k h⟩
def plays0{K:Tab->Prop}(m:∀{f:Nq}{b:Nat}{X:Tab}{o:OpP}{w:Wq},K X->(xu f b (doP X o).1).ok w->K (doP X o).1)(n:K zD){w0 w:Wq}{b:Nat}{Z:List Asn}{i:OA}{g:List NOp}(H:Hp [] w0 w (xu f b zD::Z))(p:KCg w0 i g)(q:KDy g)(j:Nat):
  CP 13 #[pq b,tV none 0 0 1,.slice i g.length j] w λe w'=>∃l d a' c' h,e=Ej (.tuple #[tV a' h.length c' d.T.next,.bool true])/\(TInv0 d/\K d)/\rws h=d.T.L/\TrA l w' a' c' h/\Hp f w w' [xu l b d]:=by
 refine Vk m (U0:=[]) (M:=[]) H (by simp) ⟨tinv0,n⟩ ?_ rfl p q j;have:=tra0 H;exact this.turn (Chg.refl [] _) (by simp) λk r=>BD.2 ⟨_,.head _,r⟩
end
noncomputable section
def span0:RX zD.T zD.S:=⟨⟨by rw[Ij rfl];exact .nil,λb a=>by rw[Ij rfl]at a;cases a⟩,λi=>⟨λh=>(by cases h),λh=>(by cases h)⟩⟩
def uB{f:Nq}{b:Nat}{X:Tab}{o:OpP}{w:Wq}(h:RX X.T X.S)(c:(xu f b (doP X o).1).ok w):RX (doP X o).1.T (doP X o).1.S:=by
 obtain⟨F,d⟩:=LQ c;by_cases a:(doP X o).2.2.2=0
 ·rw[doP]at a d⊢;split at a
  ·rename_i h;exact absurd a h
  rename_i e;split at a
  ·rename_i h;exact absurd a h
  rename_i c;split at a
  ·rename_i h;exact absurd a h
  rename_i g;rw[if_neg e,if_neg c,if_neg g]at d⊢;exact labelN_ok d X.S _
 rw[(Zx a).1];exact h
end
noncomputable section
variable{f:List Nat}{w w':World}{a:Option Addr}{c:Nat}{M:List DR}{L:List Asn}{nx:Int}
def TrA.few{S:Nq}(h:TrA S w a c M){B:Nq}(b:∀k∈B,k∈S):TrA B w a c M:=h.turn (Chg.refl [] _) (by simp) b
def mundC:PP.underlying 39=some (.slice 55):=by kernel_rfl
def flatSp:Uy PP 62 [(0,iI),(1,iI)]:=Go.Vc.Sz (by kernel_rfl)
def tq:Agg PP 62 2:=DN (by kernel_rfl)
theorem tN{l:List Cg}{n:Nat}(h:Cells w a (xy l))(d:l.length=n)(c':Nat):Src PP 4 39 (.slice a n c') n (xy l) w:=by
 subst d;refine Cells.src mundC h (MI l) (λu g=>?_) λe=>?_
 ·obtain⟨x,_,b⟩:=fH.1 g;simp only[cgC,aP,iP,or_false]at b;rcases b with rfl|rfl|rfl|rfl<;>rfl
 subst e;cases hM:l with
 |nil=>rfl
 |cons p r=>
  obtain⟨j,i,_⟩:=h 0 (I p.page) (by rw[hM];rfl);cases i
def Yo(l m:List Cg):xy (l++m)=xy l++xy m:=dR
def turn_cg{w0 w1:Wq}{e:OA}{d n k b:Nat}{R:List Cg}{Z:List Asn}(H:Hp [] w0 w (.own 55 4 e n d (xy R)::Z))(x:R.length=n)(p:k<=n)(O:n<=1000000)(y:New w.drew (.cells #[] 55) b w1){G:OA->Nat->Nat->Wq->Prop}
  (go:∀a c w',Hp [] w w' [.own 55 4 a n c (xy (R.drop k++R.take k))]->G a n c w'):
  ∃q V L l,App PP #[39,39] 39 w1 (.slice (Pq b) 0 0) (.slice (slA e d k 4) (n-k) (d-k)) (.slice q V L) l/\∃v W M h,App PP #[39,39] 39 l (.slice q V L) (.slice e k d) (.slice v W M) h/\G v W M h:=by
 have r:=(H.xh (.head _)).cells;have z:=(H.xh (.head _)).le.1;have m:Hp [] w w1 [.blk b [] 55]:=(Hp.start w).drew.nw y;have A:Hp [] w w1 [.own 55 4 (Pq b) 0 0 (xy [])]:=m.set (Chg.refl _ _) ⟨rfl,.inr ⟨b,#[],(0,0),rfl,bZ _,m.blk (.head _),KBc.zero _,aZ _,bZ _,by simp,by simp[xy]⟩⟩ (λk p=>.inl p)
 have B:Cells w1 (slA e d k 4) (xy (R.drop k)):=by
  have g:=Cells.KEo (i:=k) (sz:=4) (r.chg m.chg (by simp)) (MI R) (by omega:R.length<=d);rw[xy,YH (f:=cgC) (n:=4) (λ_=>rfl)]at g;exact g
 have C:(R.drop k).length=n-k:=by rw[bf,x]
 refine Hp.app KFE om A EQ4 (tN B C _) (by simp only[maxLen];omega) om ?_;intro T U D s;have o:(R.take k).length=k:=by rw[aJ];omega
 have F:Cells D e (xy (R.take k)):=by
  intro j v t;have g:=r.chg s.chg (by simp);refine g j v ?_;rw[<- bY k R,Yo,bQ (aA.1 t).1];exact t
 refine Hp.app KFE om s EQ4 (tN F o _) (by simp only[maxLen];omega) om ?_;intro J K N u;rw[show 0+(n-k)+k=n by omega]at u⊢;refine go J K N ?_;rw[Yo];exact u
def nodetabBack_law(sa:OA)(sc:Nat)(os:List NOp)(ta:OA)(tc:Nat)(ot:List NOp)(tn:Int)(w0:Wq)(hs:KCg w0 sa os)(hf:KDy os)(ht:KCg w0 ta ot)(ak:KDy ot):CP 7 #[.slice sa os.length sc,.slice ta ot.length tc,I tn] w0 λe w'=>e=Ej (.bool true)/\Hp [] w0 w' []:=by
 apply Jc4;refine AC (QI w0) ?_;rintro _ w1 ⟨b,f,rfl,H⟩;refine⟨_,rfl,xM.mk (λ_ w'=>Hp [] w0 w' [xu f b zD]) ?_ ?_⟩;rotate_left
 ·intro J hJ;refine⟨_,Vb Ua,Au (AC (ZN sa sc os hs H.chg) ?_)⟩;rintro _ w2 ⟨fb,rfl,_,j⟩;have H2:=H.xN j;refine⟨_,rfl,Es (λ_=>hJ _ _ H2) λ_=>AC (ZN ta tc ot ht H2.chg) ?_⟩;rintro _ w3 ⟨fc,rfl,_,j⟩;exact⟨_,rfl,hJ _ _ (H2.xN j)⟩
 clear H;rintro s w2 H;refine Du (λ_=>⟨_,PE Ua,Cc (AC (Q5 w2) ?_)⟩) (λ_=>AC (rgNew_spec w2) ?_)
 ·rintro _ w3 ⟨rfl,j⟩;exact⟨_,rfl,rfl,(H.xN j).done⟩
 rintro _ w3 ⟨rfl,j⟩;replace H:=H.xN j;refine⟨_,_,_,_,rfl,AC (plays0 (K:=λX=>RX X.T X.S) uB span0 H hs hf sc) ?_⟩;rintro _ w4 ⟨y,X,a',c',A,rfl,D,e,p,j⟩;replace H:=H.zK j;have D:KAi X:= {D.1 with span:=D.2};refine⟨_,_,_,_,_,rfl,λd w5 G=>?_⟩;have hN:=(Hp.start w4).new (cs:=tC none 0 0 0) EQ4 G;replace p:=p.mv hN (S:=[d]) (by simp[xq,Asn.foot]);refine giv (H.new (cs:=tC none 0 0 0) EQ4 G) rfl λw6 hc H=>AC (Gq (H.ok _ m1)) ?_;replace p:=p.back hc;clear hN G hc;have aa:=H.ok (xu y b X) m1;obtain⟨F,hG⟩:=LQ aa;have a4:=rows_few hG D.toTInv0;rintro _ w7 ⟨ra,rc,rfl,j⟩;replace p:=p.go j;replace H:=H.yC j;refine⟨_,_,_,rfl,Au (xM.mk (λs w'=>∃(l:List Cg)(la:OA)(lc:Nat),s=(la,l.length,lc)/\l.Perm (BJ X.P)/\TrA y w' a' c' A/\Hp [] w0 w' [.own 55 4 la l.length lc (xy l),.blk d (tC a' A.length c' X.T.next) 29,xu y b X]) ?_ ?_)⟩;rotate_left
 ·intro J hJ;refine xM.mk (λi w'=>w'=w7/\(i=true->0<tn/\0<(BJ X.P).length)) ?_ ?_;rotate_left
  ·intro J1 ab;exact AB (λh=>ab _ _ ⟨rfl,λh2=>⟨h,by have:=of_decide_eq_true h2;omega⟩⟩) λ_=>ab _ _ ⟨rfl,λh=>by cases h⟩
  rintro i w' ⟨rfl,hi⟩;refine Du (λal=>?_) λ_=>hJ _ _ ⟨_,ra,rc,rfl,.refl _,p,H⟩;obtain⟨h1,h2⟩:=hi al;have g1:=Int.tmod_nonneg (a:=tn) ((BJ X.P).length:Int) om;have O:=Int.tmod_lt_of_pos tn (b:=((BJ X.P).length:Int)) om;obtain⟨k,r⟩:∃k:Nat,Int.tmod tn ((BJ X.P).length:Int)=k:=⟨_,(jI g1).symm⟩;rw[r]at g1 O⊢;have a5:=(H.xh (.head _)).le.1;refine⟨om,⟨om,om⟩,⟨om,om⟩,λq w8 am=>?_⟩;rw[aN];refine turn_cg H rfl om om am λa2 c2 w9 j=>hJ _ _ ⟨(BJ X.P).drop k++(BJ X.P).take k,a2,c2,?_,?_,p.go j,?_⟩
  ·rw[aF,bf,aJ,fE om,pR om]
  ·exact dU.trans (by rw[bY])
  rw[aF,bf,aJ,fE om,pR om];exact(H.yC j).KBe
 clear H p j;rintro s w8 ⟨l,la,lc,rfl,hp,p,H⟩;obtain⟨st,ac,hL,hl,hY⟩:=load_ok hG D (Zw aa).st.len hp;refine AC (Uj hL la l.length lc w8 (λW hW=>(H.xh (.head _)).cells.chg hW (by simp)) rfl (by rw[hp.length_eq];omega)) ?_;have C:=hl.rows D;obtain⟨Y,ae⟩:∃Y:Tab,Y=⟨X.T,spR ac,st.V,st.P,st.Q⟩:=⟨_,rfl⟩;have eT:Y.T=X.T:=by rw[ae]
 rw[<- ae]at hl hY C⊢;rintro _ w9 ⟨g,u,rfl,j⟩;replace p:=p.mv j (S:=g) λk r=>BD.2 ⟨xu g u Y,.head _,r⟩;replace H:=H.drop.yC j;refine⟨_,_,rfl,AQ (λh=>(h rfl).elim) λ_=>⟨_,Vb Ua,Au ⟨_,_,_,_,H.loA bT2,?_⟩⟩⟩;rw[<- eT]at H⊢;refine AC (NC (H.ok _ (.head _)) (p.few (B:=g) λk r=>aS _ r) (by rw[eT];exact e)) ?_;rintro _ a6 ⟨O,rfl,j⟩;replace p:=TrA.atS (p.few (B:=y++g) λk r=>(aT.1 r).elim (λh=>aI _ h) λh=>aS _ h) j;replace p:=p.few (B:=y++O) λk r=>(aT.1 r).elim (λh=>aS _ h) λh=>aI _ (BD.2 ⟨xu O u Y,.head _,h⟩);replace H:=H.zK j;obtain⟨tg,_,_⟩:=PX hG e;have a7:=tg.len;refine⟨_,rfl,Au (AC (Gq (H.ok _ (.head _))) ?_)⟩;rintro _ an ⟨r1,c1,rfl,j⟩;replace p:=p.go j;replace H:=H.yC j;refine⟨_,_,_,rfl,AC (Gh r1 c1 _ an (by rw[C];omega) (H.xh (.head _)).cells) ?_⟩;rintro _ a8 ⟨p1,d1,rfl,j⟩;replace p:=p.go j;replace H:=H.yC j;refine⟨_,_,_,rfl,AC (Gq (H.ok (xu y b X) m4)) ?_⟩;rintro _ ao ⟨r2,c2,rfl,j⟩;replace p:=p.go j;replace H:=H.yC j;refine⟨_,_,_,rfl,AC (Gh r2 c2 _ ao om (H.xh (.head _)).cells) ?_⟩;rintro _ ap ⟨p2,d2,rfl,j⟩;replace p:=p.go j;replace H:=H.yC j;refine⟨_,_,_,rfl,AC (UC p1 d1 _ p2 d2 _ (by rw[C];omega) ap (H.xh m2).cells (H.xh (.head _)).cells) ?_⟩;rw[decide_eq_true C];rintro _ a9 ⟨rfl,j⟩;replace p:=p.go j;replace H:=(H.xN j).drop.drop.drop.drop;refine⟨_,rfl,Au ⟨_,_,_,_,H.loA bT2,AC (PL p om _) ?_⟩⟩;rintro _ ba ⟨oa,oc,rfl,j⟩;replace p:=p.go j;replace H:=H.yC j;refine⟨_,_,_,rfl,xI.mk (λm s w'=>∃k:Nat,m=A.length-k/\k<=A.length/\s=(k:Int)/\TrA (y++O) w' a' c' A/\Hp [] w0 w' [.own 3 1 oa A.length oc (AO ((rws A).map (·.id))),xu O u Y,.blk d (tC a' A.length c' Y.T.next) 29,xu y b X]) A.length ⟨0,rfl,om,rfl,p,H⟩ ?_⟩;clear p H j;rintro m s bb next ⟨k,rfl,r,rfl,p,H⟩ R
 refine AB (λh1=>?_) (λh1=>?_)
 ·obtain⟨x,hx⟩:∃x,((rws A).map (·.id))[k]? =some x:=⟨_,aB (by rw[aQ,aQ];omega)⟩;have aq:(AO ((rws A).map (·.id)))[k]? =some (I x):=by rw[AO,au,hx];rfl
  obtain⟨ad,ar,av⟩:=H.ldO EQ4 xK (.head _) aq;obtain⟨t,af⟩:=gU.1 ((D.span.keys x).2 (by rw[<- e];exact aC hx));refine AA ar ⟨⟨om,h1⟩,_,by rw[aN,bV];exact av,AC (Vm (H.ok (xu y b X) m3) x) ?_⟩;rw[af];rintro _ U ⟨rfl,j⟩;replace p:=p.go j;replace H:=H.xN j;refine⟨t.1,t.2,true,rfl,λn aw z=>?_⟩;refine Hp.stA (o:=0) ((Hp.start U).nw z) EQ4 tq (vs:=[I t.1,I t.2]) rfl rfl (by simp) (cs':=[I t.1,I t.2]) rfl λag N=>AC (Vm ((H.yC N).ok (xu O u Y) m2) x) ?_;rw[hl.S x,af];rintro _ a0 ⟨rfl,j⟩;refine⟨t.1,t.2,true,rfl,λn2 a1 ah=>?_⟩;refine Hp.stA (o:=0) ((N.xN j).nw ah) EQ4 tq (vs:=[I t.1,I t.2]) rfl rfl (by simp) (cs':=[I t.1,I t.2]) rfl λa3 N=>⟨_,_,N.loA tq,_,_,N.loA tq,false,YC (xs:=[I t.1,I t.2]) (ys:=[I t.1,I t.2]) flatSp rfl rfl (by simp[eqL,sEq]),Au (Au (Au ⟨iR,R (A.length-(k+1)) _ _ om ⟨k+1,rfl,om,rfl,p.go N,(H.ext2 N).drop.drop⟩⟩))⟩
 replace H:=H.drop;refine⟨_,_,_,_,H.loA bT2,AC (Vk (K:=λX=>RX X.T X.S) uB (U0:=y) H (λk r=>BD.2 ⟨xu y b X,.tail _ (.head _),r⟩) ⟨hY.toTInv0,hY.span⟩ p (by rw[eT];exact e) ht ak tc) ?_⟩;rintro _ U ⟨g3,V,a2,c2,M2,rfl,hV,e2,Z,j⟩;replace p:=(p.atS j).few (B:=y++g3) λk r=>(aT.1 r).elim (λh=>aS _ h) λh=>aI _ (BD.2 ⟨xu g3 u V,.head _,h⟩);replace H:=H.zK j;refine⟨_,_,_,_,_,rfl,λq aw z=>?_⟩;have hN:=(Hp.start U).new (cs:=tC none 0 0 0) EQ4 z;replace p:=p.mv hN (S:=[q]) (by simp[xq,Asn.foot]);replace Z:=Z.mv hN (S:=[q]) (by simp[xq,Asn.foot]);refine giv (H.new (cs:=tC none 0 0 0) EQ4 z) rfl λag hc H=>AC (Q5 ag) ?_;replace p:=p.back hc;replace Z:=Z.back hc;rintro _ a0 ⟨rfl,j⟩;replace p:=p.go j;replace Z:=(Z.go j).few (B:=g3) λk r=>aI _ r;replace H:=H.xN j;refine⟨_,rfl,Cc (Cc ⟨_,_,_,_,H.loA bT2,AC (NC (H.ok (xu g3 u V) m1) Z e2) ?_⟩)⟩;rintro _ a1 ⟨g4,rfl,j⟩;replace p:=p.turn (S':=y) j.chg (λk r=>aI _ r) λk r=>aS _ r;replace H:=H.AX.zK j;rw[eT]at H;refine⟨_,rfl,Cc ⟨_,_,_,_,H.loA bT2,AC (NC (H.ok (xu y b X) m3) p e) ?_⟩⟩;rintro _ a3 ⟨f8,rfl,j⟩;exact⟨_,rfl,rfl,(H.ET.zK j).done⟩
end
end Go.Proofs.YtljenkbpnioipaaGreat
namespace Go
def joined_of{P:Program}{f:FuncId}{fn:Func}{s:ChangeSpec}{c:OpenClaim}(h:laidOutB P=true)(i:mapsRowed P=true)(j:(c.inPlace==P.inPlace f)=true)(l:(c.unfollowed==P.unfollowed f)=true)(m:(c.recurses==P.recurses f)=true)(n:(c.named==P.varsNamed f)=true)(o:P.stopsHeard=true)(p:P.mayEnter=true)(q:(c.lifted==P.liftsFinal)=true)(a:(P.make==some c.make)=true)
  (b:(c.wf (OpenSpec.ofChange s)&&fn.params.all (P.readableRec ·)&&namedTie P c.named s.vars&&
 (c.stops==[])&&(P.stops==[])&&(c.knobs==[])&&(P.stopKnobs==[]))=true)
  (d:((c.maps==(fn.params.toList++s.plain.varTypes P).any (P.mapsRec ·))&&(c.ifaces==(fn.params.toList++s.plain.varTypes P).any (P.ifacesRec ·))&&(c.mapsOut==P.mapsAmong fn.resultTypes.toList)&&
 (c.loops==(fn.params.toList++s.plain.varTypes P).any (P.loopsFrom ·))&&(c.wideKeys==(fn.params.toList++s.plain.varTypes P++fn.resultTypes.toList).any (P.wideKeysFrom ·)))=true)
  (e:(s.vars.all (P.varReadable ·)&&fn.resultTypes.all (λt=>P.readableRec t&&decide (t<P.types.size))&&(c.ifacesOut==fn.resultTypes.toList.any (P.ifacesRec ·))&&(c.loopsOut==fn.resultTypes.toList.any (P.loopsFrom ·))&&(c.plainKeys==P.plainKeys)&&c.shortTexts.isNone)=true)
  (g:((c.kinds==(if c.domain.isEmpty then []else fn.params.toList.map λt=>match P.underlying t with|some (.int k)=>some k|_=>none))&&(c.pinned==c.pinnedBy)&&
 (c.veiled==(fn.params.toList++s.plain.varTypes P++fn.resultTypes.toList).any (P.veiledRec ·))&&c.veiledFits P fn.params.toList (fn.params.toList++s.plain.varTypes P++fn.resultTypes.toList))=true):joinedFacts P f fn s c=true:=by
 unfold joinedFacts;simp only[dM]at b d e g⊢;obtain⟨⟨⟨⟨⟨⟨r,u⟩,w⟩,x⟩,y⟩,z⟩,A⟩:=b;obtain⟨⟨⟨⟨B,C⟩,D⟩,F⟩,G⟩:=d;obtain⟨⟨⟨⟨⟨H,J⟩,K⟩,L⟩,M⟩,N⟩:=e;obtain⟨⟨⟨O,R⟩,T⟩,U⟩:=g;exact⟨⟨⟨⟨⟨⟨⟨⟨⟨⟨⟨⟨⟨⟨⟨⟨⟨⟨⟨⟨⟨⟨⟨⟨⟨⟨⟨⟨⟨⟨⟨r,h⟩,i⟩,u⟩,w⟩,x⟩,y⟩,z⟩,A⟩,j⟩,l⟩,m⟩,n⟩,B⟩,C⟩,D⟩,F⟩,G⟩,H⟩,J⟩,K⟩,L⟩,M⟩,N⟩,o⟩,p⟩,q⟩,a⟩,O⟩,R⟩,T⟩,U⟩
end Go
namespace Go.Proofs.YtljenkbpnioipaaGreat
open Go Go.Vc
def rowed_:mapsRowed PP=true:=by kernel_rfl
def heard_:PP.stopsHeard=true:=by kernel_rfl
def enter_:PP.mayEnter=true:=by kernel_rfl
def lifts_:PP.liftsFinal=Rows.nodetabAllRow.lifted:=by kernel_rfl
def make_:PP.make=some Rows.nodetabAllRow.make:=by kernel_rfl
open Go.Nod Go.ChangeAt
def nodetabBack_1:(Rows.nodetabBackUptoRow.inPlace==PP.inPlace 7)=true:=by kernel_rfl
def nodetabBack_2:(Rows.nodetabBackUptoRow.unfollowed==PP.unfollowed 7)=true:=by kernel_rfl
def nodetabBack_3:(Rows.nodetabBackUptoRow.recurses==PP.recurses 7)=true:=by kernel_rfl
def nodetabBack_4:(Rows.nodetabBackUptoRow.named==PP.varsNamed 7)=true:=by kernel_rfl
def rdu_ssi(W:Wq)(K:LV->Nat->Prop):KEP PP W 7 [22,22,3] K=KDx W 6 36 (λcs m=>KDx W 6 36 λds k=>∃i,gB i/\K (ofC (some false) cs::ofC (some false) ds::ofC (some false) [I i]::[]) (m+(k+(0+0)))):=by kernel_rfl
def openU_ssi{W:Wq}{args:Array Value}(h:KEP PP W 7 [22,22,3] (λl m=>args.toList=l/\m<=1048576)):∃(a:OA)(c:Nat)(e:List NOp)(b:OA)(d:Nat)(f:List NOp)(i:Int),args= #[.slice a e.length c,.slice b f.length d,I i]/\KCg W a e/\KDy e/\KCg W b f/\KDy f:=by
 rw[rdu_ssi]at h;obtain⟨a,c,e,m,n,h⟩:=WW h;obtain⟨b,d,f,k,o,i,_,h,p⟩:=WW h;have g:=n om;have j:=o om;exact⟨a,c,e,b,d,f,i,by cases args;simp_all [ofC],g.1,g.2,j.1,j.2⟩
theorem nodetabBack_holds:Rows.NodetabBackUptoSaid:=
 OpenClaim.holds_of_cond 7 Tryz.f7 rfl rfl rfl rfl rfl rfl rfl ⟨rfl,rfl,rfl,rfl,rfl⟩ rfl rfl rfl rfl rfl (by kernel_rfl) Tryz.func7 (joined_of laid_ rowed_ nodetabBack_1 nodetabBack_2 nodetabBack_3 nodetabBack_4 heard_ enter_ (beq_iff_eq.2 lifts_.symm) (beq_iff_eq.2 make_) (by kernel_rfl) (by kernel_rfl) (by kernel_rfl) (by kernel_rfl))
  (kD) (by unfold Func.isWrapper;first|(rw[if_pos (by decide+kernel)];kernel_rfl)|(rw[if_neg (by decide+kernel)];exact⟨rfl,rfl⟩))
  (λy a H b _ F=>law_liftU (C:=Tryz.checked) (s:=Rows.nodetabBackSpec) (kk:=Rows.uptoSmall) 7 Tryz.f7 7 own_ a (by kernel_rfl) Tryz.func7 laid_ (by kernel_rfl) rfl (by kernel_rfl) und4
   (λf h=>by
    match f,h with
    | [d0,d1,d2],_=>rfl)
   Rows.uptoBulk bulk_ok 1048576 bulk_small
   (OpenSpec.witness (enc:=b) (C:=Tryz.checked) (s:=Rows.OpenSpec.upto Rows.nodetabBackSpec) (k:=Rows.uptoSmall) rfl false ⟨#[],#[.slice none 0 0,.slice none 0 0,.int .i64 0],[]⟩ 8 (by kernel_rfl) (by kernel_rfl) (by kernel_rfl) (x:=([.nil,.nil,.lit (.int .i64 0)],[],[])) (by kernel_rfl) rfl (by kernel_rfl))
   (λW d c=>by
    obtain⟨g,i,j,l,m,n,o,rfl,p,q,r,t⟩:=openU_ssi c;exact Calls.mono (nodetabBack_law g i j l m n o W p q r t) λe z ⟨u,w⟩=>⟨u,w.chg⟩))
end Go.Proofs.YtljenkbpnioipaaGreat
