/- Part 6 of 6 of the proof of nodetabRefused_holds: for every input, from every world that may be reached. -/
import Derived.Test.YtljenkbpnioipaaGreatPrf5
set_option linter.unusedVariables false
set_option linter.unusedSimpArgs false
set_option linter.defProp false
set_option maxRecDepth 100000
set_option maxHeartbeats 4000000
namespace Go.Nod
theorem Zf:∀(a b:LU),Go.Lib.compareBytes a b<0↔a<b
 | [],[]=>by simp[Go.Lib.compareBytes]
 | [],y::b=>by simp[Go.Lib.compareBytes]
 |x::a,[]=>by simp[Go.Lib.compareBytes]
 |x::a,y::b=>by
  rw[Go.Lib.compareBytes,List.cons_lt_cons_iff];by_cases c:x<y
  ·rw[if_pos c];simp[c]
  ·rw[if_neg c];by_cases d:y<x
   ·rw[if_pos d];have:x≠y:=λe=>by subst e;exact c d
    simp[c,this]
   ·rw[if_neg d,Zf a b];have:x=y:=UInt8.le_antisymm (UInt8.not_lt.1 d) (UInt8.not_lt.1 c);simp[c,this]
end Go.Nod
namespace Go.Proofs.YtljenkbpnioipaaGreat
noncomputable section
open Go Go.Vc Go.Nod Go.Proofs Go.RowKit Go.Sort Go.Shelf
def lCmpStr_spec(a b:ByteArray)(w:World):CP 259 #[.string a,.string b] w λe w'=>e=eE0 (I (Go.Lib.compareBytes a.data.toList b.data.toList))/\w'=w:=by
 apply Jbq;refine⟨⟨I (Go.Lib.compareBytes a.data.toList b.data.toList),w,?_,_,rfl,rfl,rfl⟩⟩;rw[run_callFunc_extern Tryz.func298 (by kernel_rfl) (by kernel_rfl) (by kernel_rfl) (by kernel_rfl),Lib.run_compareString];rfl
def lCompare_spec(a b:ByteArray)(w:World):CP 201 #[.string a,.string b] w λe w'=>e=eE0 (I (Go.Lib.compareBytes a.data.toList b.data.toList))/\w'=w:=by
 apply Jbr;refine AC (lCmpStr_spec a b w) ?_;rintro _ _ ⟨rfl,rfl⟩;exact⟨_,rfl,rfl,rfl⟩
def atE(p:At):LV:=[.string p.1,.string p.2]
def cfA(x y:At):Int:=Go.Lib.compareBytes x.1.data.toList y.1.data.toList
def nItem1_ex(W:World)(x y:At):CP 200 #[.agg (atE x).toArray,.agg (atE y).toArray] W λe w'=>e=eE0 (I (cfA x y))/\∃q c,w'=grow (W.drewN q) c:=by
 apply Jch;intro g h a i d b;have H:=((Hp.start W).nw a).nw b;refine⟨x.1,H.lo yStr,y.1,H.lo yStr,AC (lCompare_spec x.1 y.1 d) ?_⟩;rintro _ j ⟨rfl,f⟩;exact⟨_,rfl,rfl,0,_,by rw[f];exact OV a b⟩
def wagg2:∀w,(isAgg 142).run PP w=.ok true w:=λw=>IE EK.agg w
def wsize2:∀w,(Go.sizeOf 142).run PP w=.ok 2 w:=λw=>run_size EK.size w
section
variable{B:List Nat}{w0 w:World}{L:List Asn}
def nSortA_spec(l:List At)(a:OA)(c:Nat)(ag:l.length<=1000000)(hR:Rs l)(H:Hp B w0 w (.own 142 2 a l.length c (atC l)::L)):
  CP 199 #[.slice a l.length c,.func (.func 200) #[] #[]] w λe w'=>e=eE0 (.tuple #[])/\Hp B w0 w' (.own 142 2 a l.length c (atC l)::L):=by
 by_cases q:l=[]
 ·subst q;have:=AnyF.slices_SortFunc_none (ρ:=sfAR) {sfAL with} a c (.func (.func 200) #[] #[]) w;change CP 199 _ _ _ at this;refine Calls.mono this ?_;rintro e w' ⟨rfl,rfl⟩;exact⟨rfl,H⟩
 have ho:Own w 0 142 2 a l.length c (atC l):=H.ownA (.head _);obtain⟨g,rfl⟩:=ho.Dq (by have:=eH.2 q;omega);obtain⟨x0,r0,ah⟩:∃x r,l=x::r:=dU q
 letI:Inhabited At:=⟨x0⟩
 have hk:∀x,(atE x).length=2:=λx=>rfl
 have u:∀x,∀v∈atE x,v.oneCell'=true:=λx v hv=>by
  simp only[atE,aP,iU,or_false]at hv;rcases hv with rfl|rfl<;>rfl
 have Y:∀l:List At,atC l=l.flatMap atE:=λl=>rfl;rw[Y]at H⊢;obtain⟨A,Z,s⟩:=H.sorted atE hk om rfl;have p:∀x y,ltOf cfA x y=dec (ltB x.1 y.1):=λx y=>LG (Zf x.1.data.toList y.1.data.toList)
 have d:∀x y,ltOf cfA x y=false↔¬ltB x.1 y.1:=λx y=>by
  rw[p];constructor
  ·intro h o;rw[Ee.2 o]at h;cases h
  ·intro h;exact(Bz h).symm
 have hO:SWO (ltOf cfA):=by
  refine⟨λx=>(d x x).2 (EI _),λx y z C o=>?_,λx y z C o=>(d x z).2 λt=>?_⟩
  ·rw[p,Ee]at*;exact FV C o
  ·have h4:=(d x y).1 C;have h5:=(d y z).1 o;rcases OE x.1 y.1 with h|h|h
   ·exact h4 h
   ·rw[h]at t;exact h5 t
   ·exact h5 (FV h t)
 have hs:=AnyQ.slices_SortFunc (ρ:=sfAR) sfAL 2 wagg2 wsize2 atE hk u cfA hO 200 #[] g 0 c l.toArray w
  (enters_of Tryz.func200 (by kernel_rfl) rfl)
  (λm os dk ak x y=>nItem1_ex _ x y) A Z (by simp;omega)
 change CP 199 _ _ _ at hs;simp only[dR]at hs;refine Calls.mono hs ?_;rintro e w' ⟨rfl,f,n,os,hp,D,rfl⟩;have F:f.size=l.length:=by have:=hp.1;simpa using this
 have G:f.toList.Perm l:=by
  have:=hp.2.2;have e1:f.extract 0 l.length=f:=by rw[<- F];simp
  have e2:l.toArray.extract 0 l.length=l.toArray:=by
   simp only[nX,jI,fC,jr];rw[aV (aZ _)]
  rw[e1,e2]at this;simpa using this
 have aa:f.toList.Pairwise λa b=>¬ltB b.1 a.1:=by
  rw[dB];intro i j U J ab;have ac:j<f.size:=by simpa using J
  have ad:i<f.size:=by simpa using U
  have:=D i j (bY _) ab om;rw[d,getElem!_pos f i ad,getElem!_pos f j ac]at this;simpa using this
 have K:l.Pairwise λa b=>a.1≠b.1:=by
  refine List.Pairwise.imp (R:=λa b:At=>ltB a.1 b.1) (λ{a b} h e=>?_) hR;rw[e]at h;exact EI _ h
 have ae:f.toList=l:=by
  refine eY (le:=λa b=>¬ltB b.1 a.1) (λa b ha X C o=>?_) aa (hR.imp λh o=>Vh h o) G
  have t:a.1=b.1:=by
   rcases OE a.1 b.1 with h|h|h
   ·exact(o h).elim
   ·exact h
   ·exact(C h).elim
  have af:=G.mem_iff.1 ha;obtain⟨i,U⟩:=ay af;obtain⟨j,J⟩:=ay X;obtain⟨M,N⟩:=aA.1 U;obtain⟨O,T⟩:=aA.1 J;rcases l9 i j with h|h|h
  ·exact absurd t (by rw[<- N,<- T];exact dB.1 K i j M O h)
  ·subst h;rw[U]at J;exact Option.some.inj J
  ·exact absurd t.symm (by rw[<- N,<- T];exact dB.1 K j i O M h)
 have X:=s n os f.toList (by rw[bP];exact F);rw[iZ,ae]at X;exact⟨rfl,X⟩
end
def V8(W:LB0)(level:Int)(r:Fol.Rec):It:=⟨level,{kind:=r.kind,name:=if r.kind=1 then atW W r.name else none0,text:=r.text,attrs:=r.attrs.map λa=>(atW W a.1,a.2)}⟩
structure Zr(W:LB0)(r:Fol.Rec):Prop where
 name:r.kind=1->r.name<=4000/\atW W r.name≠none0
 at_:∀p∈r.attrs,p.1<=4000/\atW W p.1≠none0
 rs:Rs (r.attrs.map λa=>(atW W a.1,a.2))
 len:r.attrs.length<=20
def itZ:LV:=[I 0,I 0,.string ⟨#[]⟩,.string ⟨#[]⟩,.slice none 0 0]
def rO:Agg PP 260 2:=DF (by kernel_rfl)
def nItem_spec{w:World}(xb ub wb:Nat)(O cs:LV)(Tx Tt:TypeId)(hx:Blk w xb O Tx)(af:O[0]? =some (pT0 ub))(ht:Blk w ub cs Tt)(h2:cs[2]? =some (pT0 wb)){wf:LN0}{W:LB0}(hW:(Ar wf wb W).ok w)
  (r:Fol.Rec) (R:OA) (rc:Nat) (hA:Cells w R (Fol.BG r.attrs)) (hk:Zr W r) (level:Int):
  CP 135 #[pT0 xb,.agg (recC r R r.attrs.length rc).toArray,I level] w λe w'=>∃a c,e=eE0 (.tuple #[.agg (itC (V8 W level r) (a,r.attrs.length,c)).toArray,.bool true])/\
   Hp [] w w' [.own 142 2 a r.attrs.length c (atC (V8 W level r).x.attrs)]:=by
 apply Jcg;have a0:=hk.len;intro nb w1 ag zb w2 ah;have H:=((Hp.start w).nw ag).nw ah
 have T:∀{g:World}{j:Nat}{t:TypeId}{v:Value},Chg [] w g->Scl PP t->cs[j]? =some v->Ld PP t g (Addr.add ⟨ub,0,none⟩ j) v:=λ{g j t v} G S hj=>by
  rw[add_lit,bu];exact(ht.chg G (by simp)).ld S.agg hj
 have U:∀{g:World},Chg [] w g->Ld PP 23 g ⟨xb,0,none⟩ (pT0 ub):=λ{g} G=>(hx.chg G (by simp)).ld rPT.agg af
 have Y:∀{g:World}{n:Int},Chg [] w g->n<=4000->atW W n≠none0->CP 198 #[pT0 wb,I n] g λe w'=>e=eE0 (.tuple #[.string (atW W n),.bool true])/\Hp [] g w' []:=λ{g n} G hn ak=>by
  have:=xName_spec (YX hW G) n om;rw[decide_eq_true ak]at this;exact this
 obtain⟨b,q⟩:∃b,b=V8 W level r:=⟨_,rfl⟩;have d:b.x.attrs=r.attrs.map λa=>(atW W a.1,a.2):=by rw[q];rfl
 have D:b.x.name=if r.kind=1 then atW W r.name else none0:=by rw[q];rfl
 have h:b.level=level/\b.x.kind=r.kind/\b.x.text=r.text:=by rw[q];exact⟨rfl,rfl,rfl⟩
 rw[<- q];refine⟨r.kind,H.lo yInt,r.text,H.lo yStr,λib w3 al=>?_⟩;have H3:=H.nw al;refine Hp.stA H3 EQ4 Bo rfl rfl (by simp[itZ]) (cs':=[I level,I r.kind,.string none0,.string r.text,.slice none 0 0]) rfl λw4 K=>?_;obtain⟨u,f⟩:∃u:Sl3->LV,u=λs=>[I level,I r.kind,.string b.x.name,.string r.text,.slice s.1 s.2.1 s.2.2]:=⟨_,rfl⟩;have Z:∀s,u s=itC b s:=λs=>by rw[f,itC,h.1,h.2.1,h.2.2]
 refine JoinP.mk (λt w'=>t=true/\Hp [] w w' (.blk ib (u (none,0,0)) 123::.blk zb itZ 123::.blk nb (recC r R r.attrs.length rc) 204::[])) ?_ ?_;rotate_left
 ·intro J hJ;refine⟨r.kind,K.lo yInt,AB (λz=>?_) (λz=>hJ _ _ ⟨rfl,?_⟩)⟩
  ·obtain⟨n1,n2⟩:=hk.name z;refine AA rfl ⟨_,U K.drew.chg,AA rfl ⟨_,T K.drew.chg rPB h2,r.name,K.lo yInt,AC (Y K.drew.chg n1 n2) ?_⟩⟩;rintro _ w5 ⟨rfl,H5⟩;refine⟨_,_,rfl,Hp.st (K.drew.ext0 H5) EQ4 yStr rfl rfl (by simp) ?_ λw6 H6=>hJ _ _ ⟨rfl,H6⟩⟩;rw[f,D,if_pos z];rfl
  ·have:u (none,0,0)=[I level,I r.kind,.string none0,.string r.text,.slice none 0 0]:=by rw[f,D,if_neg z]
   rw[this];exact K
 rintro t w5 ⟨rfl,H5⟩;refine⟨R,r.attrs.length,rc,H5.ld (o:=7) (cs:=recC r R r.attrs.length rc) EQ4 Fol.Gv m2 rfl,?_⟩;have H6:=(H5.nilS 142 2).AX;refine LoopP.mk (λm s w'=>∃(i:Nat)(a:OA)(c:Nat)(X:List Asn),m=r.attrs.length-i/\i<=r.attrs.length/\s=(true,(i:Int))/\Hp [] w w' (.blk ib (u (a,i,c)) 123::.own 142 2 a i c (atC (b.x.attrs.take i))::.blk zb itZ 123::X)) r.attrs.length ⟨0,none,0,_,rfl,om,rfl,H6⟩ ?_;rintro m s w6 nx ⟨i,a,c,X,rfl,hi,rfl,H⟩ am;refine AB (λh3=>?_) (λh3=>?_)
 ·have A:i<r.attrs.length:=om;obtain⟨p,an⟩:∃p,p=r.attrs[i]:=⟨_,rfl⟩;have hp:r.attrs[i]? =some p:=by rw[an];exact aB A
  obtain⟨p1,p2⟩:=hk.at_ p (aG hp);have aa:=hA.chg H.chg (by simp)
  have M:((Fol.BG r.attrs).drop (i*2)).take 2=[I p.1,.string p.2]:=by
   apply dK;intro k;by_cases ao:k<2
   ·rw[bn ao,eF];have e:∀v,(Fol.Ia p)[k]? =some v->(Fol.BG r.attrs)[i*2+k]? =some v:=λv=>Fol.flat_get r.attrs i k p v hp;rcases(by omega:k=0\/k=1)with rfl|rfl
    ·exact e _ rfl
    ·exact e _ rfl
   ·rw[bF (by rw[aI];omega),bF (by simp;omega)]
  obtain⟨ad,ab⟩:=aa.some (λe=>by rw[e]at M;simp at M);refine AA ab ⟨⟨om,h3⟩,p.1,p.2,aa.ldA rO ab M rfl,λyb w7 ap=>?_⟩;have H7:=H.nw ap;refine Hp.sA H7 rO (cs':=[I p.1,.string p.2]) λw8 C=>?_;refine AA rfl ⟨_,U C.drew.chg,AA rfl ⟨_,T C.drew.chg rPB h2,p.1,C.lo yInt,AC (Y C.drew.chg p1 p2) ?_⟩⟩;rintro _ w9 ⟨rfl,H9⟩;have N:=C.drew.ext0 H9;refine⟨_,_,rfl,?_⟩;refine JoinP.mk (λt w'=>t=true/\w'=w9) ?_ (λJ hJ=>CX (y:=_) (hJ _ _ ⟨rfl,rfl⟩));rintro t a1 ⟨rfl,hw⟩;obtain rfl:=hw.symm;refine⟨a,i,c,N.ld (o:=4) (cs:=u (a,i,c)) EQ4 iSAt m1 (by rw[f];rfl),p.2,N.lo yStr,λvb a3 ac=>?_⟩;have ae:=N.nw ac;refine Hp.app qg om ae.EQ EQ4 (Blk.src (P:=PP) pz (ae.blk (.head _)) rfl rfl) (by simp only[maxLen];omega) om ?_;intro a2 c2 a4 aq;refine Hp.st (o:=4) aq.EQ EQ4 iSAt rfl rfl (by rw[f];simp) (cs':=u (a2,i+1,c2)) (by rw[f];rfl) λa5 ar=>⟨iR,am (r.attrs.length-(i+1)) _ _ om ⟨i+1,a2,c2,.blk vb [.string (atW W p.1),.string p.2] 142::.blk yb [I p.1,.string p.2] 260::X,rfl,om,rfl,ar.perm ?_⟩⟩
  have e1:atC (b.x.attrs.take (i+1))=atC (b.x.attrs.take i)++[.string (atW W p.1),.string p.2]:=by
   have av:i<b.x.attrs.length:=by rw[d,aQ];exact A
   have aw:b.x.attrs[i]=(atW W p.1,p.2):=by
    have:=congrArg (λl=>l[i]?) d;simp only[au,hp,dF]at this;exact(aA.1 this).2
   rw[aH av,Fz,aw];rfl
  refine AL λff gg h0 G ha a6=>?_;simp only[I,Q,e1,ha,G,h0,aX,aN,aC];omega
 ·have A:i=b.x.attrs.length:=by rw[d,aQ];omega
  have F:b.x.attrs.length=r.attrs.length:=by rw[d,aQ]
  rw[A,bK]at H;refine⟨a,b.x.attrs.length,c,H.ld (o:=4) (cs:=u (a,b.x.attrs.length,c)) EQ4 iSAt (.head _) (by rw[f];rfl),AC (nSortA_spec b.x.attrs a c om (by rw[d];exact hk.rs) H.AX) ?_⟩;rintro _ w7 ⟨rfl,H7⟩;rw[Z]at H7;refine⟨rfl,b.level,b.x.kind,b.x.name,b.x.text,a,b.x.attrs.length,c,H7.loA Bo,?_⟩;refine Hp.stA H7.Am EQ4 Bo (vs:=itC b (a,b.x.attrs.length,c)) rfl rfl (by simp[itZ]) (cs':=itC b (a,b.x.attrs.length,c)) rfl λw8 C=>?_;refine⟨b.level,b.x.kind,b.x.name,b.x.text,a,b.x.attrs.length,c,C.loA Bo,a,c,by rw[<- F];rfl,?_⟩;rw[F]at C;exact Hp.BK (L:=[_]) C.AX
end
noncomputable section
open Go Go.Vc Go.Nod
def xeltS:Elt PP 187 62 2 16:=DD (by kernel_rfl)
def xundS:PP.underlying 187=some (.slice 62):=by kernel_rfl
def Gw(r:Fol.Rec):Sp:=(r.frm,r.to)
def spR(l:List Fol.Rec):SM:=l.foldl (λS r=>sput S r.id (Gw r)) []
def spR_snoc(l:List Fol.Rec)(r:Fol.Rec):spR (l++[r])=sput (spR l) r.id (Gw r):=by rw[spR,iH];rfl
structure Zw(W:LB0)(T:Tr)(recs:List Fol.Rec):Prop where
 len:recs.length=T.L.length
 id:∀(j:Nat)(r:Rw)(q:Fol.Rec),T.L[j]? =some r->recs[j]? =some q->q.id=r.id
 par:∀(j:Nat)(r:Rw)(q:Fol.Rec),T.L[j]? =some r->recs[j]? =some q->q.parent=Au T.L j
 it:∀(j:Nat)(r:Rw)(q:Fol.Rec),T.L[j]? =some r->recs[j]? =some q->V8 W r.level q=AZ r
 known:∀q∈recs,Zr W q
 lev:Hg (recs.map Gw)=some (T.L.map (·.level))
theorem rwC_at{a:List RW}{j:Nat}{p:RW}(h:a[j]? =some p):((a.flatMap rwC).drop (j*8)).take 8=rwC p:=by
 induction a generalizing j with
 |nil=>simp at h
 |cons q r b=>
  cases j with
  |zero=>
   simp at h;subst h;rw[bU,jL,fC];exact iP rfl
  |succ j=>
   rw[bJ]at h;rw[bU,dY,gU,<- dM,lC (by rfl)];exact b h
def nTreeQ_spec{B:LN0}{w0 w:World}{L:List Asn}(xb:Nat)(z:WN)(pa:OA)(n pc:Nat)(next:Int)(wa:OA)(wn wc pb:Nat)(aa:OA)(ac:Nat)(d:List RW)(wf:LN0)(W:LB0){F:Fo}{T:Tr}(hG:BA F T)(hT:Zw W T (d.map (·.1)))(cm:max next 1=T.next)
  (H:Hp B w0 w (.blk xb (ldC z.ub next wa wn wc pb aa d.length ac) 128::.blk z.ub (tbC z pa n pc) 86::.own 204 8 aa d.length ac (d.flatMap rwC)::.imap z.sb .i64 (smC [])::Ar wf z.wb W::(d.map rwO++L))):
  CP 68 #[pT0 xb] w λe w'=>∃tf tb,e=eE0 (.bool true)/\
   Hp B w0 w' (.blk xb (ldC z.ub next wa wn wc pb aa d.length ac) 128::.blk z.ub (tbC {z with tb:=tb} pa n pc) 86::AV tf tb T::.imap z.sb .i64 (smC (spR (d.map (·.1))))::Ar wf z.wb W::L):=by
 apply Jcz;have cz:=hG.len;have cn:d.length=T.L.length:=by rw[<- hT.len,aQ]
 obtain⟨X0,an⟩:∃X0,X0=Asn.blk xb (ldC z.ub next wa wn wc pb aa d.length ac) 128:=⟨_,rfl⟩;obtain⟨A0,bq⟩:∃A0,A0=Asn.own 204 8 aa d.length ac (d.flatMap rwC):=⟨_,rfl⟩;rw[<- an,<- bq]at H
 have bb:∀{W:World}{M:List Asn},Hp B w0 W M->X0∈M->∀{W':World},Eqw W W'->Ld PP 126 W' (Addr.add ⟨xb,0,none⟩ 4) (.slice aa d.length ac):=λ{W M} H m _ e=>by
  rw[an]at m;rw[add_lit];exact H.ld e vSR m rfl
 have bv:∀{W:World}{M:List Asn},Hp B w0 W M->X0∈M->∀{W':World},Eqw W W'->Ld PP 23 W' ⟨xb,0,none⟩ (pT0 z.ub):=λ{W M} H m _ e=>by
  rw[an]at m;exact H.ld e rPT m rfl
 have bc:∀{W:World}{M:List Asn}{j:Nat}{p:RW},Hp B w0 W M->A0∈M->d[j]? =some p->∃ad,aa=some ad/\Ld PP 204 W (ad.add ((j:Int).toNat*8)) (.agg (rwC p).toArray):=λ{W M j p} H m hj=>by
  rw[bq]at m;rw[aJ];exact H.ldOA EQ4 Fol.DV om m (rwC_at hj) rfl
 refine AA rfl ⟨aa,d.length,ac,bb H (.head _) EQ4,?_⟩;obtain⟨Y,hY⟩:∃Y:List Asn,Y=X0::.blk z.ub (tbC z pa n pc) 86::A0::.imap z.sb .i64 (smC [])::Ar wf z.wb W::(d.map rwO++L):=⟨_,rfl⟩;rw[<- hY]at H;have mX:X0∈Y:=by rw[hY];exact .head _
 have mA:A0∈Y:=by rw[hY];exact .tail _ m1
 obtain⟨b,N⟩:∃b,b=d.map (·.1):=⟨_,rfl⟩;rw[<- N]at hT;have ak:b.length=d.length:=by rw[N,aQ]
 have bd:∀{j:Nat}{p:RW},d[j]? =some p->b[j]? =some p.1:=λ{j p} h=>by rw[N,au,h];rfl
 have bw:∀{j:Nat}{p:RW},d[j]? =some p->b.take (j+1)=b.take j++[p.1]:=λ{j p} h=>by
  have h2:=bd h;rw[aH (aA.1 h2).1,(aA.1 h2).2]
 refine LoopP.mk (λm s w'=>∃(j:Nat)(sa:OA)(sc:Nat)(X:List Asn),m=d.length-j/\j<=d.length/\s=((sa,j,sc),(j:Int))/\Hp B w0 w' (.own 62 2 sa j sc (BM ((b.take j).map Gw))::(Y++X))) d.length ⟨0,none,0,[],rfl,om,rfl,by rw[aU];exact H.nilS 62 2⟩ ?_;rintro m s w1 nx ⟨j,sa,sc,X,rfl,hj,rfl,H⟩ bx;dsimp only;refine AB (λh1=>?_) (λh1=>?_)
 ·have ah:j<d.length:=om;obtain⟨p,hp⟩:∃p,d[j]? =some p:=⟨_,aB ah⟩;obtain⟨ad,aq,ao⟩:=bc H (.tail _ (aS _ mA)) hp;refine AA aq ⟨⟨om,h1⟩,_,_,_,_,_,_,_,_,_,_,ao,λyb w2 co=>?_⟩;have H2:=H.nw co;refine Hp.stA H2 EQ4 Fol.DV rfl rfl (by simp[recZ]) (cs':=rwC p) rfl λw3 A=>?_;refine⟨p.1.frm,p.1.to,A.loA Gy,λy w4 bh=>?_⟩;have H4:=A.nw bh;refine Hp.app xeltS om H4.Am EQ4 (Blk.src (P:=PP) xundS (H4.blk (.head _)) rfl rfl) (by simp only[maxLen];omega) om ?_;intro a2 c2 w5 H5;refine⟨iR,bx (d.length-(j+1)) _ _ om ⟨j+1,a2,c2,.blk y [I p.1.frm,I p.1.to] 62::.blk yb (rwC p) 204::X,rfl,om,rfl,H5.perm ?_⟩⟩
  have e1:BM ((b.take (j+1)).map Gw)=BM ((b.take j).map Gw)++[I p.1.frm,I p.1.to]:=by
   rw[bw hp,ai];simp[BM,Gw]
  refine AL λff gg i l q u=>?_;simp only[I,Q,e1,q,l,i,aX,aN,aC];omega
 have ah:j=d.length:=om;rw[ah,<- ak,bK]at H;have cp:Own w1 0 62 2 sa b.length sc (BM (b.map Gw)):=H.ownA (.head _);rw[ah,<- ak];refine AC (sLevels_spec sa b.length sc (b.map Gw) w1 cp.cells (by rw[aQ]) om) ?_;rintro _ w2 (⟨b0,_⟩|⟨Lv,va,vc,b1,b2,rfl,H2⟩)
 ·rw[hT.lev]at b0;cases b0
 rw[hT.lev]at b1;cases b1;have A:=H.ext1 H2;refine⟨_,_,_,_,rfl,BC (x:=_) (AA rfl ⟨aa,d.length,ac,bb A (t2 (aS _ mX)) EQ4,?_⟩)⟩;rw[ak]at A b2⊢;have cq:spR []=[]:=rfl
 have H4:Hp B w0 w2 (.imap z.sb .i64 (smC (spR (b.take 0)))::X0::.blk z.ub (tbC z pa n pc) 86::A0::Ar wf z.wb W::.own 3 1 va d.length vc (AO (T.L.map (·.level)))::(d.map rwO++(L++(.own 62 2 sa d.length sc (BM (b.map Gw))::X)))):=A.perm (by
  refine AL λff gg i l q u=>?_;simp only[hY,eu,cq,q,l,i,aX,aN,aC];omega)
 generalize c0:(Asn.own 62 2 sa d.length sc (BM (b.map Gw))::X)=X1 at H4;obtain⟨Z,hZ⟩:∃Z:List Asn,Z=X0::.blk z.ub (tbC z pa n pc) 86::A0::Ar wf z.wb W::.own 3 1 va d.length vc (AO (T.L.map (·.level)))::(d.map rwO++L):=⟨_,rfl⟩;have zX:X0∈Z:=by rw[hZ];exact .head _
 have zA:A0∈Z:=by rw[hZ];exact .tail _ m1
 have zT:Asn.blk z.ub (tbC z pa n pc) 86∈Z:=by rw[hZ];exact .tail _ (.head _)
 have zB:Ar wf z.wb W∈Z:=by rw[hZ];exact .tail _ m2
 have zV:Asn.own 3 1 va d.length vc (AO (T.L.map (·.level)))∈Z:=by rw[hZ];exact .tail _ m3
 have zO:∀{j:Nat}{p:RW},d[j]? =some p->rwO p∈Z:=λ{j p} h=>by
  rw[hZ];exact .tail _ (t4 (aS _ (aT.2 ⟨p,aG h,rfl⟩)))
 refine LoopP.mk (λm s w'=>∃(j:Nat)(ia:OA)(ic:Nat)(za:OA)(zc:Nat)(f:List Sl3)(X:List Asn),m=d.length-j/\j<=d.length/\s=((ia,j,ic),(za,j,zc),(j:Int))/\SlOk ((T.L.take j).map AZ) f/\
  Hp B w0 w' (.imap z.sb .i64 (smC (spR (b.take j)))::.own 123 5 ia j ic (itsC ((T.L.take j).map AZ) f)::.own 3 1 za j zc (AO ((T.L.take j).map (·.id)))::(Bh ((T.L.take j).map AZ) f++(Z++X)))) d.length ⟨0,none,0,none,0,[],X1,rfl,om,rfl,⟨by simp,λk x s h=>by simp at h⟩,?_⟩ ?_
 ·exact((H4.nilS 3 1).nilS 123 5).perm (by
   refine AL λff gg i l q u=>?_;have e1:itsC [] []=[]:=rfl;have e2:Bh [] []=[]:=rfl;have e3:AO []=[]:=rfl;simp only[I,Q,eu,iY,e1,e2,e3,hZ,q,l,i,aX,aN,aC];omega)
 rintro m s w3 nx ⟨j,ia,ic,za,zc,f,X,rfl,hj,rfl,ar,H⟩ a8;dsimp only;have b3:∀{x a1 a2 a3:Asn},x∈Z->x∈a1::a2::a3::(Bh ((T.L.take j).map AZ) f++(Z++X)):=λh=>.tail _ (t2 (aO _ (aS _ h)));refine AB (λh1=>?_) (λh1=>?_)
 ·have ah:j<d.length:=om;obtain⟨p,hp⟩:∃p,d[j]? =some p:=⟨_,aB ah⟩;obtain⟨r,hr⟩:∃r,T.L[j]? =some r:=⟨_,aB om⟩;have ap:=bd hp;have bi:=hT.id j r p.1 hr ap;have av:=hT.it j r p.1 hr ap;have cr:=hT.known p.1 (aG ap)
  have b4:T.L.take (j+1)=T.L.take j++[r]:=by
   rw[aH (aA.1 hr).1,(aA.1 hr).2]
  obtain⟨ad,aq,ao⟩:=bc H (b3 zA) hp;refine AA aq ⟨⟨om,h1⟩,_,_,_,_,_,_,_,_,_,_,ao,λyb w4 bh=>?_⟩;have H2:=H.new (cs:=recZ) EQ4 bh;refine Hp.stA H2 EQ4 Fol.DV (vs:=rwC p) rfl rfl (by simp[recZ]) (cs':=rwC p) rfl λw5 A=>?_;have K:∀{x a0:Asn},x∈Z->x∈a0::.imap z.sb .i64 (smC (spR (b.take j)))::.own 123 5 ia j ic (itsC ((T.L.take j).map AZ) f)::.own 3 1 za j zc (AO ((T.L.take j).map (·.id)))::(Bh ((T.L.take j).map AZ) f++(Z++X)):=λh=>.tail _ (b3 h);have b5:(AO (T.L.map (·.level)))[j]? =some (I r.level):=by simp[AO,hr]
  have al:∀{w6:World},Hp B w0 w6 (.blk yb (rwC p) 204::.imap z.sb .i64 (smC (spR (b.take j)))::.own 123 5 ia j ic (itsC ((T.L.take j).map AZ) f)::.own 3 1 za j zc (AO ((T.L.take j).map (·.id)))::(Bh ((T.L.take j).map AZ) f++(Z++X)))->
    CP 135 #[pT0 xb,.agg (rwC p).toArray,I r.level] w6 λe w'=>∃a c,e=eE0 (.tuple #[.agg (itC (AZ r) (a,p.1.attrs.length,c)).toArray,.bool true])/\Hp [] w6 w' [.own 142 2 a p.1.attrs.length c (atC r.x.attrs)]:=λ{w6} H6=>by
   have hb:Blk w6 xb (ldC z.ub next wa wn wc pb aa d.length ac) 128:=H6.blk (by rw[<- an];exact K zX);have ho:Own w6 0 260 2 p.2.1 p.1.attrs.length p.2.2 (Fol.BG p.1.attrs):=H6.ownA (K (zO hp));have:=nItem_spec xb z.ub z.wb (ldC z.ub next wa wn wc pb aa d.length ac) (tbC z pa n pc) 128 86 hb rfl (H6.blk (K zT)) rfl (W:=W) (H6.ok (Ar wf z.wb W) (K zB)) p.1 p.2.1 p.2.2 ho.cells cr r.level;rw[av]at this;exact this
  refine JoinP.mk (λt w'=>∃(ib:Nat)(a:OA)(c:Nat),t=(some ⟨ib,0,none⟩,true)/\Hp B w0 w' (.blk ib (itC (AZ r) (a,p.1.attrs.length,c)) 123::.own 142 2 a p.1.attrs.length c (atC r.x.attrs)::.blk yb (rwC p) 204::.imap z.sb .i64 (smC (spR (b.take j)))::.own 123 5 ia j ic (itsC ((T.L.take j).map AZ) f)::.own 3 1 za j zc (AO ((T.L.take j).map (·.id)))::(Bh ((T.L.take j).map AZ) f++(Z++X)))) ?_ ?_;rotate_left
  ·intro J hJ;obtain⟨vd,bj,b6⟩:=A.ldO (w':=w5.drew) (o:=j) EQ4 yInt (K zV) b5;refine⟨⟨_,_,_,_,_,_,_,_,_,_,A.ldA (o:=0) (cs:=rwC p) EQ4 Fol.DV (.head _) rfl rfl,AA bj ⟨⟨om,om⟩,r.level,by rw[aJ,bT];exact b6,AC (al A.drew) ?_⟩⟩,⟨_,_,_,_,_,_,_,_,_,_,A.ldA (o:=0) (cs:=rwC p) EQ4 Fol.DV (.head _) rfl rfl,AA bj ⟨⟨om,om⟩,r.level,by rw[aJ,bT];exact b6,λib w6 ct=>?_⟩⟩⟩
   ·rintro _ w6 ⟨a,c,rfl,H6⟩;refine⟨_,_,_,_,_,_,_,_,rfl,λib w7 D=>?_⟩;have C:=(A.drew.ext1 H6).new (cs:=itZ) EQ4 D;refine Hp.stA C EQ4 Bo (vs:=itC (AZ r) (a,p.1.attrs.length,c)) rfl rfl (by simp[itZ]) (cs':=itC (AZ r) (a,p.1.attrs.length,c)) rfl λw8 O=>hJ _ _ ⟨ib,a,c,rfl,O⟩
   ·have H6:=A.drew.new (cs:=itZ) EQ4 ct;obtain⟨ve,b7,b8⟩:=H6.ldO (w':=w6) (o:=j) EQ4 yInt (.tail _ (K zV)) b5;rw[bj]at b7;cases b7;refine⟨by rw[aJ,bT];exact b8,H6.ldA (o:=0) (cs:=rwC p) EQ4 Fol.DV m1 rfl rfl,AC (al H6.drop) ?_⟩;rintro _ w7 ⟨a,c,rfl,C⟩;refine⟨_,_,_,_,_,_,_,_,rfl,?_⟩;refine Hp.stA (H6.ext1 C).AX EQ4 Bo (vs:=itC (AZ r) (a,p.1.attrs.length,c)) rfl rfl (by simp[itZ]) (cs':=itC (AZ r) (a,p.1.attrs.length,c)) rfl λw8 O=>hJ _ _ ⟨ib,a,c,rfl,O⟩
  clear A al;rintro t w6 ⟨ib,a,c,rfl,H⟩;refine BC (x:=_) ?_;obtain⟨g,U⟩:∃g,g=itC (AZ r) (a,p.1.attrs.length,c):=⟨_,rfl⟩;rw[<- U]at H;have b9:p.1.id=r.id:=bi
  have ca:SlOk ((T.L.take j).map AZ++[AZ r]) (f++[(a,p.1.attrs.length,c)]):=ar.snoc (by
   have:=congrArg (λx:It=>x.x.attrs.length) av;rw[V8]at this;simp only[aQ]at this;exact this)
  have cu:p.1.attrs.length=(AZ r).x.attrs.length:=by
   have:=congrArg (λx:It=>x.x.attrs.length) av;rw[V8]at this;simp only[aQ]at this;exact this
  have cb:f.length=((T.L.take j).map AZ).length:=ar.len;have aw:(T.L.take (j+1)).map AZ=(T.L.take j).map AZ++[AZ r]:=by rw[b4,ai];rfl
  have cc:itsC ((T.L.take (j+1)).map AZ) (f++[(a,p.1.attrs.length,c)])=itsC ((T.L.take j).map AZ) f++g:=by rw[aw,Ut cb,U]
  have cd:Bh ((T.L.take (j+1)).map AZ) (f++[(a,p.1.attrs.length,c)])=Bh ((T.L.take j).map AZ) f++[.own 142 2 a p.1.attrs.length c (atC r.x.attrs)]:=by
   rw[aw,TP cb,cu];rfl
  have ce:AO ((T.L.take (j+1)).map (·.id))=AO ((T.L.take j).map (·.id))++[I r.id]:=by rw[b4,ai];simp[AO]
  have a4:g.length=5:=by rw[U];rfl
  have cv:g.all (·.oneCell')=true:=by rw[U];rfl
  refine JoinP.mk (λt w'=>∃(ab:OA)(ae:Nat)(af:OA)(ag:Nat)(X':List Asn),t=((ab,j+1,ae),(af,j+1,ag))/\Hp B w0 w' (.blk yb (rwC p) 204::.imap z.sb .i64 (smC (spR (b.take j)))::.own 123 5 ab (j+1) ae (itsC ((T.L.take (j+1)).map AZ) (f++[(a,p.1.attrs.length,c)]))::.own 3 1 af (j+1) ag (AO ((T.L.take (j+1)).map (·.id)))::(Bh ((T.L.take (j+1)).map AZ) (f++[(a,p.1.attrs.length,c)])++(Z++X')))) ?_ ?_
  ·rintro t w7 ⟨ab,ae,af,ag,X',rfl,C⟩;have mz:∀{x a0 a1 a2 a3:Asn}{M1 M2:List Asn},x∈Z->x∈a0::a1::a2::a3::(M1++(Z++M2)):=λh=>.tail _ (t3 (aO _ (aS _ h)));refine AA rfl ⟨_,bv C (mz zX) EQ4,AA rfl ⟨some z.sb,by rw[add_lit];exact C.ld (o:=1) (cs:=tbC z pa n pc) EQ4 rMIS (mz zT) rfl,p.1.id,C.lo yInt,p.1.frm,p.1.to,C.loA Gy,?_⟩⟩;refine Hp.mupI JA C.AX EQ4 λw8 O=>⟨iR,a8 (d.length-(j+1)) _ _ om ⟨j+1,ab,ae,af,ag,f++[(a,p.1.attrs.length,c)],X',rfl,om,rfl,by rw[aw];exact ca,?_⟩⟩
   have e1:aput (smC (spR (b.take j))) p.1.id (.agg #[I p.1.frm,I p.1.to])=smC (spR (b.take (j+1))):=by
    rw[bw hp,spR_snoc];exact MB (spR (b.take j)) p.1.id (Gw p.1)
   rw[e1]at O;exact O.del1
  ·intro J hJ
   have bk:∀{w9:World}{ab af:OA}{ae ag:Nat}{y ub:Nat}{T1 T2:TypeId},Hp B w0 w9 (.own 3 1 af (j+1) ag (AO ((T.L.take j).map (·.id))++[I p.1.id])::.own 123 5 ab (j+1) ae (itsC ((T.L.take j).map AZ) f++g)::.blk y g T1::.blk ub [I p.1.id] T2::.blk ib g 123::.own 142 2 a p.1.attrs.length c (atC r.x.attrs)::.blk yb (rwC p) 204::.imap z.sb .i64 (smC (spR (b.take j)))::(Bh ((T.L.take j).map AZ) f++(Z++X)))->J ((ab,j+1,ae),(af,j+1,ag)) w9:=λ{w9 ab af ae ag y ub T1 T2} H9=>
    hJ _ _ ⟨ab,ae,af,ag,.blk y g T1::.blk ub [I p.1.id] T2::.blk ib g 123::X,rfl,H9.perm (by
     refine AL λff gg i l q u=>?_;simp only[cc,cd,ce,b9,q,l,i,aX,aN,aC];omega)⟩
   have a5:∀{w8 am:World}{y:Nat}{M:List Asn}{G:OA->Nat->Nat->World->Prop},Hp B w0 w8 (.own 123 5 ia j ic (itsC ((T.L.take j).map AZ) f)::M)->Asn.blk y g 123∈M->Eqw w8 am->(∀a' c' w1,Hp B w0 w1 (.own 123 5 a' (j+1) c' (itsC ((T.L.take j).map AZ) f++g)::M)->G a' (j+1) c' w1)->∃a' n' c' w1,App PP #[34,34] 34 am (.slice ia j ic) (.slice (sP0 y) 1 1) (.slice a' n' c') w1/\G a' n' c' w1:=λ{w8 am y M G} O hm e k=>
    Hp.app Ym om O e (Blk.src (P:=PP) YZ ((O.go e).blk (.tail _ hm)) (by rw[a4]) cv) (by simp only[maxLen];omega) om k
   have appZ:∀{w8 am:World}{y:Nat}{M:List Asn}{G:OA->Nat->Nat->World->Prop},Hp B w0 w8 (.own 3 1 za j zc (AO ((T.L.take j).map (·.id)))::M)->Asn.blk y [I p.1.id] 3∈M->Eqw w8 am->(∀a' c' w1,Hp B w0 w1 (.own 3 1 a' (j+1) c' (AO ((T.L.take j).map (·.id))++[I p.1.id])::M)->G a' (j+1) c' w1)->∃a' n' c' w1,App PP #[59,59] 59 am (.slice za j zc) (.slice (sP0 y) 1 1) (.slice a' n' c') w1/\G a' n' c' w1:=λ{w8 am y M G} O hm e k=>
    Hp.app J8 om O e (Blk.src (P:=PP) J9 ((O.go e).blk (.tail _ hm)) rfl rfl) (by simp only[maxLen];omega) om k
   have bl:∀{W:World},Eqw w6 W->Ld PP 123 W ⟨ib,0,none⟩ (.agg (itC (AZ r) (a,p.1.attrs.length,c)).toArray):=λe=>by
    rw[<- U];exact H.ldA (o:=0) (cs:=g) e Bo (.head _) (by rw[fC];exact aV (jb a4)) a4
   have bm:∀{W:World},Eqw w6 W->Ld PP 3 W ⟨yb,0,none⟩ (I p.1.id):=λe=>H.ld (o:=0) (cs:=rwC p) e yInt m2 rfl;refine⟨⟨_,_,_,_,_,_,_,AA rfl (bl EQ4),p.1.id,bm EQ4,λy w7 D=>?_⟩,⟨_,_,_,_,_,_,_,AA rfl (bl EQ4),p.1.id,bm EQ4,λy w7 D=>?_⟩,⟨_,_,_,_,_,_,_,AA rfl (bl EQ4),p.1.id,bm EQ4,λub w7 D=>?_⟩⟩
   ·have C:=H.drew.new (cs:=g) EQ4 (by rw[U];exact D)
    refine⟨C.lo yInt,a5 (M:=.blk y g 123::.blk ib g 123::.own 142 2 a p.1.attrs.length c (atC r.x.attrs)::.blk yb (rwC p) 204::.imap z.sb .i64 (smC (spR (b.take j)))::.own 3 1 za j zc (AO ((T.L.take j).map (·.id)))::(Bh ((T.L.take j).map AZ) f++(Z++X))) (C.perm (by
     refine AL λff gg i l q u=>?_;simp only[q,l,i,aX,aN,aC];omega)) (.head _) EQ4 λa2 c2 w8 O=>⟨O.lo yInt,λub w9 cw=>?_⟩⟩
    have H9:=O.nw cw
    refine appZ (M:=.own 123 5 a2 (j+1) c2 (itsC ((T.L.take j).map AZ) f++g)::.blk y g 123::.blk ub [I p.1.id] 3::.blk ib g 123::.own 142 2 a p.1.attrs.length c (atC r.x.attrs)::.blk yb (rwC p) 204::.imap z.sb .i64 (smC (spR (b.take j)))::(Bh ((T.L.take j).map AZ) f++(Z++X))) (H9.perm (by
     refine AL λff gg i l q u=>?_;simp only[q,l,i,aX,aN,aC];omega)) m2 EQ4 λa3 c3 bo a6=>bk a6
   ·have C:=H.drew.new (cs:=g) EQ4 (by rw[U];exact D);refine⟨C.lo yInt,λub w8 bp=>?_⟩;have O:=C.nw bp
    refine a5 (M:=.blk y g 123::.blk ub [I p.1.id] 3::.blk ib g 123::.own 142 2 a p.1.attrs.length c (atC r.x.attrs)::.blk yb (rwC p) 204::.imap z.sb .i64 (smC (spR (b.take j)))::.own 3 1 za j zc (AO ((T.L.take j).map (·.id)))::(Bh ((T.L.take j).map AZ) f++(Z++X))) (O.perm (by
     refine AL λff gg i l q u=>?_;simp only[q,l,i,aX,aN,aC];omega)) (.head _) EQ4 λa2 c2 w9 H9=>?_
    refine appZ (M:=.own 123 5 a2 (j+1) c2 (itsC ((T.L.take j).map AZ) f++g)::.blk y g 123::.blk ub [I p.1.id] 3::.blk ib g 123::.own 142 2 a p.1.attrs.length c (atC r.x.attrs)::.blk yb (rwC p) 204::.imap z.sb .i64 (smC (spR (b.take j)))::(Bh ((T.L.take j).map AZ) f++(Z++X))) (H9.perm (by
     refine AL λff gg i l q u=>?_;simp only[q,l,i,aX,aN,aC];omega)) m2 EQ4 λa3 c3 bo a6=>bk a6
   ·have C:=H.drew.nw D;refine⟨AA rfl (show Ld PP 123 w7 ⟨ib,0,none⟩ (.agg (itC (AZ r) (a,p.1.attrs.length,c)).toArray) by rw[<- U];exact C.ldA (o:=0) (cs:=g) EQ4 Bo m1 (by rw[fC];exact aV (jb a4)) a4),λy w8 bp=>?_⟩;have O:=C.new (cs:=g) EQ4 (by rw[U];exact bp)
    refine a5 (M:=.blk y g 123::.blk ub [I p.1.id] 3::.blk ib g 123::.own 142 2 a p.1.attrs.length c (atC r.x.attrs)::.blk yb (rwC p) 204::.imap z.sb .i64 (smC (spR (b.take j)))::.own 3 1 za j zc (AO ((T.L.take j).map (·.id)))::(Bh ((T.L.take j).map AZ) f++(Z++X))) (O.perm (by
     refine AL λff gg i l q u=>?_;simp only[q,l,i,aX,aN,aC];omega)) (.head _) EQ4 λa2 c2 w9 H9=>?_
    refine appZ (M:=.own 123 5 a2 (j+1) c2 (itsC ((T.L.take j).map AZ) f++g)::.blk y g 123::.blk ub [I p.1.id] 3::.blk ib g 123::.own 142 2 a p.1.attrs.length c (atC r.x.attrs)::.blk yb (rwC p) 204::.imap z.sb .i64 (smC (spR (b.take j)))::(Bh ((T.L.take j).map AZ) f++(Z++X))) (H9.perm (by
     refine AL λff gg i l q u=>?_;simp only[q,l,i,aX,aN,aC];omega)) m2 EQ4 λa3 c3 bo a6=>bk a6
 clear a8;have ah:j=d.length:=om;rw[ah]at H ar⊢;rw[show T.L.take d.length=T.L from aV om]at H ar;rw[show b.take d.length=b from aV om]at H;have cf:∀{x a1 a2 a3:Asn}{M:List Asn},x∈Z->x∈a1::a2::a3::(M++(Z++X)):=λh=>.tail _ (t2 (aO _ (aS _ h)));refine AA rfl ⟨next,by rw[add_lit];exact H.ld (o:=1) (cs:=ldC z.ub next wa wn wc pb aa d.length ac) EQ4 yInt (by rw[<- an];exact cf zX) rfl,?_⟩;dsimp only;rw[cm];have a7:d.length=T.L.length:=cn
 have a9:Bi [] w3 ia d.length (T.L.map rowI) f:=by
  rw[a7];exact PH hG (ia:=ia) (ic:=ic) ar H (by rw[<- a7];exact .tail _ (.head _)) (λx hx=>.tail _ (t2 (aS _ hx)))
 have cg:Own w3 0 3 1 za d.length zc (AO (T.L.map (·.id))):=H.ownA m2;refine AC (gRestore_spec hG ia d.length ic f za d.length zc w3 a9 cg.cells a7) ?_;rintro _ w4 ⟨tf,tb,rfl,H2⟩;have A:=H.ext1 H2;clear H H2 a9 cg;refine⟨_,_,rfl,AQ (λh=>(h rfl).elim) (λ_=>?_)⟩
 have H5:Hp B w0 w4 (.blk z.ub (tbC z pa n pc) 86::AV tf tb T::X0::A0::.imap z.sb .i64 (smC (spR b))::Ar wf z.wb W::(L++(d.map rwO++(.own 3 1 va d.length vc (AO (T.L.map (·.level)))::.own 123 5 ia d.length ic (itsC (T.L.map AZ) f)::.own 3 1 za d.length zc (AO (T.L.map (·.id)))::(Bh (T.L.map AZ) f++X))))):=A.perm (by
  refine AL λff gg i l q u=>?_;simp only[hZ,q,l,i,aX,aN,aC];omega)
 clear A;generalize c1:(d.map rwO++(Asn.own 3 1 va d.length vc (AO (T.L.map (·.level)))::.own 123 5 ia d.length ic (itsC (T.L.map AZ) f)::.own 3 1 za d.length zc (AO (T.L.map (·.id)))::(Bh (T.L.map AZ) f++X)))=X2 at H5;refine AA rfl ⟨_,bv H5 m2 EQ4,AA rfl ?_⟩;refine Hp.st (o:=0) H5 EQ4 nPT rfl rfl (by simp[tbC]) (cs':=tbC {z with tb:=tb} pa n pc) rfl λw5 H6=>?_;clear H5;refine AA rfl ⟨aa,d.length,ac,bb H6 m2 EQ4,?_⟩;have cx:=hG.Pi;refine LoopP.mk (λm s w'=>∃(j:Nat)(tf:LN0)(X:List Asn),m=d.length-j/\j<=d.length/\s=(j:Int)/\Hp B w0 w' (AV tf tb T::X0::A0::.blk z.ub (tbC {z with tb:=tb} pa n pc) 86::.imap z.sb .i64 (smC (spR b))::Ar wf z.wb W::(L++X))) d.length ⟨0,tf,X2,rfl,om,rfl,H6.perm ?_⟩ ?_
 ·refine AL λff gg i l q u=>?_;simp only[q,l,i,aX,aN,aC];omega
 clear H6;rintro m s w6 c4 ⟨j3,ch,X3,rfl,c5,rfl,H⟩ ci;refine AB (λh2=>?_) (λh2=>?_)
 ·have cj:j3<d.length:=om;obtain⟨p,hp⟩:∃p,d[j3]? =some p:=⟨_,aB cj⟩;obtain⟨r,hr⟩:∃r,T.L[j3]? =some r:=⟨_,aB om⟩;have ap:=bd hp;have bi:=hT.id j3 r p.1 hr ap;have ck:=hT.par j3 r p.1 hr ap;obtain⟨ad,aq,ao⟩:=bc H m2 hp;refine AA aq ⟨⟨om,h2⟩,_,_,_,_,_,_,_,_,_,_,ao,λyb w7 D=>?_⟩;have H2:=H.new (cs:=recZ) EQ4 D;refine Hp.stA H2 EQ4 Fol.DV (vs:=rwC p) rfl rfl (by simp[recZ]) (cs':=rwC p) rfl λw8 A=>?_;clear H H2 D ao;refine⟨p.1.id,A.lo yInt,?_⟩;have cl:=Yk cx hr;rw[bi];refine AC (O4 (A.ok (AV ch tb T) m1) r.id) ?_;rintro _ w9 ⟨cy,⟨h3,_⟩|⟨k,r',a,c,kd,h3,rfl,h4,H4⟩⟩
  ·rw[cl]at h3;cases h3
  rw[cl]at h3;cases h3;have H5:=A.AX.use1 H4;clear A H4;refine⟨_,_,_,_,_,_,_,_,_,_,rfl,λy bo ba=>?_⟩;have H6:=H5.nw ba;refine Hp.sA H6 Jz (cs':=ndC r.id (Au T.L j3) kd r.x a r.x.attrs.length c) λc6 C=>?_;clear H5 H6 ba;refine⟨Au T.L j3,C.lo yInt,p.1.parent,C.lo yInt,AQ (λh=>(h ck.symm).elim) (λ_=>⟨iR,ci (d.length-(j3+1)) _ _ om ⟨j3+1,cy,.blk y (ndC r.id (Au T.L j3) kd r.x a r.x.attrs.length c) 71::.own 142 2 a r.x.attrs.length c (atC r.x.attrs)::.blk yb (rwC p) 204::X3,rfl,om,rfl,C.perm ?_⟩⟩)⟩;refine AL λff gg i l q u=>?_;simp only[q,l,i,aX,aN,aC];omega
 ·refine⟨ch,tb,rfl,?_⟩;rw[<- an,<- N]
  exact Hp.BK (R:=A0::X3) (H.perm (by
   refine AL λff gg i l q u=>?_;simp only[q,l,i,aX,aN,aC];omega))
end
noncomputable section
open Go Go.Vc Go.Nod
def Iy:LdS->List Cg->Option LdS
 |st,[]=>some st
 |st,c::r=>match SS st c with
  |none=>none
  |some st'=>Iy st' r
def lds0:LdS:=⟨[],[],0,[],[]⟩
structure LdG(st:LdS)(N:Nat):Prop where
 ok:LdOk st N
 w:Ci ⟨st.P,st.Q,[]⟩ 0
 ql:st.Q.length<=N
 cn:(st.C.map (·.1)).Nodup
 cl:st.C.length<=N
 ci:∀i∈st.C.map (·.1),0<=i/\i<=4294967296
def Yv:LdG lds0 0:=⟨⟨bY _,bY _,λi=>bY _⟩,⟨bY _,λe h=>(by cases h),.nil,λe h=>(by cases h),λe h=>(by cases h),.nil⟩,bY _,.nil,bY _,λi h=>(by cases h)⟩
def headF_id{l:LU}{x:Nat×Nat×Nat}(h:Fol.ES l=some x):x.1<=4294967296:=by
 rw[Fol.ES]at h;split at h
 ·cases h
 ·split at h
  ·cases h
  ·cases h;omega
def LdG.take{st m:LdS}{N:Nat}{c:Cg}(h:LdG st N)(b:SS st c=some m):LdG m (N+1):=by
 have n:=h.ok.take b;rw[SS]at b;split at b
 ·cases b
 rename_i H;split at b
 ·cases b
 rename_i A;obtain⟨⟨J,K,r⟩,a,t⟩:=cZ.1 b;subst t;have L:=h.ok.P
 have o:0<=c.slot/\c.slot<120:=by
  have f:(Sl.aput (BH (padP st.P (c.page.toNat+1)) c.page.toNat) c.slot c.s.data.toList).2=0:=az λh=>A (.inr (.inr h));rw[Sl.aput]at f;split at f
  ·cases f
  ·omega
 have p:st.P.length<=((padP st.P (c.page.toNat+1)).set c.page.toNat (Sl.aput (BH (padP st.P (c.page.toNat+1)) c.page.toNat) c.slot c.s.data.toList).1).length/\c.page.toNat<((padP st.P (c.page.toNat+1)).set c.page.toNat (Sl.aput (BH (padP st.P (c.page.toNat+1)) c.page.toNat) c.slot c.s.data.toList).1).length:=by
  rw[bV,padP,aF,dX];omega
 have l:=h.w.pages p.1 n.P
 have u:c.page<(((padP st.P (c.page.toNat+1)).set c.page.toNat (Sl.aput (BH (padP st.P (c.page.toNat+1)) c.page.toNat) c.slot c.s.data.toList).1).length:Int):=by
  have:=p.2;omega
 have B:Ci ⟨(padP st.P (c.page.toNat+1)).set c.page.toNat (Sl.aput (BH (padP st.P (c.page.toNat+1)) c.page.toNat) c.slot c.s.data.toList).1,gput st.Q (Ag c.s) (c.page,c.slot),[]⟩ 0:=by
  refine⟨l.len,λe g=>?_,GI l.qn _ _,λe g=>?_,l.d,l.dn⟩
  ·rcases JF g with rfl|g
   ·exact⟨by show 0<=c.page;omega,u,o.1,o.2⟩
   ·exact l.q e g
  ·rcases JF g with rfl|g
   ·exact Tu _
   ·exact l.key e g
 have D:=RY st.Q (Ag c.s) (c.page,c.slot)
 have y:(r.map (·.1)).Nodup/\r.length<=N+1/\∀i∈r.map (·.1),0<=i/\i<=4294967296:=by
  have same:(st.C.map (·.1)).Nodup/\st.C.length<=N+1/\∀i∈st.C.map (·.1),0<=i/\i<=4294967296:=⟨h.cn,jk h.cl,h.ci⟩;rw[Uk.eq_def]at a;split at a
  ·cases a
  ·split at a
   ·split at a
    ·cases a;exact same
    ·cases a
   ·split at a
    ·obtain⟨M,F,e⟩:=cZ.1 a;cases e;exact same
    ·split at a
     ·obtain⟨x,G,e⟩:=cZ.1 a;cases e;refine⟨GI h.cn _ _,fH (RY _ _ _) (Nat.succ_le_succ h.cl),λi j=>?_⟩;rw[JP]at j
      have z:i∈st.C.map (·.1)\/i=(x.1:Int):=by
       split at j
       ·exact .inl j
       ·rw[aW,aY]at j;exact j
      rcases z with j|rfl
      ·exact h.ci i j
      ·have:=headF_id G;omega
     ·cases a
 exact⟨n,B,by have:=h.ql;show(gput st.Q (Ag c.s) (c.page,c.slot)).length<=N+1;omega,y.1,y.2.1,y.2.2⟩
theorem Sj:∀(l:List Cg)(st a:LdS)(N:Nat),LdG st N->Iy st l=some a->LdG a (N+l.length)
 | [],st,a,N,h,ht=>by cases ht;exact h
 |c::r,st,a,N,h,ht=>by
  rw[Iy]at ht;split at ht
  ·cases ht
  ·rename_i s1 b;have:=Sj r s1 a (N+1) (h.take b) ht;rw[aK,show N+(r.length+1)=N+1+r.length by omega];exact this
structure rG(l:List Cg)(st:LdS)(recs:List Fol.Rec)(F:Fo)(T:Tr):Prop where
 take:Iy lds0 l=some st
 words:WOk st.V
 keys:∃(K:List Int)(rK:List Fol.Rec),K.Perm (st.C.map (·.1))/\(K.Pairwise λx y=>x<y)/\rK.length=K.length/\(∀(j:Nat)(i:Int)(r:Fol.Rec),K[j]? =some i->rK[j]? =some r->Fol.decR (sortL (pcAt st.C i)) r)/\recs.Perm rK
 rise:recs.Pairwise λa b=>a.frm<b.frm
 good:BA F T
 tree:Zw st.V T recs
 next:max st.next 1=T.next
def nLoad_spec{l:List Cg}{st:LdS}{d:List Fol.Rec}{F:Fo}{T:Tr}(J:rG l st d F T)(la:OA)(n lc:Nat)(w:World)(a3:∀W,Chg [] w W->Cells W la (cgsC l))(hn:n=l.length)(bp:n<=400000):
  CP 25 #[.slice la n lc] w λe w'=>∃f b,e=eE0 (.tuple #[pT0 b,I 0])/\Hp [] w w' [tabA f b ⟨T,spR d,st.V,st.P,st.Q⟩]:=by
 apply Jcl;have t:=Sj l lds0 st 0 Yv J.take;rw[bu]at t;refine AC (PU w) ?_;rintro _ w1 ⟨b,f,rfl,H1⟩;obtain⟨M,⟨z,u,y,N,tf,wf,rfl,_,rfl⟩,H2,_⟩:=H1.unpack;refine⟨_,rfl,λO w2 a4 xb w3 a5=>?_⟩;obtain⟨cf,H3⟩:=pcs_nil (H2.newI EQ4 .i64 a4);have H4:=(H3.new (cs:=ldC z.ub 0 none 0 0 O none 0 0) EQ4 a5).nilS 9 1
 refine LoopP.mk (λm s w'=>∃(j:Nat)(q:OA)(r:Nat)(cf N:LN0)(u:OA)(y:Nat)(s1:LdS)(X:List Asn),m=n-j/\j<=n/\s=(j:Int)/\LdG s1 j/\Iy s1 (l.drop j)=some st/\
  Hp [] w w' (ldL xb O z q r none 0 0 cf N u y s1++(AV tf z.tb ⟨[],1⟩::.imap z.sb .i64 (smC [])::Ar wf z.wb []::X))) n ⟨0,none,0,cf,N,u,y,lds0,[],rfl,om,rfl,Yv,J.take,H4.perm ?_⟩ ?_
 ·refine AL λff gg h0 R U ab=>?_;have e1:BJ lds0.V=[]:=rfl;have e2:tab0.T=⟨[],1⟩/\tab0.S=[]/\tab0.W=[]/\tab0.P=lds0.P/\tab0.Q=lds0.Q:=⟨rfl,rfl,rfl,rfl,rfl⟩;have e3:lds0.V.length=0/\lds0.next=0/\lds0.C=[]:=⟨rfl,rfl,rfl⟩;simp only[I,Q,tabL,ldL,e1,e2.1,e2.2.1,e2.2.2.1,e2.2.2.2.1,e2.2.2.2.2,e3.1,e3.2.1,e3.2.2,U,R,h0,aX,aN,aC];omega
 rintro m s w4 nx ⟨j,q,r,cf,N,u,y,s1,X,rfl,hj,rfl,hg,ht,H⟩ a6;refine AB (λh1=>?_) (λh1=>?_)
 ·have A:j<l.length:=om;obtain⟨c,ag⟩:∃c,c=l[j]:=⟨_,rfl⟩;have R:l[j]? =some c:=by rw[ag];exact aB A
  have a7:l.drop j=c::l.drop (j+1):=by rw[ag];exact bQ A
  rw[a7,Iy]at ht;split at ht
  ·cases ht
  rename_i s2 ae;have ah:=a3 w4 H.chg;have af:=LW R;obtain⟨ad,ak⟩:=ah.some (λe=>by rw[e]at af;simp[cgC]at af);refine AA ak ⟨⟨om,h1⟩,c.page,c.slot,c.s,c.gone,ah.ldA magg ak af rfl,λyb w5 a8=>?_⟩;have H2:=H.nw a8;refine Hp.stA H2 EQ4 magg rfl rfl (by simp) rfl λw6 H3=>?_;refine⟨c.page,c.slot,c.s,c.gone,H3.loA magg,?_⟩;have H4:=H3.drop;obtain⟨pg,sl,s,al⟩:=c;have am:s=bts s.data.toList:=(CG s).symm;have an:=ae;rw[am]at ae;have ao:=nTake_spec xb O z q r none 0 0 cf N u y s1 s2 j hg.ok om pg sl s.data.toList al ae H4;rw[<- am]at ao;refine AC ao ?_;rintro _ w7 ⟨a9,ba,bb,bc,bd,bh,rfl,H5⟩;refine⟨true,rfl,BC ⟨iR,a6 (n-(j+1)) _ _ om ⟨j+1,a9,ba,bb,bc,bd,bh,s2,X,rfl,om,rfl,hg.take an,ht,H5⟩⟩⟩
 have A:j=l.length:=om;rw[A,gu,Iy]at ht;cases ht;refine⟨q,st.V.length,r,H.lo rSS,?_⟩;have bi:Own w4 0 9 1 q st.V.length r (BJ st.V):=H.ownA m1;refine AC (xLoad_spec q st.V.length r st.V w4 bi.cells rfl J.words) ?_;rintro _ w5 ⟨B,Y,rfl,H2⟩;have H3:=H.ext1 H2;refine⟨_,_,rfl,AQ (λh=>(h rfl).elim) (λ_=>?_)⟩;obtain⟨K,rK,k1,k2,k3,k4,k5⟩:=J.keys
 have H4:Hp [] w w5 (.blk xb (ldC z.ub st.next q st.V.length r O none 0 0) 128::pcsA cf O st.C::(Ar B Y st.V::.blk z.ub (tbC z u st.P.length y) 86::pgsA N u y st.P::.smap z.qb (gC Ah st.Q)::.imap z.sb .i64 (smC [])::.own 9 1 q st.V.length r (BJ st.V)::AV tf z.tb ⟨[],1⟩::Ar wf z.wb []::X)):=H3.perm (by
  refine AL λff gg h0 R U ab=>?_;simp only[ldL,U,R,h0,aX,aN,aC];omega)
 refine AC (nNodes_spec xb z.ub O st.next q st.V.length r cf st.C t.cn (by have:=t.cl;omega) (λi=>by have:=t.ok.C i;omega) (λi hi=>by have:=t.ci i hi;omega) K k1 k2 rK k3 k4 H4) ?_;rintro _ w6 ⟨aa,ac,D,rfl,bj,bk,H5⟩
 have ap:D.map (·.1)=d:=by
  have h1:(D.map (·.1)).Perm d:=bj.trans k5.symm;have h2:(D.map (·.1)).Pairwise λa b=>a.frm<=b.frm:=dV.2 bk;refine eY (le:=λa b=>a.frm<=b.frm) (λa b U hb h3 h4=>?_) h2 (J.rise.imp λh=>oO h) h1;have bq:a.frm=b.frm:=Int.le_antisymm h3 h4;have bl:=h1.mem_iff.1 U;obtain⟨i,hi⟩:=ay bl;obtain⟨j,hj⟩:=ay hb;obtain⟨aq,ar⟩:=aA.1 hi;obtain⟨A,av⟩:=aA.1 hj;rcases l9 i j with h|h|h
  ·have:=dB.1 J.rise i j aq A h;rw[ar,av]at this;omega
  ·subst h;rw[hi]at hj;exact Option.some.inj hj
  ·have:=dB.1 J.rise j i A aq h;rw[ar,av]at this;omega
 refine⟨true,rfl,BC (x:=_) ⟨_,H5.lo rPT,AA rfl ?_⟩⟩;rw[add_lit]
 have H6:Hp [] w w6 (.blk z.ub (tbC z u st.P.length y) 86::.blk xb (ldC z.ub st.next q st.V.length r O aa D.length ac) 128::.own 204 8 aa D.length ac (D.flatMap rwC)::.imap z.sb .i64 (smC [])::Ar B Y st.V::(D.map rwO++(pgsA N u y st.P::.smap z.qb (gC Ah st.Q)::.own 9 1 q st.V.length r (BJ st.V)::AV tf z.tb ⟨[],1⟩::Ar wf z.wb []::X))):=H5.perm (by
  refine AL λff gg h0 R U ab=>?_;simp only[U,R,h0,aX,aN,aC];omega)
 obtain⟨p,aw⟩:∃p:WN,p= {z with wb:=Y}:=⟨_,rfl⟩;have Z:p.ub=z.ub/\p.sb=z.sb/\p.wb=Y/\p.qb=z.qb:=by rw[aw];exact⟨rfl,rfl,rfl,rfl⟩
 refine Hp.st (o:=0+2) H6 EQ4 rPB rfl rfl (by simp[tbC]) (cs':=tbC p u st.P.length y) (by rw[aw];rfl) λw7 H7=>?_
 have H8:Hp [] w w7 (.blk xb (ldC p.ub st.next q st.V.length r O aa D.length ac) 128::.blk p.ub (tbC p u st.P.length y) 86::.own 204 8 aa D.length ac (D.flatMap rwC)::.imap p.sb .i64 (smC [])::Ar B p.wb st.V::(D.map rwO++(pgsA N u y st.P::.smap z.qb (gC Ah st.Q)::.own 9 1 q st.V.length r (BJ st.V)::AV tf z.tb ⟨[],1⟩::Ar wf z.wb []::X))):=by
  rw[Z.1,Z.2.1,Z.2.2.1];exact H7.AX
 refine AC (nTreeQ_spec xb p u st.P.length y st.next q st.V.length r O aa ac D B st.V J.good (by rw[ap];exact J.tree) J.next H8) ?_;rintro _ w8 ⟨a0,a1,rfl,H9⟩;rw[ap]at H9;refine⟨true,rfl,BC (x:=_) ⟨_,H9.lo rPT,?_⟩⟩;obtain⟨G,a2⟩:∃G:WN,G= {p with tb:=a1}:=⟨_,rfl⟩;have g:G.ub=p.ub/\G.tb=a1/\G.sb=p.sb/\G.wb=p.wb/\G.qb=z.qb:=by rw[a2];exact⟨rfl,rfl,rfl,rfl,Z.2.2.2⟩
 rw[<- a2]at H9
 have bm:Hp [] w w8 (tabL G u y N a0 B ⟨T,spR d,st.V,st.P,st.Q⟩++(.blk xb (ldC p.ub st.next q st.V.length r O aa D.length ac) 128::.own 9 1 q st.V.length r (BJ st.V)::AV tf z.tb ⟨[],1⟩::Ar wf z.wb []::X)):=H9.perm (by
  refine AL λff gg h0 R U ab=>?_;simp only[tabL,g.1,g.2.1,g.2.2.1,g.2.2.2.1,g.2.2.2.2,U,R,h0,aX,aN,aC];omega)
 obtain⟨f',bo⟩:=bm.Dl (Q:=tabQ G.ub ⟨T,spR d,st.V,st.P,st.Q⟩) ⟨G,u,y,N,a0,B,rfl,⟨t.w,by have:=t.ql;show st.Q.length<=500000;omega⟩,rfl⟩;exact⟨f',G.ub,by rw[g.1],Hp.BK (L:=[_]) bo⟩
end
end Go.Proofs.YtljenkbpnioipaaGreat
namespace Go.Nod
open Go
end Go.Nod
namespace Go.Proofs.YtljenkbpnioipaaGreat
noncomputable section
open Go Go.Vc Go.Nod
def Jm(p:Nat×LU)(r:Sl.Recs)(i:Int):Sl.lk (p::r) i=if(p.1:Int)=i then some p.2 else Sl.lk r i:=by
 unfold Sl.lk;rw[List.find?_cons];by_cases h:(p.1:Int)=i
 ·simp[h]
 ·simp[h]
def lk_nil(i:Int):Sl.lk [] i=none:=rfl
theorem Zz:∀(L:Sl.Recs)(k:Nat)(i:Int),Sl.lk (Sl.wo L k) i=if i=(k:Int)then none else Sl.lk L i
 | [],k,i=>by rw[show Sl.wo [] k=[]from rfl,lk_nil];split<;>rfl
 |p::r,k,i=>by
  have b:=Zz r k i;by_cases h:p.1=k
  ·have e:Sl.wo (p::r) k=Sl.wo r k:=by
    show List.filter _ (p::r)=_;rw[dL,if_neg (by simp[h])];rfl
   rw[e,b,Jm];by_cases a:i=(k:Int)
   ·rw[if_pos a,if_pos a]
   ·rw[if_neg a,if_neg a,if_neg (λe=>a om)]
  ·have e:Sl.wo (p::r) k=p::Sl.wo r k:=by
    show List.filter _ (p::r)=_;rw[dL,if_pos (by simp[h])];rfl
   rw[e,Jm,Jm,b];by_cases a:(p.1:Int)=i
   ·rw[if_pos a,if_pos a,if_neg (λe=>h om)]
   ·rw[if_neg a,if_neg a]
theorem Yo(k:Nat)(s:LU):∀(L:Sl.Recs)(i:Int),(∀p∈L,p.1≠k)->Sl.lk (Sl.insR (k,s) L) i=if i=(k:Int)then some s else Sl.lk L i
 | [],i,_=>by
  rw[Sl.insR,Jm];by_cases h:i=(k:Int)
  ·rw[if_pos h.symm,if_pos h]
  ·rw[if_neg λe=>h e.symm,if_neg h]
 |p::r,i,h=>by
  rw[Sl.insR];split
  ·rw[Jm];by_cases a:i=(k:Int)
   ·rw[if_pos a.symm,if_pos a]
   ·rw[if_neg λe=>a e.symm,if_neg a]
  ·have b:=h p (.head _);rw[Jm,Jm,Yo k s r i λq c=>h q (.tail _ c)];by_cases a:(p.1:Int)=i
   ·rw[if_pos a,if_neg (λe=>b om),if_pos a]
   ·rw[if_neg a,if_neg a]
structure PgW(L:Sl.Recs):Prop where
 up:L.Pairwise λa b=>a.1<b.1
 lt:∀p∈L,p.1<120
 few:Sl.tot L<=3600
theorem Md(f:Nat×LU->Bool):∀L:Sl.Recs,Sl.tot (L.filter f)<=Sl.tot L
 | []=>aZ _
 |p::r=>by
  have a:=Md f r;rw[dL];split
  ·rw[Sl.Dt,Sl.Dt];omega
  ·rw[Sl.Dt];omega
def PgW.nil:PgW []:=⟨.nil,λp h=>(by cases h),by show 0<=3600;omega⟩
def PgW.wo{L:Sl.Recs}(h:PgW L)(k:Nat):PgW (Sl.wo L k):=⟨h.up.filter _,λp a=>h.lt p (Sl.YY.1 a).1,fH (Md _ L) h.few⟩
def PgW.aput{L:Sl.Recs}(h:PgW L){k:Int}{s:LU}(a:(Sl.aput L k s).2=0):0<=k/\k<120/\PgW (Sl.aput L k s).1/\∀i,Sl.lk (Sl.aput L k s).1 i=if i=k then some s else Sl.lk L i:=by
 unfold Sl.aput at a⊢;split at a
 ·cases a
 rename_i g;split at a
 ·cases a
 rename_i e;rw[if_neg g,if_neg e];obtain⟨K,rfl⟩:∃K:Nat,k=(K:Int):=⟨k.toNat,om⟩;rw[aJ]at e⊢;have f:=h.wo K;have b:∀p∈Sl.wo L K,p.1≠K:=λp c=>(Sl.YY.1 c).2;refine⟨om,om,⟨Sl.Kr _ _ f.up b,λp c=>?_,?_⟩,λi=>?_⟩
 ·rcases(Sl.IU _ _ _).1 c with rfl|c
  ·show K<120;omega
  ·exact f.lt p c
 ·show Sl.tot (Sl.insR (K,s) (Sl.wo L K))<=3600;rw[Sl.OZ (Sl.Le _ _),Sl.Dt];show s.length+Sl.tot (Sl.wo L K)<=3600;omega
 ·show Sl.lk (Sl.insR (K,s) (Sl.wo L K)) i=_;rw[Yo K s _ i b,Zz];by_cases d:i=(K:Int)
  ·rw[if_pos d,if_pos d]
  ·rw[if_neg d,if_neg d,if_neg d]
theorem Zm:∀(l:LN0)(a:Nat),l.Pairwise (· < ·)->(∀k∈l,a<=k)->Sl.ff l a∉l/\a<=Sl.ff l a
 | [],a,_,_=>⟨λh=>(by cases h),aZ _⟩
 |k::r,a,hs,hge=>by
  obtain⟨c,f⟩:=bH.1 hs;have m:=hge k (.head _);rw[Sl.ff];split
  ·rename_i e;obtain⟨n,p⟩:=Zm r (a+1) f λj d=>by have:=c j d;omega
   refine⟨λh=>?_,om⟩;rcases aP.1 h with h|h
   ·omega
   ·exact n h
  ·rename_i e;have b:∀j∈r,a+1<=j:=λj d=>by have:=c j d;omega
   have g:∀(l:LN0),(∀j∈l,a+1<=j)->Sl.ff l a=a:=by
    intro l
    induction l with
    |nil=>intro _;rfl
    |cons x l o=>
     intro i;have:=i x (.head _);rw[Sl.ff,if_neg om];exact o λj d=>i j (.tail _ d)
   rw[g r b];refine⟨λh=>?_,aZ _⟩;rcases aP.1 h with h|h
   ·omega
   ·have:=b a h;omega
def PgW.ains{L:Sl.Recs}(h:PgW L){s:List UInt8}(a:(Sl.ains L s).2.2=0):Sl.lk L (Sl.ains L s).2.1=none/\PgW (Sl.ains L s).1/\∀i,Sl.lk (Sl.ains L s).1 i=if i=(Sl.ains L s).2.1 then some s else Sl.lk L i:=by
 obtain⟨n,d⟩:∃n,n=Sl.ff (L.map (·.1)) 0:=⟨_,rfl⟩;have e:Sl.ains L s=if 120<=n then(L,0,111)else if(Sl.aput L n s).2=0 then((Sl.aput L n s).1,(n:Int),0)else(L,0,(Sl.aput L n s).2):=by rw[d];rfl
 rw[e]at a⊢;split at a
 ·cases a
 rename_i f;split at a;rotate_left
 ·rename_i c;exact absurd a c
 rename_i c;rw[if_neg f,if_pos c];obtain⟨_,_,g,j⟩:=h.aput c;refine⟨Sl.lk_none λp l m=>?_,g,j⟩;have b:=(Zm (L.map (·.1)) 0 (dV.2 h.up) (λk _=>bY _)).1;rw[<- d]at b;exact b (aT.2 ⟨p,l,by have:(p.1:Int)=(n:Int):=m;omega⟩)
def cel(P:List Sl.Recs)(p:Pl):Option (LU):=Sl.lk (BH P p.1.toNat) p.2
def Js{P:List Sl.Recs}{n:Nat}(h:P.length<=n):BH P n=[]:=by rw[BH,bF h];rfl
def TR(P:List Sl.Recs)(p:Pl):getP P p=cel P p:=by
 rw[getP,cel];split
 ·rw[Js om];rfl
 ·rfl
def Z9{P:List Sl.Recs}{p:Pl}{s:LU}(h:cel P p=some s):p.1.toNat<P.length:=by
 refine az λa=>?_;rw[cel,Js om]at h;cases h
def pageN_set{P:List Sl.Recs}{n:Nat}(a:n<P.length)(L:Sl.Recs)(m:Nat):BH (P.set n L) m=if m=n then L else BH P m:=by
 rw[BH,jh];by_cases h:m=n
 ·subst h;rw[if_pos rfl,if_pos rfl,if_pos a];rfl
 ·rw[if_neg λe=>h e.symm,if_neg h];rfl
def WM{P:List Sl.Recs}{n:Nat}(a:n<P.length)(L:Sl.Recs)(q:Pl):cel (P.set n L) q=if q.1.toNat=n then Sl.lk L q.2 else cel P q:=by
 rw[cel,pageN_set a];split<;>rfl
theorem KL(P:List Sl.Recs)(n:Nat)(q:Pl):cel (D7 P n) q=cel P q:=by
 rw[D7];split
 ·rw[cel,cel];congr 1;rw[BH,BH,ig];split
  ·rfl
  ·rename_i h;rw[bF (l:=P) om];cases e:q.1.toNat-P.length with
   |zero=>rfl
   |succ k=>rfl
 ·rfl
def PgsW(P:List Sl.Recs):Prop:=∀L∈P,PgW L
theorem PgsW.page{P:List Sl.Recs}(h:PgsW P)(n:Nat):PgW (BH P n):=by
 rw[BH];cases e:P[n]? with
 |none=>exact .nil
 |some L=>exact h L (aG e)
def PgsW.set{P:List Sl.Recs}(h:PgsW P)(n:Nat){L:Sl.Recs}(b:PgW L):PgsW (P.set n L):=λM a=>by
 rcases fM a with a|rfl
 ·exact h M a
 ·exact b
def PgsW.grow{P:List Sl.Recs}(h:PgsW P)(n:Nat):PgsW (D7 P n):=λM a=>by
 rw[D7]at a;split at a
 ·rcases aW.1 a with a|a
  ·exact h M a
  ·rw[aY.1 a];exact .nil
 ·exact h M a
theorem Xg(s:LU):∀(f n:Nat)(P:List Sl.Recs)(p:Pl),n<=P.length->PgsW P->(putF s f n P).2=some p->0<=p.1/\cel P p=none/\PgsW (putF s f n P).1/\∀q:Pl,0<=q.1->cel (putF s f n P).1 q=if q=p then some s else cel P q
 |0,n,P,p,_,_,h=>by cases h
 |f+1,n,P,p,hn,hP,h=>by
  have d:=hP.grow n;have g:=(SB P n).2.2 hn;rw[putF]at h⊢;split at h
  ·rename_i a;rw[if_pos a];obtain⟨m,o,r⟩:=(d.page n).ains a;cases h;refine⟨om,?_,d.set n o,λq i=>?_⟩
   ·rw[<- KL P n];show Sl.lk (BH (D7 P n) (n:Int).toNat) _=none;rw[aJ];exact m
   ·rw[WM g,r];obtain⟨j,t⟩:=q;by_cases b:j.toNat=n
    ·have l:j=(n:Int):=by have:0<=j:=i;omega
     rw[if_pos b];by_cases c:t=(Sl.ains (BH (D7 P n) n) s).2.1
     ·rw[if_pos c,if_pos (by rw[l,c])]
     ·rw[if_neg c,if_neg (λe=>c (congrArg (·.2) e)),<- KL P n,cel,b]
    ·rw[if_neg b,if_neg (λe=>b (by have:=congrArg (·.1) e;simp only at this;omega)),KL]
  ·rename_i a;rw[if_neg a];obtain⟨u,w,x,y⟩:=Xg s f (n+1) (D7 P n) p om d h;exact⟨u,by rw[<- KL P n];exact w,x,λq i=>by rw[y q i,KL]⟩
structure PInv(P:List Sl.Recs)(Q:QM):Prop where
 w:PgsW P
 at_:∀k p,gget Q k=some p->0<=p.1/\∃s,cel P p=some s/\Ag (bts s)=k
 all:∀(p:Pl) s,0<=p.1->cel P p=some s->gget Q (Ag (bts s))=some p
def PInv.one{P:List Sl.Recs}{Q:QM}(h:PInv P Q){k a:ByteArray}{p:Pl}(c:gget Q k=some p)(d:gget Q a=some p):k=a:=by
 obtain⟨_,s,e,f⟩:=h.at_ k p c;obtain⟨_,t,b,g⟩:=h.at_ a p d;rw[e]at b;cases b;rw[<- f,g]
def recK(st:WSt)(k:ByteArray):Option (LU):=(gget st.Q k).bind (cel st.P)
def Tch(st st':WSt):Prop:=∀q:Pl,gget st'.D q=none->gget st.D q=none/\(0<=q.1->cel st'.P q=cel st.P q)
def Tch.refl(st:WSt):Tch st st:=λq h=>⟨h,λ_=>rfl⟩
def Tch.trans{a b c:WSt}(e:Tch a b)(f:Tch b c):Tch a c:=λq h=>by
 obtain⟨g,i⟩:=f q h;obtain⟨j,l⟩:=e q g;exact⟨j,λd=>by rw[i d,l d]⟩
def Jv{D:DM}{p q:Pl}(h:gget (touch D p) q=none):q≠p/\gget D q=none:=by
 rw[touch,ER]at h;split at h
 ·cases h
 ·rename_i a;exact⟨a,h⟩
structure WInv(st:WSt):Prop where
 pi:PInv st.P st.Q
 qn:(st.Q.map (·.1)).Nodup
structure Ch1(st st':WSt)(k:ByteArray)(v:Option (LU)):Prop where
 inv:WInv st'
 rec1:recK st' k=v
 rec2:∀k',k'≠k->recK st' k'=recK st k'
 tch:Tch st st'
theorem WR{st:WSt}(h:WInv st){k:ByteArray}{p:Pl}(j:gget st.Q k=some p):Ch1 st (st.drop k) k none:=by
 obtain⟨G,s,n,R⟩:=h.pi.at_ k p j;have o:=Z9 n
 have B:(st.drop k).P=st.P.set p.1.toNat (Sl.wo (BH st.P p.1.toNat) p.2.toNat):=by
  rw[WSt.drop,j];show st.P.set p.1.toNat (Sl.adel (BH st.P p.1.toNat) p.2).1=_;rw[Sl.adel,show Sl.lk (BH st.P p.1.toNat) p.2=some s from n];rfl
 have H:0<=p.2:=by
  rcases Sl.Nr p.2 with⟨c,_⟩|⟨K,t,c,_⟩
  ·rw[show Sl.lk (BH st.P p.1.toNat) p.2=some s from n]at c;cases c
  ·omega
 have C:(st.drop k).Q=gdel st.Q k:=rfl;have J:(st.drop k).D=touch st.D p:=by rw[WSt.drop,j];rfl
 have a:∀q:Pl,0<=q.1->cel (st.drop k).P q=if q=p then none else cel st.P q:=λq d=>by
  rw[B,WM o,Zz];obtain⟨r,L⟩:=q;obtain⟨u,M⟩:=p;by_cases c:r.toNat=u.toNat
  ·have y:r=u:=om;rw[if_pos c];by_cases i:L=M
   ·rw[if_pos om,if_pos (by rw[y,i])]
   ·rw[if_neg om,if_neg (λe=>i (congrArg (·.2) e)),cel,c]
  ·rw[if_neg c,if_neg (λe=>c (by rw[show r=u from congrArg (·.1) e]))]
 have b:∀x,gget (st.drop k).Q x=if x=k then none else gget st.Q x:=λx=>by rw[C,JG _ _ _ h.qn]
 have l:∀f q,f≠k->gget st.Q f=some q->q≠p:=λf q c i e=>c (h.pi.one i (e▸j));refine⟨⟨⟨?_,λf q d=>?_,λq t d m=>?_⟩,by rw[C];exact MN h.qn k⟩,?_,λf g=>?_,λq d=>?_⟩
 ·rw[B];exact h.pi.w.set _ ((h.pi.w.page _).wo _)
 ·rw[b]at d;split at d
  ·cases d
  rename_i g;obtain⟨F,t,N,O⟩:=h.pi.at_ f q d;exact⟨F,t,by rw[a q F,if_neg (l f q g d),N],O⟩
 ·rw[a q d]at m;split at m
  ·cases m
  rename_i z;have:=h.pi.all q t d m;rw[b,if_neg,this];intro e;rw[e,j]at this;exact z (Option.some.inj this).symm
 ·rw[recK,b,if_pos rfl];rfl
 ·rw[recK,recK,b,if_neg g];cases e:gget st.Q f with
  |none=>rfl
  |some q=>
   show cel _ q=cel _ q;rw[a q (h.pi.at_ f q e).1,if_neg (l f q g e)]
 ·rw[J]at d;obtain⟨c,i⟩:=Jv d;exact⟨i,λA=>by rw[a q A,if_neg c]⟩
theorem qN{st:WSt}(h:WInv st){k s:ByteArray}(C:gget st.Q k=none)(z:Ag s=k)(j:(st.put k s).2=0):Ch1 st (st.put k s).1 k (some s.data.toList):=by
 rw[WSt.put]at j⊢;cases e:putF s.data.toList 4096 0 st.P with
 |mk P o=>
  rw[e]at j;cases o with
  |none=>cases j
  |some p=>
   obtain⟨l,D,A,c⟩:=Xg s.data.toList 4096 0 st.P p (bY _) h.pi.w (by rw[e]);rw[e]at A c
   have d:∀b q,gget st.Q b=some q->q≠p:=λb q m n=>by
    obtain⟨_,t,g,_⟩:=h.pi.at_ b q m;rw[n,D]at g;cases g
   refine⟨⟨⟨A,λb q a=>?_,λq t a f=>?_⟩,GI h.qn _ _⟩,?_,λb r=>?_,λq a=>?_⟩
   ·dsimp only at a⊢;rw[ER]at a;split at a
    ·rename_i u;cases a;exact⟨l,_,by rw[c p l,if_pos rfl],by rw[CG,z,u]⟩
    ·obtain⟨B,t,F,G⟩:=h.pi.at_ b q a;exact⟨B,t,by rw[c q B,if_neg (d b q a),F],G⟩
   ·dsimp only at f⊢;rw[c q a]at f;split at f
    ·rename_i x;cases f;rw[CG,z,ER,if_pos rfl,x]
    ·have:=h.pi.all q t a f;rw[ER,if_neg,this];intro i;rw[i,C]at this;cases this
   ·rw[recK];rw[ER,if_pos rfl];show cel P p=_;rw[c p l,if_pos rfl]
   ·rw[recK,recK];rw[ER,if_neg r];cases i:gget st.Q b with
    |none=>rfl
    |some q=>
     show cel P q=cel st.P q;rw[c q (h.pi.at_ b q i).1,if_neg (d b q i)]
   ·dsimp only at a⊢;obtain⟨m,n⟩:=Jv a;exact⟨n,λy=>by rw[c q y,if_neg m]⟩
def recK_some{st:WSt}(h:WInv st){k:ByteArray}{p:Pl}(a:gget st.Q k=some p):∃s,recK st k=some s/\cel st.P p=some s/\Ag (bts s)=k/\0<=p.1:=by
 obtain⟨c,s,b,d⟩:=h.pi.at_ k p a;exact⟨s,by rw[recK,a];exact b,b,d,c⟩
theorem pW{st:WSt}(h:WInv st){R:RM}{k r:ByteArray}(K:gget R k=some r)(u:Ag r=k)(g:(st.one R k).2=0):Ch1 st (st.one R k).1 k (some r.data.toList):=by
 rw[WSt.one]at g⊢;rw[K]at g⊢;rw[fB]at g⊢;cases e:gget st.Q k with
 |none=>
  rw[e]at g;exact qN h e u g
 |some p=>
  rw[e]at g;dsimp only at g⊢;obtain⟨s,s1,J,X,s4⟩:=recK_some h e;have L:Sl.lk (BH st.P p.1.toNat) p.2=some s:=J;rw[L,fB]at g⊢;split at g
  ·rename_i i;rw[if_pos i];exact⟨h,by rw[s1,i],λ_ _=>rfl,.refl _⟩
  rename_i i;rw[if_neg i];split at g
  ·rename_i j;rw[if_pos j];have z:=Z9 J;obtain⟨Y,Z,M,N⟩:=(h.pi.w.page p.1.toNat).aput j
   have a:∀q:Pl,0<=q.1->cel (st.P.set p.1.toNat (Sl.aput (BH st.P p.1.toNat) p.2 r.data.toList).1) q=if q=p then some r.data.toList else cel st.P q:=λq c=>by
    rw[WM z,N];obtain⟨A,O⟩:=q;obtain⟨B,T⟩:=p;by_cases l:A.toNat=B.toNat
    ·have C:A=B:=om;rw[if_pos l];by_cases m:O=T
     ·rw[if_pos m,if_pos (by rw[C,m])]
     ·rw[if_neg m,if_neg (λe=>m (congrArg (·.2) e)),cel,l]
    ·rw[if_neg l,if_neg (λe=>l (by rw[show A=B from congrArg (·.1) e]))]
   have n:∀f q,f≠k->gget st.Q f=some q->q≠p:=λf q i j x=>i (h.pi.one j (x▸e));refine⟨⟨⟨h.pi.w.set _ M,λf q c=>?_,λq t c o=>?_⟩,h.qn⟩,?_,λf d=>?_,λq c=>?_⟩
   ·dsimp only at c⊢;by_cases d:f=k
    ·subst d;rw[e]at c;cases c;exact⟨s4,_,by rw[a p s4,if_pos rfl],by rw[CG,u]⟩
    ·obtain⟨l,t,m,U⟩:=h.pi.at_ f q c;exact⟨l,t,by rw[a q l,if_neg (n f q d c),m],U⟩
   ·dsimp only at o⊢;rw[a q c]at o;split at o
    ·rename_i F;cases o;rw[CG,u,e,F]
    ·exact h.pi.all q t c o
   ·rw[recK];rw[e];show cel _ p=_;rw[a p s4,if_pos rfl]
   ·rw[recK,recK];cases x:gget st.Q f with
    |none=>rfl
    |some q=>
     show cel _ q=cel st.P q;rw[a q (h.pi.at_ f q x).1,if_neg (n f q d x)]
   ·dsimp only at c⊢;obtain⟨i,j⟩:=Jv c;exact⟨j,λG=>by rw[a q G,if_neg i]⟩
  ·rename_i j;rw[if_neg j];have H:Ch1 ⟨st.P,st.Q,touch st.D p⟩ (WSt.drop ⟨st.P,st.Q,touch st.D p⟩ k) k none:=WR (st:=⟨st.P,st.Q,touch st.D p⟩) ⟨h.pi,h.qn⟩ e
   have c:gget (WSt.drop ⟨st.P,st.Q,touch st.D p⟩ k).Q k=none:=by
    show gget (gdel st.Q k) k=none;rw[JG _ _ _ h.qn,if_pos rfl]
   have y:=qN H.inv c u g;refine⟨y.inv,y.rec1,λf d=>by rw[y.rec2 f d,H.rec2 f d];rfl,?_⟩;refine Tch.trans (b:=⟨st.P,st.Q,touch st.D p⟩) (λq c=>⟨(Jv c).2,λ_=>rfl⟩) (H.tch.trans y.tch)
open Classical in
theorem OX(R:RM):∀(K:LB0)(st:WSt),WInv st->K.Nodup->(∀k∈K,(gget st.Q k).isSome)->WInv (FP R K st)/\(∀k,recK (FP R K st) k=if k∈K/\gget R k=none then none else recK st k)/\Tch st (FP R K st)
 | [],st,h,_,_=>⟨h,λk=>by simp[FP],.refl _⟩
 |x::K,st,h,hn,hin=>by
  rw[bM]at hn;rw[FP];by_cases e:gget R x=none
  ·rw[if_pos e];obtain⟨p,m⟩:=Option.isSome_iff_exists.1 (hin x (.head _));have f:=WR h m
   have d:∀k∈K,(gget (st.drop x).Q k).isSome:=λk a=>by
    show(gget (gdel st.Q x) k).isSome;rw[JG _ _ _ h.qn,if_neg (λn=>hn.1 (by rw[<- n];exact a))];exact hin k (.tail _ a)
   obtain⟨i,j,l⟩:=OX R K (st.drop x) f.inv hn.2 d;refine⟨i,λk=>?_,f.tch.trans l⟩;rw[j];by_cases c:k=x
   ·subst c;rw[if_neg (λo=>hn.1 o.1),if_pos ⟨.head _,e⟩];exact f.rec1
   ·rw[f.rec2 k c];by_cases a:k∈K/\gget R k=none
    ·rw[if_pos a,if_pos ⟨.tail _ a.1,a.2⟩]
    ·rw[if_neg a,if_neg];rintro⟨b,g⟩;rcases aP.1 b with b|b
     ·exact c b
     ·exact a ⟨b,g⟩
  ·rw[if_neg e];obtain⟨i,j,l⟩:=OX R K st h hn.2 λk a=>hin k (.tail _ a);refine⟨i,λk=>?_,l⟩;rw[j];by_cases a:k∈K/\gget R k=none
   ·rw[if_pos a,if_pos ⟨.tail _ a.1,a.2⟩]
   ·rw[if_neg a,if_neg];rintro⟨b,g⟩;rcases aP.1 b with b|b
    ·exact e (b▸g)
    ·exact a ⟨b,g⟩
open Classical in
theorem Y7(R:RM):∀(M:LB0)(st:WSt),WInv st->(∀k∈M,∃r,gget R k=some r/\Ag r=k)->(layK R M st).2=0->WInv (layK R M st).1/\(∀k,recK (layK R M st).1 k=if k∈M then(gget R k).map (·.data.toList)else recK st k)/\Tch st (layK R M st).1
 | [],st,h,_,_=>⟨h,λk=>by simp[layK],.refl _⟩
 |x::M,st,h,hin,hc=>by
  rw[layK]at hc⊢;split at hc
  ·rename_i c;exact absurd hc c
  rename_i c;rw[if_neg c];obtain⟨r,e,f⟩:=hin x (.head _);have d:=pW h e f (dm.1 c);obtain⟨g,i,j⟩:=Y7 R M _ d.inv (λk b=>hin k (.tail _ b)) hc;refine⟨g,λk=>?_,d.tch.trans j⟩;rw[i];by_cases b:k∈M
  ·rw[if_pos b,if_pos (.tail _ b)]
  ·rw[if_neg b];by_cases a:k=x
   ·subst a;rw[if_pos (.head _),e];exact d.rec1
   ·rw[if_neg (by rw[aP,not_or];exact⟨a,b⟩)];exact d.rec2 k a
def YP{R:RM}{st:WSt}(h:WInv st)(m:∀k r,gget R k=some r->Ag r=k)(i:(ED R st).2=0):WInv (ED R st).1/\(∀k,recK (ED R st).1 k=(gget R k).map (·.data.toList))/\Tch st (ED R st).1:=by
 have a:∀{k},(gget st.Q k).isSome↔k∈st.Q.map (·.1):=λ{k}=>by
  rw[jw,ne_eq,Cc,dm]
 obtain⟨K,g⟩:∃K:LB0,K=ET (st.Q.map (·.1)):=⟨_,rfl⟩;obtain⟨M,j⟩:∃M:LB0,M=ET (R.map (·.1)):=⟨_,rfl⟩;have n:ED R st=layK R M (FP R K st):=by rw[g,j];rfl
 rw[n]at i⊢;have c:∀k,k∈K↔k∈st.Q.map (·.1):=λk=>by rw[g];exact Dj
 have d:∀k,k∈M↔k∈R.map (·.1):=λk=>by rw[j];exact Dj
 obtain⟨o,p,q⟩:=OX R K st h (by rw[g];exact(DT _).nodup_iff.2 h.qn) (λk f=>a.2 ((c k).1 f))
 obtain⟨s,t,u⟩:=Y7 R M _ o (λk f=>by
  have:gget R k≠none:=λe=>Cc.1 e ((d k).1 f);obtain⟨r,l⟩:=dZ.1 this;exact⟨r,l,m k r l⟩) i
 refine⟨s,λk=>?_,q.trans u⟩;rw[t];split
 ·rfl
 ·rename_i f;have b:gget R k=none:=Cc.2 λw=>f ((d k).2 w);rw[p];split
  ·rw[b];rfl
  ·rename_i x;have:gget st.Q k=none:=az λy=>x ⟨(c k).2 (a.1 (jw.2 y)),b⟩;rw[recK,this,b];rfl
end
noncomputable section
open Go Go.Vc Go.Nod
def He{a b:LU}(h:bts a=bts b):a=b:=by
 have:=congrArg (λs:ByteArray=>s.data.toList) h;exact this
def aboL:LU->LU
 | []=>[]
 |b::r=>if b.toNat=119 then(b::r).take 3 else if b.toNat=110 then(b::r).take 6 else [b]
theorem O3(l:LU):Ag (bts l)=bts (aboL l):=by
 cases l with
 |nil=>rfl
 |cons b r=>
  have f:bts (b::r)≠none0:=λe=>by
   have:=congrArg (λs:ByteArray=>s.data.toList) e;cases this
  have g:sb (bts (b::r)) 0=(b.toNat:Int):=rfl
  have a:∀n,(bts (b::r)).extract 0 n=bts ((b::r).take n):=λn=>by
   apply mG;rw[kL,bts,bts];simp
  rw[Ag,if_neg f,g,aboL,a,a,a,Dn];by_cases c:b.toNat=119
  ·rw[if_pos om,if_pos c];congr 1;rcases Nat.le_total (b::r).length 3 with h|h
   ·rw[fQ h,aV (aZ _),aV h]
   ·rw[Nat.min_eq_right h]
  ·rw[if_neg om,if_neg c];by_cases d:b.toNat=110
   ·rw[if_pos om,if_pos d];congr 1;rcases Nat.le_total (b::r).length 6 with h|h
    ·rw[fQ h,aV (aZ _),aV h]
    ·rw[Nat.min_eq_right h]
   ·rw[if_neg om,if_neg d];rfl
def Yh{n m:Int}{k:Nat}(c:0<=n)(d:n<256^k)(e:0<=m)(f:m<256^k)(h:be n k=be m k):n=m:=by
 have a:=Fol.Fa c d;have b:=Fol.Fa e f;rw[h]at a;omega
def MF:LU:=[104]
def Qa(k:Nat):LU:=119::be ((k:Int)+1) 2
def Ig(id:Int)(k:Nat):LU:=110::(be id 4++be (k:Int) 1)
def IP(n:Int):Ag (DX n)=bts MF:=O3 _
def abo_word(k:Nat)(l:LU):aboL (119::(be ((k:Int)+1) 2++l))=Qa k:=by
 rw[aboL,if_pos (by decide),eP,iP (AU _ _)];rfl
def Ic(k:Nat)(s:ByteArray):Ag (Eo k s)=bts (Qa k):=by
 rw[Eo,O3,abo_word]
def piece_split(r:Fol.Rec)(k:Nat):∃l,Fol.BO r k=be r.id 4++(be (k:Int) 1++(be (Fol.BF (Fol.Ac r).length:Int) 1++l))/\l=((Fol.Ac r).drop (900*k)).take 900:=by
 refine⟨_,?_,rfl⟩;simp[Fol.BO,Fol.headB,Fol.laid]
def abo_piece(r:Fol.Rec)(k:Nat):aboL (110::Fol.BO r k)=Ig r.id k:=by
 obtain⟨l,h,_⟩:=piece_split r k;rw[h,aboL,if_neg (by decide),if_pos (by decide),eP];have e:be r.id 4++(be (k:Int) 1++(be (Fol.BF (Fol.Ac r).length:Int) 1++l))=(be r.id 4++be (k:Int) 1)++(be (Fol.BF (Fol.Ac r).length:Int) 1++l):=by simp
 rw[e,iP (by rw[aF,AU,AU])];rfl
def EH(r:Fol.Rec)(k:Nat):Ag (DJ (Fol.BO r k))=bts (Ig r.id k):=by
 rw[DJ,O3,abo_piece]
def wordK_inj{j k:Nat}(a:j<65535)(b:k<65535)(h:Qa j=Qa k):j=k:=by
 have:=Yh om om om om (List.cons.inj h).2;omega
def MM{i a:Int}{k b:Nat}(d:0<=i/\i<4294967296)(c:0<=a/\a<4294967296)(l:k<256)(e:b<256)(h:Ig i k=Ig a b):i=a/\k=b:=by
 obtain⟨f,g⟩:=List.append_inj (List.cons.inj h).2 (by rw[AU,AU]);have j:=Yh d.1 om c.1 om f;have m:=Yh om om om om g;exact⟨j,om⟩
theorem GL:∀(l:LB0)(k:Nat)(r:ByteArray),r∈Dc k l↔∃(j:Nat)(s:ByteArray),l[j]? =some s/\s≠none0/\r=Eo (k+j) s
 | [],k,r=>by simp[Dc]
 |x::l,k,r=>by
  rw[Dc,aW,GL l (k+1) r];constructor
  ·rintro(h|⟨j,s,a,b,c⟩)
   ·by_cases d:x=none0
    ·rw[if_pos d]at h;cases h
    ·rw[if_neg d,aY]at h;exact⟨0,x,rfl,d,h⟩
   ·exact⟨j+1,s,a,b,by rw[c,jQ,gU 1 j]⟩
  ·rintro⟨j,s,a,b,c⟩;cases j with
   |zero=>
    cases a;rw[if_neg b];exact .inl (by rw[c];exact .head _)
   |succ j=>exact .inr ⟨j,s,a,b,by rw[c,jQ,gU 1 j]⟩
theorem Py:∀(l:LB0)(k:Nat),k+l.length<=65535->((Dc k l).map Ag).Nodup
 | [],k,_=>.nil
 |x::l,k,h=>by
  rw[aK]at h;have a:=Py l (k+1) om;rw[Dc,ai];by_cases b:x=none0
  ·rw[if_pos b];exact a
  ·rw[if_neg b];refine bM.2 ⟨λc=>?_,a⟩;obtain⟨r,d,e⟩:=aT.1 c;obtain⟨j,s,f,_,rfl⟩:=(GL l (k+1) r).1 d;have g:=(aA.1 f).1;rw[Ic,Ic]at e;have:=wordK_inj om om (He e);omega
theorem F8{T:Tr}{S:SM}{W:LB0}{j:Nat}{s:ByteArray}:s∈JD T S W j↔∃(r:Rw)(k:Nat),T.L[j]? =some r/\Fol.D9 (recP S W r.id (Au T.L j) r.x)/\k<Fol.BF (Fol.Ac (recP S W r.id (Au T.L j) r.x)).length/\s=DJ (Fol.BO (recP S W r.id (Au T.L j) r.x) k):=by
 rw[JD];cases e:T.L[j]? with
 |none=>simp
 |some r=>
  rw[aT];constructor
  ·rintro⟨p,a,rfl⟩;rw[Fol.out]at a;split at a
   ·rename_i b;obtain⟨k,c,rfl⟩:=aT.1 a;exact⟨r,k,rfl,b,dh.1 c,rfl⟩
   ·cases a
  ·rintro⟨h,k,d,f,g,rfl⟩;cases d;refine⟨_,?_,rfl⟩;rw[Fol.out,if_pos f];exact aT.2 ⟨k,dh.2 g,rfl⟩
def Qw{r:Fol.Rec}(h:Fol.D9 r):Fol.BF (Fol.Ac r).length<=34:=by
 have:=(Fol.Ei h).2.1;rw[Fol.BF];omega
theorem nodeR_nodup(T:Tr)(S:SM)(W:LB0)(j:Nat):((JD T S W j).map Ag).Nodup:=by
 rw[JD];cases e:T.L[j]? with
 |none=>exact .nil
 |some r=>
  dsimp only;rw[Fol.out];split
  ·rename_i d;have i:=Qw d;have:=d.1;have:=d.2.1;rw[Fol.pieces,dD,dD];refine dV.2 ((mi).imp_of_mem λ{a b} f g h c=>?_);have f:=dh.1 f;have g:=dh.1 g;have c:Ag (DJ (Fol.BO (recP S W r.id (Au T.L j) r.x) a))=Ag (DJ (Fol.BO (recP S W r.id (Au T.L j) r.x) b)):=c;rw[EH,EH]at c;have:=(MM ⟨om,om⟩ ⟨om,om⟩ om om (He c)).2;omega
  ·exact .nil
def NF{T:Tr}{S:SM}{W:LB0}{n:Nat}{s:ByteArray}:s∈EL T S W n↔∃j,j<n/\s∈JD T S W j:=by
 rw[EL,gq];constructor
 ·rintro⟨j,a,h⟩;exact⟨j,dh.1 a,h⟩
 ·rintro⟨j,a,h⟩;exact⟨j,dh.2 a,h⟩
theorem OJ{F:Fo}{T:Tr}(f:BA F T)(S:SM)(W:LB0):∀n,((EL T S W n).map Ag).Nodup
 |0=>.nil
 |n+1=>by
  rw[Gg,ai,bD];refine⟨OJ f S W n,nodeR_nodup T S W n,λx l y m g=>?_⟩;obtain⟨s,a,rfl⟩:=aT.1 l;obtain⟨t,o,rfl⟩:=aT.1 m;obtain⟨j,z,a⟩:=NF.1 a;obtain⟨r,k,p,b,A,rfl⟩:=F8.1 a;obtain⟨h,B,q,c,C,rfl⟩:=F8.1 o;have D:=Qw b;have G:=Qw c;have H:=b.1;have J:=b.2.1;have K:=c.1;have M:=c.2.1;rw[EH,EH]at g;have d:r.id=h.id:=(MM ⟨om,om⟩ ⟨om,om⟩ om om (He g)).1;have u:=f.Pi;have i:(T.L.map (·.id))[j]? =some r.id:=by rw[au,p];rfl
  have w:(T.L.map (·.id))[n]? =some h.id:=by rw[au,q];rfl
  have e:(T.L.map (·.id))[j]? =(T.L.map (·.id))[n]? :=i.trans ((congrArg some d).trans w.symm);have:=(og (aA.1 i).1 u).1 e;omega
def Ls{T:Tr}{S:SM}{W:LB0}{s:ByteArray}:s∈Ej T S W↔s=DX T.next\/s∈Dc 0 W\/∃j,j<T.L.length/\s∈JD T S W j:=by
 rw[Ej,aC,aP,aW,NF]
def all_nodup{F:Fo}{T:Tr}(h:BA F T)(S:SM){W:LB0}(o:W.length<=4000):((Ej T S W).map Ag).Nodup:=by
 rw[Ej,aC,aj,ai,bM,bD]
 have d:∀x∈(Dc 0 W).map Ag,∃k,x=bts (Qa k):=λx b=>by
  obtain⟨s,c,rfl⟩:=aT.1 b;obtain⟨j,t,_,_,rfl⟩:=(GL _ _ _).1 c;exact⟨_,Ic _ _⟩
 have f:∀x∈(EL T S W T.L.length).map Ag,∃i k,x=bts (Ig i k):=λx b=>by
  obtain⟨s,c,rfl⟩:=aT.1 b;obtain⟨j,_,c⟩:=NF.1 c;obtain⟨r,k,_,_,_,rfl⟩:=F8.1 c;exact⟨_,_,EH _ _⟩
 refine⟨λa=>?_,Py W 0 om,OJ h S W _,λx b y l m=>?_⟩
 ·rw[IP,aW]at a;rcases a with a|a
  ·obtain⟨k,e⟩:=d _ a;have:=iy (He e);revert this;decide
  ·obtain⟨i,k,e⟩:=f _ a;have:=iy (He e);revert this;decide
 ·obtain⟨k,g⟩:=d _ b;obtain⟨i,p,n⟩:=f _ l;rw[m,n]at g;have:=iy (He g);revert this;decide
theorem ZR:∀(l:LB0)(m:RM)(k r:ByteArray),gget (layR m l) k=some r->(r∈l/\Ag r=k)\/gget m k=some r
 | [],m,k,r,h=>.inr h
 |x::l,m,k,r,h=>by
  rcases ZR l (gput m (Ag x) x) k r h with h|h
  ·exact .inl ⟨.tail _ h.1,h.2⟩
  ·rw[ER]at h;split at h
   ·rename_i e;cases h;exact .inl ⟨.head _,e.symm⟩
   ·exact .inr h
theorem Xr:∀(l:LB0)(m:RM),(l.map Ag).Nodup->∀k,(∀r∈l,Ag r=k->gget (layR m l) k=some r)/\(k∉l.map Ag->gget (layR m l) k=gget m k)
 | [],m,_,k=>⟨λr h=>(by cases h),λ_=>rfl⟩
 |x::l,m,hn,k=>by
  rw[aj,bM]at hn;obtain⟨d,c⟩:=Xr l (gput m (Ag x) x) hn.2 k;refine⟨λr b a=>?_,λa=>?_⟩
  ·rcases aP.1 b with rfl|b
   ·show gget (layR (gput m (Ag r) r) l) k=some r;rw[c (by rw[<- a];exact hn.1),ER,if_pos a.symm]
   ·exact d r b a
  ·rw[aj,aP,not_or]at a;show gget (layR (gput m (Ag x) x) l) k=_;rw[c a.2,ER,if_neg a.1]
def DN(T:Tr)(S:SM)(W:LB0){k r:ByteArray}(h:gget (CE T S W) k=some r):r∈Ej T S W/\Ag r=k:=by
 rcases ZR _ _ _ _ h with h|h
 ·exact h
 ·cases h
def records_get{F:Fo}{T:Tr}(a:BA F T)(S:SM){W:LB0}(b:W.length<=4000){k r:ByteArray}:gget (CE T S W) k=some r↔r∈Ej T S W/\Ag r=k:=
 ⟨DN T S W,λh=>(Xr _ [] (all_nodup a S b) k).1 r h.1 h.2⟩
end
noncomputable section
open Go Go.Vc Go.Nod
def YF{s:ByteArray}(h:CW s):s≠none0:=λe=>by
 have:=h.1;rw[e]at this;exact absurd this (by decide)
structure Fj(X:Tab):Prop where
 wok:WOk X.W
 names:∀s,s≠none0->(s∈X.W↔s∈FD (X.T.L.map rowI))
 inv:WInv ⟨X.P,X.Q,[]⟩
 recs:∀k,k≠bts MF->recK ⟨X.P,X.Q,[]⟩ k=(gget (CE X.T X.S X.W) k).map (·.data.toList)
 head:recK ⟨X.P,X.Q,[]⟩ (bts MF)=some (DX X.T.next).data.toList\/(recK ⟨X.P,X.Q,[]⟩ (bts MF)=none/\X.T.next=1)
theorem tinv0:Fj tab0:=by
 refine⟨ZP,λs g=>?_,⟨⟨λL h=>(by cases h),λk p h=>(by cases h),λp s _ h=>(by cases h)⟩,.nil⟩,λk b=>?_,.inr ⟨rfl,rfl⟩⟩
 ·refine⟨λh=>(by cases h),λh=>?_⟩;obtain⟨x,c,_⟩:=Pj.1 h;cases c
 ·show none=_;cases e:gget (CE tab0.T tab0.S tab0.W) k with
  |none=>rfl
  |some r=>
   obtain⟨d,a⟩:=DN _ _ _ e;rcases Ls.1 d with h|h|⟨j,f,_⟩
   ·rw[h,IP]at a;exact absurd a.symm b
   ·cases h
   ·exact absurd f (Nat.not_lt_zero _)
def UK{F:Fo}{T:Tr}(g:BA F T){s:ByteArray}(h:s∈FD (T.L.map rowI)):CW s:=by
 obtain⟨x,i,b⟩:=Pj.1 h;have e:=Dx g x i;obtain⟨l,f,j⟩:=Dh e;rw[Ea,aW]at b;rcases b with b|b
 ·split at b
  ·rename_i c;rw[aY]at b;rw[b];exact(f c).1
  ·cases b
 ·obtain⟨a,d,rfl⟩:=aT.1 b;rcases OT e with c|c
  ·exact(f c).2.1.1 a d
  ·rw[(j c).1]at d;cases d
def id_range{F:Fo}{T:Tr}(a:BA F T){r:Rw}(h:r∈T.L):1<=r.id/\r.id<=2147483647:=by
 have b:r.id∈ids F:=by
  rw[<- BI F 0,a.fl];exact iM h
 have:=a.pos _ b;have:=a.next;omega
def o7{F:Fo}{X:Tab}{o:OpP}(j:Fj X)(b:BA F (doP X o).1.T)(a:(doP X o).2.2.2=0):Fj (doP X o).1/\recK ⟨(doP X o).1.P,(doP X o).1.Q,[]⟩ (bts MF)=some (DX (doP X o).1.T.next).data.toList:=by
 rw[doP]at a b⊢;split at a
 ·rename_i h;exact absurd a h
 rename_i m;split at a
 ·rename_i h;exact absurd a h
 rename_i c;split at a
 ·rename_i h;exact absurd a h
 rename_i d;rw[if_neg m,if_neg c,if_neg d]at b⊢;obtain⟨T,n⟩:∃T,T=(X.T.edit o).1:=⟨_,rfl⟩;rw[<- n]at b c d⊢;have e:=YI j.wok (λs p=>YF (UK b p)) (dm.1 c);obtain⟨f,g,q⟩:=YP (R:=CE T (X.spans T o) (X.words T).1) j.inv (λk r h=>(DN _ _ _ h).2) (dm.1 d);have i:ED (CE T (X.spans T o) (X.words T).1) ⟨X.P,X.Q,[]⟩=X.wr T o:=rfl;rw[i]at f g
 have l:recK ⟨(X.wr T o).1.P,(X.wr T o).1.Q,[]⟩ (bts MF)=some (DX T.next).data.toList:=by
  show recK (X.wr T o).1 (bts MF)=_;rw[g,(records_get b _ (W:=(X.words T).1) e.1.len).2 ⟨Ls.2 (.inl rfl),IP _⟩];rfl
 exact⟨⟨e.1,e.2,⟨f.pi,f.qn⟩,λk _=>g k,.inl l⟩,l⟩
def qL{X:Tab}{o:OpP}(a:(doP X o).2.2.2≠0):(doP X o).1=X/\(doP X o).2.1=0/\(doP X o).2.2.1=[]:=by
 rw[doP]at a⊢;split
 ·exact⟨rfl,rfl,rfl⟩
 ·rename_i b;rw[if_neg b]at a;split
  ·exact⟨rfl,rfl,rfl⟩
  ·rename_i c;rw[if_neg c]at a;split
   ·exact⟨rfl,rfl,rfl⟩
   ·rename_i d;rw[if_neg d]at a;exact absurd rfl a
def do_tinv{F:Fo}{X:Tab}{o:OpP}(a:Fj X)(c:BA F (doP X o).1.T):Fj (doP X o).1:=by
 by_cases b:(doP X o).2.2.2=0
 ·exact(o7 a c b).1
 ·rw[(qL b).1];exact a
end
noncomputable section
open Go Go.Vc Go.Nod
theorem O5:∀(P:List Sl.Recs)(n:Nat)(c:Cg),c∈FB n P↔∃m p,p∈BH P m/\c=⟨((n+m:Nat):Int),((p.1:Nat):Int),bts p.2,false⟩
 | [],n,c=>by
  constructor
  ·intro h;cases h
  ·rintro⟨m,p,h,_⟩;rw[Js (bY _)]at h;cases h
 |R::r,n,c=>by
  rw[FB,aW,O5 r (n+1) c,Gj,aT];constructor
  ·rintro(⟨p,a,rfl⟩|⟨m,p,a,rfl⟩)
   ·exact⟨0,p,a,rfl⟩
   ·exact⟨m+1,p,a,by rw[jQ,gU 1 m]⟩
  ·rintro⟨m,p,a,rfl⟩;cases m with
   |zero=>exact .inl ⟨p,a,rfl⟩
   |succ m=>exact .inr ⟨m,p,a,by rw[jQ,gU 1 m]⟩
def rowsT_mem{P:List Sl.Recs}{c:Cg}:c∈CV P↔∃(m:Nat)(p:Nat×LU),p∈BH P m/\c=⟨(m:Int),(p.1:Int),bts p.2,false⟩:=by
 rw[CV,O5];simp
def Je{P:List Sl.Recs}(h:PgsW P){c:Cg}:c∈CV P↔c.gone=false/\0<=c.page/\cel P (c.page,c.slot)=some c.s.data.toList:=by
 rw[rowsT_mem];constructor
 ·rintro⟨m,p,i,rfl⟩;refine⟨rfl,by dsimp only;omega,?_⟩;show Sl.lk (BH P ((m:Int).toNat)) _=_;rw[aJ];exact Sl.Yw (h.page m).up i
 ·rintro⟨b,d,e⟩;rcases Sl.Nr c.slot with⟨g,_⟩|⟨K,s,f,j,a⟩
  ·rw[show Sl.lk (BH P c.page.toNat) c.slot=some c.s.data.toList from e]at g;cases g
  ·rw[show Sl.lk (BH P c.page.toNat) c.slot=some c.s.data.toList from e]at a;refine⟨c.page.toNat,(K,s),j,?_⟩;obtain⟨l,sl,n,o⟩:=c;dsimp only at b d f a⊢;cases a;rw[b,f,CG,jR d]
def E5(a b:Cg):Prop:=a.page<b.page\/a.page=b.page/\a.slot<b.slot
theorem Rk:∀(P:List Sl.Recs)(n:Nat),PgsW P->(FB n P).Pairwise E5
 | [],n,_=>.nil
 |R::r,n,h=>by
  rw[FB,fK];refine⟨?_,Rk r (n+1) (λL c=>h L (.tail _ c)),λa d b e=>?_⟩
  ·rw[Gj,dV];refine(h R (.head _)).up.imp λ{a b} f=>.inr ⟨rfl,?_⟩;show(a.1:Int)<(b.1:Int);omega
  ·obtain⟨p,_,rfl⟩:=aT.1 d;obtain⟨m,q,_,rfl⟩:=(O5 r (n+1) b).1 e;left;show(n:Int)<((n+1+m:Nat):Int);omega
def VX{P:List Sl.Recs}(h:PgsW P):(CV P).Pairwise E5:=Rk P 0 h
def rows_nodup{P:List Sl.Recs}(h:PgsW P):(CV P).Nodup:=(VX h).imp λ{a b} c d=>by
 subst d;rcases c with h|⟨_,h⟩<;>omega
def rows_one{P:List Sl.Recs}(c:PgsW P){a b:Cg}(e:a∈CV P)(f:b∈CV P)(g:a.page=b.page)(h:a.slot=b.slot):a=b:=by
 obtain⟨j,l,d⟩:=(Je c).1 e;obtain⟨m,n,i⟩:=(Je c).1 f;rw[g,h,i]at d;have o:a.s=b.s:=by rw[<- CG a.s,<- CG b.s,Option.some.inj d]
 obtain⟨_,_,_,_⟩:=a;obtain⟨_,_,_,_⟩:=b
 simp_all
def row_kind{X:Tab}(f:Fj X){c:Cg}(p:c∈CV X.P):gget X.Q (Ag c.s)=some (c.page,c.slot)/\(c.s=DX X.T.next\/(∃(j:Nat)(s:ByteArray),X.W[j]? =some s/\s≠none0/\c.s=Eo j s)\/
  ∃(j:Nat)(r:Rw)(k:Nat),X.T.L[j]? =some r/\k<Fol.BF (Fol.Ac (recP X.S X.W r.id (Au X.T.L j) r.x)).length/\c.s=DJ (Fol.BO (recP X.S X.W r.id (Au X.T.L j) r.x) k)):=by
 have q:=f.inv.pi.w;obtain⟨A,t,m⟩:=(Je q).1 p;have b:=f.inv.pi.all (c.page,c.slot) _ t m;rw[CG]at b;have b:gget X.Q (Ag c.s)=some (c.page,c.slot):=b
 have a:recK ⟨X.P,X.Q,[]⟩ (Ag c.s)=some c.s.data.toList:=by
  rw[recK];rw[b];exact m
 refine⟨b,?_⟩;have d:∀r:ByteArray,r.data.toList=c.s.data.toList->c.s=r:=λr h=>by rw[<- CG c.s,<- CG r,h]
 by_cases n:Ag c.s=bts MF
 ·rw[n]at a;rcases f.head with h|⟨h,_⟩
  ·rw[h]at a;exact .inl (d _ (Option.some.inj a))
  ·rw[h]at a;cases a
 ·rw[f.recs _ n]at a;obtain⟨r,e,i⟩:=cZ.1 a;have u:=d r i;rw[<- u]at e;rcases Ls.1 (DN _ _ _ e).1 with h|h|⟨j,B,h⟩
  ·exact .inl h
  ·obtain⟨j,s,l,o,g⟩:=(GL _ _ _).1 h;rw[bu]at g;exact .inr (.inl ⟨j,s,l,o,g⟩)
  ·obtain⟨y,k,l,o,g,z⟩:=F8.1 h;exact .inr (.inr ⟨j,y,k,l,g,z⟩)
def headK_piece(i:Int)(k:Nat):bts MF≠bts (Ig i k):=λh=>by
 have:=iy (He h);revert this;decide
def wordK_piece(j:Nat)(i:Int)(k:Nat):bts (Qa j)≠bts (Ig i k):=λh=>by
 have:=iy (He h);revert this;decide
end
noncomputable section
open Go Go.Vc Go.Nod
theorem rec_row{X:Tab}(b:Fj X){k:ByteArray}{s:LU}(h:recK ⟨X.P,X.Q,[]⟩ k=some s):∃c∈CV X.P,c.s=bts s/\Ag c.s=k:=by
 cases e:gget X.Q k with
 |none=>
  have:recK ⟨X.P,X.Q,[]⟩ k=none:=by
   rw[recK];rw[e];rfl
  rw[this]at h;cases h
 |some p=>
  have d:cel X.P p=some s:=by
   rw[recK]at h;have h:(gget X.Q k).bind (cel X.P)=some s:=h;rw[e]at h;exact h
  obtain⟨f,t,a,g⟩:=b.inv.pi.at_ k p e;have a:cel X.P p=some t:=a;rw[d]at a;cases a;exact⟨⟨p.1,p.2,bts s,false⟩,(Je b.inv.pi.w).2 ⟨rfl,f,d⟩,rfl,g⟩
def rows_ids{F:Fo}{T:Tr}(d:BA F T){j a:Nat}{r b:Rw}(e:T.L[j]? =some r)(f:T.L[a]? =some b)(h:r.id=b.id):j=a:=by
 have c:(T.L.map (·.id))[j]? =some r.id:=by rw[au,e];rfl
 have g:(T.L.map (·.id))[a]? =some b.id:=by rw[au,f];rfl
 exact(og (aA.1 c).1 d.Pi).1 (c.trans ((congrArg some h).trans g.symm))
section
variable{F:Fo}{X:Tab}{l:List Cg}{st:LdS}
end
end
noncomputable section
open Go Go.Vc Go.Nod
theorem UO{l:LB0}:∀(r W:LB0),WOk W->(∀s∈W,s≠none0->s∈l)->(∀s∈r,s∈l/\CW s)->(Fg r W).2≠0->(Fg r W).2=94/\4000<l.length
 | [],W,_,_,_,h=>absurd rfl h
 |n::r,W,hW,hin,hr,h=>by
  rw[Fg]at h⊢;by_cases m:hasW W n
  ·rw[if_pos m]at h⊢;exact UO r W hW hin (λs d=>hr s (.tail _ d)) h
  ·rw[if_neg m]at h⊢;obtain⟨A,D⟩:=hr n (.head _);by_cases e:(addR W n).2.2≠0
   ·rw[if_pos e];refine⟨rfl,?_⟩
    have f:4000<=cntW W:=by
     rw[addR,if_neg (not_not_intro D)]at e;split at e
     ·assumption
     ·exact absurd rfl e
    have o:(W.filter λs=> !decide (s=none0)).Nodup:=by
     rw[List.Nodup,dB];intro i j B F p q;obtain⟨V,N⟩:∃V,V=W.filter λs=> !decide (s=none0):=⟨_,rfl⟩;have g:(W.filter λs=> !decide (s=none0)).Sublist W:=kE
     have t:W.Pairwise λa b=>a≠none0->a≠b:=by
      rw[dB];intro a b G H J c q;have:=hW.one a b W[a] (aB G) (by rw[q];exact aB H) c;omega
     have u:=dB.1 (t.sublist g) i j B F p;have w:=dO.1 (dw B);exact u (by simpa using w.2) q
    have y:n∉W.filter λs=> !decide (s=none0):=λC=>m ⟨(dO.1 C).1,by simpa using(dO.1 C).2⟩
    have:=IA (l':=l) (bM.2 ⟨y,o⟩) (λx z=>by
     rcases aP.1 z with rfl|z
     ·exact A
     ·obtain⟨u,w⟩:=dO.1 z;exact hin x u (by simpa using w))
    rw[aK]at this;rw[cntW]at f;omega
   ·rw[if_neg e]at h⊢;obtain⟨K,L,M⟩:=ZY (az e);rw[M]at h⊢;refine UO r (addW W n) (hW.add K m L) (λs d c=>?_) (λs d=>hr s (.tail _ d)) h;rcases(XK c).1 d with d|rfl
    ·exact hin s d c
    ·exact A
def learn_bad{W l:LB0}(c:WOk W)(d:∀s∈l,CW s)(h:(Ii W l).2≠0):(Ii W l).2=94/\4000<l.length:=by
 obtain⟨e,f⟩:=Oa (W0:=W) W 0 W (by simp) c (λj s _ _=>oq);refine UO l _ e (λs a b=>?_) (λs a=>⟨a,d s a⟩) h;obtain⟨k,g⟩:=ay a;exact((f k s b).1 g).2 (bY _)
def XH(more:Int)(l:List It)(n:Int){r:Rw}(h:r∈Ak n more l):n<=r.id:=by
 have:=Qi (iM h);exact this.1
def RP(T:Tr)(id:Int)(r:Rw):Prop:=(∃r0∈T.L,r0.id=r.id/\(r0.x=r.x\/r.id=id))\/T.next<=r.id
def VF{T:Tr}{id:Int}{r:Rw}(h:r∈T.L):RP T id r:=.inl ⟨r,h,rfl,.inl rfl⟩
def Vz{T:Tr}{id:Int}{L M:List Rw}{n:Nat}(b:∀r∈L,RP T id r)(c:∀r∈M,RP T id r):∀r∈J5 L n M,RP T id r:=λr a=>by
 rw[J5,aW,aW]at a;rcases a with(a|a)|a
 ·exact b r (dN a)
 ·exact c r a
 ·exact b r (eU a)
def Pn{L:List Rw}{k:Nat}{r:Rw}(h:r∈BR L k):r∈L:=by
 rw[BR,aW]at h;rcases h with h|h
 ·exact dN h
 ·exact eU h
def Rj{T:Tr}{id:Int}{k:Nat}{b:Rw}(c:atR T.L id=some (k,b))(x:NX):∀r∈setR T.L k b x,RP T id r:=λr a=>by
 obtain⟨d,e⟩:=qh c;rw[setR]at a;rcases fM a with a|rfl
 ·exact VF a
 ·exact .inl ⟨b,aG d,rfl,.inr e⟩
def edit_rows(T:Tr)(o:OpP):∀r∈(T.edit o).1.L,RP T o.id r:=by
 have a:∀r∈T.L,RP T o.id r:=λr b=>VF b;rw[Tr.edit];split
 ·rw[Tr.load];split
  ·exact a
  ·split
   ·exact a
   ·exact λr b=>.inr (XH 0 _ _ b)
 split
 ·rw[Tr.insert];split
  ·exact a
  ·split
   ·exact a
   ·split
    ·exact a
    ·split
     ·exact a
     ·split
      ·exact a
      ·split
       ·exact a
       ·exact Vz a λr b=>.inr (XH _ _ _ b)
 split
 ·rw[Tr.delete];split
  ·exact a
  ·split
   ·exact a
   ·exact λr b=>a r (Pn b)
 split
 ·rw[Tr.move];split
  ·split
   ·exact a
   ·split
    ·exact a
    ·split
     ·exact a
     ·split
      ·exact a
      ·split
       ·exact a
       ·split
        ·exact a
        ·refine Vz (λr b=>a r (Pn b)) λr b=>?_;rw[GZ]at b;obtain⟨q,c,rfl⟩:=aT.1 b;rw[segR]at c;exact .inl ⟨q,dN (eU c),rfl,.inl rfl⟩
  ·exact a
 split
 ·rw[Tr.BX];split
  ·exact a
  ·rename_i k d e;split
   ·exact a
   ·split
    ·exact a
    ·split
     ·exact a
     ·split
      ·exact a
      ·exact Rj e _
 split
 ·rw[Tr.Bg];split
  ·exact a
  ·rename_i k d e;split
   ·exact a
   ·split
    ·exact a
    ·exact Rj e _
 split
 ·rw[Tr.Bj];split
  ·exact a
  ·rename_i k d e;split
   ·exact a
   ·split
    ·exact a
    ·exact Rj e _
 ·exact a
def wt(L:Sl.Recs):Nat:=(L.map λp=>2*p.2.length+45).sum
theorem rD:∀L:Sl.Recs,wt L=2*Sl.tot L+45*L.length
 | []=>rfl
 |p::r=>by
  have a:=rD r;rw[wt,aj,iD,<- wt,a,Sl.Dt,aK];omega
def ains_wt{L:Sl.Recs}{s:LU}(d:s.length<=907)(h:(Sl.ains L s).2.2≠0):5387<=wt L:=by
 rw[rD];obtain⟨n,c⟩:∃n,n=Sl.ff (L.map (·.1)) 0:=⟨_,rfl⟩;have a:=Sl.qj (L.map (·.1)) 0;rw[<- c,aQ]at a;have e:Sl.ains L s=if 120<=n then(L,0,111)else if(Sl.aput L n s).2=0 then((Sl.aput L n s).1,(n:Int),0)else(L,0,(Sl.aput L n s).2):=by rw[c];rfl
 rw[e]at h;split at h
 ·omega
 rename_i f;split at h
 ·exact absurd rfl h
 rename_i b;rw[Sl.aput,if_neg om]at b;split at b
 ·rename_i g;have:=Md (λp=>p.1 !=(n:Int).toNat) L;have i:Sl.tot (Sl.wo L (n:Int).toNat)<=Sl.tot L:=this;omega
 ·exact absurd rfl b
theorem Sv(P:List Sl.Recs)(n m:Nat):BH (D7 P n) m=BH P m:=by
 rw[D7];split
 ·rw[BH,BH,ig];split
  ·rfl
  ·rename_i h;rw[bF (l:=P) om];cases e:m-P.length with
   |zero=>rfl
   |succ k=>rfl
 ·rfl
theorem XG(s:LU):∀(f n:Nat)(P:List Sl.Recs),(putF s f n P).2=none->∀m,n<=m->m<n+f->(Sl.ains (BH P m) s).2.2≠0
 |0,n,P,_,m,h1,h2=>by omega
 |f+1,n,P,h,m,h1,h2=>by
  rw[putF]at h;split at h
  ·cases h
  rename_i a;rw[Sv]at a;by_cases e:m=n
  ·rw[e];exact a
  ·have:=XG s f (n+1) (D7 P n) h m om om
   rwa [Sv]at this
theorem YC(c:Nat)(a:0<c):∀(N:Nat)(P:List Sl.Recs),(∀n,n<N->c<=wt (BH P n))->N*c<=(P.map wt).sum
 |0,P,_=>by rw[jL];exact bY _
 |N+1,[],h=>by
  have:=h 0 om;rw[Js (bY _)]at this;have e:wt []=0:=rfl;omega
 |N+1,L::r,h=>by
  have b:c<=wt L:=h 0 om;have d:=YC c a N r λn f=>h (n+1) om;rw[aj,iD,dY];omega
def wtC(c:Cg):Nat:=2*c.s.size+45
theorem Yy:∀(P:List Sl.Recs)(n:Nat),((FB n P).map wtC).sum=(P.map wt).sum
 | [],n=>rfl
 |R::r,n=>by
  have a:=Yy r (n+1)
  have e:((Gj n R).map wtC).sum=wt R:=by
   rw[Gj,dD,wt];congr 1
  rw[FB,ai,kH,a,e,aj,iD]
theorem Wx{α:Type}(key:α->ByteArray)(w:α->Nat):∀(l:List α)(K:List (ByteArray×Nat)),(l.map key).Nodup->(∀c∈l,∃e∈K,e.1=key c/\w c<=e.2)->(l.map w).sum<=(K.map (·.2)).sum
 | [],K,_,_=>bY _
 |c::l,K,hn,h=>by
  rw[aj,bM]at hn;obtain⟨e,f,g,n⟩:=h c (.head _);obtain⟨A,B,rfl⟩:=fO f
  have i:=Wx key w l (A++B) hn.2 λx b=>by
   obtain⟨j,a,d,m⟩:=h x (.tail _ b);refine⟨j,?_,d,m⟩;rw[aW,aP]at a;rw[aW];rcases a with a|a|a
   ·exact .inl a
   ·refine(hn.1 ?_).elim;rw[<- g,<- a,d];exact iM b
   ·exact .inr a
  simp at i⊢;omega
end
noncomputable section
open Go Go.Vc Go.Nod
theorem ZJ{st:WSt}{k s:ByteArray}(h:(st.put k s).2≠0):(st.put k s).2=94/\∀n,n<4096->(Sl.ains (BH st.P n) s.data.toList).2.2≠0:=by
 rw[WSt.put]at h⊢;cases e:putF s.data.toList 4096 0 st.P with
 |mk P o=>
  rw[e]at h;cases o with
  |some p=>exact absurd rfl h
  |none=>exact⟨rfl,λn a=>XG _ 4096 0 st.P (by rw[e]) n (bY _) om⟩
structure Full(R:RM)(st st2:WSt):Prop where
 inv:WInv st2
 recs:∀k s,recK st2 k=some s->(∃r,gget R k=some r/\r.data.toList=s)\/recK st k=some s
 full:∃k r,gget R k=some r/\∀n,n<4096->(Sl.ains (BH st2.P n) r.data.toList).2.2≠0
theorem one_bad{st:WSt}(h:WInv st){R:RM}{k r:ByteArray}(c:gget R k=some r)(a:(st.one R k).2≠0):(st.one R k).2=94/\∃d,Full R st d:=by
 rw[WSt.one]at a⊢;rw[c]at a⊢;rw[fB]at a⊢;cases e:gget st.Q k with
 |none=>
  rw[e]at a;obtain⟨f,g⟩:=ZJ a;exact⟨f,st,h,λk s b=>.inr b,k,r,c,g⟩
 |some p=>
  rw[e]at a;dsimp only at a⊢;split at a
  ·exact absurd rfl a
  rename_i m;split at a
  ·exact absurd rfl a
  rename_i n;rw[if_neg m,if_neg n];obtain⟨f,g⟩:=ZJ a;have i:Ch1 ⟨st.P,st.Q,touch st.D p⟩ (WSt.drop ⟨st.P,st.Q,touch st.D p⟩ k) k none:=WR (st:=⟨st.P,st.Q,touch st.D p⟩) ⟨h.pi,h.qn⟩ e;refine⟨f,_,i.inv,λj s b=>.inr ?_,k,r,c,g⟩;by_cases l:j=k
  ·subst l;rw[i.rec1]at b;cases b
  ·rw[i.rec2 j l]at b;exact b
theorem X6(R:RM):∀(M:LB0)(st:WSt),WInv st->(∀k∈M,∃r,gget R k=some r/\Ag r=k)->(layK R M st).2≠0->(layK R M st).2=94/\∃a,Full R st a
 | [],st,_,_,h=>absurd rfl h
 |x::M,st,h,hin,hc=>by
  obtain⟨r,c,i⟩:=hin x (.head _);rw[layK]at hc⊢;by_cases d:(st.one R x).2≠0
  ·rw[if_pos d]at hc⊢;exact one_bad h c hc
  ·rw[if_neg d]at hc⊢;have e:=pW h c i (dm.1 d);obtain⟨j,a,f⟩:=X6 R M _ e.inv (λk b=>hin k (.tail _ b)) hc;refine⟨j,a,f.inv,λk s l=>?_,f.full⟩;rcases f.recs k s l with g|g
   ·exact .inl g
   ·by_cases b:k=x
    ·subst b;rw[e.rec1]at g;exact .inl ⟨r,c,Option.some.inj g⟩
    ·rw[e.rec2 k b]at g;exact .inr g
theorem write_bad{R:RM}{st:WSt}(h:WInv st)(q:∀k r,gget R k=some r->Ag r=k)(l:(ED R st).2≠0):(ED R st).2=94/\∃a,WInv a/\(∀k s,recK a k=some s->∃r,gget R k=some r/\(r.data.toList=s\/recK st k=some s))/\∃k r,gget R k=some r/\∀n,n<4096->(Sl.ains (BH a.P n) r.data.toList).2.2≠0:=by
 have b:∀{k},(gget st.Q k).isSome↔k∈st.Q.map (·.1):=λ{k}=>by
  rw[jw,ne_eq,Cc,dm]
 obtain⟨K,d⟩:∃K:LB0,K=ET (st.Q.map (·.1)):=⟨_,rfl⟩;obtain⟨M,m⟩:∃M:LB0,M=ET (R.map (·.1)):=⟨_,rfl⟩;have t:ED R st=layK R M (FP R K st):=by rw[d,m];rfl
 rw[t]at l⊢;have c:∀k,k∈K↔k∈st.Q.map (·.1):=λk=>by rw[d];exact Dj
 have f:∀k,k∈M↔k∈R.map (·.1):=λk=>by rw[m];exact Dj
 obtain⟨u,w,C⟩:=OX R K st h (by rw[d];exact(DT _).nodup_iff.2 h.qn) (λk i=>b.2 ((c k).1 i))
 obtain⟨x,a,j⟩:=X6 R M _ u (λk i=>by
  have:gget R k≠none:=λe=>Cc.1 e ((f k).1 i);obtain⟨r,o⟩:=dZ.1 this;exact⟨r,o,q k r o⟩) l
 refine⟨x,a,j.inv,λk s y=>?_,j.full⟩;rcases j.recs k s y with⟨r,z,A⟩|g
 ·exact⟨r,z,.inl A⟩
 ·rw[w]at g;split at g
  ·cases g
  ·rename_i B;cases e:gget R k with
   |some r=>exact⟨r,rfl,.inr g⟩
   |none=>
    refine(B ⟨(c k).2 (b.1 ?_),e⟩).elim;cases e2:gget st.Q k with
    |some p=>rfl
    |none=>rw[recK,e2]at g;cases g
def s4(l:List At):Nat:=(l.map λa=>4+a.2.size).sum
def sB(l:List At):Nat:=(l.map λa=>a.1.size+a.2.size).sum
def lenX(x:NX):Nat:=30+x.text.size+s4 x.attrs
theorem attrsB_len(l:List (Int×ByteArray)):(Fol.EF l).length=(l.map λa=>4+a.2.size).sum:=by
 induction l with
 |nil=>rfl
 |cons p r b=>
  rw[Fol.EF]at b;rw[Fol.EF,bU,aF,b,aj,iD];simp only[aF,AU];have:p.2.data.toList.length=p.2.size:=by simp
  omega
def IZ(S:SM)(W:LB0)(i p:Int)(x:NX):(Fol.Ac (recP S W i p x)).length=lenX x:=by
 rw[Fol.Uu,attrsB_len];show 30+x.text.size+((x.attrs.map λa=>(numW W a.1,a.2)).map λa=>4+a.2.size).sum=_;rw[dD];rfl
def rowB(x:NX):Nat:=x.name.size+x.text.size+sB x.attrs
def UI(T:Tr):Nat:=(T.L.map λr=>rowB r.x).sum
def pcB(o:Int)(r:Rw)(k:Nat):Nat:=59+2*min 900 (lenX r.x-900*k)+if r.id=o then 1800 else 0
def SA(o:Int)(r:Rw):List (ByteArray×Nat):=(List.range (Fol.BF (lenX r.x))).map λk=>(bts (Ig r.id k),pcB o r k)
def VT(o:Int)(L:List Rw):List (ByteArray×Nat):=(bts MF,55)::((List.range 4000).map λj=>(bts (Qa j),171))++L.flatMap (SA o)
theorem VR{α:Type}(c:Nat):∀l:List α,(l.map λ_=>c).sum=c*l.length
 | []=>rfl
 |x::l=>by rw[aj,iD,VR c l,aK,Nat.mul_succ];omega
theorem Xl(o:Int)(r:Rw):∀m,((List.range m).map (pcB o r)).sum<=59*m+2*min (lenX r.x) (900*m)+m*(if r.id=o then 1800 else 0)
 |0=>by simp
 |m+1=>by
  have a:=Xl o r m;have e:(m+1)*(if r.id=o then 1800 else 0)=m*(if r.id=o then 1800 else 0)+(if r.id=o then 1800 else 0):=dY _ _;rw[iT,ai,kH,List.map_singleton,List.sum_singleton,e,pcB];omega
theorem attrs4(l:List At):s4 l<=4*l.length+sB l:=by
 induction l with
 |nil=>simp[s4]
 |cons a l b=>simp only[s4,sB,aj,iD,aK]at b⊢;omega
theorem pq(o:Int):∀(L:List Rw),(∀r∈L,r.x.attrs.length<=20/\lenX r.x<=30110)->900*((L.flatMap (SA o)).map (·.2)).sum<=1859*(L.map λr=>rowB r.x).sum+257531*L.length+55080000*(L.map (·.id)).count o
 | [],_=>by simp
 |r::L,h=>by
  have l:=pq o L λx i=>h x (.tail _ i);obtain⟨n,p⟩:=h r (.head _);have c:=Xl o r (Fol.BF (lenX r.x));have q:=attrs4 r.x.attrs;have g:((SA o r).map (·.2)).sum=((List.range (Fol.BF (lenX r.x))).map (pcB o r)).sum:=by rw[SA,dD];rfl
  have j:Fol.BF (lenX r.x)=(lenX r.x+899)/900:=rfl
  have s:lenX r.x<=110+rowB r.x:=by
   have e:lenX r.x=30+r.x.text.size+s4 r.x.attrs:=rfl;have t:rowB r.x=r.x.name.size+r.x.text.size+sB r.x.attrs:=rfl;omega
  obtain⟨m,d⟩:∃m,m=Fol.BF (lenX r.x):=⟨_,rfl⟩;rw[<- d]at c g j;have a:m<=34:=om;rw[bU,ai,kH,g,aj,iD,aj,List.count_cons,aK];by_cases b:r.id=o
  ·rw[if_pos b]at c;have f:(r.id==o)=true:=by simpa using b
   rw[if_pos f];have:m*1800<=34*1800:=dE _ a;omega
  ·rw[if_neg b]at c;have f:¬(r.id==o)=true:=by simpa using b
   rw[if_neg f];omega
def MZ{st:WSt}(h:WInv st){c:Cg}(d:c∈CV st.P):gget st.Q (Ag c.s)=some (c.page,c.slot)/\recK st (Ag c.s)=some c.s.data.toList:=by
 obtain⟨f,e,b⟩:=(Je h.pi.w).1 d;have a:=h.pi.all (c.page,c.slot) _ e b;rw[CG]at a;exact⟨a,by rw[recK,a];exact b⟩
def VW{W:LB0}(a:WOk W){j:Nat}{s:ByteArray}(h:W[j]? =some s)(b:s≠none0):(Eo j s).size<=63:=by
 have c:=(a.ok s (aG h)).resolve_left b;have:=c.2.1;rw[Eo,Dn,aK,aF,AU];have e:s.data.toList.length=s.size:=by simp
 omega
def NS(r:Fol.Rec)(k:Nat):(DJ (Fol.BO r k)).size=7+min 900 ((Fol.Ac r).length-900*k):=by
 rw[DJ,Dn,aK,Fol.PS];omega
def head_size(n:Int):(DX n).size=5:=by rw[DX,Dn,aK,AU]
def rec_size{T:Tr}{S:SM}{W:LB0}(a:WOk W){s:ByteArray}(h:s∈Ej T S W):s.size<=907:=by
 rcases Ls.1 h with h|h|⟨j,_,h⟩
 ·rw[h,head_size];omega
 ·obtain⟨j,t,b,c,rfl⟩:=(GL _ _ _).1 h;rw[bu];have:=VW a b c;omega
 ·obtain⟨r,k,_,_,_,rfl⟩:=F8.1 h;rw[NS];omega
theorem ZX{F:Fo}{T:Tr}(p:BA F T){r:Rw}(q:r∈T.L):r.x.attrs.length<=20/\lenX r.x<=30110:=by
 have f:=Dx p (rowI r) (iM q);obtain⟨g,t,u⟩:=Dh f;refine⟨g,?_⟩
 have w:∀(l:List At),(∀a∈l,a.2.size<=1500)->s4 l<=1504*l.length:=by
  intro l
  induction l with
  |nil=>intro _;simp[s4]
  |cons a l y=>
   intro h;have i:=h a (.head _);have j:=y λb z=>h b (.tail _ z);have e:s4 (a::l)=(4+a.2.size)+s4 l:=rfl;rw[e,aK];omega
 have c:∀{s:ByteArray},BD s=0->s.size<=1500:=λ{s} h=>by
  rw[BD]at h;split at h
  ·cases h
  ·split at h
   ·cases h
   ·omega
 have e:lenX r.x=30+r.x.text.size+s4 r.x.attrs:=rfl;rcases OT f with d|d
 ·obtain⟨m,n,o,A⟩:=t d;have i:s4 r.x.attrs<=1504*r.x.attrs.length:=w r.x.attrs λa B=>c ((IB _).1 A a B);have j:r.x.text.size=0:=by rw[show r.x.text=⟨#[]⟩from o];rfl
  have C:r.x.attrs.length<=20:=g;omega
 ·obtain⟨m,n,o⟩:=u d;have i:r.x.text.size<=1500:=c n;have j:s4 r.x.attrs=0:=by rw[show r.x.attrs=[]from m];rfl
  omega
def full_wide{F0 F:Fo}{X:Tab}{o:OpP}{T:Tr}{S:SM}{W:LB0}(hX:Fj X)(d:BA F0 X.T)(hG:BA F T)(hT:T=(X.T.edit o).1)(hW:WOk W)(hc:(ED (CE T S W) ⟨X.P,X.Q,[]⟩).2≠0):(ED (CE T S W) ⟨X.P,X.Q,[]⟩).2=94/\10000000<UI T:=by
 obtain⟨w1,u,G,w3,k0,r0,w4,w5⟩:=write_bad (st:=⟨X.P,X.Q,[]⟩) hX.inv (λk r h=>(DN _ _ _ h).2) hc;refine⟨w1,?_⟩;have am:=rec_size hW (DN _ _ _ w4).1
 have af:4096*5387<=((CV u.P).map wtC).sum:=by
  rw[CV,Yy];refine YC 5387 om 4096 u.P λn hn=>ains_wt ?_ (w5 n hn);have e:r0.data.toList.length=r0.size:=by simp
  omega
 have H:∀{r:Rw},r∈T.L->r.x.attrs.length<=20/\lenX r.x<=30110:=λhr=>ZX hG hr
 have J:((CV u.P).map λc=>Ag c.s).Nodup:=by
  refine dV.2 ((rows_nodup G.pi.w).imp_of_mem λ{a b} K hb aa he=>aa ?_);have C:=(MZ G K).1;have q2:=(MZ G hb).1;rw[he,q2]at C;have C:=Option.some.inj C;exact rows_one G.pi.w K hb (congrArg (·.1) C).symm (congrArg (·.2) C).symm
 have an:((CV u.P).map wtC).sum<=((VT o.id T.L).map (·.2)).sum:=by
  refine Wx (λc=>Ag c.s) wtC _ _ J λc hc=>?_
  have g:∀n,c.s=DX n->∃e∈VT o.id T.L,e.1=Ag c.s/\wtC c<=e.2:=λn h=>by
   refine⟨_,aS _ (.head _),by rw[h,IP],?_⟩;rw[wtC,h,head_size];show 2*5+45<=55;omega
  have l:∀{V:LB0}{j:Nat}{t:ByteArray},WOk V->V[j]? =some t->t≠none0->c.s=Eo j t->∃e∈VT o.id T.L,e.1=Ag c.s/\wtC c<=e.2:=λ{V j t} hV h1 h2 h=>by
   have hj:=(aA.1 h1).1;have:=hV.len;refine⟨_,aS _ (.tail _ (aT.2 ⟨j,dh.2 om,rfl⟩)),by rw[h,Ic],?_⟩;have:=VW hV h1 h2;rw[wtC,h];show 2*(Eo j t).size+45<=171;omega
  have p:∀{r:Rw}{k z:Nat},r∈T.L->k<Fol.BF (lenX r.x)->Ag c.s=bts (Ig r.id k)->c.s.size=7+min 900 (z-900*k)->(z=lenX r.x\/r.id=o.id)->∃e∈VT o.id T.L,e.1=Ag c.s/\wtC c<=e.2:=λ{r k z} h1 h2 h3 h4 M=>by
   refine⟨(bts (Ig r.id k),pcB o.id r k),aO _ (gq.2 ⟨r,h1,aT.2 ⟨k,dh.2 h2,rfl⟩⟩),h3.symm,?_⟩;rw[wtC,h4,pcB];rcases M with M|M
   ·rw[M];omega
   ·rw[if_pos M];omega
  obtain⟨C,q2⟩:=MZ G hc;obtain⟨r',ab,ac⟩:=w3 _ _ q2;obtain⟨n1,y⟩:=DN _ _ _ ab;rcases ac with hn|ho
  ·have he:c.s=r':=by rw[<- CG c.s,<- CG r',hn]
   rw[<- he]at n1;rcases Ls.1 n1 with h|h|⟨j,_,h⟩
   ·exact g _ h
   ·obtain⟨j,t,N,D,q⟩:=(GL _ _ _).1 h;rw[bu]at q;exact l hW N D q
   ·obtain⟨r,k,N,D,q,g4⟩:=F8.1 h;rw[IZ]at q;exact p (aG N) q (by rw[g4,EH];rfl) (by rw[g4,NS,IZ]) (.inl rfl)
  ·obtain⟨c0,ad,e0,_⟩:=rec_row hX ho;rw[CG]at e0;rcases(row_kind hX ad).2 with A|⟨j,t,O,j2,A⟩|⟨j,r,m,O,j2,A⟩
   ·exact g _ (e0▸A)
   ·exact l hX.wok O j2 (e0▸A)
   ·rw[e0]at A;have K:Ag c.s=bts (Ig r.id m):=by rw[A,EH];rfl
    rw[K]at y;have B:=aG O
    have ag:Fol.BF (lenX r.x)<=34:=by
     have:=(ZX d B).2;unfold Fol.BF;omega
    rw[IZ]at j2;have ao:=id_range d B;rcases Ls.1 n1 with h|h|⟨j',_,h⟩
    ·rw[h,IP]at y;exact(headK_piece _ _ y).elim
    ·obtain⟨j',t,_,_,q⟩:=(GL _ _ _).1 h;rw[q,Ic]at y;exact(wordK_piece _ _ _ y).elim
    ·obtain⟨r1,k,N,D,q,g4⟩:=F8.1 h;have R:=Qw D;rw[IZ]at q R;rw[g4,EH]at y;have g5:=D.1;have g6:=D.2.1;have U:=aG N;obtain⟨e1,e2⟩:=MM ⟨om,om⟩ ⟨om,om⟩ om om (He y);have e1:r1.id=r.id:=e1;subst e2;refine p (r:=r1) (z:=lenX r.x) U q (by rw[K,e1]) (by rw[A,NS,IZ]) ?_;rcases edit_rows X.T o r1 (by rw[<- hT];exact U)with⟨r2,f1,f2,Y⟩|f
     ·obtain⟨i,hi⟩:=List.mem_iff_getElem?.1 f1;have ae:=rows_ids d hi O (f2.trans e1);subst ae;rw[O]at hi;cases hi;rcases Y with Y|Y
      ·exact .inl (by rw[Y])
      ·exact .inr Y
     ·exfalso
      have Z:r.id∈ids F0:=by
       rw[<- BI F0 0,d.fl];exact iM B
      have:=(d.pos _ Z).2;omega
 have ap:=pq o.id T.L λr hr=>H hr;have ah:(T.L.map (·.id)).count o.id<=1:=List.nodup_iff_count.1 hG.Pi _;have ak:=hG.len
 have al:((VT o.id T.L).map (·.2)).sum=55+171*4000+((T.L.flatMap (SA o.id)).map (·.2)).sum:=by
  rw[VT,aC,aj,iD,ai,kH,dD];have e:((λx:ByteArray×Nat=>x.2)∘λj:Nat=>(bts (Qa j),171))=λ_=>171:=rfl;rw[e,VR,fZ];omega
 have hb:UI T=(T.L.map λr=>rowB r.x).sum:=rfl;omega
end
end Go.Proofs.YtljenkbpnioipaaGreat
namespace Go.Vc
open Go
def Calls.ex{P:Program}{f:FuncId}{args:Array Value}{w:World}{R:EW}(h:Calls P f args w R):∃e w',R e w':=by
 obtain⟨e,w',_,a,_⟩:=h [];exact⟨e,w',a⟩
end Go.Vc
namespace Go.Proofs.YtljenkbpnioipaaGreat
noncomputable section
open Go Go.Vc Go.Nod
def Nv{f:LN0}{b:Nat}{X:Tab}{w:World}(h:(tabA f b X).ok w):∃F,BA F X.T:=by
 obtain⟨L,⟨z,e,g,i,a,j,_,c,rfl⟩,H,_⟩:=(BQ h:Hp f w w [tabA f b X]).unpack;obtain⟨F,_,_,d,_⟩:=Em (H.ok (AV a z.tb X.T) m1);exact⟨F,d⟩
def V3{f:LN0}{b:Nat}{X:Tab}{w:World}(h:(tabA f b X).ok w)(o:OpP)(c:OA)(n lc:Nat)(ss:List Sl3)(i:Bi f w c n o.l ss)(a:n<=140737488355328)(j:o.text.size<=maxLen):∃F,BA F (X.T.edit o).1:=by
 obtain⟨L,⟨z,s,t,u,d,x,_,m,rfl⟩,H,_⟩:=(BQ h:Hp f w w [tabA f b X]).unpack;have g:Bi d w c n o.l ss:=i.go H λk p=>Ap.2 ⟨AV d z.tb X.T,.tail _ (.head _),p⟩;obtain⟨e,y,A,_,q⟩:=Calls.ex (RV (H.ok (AV d z.tb X.T) m1) o c n lc ss g a j);obtain⟨F,_,_,r,_⟩:=Em (q.ok _ (.head _));exact⟨F,r⟩
def Xu(T:Tr):Prop:=4000<(uniq ((T.L.map rowI).flatMap Ea)).length\/10000000<UI T
def XC{l F:Fo}{X:Tab}{o:OpP}(e:Fj X)(f:BA l X.T)(g:BA F (X.T.edit o).1):
  ((X.T.edit o).2.2≠0/\doP X o=(X,0,[],(X.T.edit o).2.2))\/((X.T.edit o).2.2=0/\doP X o=(X,0,[],94)/\Xu (X.T.edit o).1)\/
  ((X.T.edit o).2.2=0/\(doP X o).2.2.2=0/\(doP X o).1.T=(X.T.edit o).1/\(doP X o).2.1=(X.T.edit o).2.1):=by
 by_cases b:(X.T.edit o).2.2≠0
 ·exact .inl ⟨b,by rw[doP,if_pos b]⟩
 have a:=dm.1 b;by_cases c:(X.words (X.T.edit o).1).2≠0
 ·obtain⟨h,d⟩:=learn_bad e.wok (λs i=>UK g i) c;refine .inr (.inl ⟨a,?_,.inl ?_⟩)
  ·rw[doP,if_neg b,if_pos c,show(X.words (X.T.edit o).1).2=94 from h]
  ·rw[FD,Ht]at d;exact d
 have m:=(YI e.wok (λs i=>YF (UK g i)) (dm.1 c)).1;by_cases j:(X.wr (X.T.edit o).1 o).2≠0
 ·obtain⟨h,d⟩:=full_wide e f g rfl m j;refine .inr (.inl ⟨a,?_,.inr d⟩);rw[doP,if_neg b,if_neg c,if_pos j,show(X.wr (X.T.edit o).1 o).2=94 from h]
 ·refine .inr (.inr ⟨a,?_,?_,?_⟩)<;>rw[doP,if_neg b,if_neg c,if_neg j]
def DZ(l:List Cg)(c:Cg):List Cg:=l.filter λx=>decide (x.page≠c.page\/x.slot≠c.slot)
def IJ(a b:Cg):Prop:=if a.page≠b.page then a.page<b.page else a.slot<b.slot
instance (a b:Cg):Decidable (IJ a b):=by unfold IJ;infer_instance
def E8(c:Cg):List Cg->List Cg
 | []=>[c]
 |x::r=>if IJ c x then c::x::r else x::E8 c r
def Nk(l:List Cg)(c:Cg):List Cg:=if c.gone then DZ l c else E8 c (DZ l c)
def CZ(l more:List Cg):List Cg:=more.foldl Nk l
def SC{a b:Cg}:IJ a b↔E5 a b:=by
 unfold IJ E5;split<;>omega
structure Nb(l:List Cg)(v:Pl->Option ByteArray):Prop where
 up:l.Pairwise E5
 mem:∀c,c∈l↔c.gone=false/\0<=c.page/\v (c.page,c.slot)=some c.s
def Nb.one{l l':List Cg}{v:Pl->Option ByteArray}(h:Nb l v)(d:Nb l' v):l=l':=by
 have i:∀{l:List Cg},l.Pairwise E5->l.Nodup:=λh=>h.imp λ{a b} e j=>by
  subst j;rcases e with h|⟨_,h⟩<;>omega
 have m:l.Perm l':=(jE (i h.up) (i d.up)).2 λc=>by rw[h.mem,d.mem]
 exact eY (le:=E5) (λa b _ _ f g=>by
  rcases f with f|⟨f,n⟩<;>rcases g with g|⟨g,o⟩<;>omega) h.up d.up m
theorem Tf{P:List Sl.Recs}(a:PgsW P):Nb (CV P) λq=>(cel P q).map bts:=by
 refine⟨VX a,λc=>?_⟩;rw[Je a]
 have:∀o:Option (List UInt8),o=some c.s.data.toList↔o.map bts=some c.s:=λo=>by
  cases o with
  |none=>simp
  |some l=>
   rw[dF,Option.some.injEq,Option.some.injEq];constructor
   ·intro h;rw[h,CG]
   ·intro h;rw[<- h];rfl
 rw[this]
theorem TI{c x:Cg}:∀{l:List Cg},x∈E8 c l↔x=c\/x∈l
 | []=>by simp[E8]
 |y::r=>by
  rw[E8];split
  ·rw[aP]
  ·rw[aP,TI,aP];constructor
   ·rintro(h|h|h)
    ·exact .inr (.inl h)
    ·exact .inl h
    ·exact .inr (.inr h)
   ·rintro(h|h|h)
    ·exact .inr (.inl h)
    ·exact .inl h
    ·exact .inr (.inr h)
theorem Y0{c:Cg}:∀{l:List Cg},l.Pairwise E5->(∀x∈l,x.page≠c.page\/x.slot≠c.slot)->(E8 c l).Pairwise E5
 | [],_,_=>.cons (λx h=>(by cases h)) .nil
 |y::r,h,hn=>by
  obtain⟨e,f⟩:=bH.1 h;rw[E8];split
  ·rename_i b;rw[SC]at b;refine bH.2 ⟨λx a=>?_,h⟩;rcases aP.1 a with rfl|a
   ·exact b
   ·have:=e x a;unfold E5 at b this⊢;omega
  ·rename_i b;rw[SC]at b;have g:=hn y (.head _);have d:E5 y c:=by unfold E5 at b⊢;omega
   refine bH.2 ⟨λx a=>?_,Y0 f λx a=>hn x (.tail _ a)⟩;rcases TI.1 a with rfl|a
   ·exact d
   ·exact e x a
open Classical in
theorem shows_over{l:List Cg}{v:Pl->Option ByteArray}(h:Nb l v)(c:Cg)(g:0<=c.page):Nb (Nk l c) λq=>if q=(c.page,c.slot)then(if c.gone then none else some c.s)else v q:=by
 have f:∀x,x∈DZ l c↔x∈l/\(x.page≠c.page\/x.slot≠c.slot):=λx=>by rw[DZ,dO,decide_eq_true_eq]
 have d:∀x:Cg,((x.page,x.slot):Pl)=(c.page,c.slot)↔x.page=c.page/\x.slot=c.slot:=λx=>by rw[Prod.mk.injEq]
 have b:(DZ l c).Pairwise E5:=h.up.filter _;rw[Nk];cases hg:c.gone with
 |true=>
  rw[if_pos rfl];refine⟨b,λx=>?_⟩;rw[f,h.mem];by_cases e:((x.page,x.slot):Pl)=(c.page,c.slot)
  ·rw[if_pos e,if_pos rfl];have:=(d x).1 e;constructor
   ·rintro⟨_,a⟩;omega
   ·rintro⟨_,_,a⟩;cases a
  ·rw[if_neg e]
   have:x.page≠c.page\/x.slot≠c.slot:=by
    rw[d]at e;omega
   exact⟨λa=>a.1,λa=>⟨a,this⟩⟩
 |false=>
  rw[if_neg (by decide)];refine⟨Y0 b λx i=>((f x).1 i).2,λx=>?_⟩;rw[TI,f,h.mem];by_cases e:((x.page,x.slot):Pl)=(c.page,c.slot)
  ·rw[if_pos e,if_neg (by decide)];have j:=(d x).1 e;constructor
   ·rintro(rfl|⟨_,a⟩)
    ·exact⟨hg,g,rfl⟩
    ·omega
   ·rintro⟨m,a,n⟩;left;obtain⟨_,_,_,_⟩:=x;obtain⟨_,_,_,_⟩:=c
    simp_all
  ·rw[if_neg e]
   have:x.page≠c.page\/x.slot≠c.slot:=by
    rw[d]at e;omega
   constructor
   ·rintro(rfl|a)
    ·omega
    ·exact a.1
   ·intro a;exact .inr ⟨a,this⟩
theorem Vb:∀(cs:List Cg){l:List Cg}{v f:Pl->Option ByteArray},Nb l v->(cs.Pairwise λa b=>¬(a.page=b.page/\a.slot=b.slot))->(∀c∈cs,0<=c.page/\f (c.page,c.slot)=if c.gone then none else some c.s)->(∀q,0<=q.1->(∀c∈cs,q≠(c.page,c.slot))->f q=v q)->Nb (CZ l cs) f
 | [],l,v,f,h,_,_,h2=>⟨h.up,λc=>by
  show c∈l↔_;rw[h.mem];constructor
  ·rintro⟨a,b,d⟩;exact⟨a,b,by rw[h2 (c.page,c.slot) b (λc i=>by cases i)];exact d⟩
  ·rintro⟨a,b,d⟩;exact⟨a,b,by rw[<- h2 (c.page,c.slot) b (λc i=>by cases i)];exact d⟩⟩
 |c::cs,l,v,f,h,hp,h1,h2=>by
  obtain⟨r,m⟩:=bH.1 hp;obtain⟨n,o⟩:=h1 c (.head _);refine Vb cs (shows_over h c n) m (λd g=>h1 d (.tail _ g)) λq p j=>?_;by_cases e:q=(c.page,c.slot)
  ·rw[if_pos e,e];exact o
  ·rw[if_neg e];refine h2 q p λd g=>?_;rcases aP.1 g with rfl|g
   ·exact e
   ·exact j d g
def Uc{P a:List Sl.Recs}{D:DM}{c:Cg}(h:c∈CB P a D):(c.page,c.slot)∈D.map (·.1)/\DW P a (c.page,c.slot)=some c:=by
 rw[CB,(FH _).mem_iff,jX]at h;obtain⟨p,d,b⟩:=h;obtain⟨e,f⟩:=Gi b;have:p=(c.page,c.slot):=by rw[e,f]
 rw[<- this];exact⟨d,b⟩
def Jy{P a:List Sl.Recs}{D:DM}(b:∀e∈D,0<=e.1.1/\e.1.1<4096/\0<=e.1.2/\e.1.2<120):∀c∈CB P a D,InS c:=λc d=>by
 obtain⟨e,f,h⟩:=aT.1 (Uc d).1;have:=b e f;rw[h]at this;exact this
def Ol{P c:List Sl.Recs}{D:DM}(d:∀e∈D,0<=e.1.1/\e.1.1<4096/\0<=e.1.2/\e.1.2<120)(i:(D.map (·.1)).Nodup):(CB P c D).Pairwise E5:=by
 have j:(CB P c D).Pairwise λa b=>CJ a<=CJ b:=Tv _
 have l:(CB P c D).Pairwise λa b=>CJ a≠CJ b:=by
  have f:((D.map (·.1)).filterMap (DW P c)).Pairwise λa b=>CJ a≠CJ b:=NJ i λp f=>by
   obtain⟨e,g,rfl⟩:=aT.1 f;exact⟨(d e g).2.2.1,(d e g).2.2.2⟩
  exact(FH _).symm.pairwise f (λ{a b} h e=>h e.symm)
 refine(j.and l).imp_of_mem λ{a b} m n h=>?_;obtain⟨_,_,r,s⟩:=Jy d a m;obtain⟨_,_,t,u⟩:=Jy d b n;have o:=h.1;have q:=h.2;rw[CJ,CJ]at o q;unfold E5;omega
theorem changed_ok{P d:List Sl.Recs}{D:DM}(r:PgsW P)(i:PgsW d)(n:∀e∈D,0<=e.1.1/\e.1.1<4096/\0<=e.1.2/\e.1.2<120)(u:(D.map (·.1)).Nodup)(w:∀q:Pl,gget D q=none->0<=q.1->cel d q=cel P q):CZ (CV P) (CB P d D)=CV d:=by
 refine(Vb _ (Tf r) ?_ ?_ ?_:Nb _ λq=>(cel d q).map bts).one (Tf i)
 ·refine(Ol n u).imp λ{a b} h=>?_;unfold E5 at h;omega
 ·intro c o;refine⟨(Jy n c o).1,?_⟩;have h:=(Uc o).2;rw[DW]at h;split at h
  ·have h:=Option.some.inj h;rw[<- h];rw[getB,TR];cases e:cel d (c.page,c.slot)with
   |none=>rfl
   |some s=>rfl
  ·cases h
 ·intro q x j;by_cases p:gget D q=none
  ·rw[w q p x]
  ·have y:q∈D.map (·.1):=az λl=>p (Cc.2 l);cases e:DW P d q with
   |some c=>
    obtain⟨g,f⟩:=Gi e
    have m:c∈CB P d D:=by
     rw[CB,(FH _).mem_iff,jX];exact⟨q,y,e⟩
    exact(j c m (by rw[g,f])).elim
   |none=>
    rw[DW]at e;split at e
    ·cases e
    ·rename_i h;have h:=dm.1 h;rw[getB,getB,TR,TR]at h;cases g:cel P q with
     |none=>
      cases f:cel d q with
      |none=>rfl
      |some s=>rw[g,f]at h;cases h.2
     |some s=>
      cases f:cel d q with
      |none=>rw[g,f]at h;cases h.2
      |some t=>
       rw[g,f]at h;exact congrArg some h.1.symm
def do_changed{F:Fo}{X:Tab}{o:OpP}(i:Fj X)(j:Vq X)(g:BA F (doP X o).1.T):(doP X o).2.2.1.Pairwise E5/\(∀c∈(doP X o).2.2.1,InS c)/\CZ (CV X.P) (doP X o).2.2.1=CV (doP X o).1.P:=by
 by_cases b:(doP X o).2.2.2=0
 ·have a:=(o7 i g b).1;have x:=b;rw[doP]at b g a⊢;split at b
  ·rename_i h;exact absurd b h
  rename_i l;split at b
  ·rename_i h;exact absurd b h
  rename_i m;split at b
  ·rename_i h;exact absurd b h
  rename_i n;rw[if_neg l,if_neg m,if_neg n]at a g⊢;obtain⟨T,y⟩:∃T,T=(X.T.edit o).1:=⟨_,rfl⟩;rw[<- y]at a g n⊢;obtain⟨t,z,u⟩:=YP (R:=CE T (X.spans T o) (X.words T).1) i.inv (λk r h=>(DN _ _ _ h).2) (dm.1 n);have f:=X5 j.st (QF T (X.spans T o) (X.words T).1);have p:ED (CE T (X.spans T o) (X.words T).1) ⟨X.P,X.Q,[]⟩=X.wr T o:=rfl;rw[p]at t z u f;have G:=f.len
  have s:∀e∈(X.wr T o).1.D,0<=e.1.1/\e.1.1<4096/\0<=e.1.2/\e.1.2<120:=λe A=>by
   have:=f.d e A;exact⟨this.2.2.1,om,this.2.2.2.2⟩
  exact⟨Ol s f.dn,Jy s,changed_ok i.inv.pi.w t.pi.w s f.dn λq l m=>(u q l).2 m⟩
 ·obtain⟨B,H,C⟩:=qL b;rw[B,C];exact⟨.nil,λc h=>(by cases h),rfl⟩
end
noncomputable section
open Go Go.Vc Go.Nod
structure NOp where
 o:OpP
 a:OA
 c:Nat
 ss:List Sl3
def nopC(q:NOp):LV:=opC q.o q.a q.o.l.length q.c
def MJ(os:List NOp):LV:=os.flatMap nopC
theorem nopsC_len(a:List NOp):(MJ a).length=a.length*7:=by
 induction a with
 |nil=>rfl
 |cons o r b=>rw[MJ,bU,aF,<- MJ,b,aK];show 7+_=_;omega
theorem Xd:∀{a:List NOp}{k:Nat}{q:NOp},a[k]? =some q->((MJ a).drop (k*7)).take 7=nopC q
 |x::r,0,q,h=>by
  simp at h;subst h;rw[MJ,bU,jL,fC];exact iP rfl
 |x::r,k+1,q,h=>by
  rw[bJ]at h;rw[MJ,bU,dY,gU,<- dM,lC (by rfl)];exact Xd h
structure NScr(w:World)(sa:OA)(os:List NOp):Prop where
 cells:Cells w sa (MJ os)
 it:∀q∈os,Bi [] w q.a q.o.l.length q.o.l q.ss
 len:os.length<=140737488355328
 lens:∀q∈os,q.o.l.length<=140737488355328
 txt:∀q∈os,q.o.text.size<=maxLen
def UX:Agg PP 36 7:=DF (by kernel_rfl)
def rM:Agg PP 79 4:=DF (by kernel_rfl)
def rJ:Elt PP 37 79 4 40:=DD (by kernel_rfl)
def qp:PP.underlying 37=some (.slice 79):=by kernel_rfl
def mSI:Scl PP 34:=BN (by kernel_rfl)
def NScr.ld{w w':World}{e:OA}{c:List NOp}(h:NScr w e c)(g:Chg [] w w'){k:Nat}{q:NOp}(f:c[k]? =some q):∃b,e=some b/\Ld PP 36 w' (b.add (k*7)) (.agg (nopC q).toArray):=by
 have i:=(aA.1 f).1;have d:0<(MJ c).length:=by rw[nopsC_len];omega
 obtain⟨b,a,_⟩:=h.cells 0 _ (aB d);exact⟨b,a,(h.cells.chg g (by simp)).ldA UX a (Xd f) rfl⟩
def sumN(os:List NOp):Nat:=(os.map λq=>q.o.l.length).sum
structure FewN(os:List NOp):Prop where
 len:os.length<=50
 sum:sumN os<=1200
def sumN_snoc(a:List NOp)(q:NOp):sumN (a++[q])=sumN a+q.o.l.length:=by simp[sumN]
theorem Yp:∀(a:List NOp),(∀q∈a,q.o.l.length<=140737488355328)->sumN a<=a.length*140737488355328
 | [],_=>by simp[sumN]
 |o::r,h=>by
  have b:=Yp r λq c=>h q (.tail _ c);have:=h o (.head _);simp only[sumN,aj,iD,aK]at b⊢;omega
def XB(u:OA)(z:Nat)(a:List NOp){w0 w:World}(j:NScr w0 u a)(A:Chg [] w0 w):
  CP 11 #[.slice u a.length z] w λe w'=>∃b:Bool,e=eE0 (.bool b)/\(b=true->FewN a)/\Hp [] w w' []:=by
 apply Jar;have B:=j.len;refine LoopP.mk (λm (s:Int×Int) w'=>∃(k:Nat)(n:Int),m=a.length-k/\k<=a.length/\s=(n,(k:Int))/\(k<=60->n=(sumN (a.take k):Int))/\Hp [] w w' []) a.length ⟨0,0,rfl,om,rfl,λ_=>rfl,Hp.start w⟩ ?_;rintro m s K next ⟨k,n,rfl,L,rfl,c,H⟩ d
 refine AB (λx=>?_) (λx=>?_)
 ·have f:k<a.length:=om;obtain⟨q,i⟩:∃q,a[k]? =some q:=⟨_,aB f⟩;obtain⟨M,l,o⟩:=j.ld (A.trans H.chg (by simp) (by simp)) i;have p:a.take (k+1)=a.take k++[q]:=by rw[aH f,(aA.1 i).2]
  refine AA l ⟨⟨om,x⟩,_,_,_,_,_,_,_,_,_,o,?_⟩;intro b N C;have D:=H.nw C;refine Hp.stA D EQ4 UX rfl rfl (by simp) rfl λO y=>?_;refine⟨_,_,_,y.lo mSI,?_⟩;have r:IntKind.i64.wrap ((k:Int)+1)=((k+1:Nat):Int):=by rw[IC om];rfl
  refine d (a.length-(k+1)) _ _ om ⟨k+1,_,rfl,om,by rw[r],λF=>?_,y.done⟩;have g:=Yp (a.take (k+1)) λq i=>j.lens q (dN i);rw[aI]at g;have:min (k+1) a.length<=60:=om;have:min (k+1) a.length*140737488355328<=60*140737488355328:=dE _ this;rw[p,sumN_snoc]at g⊢;rw[c om,IC om];omega
 ·have t:k=a.length:=om;subst t;rw[bK]at c;refine AB (λG=>⟨_,rfl,λJ=>?_,H⟩) (λG=>⟨false,rfl,λh=>(by cases h),H⟩);rw[decide_eq_true_eq]at J;have:=c om;exact⟨om,om⟩
def Xk(o:OpP)(a:OA)(n lc:Nat)(w:World):CP 20 #[.agg (opC o a n lc).toArray] w λe w'=>e=eE0 (.agg (opC o a n lc).toArray)/\Hp [] w w' []:=by
 apply Jc4;intro b g c h i d;have H:=((Hp.start w).nw c).nw d;have j:∀{x:Asn}{L:List Asn},Asn.blk b (opC o a n lc) 36∈x::(Asn.blk b (opC o a n lc) 36::L):=.tail _ (.head _);refine⟨o.kind,H.lo yInt,o.id,H.lo yInt,o.to,H.lo yInt,o.at_,H.lo yInt,o.name,H.lo yStr,o.text,H.lo yStr,a,n,lc,H.lo mSI,?_⟩;refine Hp.stA H EQ4 pI rfl rfl (by simp) rfl λl f=>?_;exact⟨_,_,_,_,_,_,_,_,_,f.loA pI,rfl,f.done⟩
def F7(q:OA)(lc:Nat)(l:List Cg)(w:World)(O:l.length<=1000000)(A:Cells w q (cgsC l)):
  CP 16 #[.slice q l.length lc] w λe w'=>∃a c,e=eE0 (.slice a l.length c)/\Hp [] w w' [.own 79 4 a l.length c (cgsC l)]:=by
 apply Jda;refine LoopP.mk (λm s w'=>∃(k:Nat)(a:OA)(c:Nat)(X:List Asn),m=l.length-k/\k<=l.length/\s=((a,k,c),(k:Int))/\Hp [] w w' (.own 79 4 a k c (cgsC (l.take k))::X)) l.length ⟨0,none,0,[],rfl,om,rfl,(Hp.start w).nilS 79 4⟩ ?_;rintro m s R next ⟨k,a,c,X,rfl,T,rfl,H⟩ d
 dsimp only;refine AB (λr=>?_) (λr=>?_)
 ·have f:k<l.length:=om;obtain⟨x,t⟩:∃x,l[k]? =some x:=⟨_,aB f⟩;have i:l.take (k+1)=l.take k++[x]:=by rw[aH f,(aA.1 t).2]
  have h:=A.chg H.chg (by simp);have j:0<(cgsC l).length:=by rw[UE];omega
  obtain⟨U,g,_⟩:=h 0 _ (aB j);refine AA g ⟨⟨om,r⟩,x.page,x.slot,x.s,x.gone,h.ldA magg g (LW t) rfl,λb Y n=>?_⟩;have B:=H.nw n;refine Hp.sA B magg (cs':=cgC x) λZ u=>?_;refine⟨x.page,x.slot,x.s,x.gone,u.loA magg,λy C o=>?_⟩;have D:=u.new (cs:=cgC x) EQ4 o
  have z:Hp [] w C (.own 79 4 a k c (cgsC (l.take k))::.blk y (cgC x) 79::(.blk b (cgC x) 55::X)):=D.perm (by
   refine AL λff gg F h G J=>?_;simp only[G,h,F];omega)
  refine Hp.app rJ om z EQ4 (Blk.src (P:=PP) qp (z.blk m1) rfl rfl) (by simp only[maxLen];omega) om ?_;intro K M w5 N;refine⟨iR,d (l.length-(k+1)) _ _ om ⟨k+1,K,M,.blk y (cgC x) 79::.blk b (cgC x) 55::X,rfl,om,rfl,?_⟩⟩;rw[i,Lj];exact N
 ·have p:k=l.length:=om;subst p;rw[bK]at H;exact⟨a,c,rfl,Hp.BK (L:=[_]) H⟩
instance:DecidableEq Cg:=λa b=>decidable_of_iff (a.page=b.page/\a.slot=b.slot/\a.s=b.s/\a.gone=b.gone) ⟨λh=>by
 obtain⟨a1,a2,a3,a4⟩:=a
 obtain⟨b1,b2,b3,b4⟩:=b
 dsimp only at h
 rw[h.1,h.2.1,h.2.2.1,h.2.2.2],λh=>by subst h;exact⟨rfl,rfl,rfl,rfl⟩⟩
def flatCh:VM PP 79 [(0,.inl .i64),(1,.inl .i64),(2,.inr 1),(3,.inr 0)]:=Go.Vc.Wj (by kernel_rfl)
def eq_ch(a b:Cg):eqL [(0,.inl .i64),(1,.inl .i64),(2,.inr 1),(3,.inr 0)] (cgC a) (cgC b)=decide (a=b):=by
 obtain⟨c,d,e,f⟩:=a;obtain⟨g,h,i,j⟩:=b;rw[iO];simp[eqL,sEq,beqB,cgC]
def Ov{w:World}{d:OA}{l:List Cg}(h:Cells w d (cgsC l)){k:Nat}{x:Cg}(e:l[k]? =some x):∃b,d=some b/\Ld PP 79 w (b.add (k*4)) (.agg (cgC x).toArray):=by
 have f:=(aA.1 e).1;have c:0<(cgsC l).length:=by rw[UE];omega
 obtain⟨b,a,_⟩:=h 0 _ (aB c);exact⟨b,a,h.ldA rM a (LW e) rfl⟩
def Rt(n:OA)(p:Nat)(xs:List Cg)(o:OA)(q:Nat)(ys:List Cg)(B:xs.length<=100000000)(w:World)(r:Cells w n (cgsC xs))(t:Cells w o (cgsC ys)):
  CP 21 #[.slice n xs.length p,.slice o ys.length q] w λe w'=>e=eE0 (.bool (decide (xs=ys)))/\Hp [] w w' []:=by
 apply Jeh;refine AQ (λh=>?_) (λh=>?_)
 ·have:¬xs=ys:=λe=>h (by rw[e]);rw[decide_eq_false this];exact⟨rfl,Hp.start w⟩
 have c:xs.length=ys.length:=om;refine LoopP.mk (λm s w'=>∃k:Nat,m=xs.length-k/\k<=xs.length/\s=(k:Int)/\xs.take k=ys.take k/\Hp [] w w' []) xs.length ⟨0,rfl,om,rfl,by simp,Hp.start w⟩ ?_;rintro m s C next ⟨k,rfl,D,rfl,a,H⟩ b
 refine AB (λu=>?_) (λu=>?_)
 ·have d:k<xs.length:=om;have f:k<ys.length:=om;obtain⟨F,i,x⟩:=Ov (r.chg H.drew.chg (by simp)) (aB d);obtain⟨y,g,z⟩:=Ov (t.chg H.drew.chg (by simp)) (aB f);refine AA i ⟨⟨om,om⟩,_,_,_,_,x,AA g ⟨⟨om,om⟩,_,_,_,_,z,?_⟩⟩;have A:=eq_ch xs[k] ys[k];refine⟨!decide (xs[k]=ys[k]),Yq (xs:=cgC xs[k]) (ys:=cgC ys[k]) flatCh rfl rfl (by rw[A]),AQ (λj=>?_) (λj=>?_)⟩
  ·have:¬xs=ys:=λe=>j (by simp only[e]);rw[decide_eq_false this];exact⟨rfl,H.drew⟩
  ·refine⟨iR,b (xs.length-(k+1)) _ _ om ⟨k+1,rfl,om,om,?_,H.drew⟩⟩;rw[aH d,aH f,a,j]
 ·have l:k=xs.length:=om;subst l;rw[bK,c,bK]at a;rw[decide_eq_true a];exact⟨rfl,H⟩
end
noncomputable section
open Go Go.Vc Go.Nod
def docA:It:=⟨0,{kind:=1,name:=⟨#[97]⟩,text:=⟨#[]⟩,attrs:=[]}⟩
def docX:It:=⟨1,{kind:=2,name:=⟨#[]⟩,text:=⟨#[120]⟩,attrs:=[]}⟩
def docL:List It:=[docA,docX]
def docO:OpP:=⟨0,0,0,0,⟨#[]⟩,⟨#[]⟩,docL⟩
def Vx{b:UInt8}{c:Int}(a:CO c)(e:encP c=[b]):GY [b] [c]:=⟨λd f=>by rw[aY.1 f];exact a,by simp[e]⟩
def Ub:CW ⟨#[97]⟩:=by
 refine⟨by decide,by decide,[97],Vx (by unfold CO;omega) (by unfold encP;rfl),λc a=>?_,λc a=>?_⟩
 ·rw[aY.1 a];unfold GX Dz;omega
 ·cases a;unfold Dz;omega
def doc_text:BD ⟨#[120]⟩=0:=by
 rw[BD,if_neg,if_neg (by decide)];exact not_not_intro ⟨[120],Vx (by unfold CO;omega) (by unfold encP;rfl)⟩
def Vo:(DU docL).2=0:=by
 rw[DU,if_neg (by simp[docL]),LY];intro k x b;rw[bu,oneE];have i:k<2:=(aA.1 b).1;have c:k=0\/k=1:=om;rcases c with rfl|rfl
 ·cases b
  have e:Bc docL 0 docA=0:=by
   rw[Bc,if_neg (by simp[docA]),if_neg om,if_neg (by simp[docA]),if_neg om]
  rw[if_pos e,Aj,if_neg (by simp[docA]),if_pos (show docA.x.kind=1/\docA.x.text=⟨#[]⟩from⟨rfl,rfl⟩)]
  have d:Bv docA.x=0:=by
   rw[Bv,if_neg (not_not_intro (show CW docA.x.name from Ub)),if_neg (not_not_intro (show MK docA.x.attrs from⟨λa f=>(by cases f),.nil⟩)),if_neg (by simp[docA])]
  rw[if_pos d];rfl
 ·cases b
  have e:Bc docL 1 docX=0:=by
   rw[Bc,if_neg om,if_neg,if_neg (by simp[docX]),if_neg om];rintro⟨_,h|⟨y,g,h⟩⟩
   ·exact absurd h (by simp[docX])
   ·cases g;rcases h with h|⟨_,h⟩
    ·simp[docA,docX]at h
    ·simp[docA]at h
  rw[if_pos e,Aj,if_pos (show docX.x.kind=2 from rfl),if_pos (show docX.x.name=⟨#[]⟩/\docX.x.attrs=[]from⟨rfl,rfl⟩)];exact doc_text
def TD:(tab0.T.edit docO)=(⟨Ak 1 0 docL,3⟩,1,0):=by
 rw[Tr.edit,if_pos (show docO.kind=0 from rfl)];show Tr.load ⟨[],1⟩ docL=_;rw[Tr.load,if_neg (by rw[Vo];omega),if_neg (by simp[docL])];rfl
def doc_good:∃F,BA F (tab0.T.edit docO).1:=by
 obtain⟨F,h,_⟩:=NU Vo (n:=1) om (by simp[docL]);rw[TD];exact⟨F,h⟩
def doc_spec(w:World):CP 24 #[] w λe w'=>∃b,e=eE0 (.slice (sP0 b) 2 2)/\Hp [] w w' [.blk b (itsC docL [(none,0,0),(none,0,0)]) 123]:=by
 apply Jad;intro b c a;exact⟨b,rfl,(Hp.start w).nw a⟩
def doc_arg{B:LN0}{w0 w:World}{L:List Asn}{b:Nat}{f:LN0}(H:Hp B w0 w L)(p:Asn.blk b (itsC docL [(none,0,0),(none,0,0)]) 123∈L)(l:∀W,Chg f w W->(Asn.blk b (itsC docL [(none,0,0),(none,0,0)]) 123).ok W):Bi f w (sP0 b) 2 docL [(none,0,0),(none,0,0)]:=by
 refine⟨λW m=>⟨rfl,rfl,λj v d=>?_,λk x s g i=>?_⟩,by simp[maxLen],λs i=>?_,λx g=>?_⟩
 ·have c:Blk W b (itsC docL [(none,0,0),(none,0,0)]) 123:=l W m;exact⟨_,rfl,by rw[add_lit];exact c.cell (by rw[bu];exact d)⟩
 ·have e:s=(none,0,0):=by
   have:=aG i;simpa using this
  have n:x.x.attrs=[]:=by
   have:=aG g;rcases aP.1 this with rfl|h
   ·rfl
   ·rw[aY.1 h];rfl
  rw[e,n];exact⟨rfl,λj v d=>by cases d⟩
 ·have e:s=(none,0,0):=by simpa using i
  rw[e];exact bY _
 ·have:x=docA\/x=docX:=by simpa [docL]using g
  rcases this with rfl|rfl<;>exact⟨by decide,by decide,λa o=>by cases o⟩
def Su:PP.underlying 23=some (.pointer 86):=by kernel_rfl
def qO:PP.underlying 49=some (.pointer 119):=by kernel_rfl
theorem rowsT_len{P:List Sl.Recs}(f:PgsW P)(o:P.length<=4096):(CV P).length<=491520:=by
 have c:∀(P:List Sl.Recs)(n:Nat),PgsW P->(FB n P).length<=120*P.length:=by
  intro P
  induction P with
  |nil=>intro n _;exact bY _
  |cons R r g=>
   intro n h;have q:=g (n+1) λL i=>h L (.tail _ i)
   have s:R.length<=120:=by
    have d:=h R (.head _);have j:(R.map (·.1)).Nodup:=(dV.2 d.up).imp λ{a b} h e=>by omega
    have:=IA (l':=List.range 120) j λx l=>by
     obtain⟨p,m,rfl⟩:=aT.1 l;exact dh.2 (d.lt p m)
    rw[aQ,fZ]at this;exact this
   rw[FB,aF,Gj,aQ,aK];omega
 have:=c P 0 f;rw[CV];omega
end
noncomputable section
open Go Go.Vc Go.Nod
def changes_few{l:List Cg}(h:l.Pairwise E5)(d:∀c∈l,InS c):l.length<=491520:=by
 have f:(l.map λc=>(CJ c).toNat).Nodup:=by
  refine dV.2 (h.imp_of_mem λ{a b} g i e j=>?_);obtain⟨m,n,o,p⟩:=d a g;obtain⟨s,t,u,w⟩:=d b i;rw[CJ,CJ]at j;unfold E5 at e;omega
 have:=IA (l':=List.range 491520) f λk q=>by
  obtain⟨c,r,rfl⟩:=aT.1 q;obtain⟨m,n,o,p⟩:=d c r;rw[dh,CJ];omega
 rwa [aQ,fZ]at this
def tab_do{f i:LN0}{b:Nat}{X:Tab}{o:OpP}{w w':World}(a:Fj X)(h:(tabA f b X).ok w)(j:(tabA i b (doP X o).1).ok w'):Fj (doP X o).1/\(doP X o).2.2.1.Pairwise E5/\(∀c∈(doP X o).2.2.1,InS c)/\CZ (CV X.P) (doP X o).2.2.1=CV (doP X o).1.P/\(doP X o).2.2.1.length<=491520:=by
 obtain⟨F,d⟩:=Nv j;obtain⟨e,g,l⟩:=do_changed a (Zx h) d;exact⟨do_tinv a d,e,g,l,changes_few e g⟩
end
noncomputable section
open Go Go.Vc Go.Nod
def Ql(a b:Cg)(w:World):CP 76 #[.agg (cgC a).toArray,.agg (cgC b).toArray] w λe w'=>e=eE0 (.bool (decide (IJ a b)))/\Hp [] w w' []:=by
 apply Jdd;intro f i c j l d;have H:=((Hp.start w).nw c).nw d;have m:∀{x:Asn}{L:List Asn},Asn.blk f (cgC a) 79∈x::(Asn.blk f (cgC a) 79::L):=.tail _ (.head _);have e:∀{p:Prop} [Decidable p],(IJ a b↔p)->decide p=decide (IJ a b):=λ{p} _ h=>by simp[h]
 refine⟨a.page,H.lo yInt,b.page,H.lo yInt,AQ (λh=>?_) (λh=>?_)⟩
 ·refine⟨a.page,H.lo yInt,b.page,H.lo yInt,?_,H.done⟩;rw[e];unfold IJ;rw[if_pos h]
 ·refine⟨a.slot,H.lo yInt,b.slot,H.lo yInt,?_,H.done⟩;rw[e];unfold IJ;rw[if_neg (λg=>g h)]
def rise_spec(g:OA)(lc:Nat)(l:List Cg)(w:World)(x:l.length<=1000000)(j:Cells w g (cgsC l))(n:l.Pairwise E5):
  CP 34 #[.slice g l.length lc] w λe w'=>e=eE0 (.bool true)/\Hp [] w w' []:=by
 apply Jd6;refine LoopP.mk (λm s w'=>∃k:Nat,m=l.length-k/\1<=k/\s=(k:Int)/\Hp [] w w' []) (l.length-1) ⟨1,rfl,om,rfl,Hp.start w⟩ ?_;rintro m s y next ⟨k,rfl,z,rfl,H⟩ a
 refine AB (λo=>?_) (λo=>⟨rfl,H⟩);have b:k<l.length:=om;have i:=j.chg H.drew.chg (by simp);obtain⟨A,d,p⟩:=Ov i (aB (show k-1<l.length by omega));obtain⟨q,c,r⟩:=Ov i (aB b);have t:((k:Int)-1).toNat=k-1:=om;refine⟨iR,AA d ⟨⟨om,om⟩,_,_,_,_,by rw[t];exact p,AA c ⟨⟨om,om⟩,_,_,_,_,r,AC (Ql l[k-1] l[k] _) ?_⟩⟩⟩;rintro _ B ⟨rfl,u⟩;have f:=dB.1 n (k-1) k om b om;refine⟨_,rfl,Ec (λh=>?_) (λ_=>⟨iR,a (l.length-(k+1)) _ _ om ⟨k+1,rfl,om,om,H.drew.ext0 u⟩⟩)⟩;rw[decide_eq_false_iff_not,SC]at h;exact(h f).elim
def cg_word{w:World}{d:OA}{l:List Cg}(h:Cells w d (cgsC l)){k:Nat}{x:Cg}(f:l[k]? =some x):∃b,d=some b/\Ld PP 3 w (b.add (k*4)) (I x.page)/\Ld PP 3 w ((b.add (k*4)).add 1) (I x.slot)/\Ld PP 9 w ((b.add (k*4)).add 2) (.string x.s):=by
 have i:=(aA.1 f).1;have c:0<(cgsC l).length:=by rw[UE];omega
 obtain⟨b,a,_⟩:=h 0 _ (aB c)
 have at_:∀{o:Nat}{v:Value},o<4->(cgC x)[o]? =some v->(cgsC l)[k*4+o]? =some v:=λ{o v} j g=>by
  have e:=LW f;rw[<- e,bn j,eF]at g;exact g
 refine⟨b,a,?_,?_,?_⟩
 ·exact h.ld yInt a (at_ (o:=0) om rfl)
 ·rw[add_add];exact h.ld yInt a (at_ om rfl)
 ·rw[add_add];exact h.ld yStr a (at_ om rfl)
end
noncomputable section
open Go Go.Vc Go.Nod Classical
variable{f:List Nat}{w w':World}{a:Option Addr}{c:Nat}{M:List DR}{L:List Asn}{nx:Int}
def TA{N:LB0}{n:Nat}(h:Cells w a (BJ N))(r:n=N.length)(x:N.length<=100000000)(s:ByteArray):CP 78 #[.slice a n c,.string s] w λe w'=>e=eE0 (.bool (decide (s∈N)))/\Hp [] w w' []:=by
 subst r;apply Jd9;refine LoopP.mk (λm t w'=>∃k:Nat,m=N.length-k/\k<=N.length/\t=(k:Int)/\s∉N.take k/\w'=w) N.length ⟨0,rfl,om,rfl,by simp,rfl⟩ ?_;rintro m t y next ⟨k,rfl,z,rfl,b,u⟩ d
 obtain rfl:=u.symm;refine AB (λo=>?_) (λo=>?_)
 ·obtain⟨p,j⟩:∃p,N[k]? =some p:=⟨_,aB om⟩;have q:(BJ N)[k]? =some (.string p):=by rw[BJ,au,j];rfl
  obtain⟨A,i,_⟩:=h k _ q;refine AA i ⟨⟨om,o⟩,p,by rw[aJ,bT];exact h.ld yStr i q,AB (λl=>⟨?_,Hp.start w⟩) (λl=>⟨iR,d (N.length-(k+1)) _ _ om ⟨k+1,rfl,om,rfl,λg=>?_,rfl⟩⟩)⟩
  ·rw[decide_eq_true (l▸aG j)]
  ·rw[take_snoc j]at g;rcases aW.1 g with g|g
   ·exact b g
   ·exact l (aY.1 g).symm
 ·rw[aV om]at b;exact⟨by rw[decide_eq_false b],Hp.start w⟩
def Z7{w0 w1 d:World}{b:Nat}{a:OA}{c:Nat}{N:LB0}{s:ByteArray}{X:List Asn}(H:Hp [] w w0 (.own 9 1 a N.length c (BJ N)::X))(p:N.length<=100000000)(e:Eqw w0 d)(j:New d (.cells #[.string s] 9) b w1){G:OA->Nat->Nat->World->Prop}
  (k:∀a' c' d,Hp [] w d (.own 9 1 a' (N++[s]).length c' (BJ (N++[s]))::X)->G a' (N++[s]).length c' d):
  ∃a' g c' d,App PP #[106,106] 106 w1 (.slice a N.length c) (.slice (sP0 b) 1 1) (.slice a' g c') d/\G a' g c' d:=by
 have h:=(H.new e j).AX;refine Hp.app Y2 om h EQ4 (Blk.src Zn (h.blk m1) rfl rfl) (by simp only[maxLen];omega) om ?_;intro l m n i;have e:N.length+1=(N++[s]).length:=by rw[aF];rfl
 have o:BJ N++[.string s]=BJ (N++[s]):=by simp[BJ]
 rw[e,o]at i;rw[e];exact k l m n i.del1
def fold_addN(A:LB0)(l:LB0)(x:ByteArray):(l++[x]).foldl addN A=addN (l.foldl addN A) x:=by rw[iH];rfl
def sA(l:List At):Nat:=(l.map λa=>a.1.size+a.2.size).sum
def sum_take{l:LN0}(k:Nat):(l.take k).sum<=l.sum:=by
 have:=congrArg List.sum (bz k l);rw[kH]at this;omega
def Eb(M:List DR):Nat:=(M.map λp=>rowB p.1.x).sum
def bytesK_eq(M:List DR):Eb M=UI ⟨rws M,nx⟩:=by simp[Eb,UI,rws,lw]
def EE(M:List DR):LB0:=uniq ((rws M).map rowI |>.flatMap Ea)
theorem rnWide_spec(h:TrA f w a c M)(hn:M.length<=1000)(ae:∀q∈M,q.1.x.attrs.length<=1000)(hb:∀q∈M,rowB q.1.x<=1000000):
  CP 41 #[tV a M.length c nx] w λe w'=>e=eE0 (.bool (decide (Xu ⟨rws M,nx⟩)))/\Hp [] w w' []:=by
 apply Jea;intro b w1 af;have H:=(Hp.start w).nw af;refine LoopP.mk (λm (s:(OA×Nat×Nat)×Int×Int) w'=>∃(k:Nat)(d:OA)(g:Nat)(X:List Asn),m=M.length-k/\k<=M.length/\s=((d,(EE (M.take k)).length,g),(Eb (M.take k):Int),(k:Int))/\(EE (M.take k)).length<=1001*k/\Hp [] w w' (.own 9 1 d (EE (M.take k)).length g (BJ (EE (M.take k)))::.blk b (tC a M.length c nx) 29::X)) M.length ⟨0,none,0,[],rfl,om,rfl,aZ _,H.nilS 9 1⟩ ?_;rintro m s w2 next ⟨k,d,g,X,rfl,hk,rfl,ag,H⟩ C
 dsimp only;have mT:∀{x:Asn}{Z:List Asn},Asn.blk b (tC a M.length c nx) 29∈x::.blk b (tC a M.length c nx) 29::Z:=.tail _ (.head _);refine⟨_,_,_,H.ld EQ4 bSR mT rfl,AB (λh1=>?_) (λh1=>?_)⟩;rotate_left
 ·rw[aV om]at H ag⊢;have e:Xu ⟨rws M,nx⟩↔4000<(EE M).length\/10000000<Eb M:=by rw[bytesK_eq (nx:=nx)];rfl
  refine AB (λi=>⟨?_,H.done⟩) (λi=>⟨?_,H.done⟩)
  ·rw[decide_eq_true (e.2 (.inl om))]
  ·have e2:Xu ⟨rws M,nx⟩↔(10000000:Int)<(Eb M:Int):=e.trans ⟨λh=>by omega,λh=>.inr om⟩;rw[decide_eq_decide.2 e2]
 obtain⟨p,hp⟩:∃p,M[k]? =some p:=⟨_,aB om⟩;have D:=aG hp;have aq:=ae p D;have ar:=hb p D;obtain⟨ad,ah,_,_,ld⟩:=(h.go H).ld hp
 have av:Eb (M.take k)<=1000000*k:=by
  have:∀l:List DR,(∀q∈l,rowB q.1.x<=1000000)->Eb l<=1000000*l.length:=by
   intro l
   induction l with
   |nil=>intro _;simp[Eb]
   |cons q r ih=>
    intro hl;have:=ih λq A=>hl q (.tail _ A);have i:=hl q (.head _);have e:Eb (q::r)=rowB q.1.x+Eb r:=by simp[Eb]
    rw[e,aK];omega
  have:=this (M.take k) λq A=>hb q (dN A);rw[aI]at this;omega
 have ak:Eb (M.take (k+1))=Eb (M.take k)+rowB p.1.x:=by rw[take_snoc hp];simp[Eb]
 have R:EE (M.take (k+1))=(p.1.x.attrs.map (·.1)).foldl addN (if p.1.x.kind=1 then addN (EE (M.take k)) p.1.x.name else EE (M.take k)):=by
  rw[take_snoc hp];simp only[EE,rws,uniq,ai,dQ,iH,aj,iY,bU,kY,aU,Ea,rowI];split<;>rfl
 have T:rowB p.1.x=p.1.x.name.size+p.1.x.text.size+sA p.1.x.attrs:=rfl;refine⟨_,_,_,H.ld EQ4 bSR mT rfl,AA ah ⟨⟨om,h1⟩,_,_,_,_,_,_,_,ld,λF w3 al=>?_⟩⟩;have H2:=H.nw al;refine Hp.stA H2 EQ4 Bo rfl rfl (by simp) rfl λw4 o=>?_;have u:∀{j:Nat}{t:TypeId}{v:Value}{U w':World}{x:Asn}{Z:List Asn},Hp [] w U (x::.blk F (itC ⟨p.1.level,p.1.x⟩ p.2) 123::Z)->Eqw U w'->Scl PP t->(itC ⟨p.1.level,p.1.x⟩ p.2)[j]? =some v->Ld PP t w' ⟨F,j,none⟩ v:=λH e S hv=>H.ld e S m1 hv;replace o:=o.AX;refine⟨p.1.x.name,u o EQ4 yStr rfl,iR,p.1.x.text,u o EQ4 yStr rfl,iR,?_⟩;refine JoinP.mk (λ(s:OA×Nat×Nat) w'=>∃(N:LB0)(d:OA)(g:Nat)(X:List Asn),s=(d,N.length,g)/\N=(if p.1.x.kind=1 then addN (EE (M.take k)) p.1.x.name else EE (M.take k))/\N.length<=1001*k+1/\Hp [] w w' (.own 9 1 d N.length g (BJ N)::.blk F (itC ⟨p.1.level,p.1.x⟩ p.2) 123::.blk b (tC a M.length c nx) 29::X)) ?_ ?_
 ·clear o;rintro s U ⟨N0,d,g,X,rfl,am,Y,H⟩;rw[<- am]at R;refine LoopP.mk (λm (s:(OA×Nat×Nat)×Int×Int) w'=>∃(j:Nat)(N:LB0)(d:OA)(g:Nat)(X:List Asn),m=p.1.x.attrs.length-j/\j<=p.1.x.attrs.length/\s=((d,N.length,g),((Eb (M.take k)+p.1.x.name.size+p.1.x.text.size+sA (p.1.x.attrs.take j):Nat):Int),(j:Int))/\N=((p.1.x.attrs.take j).map (·.1)).foldl addN N0/\N.length<=1001*k+1+j/\Hp [] w w' (.own 9 1 d N.length g (BJ N)::.blk F (itC ⟨p.1.level,p.1.x⟩ p.2) 123::.blk b (tC a M.length c nx) 29::X)) p.1.x.attrs.length ⟨0,N0,d,g,X,rfl,om,rfl,rfl,Y,H⟩ ?_;rintro m s w6 an ⟨j,N,d,g,X,rfl,hj,rfl,hN,aa,H⟩ z;dsimp only;have hA:∀{w':World}{Z:List Asn},Hp [] w w' Z->AtR w' p.2.1 p.2.2.1 p.1.x.attrs:=λH=>AtA.go (h.att p D) H _ (Chg.refl _ _);have aw:=(hA H).len;refine⟨_,_,_,u H EQ4 iSAt rfl,AB (λi=>?_) (λi=>?_)⟩;rotate_left
  ·have a0:j=p.1.x.attrs.length:=om;have B:p.1.x.attrs.take j=p.1.x.attrs:=aV om;rw[B]at hN;subst hN;rw[<- R]at H aa⊢;refine⟨iR,C (M.length-(k+1)) _ _ om ⟨k+1,d,g,.blk F (itC ⟨p.1.level,p.1.x⟩ p.2) 123::X,rfl,om,?_,om,H.Am.AX⟩⟩;rw[B,ak,T];simp;omega
  obtain⟨q,A⟩:∃q,p.1.x.attrs[j]? =some q:=⟨_,aB om⟩;have a1:sA (p.1.x.attrs.take (j+1))=sA (p.1.x.attrs.take j)+(q.1.size+q.2.size):=by rw[take_snoc A];simp[sA]
  have a3:sA (p.1.x.attrs.take (j+1))<=sA p.1.x.attrs:=by
   rw[sA,iC];exact sum_take _
  have G:((p.1.x.attrs.take (j+1)).map (·.1)).foldl addN N0=addN N q.1:=by rw[take_snoc A,ai,hN];exact fold_addN _ _ _
  refine JoinP.mk (λ(s:(OA×Nat×Nat)×Int) w'=>∃(d:OA)(g:Nat)(X:List Asn),s=((d,(addN N q.1).length,g),((Eb (M.take k)+p.1.x.name.size+p.1.x.text.size+sA (p.1.x.attrs.take (j+1)):Nat):Int))/\(addN N q.1).length<=1001*k+1+(j+1)/\Hp [] w w' (.own 9 1 d (addN N q.1).length g (BJ (addN N q.1))::.blk F (itC ⟨p.1.level,p.1.x⟩ p.2) 123::.blk b (tC a M.length c nx) 29::X)) ?_ ?_
  ·rintro s w7 ⟨d,g,X,rfl,g1,g2⟩;exact⟨iR,z (p.1.x.attrs.length-(j+1)) _ _ om ⟨j+1,addN N q.1,d,g,X,rfl,om,rfl,G.symm,g1,g2⟩⟩
  intro J hJ;have a4:(j:Int)<((p.2.2.1:Nat):Int):=i;obtain⟨ao,n,la,lb⟩:=(hA H.drew).ld A;refine⟨_,_,_,u H EQ4 iSAt rfl,AA n ⟨⟨om,i⟩,q.1,la,iR,_,_,_,u H EQ4 iSAt rfl,AA n ⟨⟨om,i⟩,q.2,lb,iR,_,_,_,u H EQ4 iSAt rfl,AA n ⟨⟨om,i⟩,q.1,la,AC (TA (H.drew.ownA (.head _)).cells rfl om q.1) ?_⟩⟩⟩⟩;rintro _ w8 ⟨rfl,H'⟩;replace H:=H.drew.ext0 H';have ab:((Eb (M.take k)+p.1.x.name.size+p.1.x.text.size+sA (p.1.x.attrs.take j):Nat):Int)+(q.1.size:Int)+(q.2.size:Int)=((Eb (M.take k)+p.1.x.name.size+p.1.x.text.size+sA (p.1.x.attrs.take (j+1)):Nat):Int):=om;rw[ab];refine⟨_,rfl,Ec (λK=>?_) (λK=>?_)⟩
  ·have K:q.1∉N:=of_decide_eq_false K;have y:addN N q.1=N++[q.1]:=if_neg K;obtain⟨ao,n,la,_⟩:=(hA H).ld A;refine⟨_,_,_,u H EQ4 iSAt rfl,AA n ⟨⟨om,i⟩,q.1,la,λb2 w9 O=>?_⟩⟩;refine Z7 H om EQ4 O λa2 c2 ap H4=>?_;rw[<- y]at H4⊢;exact hJ _ _ ⟨a2,c2,X,rfl,by rw[y,aF,fV];omega,H4⟩
  ·have K:q.1∈N:=of_decide_eq_true K;have y:addN N q.1=N:=if_pos K;exact hJ _ _ ⟨d,g,X,by rw[y],by rw[y];omega,by rw[y];exact H⟩
 intro J hJ;refine JoinP.mk (λ(s:Bool) w'=>(s=true↔p.1.x.kind=1/\p.1.x.name∉EE (M.take k))/\Hp [] w w' (.own 9 1 d (EE (M.take k)).length g (BJ (EE (M.take k)))::.blk F (itC ⟨p.1.level,p.1.x⟩ p.2) 123::.blk b (tC a M.length c nx) 29::X)) ?_ ?_
 ·clear o;rintro s U ⟨hs,H⟩;refine Dp (λi=>?_) (λi=>?_)
  ·obtain⟨g1,g2⟩:=hs.1 i;have y:(if p.1.x.kind=1 then addN (EE (M.take k)) p.1.x.name else EE (M.take k))=EE (M.take k)++[p.1.x.name]:=by rw[if_pos g1];exact if_neg g2
   refine⟨p.1.x.name,u H EQ4 yStr rfl,λb2 w9 O=>Z7 H om EQ4 O λa2 c2 ap H4=>hJ _ _ ⟨_,a2,c2,X,rfl,y.symm,by rw[aF,fV];omega,H4⟩⟩
  ·have y:(if p.1.x.kind=1 then addN (EE (M.take k)) p.1.x.name else EE (M.take k))=EE (M.take k):=by
    split
    ·rename_i g1;exact if_pos (az λg2=>by rw[hs.2 ⟨g1,g2⟩]at i;cases i)
    ·rfl
   exact hJ _ _ ⟨_,d,g,X,rfl,y.symm,om,H⟩
 intro J2 ac;refine⟨_,u o EQ4 yInt rfl,AB (λi=>⟨p.1.x.name,u o EQ4 yStr rfl,AC (TA (o.ownA (.head _)).cells rfl om p.1.x.name) ?_⟩) (λi=>ac _ _ ⟨⟨λh=>(by cases h),λh=>(i h.1).elim⟩,o⟩)⟩;rintro _ U ⟨rfl,H'⟩;refine⟨_,rfl,ac _ _ ⟨?_,o.ext0 H'⟩⟩;rw[kN,decide_eq_false_iff_not];exact⟨λh=>⟨i,h⟩,λh=>h.2⟩
end
noncomputable section
open Go Go.Vc Go.Nod
variable{f:List Nat}{w w':World}{a:Option Addr}{c:Nat}{M:List DR}{L:List Asn}{nx:Int}
def WC{w0 w1 d:World}{b:Nat}{a:OA}{c:Nat}{N:List Cg}{x:Cg}{X:List Asn}(H:Hp [] w w0 (.own 79 4 a N.length c (cgsC N)::X))(o:N.length<=100000000)(e:Eqw w0 d)(j:New d (.cells (cgC x).toArray 79) b w1){G:OA->Nat->Nat->World->Prop}
  (k:∀a' c' d,Hp [] w d (.own 79 4 a' (N++[x]).length c' (cgsC (N++[x]))::X)->G a' (N++[x]).length c' d):
  ∃a' g c' d,App PP #[37,37] 37 w1 (.slice a N.length c) (.slice (sP0 b) 1 1) (.slice a' g c') d/\G a' g c' d:=by
 have h:=(H.new e j).AX;refine Hp.app rJ om h EQ4 (Blk.src qp (h.blk m1) rfl rfl) (by simp only[maxLen];omega) om ?_;intro l m n i;have e:N.length+1=(N++[x]).length:=by rw[aF];rfl
 rw[e,<- Lj]at i;rw[e];exact k l m n i.del1
def rwo_spec{l:List Cg}(t:Cells w a (cgsC l))(U:l.length<=10000000)(lc:Nat)(x:Cg):
  CP 79 #[.slice a l.length lc,.agg (cgC x).toArray] w λe w'=>∃a' c',e=eE0 (.slice a' (DZ l x).length c')/\Hp [] w w' [.own 79 4 a' (DZ l x).length c' (cgsC (DZ l x))]:=by
 apply Jej;intro b C p;have H:=(Hp.start w).nw p;refine LoopP.mk (λm s w'=>∃(k:Nat)(a':OA)(c':Nat),m=l.length-k/\k<=l.length/\s=((a',(DZ (l.take k) x).length,c'),(k:Int))/\Hp [] w w' [.own 79 4 a' (DZ (l.take k) x).length c' (cgsC (DZ (l.take k) x)),.blk b (cgC x) 79]) l.length ⟨0,none,0,rfl,om,rfl,H.nilS 79 4⟩ ?_;rintro m s C next ⟨k,a',c',rfl,X,rfl,H⟩ i
 refine AB (λo=>?_) (λo=>?_);rotate_left
 ·rw[aV om]at H⊢;exact⟨_,_,rfl,H.BK (L:=[_])⟩
 obtain⟨y,q⟩:∃y,l[k]? =some y:=⟨_,aB om⟩
 have D:(DZ (l.take k) x).length<=k:=by
  have:=jH (λz:Cg=>decide (z.page≠x.page\/z.slot≠x.slot)) (l.take k);rw[aI]at this;show(List.filter _ _).length<=k;omega
 have j:DZ (l.take (k+1)) x=DZ (l.take k) x++DZ [y] x:=by rw[take_snoc q,DZ,gJ];rfl
 refine JoinP.mk (λs w'=>∃(a':OA)(c':Nat),s=(a',(DZ (l.take (k+1)) x).length,c')/\Hp [] w w' [.own 79 4 a' (DZ (l.take (k+1)) x).length c' (cgsC (DZ (l.take (k+1)) x)),.blk b (cgC x) 79]) ?_ ?_
 ·rintro s F ⟨a',c',rfl,H⟩;exact⟨iR,i (l.length-(k+1)) _ _ om ⟨k+1,a',c',rfl,om,rfl,H⟩⟩
 intro J u;refine JoinP.mk (λs w'=>(s=true↔y.page≠x.page\/y.slot≠x.slot)/\Hp [] w w' [.own 79 4 a' (DZ (l.take k) x).length c' (cgsC (DZ (l.take k) x)),.blk b (cgC x) 79]) ?_ ?_
 ·clear H;rintro s F ⟨A,H⟩;refine Dp (λg=>?_) (λg=>?_)
  ·obtain⟨G,d,ld⟩:=Ov (t.chg H.chg (by simp)) q;refine AA d ⟨⟨om,o⟩,_,_,_,_,ld,λY Z r=>WC H om EQ4 r λK N w4 B=>?_⟩
   have e:DZ (l.take k) x++[y]=DZ (l.take (k+1)) x:=by
    rw[j];congr 1;rw[DZ,dL,if_pos (decide_eq_true (A.1 g))];rfl
   rw[e]at B⊢;exact u _ _ ⟨K,N,rfl,B⟩
  ·have e:DZ (l.take (k+1)) x=DZ (l.take k) x:=by
    rw[j,show DZ [y] x=[] by rw[DZ,dL,if_neg (by rw[decide_eq_true_eq];exact λh=>by rw[A.2 h]at g;cases g)];rfl,aU]
   exact u _ _ ⟨a',c',by rw[e],by rw[e];exact H⟩
 intro J2 n;obtain⟨G,d,O,R,_⟩:=cg_word (t.chg H.drew.chg (by simp)) q;refine AA d ⟨⟨om,o⟩,_,O,_,H.lo yInt,AQ (λg=>n _ _ ⟨⟨λ_=>.inl g,λ_=>rfl⟩,H.drew⟩) (λg=>AA d ⟨⟨om,o⟩,_,R,_,H.lo yInt,n _ _ ⟨?_,H.drew⟩⟩)⟩;rw[kN,decide_eq_false_iff_not];exact⟨.inr,λh=>h.resolve_left λT=>T g⟩
def XY(x:Cg):Bool->List Cg->List Cg
 |true,l=>l
 |false,l=>E8 x l
theorem YN(x:Cg):∀l:List Cg,(E8 x l).length=l.length+1
 | []=>rfl
 |y::r=>by
  rw[E8];split
  ·rfl
  ·rw[aK,YN x r,aK]
theorem rwi_spec{l:List Cg}(O:Cells w a (cgsC l))(hl:l.length<=10000000)(lc:Nat)(x:Cg):
  CP 80 #[.slice a l.length lc,.agg (cgC x).toArray] w λe w'=>∃a' c',e=eE0 (.slice a' (E8 x l).length c')/\Hp [] w w' [.own 79 4 a' (E8 x l).length c' (cgsC (E8 x l))]:=by
 apply Jei;intro b X B;have H:=(Hp.start w).nw B;have C:∀{w' p:World}{y:Asn},Hp [] w w' [y,.blk b (cgC x) 79]->Eqw w' p->Ld PP 79 p ⟨b,0,none⟩ (.agg (cgC x).toArray):=λH e=>H.ldA e rM m1 rfl rfl;refine LoopP.mk (λm s w'=>∃(k:Nat)(N:List Cg)(d:Bool)(a':OA)(c':Nat),m=l.length-k/\k<=l.length/\s=((a',N.length,c'),d,(k:Int))/\N.length<=2*k/\E8 x l=N++XY x d (l.drop k)/\Hp [] w w' [.own 79 4 a' N.length c' (cgsC N),.blk b (cgC x) 79]) l.length ⟨0,[],false,none,0,rfl,om,rfl,by simp,rfl,H.nilS 79 4⟩ ?_;rintro m s X next ⟨k,N,d,a',c',rfl,hk,rfl,Y,i,H⟩ j
 dsimp only;refine AB (λD=>?_) (λD=>?_);rotate_left
 ·rw[gV om]at i;refine Ec (λg=>?_) (λg=>?_)
  ·rw[g]at i;refine⟨_,_,_,_,C H EQ4,λR p n=>WC H om EQ4 n λt u T z=>?_⟩;rw[show N++[x]=E8 x l from i.symm]at z⊢;exact⟨_,_,rfl,z.BK (L:=[_])⟩
  ·rw[g,show XY x true []=[]from rfl,aU]at i;rw[i];exact⟨_,_,rfl,H.BK (L:=[_])⟩
 obtain⟨y,F⟩:∃y,l[k]? =some y:=⟨_,aB om⟩;have q:=aA.1 F;rw[bQ q.1,q.2]at i;refine JoinP.mk (λ(s:(OA×Nat×Nat)×Bool) w'=>∃(N:List Cg)(a':OA)(c':Nat),s=((a',N.length,c'),s.2)/\N.length<=2*k+1/\E8 x l=N++y::XY x s.2 (l.drop (k+1))/\Hp [] w w' [.own 79 4 a' N.length c' (cgsC N),.blk b (cgC x) 79]) ?_ ?_
 ·rintro⟨s1,d⟩ Z ⟨N,a',c',A,g1,g2,H⟩;cases A;obtain⟨ad,o,ld⟩:=Ov (O.chg H.chg (by simp)) F;refine AA o ⟨⟨om,D⟩,_,_,_,_,ld,λR T G=>WC H om EQ4 G λt u Z H4=>⟨iR,j (l.length-(k+1)) _ _ om ⟨k+1,N++[y],d,t,u,rfl,om,rfl,by rw[aF,fV];omega,by rw[g2];simp,H4⟩⟩⟩
 intro J U;refine JoinP.mk (λs w'=>(s=true↔d=false/\IJ x y)/\Hp [] w w' [.own 79 4 a' N.length c' (cgsC N),.blk b (cgC x) 79]) ?_ ?_
 ·clear H;rintro s p ⟨A,H⟩;refine Dp (λg=>?_) (λg=>?_)
  ·obtain⟨rfl,K⟩:=A.1 g;refine⟨_,_,_,_,C H EQ4,λR p n=>WC H om EQ4 n λt u T z=>U _ _ ⟨N++[x],t,u,rfl,by rw[aF,fV];omega,?_,z⟩⟩;rw[i,show XY x false (y::l.drop (k+1))=E8 x (y::l.drop (k+1))from rfl,E8,if_pos K];simp[XY]
  ·refine U _ _ ⟨N,a',c',rfl,om,?_,H⟩;rw[i];cases d with
   |true=>rfl
   |false=>
    show N++E8 x (y::_)=_;rw[E8,if_neg (λK=>by rw[A.2 ⟨rfl,K⟩]at g;cases g)];rfl
 intro J2 r;refine Ec (λg=>?_) (λg=>r _ _ ⟨⟨λh=>(by cases h),λh=>(by rw[g]at h;cases h.1)⟩,H.drew⟩);obtain⟨ad,o,ld⟩:=Ov (O.chg H.drew.chg (by simp)) F;refine⟨_,_,_,_,C H EQ4,AA o ⟨⟨om,D⟩,_,_,_,_,ld,AC (Ql x y _) ?_⟩⟩;rintro _ w5 ⟨rfl,H'⟩;exact⟨_,rfl,r _ _ ⟨decide_eq_true_iff.trans ⟨λh=>⟨g,h⟩,λh=>h.2⟩,H.drew.ext0 H'⟩⟩
def XW(l:List Cg)(x:Cg):(DZ l x).length<=l.length:=jH _ _
def Kw(l:List Cg)(x:Cg):(Nk l x).length<=l.length+1:=by
 have:=XW l x;rw[Nk];split
 ·omega
 ·rw[YN];omega
def rchanged_spec{l:List Cg}(K:∀W,Chg f w W->Cells W a (cgsC l))(lt:∀k∈f,k<w.heap.size)(hl:l.length<=1000000)(lc:Nat){x:OA}{m:List Cg}(r:Cells w x (cgsC m))(hm:m.length<=1000000)(N:Nat):
  CP 42 #[.slice a l.length lc,.slice x m.length N] w λe w'=>∃a' c',e=eE0 (.slice a' (CZ l m).length c')/\Hp [] w w' []/\∀W,Chg f w' W->Cells W a' (cgsC (CZ l m)):=by
 apply Jde;refine LoopP.mk (λn s w'=>∃(k:Nat)(a':OA)(c':Nat),n=m.length-k/\k<=m.length/\s=((a',(CZ l (m.take k)).length,c'),(k:Int))/\(CZ l (m.take k)).length<=l.length+k/\Hp [] w w' []/\∀W,Chg f w' W->Cells W a' (cgsC (CZ l (m.take k)))) m.length ⟨0,a,lc,rfl,om,rfl,aZ _,Hp.start w,K⟩ ?_;rintro n s O next ⟨k,a',c',rfl,hk,rfl,z,H,j⟩ h
 refine AB (λo=>?_) (λo=>?_);rotate_left
 ·rw[aV om]at j⊢;exact⟨_,_,rfl,H,j⟩
 obtain⟨y,p⟩:∃y,m[k]? =some y:=⟨_,aB om⟩;have d:CZ l (m.take (k+1))=Nk (CZ l (m.take k)) y:=by rw[take_snoc p,CZ,iH];rfl
 refine JoinP.mk (λs w'=>∃(a':OA)(c':Nat),s=(a',(CZ l (m.take (k+1))).length,c')/\Hp [] w w' []/\∀W,Chg f w' W->Cells W a' (cgsC (CZ l (m.take (k+1))))) ?_ ?_
 ·rintro s A ⟨a',c',rfl,H,j⟩;refine⟨iR,h (m.length-(k+1)) _ _ om ⟨k+1,a',c',rfl,om,rfl,?_,H,j⟩⟩;rw[d];have:=Kw (CZ l (m.take k)) y;omega
 intro J B;obtain⟨R,b,ld⟩:=Ov (r.chg H.chg (by simp)) p;refine AA b ⟨⟨om,o⟩,_,_,_,_,ld,AC (rwo_spec (j O (Chg.refl _ _)) om c' y) ?_⟩;rintro _ A ⟨T,C,rfl,D⟩;have i:=H.ext1 D;obtain⟨U,g,t⟩:=Ov (r.chg i.chg (by simp)) p;rw[b]at g;cases g
 have X:Ld PP 4 A ((R.add (k*4)).add 3) (.bool y.gone):=by
  rw[add_add];refine(r.chg i.chg (by simp)).ld ZT b ?_;have e:=LW p;have F:((((cgsC m).drop (k*4)).take 4)[3]? :Option Value)=some (.bool y.gone):=by rw[e];rfl
  rw[bn om,eF]at F;exact F
 have Y:=XW (CZ l (m.take k)) y;refine⟨_,_,_,rfl,AA b ⟨⟨om,o⟩,_,X,Ec (λq=>AA b ⟨⟨om,o⟩,_,_,_,_,t,AC (rwi_spec (D.ownA (.head _)).cells om C y) ?_⟩) (λq=>B _ _ ⟨T,C,?_,i.drop,?_⟩)⟩⟩
 ·rintro _ w3 ⟨Z,c3,rfl,G⟩;have e:CZ l (m.take (k+1))=E8 y (DZ (CZ l (m.take k)) y):=by rw[d,Nk,if_neg (by rw[q];decide)]
  exact⟨_,_,_,rfl,B _ _ ⟨Z,c3,by rw[e],(i.ext0 G.done).drop,by rw[e];exact λW u=>Own.cells (stay (i.ext1 G) (.head _) lt u)⟩⟩
 ·rw[d,Nk,if_pos q]
 ·rw[d,Nk,if_pos q];exact λW u=>Own.cells (stay i (.head _) lt u)
def rgSameIds_spec{b:OA}{l:List Int}{n m:Nat}(r:Cells w a (AO l))(t:Cells w b (AO l))(u:n=l.length)(x:m=l.length)(B:l.length<=1000000)(z:Nat):
  CP 43 #[.slice a n c,.slice b m z] w λe w'=>e=eE0 (.bool true)/\Hp [] w w' []:=by
 subst u;subst x;apply Jdy;refine AQ (λh=>(h rfl).elim) (λ_=>?_);refine LoopP.mk (λm s w'=>∃k:Nat,m=l.length-k/\k<=l.length/\s=(k:Int)/\Hp [] w w' []) l.length ⟨0,rfl,om,rfl,Hp.start w⟩ ?_;rintro m s C next ⟨k,rfl,D,rfl,H⟩ d
 refine AB (λq=>?_) (λq=>⟨rfl,H⟩);obtain⟨y,A⟩:∃y,l[k]? =some y:=⟨_,aB om⟩;have p:(AO l)[k]? =some (I y):=by rw[AO,au,A];rfl
 have g:=r.chg H.drew.chg (by simp);have i:=t.chg H.drew.chg (by simp);obtain⟨F,j,_⟩:=g k _ p;obtain⟨G,o,_⟩:=i k _ p;refine AA j ⟨⟨om,q⟩,_,by rw[aJ,bT];exact g.ld yInt j p,AA o ⟨⟨om,q⟩,_,by rw[aJ,bT];exact i.ld yInt o p,AQ (λh=>(h rfl).elim) (λ_=>⟨iR,d (l.length-(k+1)) _ _ om ⟨k+1,rfl,om,rfl,H.drew⟩⟩)⟩⟩
def flatAt:VM PP 142 [(0,.inr 1),(1,.inr 1)]:=Go.Vc.Wj (by kernel_rfl)
def rlSameAttrs_spec{b:OA}{l:List At}{n m:Nat}(q:AtR w a n l)(r:AtR w b m l)(x:l.length<=1000000)(u:Nat):
  CP 81 #[.slice a n c,.slice b m u] w λe w'=>e=eE0 (.bool true)/\Hp [] w w' []:=by
 have z:=q.len;have A:=r.len;apply Jd7;refine AQ (λh=>by omega) (λ_=>?_);refine LoopP.mk (λm s w'=>∃k:Nat,m=l.length-k/\k<=l.length/\s=(k:Int)/\Hp [] w w' []) l.length ⟨0,rfl,om,rfl,Hp.start w⟩ ?_;rintro m s B next ⟨k,rfl,C,rfl,H⟩ d
 refine AB (λt=>?_) (λt=>⟨rfl,H⟩);obtain⟨y,p⟩:∃y,l[k]? =some y:=⟨_,aB om⟩;have g:=q.go H.drew;have i:=r.go H.drew;obtain⟨D,j,_⟩:=g.ld p;obtain⟨F,o,_⟩:=i.ld p;refine AA j ⟨⟨om,t⟩,_,_,g.cells.ldA EK j (F6 p) rfl,AA o ⟨⟨om,om⟩,_,_,i.cells.ldA EK o (F6 p) rfl,false,Yq flatAt rfl rfl (by simp[eqL,sEq,beqB]),BC ⟨iR,d (l.length-(k+1)) _ _ om ⟨k+1,rfl,om,rfl,H.drew⟩⟩⟩⟩
def rpSame_spec{b:OA}{l:List It}{n m:Nat}{ss ts:List Sl3}(U:ItR w a n l ss)(X:ItR w b m l ts)(hl:l.length<=1000000)(F:∀x∈l,x.x.attrs.length<=1000000)(bc:Nat):
  CP 44 #[.slice a n c,.slice b m bc] w λe w'=>e=eE0 (.bool true)/\Hp [] w w' []:=by
 have h1:=U.len;have h2:=X.len;apply Jeg;refine AQ (λh=>by omega) (λ_=>?_);refine LoopP.mk (λm s w'=>∃k:Nat,m=l.length-k/\k<=l.length/\s=(k:Int)/\Hp [] w w' []) l.length ⟨0,rfl,om,rfl,Hp.start w⟩ ?_;rintro i s B next ⟨k,rfl,hk,rfl,H⟩ r
 refine AB (λY=>?_) (λY=>⟨rfl,H⟩);have o:=U.go H.drew;have p:=X.go H.drew;obtain⟨x,s,q,G,J⟩:=o.at_ (k:=k) om;obtain⟨x',t,u,K,N⟩:=p.at_ (k:=k) om;rw[q]at u;cases u;obtain⟨Z,d,_⟩:=o.some q G;obtain⟨bd,g,_⟩:=p.some q K;have C:∀{y:TypeId}{j:Nat}{v:Value},Scl PP y->(itC x s)[j]? =some v->Ld PP y B.drew ((Z.add (((k:Int)).toNat*5)).add j) v:=λS O=>by rw[aJ,add_add];exact o.ld q G d S O
 have D:∀{y:TypeId}{j:Nat}{v:Value},Scl PP y->(itC x t)[j]? =some v->Ld PP y B.drew ((bd.add (((k:Int)).toNat*5)).add j) v:=λS O=>by rw[aJ,add_add];exact p.ld q K g S O
 have R:Ld PP 3 B.drew (Z.add (((k:Int)).toNat*5)) (I x.level):=o.ld q G d yInt (j:=0) rfl;have T:Ld PP 3 B.drew (bd.add (((k:Int)).toNat*5)) (I x.level):=p.ld q K g yInt (j:=0) rfl;have z:D1 (k:Int) n:=⟨om,Y⟩;have A:D1 (k:Int) m:=⟨om,om⟩;refine AA d ⟨z,_,R,AA g ⟨A,_,T,AQ (λh=>(h rfl).elim) λ_=>AA d ⟨z,_,C yInt rfl,AA g ⟨A,_,D yInt rfl,AQ (λh=>(h rfl).elim) λ_=>AA d ⟨z,_,C yStr rfl,AA g ⟨A,_,D yStr rfl,AQ (λh=>(h rfl).elim) λ_=>AA d ⟨z,_,C yStr rfl,AA g ⟨A,_,D yStr rfl,AQ (λh=>(h rfl).elim) λ_=>AA d ⟨z,_,_,_,C iSAt rfl,AA g ⟨A,_,_,_,D iSAt rfl,AC (rlSameAttrs_spec J N (F x (aG q)) _) ?_⟩⟩⟩⟩⟩⟩⟩⟩⟩⟩;rintro _ w2 ⟨rfl,H'⟩;exact⟨_,rfl,BC ⟨iR,r (l.length-(k+1)) _ _ om ⟨k+1,rfl,om,rfl,H.drew.ext0 H'⟩⟩⟩
end
noncomputable section
open Go Go.Vc Go.Nod
variable{f:List Nat}{w w':World}{a:Option Addr}{c:Nat}{M:List DR}{L:List Asn}{nx:Int}
def app_it{w0 w1:World}{b:Nat}{a:OA}{c:Nat}{l:List It}{ss:List Sl3}{x:It}{s:Sl3}{X:List Asn}(H:Hp [] w w0 (.own 123 5 a l.length c (itsC l ss)::X))(g:ss.length=l.length)(r:l.length<=100000000)(m:New w0 (.cells (itC x s).toArray 123) b w1){G:OA->Nat->Nat->World->Prop}
  (k:∀a' c' d,Hp [] w d (.own 123 5 a' (l++[x]).length c' (itsC (l++[x]) (ss++[s]))::X)->G a' (l++[x]).length c' d):
  ∃a' h c' d,App PP #[34,34] 34 w1 (.slice a l.length c) (.slice (sP0 b) 1 1) (.slice a' h c') d/\G a' h c' d:=by
 have i:=(H.nw m).AX;refine Hp.app Ym om i EQ4 (Blk.src YZ (i.blk m1) rfl rfl) (by simp only[maxLen];omega) om ?_;intro n o p j;have e:l.length+1=(l++[x]).length:=by rw[aF];rfl
 have q:itsC l ss++itC x s=itsC (l++[x]) (ss++[s]):=by rw[itsC,itsC,jB g.symm,List.flatten_append];simp
 rw[e,q]at j;rw[e];exact k n o p j.del1
structure qi(M:List DR):Prop where
 level:∀p,M[0]? =some p->p.1.level=0
 end_:M≠[]->endR (rws M) 0=M.length
 pos:∀p∈M,p.1.id≠0
theorem rgItems_spec(h:TrA f w a c M)(g:TrG M nx)(Y:qi M):
  CP 45 #[tV a M.length c nx,I (SH ⟨rws M,nx⟩)] w λe w'=>∃a' c' ss,e=eE0 (.slice a' M.length c')/\ItR w' a' M.length ((rws M).map rowI) ss/\Hp [] w w' []:=by
 apply Jdn;intro b w1 F;have H:=(Hp.start w).nw F;have hl:=g.len;refine⟨_,_,_,_,H.loA bT2,AC (Dk (h.go H) om nx _) ?_⟩;rintro _ w2 ⟨⟨z,rfl,G⟩,y⟩;replace H:=H.ext0 y;cases hM:M[0]? with
 |none=>
  have J:M=[]:=bC (by rw[jv]at hM;omega);subst J;rcases G with⟨_,_,rfl⟩|⟨k,p,hp,_⟩
  ·exact⟨_,rfl,AB (λ_=>⟨none,0,[],rfl,⟨rfl,rfl,by intro j v hj;simp[itsC]at hj,λk x s C=>by simp at C⟩,H.drop⟩) (λh=>by omega)⟩
  ·simp at hp
 |some p=>
  have A:M≠[]:=λe=>by rw[e]at hM;cases hM
  have K:SH ⟨rws M,nx⟩=p.1.id:=by
   rw[SH,fP];rw[Jq hM];rfl
  have Z:D6 (rws M) p.1.id=some 0:=by
   have:=RN hM;rw[fC]at this;rw[this,D6,lI,decide_eq_true rfl];rfl
  rw[K]at G;rcases G with⟨n,_⟩|⟨k,q,d,_,n,_,rfl⟩
  ·rw[Z]at n;cases n
  rw[Z]at n;cases n;rw[hM]at d;cases d;have N:=Y.level p hM;have B:=Y.end_ A;have aa:=h.cap;have ab:=eH.2 A;have lT:∀{w':World},Hp [] w w' [.blk b (tC a M.length c nx) 29]->Ld PP 29 w' ⟨b,0,none⟩ (tV a M.length c nx):=λH=>H.loA bT2;have D:∀{w':World},Hp [] w w' [.blk b (tC a M.length c nx) 29]->Ld PP 27 w' ⟨b,0,none⟩ (.slice a M.length c):=λH=>H.lo bSR;obtain⟨ad,l,ld,_⟩:=(h.go H.drew).ld hM;refine⟨_,rfl,AB (λh=>by omega) (λ_=>⟨_,_,_,D H.drew,_,_,_,_,lT H.drew,_,_,_,D H.drew,AA l ⟨⟨om,om⟩,_,ld (j:=1) yInt rfl,AC (F5 (h.go H.drew) om nx hM) ?_⟩⟩)⟩;rintro _ w3 ⟨rfl,y⟩;replace H:=H.drew.ext0 y;obtain⟨ac,o,ld,_⟩:=(h.go H).ld hM;rw[l]at o;cases o;rw[B];have r:=(h.go H).sub (i:=0) (aZ _);rw[bK,fC]at r;have cP:=Qg r om (c-0) p.1.level g.wide om;refine⟨_,rfl,ld (j:=1) (v:=I p.1.level) yInt rfl,D H,D H,⟨om,om,om⟩,?_⟩;rw[aJ,aJ];refine AC cP ?_;rintro _ O ⟨a2,c2,rfl,R,y⟩
  have T:Il M p.1.level=M:=by
   rw[N,Il]
   conv=>rhs;rw[<- List.map_id M]
   refine lF λq _=>?_;simp
  rw[T]at R;have H0:Hp [] w O []:=(H.ext0 y).drop;refine⟨_,_,_,rfl,?_⟩;refine LoopP.mk (λm s w'=>∃(k:Nat)(a':OA)(c':Nat),m=M.length-k/\k<=M.length/\s=((a',((rws (M.take k)).map rowI).length,c'),(k:Int))/\Hp [] O w' [.own 123 5 a' ((rws (M.take k)).map rowI).length c' (itsC ((rws (M.take k)).map rowI) ((M.take k).map (·.2)))]) M.length ⟨0,none,0,rfl,om,rfl,(Hp.start O).nilS 123 5⟩ ?_;rintro m s w5 next ⟨k,a',c',rfl,hk,rfl,t⟩ u
  refine AB (λn=>?_) (λn=>?_)
  ·obtain⟨q,d⟩:∃q,M[k]? =some q:=⟨_,aB om⟩;obtain⟨ad,l,_,_,ld⟩:=(R.go t).ld d;refine AA l ⟨⟨om,n⟩,_,_,_,_,_,_,_,ld,λb2 w6 U=>app_it (x:=⟨q.1.level,q.1.x⟩) (s:=q.2) t (by simp) (by simp;omega) U λa3 c3 w7 H7=>⟨iR,u (M.length-(k+1)) _ _ om ⟨k+1,a3,c3,rfl,om,?_,?_⟩⟩⟩
   ·rw[take_snoc d];simp[rws,rowI]
   ·rw[take_snoc d,rws,ai,ai,ai];exact H7
  ·rw[aV om]at t⊢;have e:((rws M).map rowI).length=M.length:=by simp
   rw[e]at t⊢;refine⟨a',c',M.map (·.2),rfl,⟨e.symm,by simp,(t.ownA (.head _)).cells,λk x s C X=>?_⟩,H0.ext0 t.drop⟩;rw[au,au,Option.map_map]at C;rw[au]at X;obtain⟨q,d,rfl⟩:=cZ.1 C;rw[d]at X;cases X;exact AtA.go (R.att q (aG d)) t _ (Chg.refl _ _)
def TrA.at_(h:TrA f w a c M)(H:Hp f w w' L):TrA (feet L) w' a c M:=
 ⟨λW b=>h.rd W (H.chgT b),λp d W b=>h.att p d W (H.chgT b),h.cap,λk e=>by
  obtain⟨x,g,i⟩:=Ap.1 e;exact Asn.Iw (H.ok x g) k i⟩
def good_root{F:Fo}{T:Tr}(g:BA F T)(e:rws M=T.L):qi M:=by
 have b:∀p∈M,p.1.id≠0:=λp j=>by
  have:p.1.id∈ids F:=by
   rw[<- BI F 0,g.fl,<- e];exact aT.2 ⟨p.1,aT.2 ⟨p,j,rfl⟩,rfl⟩
  have:=g.pos _ this;omega
 rcases g.one with h|⟨i,x,k,h,_⟩
 ·have:M=[]:=by
   have d:=g.fl;rw[h,flat,<- e]at d;exact List.map_eq_nil_iff.1 d.symm
  subst this;exact⟨λp h=>(by cases h),λh=>(h rfl).elim,b⟩
 ·have d:=g.fl;rw[h,flat,flat,aU,<- e]at d;refine⟨λp j=>?_,λ_=>?_,b⟩
  ·have:=Jq j;rw[<- d,dH]at this;rw[<- Option.some.inj this]
  ·have l:=Q8 (v:=0) (flat k (0+1)) 1 [] (λr m=>by have:=Be k _ r m;omega) (by simp);rw[aU]at l;have n:M.length=(rws M).length:=(aQ _).symm;rw[n,<- d,endR];show endF 0 (0+1) (flat k (0+1))=_;rw[l,aK];omega
theorem row_max{x:NX}(h:Aj x=0):rowB x<=1000000:=by
 obtain⟨A,q,r⟩:=Dh h
 have d:∀{s:ByteArray},BD s=0->s.size<=1500:=λ{s} h=>by
  rw[BD]at h;split at h
  ·cases h
  ·split at h
   ·cases h
   ·omega
 have e:rowB x=x.name.size+x.text.size+sB x.attrs:=rfl;rcases OT h with g|g
 ·obtain⟨i,j,m,t⟩:=q g
  have u:∀(l:List At),(∀a∈l,a.1.size<=60/\a.2.size<=1500)->sB l<=1560*l.length:=by
   intro l
   induction l with
   |nil=>intro _;simp[sB]
   |cons a l y=>
    intro h;have n:=h a (.head _);have o:=y λb z=>h b (.tail _ z);have e:sB (a::l)=(a.1.size+a.2.size)+sB l:=rfl;rw[e,aK];omega
  have n:=u x.attrs λa p=>⟨(j.1 a p).2.1,d ((IB _).1 t a p)⟩;have o:x.text.size=0:=by rw[m];rfl
  have:=i.2.1;omega
 ·obtain⟨i,j,m⟩:=r g;have n:sB x.attrs=0:=by rw[i];rfl
  have o:x.name.size=0:=by rw[m];rfl
  have:=d j;omega
def SE{F:Fo}{T:Tr}(b:BA F T)(e:rws M=T.L):TrG M T.next/\(∀q∈M,q.1.x.attrs.length<=20)/\∀q∈M,rowB q.1.x<=1000000:=by
 have g:∀q∈M,q.1∈T.L:=λq d=>by rw[<- e];exact aT.2 ⟨q,d,rfl⟩
 refine⟨⟨?_,λq d=>⟨?_,b.deep _ (g q d)⟩,b.next⟩,λq d=>?_,λq d=>?_⟩
 ·have:=b.len;rw[<- e,aQ]at this;exact this
 ·exact Be F 0 q.1 (by rw[b.fl];exact g q d)
 ·exact(Dh (Fb F 0 b.ok _ (by rw[b.fl];exact g q d))).1
 ·exact row_max (Fb F 0 b.ok _ (by rw[b.fl];exact g q d))
def stands_spec{b:Nat}{X:Tab}(h:(tabA f b X).ok w)(B:TrA f w a c M)(e:rws M=X.T.L):
  CP 15 #[pT0 b,tV a M.length c X.T.next] w λe w'=>∃f',e=eE0 (.bool true)/\Hp f w w' [tabA f' b X]:=by
 apply Je5;obtain⟨F,u⟩:=Nv h;obtain⟨g,aa,_⟩:=SE u e;have hl:=g.len;have hR:=good_root u e;have j:X.T.L.length=M.length:=by rw[<- e,aQ]
 intro d w1 C;have H:=(BQ h:Hp f w w [tabA f b X]).new (cs:=tC a M.length c X.T.next) EQ4 C;refine AC (Jo (H.ok _ m1)) ?_;rintro _ w2 ⟨r,f2,s,rfl,i⟩;replace H:Hp f w w2 (AV f2 s X.T::.blk d (tC a M.length c X.T.next) 29::[tabA r b X]):=((H.AX).use1 i).perm (AL λff D n o p q=>by simp only[p,o,n];omega);have m:∀{w':World}{x:Asn}{Z:List Asn},Hp f w w' (x::.blk d (tC a M.length c X.T.next) 29::Z)->Ld PP 29 w' ⟨d,0,none⟩ (tV a M.length c X.T.next):=λH=>H.loA bT2;have O:∀{w':World}{x:Asn}{Z:List Asn},Hp f w w' (x::.blk d (tC a M.length c X.T.next) 29::Z)->Ld PP 3 w' ⟨d,1,none⟩ (I X.T.next):=λH=>H.lo yInt;refine⟨_,rfl,_,OQ qO,CX ⟨_,O H.drew,AC (MQ (H.drew.ok _ (.head _))) ?_⟩⟩;rintro _ w3 ⟨rfl,G⟩;obtain rfl:=G.symm;replace H:=H.drew;refine⟨_,rfl,O H,AB (λ_=>⟨_,_,_,_,m H,AC (Ik (H.ok _ (.head _))) ?_⟩) (λh=>(h rfl).elim)⟩;rintro _ w4 ⟨R,oa,oc,rfl,i⟩;replace H:Hp f w w4 (AV R s X.T::.blk d (tC a M.length c X.T.next) 29::.own 3 1 oa X.T.L.length oc (AO (X.T.L.map (·.id)))::[tabA r b X]):=(H.use1 i).perm (AL λff D n o p q=>by simp only[p,o,n];omega);refine⟨_,_,_,rfl,m H,AC (rgOrder_spec (B.at_ H) om _) ?_⟩;rintro _ w5 ⟨pa,pc,rfl,i⟩;have y:=H.ext1 i;rw[j]at y⊢;refine⟨_,_,_,rfl,AC (rgSameIds_spec (y.ownA m3).cells (by rw[<- e];exact(y.ownA (.head _)).cells) (by rw[aQ,j]) (by rw[aQ,j]) (by rw[aQ,j];omega) pc) ?_⟩;rintro _ w6 ⟨rfl,i⟩;replace H:Hp f w w6 (AV R s X.T::.blk d (tC a M.length c X.T.next) 29::[tabA r b X]):=((y.ext0 i).drop).del2;refine⟨_,rfl,CX ⟨_,_,_,_,m H,_,_,_,_,m H,AC (MS (H.ok _ (.head _))) ?_⟩⟩;rintro _ w7 ⟨rfl,G⟩;obtain rfl:=G.symm;refine⟨_,rfl,m H,m H,AC (LH (H.ok _ (.head _))) ?_⟩;rintro _ w8 ⟨U,Y,ic,z,rfl,J,i⟩;have A:Hp f w w8 (AV U s X.T::.blk d (tC a M.length c X.T.next) 29::(.own 123 5 Y X.T.L.length ic (itsC (X.T.L.map AZ) z)::(Bh (X.T.L.map AZ) z++[tabA r b X]))):=(H.use1 i).perm (AL λff D n o p q=>by simp only[aC,p,o,n];omega);refine⟨_,_,_,rfl,m A,m A,AC (rgRoot_spec (B.at_ A) X.T.next) ?_⟩;rintro _ w9 ⟨rfl,i⟩;have K:=A.ext0 i;refine⟨_,rfl,m K,AC (rgItems_spec (B.at_ K) g hR) ?_⟩;rintro _ ab ⟨ja,jc,ts,rfl,hB,i⟩;have t:=K.ext0 i;have hA:=PH u J t m2 λx N=>.tail _ (t2 (aS _ N));refine⟨_,_,_,rfl,AC (rpSame_spec (l:=X.T.L.map rowI) hA.now (by rw[<- e];exact hB) (by rw[aQ];omega) (λx N=>by have:=(Dh (Dx u x N)).1;omega) jc) ?_⟩;rintro _ ac ⟨rfl,i⟩;refine⟨_,rfl,r,rfl,((t.ext0 i).perm (M:=[tabA r b X]++(AV U s X.T::.blk d (tC a M.length c X.T.next) 29::.own 123 5 Y X.T.L.length ic (itsC (X.T.L.map AZ) z)::Bh (X.T.L.map AZ) z)) (AL λff D n o p q=>by simp only[aC,p,o,n];omega)).BK⟩
end
noncomputable section
open Go Go.Vc Go.Nod
def pgs_w{f:LN0}{pa:OA}{pc:Nat}{P:List Sl.Recs}{w:World}(h:(pgsA f pa pc P).ok w):PgsW P:=by
 obtain⟨L,⟨bs,i,a,_⟩,_⟩:=Ep h;intro R e;obtain⟨k,d⟩:=ay e;have c:=(aA.1 d).1;have b:=a.rep k _ R (aB (by rw[a.lg];exact c)) d;have j:=b.ok.many;exact⟨b.sorted,λp g=>by have:=b.below p g;omega,b.small⟩
def Yr{f:LN0}{b:Nat}{X:Tab}{w:World}(h:(tabA f b X).ok w):PgsW X.P/\X.P.length<=4096:=by
 obtain⟨L,⟨z,c,d,e,g,i,_,a,rfl⟩,H,_⟩:=(BQ h:Hp f w w [tabA f b X]).unpack;exact⟨pgs_w (H.ok (pgsA e c d X.P) m4),a.st.len⟩
def WY{f:LN0}{b:Nat}{X:Tab}{w:World}(h:(tabA f b X).ok w):(CV X.P).length<=491520:=rowsT_len (Yr h).1 (Yr h).2
def docT:Tr:=⟨Ak 1 0 docL,3⟩
def docW:LB0:=[⟨#[97]⟩]
def docS:SM:=[(1,(922337203685477580,3689348814741910323)),(2,(1844674407370955161,2767011611056432742))]
def Gq:Fol.Rec:=⟨1,0,1,1,922337203685477580,3689348814741910323,⟨#[]⟩,[]⟩
def Gx:Fol.Rec:=⟨2,1,2,0,1844674407370955161,2767011611056432742,⟨#[120]⟩,[]⟩
def doc_names:FD (docT.L.map rowI)=docW:=by
 have e:(docT.L.map rowI).flatMap Ea=[⟨#[97]⟩]:=by
  simp[docT,docL,docA,docX,Ak,rowI,Ea]
 rw[FD,e];simp[uniq,addN,ET,docW]
def VC:tab0.words docT=(docW,0):=by
 rw[Tab.words,doc_names,Ii];show Fg [⟨#[97]⟩] []=_
 have e:addR [] ⟨#[97]⟩=(addW [] ⟨#[97]⟩,(posW [] none0:Int)+1,0):=by
  rw[addR,if_neg (not_not_intro Ub),if_neg (by rw[show cntW []=0 from rfl];omega)]
 rw[Fg,if_neg (by simp[hasW]),e,if_neg (by simp)];rfl
theorem VN:tab0.spans docT docO=docS:=by
 rw[Tab.spans,Tab.moved,if_neg (by simp[docO]),LM]
 show(match Eh [(1,false),(2,false),(2,true),(1,true)] []with
  |some s=>s
  |none=>_)=_
 have e:betP 0 4611686018427387904 4=some [922337203685477580,1844674407370955161,2767011611056432742,3689348814741910323]:=by
  rw[betP,if_pos (by unfold inS;omega)];rfl
 have a:Eh [(1,false),(2,false),(2,true),(1,true)] []=some docS:=by
  rw[Eh];show IR _ _ 5 0 0 0 []=_;rw[IR,if_pos (by decide),IR,if_pos (by decide),IR,if_pos (by decide),IR,if_pos (by decide),IR,if_neg (by decide)]
  show(match betP 0 4611686018427387904 4 with
   |none=>none
   |some b=>_)=_
  rw[e];rfl
 rw[a]
def docM:LB0:=[DX 3,Eo 0 ⟨#[97]⟩,DJ (Fol.BO Gq 0),DJ (Fol.BO Gx 0)]
def TT:Fol.D9 Gq:=of_decide_eq_true (by kernel_rfl)
def UT:Fol.D9 Gx:=of_decide_eq_true (by kernel_rfl)
def TU:Fol.pieces Gq=[Fol.BO Gq 0]:=by kernel_rfl
def SK:Fol.pieces Gx=[Fol.BO Gx 0]:=by kernel_rfl
def doc_recs:Ej docT docS docW=docM:=by
 have a:recP docS docW 1 (Au docT.L 0) docA.x=Gq:=by
  simp[recP,Gq,docS,docW,docA,docT,docL,Ak,Au,EM,sget,numW,hasW,posW,none0]
 have b:recP docS docW 2 (Au docT.L 1) docX.x=Gx:=by
  simp[recP,Gx,docS,docW,docX,docA,docT,docL,Ak,Au,EM,sget,numW,hasW,posW,none0]
 have c:JD docT docS docW 0=[DJ (Fol.BO Gq 0)]:=by
  show(Fol.out (recP docS docW 1 (Au docT.L 0) docA.x)).map DJ=_;rw[a,Fol.out,if_pos TT,TU];rfl
 have d:JD docT docS docW 1=[DJ (Fol.BO Gx 0)]:=by
  show(Fol.out (recP docS docW 2 (Au docT.L 1) docX.x)).map DJ=_;rw[b,Fol.out,if_pos UT,SK];rfl
 rw[Ej];show DX 3::(Dc 0 docW++EL docT docS docW 2)=_;rw[show(2:Nat)=1+1 from rfl,Gg,show(1:Nat)=0+1 from rfl,Gg,c,d];rfl
def UY:RM:=layR [] docM
def docK:LB0:=[⟨#[104]⟩,⟨#[110,0,0,0,1,0]⟩,⟨#[110,0,0,0,2,0]⟩,⟨#[119,0,1]⟩]
def doc_keys:UY.map (·.1)=[⟨#[104]⟩,⟨#[119,0,1]⟩,⟨#[110,0,0,0,1,0]⟩,⟨#[110,0,0,0,2,0]⟩]:=by kernel_rfl
def doc_sort:ET (UY.map (·.1))=docK:=by
 refine eY (le:=λx y=>x.data.toList<y.data.toList) (λa b _ _ c d=>absurd d (List.lt_asymm c)) (IY (Sz docM [] .nil)) (by unfold docK;decide) ((DT _).trans ?_);rw[doc_keys];exact .cons _ (dS (l₁:=[_]) (l₂:=[_,_]))
def JI:WSt:=(layK UY docK ⟨[],[],[]⟩).1
def pY:Tab:=⟨docT,docS,docW,JI.P,JI.Q⟩
def doc_wr:tab0.wr docT docO=(JI,0):=by
 rw[Tab.wr,VN,VC,CE,doc_recs,ED];show layK UY (ET (UY.map (·.1))) (FP UY (ET []) ⟨[],[],[]⟩)=_;rw[doc_sort,show ET []=[] by simp[ET]];have h:(layK UY docK ⟨[],[],[]⟩).2=0:=by kernel_rfl
 exact oP rfl h
def doc_do2:∃D,doP tab0 docO=(pY,1,D,0)/\D≠[]:=by
 have e:(tab0.T.edit docO)=(docT,1,0):=TD;refine⟨CB tab0.P JI.P JI.D,?_,?_⟩
 ·rw[doP,e,if_neg (by simp),VC,if_neg (by simp),doc_wr,if_neg (by simp),VN];rfl
 ·intro h;have a:=congrArg List.length h;rw[CB,Nw,(gY _ _).length_eq]at a;have b:((JI.D.map (·.1)).filterMap (DW [] JI.P)).length=4:=by kernel_rfl
  have a:((JI.D.map (·.1)).filterMap (DW [] JI.P)).length=0:=a;omega
def Xp:LdS:=⟨JI.P,JI.Q,3,docW,[(1,[Fol.BO Gq 0]),(2,[Fol.BO Gx 0])]⟩
def doc_take:Iy lds0 (CV JI.P)=some Xp:=by kernel_rfl
def doc_wok:WOk docW:=by
 refine⟨λs a=>.inr ?_,λj k s b c _=>?_,by simp[docW,none0],by simp[docW]⟩
 ·rw[aY.1 a];exact Ub
 ·have d:=(aA.1 b).1;have e:=(aA.1 c).1;simp only[docW,aK,dI]at d e;omega
def Zj{r:Fol.Rec}(h:Fol.D9 r)(e:Fol.pieces r=[Fol.BO r 0]):Fol.decR (sortL [Fol.BO r 0]) r:=⟨h,by rw[e,sortL,List.mergeSort_singleton]⟩
def doc_lev:Hg [Gw Gq,Gw Gx]=some [0,1]:=by
 rw[Hg,levP,if_neg,levP,if_neg,levP]
 ·rfl
 ·simp[badS,inS,Gw,Gq,Gx,popA]
 ·simp[badS,inS,Gw,Gq,Gx,popA]
theorem doc_tree:Zw docW docT [Gq,Gx]:=by
 refine⟨rfl,?_,?_,?_,?_,doc_lev⟩
 ·intro j r q a b
  match j,a,b with
  |0,a,b=>cases a;cases b;rfl
  |1,a,b=>cases a;cases b;rfl
 ·intro j r q a b
  match j,a,b with
  |0,a,b=>cases a;cases b;rfl
  |1,a,b=>cases a;cases b;rfl
 ·intro j r q a b
  match j,a,b with
  |0,a,b=>cases a;cases b;rfl
  |1,a,b=>cases a;cases b;rfl
 ·intro q c;rcases aP.1 c with rfl|c
  ·exact⟨λ_=>⟨by decide,by decide⟩,λp d=>(by cases d),.nil,by decide⟩
  ·rw[aY.1 c];exact⟨λh=>absurd h (by decide),λp d=>(by cases d),.nil,by decide⟩
theorem doc_load:∃F,rG (CV JI.P) Xp [Gq,Gx] F docT:=by
 obtain⟨F,c⟩:=doc_good;rw[TD]at c;refine⟨F,doc_take,doc_wok,⟨[1,2],[Gq,Gx],.refl _,by decide,rfl,λj i r a b=>?_,.refl _⟩,by simp[Gq,Gx],c,doc_tree,rfl⟩
 match j,a,b with
 |0,a,b=>cases a;cases b;exact Zj TT TU
 |1,a,b=>cases a;cases b;exact Zj UT SK
def KX(w:World):CP 12 #[] w λe w'=>e=eE0 (.bool true)/\Hp [] w w' []:=by
 apply Jaa;refine AC (PU w) ?_;rintro _ B ⟨b,f,rfl,C⟩;refine⟨_,rfl,_,UA Su,BC ?_⟩;refine AC (doc_spec B) ?_;rintro _ G ⟨y,rfl,H⟩;have J:=C.ext1 H;refine⟨_,_,_,rfl,?_⟩;have l:=J.AX;have K:Bi f G (sP0 y) 2 docL [(none,0,0),(none,0,0)]:=doc_arg l m1 (l.keep (.head _));have m:=l.ok (tabA f b tab0) (.head _);refine AC (SY m docO (sP0 y) 2 2 _ K om (by decide)) ?_;rintro _ w3 ⟨L,ca,cc,rfl,M⟩;have n:=l.use1 M;obtain⟨D,z,o⟩:=doc_do2;rw[z]at n;rw[z];refine⟨_,_,_,_,_,rfl,AC (IV (n.ok (tabA L b pY) (.head _))) ?_⟩;rintro _ N ⟨O,R,rfl,U⟩;have A:=n.ext1 U;obtain⟨F,X⟩:=doc_load;refine⟨_,_,_,rfl,AC (nLoad_spec X O _ R N (λW Z=>?_) rfl (by decide)) ?_⟩
 ·exact(A.ownA (.head _)).cells.chg Z (by simp)
 rintro _ w5 ⟨uf,p,rfl,H9⟩;have a:=A.ext1 H9;refine⟨_,_,rfl,?_⟩;refine AB (λ_=>AB (λ_=>AB (λ_=>AB (λ_=>⟨_,OQ Su,CX ?_⟩) (λh=>(h rfl).elim)) (λh=>(h rfl).elim)) (λh=>?_)) (λh=>(h rfl).elim);rotate_left
 ·have:=eH.2 o;exact(h (show(0:Int)<((D.length:Nat):Int) by omega)).elim
 obtain⟨Y,d⟩:∃Y:Tab,Y=⟨docT,spR [Gq,Gx],Xp.V,Xp.P,Xp.Q⟩:=⟨_,rfl⟩;have g:Y.T=⟨Ak 1 0 docL,3⟩:=by rw[d];rfl
 rw[<- d]at a;refine AC (Jo (a.ok (tabA uf p Y) (.head _))) ?_;rintro _ w6 ⟨g1,g2,gb,rfl,q⟩;have i:=a.use1 q;refine⟨_,rfl,_,OQ qO,CX (AC (Jo (i.ok (tabA g1 p Y) (.head _))) ?_)⟩;rintro _ w7 ⟨g3,g4,r,rfl,s⟩;have c:=i.use1 s;refine⟨_,rfl,AC (gLen_spec (c.ok (AV g4 r Y.T) m1)) ?_⟩;rintro _ w8 ⟨rfl,t⟩;obtain rfl:=t.symm;refine⟨_,rfl,AB (λ_=>AC (Jo (c.ok (tabA g3 p Y) (.head _))) ?_) (λh=>(h (by rw[g];rfl)).elim)⟩;rintro _ w9 ⟨g5,g6,u,rfl,x⟩;have j:=c.use1 x;refine⟨_,rfl,AC (MQ (j.ok (AV g6 u Y.T) m1)) ?_⟩;rintro _ aa ⟨rfl,t⟩;obtain rfl:=t.symm;refine⟨_,rfl,?_,j.done⟩;rw[g];rfl
end
noncomputable section
open Go Go.Vc Go.Nod Classical
variable{f:List Nat}{w w':World}{a:Option Addr}{c:Nat}{M:List DR}{L:List Asn}{nx:Int}
def TrA.turn{S S' B:LN0}(h:TrA S w a c M)(e:Chg B w w')(j:∀k∈B,k∈S)(g:∀k∈S',k∈S):TrA S' w' a c M:=by
 have i:∀{W:World},Chg S' w' W->Chg S w W:=λb=>e.trans b j λk d=>.inl (g k d);exact⟨λW b=>h.rd W (i b),λp l W b=>h.att p l W (i b),h.cap,λk d=>fE (h.lt k (g k d)) e.size⟩
def IX{B:LN0}{w0:World}{x:Asn}(H:Hp B w0 w (x::L)){S:LN0}(m:∀k∈S,k∈feet L){W:World}(h:Chg S w W):x.ok W:=by
 have b:=H.ok x (.head _);refine Asn.QU b λk e=>h.2.2.2.2 k (Asn.Iw b k e) λg=>?_;obtain⟨y,i,d⟩:=Ap.1 (m k g);exact(bH.1 H.sep).1 y i k e d
def YB{b h n:Nat}{X:Tab}{cs cs':LV}{T d:TypeId}(e:tabA f b X∈L)(i:Asn.blk h cs T∈L)(j:Asn.blk n cs' d∈L):∀k∈f++[h,n],k∈feet L:=λk l=>by
 rcases aW.1 l with g|g
 ·exact Ap.2 ⟨_,e,g⟩
 ·rcases aP.1 g with rfl|g
  ·exact Ap.2 ⟨_,i,.head _⟩
  ·rw[aY.1 g];exact Ap.2 ⟨_,j,.head _⟩
def edit_bad{T:Tr}{o:OpP}(h:(T.edit o).2.2≠0):(T.edit o).1=T/\(T.edit o).2.1=0:=by
 have b:∀l,(T.load l).2.2≠0->(T.load l).1=T/\(T.load l).2.1=0:=λl=>by
  unfold Tr.load;repeat' split
  all_goals simp
 have d:∀i a l,(T.insert i a l).2.2≠0->(T.insert i a l).1=T/\(T.insert i a l).2.1=0:=λi a l=>by
  unfold Tr.insert;repeat' split
  all_goals simp
 have e:∀i,(T.delete i).2≠0->(T.delete i).1=T:=λi=>by
  unfold Tr.delete;repeat' split
  all_goals simp
 have g:∀i a l,(T.move i a l).2≠0->(T.move i a l).1=T:=λi a l=>by
  unfold Tr.move;repeat' split
  all_goals simp
 have j:∀i a,(T.BX i a).2≠0->(T.BX i a).1=T:=λi a=>by
  unfold Tr.BX;repeat' split
  all_goals simp
 have m:∀i a,(T.Bg i a).2≠0->(T.Bg i a).1=T:=λi a=>by
  unfold Tr.Bg;repeat' split
  all_goals simp
 have n:∀i a,(T.Bj i a).2≠0->(T.Bj i a).1=T:=λi a=>by
  unfold Tr.Bj;repeat' split
  all_goals simp
 unfold Tr.edit at h⊢
 repeat' split at h
 all_goals simp_all
def FitO(os:List NOp):Prop:=∀q∈os,(∀x∈q.o.l,FitX x.x/\x.level<=9223372036854775807)/\q.o.name.size<=2000000/\q.o.text.size<=2000000
def TrA.atS{U0:LN0}(h:TrA (U0++f) w a c M)(H:Hp f w w' L):TrA (U0++feet L) w' a c M:=by
 have j:∀{W:World},Chg (U0++feet L) w' W->Chg (U0++f) w W:=λb=>H.chg.trans b (λk d=>aO _ d) λk d=>(aW.1 d).elim (λg=>.inl (aS _ g)) λg=>by
  obtain⟨x,e,i⟩:=Ap.1 g;exact(H.own x e k i).imp (aO _) id
 refine⟨λW b=>h.rd W (j b),λp l W b=>h.att p l W (j b),h.cap,λk d=>(aW.1 d).elim (λg=>fE (h.lt k (aS _ g)) H.chg.size) λg=>?_⟩;obtain⟨x,e,i⟩:=Ap.1 g;exact Asn.Iw (H.ok x e) k i
def inS{U0 A B:LN0}(h:∀k∈A,k∈B):∀k∈U0++A,k∈U0++B:=λk b=>(aW.1 b).elim (aS _) λg=>aO _ (h k g)
def swS{U0 A B:LN0}:∀k∈U0++(A++B),k∈A++(U0++B):=λk b=>by simp only[aW]at b⊢;exact b.elim (λh=>.inr (.inl h)) λh=>h.imp id .inr
def plays_spec{K:Tab->Prop}(hK:∀{f:LN0}{b:Nat}{X:Tab}{o:OpP}{w:World},K X->(tabA f b (doP X o).1).ok w->K (doP X o).1){U0:LN0}{w0:World}{b:Nat}{X:Tab}{Z:List Asn}{sa:OA}{os:List NOp}(H0:Hp [] w0 w (tabA f b X::Z))(hZ:∀k∈U0,k∈feet Z)(hX:Fj X/\K X)(hT:TrA (U0++f) w a c M)(e:rws M=X.T.L)(hs:NScr w0 sa os)(hf:FitO os)(sc:Nat):
  CP 13 #[pT0 b,tV a M.length c X.T.next,.slice sa os.length sc] w λe w'=>∃f' X' a' c' M',e=eE0 (.tuple #[tV a' M'.length c' X'.T.next,.bool true])/\(Fj X'/\K X')/\rws M'=X'.T.L/\TrA (U0++f') w' a' c' M'/\Hp f w w' [tabA f' b X']:=by
 apply Jdb;have cb:=hs.len;have ht:=H0.ok _ (.head _);intro h w1 bj n w2 bk;have Hs:Hp f w w [tabA f b X]:=BQ ht;have H:=(Hs.new (cs:=tC a M.length c X.T.next) EQ4 bj).new (cs:=tC none 0 0 0) EQ4 bk;have bl:=WY ht;refine AC (IV (H.ok _ m2)) ?_;rintro _ w3 ⟨ra,rc,rfl,p⟩;replace H:=H.ext1 p;refine⟨_,_,_,rfl,AC (F7 ra rc _ w3 om (H.ownA (.head _)).cells) ?_⟩;rintro _ w4 ⟨pa,pc,rfl,p⟩;replace H:=H.ext1 p;have foot:∀{f:LN0}{X:Tab},(tabA f b X).foot=f:=rfl;have cd:∀{r:LN0}{i:Tab}{cs aw:LV}{T T':TypeId},feet [tabA r b i,.blk h cs T,.blk n aw T']=r++[h,n]:=λ{r i cs aw T T'}=>rfl;refine⟨_,_,_,rfl,LoopP.mk (λm s w'=>∃(k:Nat)(r:LN0)(i:Tab)(A:OA)(t:Nat)(u:List DR)(Y:OA)(lc:Nat),m=os.length-k/\k<=os.length/\s=((Y,(CV i.P).length,lc),(k:Int))/\(Fj i/\K i)/\rws u=i.T.L/\TrA (U0++(r++[h,n])) w' A t u/\(∀W,Chg (r++[h,n]) w' W->Cells W Y (cgsC (CV i.P)))/\Hp f w w' [tabA r b i,.blk h (tC A u.length t i.T.next) 29,.blk n (tC none 0 0 0) 29]) os.length ⟨0,f,X,a,c,M,pa,pc,rfl,om,rfl,hX,e,?_,λW hW=>?_,?_⟩ ?_⟩
 ·have h1:=hT.atS H;exact h1.turn (Chg.refl _ _) (λk z=>z) (inS (YB m4 m3 m2))
 ·exact Own.cells (IX H (YB m3 m2 m1) hW)
 ·exact H.drop.drop.perm (AL λff gg h0 hc ha bm=>by simp only[hc,h0];omega)
 rintro m s w5 next ⟨k,r,i,A,t,u,Y,lc,rfl,z,rfl,hX,e,hT,hC,H⟩ ak
 have al:=H.ok _ (.head _);have bl:=WY al;obtain⟨F,hG⟩:=Nv al;obtain⟨g,bo,ce⟩:=SE hG e;have a0:∀q∈u,q.1.x.attrs.length<=1000:=λq hq=>by have:=bo q hq;omega
 refine AB (λh1=>?_) (λh1=>?_);rotate_left
 ·--the end
  have Hd:=H.drew;refine⟨_,_,_,_,Hd.loA bT2,AC (IV (Hd.ok _ (.head _))) ?_⟩;rintro _ w6 ⟨ra,rc,rfl,p⟩;have H2:=Hd.ext1 p;refine⟨_,_,_,rfl,H2.loA bT2,AC (F7 ra rc _ w6 om (H2.ownA (.head _)).cells) ?_⟩;rintro _ w7 ⟨pa,pc,rfl,a3⟩;have H3:=H2.ext1 a3;have a4:Chg [] w5 w7:=(((Hp.start w5).drew.ext0 p.done).ext0 a3.done).chg;refine⟨_,_,_,rfl,H3.loA bT2,AC (Rt Y lc _ pa pc _ om w7 (hC w7 (a4.more (by simp))) (H3.ownA (.head _)).cells) ?_⟩;rintro _ w8 ⟨rfl,p⟩;have H4:=H3.ext0 p;refine⟨_,rfl,H4.loA bT2,?_⟩;refine giv H4.drop.drop.Am rfl λw9 hc H5=>⟨_,_,_,_,H5.loA bT2,r,i,A,t,u,by rw[decide_eq_true rfl],hX,e,?_,H5.drop.BK (L:=[_])⟩;have bp:=(hT.turn (a4.more (T:=[]) (by simp)) (by simp) (λk z=>z)).go p;exact bp.turn hc (by simp) (inS λk z=>aS _ z)
 obtain⟨q,hq⟩:∃q,os[k]? =some q:=⟨_,aB om⟩;have G:=aG hq;obtain⟨bq,bv⟩:=hf q G;obtain⟨ad,bw,bx⟩:=hs.ld (H0.use1 H).chg hq;refine JoinP.mk (λs w'=>∃(r:LN0)(i:Tab)(A:OA)(t:Nat)(u:List DR)(Y:OA)(lc:Nat),s=(Y,(CV i.P).length,lc)/\(Fj i/\K i)/\rws u=i.T.L/\TrA (U0++(r++[h,n])) w' A t u/\(∀W,Chg (r++[h,n]) w' W->Cells W Y (cgsC (CV i.P)))/\Hp f w w' [tabA r b i,.blk h (tC A u.length t i.T.next) 29,.blk n (tC none 0 0 0) 29]) ?_ ?_
 ·rintro s w6 ⟨r,i,A,t,u,Y,lc,rfl,g1,g2,g3,g4,g5⟩;exact⟨iR,ak (os.length-(k+1)) _ _ om ⟨k+1,r,i,A,t,u,Y,lc,rfl,om,rfl,g1,g2,g3,g4,g5⟩⟩
 intro J hJ;refine AA bw ⟨⟨om,h1⟩,_,_,_,_,_,_,_,_,_,bx,λj w6 b0=>?_⟩;have R:=Hp.Cb H.std;have R2:=R.nw b0;refine Hp.sA R2 UX (cs':=nopC q) λw7 R3=>?_
 have a6:∀{w':World}{L':List Asn},Hp f w w' L'->Bi (U0++feet L') w' q.a q.o.l.length q.o.l q.ss:=λp=>(hs.it q G).go (H0.use1 p) λk z=>(aW.1 z).elim (λh=>by
  obtain⟨x,hx,an⟩:=Ap.1 (hZ k h);exact Ap.2 ⟨x,aO _ hx,an⟩) λz=>by
  obtain⟨x,hx,an⟩:=Ap.1 z;exact Ap.2 ⟨x,aS _ hx,an⟩
 refine⟨_,_,_,_,R3.loA bT2,_,_,_,_,_,_,_,_,_,R3.loA UX,AC (rnDo_spec (TrA.atS (f:=r++[h,n]) hT R3) g a0 q.o q.a _ q.c q.ss (a6 (H.Ff R3)) bq (hs.lens q G) bv) ?_⟩;rintro _ w8 ⟨a2,B,M2,rfl,e2,ac,p⟩;have eX:(⟨rws u,i.T.next⟩:Tr)=i.T:=by rw[e]
 rw[eX]at e2⊢;have R4:=R3.ext0 p;refine⟨_,_,_,_,_,_,rfl,λs w9 a7=>?_⟩;have b3:=(Hp.start w8).new (cs:=tC none 0 0 0) EQ4 a7;have ao:=ac.mv b3 (S:=[s]) (by simp[feet,Asn.foot]);refine giv (R4.new (cs:=tC none 0 0 0) EQ4 a7) rfl λa8 a9 R6=>?_;replace ao:=ao.turn (S':=U0++([s]++feet [.blk j (nopC q) 36,tabA r b i,.blk h (tC A u.length t i.T.next) 29,.blk n (tC none 0 0 0) 29])) a9 (λk z=>aS _ z) swS;have Q:=Hp.Cb R6.std;refine⟨_,_,_,_,_,_,_,_,_,R6.loA UX,AC (Xk q.o q.a q.o.l.length q.c _) ?_⟩;rintro _ b4 ⟨rfl,p⟩;replace Q:=Q.ext0 p
 have hA:Bi r b4 q.a q.o.l.length q.o.l q.ss:=by
  have h2:=a6 (H.Ff (R6.Ff Q));exact⟨λW hW=>h2.rd W (hW.more λk z=>aO _ (Ap.2 ⟨tabA r b i,.tail _ m1,z⟩)),h2.len,h2.sls,h2.small⟩
 refine⟨_,_,_,_,_,_,_,_,_,rfl,AC (SY (Q.ok (tabA r b i) m2) q.o q.a _ q.c q.ss hA (hs.lens q G) (hs.txt q G)) ?_⟩;obtain⟨F2,ap⟩:=V3 (Q.ok (tabA r b i) m2) q.o q.a _ q.c q.ss hA (hs.lens q G) (hs.txt q G);rintro _ b5 ⟨f2,ca,cc,rfl,p⟩;have Q2:=(Q.Am).use1 p;have aa:=Q2.ok (tabA f2 b (doP i q.o).1) (.head _);obtain⟨t1,t2,t3,t4,t5⟩:=tab_do hX.1 al aa;replace t1:Fj (doP i q.o).1/\K (doP i q.o).1:=⟨t1,hK hX.2 aa⟩;have cases:=XC (o:=q.o) hX.1 hG ap;obtain⟨C,ab⟩:∃C,C=(doP i q.o).1:=⟨_,rfl⟩;obtain⟨D,ba⟩:∃D,D=(doP i q.o).2.2.1:=⟨_,rfl⟩;obtain⟨O,ac⟩:∃O,O=(i.T.edit q.o).1:=⟨_,rfl⟩;rw[<- ab]at Q2 aa t1 t4;rw[<- ba]at Q2 t2 t3 t4 t5⊢;rw[<- ac]at e2 ap cases R6 Q2;obtain⟨g2,bb,bc⟩:=SE ap e2;refine⟨_,_,_,_,_,rfl,?_⟩;have b6:∀{w':World}{a':OA}{c':Nat}{N:List DR}{ae:OA}{Z':List Asn},rws N=C.T.L->Hp (feet [.blk s (tC a2 M2.length B O.next) 29,.blk j (nopC q) 36,tabA r b i,.blk h (tC A u.length t i.T.next) 29,.blk n (tC none 0 0 0) 29]) a8 w' (tabA f2 b C::.blk h (tC a' N.length c' C.T.next) 29::.blk n (tC none 0 0 0) 29::Z')->TrA (U0++(f2++[h,n])) w' a' c' N->(∀W,Chg (f2++[h,n]) w' W->Cells W ae (cgsC (CV C.P)))->∀aq,J (ae,(CV C.P).length,aq) w':=λ{w' a' c' N ae Z'} g2 P g3 g4 aq=>hJ _ _ ⟨f2,C,a',c',N,ae,aq,rfl,t1,g2,g3,g4,(H.Ff (R6.Ff P)).BK (L:=[_,_,_])⟩;have mono:∀{w':World}{S S':LN0}{a':OA}{c':Nat}{N:List DR},(∀k∈S',k∈S)->TrA S w' a' c' N->TrA S' w' a' c' N:=λm h=>h.turn (Chg.refl _ _) (λk z=>z) m
 have same:C=i->∀{w':World},Hp (feet [.blk s (tC a2 M2.length B O.next) 29,.blk j (nopC q) 36,tabA r b i,.blk h (tC A u.length t i.T.next) 29,.blk n (tC none 0 0 0) 29]) a8 w' (tabA f2 b C::.own 55 4 ca D.length cc (cgsC D)::.blk s (tC a2 M2.length B O.next) 29::.blk j (nopC q) 36::.blk h (tC A u.length t i.T.next) 29::[.blk n (tC none 0 0 0) 29])->J (Y,(CV i.P).length,lc) w':=λaf {w'} P=>by
  have P2:Hp f w w' [tabA f2 b C,.blk h (tC A u.length t i.T.next) 29,.blk n (tC none 0 0 0) 29]:=(((H.Ff (R6.Ff P)).del1).del1).del1;have fe:=YB (L:=tabA f2 b C::.own 55 4 ca D.length cc (cgsC D)::.blk s (tC a2 M2.length B O.next) 29::.blk j (nopC q) 36::.blk h (tC A u.length t i.T.next) 29::[.blk n (tC none 0 0 0) 29]) (.head _) m4 m5;refine hJ _ _ ⟨f2,C,A,t,u,Y,lc,by rw[af],t1,by rw[af];exact e,mono (inS fe) (TrA.atS (f:=r++[h,n]) hT (R6.Ff P)),λW hW=>?_,by rw[af]at P2⊢;exact P2⟩;rw[af];exact hC W ((R6.Ff P).chgT (hW.more fe))
 have y:=TrA.atS (f:=feet [.blk s (tC a2 M2.length B O.next) 29,.blk j (nopC q) 36,tabA r b i,.blk h (tC A u.length t i.T.next) 29,.blk n (tC none 0 0 0) 29]) ao Q2
 have bd:((doP i q.o).2.1=(i.T.edit q.o).2.1/\(doP i q.o).2.2.2=(i.T.edit q.o).2.2/\C.T=O/\((i.T.edit q.o).2.2≠0->D=[])/\((doP i q.o).2.2.2=94->C=i))\/((doP i q.o).2.2.2=94/\C=i/\Xu O):=by
  rcases cases with⟨t,B⟩|⟨t,B,c3⟩|⟨t,B,c3,c4⟩
  ·obtain⟨b1,b2⟩:=edit_bad t;exact .inl ⟨by rw[B,b2],by rw[B],by rw[ab,B,ac,b1],λ_=>by rw[ba,B],λ_=>by rw[ab,B]⟩
  ·exact .inr ⟨by rw[B],by rw[ab,B],c3⟩
  ·exact .inl ⟨c4,by rw[B,t],by rw[ab,c3],λh=>(h t).elim,λh=>by omega⟩
 refine JoinP.mk (λ_ w'=>((doP i q.o).2.1=(i.T.edit q.o).2.1/\(doP i q.o).2.2.2=(i.T.edit q.o).2.2/\C.T=O/\((i.T.edit q.o).2.2≠0->D=[]))/\Hp [] b5 w' []) ?_ ?_;rotate_left
 ·intro J1 bh;refine AB (λar=>⟨_,_,_,_,Q2.loA bT2,AC (rnWide_spec y g2.len (λq hq=>by have:=bb q hq;omega) bc) ?_⟩) (λar=>?_)
  ·rintro _ b7 ⟨rfl,p⟩;have eT:(⟨rws M2,O.next⟩:Tr)=O:=by rw[e2]
   rw[eT];rcases bd with⟨o1,o2,o3,o4,o5⟩|⟨_,o2,o3⟩
   ·exact⟨_,rfl,Dp (λ_=>same (o5 ar) (Q2.ext0 p)) (λ_=>bh _ _ ⟨⟨o1,o2,o3,o4⟩,p⟩)⟩
   ·exact⟨_,rfl,Dp (λ_=>same o2 (Q2.ext0 p)) (λh=>by rw[decide_eq_true o3]at h;cases h)⟩
  ·rcases bd with⟨o1,o2,o3,o4,o5⟩|⟨o1,_⟩
   ·exact bh _ _ ⟨⟨o1,o2,o3,o4⟩,Hp.start _⟩
   ·exact(ar o1).elim
 rintro _ b7 ⟨⟨o1,o2,o3,o4⟩,p⟩;replace y:=y.go p;have P:=Q2.ext0 p;refine⟨_,_,_,_,P.loA bT2,giv P.Ij rfl λag hc P2=>?_⟩;replace y:=y.turn hc (λk z=>by rw[aY.1 z];exact aO _ (Ap.2 ⟨_,.tail _ m3,.head _⟩)) (inS (YB (.head _) m4 m5));have mo:∀{W:World},Chg [] ag W->Cells W ca (cgsC D):=λhW=>(P2.ownA m2).cells.chg hW (by simp);refine JoinP.mk (λam w'=>am=false/\Hp [] ag w' []) ?_ ?_;rotate_left
 ·intro J2 b8
  have ah:C7 16 [S ca D.length cc] ag λc a b d=>C2 34 [S c a b] d λh d=>J2 (!h) d:=by
   refine AC (F7 ca cc D ag om (mo (Chg.refl _ _))) ?_;rintro _ av ⟨pa,pc,rfl,p⟩;refine⟨_,_,_,rfl,AC (rise_spec pa pc D av om (p.ownA (.head _)).cells t2) ?_⟩;rintro _ b9 ⟨rfl,H2⟩;exact⟨_,rfl,b8 _ _ ⟨rfl,p.drop.ext0 H2⟩⟩
  refine AQ (λh=>(h o1).elim) (λ_=>AQ (λh=>(h o2.symm).elim) (λ_=>AQ (λh3=>AB (λh4=>?_) (λ_=>ah)) (λ_=>ah)));rw[o4 h3]at h4;simp at h4
 rintro am av ⟨rfl,p⟩;have P3:=P2.ext0 p;replace y:=y.go p;refine BC (AC (F7 ca cc D av om (mo p.chg)) ?_);rintro _ b9 ⟨pa,pc,rfl,p⟩;have P4:=P3.ext1 p;replace y:=y.go p;have U:=R6.Ff P4;refine⟨_,_,_,rfl,AC (rchanged_spec (λW hW=>hC W (U.chgT hW)) (λk z=>?_) om lc (P4.ownA (.head _)).cells om pc) ?_⟩
 ·obtain⟨x,hx,hf⟩:=Ap.1 z;exact Asn.Iw (P4.ok x hx) k hf
 rintro _ cf ⟨a5,c5,rfl,p,bi⟩;rw[t4]at bi⊢
 refine⟨_,_,_,rfl,b6 (N:=M2) (e2.trans (by rw[o3])) (Z':=[.own 79 4 pa D.length pc (cgsC D),.own 55 4 ca D.length cc (cgsC D),.blk s (tC a2 M2.length B O.next) 29,.blk j (nopC q) 36]) ((P4.ext0 p).perm (by
  rw[o3];exact AL λff gg h0 hc ha bm=>by simp only[hc,h0];omega)) (y.go p) (λW hW=>bi W (hW.more (YB m2 m1 m6))) _⟩
end
open Go Go.Vc Go.Nod Go.ChangeAt
def own_:ownKnob PP.godebug=none:=by kernel_rfl
def laid_:laidOutB PP=true:=by kernel_rfl
def und4:PP.underlying 4=some .bool:=by kernel_rfl
theorem Np{H:Type}:∀l:List (DataW H),Rows.uptoBulkAll l=(l.map Rows.uptoBulk).sum
 | []=>rfl
 |d::r=>by rw[Rows.uptoBulkAll,Np r];rfl
theorem bulk_ok{H:Type}:Bulk (H:=H) Rows.uptoBulk:=by
 refine⟨λd=>?_,λb=>?_,λl s=>?_,λl=>?_⟩
 ·cases d with
  |lit l=>cases l<;>simp[Rows.uptoBulk]
  |_=>simp[Rows.uptoBulk]
 ·simp[Rows.uptoBulk]
 ·rw[Rows.uptoBulk,Np];omega
 ·rw[Rows.uptoBulk,Np];omega
def bulk_small{H:Type}(ds:List (DataW H))(h:Rows.uptoSmall H ds=true):(ds.map Rows.uptoBulk).sum<=1048576:=by
 rw[<- Np];exact of_decide_eq_true h
def ArgU(W:World)(n:Nat)(e:TypeId)(K:LV->Nat->Prop):Prop:=∃(a:OA)(cap:Nat)(els:List (LV×Nat)),els.length<=cap/\cap<=maxLen/\(a=none->els=[])/\(∀x∈els,RdW PP W n e (λcs m=>x.1=cs/\m<=x.2))/\Cells W a (els.map (·.1)).flatten/\K [.slice a els.length cap] ((els.map λx=>x.2+1).sum)
def rdu_at(W:World)(n:Nat)(K:LV->Nat->Prop):RdW PP W (n+2) 142 K=(∃s t:ByteArray,K (.string s::.string t::[]) (s.size+(t.size+0))):=by kernel_rfl
def rdu_it(W:World)(n:Nat)(K:LV->Nat->Prop):RdW PP W (n+4) 123 K=(∃i,inR .i64 i/\∃j,inR .i64 j/\∃s t:ByteArray,ArgU W (n+2) 142 λx m=>K (I i::I j::.string s::.string t::(x++[])) (0+(0+(s.size+(t.size+(m+0)))))):=by kernel_rfl
def rdu_op(W:World)(n:Nat)(K:LV->Nat->Prop):RdW PP W (n+6) 36 K=(∃i,inR .i64 i/\∃j,inR .i64 j/\∃k,inR .i64 k/\∃l,inR .i64 l/\∃s t:ByteArray,ArgU W (n+4) 123 λx m=>K (I i::I j::I k::I l::.string s::.string t::(x++[])) (0+(0+(0+(0+(s.size+(t.size+(m+0)))))))):=by kernel_rfl
theorem elsU{α:Type}{f:α->LV}{g:α->Nat}{Q:α->Prop}:∀(a:List (LV×Nat)),(∀x∈a,∃p,Q p/\x.1=f p/\g p<=x.2)->∃l:List α,a.map (·.1)=l.map f/\l.length=a.length/\(∀p∈l,Q p/\g p<=(a.map λx=>x.2+1).sum)/\l.length<=(a.map λx=>x.2+1).sum
 | [],_=>⟨[],rfl,rfl,by simp,by simp⟩
 |x::r,h=>by
  obtain⟨p,c,e,n⟩:=h x (.head _);obtain⟨l,d,i,j,o⟩:=elsU r λy m=>h y (.tail _ m);refine⟨p::l,by simp[d,e],by simp[i],λq b=>?_,?_⟩
  ·rw[aj,iD];rcases aP.1 b with rfl|b
   ·exact⟨c,om⟩
   ·have:=j q b;exact⟨this.1,om⟩
  ·rw[aj,iD,aK];omega
def argU_at{W:World}{n:Nat}{K:LV->Nat->Prop}(h:ArgU W (n+2) 142 K):∃(a:OA)(c:Nat)(l:List At)(m:Nat),Cells W a (atC l)/\l.length<=m/\(∀p∈l,p.1.size<=m/\p.2.size<=m)/\K [.slice a l.length c] m:=by
 obtain⟨a,d,e,B,_,C,b,i,j⟩:=h
 obtain⟨l,o,q,r,u⟩:=elsU (f:=λp:At=>[Value.string p.1,.string p.2]) (g:=λp=>p.1.size+p.2.size) (Q:=λ_=>True) e λx w=>by
  have:=b x w;rw[rdu_at]at this;obtain⟨s,t,y,z⟩:=this;exact⟨(s,t),trivial,y,z⟩
 rw[o,<- List.flatMap_def]at i;exact⟨a,d,l,_,i,u,λp A=>by have:=(r p A).2;omega,by rw[q];exact j⟩
theorem Va:∀l:List (It×Sl3×Nat),(l.map λp=>itC p.1 p.2.1).flatten=itsC (l.map (·.1)) (l.map (·.2.1))
 | []=>rfl
 |p::r=>by
  have a:=Va r;rw[itsC]at a⊢;rw[aj,lm,a];rfl
def FitM(m:Nat)(x:It):Prop:=x.x.name.size<=m/\x.x.text.size<=m/\(∀a∈x.x.attrs,a.1.size<=m/\a.2.size<=m)/\x.level<=9223372036854775807
def argU_it{W:World}{n:Nat}{K:LV->Nat->Prop}(h:ArgU W (n+4) 123 K):∃(a:OA)(c:Nat)(l:List It)(ss:List Sl3)(m:Nat),(m<=2000000->Bi [] W a l.length l ss)/\l.length<=m/\(∀x∈l,FitM m x)/\K [.slice a l.length c] m:=by
 obtain⟨a,w,y,Y,C,Z,e,r,J⟩:=h
 obtain⟨l,L,M,u,N⟩:=elsU (f:=λp:It×Sl3×Nat=>itC p.1 p.2.1) (g:=λp=>p.2.2) (Q:=λp=>AtR W p.2.1.1 p.2.1.2.1 p.1.x.attrs/\p.2.1.2.1<=p.2.2/\FitM p.2.2 p.1) y λx d=>by
  have:=e x d;rw[rdu_it]at this;obtain⟨i,O,j,_,s,t,h⟩:=this;obtain⟨a,c,l,m,r,hl,b,z,R⟩:=argU_at h;exact⟨(⟨i,⟨j,s,t,l⟩⟩,(a,l.length,c),x.2),⟨⟨rfl,r⟩,by dsimp only;omega,by dsimp only;omega,by dsimp only;omega,λq T=>by have:=b q T;dsimp only;omega,(DC.1 O).2⟩,z,aZ _⟩
 rw[L,Va]at r;refine⟨a,w,l.map (·.1),l.map (·.2.1),_,λR=>?_,by rw[aQ];exact N,λx d=>?_,by rw[aQ,M];exact J⟩
 ·refine⟨λW' D=>⟨rfl,by simp,r.chg D (by simp),λk x s d o=>?_⟩,by rw[aQ];simp only[maxLen];omega,λs o=>?_,λx d=>?_⟩
  ·rw[au]at d o;obtain⟨p,b,rfl⟩:=cZ.1 d;rw[b]at o;cases o;exact(u p (aG b)).1.1.chg D (by simp)
  ·obtain⟨p,b,rfl⟩:=aT.1 o;obtain⟨⟨_,F,_⟩,G⟩:=u p b;simp only[maxLen];omega
  ·obtain⟨p,b,rfl⟩:=aT.1 d;obtain⟨⟨_,F,U,X,A,H⟩,G⟩:=u p b;exact⟨by simp only[maxLen];omega,by simp only[maxLen];omega,λa B=>by have:=A a B;simp only[maxLen];omega⟩
 ·obtain⟨p,b,rfl⟩:=aT.1 d;obtain⟨⟨_,F,U,X,A,H⟩,G⟩:=u p b;exact⟨om,om,λa B=>by have:=A a B;omega,H⟩
def OpOk(W:World)(m:Nat)(q:NOp):Prop:=(m<=2000000->Bi [] W q.a q.o.l.length q.o.l q.ss)/\q.o.l.length<=m/\(∀x∈q.o.l,FitM m x)/\q.o.name.size<=m/\q.o.text.size<=m
def qE{W:World}{n:Nat}{K:LV->Nat->Prop}(h:RdW PP W (n+6) 36 K):∃(q:NOp)(m:Nat),OpOk W m q/\K (nopC q) m:=by
 rw[rdu_op]at h;obtain⟨i,_,j,_,k,_,n,_,s,t,h⟩:=h;obtain⟨a,c,l,b,m,d,u,e,f⟩:=argU_it h;refine⟨⟨⟨i,j,k,n,s,t,l⟩,a,c,b⟩,_,⟨λw=>d om,by dsimp only;omega,λx g=>?_,by dsimp only;omega,by dsimp only;omega⟩,f⟩
 ·obtain⟨y,z,o,p⟩:=e x g;exact⟨om,om,λa r=>by have:=o a r;omega,p⟩
def Kt{W:World}{m:Nat}{q:NOp}(h:OpOk W m q)(b:m<=2000000):Bi [] W q.a q.o.l.length q.o.l q.ss/\q.o.l.length<=140737488355328/\q.o.text.size<=maxLen/\(∀x∈q.o.l,FitX x.x/\x.level<=9223372036854775807)/\q.o.name.size<=2000000/\q.o.text.size<=2000000:=by
 obtain⟨c,j,d,n,p⟩:=h;refine⟨c b,om,by simp only[maxLen];omega,λx e=>?_,om,om⟩;obtain⟨r,s,f,g⟩:=d x e;exact⟨⟨om,om,λa i=>by have:=f a i;omega⟩,g⟩
def argU_nscr{W:World}{K:LV->Nat->Prop}(h:ArgU W 6 36 K):∃(a:OA)(c:Nat)(e:List NOp)(m:Nat),(m<=2000000->NScr W a e/\FitO e)/\K [.slice a e.length c] m:=by
 obtain⟨a,i,j,o,_,r,d,s,t⟩:=h
 obtain⟨l,u,w,y,H⟩:=elsU (f:=λp:NOp×Nat=>nopC p.1) (g:=λp=>p.2) (Q:=λp=>OpOk W p.2 p.1) j λx n=>by
  obtain⟨q,m,o,r,z⟩:=qE (d x n);exact⟨(q,m),o,r,z⟩
 refine⟨a,i,l.map (·.1),_,λJ=>?_,by rw[aQ,w];exact t⟩
 have b:∀q∈l.map (·.1),OpOk W 2000000 q:=λq b=>by
  obtain⟨p,A,rfl⟩:=aT.1 b;obtain⟨⟨B,L,C,M,N⟩,O⟩:=y p A
  exact⟨λ_=>B om,om,λx n=>by
   obtain⟨R,T,D,F⟩:=C x n;exact⟨om,om,λa G=>by have:=D a G;omega,F⟩,om,om⟩
 refine⟨⟨?_,λq h=>(Kt (b q h) (aZ _)).1,by rw[aQ];omega,λq h=>(Kt (b q h) (aZ _)).2.1,λq h=>(Kt (b q h) (aZ _)).2.2.1⟩,λq h=>(Kt (b q h) (aZ _)).2.2.2⟩;rw[u]at s;rw[MJ,List.flatMap_def,dD];exact s
noncomputable section
variable{f:List Nat}{w w':World}{a:Option Addr}{c:Nat}{M:List DR}{L:List Asn}{nx:Int}
def rgNew_spec(w:World):CP 14 #[] w λe w'=>e=eE0 (tV none 0 0 1)/\Hp [] w w' []:=by
 apply Jdu;intro b g d;exact giv ((Hp.start w).new (cs:=tC none 0 0 0) EQ4 d) rfl λh i H=>⟨_,_,_,_,H.loA bT2,rfl,H.done⟩
def tra0(H:Hp [] w w' L):TrA (feet L) w' none 0 []:=⟨λW i j v b=>by simp[drsC]at b,λp d=>(by cases d),aZ _,λk e=>by
 obtain⟨x,g,h⟩:=Ap.1 e;exact Asn.Iw (H.ok x g) k h⟩
def plays0{K:Tab->Prop}(m:∀{f:LN0}{b:Nat}{X:Tab}{o:OpP}{w:World},K X->(tabA f b (doP X o).1).ok w->K (doP X o).1)(n:K tab0){w0 w:World}{b:Nat}{Z:List Asn}{i:OA}{g:List NOp}(H:Hp [] w0 w (tabA f b tab0::Z))(p:NScr w0 i g)(q:FitO g)(j:Nat):
  CP 13 #[pT0 b,tV none 0 0 1,.slice i g.length j] w λe w'=>∃l d a' c' h,e=eE0 (.tuple #[tV a' h.length c' d.T.next,.bool true])/\(Fj d/\K d)/\rws h=d.T.L/\TrA l w' a' c' h/\Hp f w w' [tabA l b d]:=by
 refine plays_spec m (U0:=[]) (M:=[]) H (by simp) ⟨tinv0,n⟩ ?_ rfl p q j;have:=tra0 H;exact this.turn (Chg.refl [] _) (by simp) λk r=>Ap.2 ⟨_,.head _,r⟩
end
noncomputable section
variable{f:List Nat}{w w':World}{a:Option Addr}{c:Nat}{M:List DR}{L:List Asn}{nx:Int}
def TrA.few{S:LN0}(h:TrA S w a c M){B:LN0}(b:∀k∈B,k∈S):TrA B w a c M:=h.turn (Chg.refl [] _) (by simp) b
def Bi.of{w0:World}{n:Nat}{l:List It}{ss:List Sl3}(h:Bi [] w0 a n l ss)(H:Hp [] w0 w L){x:Asn}(m:x∈L):Bi x.foot w a n l ss:=⟨λW b=>h.rd W (H.chgT (b.more λk d=>Ap.2 ⟨x,m,d⟩)),h.len,h.sls,h.small⟩
def nodetabRefused_law(sa:OA)(sc:Nat)(os:List NOp)(q:NOp)(w0:World)(hs:NScr w0 sa os)(hf:FitO os)(C:Bi [] w0 q.a q.o.l.length q.o.l q.ss)(hl:q.o.l.length<=140737488355328)(ht:q.o.text.size<=maxLen):CP 4 #[.slice sa os.length sc,.agg (nopC q).toArray] w0 λe w'=>e=eE0 (.bool true)/\Hp [] w0 w' []:=by
 apply Jc3;intro o w1 D;have H:=(Hp.start w0).new (cs:=nopC q) EQ4 D;refine AC (PU w1) ?_;rintro _ w2 ⟨b,f,rfl,i⟩;replace H:=H.ext1 i;refine⟨_,rfl,JoinP.mk (λ_ w'=>Hp [] w0 w' [tabA f b tab0,.blk o (nopC q) 36]) ?_ ?_⟩;rotate_left
 ·intro J hJ;refine⟨_,UA Su,BC (AC (XB sa sc os hs H.chg) ?_)⟩;rintro _ w3 ⟨fb,rfl,_,i⟩;have H3:=H.ext0 i;refine⟨_,rfl,Ec (λ_=>hJ _ _ H3) λ_=>⟨_,_,_,_,_,_,_,_,_,H3.loA UX,λj G aa=>?_⟩⟩;have H4:=H3.new (cs:=nopC q) EQ4 aa;have one:NScr G (sP0 j) [q]:=⟨?_,λx N=>?_,by simp,λx N=>?_,λx N=>?_⟩
  ·refine AC (XB (sP0 j) 1 [q] one (Chg.refl _ _)) ?_;rintro _ w5 ⟨fc,rfl,_,i⟩;exact⟨_,rfl,hJ _ _ (H4.ext0 i).drop⟩
  ·rw[MJ,List.flatMap_singleton];exact(H4.blk (.head _)).cells
  ·rw[aY.1 N];exact⟨λW hW=>C.rd W (H4.chgT (hW.more (by simp))),C.len,C.sls,C.small⟩
  ·rw[aY.1 N];exact hl
  ·rw[aY.1 N];exact ht
 clear H i D;rintro s w3 H;refine Dp (λ_=>⟨_,OQ Su,CX (AC (KX w3) ?_)⟩) (λ_=>AC (rgNew_spec w3) ?_)
 ·rintro _ G ⟨rfl,i⟩;exact⟨_,rfl,rfl,(H.ext0 i).done⟩
 rintro _ G ⟨rfl,i⟩;replace H:=H.ext0 i;refine⟨_,_,_,_,rfl,AC (plays0 (K:=λ_=>True) (λ_ _=>trivial) trivial H hs hf sc) ?_⟩;rintro _ G ⟨f',X,a',c',M',rfl,hX,e,p,i⟩;replace H:=H.use1 i;refine⟨_,_,_,_,_,rfl,λd w5 O=>?_⟩;have hN:=(Hp.start G).new (cs:=tC none 0 0 0) EQ4 O;replace p:=p.mv hN (S:=[d]) (by simp[feet,Asn.foot]);refine giv (H.new (cs:=tC none 0 0 0) EQ4 O) rfl λw6 hc H=>AC (IV (H.ok _ m1)) ?_;replace p:=p.back hc;have af:=WY (H.ok _ m1);rintro _ w7 ⟨ra,rc,rfl,i⟩;replace p:=p.go i;replace H:=H.ext1 i;refine⟨_,_,_,rfl,AC (F7 ra rc _ w7 om (H.ownA (.head _)).cells) ?_⟩;rintro _ w8 ⟨pa,pc,rfl,i⟩;replace p:=p.go i;replace H:=((H.drop.ext1 i).Am);refine⟨_,_,_,rfl,AC (Pv (H.ok _ (.head _))) ?_⟩;rintro _ w9 ⟨u,f2,b',rfl,i⟩;replace p:=p.at_ i;replace H:=H.use1 i;refine⟨_,rfl,_,UA Su,BC (BC ⟨_,_,_,_,_,_,_,_,_,H.loA UX,AC (Xk q.o q.a q.o.l.length q.c _) ?_⟩)⟩;rintro _ ag ⟨rfl,i⟩;replace p:=p.go i;replace H:=H.ext0 i;have R:=C.of H (x:=tabA u b X) (.head _);refine⟨_,_,_,_,_,_,_,_,_,rfl,AC (SY (H.ok (tabA u b X) (.head _)) q.o q.a _ q.c q.ss R hl ht) ?_⟩;obtain⟨F2,ab⟩:=V3 (H.ok (tabA u b X) (.head _)) q.o q.a _ q.c q.ss R hl ht;obtain⟨F,hG⟩:=Nv (H.ok (tabA u b X) (.head _));have cases:=XC (o:=q.o) hX.1 hG ab;rintro _ U ⟨f3,ca,cc,rfl,i⟩;have Y:=(p.few (B:=u) λk A=>Ap.2 ⟨tabA u b X,.head _,A⟩).at_ i;replace p:=p.turn (S':=f2) i.chg (λk A=>Ap.2 ⟨tabA u b X,.head _,A⟩) λk A=>Ap.2 ⟨tabA f2 b' X,.tail _ (.head _),A⟩;replace H:=H.use1 i;refine⟨_,_,_,_,_,rfl,?_⟩
 have t:∀{w':World}{g:LN0}{x:Nat}{Z:List Asn},TrA g w' a' c' M'->Hp [] w0 w' (tabA g x X::Z)->Asn.own 79 4 pa (CV X.P).length pc (cgsC (CV X.P))∈Z->C2 15 [Q (sP0 x),A2 a' M'.length c' X.T.next] w' λc a=>br c (C7 17 [Q (sP0 x)] a λm y q a=>C7 16 [S m y q] a λn z r a=>C2 21 [S n z r,S pa (CV X.P).length pc] a λc a=>E (.bool c)=eE0 (.bool true)/\Hp [] w0 a []) (E (.bool false)=eE0 (.bool true)/\Hp [] w0 a []):=λ{w' g x Z} p H m=>by
  refine AC (stands_spec (H.ok _ (.head _)) p e) ?_;rintro _ ah ⟨f4,rfl,i⟩;replace H:=H.use1 i;refine⟨_,rfl,CX (AC (IV (H.ok _ (.head _))) ?_)⟩;rintro _ ac ⟨r2,c2,rfl,i⟩;replace H:=H.ext1 i;refine⟨_,_,_,rfl,AC (F7 r2 c2 _ ac om (H.ownA (.head _)).cells) ?_⟩;rintro _ ad ⟨p2,d2,rfl,i⟩;replace H:=H.ext1 i;refine⟨_,_,_,rfl,AC (Rt p2 d2 _ pa pc _ om ad (H.ownA (.head _)).cells (H.ownA (t3 m)).cells) ?_⟩;rintro _ ak ⟨rfl,i⟩;exact⟨_,rfl,by rw[decide_eq_true rfl],(H.ext0 i).done⟩
 refine AB (λh0=>AC (KX U) ?_) (λh0=>?_)
 ·rintro _ ae ⟨rfl,i⟩;exact⟨_,rfl,CX ⟨_,_,_,_,(H.ext0 i).loA bT2,t (p.go i) (H.ext0 i).Am m2⟩⟩
 obtain⟨c,hd⟩:∃c,doP X q.o=(X,0,[],c):=by
  rcases cases with⟨_,h⟩|⟨_,h,_⟩|⟨_,h,_⟩
  ·exact⟨_,h⟩
  ·exact⟨_,h⟩
  ·exact(h0 h).elim
 rw[hd]at H Y⊢;refine AC (KX U) ?_;rintro _ ae ⟨rfl,i⟩;refine⟨_,rfl,CX (AB (λ_=>AB (λ_=>⟨_,_,_,_,(H.ext0 i).loA bT2,t ((Y.few λk A=>Ap.2 ⟨tabA f3 b X,.head _,A⟩).go i) (H.ext0 i) m2⟩) λh=>(h rfl).elim) λh=>(h rfl).elim)⟩
end
end Go.Proofs.YtljenkbpnioipaaGreat
namespace Go
def joined_of{P:Program}{f:FuncId}{fn:Func}{s:ChangeSpec}{c:OpenClaim}(h:laidOutB P=true)(i:mapsRowed P=true)(j:(c.inPlace==P.inPlace f)=true)(l:(c.unfollowed==P.unfollowed f)=true)(m:(c.recurses==P.recurses f)=true)(n:(c.named==P.varsNamed f)=true)(o:P.stopsHeard=true)(p:P.mayEnter=true)(q:(c.lifted==P.liftsFinal)=true)(a:(P.make==some c.make)=true)
  (b:(c.wf (OpenSpec.ofChange s)&&fn.params.all (P.readableRec ·)&&namedTie P c.named s.vars&&
 (c.stops==[])&&(P.stops==[])&&(c.knobs==[])&&(P.stopKnobs==[]))=true)
  (d:((c.maps==(fn.params.toList++s.plain.varTypes P).any (P.mapsRec ·))&&(c.ifaces==(fn.params.toList++s.plain.varTypes P).any (P.ifacesRec ·))&&(c.mapsOut==P.mapsAmong fn.resultTypes.toList)&&
 (c.loops==(fn.params.toList++s.plain.varTypes P).any (P.loopsFrom ·))&&(c.wideKeys==(fn.params.toList++s.plain.varTypes P++fn.resultTypes.toList).any (P.wideKeysFrom ·)))=true)
  (e:(s.vars.all (P.varReadable ·)&&fn.resultTypes.all (λt=>P.readableRec t&&decide (t<P.types.size))&&(c.ifacesOut==fn.resultTypes.toList.any (P.ifacesRec ·))&&(c.loopsOut==fn.resultTypes.toList.any (P.loopsFrom ·))&&(c.plainKeys==P.plainKeys)&&c.shortTexts.isNone)=true)
  (g:((c.kinds==(if c.domain.isEmpty then []else fn.params.toList.map λt=>match P.underlying t with|some (.int k)=>some k|_=>none))&&(c.pinned==c.pinnedBy)&&
 (c.veiled==(fn.params.toList++s.plain.varTypes P++fn.resultTypes.toList).any (P.veiledRec ·))&&c.veiledFits P fn.params.toList (fn.params.toList++s.plain.varTypes P++fn.resultTypes.toList))=true):joinedFacts P f fn s c=true:=by
 unfold joinedFacts;simp only[dJ]at b d e g⊢;obtain⟨⟨⟨⟨⟨⟨r,u⟩,w⟩,x⟩,y⟩,z⟩,A⟩:=b;obtain⟨⟨⟨⟨B,C⟩,D⟩,F⟩,G⟩:=d;obtain⟨⟨⟨⟨⟨H,J⟩,K⟩,L⟩,M⟩,N⟩:=e;obtain⟨⟨⟨O,R⟩,T⟩,U⟩:=g;exact⟨⟨⟨⟨⟨⟨⟨⟨⟨⟨⟨⟨⟨⟨⟨⟨⟨⟨⟨⟨⟨⟨⟨⟨⟨⟨⟨⟨⟨⟨⟨r,h⟩,i⟩,u⟩,w⟩,x⟩,y⟩,z⟩,A⟩,j⟩,l⟩,m⟩,n⟩,B⟩,C⟩,D⟩,F⟩,G⟩,H⟩,J⟩,K⟩,L⟩,M⟩,N⟩,o⟩,p⟩,q⟩,a⟩,O⟩,R⟩,T⟩,U⟩
end Go
namespace Go.Proofs.YtljenkbpnioipaaGreat
open Go Go.Vc
def rowed_:mapsRowed PP=true:=by kernel_rfl
def heard_:PP.stopsHeard=true:=by kernel_rfl
def enter_:PP.mayEnter=true:=by kernel_rfl
def lifts_:PP.liftsFinal=Rows.nodetabAllRow.lifted:=by kernel_rfl
def make_:PP.make=some Rows.nodetabAllRow.make:=by kernel_rfl
open Go.Nod Go.ChangeAt
def nodetabRefused_1:(Rows.nodetabRefusedUptoRow.inPlace==PP.inPlace 4)=true:=by kernel_rfl
def nodetabRefused_2:(Rows.nodetabRefusedUptoRow.unfollowed==PP.unfollowed 4)=true:=by kernel_rfl
def nodetabRefused_3:(Rows.nodetabRefusedUptoRow.recurses==PP.recurses 4)=true:=by kernel_rfl
def nodetabRefused_4:(Rows.nodetabRefusedUptoRow.named==PP.varsNamed 4)=true:=by kernel_rfl
def rdu_so(W:World)(K:LV->Nat->Prop):RdAW PP W 7 [22,36] K=ArgU W 6 36 (λcs m=>RdW PP W 7 36 λds k=>K (ofC (some false) cs::ofC (some true) ds::[]) (m+(k+0))):=by kernel_rfl
def openU_so{W:World}{args:Array Value}(h:RdAW PP W 7 [22,36] (λl m=>args.toList=l/\m<=1048576)):∃(a:OA)(c:Nat)(b:List NOp)(q:NOp),args= #[.slice a b.length c,.agg (nopC q).toArray]/\NScr W a b/\FitO b/\OpOk W 1048576 q:=by
 rw[rdu_so]at h;obtain⟨a,c,b,m,e,h⟩:=argU_nscr h;obtain⟨q,k,⟨f,r,g,s,t⟩,h,u⟩:=qE (n:=1) h;have d:=e om
 exact⟨a,c,b,q,by cases args;simp_all [ofC],d.1,d.2,λ_=>f om,om,λx i=>by
  obtain⟨w,y,j,o⟩:=g x i;exact⟨om,om,λa p=>by have:=j a p;omega,o⟩,om,om⟩
theorem nodetabRefused_holds:Rows.NodetabRefusedUptoSaid:=
 OpenClaim.holds_of_cond 4 Tryz.f4 rfl rfl rfl rfl rfl rfl rfl ⟨rfl,rfl,rfl,rfl,rfl⟩ rfl rfl rfl rfl rfl (by kernel_rfl) Tryz.func4 (joined_of laid_ rowed_ nodetabRefused_1 nodetabRefused_2 nodetabRefused_3 nodetabRefused_4 heard_ enter_ (beq_iff_eq.2 lifts_.symm) (beq_iff_eq.2 make_) (by kernel_rfl) (by kernel_rfl) (by kernel_rfl) (by kernel_rfl))
  (kD) (by unfold Func.isWrapper;first|(rw[if_pos (by decide+kernel)];kernel_rfl)|(rw[if_neg (by decide+kernel)];exact⟨rfl,rfl⟩))
  (λw a H b _ F=>law_liftU (C:=Tryz.checked) (s:=Rows.nodetabRefusedSpec) (kk:=Rows.uptoSmall) 4 Tryz.f4 7 own_ a (by kernel_rfl) Tryz.func4 laid_ (by kernel_rfl) rfl (by kernel_rfl) und4
   (λf h=>by
    match f,h with
    | [d0,d1],_=>rfl)
   Rows.uptoBulk bulk_ok 1048576 bulk_small
   (OpenSpec.witness (enc:=b) (C:=Tryz.checked) (s:=Rows.OpenSpec.upto Rows.nodetabRefusedSpec) (k:=Rows.uptoSmall) rfl false ⟨#[],#[.slice none 0 0,.agg #[.int .i64 0,.int .i64 0,.int .i64 0,.int .i64 0,.string ⟨#[]⟩,.string ⟨#[]⟩,.slice none 0 0]],[]⟩ 8 (by kernel_rfl) (by kernel_rfl) (by kernel_rfl) (x:=([.nil,.agg [.lit (.int .i64 0),.lit (.int .i64 0),.lit (.int .i64 0),.lit (.int .i64 0),.lit (.string []),.lit (.string []),.nil]],[],[])) (by kernel_rfl) rfl (by kernel_rfl))
   (λW d c=>by
    obtain⟨g,i,j,q,rfl,l,m,n⟩:=openU_so c;obtain⟨o,p,r,_⟩:=Kt n om;exact Calls.mono (nodetabRefused_law g i j q W l m o p r) λe y ⟨t,u⟩=>⟨t,u.chg⟩))
end Go.Proofs.YtljenkbpnioipaaGreat
