/- Part 6 of 6 of the proof of nodetabPages_holds: for every input, from every world that may be reached. -/
import Derived.Test.YtljenkbpnioipaaGreatPpa5
set_option linter.unusedVariables false
set_option linter.unusedSimpArgs false
set_option maxRecDepth 100000
set_option maxHeartbeats 4000000
open List(all_append all_cons append_eq append_nil cons_append drop_drop drop_zero filter_append flatMap_cons flatten_cons length_append length_cons length_map map_append map_cons map_map mem_append_left mem_append_right mem_cons mem_map mem_of_getElem? mem_singleton nil_append pairwise_map take_length take_of_length_le take_succ_eq_append_getElem take_zero)
namespace Go.Proofs.YtljenkbpnioipaaGreat
noncomputable section
open Go Go.Vc Go.Nod
theorem xeltS:Elt Tryz.prog 187 62 2 16:=CQ (by kernel_rfl)
theorem xundS:Tryz.prog.underlying 187=some (.slice 62):=by kernel_rfl
def GX(r:Fol.Rec):Sp:=(r.frm,r.to)
def spR(l:List Fol.Rec):SM:=l.foldl (fun S r=>sput S r.id (GX r)) []
theorem spR_snoc(l:List Fol.Rec)(r:Fol.Rec):spR (l++[r])=sput (spR l) r.id (GX r):=by rw[spR,List.foldl_append];rfl
structure aF(W:List ByteArray)(T:Tr)(recs:List Fol.Rec):Prop where
 len:recs.length=T.L.length
 id:∀(j:Nat)(r:Rw)(q:Fol.Rec),T.L[j]? =some r->recs[j]? =some q->q.id=r.id
 par:∀(j:Nat)(r:Rw)(q:Fol.Rec),T.L[j]? =some r->recs[j]? =some q->q.parent=BC T.L j
 it:∀(j:Nat)(r:Rw)(q:Fol.Rec),T.L[j]? =some r->recs[j]? =some q->Vp W r.level q=AY r
 known:∀q∈recs,aX W q
 lev:Gm (recs.map GX)=some (T.L.map (·.level))
theorem rwC_at{a:List RW}{j:Nat}{p:RW}(h:a[j]? =some p):((a.flatMap rwC).drop (j*8)).take 8=rwC p:=by
 induction a generalizing j with
 |nil=>simp at h
 |cons q r b=>
  cases j with
  |zero=>
   simp at h;subst h;rw[flatMap_cons,Nat.zero_mul,drop_zero];exact List.take_left' rfl
  |succ j=>
   rw[List.getElem?_cons_succ]at h;rw[flatMap_cons,Nat.succ_mul,Nat.add_comm,<- drop_drop,List.drop_left' (by rfl)];exact b h
theorem nTreeQ_spec{B:List Nat}{w0 w:World}{L:List Asn}(xb:Nat)(z:WN)(pa:Option Addr)(n pc:Nat)(next:Int)(wa:Option Addr)(wn wc pb:Nat)(aa:Option Addr)(ac:Nat)(d:List RW)(wf:List Nat)(W:List ByteArray){F:Fo}{T:Tr}(hG:BM F T)(hT:aF W T (d.map (·.1)))(cf:max next 1=T.next)
  (H:Hp B w0 w (.blk xb (ldC z.ub next wa wn wc pb aa d.length ac) 128::.blk z.ub (tbC z pa n pc) 86::.own 204 8 aa d.length ac (d.flatMap rwC)::.imap z.sb .i64 (smC [])::Ak wf z.wb W::(d.map rwO++L))):
  Calls Tryz.prog 68 #[.pointer (some ⟨xb,0,none⟩)] w fun e w'=>∃tf tb,e=.returned (.bool true)/\
   Hp B w0 w' (.blk xb (ldC z.ub next wa wn wc pb aa d.length ac) 128::.blk z.ub (tbC {z with tb:=tb} pa n pc) 86::AU tf tb T::.imap z.sb .i64 (smC (spR (d.map (·.1))))::Ak wf z.wb W::L):=by
 apply nTreeQ.ok;unfold nTreeQ.vc;have cp:=hG.len
 have cg:d.length=T.L.length:=by rw[<- hT.len,length_map]
 obtain⟨X0,ak⟩:∃X0,X0=Asn.blk xb (ldC z.ub next wa wn wc pb aa d.length ac) 128:=⟨_,rfl⟩;obtain⟨A0,bk⟩:∃A0,A0=Asn.own 204 8 aa d.length ac (d.flatMap rwC):=⟨_,rfl⟩;rw[<- ak,<- bk]at H
 have a9:∀{W:World}{M:List Asn},Hp B w0 W M->X0∈M->∀{W':World},Eqw W W'->Ld Tryz.prog 126 W' (Addr.add ⟨xb,0,none⟩ 4) (.slice aa d.length ac):=fun{W M} H m _ e=>by
  rw[ak]at m;rw[add_lit];exact H.ld (o:=4) (cs:=ldC z.ub next wa wn wc pb aa d.length ac) e vSR m rfl
 have bl:∀{W:World}{M:List Asn},Hp B w0 W M->X0∈M->∀{W':World},Eqw W W'->Ld Tryz.prog 23 W' ⟨xb,0,none⟩ (.pointer (some ⟨z.ub,0,none⟩)):=fun{W M} H m _ e=>by
  rw[ak]at m;exact H.ld (o:=0) (cs:=ldC z.ub next wa wn wc pb aa d.length ac) e rPT m rfl
 have ba:∀{W:World}{M:List Asn}{j:Nat}{p:RW},Hp B w0 W M->A0∈M->d[j]? =some p->∃ad,aa=some ad/\Ld Tryz.prog 204 W (ad.add ((j:Int).toNat*8)) (.agg (rwC p).toArray):=fun{W M j p} H m hj=>by
  rw[bk]at m;rw[Int.toNat_natCast];exact H.ldOA (w':=W) (o:=j*8) EQ4 Fol.CW (by omega) m (rwC_at hj) rfl
 refine AA rfl ⟨aa,d.length,ac,a9 H (.head _) EQ4,?_⟩;obtain⟨Y,hY⟩:∃Y:List Asn,Y=X0::.blk z.ub (tbC z pa n pc) 86::A0::.imap z.sb .i64 (smC [])::Ak wf z.wb W::(d.map rwO++L):=⟨_,rfl⟩;rw[<- hY]at H
 have mX:X0∈Y:=by rw[hY];exact .head _
 have mA:A0∈Y:=by rw[hY];exact .tail _ m1
 obtain⟨b,I⟩:∃b,b=d.map (·.1):=⟨_,rfl⟩;rw[<- I]at hT
 have ae:b.length=d.length:=by rw[I,length_map]
 have bb:∀{j:Nat}{p:RW},d[j]? =some p->b[j]? =some p.1:=fun{j p} h=>by rw[I,List.getElem?_map,h];rfl
 have bm:∀{j:Nat}{p:RW},d[j]? =some p->b.take (j+1)=b.take j++[p.1]:=fun{j p} h=>by
  have h2:=bb h;rw[take_succ_eq_append_getElem (List.getElem?_eq_some_iff.1 h2).1,(List.getElem?_eq_some_iff.1 h2).2]
 refine AP.mk (fun m s w'=>∃(j:Nat)(sa:Option Addr)(sc:Nat)(X:List Asn),m=d.length-j/\j<=d.length/\s=((sa,j,sc),(j:Int))/\Hp B w0 w' (.own 62 2 sa j sc (BF ((b.take j).map GX))::(Y++X))) d.length ⟨0,none,0,[],rfl,by omega,rfl,by rw[append_nil];exact H.nilS 62 2⟩ ?_;clear H;rintro m s w1 nx ⟨j,sa,sc,X,rfl,hj,rfl,H⟩ a5;dsimp only;refine AB (fun h1=>?_) (fun h1=>?_)
 ·have ab:j<d.length:=by omega
  obtain⟨p,hp⟩:∃p,d[j]? =some p:=⟨_,List.getElem?_eq_getElem ab⟩;obtain⟨ad,am,af⟩:=ba H (.tail _ (mem_append_left _ mA)) hp;refine AA am ⟨⟨by omega,h1⟩,_,_,_,_,_,_,_,_,_,_,af,fun yb w2 bn=>?_⟩;have H2:=H.new (cs:=recZ) EQ4 bn;refine Hp.stA H2 EQ4 Fol.CW (vs:=rwC p) rfl rfl (by simp[recZ]) (cs':=rwC p) rfl fun w3 A=>?_;clear H H2 bn;refine⟨p.1.frm,p.1.to,A.loA GV,fun y w4 a4=>?_⟩;have H4:=A.nw a4;refine Hp.app xeltS (by omega) H4.BA EQ4 (Blk.src (P:=Tryz.prog) xundS (H4.blk (.head _)) rfl rfl) (by simp only[maxLen];omega) (by omega) ?_;intro a2 c2 w5 H5;refine⟨iR,a5 (d.length-(j+1)) _ _ (by omega) ⟨j+1,a2,c2,.blk y [.int .i64 p.1.frm,.int .i64 p.1.to] 62::.blk yb (rwC p) 204::X,rfl,by omega,rfl,H5.perm ?_⟩⟩
  have e1:BF ((b.take (j+1)).map GX)=BF ((b.take j).map GX)++[.int .i64 p.1.frm,.int .i64 p.1.to]:=by
   rw[bm hp,map_append];simp[BF,GX]
  refine AL fun ff gg i l q u=>?_;simp only[e1,q,l,i,append_eq,nil_append,cons_append];omega
 have ab:j=d.length:=by omega
 rw[ab,<- ae,take_length]at H;clear a5 hj h1;have bo:Own w1 0 62 2 sa b.length sc (BF (b.map GX)):=H.ownA (.head _);rw[ab,<- ae];refine AC (sLevels_spec sa b.length sc (b.map GX) w1 bo.cells (by rw[length_map]) (by omega)) ?_;rintro _ w2 (⟨bp,_⟩|⟨Lv,va,vc,bq,bu,rfl,H2⟩)
 ·rw[hT.lev]at bp;cases bp
 rw[hT.lev]at bq;cases bq;have A:=H.ext1 H2;clear H H2 bo;refine⟨_,_,_,_,rfl,BG (x:=_) (AA rfl ⟨aa,d.length,ac,a9 A (.tail _ (.tail _ (mem_append_left _ mX))) EQ4,?_⟩)⟩;rw[ae]at A bu⊢;have ch:spR []=[]:=rfl
 have H4:Hp B w0 w2 (.imap z.sb .i64 (smC (spR (b.take 0)))::X0::.blk z.ub (tbC z pa n pc) 86::A0::Ak wf z.wb W::.own 3 1 va d.length vc (AO (T.L.map (·.level)))::(d.map rwO++(L++(.own 62 2 sa d.length sc (BF (b.map GX))::X)))):=A.perm (by
  refine AL fun ff gg i l q u=>?_
  simp only[hY,take_zero,ch,q,l,i,append_eq,nil_append,cons_append];omega)
 clear A;generalize cq:(Asn.own 62 2 sa d.length sc (BF (b.map GX))::X)=X1 at H4;obtain⟨Z,hZ⟩:∃Z:List Asn,Z=X0::.blk z.ub (tbC z pa n pc) 86::A0::Ak wf z.wb W::.own 3 1 va d.length vc (AO (T.L.map (·.level)))::(d.map rwO++L):=⟨_,rfl⟩
 have zX:X0∈Z:=by rw[hZ];exact .head _
 have zA:A0∈Z:=by rw[hZ];exact .tail _ m1
 have zT:Asn.blk z.ub (tbC z pa n pc) 86∈Z:=by rw[hZ];exact .tail _ (.head _)
 have zB:Ak wf z.wb W∈Z:=by rw[hZ];exact .tail _ m2
 have zV:Asn.own 3 1 va d.length vc (AO (T.L.map (·.level)))∈Z:=by rw[hZ];exact .tail _ m3
 have zO:∀{j:Nat}{p:RW},d[j]? =some p->rwO p∈Z:=fun{j p} h=>by
  rw[hZ];exact .tail _ (.tail _ (.tail _ (.tail _ (.tail _ (mem_append_left _ (mem_map.2 ⟨p,mem_of_getElem? h,rfl⟩))))))
 refine AP.mk (fun m s w'=>∃(j:Nat)(ia:Option Addr)(ic:Nat)(za:Option Addr)(zc:Nat)(f:List Sl3)(X:List Asn),m=d.length-j/\j<=d.length/\s=((ia,j,ic),(za,j,zc),(j:Int))/\SlOk ((T.L.take j).map AY) f/\
  Hp B w0 w' (.imap z.sb .i64 (smC (spR (b.take j)))::.own 123 5 ia j ic (itsC ((T.L.take j).map AY) f)::.own 3 1 za j zc (AO ((T.L.take j).map (·.id)))::(Be ((T.L.take j).map AY) f++(Z++X)))) d.length ⟨0,none,0,none,0,[],X1,rfl,by omega,rfl,⟨by simp,fun k x s h=>by simp at h⟩,?_⟩ ?_
 ·exact((H4.nilS 3 1).nilS 123 5).perm (by
   refine AL fun ff gg i l q u=>?_;have e1:itsC [] []=[]:=rfl;have e2:Be [] []=[]:=rfl;have e3:AO []=[]:=rfl
   simp only[take_zero,List.map_nil,e1,e2,e3,hZ,q,l,i,append_eq,nil_append,cons_append];omega)
 clear H4;rintro m s w3 nx ⟨j,ia,ic,za,zc,f,X,rfl,hj,rfl,an,H⟩ a6;dsimp only;have bv:∀{x a1 a2 a3:Asn},x∈Z->x∈a1::a2::a3::(Be ((T.L.take j).map AY) f++(Z++X)):=fun h=>.tail _ (.tail _ (.tail _ (mem_append_right _ (mem_append_left _ h))));refine AB (fun h1=>?_) (fun h1=>?_)
 ·have ab:j<d.length:=by omega
  obtain⟨p,hp⟩:∃p,d[j]? =some p:=⟨_,List.getElem?_eq_getElem ab⟩;obtain⟨r,hr⟩:∃r,T.L[j]? =some r:=⟨_,List.getElem?_eq_getElem (by omega)⟩;have al:=bb hp;have bc:=hT.id j r p.1 hr al;have ao:=hT.it j r p.1 hr al;have ci:=hT.known p.1 (mem_of_getElem? al)
  have bw:T.L.take (j+1)=T.L.take j++[r]:=by
   rw[take_succ_eq_append_getElem (List.getElem?_eq_some_iff.1 hr).1,(List.getElem?_eq_some_iff.1 hr).2]
  obtain⟨ad,am,af⟩:=ba H (bv zA) hp;refine AA am ⟨⟨by omega,h1⟩,_,_,_,_,_,_,_,_,_,_,af,fun yb w4 a4=>?_⟩;have H2:=H.new (cs:=recZ) EQ4 a4;refine Hp.stA H2 EQ4 Fol.CW (vs:=rwC p) rfl rfl (by simp[recZ]) (cs':=rwC p) rfl fun w5 A=>?_;clear H H2 a4 af;have E:∀{x a0:Asn},x∈Z->x∈a0::.imap z.sb .i64 (smC (spR (b.take j)))::.own 123 5 ia j ic (itsC ((T.L.take j).map AY) f)::.own 3 1 za j zc (AO ((T.L.take j).map (·.id)))::(Be ((T.L.take j).map AY) f++(Z++X)):=fun h=>.tail _ (bv h)
  have bx:(AO (T.L.map (·.level)))[j]? =some (.int .i64 r.level):=by simp[AO,hr]
  have ag:∀{w6:World},Hp B w0 w6 (.blk yb (rwC p) 204::.imap z.sb .i64 (smC (spR (b.take j)))::.own 123 5 ia j ic (itsC ((T.L.take j).map AY) f)::.own 3 1 za j zc (AO ((T.L.take j).map (·.id)))::(Be ((T.L.take j).map AY) f++(Z++X)))->
    Calls Tryz.prog 135 #[.pointer (some ⟨xb,0,none⟩),.agg (rwC p).toArray,.int .i64 r.level] w6 fun e w'=>∃a c,e=.returned (.tuple #[.agg (itC (AY r) (a,p.1.attrs.length,c)).toArray,.bool true])/\Hp [] w6 w' [.own 142 2 a p.1.attrs.length c (atC r.x.attrs)]:=fun{w6} H6=>by
   have hb:Blk w6 xb (ldC z.ub next wa wn wc pb aa d.length ac) 128:=H6.blk (by rw[<- ak];exact E zX);have ho:Own w6 0 260 2 p.2.1 p.1.attrs.length p.2.2 (Fol.Az p.1.attrs):=H6.ownA (E (zO hp));have:=nItem_spec xb z.ub z.wb (ldC z.ub next wa wn wc pb aa d.length ac) (tbC z pa n pc) 128 86 hb rfl (H6.blk (E zT)) rfl (W:=W) (H6.ok (Ak wf z.wb W) (E zB)) p.1 p.2.1 p.2.2 ho.cells ci r.level;rw[ao]at this;exact this
  refine Am.mk (fun t w'=>∃(ib:Nat)(a:Option Addr)(c:Nat),t=(some ⟨ib,0,none⟩,true)/\Hp B w0 w' (.blk ib (itC (AY r) (a,p.1.attrs.length,c)) 123::.own 142 2 a p.1.attrs.length c (atC r.x.attrs)::.blk yb (rwC p) 204::.imap z.sb .i64 (smC (spR (b.take j)))::.own 123 5 ia j ic (itsC ((T.L.take j).map AY) f)::.own 3 1 za j zc (AO ((T.L.take j).map (·.id)))::(Be ((T.L.take j).map AY) f++(Z++X)))) ?_ ?_;rotate_left
  ·intro J hJ
   obtain⟨vd,bd,bz⟩:=A.ldO (w':=w5.drew) (o:=j) EQ4 yInt (E zV) bx;refine⟨⟨_,_,_,_,_,_,_,_,_,_,A.ldA (o:=0) (cs:=rwC p) EQ4 Fol.CW (.head _) rfl rfl,AA bd ⟨⟨by omega,by omega⟩,r.level,by rw[Int.toNat_natCast,Nat.mul_one];exact bz,AC (ag A.drew) ?_⟩⟩,⟨_,_,_,_,_,_,_,_,_,_,A.ldA (o:=0) (cs:=rwC p) EQ4 Fol.CW (.head _) rfl rfl,AA bd ⟨⟨by omega,by omega⟩,r.level,by rw[Int.toNat_natCast,Nat.mul_one];exact bz,fun ib w6 cj=>?_⟩⟩⟩
   ·rintro _ w6 ⟨a,c,rfl,H6⟩
    refine⟨_,_,_,_,_,_,_,_,rfl,fun ib w7 D=>?_⟩;have C:=(A.drew.ext1 H6).new (cs:=itZ) EQ4 D;refine Hp.stA C EQ4 Dh (vs:=itC (AY r) (a,p.1.attrs.length,c)) rfl rfl (by simp[itZ]) (cs':=itC (AY r) (a,p.1.attrs.length,c)) rfl fun w8 K=>hJ _ _ ⟨ib,a,c,rfl,K⟩
   ·have H6:=A.drew.new (cs:=itZ) EQ4 cj
    obtain⟨ve,b0,b1⟩:=H6.ldO (w':=w6) (o:=j) EQ4 yInt (.tail _ (E zV)) bx;rw[bd]at b0;cases b0;refine⟨by rw[Int.toNat_natCast,Nat.mul_one];exact b1,H6.ldA (o:=0) (cs:=rwC p) EQ4 Fol.CW m1 rfl rfl,AC (ag H6.drop) ?_⟩;rintro _ w7 ⟨a,c,rfl,C⟩;refine⟨_,_,_,_,_,_,_,_,rfl,?_⟩;refine Hp.stA (H6.ext1 C).Af EQ4 Dh (vs:=itC (AY r) (a,p.1.attrs.length,c)) rfl rfl (by simp[itZ]) (cs':=itC (AY r) (a,p.1.attrs.length,c)) rfl fun w8 K=>hJ _ _ ⟨ib,a,c,rfl,K⟩
  clear A ag;rintro t w6 ⟨ib,a,c,rfl,H⟩;refine BG (x:=_) ?_;obtain⟨g,N⟩:∃g,g=itC (AY r) (a,p.1.attrs.length,c):=⟨_,rfl⟩;rw[<- N]at H;have b2:p.1.id=r.id:=bc
  have b3:SlOk ((T.L.take j).map AY++[AY r]) (f++[(a,p.1.attrs.length,c)]):=an.snoc (by
   have:=congrArg (fun x:It=>x.x.attrs.length) ao;rw[Vp]at this;simp only[length_map]at this
   exact this)
  have ck:p.1.attrs.length=(AY r).x.attrs.length:=by
   have:=congrArg (fun x:It=>x.x.attrs.length) ao;rw[Vp]at this;simp only[length_map]at this;exact this
  have b4:f.length=((T.L.take j).map AY).length:=an.len
  have ap:(T.L.take (j+1)).map AY=(T.L.take j).map AY++[AY r]:=by rw[bw,map_append];rfl
  have b5:itsC ((T.L.take (j+1)).map AY) (f++[(a,p.1.attrs.length,c)])=itsC ((T.L.take j).map AY) f++g:=by rw[ap,UT b4,N]
  have b6:Be ((T.L.take (j+1)).map AY) (f++[(a,p.1.attrs.length,c)])=Be ((T.L.take j).map AY) f++[.own 142 2 a p.1.attrs.length c (atC r.x.attrs)]:=by
   rw[ap,Tf b4,ck];rfl
  have b7:AO ((T.L.take (j+1)).map (·.id))=AO ((T.L.take j).map (·.id))++[.int .i64 r.id]:=by rw[bw,map_append];simp[AO]
  have aq:g.length=5:=by rw[N];rfl
  have cl:g.all (·.oneCell')=true:=by rw[N];rfl
  refine Am.mk (fun t w'=>∃(O:Option Addr)(Q:Nat)(S:Option Addr)(U:Nat)(X':List Asn),t=((O,j+1,Q),(S,j+1,U))/\Hp B w0 w' (.blk yb (rwC p) 204::.imap z.sb .i64 (smC (spR (b.take j)))::.own 123 5 O (j+1) Q (itsC ((T.L.take (j+1)).map AY) (f++[(a,p.1.attrs.length,c)]))::.own 3 1 S (j+1) U (AO ((T.L.take (j+1)).map (·.id)))::(Be ((T.L.take (j+1)).map AY) (f++[(a,p.1.attrs.length,c)])++(Z++X')))) ?_ ?_
  ·rintro t w7 ⟨O,Q,S,U,X',rfl,C⟩
   have mz:∀{x a0 a1 a2 a3:Asn}{M1 M2:List Asn},x∈Z->x∈a0::a1::a2::a3::(M1++(Z++M2)):=fun h=>.tail _ (.tail _ (.tail _ (.tail _ (mem_append_right _ (mem_append_left _ h)))));refine AA rfl ⟨_,bl C (mz zX) EQ4,AA rfl ⟨some z.sb,by rw[add_lit];exact C.ld (o:=1) (cs:=tbC z pa n pc) EQ4 rMIS (mz zT) rfl,p.1.id,C.lo yInt,p.1.frm,p.1.to,C.loA GV,?_⟩⟩;refine Hp.mupI Ig C.Af EQ4 fun w8 K=>⟨iR,a6 (d.length-(j+1)) _ _ (by omega) ⟨j+1,O,Q,S,U,f++[(a,p.1.attrs.length,c)],X',rfl,by omega,rfl,by rw[ap];exact b3,?_⟩⟩
   have e1:aput (smC (spR (b.take j))) p.1.id (.agg #[.int .i64 p.1.frm,.int .i64 p.1.to])=smC (spR (b.take (j+1))):=by
    rw[bm hp,spR_snoc];exact LM (spR (b.take j)) p.1.id (GX p.1)
   rw[e1]at K;exact K.del1
  ·intro J hJ
   have bf:∀{w9:World}{O S:Option Addr}{Q U:Nat}{y ub:Nat}{T1 T2:TypeId},Hp B w0 w9 (.own 3 1 S (j+1) U (AO ((T.L.take j).map (·.id))++[.int .i64 p.1.id])::.own 123 5 O (j+1) Q (itsC ((T.L.take j).map AY) f++g)::.blk y g T1::.blk ub [.int .i64 p.1.id] T2::.blk ib g 123::.own 142 2 a p.1.attrs.length c (atC r.x.attrs)::.blk yb (rwC p) 204::.imap z.sb .i64 (smC (spR (b.take j)))::(Be ((T.L.take j).map AY) f++(Z++X)))->J ((O,j+1,Q),(S,j+1,U)) w9:=fun{w9 O S Q U y ub T1 T2} H9=>
    hJ _ _ ⟨O,Q,S,U,.blk y g T1::.blk ub [.int .i64 p.1.id] T2::.blk ib g 123::X,rfl,H9.perm (by
     refine AL fun ff gg i l q u=>?_
     simp only[b5,b6,b7,b2,q,l,i,append_eq,nil_append,cons_append];omega)⟩
   have ar:∀{w8 ah:World}{y:Nat}{M:List Asn}{G:Option Addr->Nat->Nat->World->Prop},Hp B w0 w8 (.own 123 5 ia j ic (itsC ((T.L.take j).map AY) f)::M)->Asn.blk y g 123∈M->Eqw w8 ah->(∀a' c' w1,Hp B w0 w1 (.own 123 5 a' (j+1) c' (itsC ((T.L.take j).map AY) f++g)::M)->G a' (j+1) c' w1)->∃a' n' c' w1,App Tryz.prog #[34,34] 34 ah (.slice ia j ic) (.slice (some ⟨y,0,none⟩) 1 1) (.slice a' n' c') w1/\G a' n' c' w1:=fun{w8 ah y M G} K hm e k=>
    Hp.app Zx (by omega) K e (Blk.src (P:=Tryz.prog) aU ((K.go e).blk (.tail _ hm)) (by rw[aq]) cl) (by simp only[maxLen];omega) (by omega) k
   have appZ:∀{w8 ah:World}{y:Nat}{M:List Asn}{G:Option Addr->Nat->Nat->World->Prop},Hp B w0 w8 (.own 3 1 za j zc (AO ((T.L.take j).map (·.id)))::M)->Asn.blk y [.int .i64 p.1.id] 3∈M->Eqw w8 ah->(∀a' c' w1,Hp B w0 w1 (.own 3 1 a' (j+1) c' (AO ((T.L.take j).map (·.id))++[.int .i64 p.1.id])::M)->G a' (j+1) c' w1)->∃a' n' c' w1,App Tryz.prog #[59,59] 59 ah (.slice za j zc) (.slice (some ⟨y,0,none⟩) 1 1) (.slice a' n' c') w1/\G a' n' c' w1:=fun{w8 ah y M G} K hm e k=>
    Hp.app Ll (by omega) K e (Blk.src (P:=Tryz.prog) LZ ((K.go e).blk (.tail _ hm)) rfl rfl) (by simp only[maxLen];omega) (by omega) k
   have bg:∀{W:World},Eqw w6 W->Ld Tryz.prog 123 W ⟨ib,0,none⟩ (.agg (itC (AY r) (a,p.1.attrs.length,c)).toArray):=fun e=>by
    rw[<- N];exact H.ldA (o:=0) (cs:=g) e Dh (.head _) (by rw[drop_zero];exact take_of_length_le (Nat.le_of_eq aq)) aq
   have bh:∀{W:World},Eqw w6 W->Ld Tryz.prog 3 W ⟨yb,0,none⟩ (.int .i64 p.1.id):=fun e=>H.ld (o:=0) (cs:=rwC p) e yInt m2 rfl;refine⟨⟨_,_,_,_,_,_,_,AA rfl (bg EQ4),p.1.id,bh EQ4,fun y w7 D=>?_⟩,⟨_,_,_,_,_,_,_,AA rfl (bg EQ4),p.1.id,bh EQ4,fun y w7 D=>?_⟩,⟨_,_,_,_,_,_,_,AA rfl (bg EQ4),p.1.id,bh EQ4,fun ub w7 D=>?_⟩⟩
   ·have C:=H.drew.new (cs:=g) EQ4 (by rw[N];exact D)
    refine⟨C.lo yInt,ar (M:=.blk y g 123::.blk ib g 123::.own 142 2 a p.1.attrs.length c (atC r.x.attrs)::.blk yb (rwC p) 204::.imap z.sb .i64 (smC (spR (b.take j)))::.own 3 1 za j zc (AO ((T.L.take j).map (·.id)))::(Be ((T.L.take j).map AY) f++(Z++X))) (C.perm (by
     refine AL fun ff gg i l q u=>?_
     simp only[q,l,i,append_eq,nil_append,cons_append];omega)) (.head _) EQ4 fun a2 c2 w8 K=>⟨K.lo yInt,fun ub w9 cm=>?_⟩⟩
    have H9:=K.nw cm
    refine appZ (M:=.own 123 5 a2 (j+1) c2 (itsC ((T.L.take j).map AY) f++g)::.blk y g 123::.blk ub [.int .i64 p.1.id] 3::.blk ib g 123::.own 142 2 a p.1.attrs.length c (atC r.x.attrs)::.blk yb (rwC p) 204::.imap z.sb .i64 (smC (spR (b.take j)))::(Be ((T.L.take j).map AY) f++(Z++X))) (H9.perm (by
     refine AL fun ff gg i l q u=>?_
     simp only[q,l,i,append_eq,nil_append,cons_append];omega)) m2 EQ4 fun a3 c3 bi av=>bf av
   ·have C:=H.drew.new (cs:=g) EQ4 (by rw[N];exact D)
    refine⟨C.lo yInt,fun ub w8 bj=>?_⟩;have K:=C.nw bj
    refine ar (M:=.blk y g 123::.blk ub [.int .i64 p.1.id] 3::.blk ib g 123::.own 142 2 a p.1.attrs.length c (atC r.x.attrs)::.blk yb (rwC p) 204::.imap z.sb .i64 (smC (spR (b.take j)))::.own 3 1 za j zc (AO ((T.L.take j).map (·.id)))::(Be ((T.L.take j).map AY) f++(Z++X))) (K.perm (by
     refine AL fun ff gg i l q u=>?_
     simp only[q,l,i,append_eq,nil_append,cons_append];omega)) (.head _) EQ4 fun a2 c2 w9 H9=>?_
    refine appZ (M:=.own 123 5 a2 (j+1) c2 (itsC ((T.L.take j).map AY) f++g)::.blk y g 123::.blk ub [.int .i64 p.1.id] 3::.blk ib g 123::.own 142 2 a p.1.attrs.length c (atC r.x.attrs)::.blk yb (rwC p) 204::.imap z.sb .i64 (smC (spR (b.take j)))::(Be ((T.L.take j).map AY) f++(Z++X))) (H9.perm (by
     refine AL fun ff gg i l q u=>?_
     simp only[q,l,i,append_eq,nil_append,cons_append];omega)) m2 EQ4 fun a3 c3 bi av=>bf av
   ·have C:=H.drew.nw D
    refine⟨AA rfl (show Ld Tryz.prog 123 w7 ⟨ib,0,none⟩ (.agg (itC (AY r) (a,p.1.attrs.length,c)).toArray) by rw[<- N];exact C.ldA (o:=0) (cs:=g) EQ4 Dh m1 (by rw[drop_zero];exact take_of_length_le (Nat.le_of_eq aq)) aq),fun y w8 bj=>?_⟩;have K:=C.new (cs:=g) EQ4 (by rw[N];exact bj)
    refine ar (M:=.blk y g 123::.blk ub [.int .i64 p.1.id] 3::.blk ib g 123::.own 142 2 a p.1.attrs.length c (atC r.x.attrs)::.blk yb (rwC p) 204::.imap z.sb .i64 (smC (spR (b.take j)))::.own 3 1 za j zc (AO ((T.L.take j).map (·.id)))::(Be ((T.L.take j).map AY) f++(Z++X))) (K.perm (by
     refine AL fun ff gg i l q u=>?_
     simp only[q,l,i,append_eq,nil_append,cons_append];omega)) (.head _) EQ4 fun a2 c2 w9 H9=>?_
    refine appZ (M:=.own 123 5 a2 (j+1) c2 (itsC ((T.L.take j).map AY) f++g)::.blk y g 123::.blk ub [.int .i64 p.1.id] 3::.blk ib g 123::.own 142 2 a p.1.attrs.length c (atC r.x.attrs)::.blk yb (rwC p) 204::.imap z.sb .i64 (smC (spR (b.take j)))::(Be ((T.L.take j).map AY) f++(Z++X))) (H9.perm (by
     refine AL fun ff gg i l q u=>?_
     simp only[q,l,i,append_eq,nil_append,cons_append];omega)) m2 EQ4 fun a3 c3 bi av=>bf av
 clear a6
 have ab:j=d.length:=by omega
 rw[ab]at H an⊢;rw[show T.L.take d.length=T.L from take_of_length_le (by omega)]at H an;rw[show b.take d.length=b from take_of_length_le (by omega)]at H;have b8:∀{x a1 a2 a3:Asn}{M:List Asn},x∈Z->x∈a1::a2::a3::(M++(Z++X)):=fun h=>.tail _ (.tail _ (.tail _ (mem_append_right _ (mem_append_left _ h))));refine AA rfl ⟨next,by rw[add_lit];exact H.ld (o:=1) (cs:=ldC z.ub next wa wn wc pb aa d.length ac) EQ4 yInt (by rw[<- ak];exact b8 zX) rfl,?_⟩;dsimp only;rw[cf];have aw:d.length=T.L.length:=cg
 have a7:DX [] w3 ia d.length (T.L.map rowI) f:=by
  rw[aw];exact UO hG (ia:=ia) (ic:=ic) an H (by rw[<- aw];exact .tail _ (.head _)) (fun x hx=>.tail _ (.tail _ (.tail _ (mem_append_left _ hx))))
 have b9:Own w3 0 3 1 za d.length zc (AO (T.L.map (·.id))):=H.ownA m2;refine AC (gRestore_spec hG ia d.length ic f za d.length zc w3 a7 b9.cells aw) ?_;rintro _ w4 ⟨tf,tb,rfl,H2⟩;have A:=H.ext1 H2;clear H H2 a7 b9;refine⟨_,_,rfl,Aa (fun h=>(h rfl).elim) (fun _=>?_)⟩
 have H5:Hp B w0 w4 (.blk z.ub (tbC z pa n pc) 86::AU tf tb T::X0::A0::.imap z.sb .i64 (smC (spR b))::Ak wf z.wb W::(L++(d.map rwO++(.own 3 1 va d.length vc (AO (T.L.map (·.level)))::.own 123 5 ia d.length ic (itsC (T.L.map AY) f)::.own 3 1 za d.length zc (AO (T.L.map (·.id)))::(Be (T.L.map AY) f++X))))):=A.perm (by
  refine AL fun ff gg i l q u=>?_
  simp only[hZ,q,l,i,append_eq,nil_append,cons_append];omega)
 clear A;generalize cr:(d.map rwO++(Asn.own 3 1 va d.length vc (AO (T.L.map (·.level)))::.own 123 5 ia d.length ic (itsC (T.L.map AY) f)::.own 3 1 za d.length zc (AO (T.L.map (·.id)))::(Be (T.L.map AY) f++X)))=X2 at H5;refine AA rfl ⟨_,bl H5 m2 EQ4,AA rfl ?_⟩;refine Hp.st (o:=0) H5 EQ4 nPT rfl rfl (by simp[tbC]) (cs':=tbC {z with tb:=tb} pa n pc) rfl fun w5 H6=>?_;clear H5;refine AA rfl ⟨aa,d.length,ac,a9 H6 m2 EQ4,?_⟩;have cn:=hG.YX;refine AP.mk (fun m s w'=>∃(j:Nat)(tf:List Nat)(X:List Asn),m=d.length-j/\j<=d.length/\s=(j:Int)/\Hp B w0 w' (AU tf tb T::X0::A0::.blk z.ub (tbC {z with tb:=tb} pa n pc) 86::.imap z.sb .i64 (smC (spR b))::Ak wf z.wb W::(L++X))) d.length ⟨0,tf,X2,rfl,by omega,rfl,H6.perm ?_⟩ ?_
 ·refine AL fun ff gg i l q u=>?_
  simp only[q,l,i,append_eq,nil_append,cons_append];omega
 clear H6;rintro m s w6 ct ⟨j3,ca,X3,rfl,cu,rfl,H⟩ cb;refine AB (fun h2=>?_) (fun h2=>?_)
 ·have cc:j3<d.length:=by omega
  obtain⟨p,hp⟩:∃p,d[j3]? =some p:=⟨_,List.getElem?_eq_getElem cc⟩;obtain⟨r,hr⟩:∃r,T.L[j3]? =some r:=⟨_,List.getElem?_eq_getElem (by omega)⟩;have al:=bb hp;have bc:=hT.id j3 r p.1 hr al;have cd:=hT.par j3 r p.1 hr al;obtain⟨ad,am,af⟩:=ba H m2 hp;refine AA am ⟨⟨by omega,h2⟩,_,_,_,_,_,_,_,_,_,_,af,fun yb w7 D=>?_⟩;have H2:=H.new (cs:=recZ) EQ4 D;refine Hp.stA H2 EQ4 Fol.CW (vs:=rwC p) rfl rfl (by simp[recZ]) (cs':=rwC p) rfl fun w8 A=>?_;clear H H2 D af;refine⟨p.1.id,A.lo yInt,?_⟩;have ce:=Yh cn hr;rw[bc];refine AC (O9 (A.ok (AU ca tb T) m1) r.id) ?_;rintro _ w9 ⟨co,⟨h3,_⟩|⟨k,r',a,c,kd,h3,rfl,h4,H4⟩⟩
  ·rw[ce]at h3;cases h3
  rw[ce]at h3;cases h3;have H5:=A.Af.use1 H4;clear A H4;refine⟨_,_,_,_,_,_,_,_,_,_,rfl,fun y bi a8=>?_⟩;have H6:=H5.nw a8;refine Hp.sA H6 Jo (cs':=ndC r.id (BC T.L j3) kd r.x a r.x.attrs.length c) fun cv C=>?_;clear H5 H6 a8;refine⟨BC T.L j3,C.lo yInt,p.1.parent,C.lo yInt,Aa (fun h=>(h cd.symm).elim) (fun _=>⟨iR,cb (d.length-(j3+1)) _ _ (by omega) ⟨j3+1,co,.blk y (ndC r.id (BC T.L j3) kd r.x a r.x.attrs.length c) 71::.own 142 2 a r.x.attrs.length c (atC r.x.attrs)::.blk yb (rwC p) 204::X3,rfl,by omega,rfl,C.perm ?_⟩⟩)⟩;refine AL fun ff gg i l q u=>?_;simp only[q,l,i,append_eq,nil_append,cons_append];omega
 ·refine⟨ca,tb,rfl,?_⟩
  rw[<- ak,<- I]
  exact Hp.BN (R:=A0::X3) (H.perm (by
   refine AL fun ff gg i l q u=>?_
   simp only[q,l,i,append_eq,nil_append,cons_append];omega))
end
noncomputable section
open Go Go.Vc Go.Nod
def IZ:LdS->List Cg->Option LdS
 |st,[]=>some st
 |st,c::r=>match Qk st c with
  |none=>none
  |some st'=>IZ st' r
def lds0:LdS:=⟨[],[],0,[],[]⟩
structure LdG(st:LdS)(N:Nat):Prop where
 ok:LdOk st N
 w:Bz ⟨st.P,st.Q,[]⟩ 0
 ql:st.Q.length<=N
 cn:(st.C.map (·.1)).Nodup
 cl:st.C.length<=N
 ci:∀i∈st.C.map (·.1),0<=i/\i<=4294967296
theorem ZF:LdG lds0 0:=⟨⟨Nat.zero_le _,Nat.zero_le _,fun i=>Nat.zero_le _⟩,⟨Nat.zero_le _,fun e h=>(by cases h),.nil,fun e h=>(by cases h),fun e h=>(by cases h),.nil⟩,Nat.zero_le _,.nil,Nat.zero_le _,fun i h=>(by cases h)⟩
theorem headF_id{l:List UInt8}{x:Nat×Nat×Nat}(h:Fol.Dw l=some x):x.1<=4294967296:=by
 rw[Fol.Dw]at h;split at h
 ·cases h
 ·split at h
  ·cases h
  ·cases h
   dsimp only;omega
theorem LdG.take{st m:LdS}{N:Nat}{c:Cg}(h:LdG st N)(f:Qk st c=some m):LdG m (N+1):=by
 have n:=h.ok.take f;rw[Qk]at f;split at f
 ·cases f
 rename_i G;split at f
 ·cases f
 rename_i A;obtain⟨⟨H,I,r⟩,a,t⟩:=Option.map_eq_some_iff.1 f;subst t;have J:=h.ok.P
 have o:0<=c.slot/\c.slot<120:=by
  have g:(Sl.aput (Ba (padP st.P (c.page.toNat+1)) c.page.toNat) c.slot c.s.data.toList).2=0:=Classical.byContradiction fun h=>A (.inr (.inr h));rw[Sl.aput]at g;split at g
  ·cases g
  ·omega
 have p:st.P.length<=((padP st.P (c.page.toNat+1)).set c.page.toNat (Sl.aput (Ba (padP st.P (c.page.toNat+1)) c.page.toNat) c.slot c.s.data.toList).1).length/\c.page.toNat<((padP st.P (c.page.toNat+1)).set c.page.toNat (Sl.aput (Ba (padP st.P (c.page.toNat+1)) c.page.toNat) c.slot c.s.data.toList).1).length:=by
  rw[List.length_set,padP,length_append,List.length_replicate];omega
 have l:=h.w.pages p.1 n.P
 have u:c.page<(((padP st.P (c.page.toNat+1)).set c.page.toNat (Sl.aput (Ba (padP st.P (c.page.toNat+1)) c.page.toNat) c.slot c.s.data.toList).1).length:Int):=by
  have:=p.2;omega
 have B:Bz ⟨(padP st.P (c.page.toNat+1)).set c.page.toNat (Sl.aput (Ba (padP st.P (c.page.toNat+1)) c.page.toNat) c.slot c.s.data.toList).1,gput st.Q (Dk c.s) (c.page,c.slot),[]⟩ 0:=by
  refine⟨l.len,fun e j=>?_,Ht l.qn _ _,fun e j=>?_,l.d,l.dn⟩
  ·rcases JQ j with rfl|j
   ·exact⟨by show 0<=c.page;omega,u,o.1,o.2⟩
   ·exact l.q e j
  ·rcases JQ j with rfl|j
   ·exact RI _
   ·exact l.key e j
 have D:=Qo st.Q (Dk c.s) (c.page,c.slot)
 have y:(r.map (·.1)).Nodup/\r.length<=N+1/\∀i∈r.map (·.1),0<=i/\i<=4294967296:=by
  have b:(st.C.map (·.1)).Nodup/\st.C.length<=N+1/\∀i∈st.C.map (·.1),0<=i/\i<=4294967296:=⟨h.cn,Nat.le_succ_of_le h.cl,h.ci⟩;rw[VN.eq_def]at a;split at a
  ·cases a
  ·split at a
   ·split at a
    ·cases a;exact b
    ·cases a
   ·split at a
    ·obtain⟨K,E,e⟩:=Option.map_eq_some_iff.1 a
     cases e;exact b
    ·split at a
     ·obtain⟨x,F,e⟩:=Option.map_eq_some_iff.1 a
      cases e;refine⟨Ht h.cn _ _,Nat.le_trans (Qo _ _ _) (Nat.succ_le_succ h.cl),fun i k=>?_⟩;rw[JJ]at k
      have z:i∈st.C.map (·.1)\/i=(x.1:Int):=by
       split at k
       ·exact .inl k
       ·rw[List.mem_append,mem_singleton]at k;exact k
      rcases z with k|rfl
      ·exact h.ci i k
      ·have:=headF_id F
       omega
     ·cases a
 exact⟨n,B,by have:=h.ql;show(gput st.Q (Dk c.s) (c.page,c.slot)).length<=N+1;omega,y.1,y.2.1,y.2.2⟩
theorem Qm:∀(l:List Cg)(st a:LdS)(N:Nat),LdG st N->IZ st l=some a->LdG a (N+l.length)
 | [],st,a,N,h,ht=>by cases ht;exact h
 |c::r,st,a,N,h,ht=>by
  rw[IZ]at ht;split at ht
  ·cases ht
  ·rename_i s1 b
   have:=Qm r s1 a (N+1) (h.take b) ht;rw[length_cons,show N+(r.length+1)=N+1+r.length by omega];exact this
structure bP(l:List Cg)(st:LdS)(recs:List Fol.Rec)(F:Fo)(T:Tr):Prop where
 take:IZ lds0 l=some st
 words:WOk st.V
 keys:∃(K:List Int)(rK:List Fol.Rec),K.Perm (st.C.map (·.1))/\(K.Pairwise fun x y=>x<y)/\rK.length=K.length/\(∀(j:Nat)(i:Int)(r:Fol.Rec),K[j]? =some i->rK[j]? =some r->Fol.decR (sortL (pcAt st.C i)) r)/\recs.Perm rK
 rise:recs.Pairwise fun a b=>a.frm<b.frm
 good:BM F T
 tree:aF st.V T recs
 next:max st.next 1=T.next
theorem nLoad_spec{l:List Cg}{st:LdS}{d:List Fol.Rec}{F:Fo}{T:Tr}(E:bP l st d F T)(la:Option Addr)(n lc:Nat)(w:World)(a8:∀W,Chg [] w W->Cells W la (cgsC l))(hn:n=l.length)(bm:n<=400000):
  Calls Tryz.prog 25 #[.slice la n lc] w fun e w'=>∃f b,e=.returned (.tuple #[.pointer (some ⟨b,0,none⟩),.int .i64 0])/\Hp [] w w' [tabA f b ⟨T,spR d,st.V,st.P,st.Q⟩]:=by
 apply nLoad.ok;unfold nLoad.vc;have r:=Qm l lds0 st 0 ZF E.take;rw[Nat.zero_add]at r;refine AC (O3 w) ?_;rintro _ w1 ⟨b,f,rfl,H1⟩;obtain⟨M,⟨z,t,u,G,tf,wf,rfl,_,rfl⟩,U,_⟩:=H1.unpack;clear H1;refine⟨_,rfl,fun I w2 ag Y w3 ah=>?_⟩;obtain⟨cf,Z⟩:=pcs_nil (U.newI EQ4 .i64 ag);have H4:=(Z.new (cs:=ldC z.ub 0 none 0 0 I none 0 0) EQ4 ah).nilS 9 1;clear U Z ag ah
 refine AP.mk (fun m s w'=>∃(j:Nat)(p:Option Addr)(q:Nat)(cf G:List Nat)(t:Option Addr)(u:Nat)(s1:LdS)(X:List Asn),m=n-j/\j<=n/\s=(j:Int)/\LdG s1 j/\IZ s1 (l.drop j)=some st/\
  Hp [] w w' (ldL Y I z p q none 0 0 cf G t u s1++(AU tf z.tb ⟨[],1⟩::.imap z.sb .i64 (smC [])::Ak wf z.wb []::X))) n ⟨0,none,0,cf,G,t,u,lds0,[],rfl,by omega,rfl,ZF,E.take,H4.perm ?_⟩ ?_
 ·refine AL fun ff gg h0 J N ab=>?_
  have e1:BL lds0.V=[]:=rfl;have e2:tab0.T=⟨[],1⟩/\tab0.S=[]/\tab0.W=[]/\tab0.P=lds0.P/\tab0.Q=lds0.Q:=⟨rfl,rfl,rfl,rfl,rfl⟩;have e3:lds0.V.length=0/\lds0.next=0/\lds0.C=[]:=⟨rfl,rfl,rfl⟩;simp only[tabL,ldL,e1,e2.1,e2.2.1,e2.2.2.1,e2.2.2.2.1,e2.2.2.2.2,e3.1,e3.2.1,e3.2.2,N,J,h0,append_eq,nil_append,cons_append];omega
 clear H4;rintro m s w4 nx ⟨j,p,q,cf,G,t,u,s1,X,rfl,hj,rfl,hg,ht,H⟩ ak;refine AB (fun h1=>?_) (fun h1=>?_)
 ·have y:j<l.length:=by omega
  obtain⟨c,al⟩:∃c,c=l[j]:=⟨_,rfl⟩
  have J:l[j]? =some c:=by rw[al];exact List.getElem?_eq_getElem y
  have a9:l.drop j=c::l.drop (j+1):=by rw[al];exact List.drop_eq_getElem_cons y
  rw[a9,IZ]at ht;split at ht
  ·cases ht
  rename_i s2 ae;have am:=a8 w4 H.chg;have af:=NM J;obtain⟨ad,an⟩:=am.some (fun e=>by rw[e]at af;simp[cgC]at af);refine AA an ⟨⟨by omega,h1⟩,c.page,c.slot,c.s,c.gone,by rw[Int.toNat_natCast];exact am.ldA magg an af rfl,fun yb w5 ao=>?_⟩;have U:=H.nw ao;refine Hp.sA U magg (cs':=cgC c) fun w6 Z=>?_;clear H U ao;refine⟨c.page,c.slot,c.s,c.gone,Z.loA magg,?_⟩;have H4:=Z.drop;obtain⟨pg,sl,s,ap⟩:=c;have aq:s=bts s.data.toList:=(KT s).symm;have ar:=ae;rw[aq]at ae;have av:=nTake_spec Y I z p q none 0 0 cf G t u s1 s2 j hg.ok (by omega) pg sl s.data.toList ap ae H4;rw[<- aq]at av;refine AC av ?_;rintro _ w7 ⟨ba,bb,bc,bd,bf,bg,rfl,H5⟩;refine⟨true,rfl,BG (x:=_) ⟨iR,ak (n-(j+1)) _ _ (by omega) ⟨j+1,ba,bb,bc,bd,bf,bg,s2,X,rfl,by omega,rfl,hg.take ar,ht,H5⟩⟩⟩
 have y:j=l.length:=by omega
 rw[y,List.drop_length,IZ]at ht;cases ht;clear ak;refine⟨p,st.V.length,q,H.lo rSS,?_⟩;have aw:Own w4 0 9 1 p st.V.length q (BL st.V):=H.ownA m1;refine AC (xLoad_spec p st.V.length q st.V w4 aw.cells rfl E.words) ?_;rintro _ w5 ⟨A,O,rfl,U⟩;have Z:=H.ext1 U;clear H U aw;refine⟨_,_,rfl,Aa (fun h=>(h rfl).elim) (fun _=>?_)⟩;obtain⟨K,rK,k1,k2,k3,k4,k5⟩:=E.keys
 have H4:Hp [] w w5 (.blk Y (ldC z.ub st.next p st.V.length q I none 0 0) 128::pcsA cf I st.C::(Ak A O st.V::.blk z.ub (tbC z t st.P.length u) 86::pgsA G t u st.P::.smap z.qb (gC Ah st.Q)::.imap z.sb .i64 (smC [])::.own 9 1 p st.V.length q (BL st.V)::AU tf z.tb ⟨[],1⟩::Ak wf z.wb []::X)):=Z.perm (by
  refine AL fun ff gg h0 J N ab=>?_
  simp only[ldL,N,J,h0,append_eq,nil_append,cons_append];omega)
 clear Z;refine AC (nNodes_spec Y z.ub I st.next p st.V.length q cf st.C r.cn (by have:=r.cl;omega) (fun i=>by have:=r.ok.C i;omega) (fun i hi=>by have:=r.ci i hi;omega) K k1 k2 rK k3 k4 H4) ?_;rintro _ w6 ⟨aa,ac,B,rfl,bh,bi,H5⟩;clear H4
 have a0:B.map (·.1)=d:=by
  have h1:(B.map (·.1)).Perm d:=bh.trans k5.symm;have h2:(B.map (·.1)).Pairwise fun a b=>a.frm<=b.frm:=pairwise_map.2 bi;refine List.Perm.eq_of_pairwise (le:=fun a b=>a.frm<=b.frm) (fun a b N hb h3 h4=>?_) h2 (E.rise.imp fun h=>Int.le_of_lt h) h1;have bn:a.frm=b.frm:=Int.le_antisymm h3 h4;have bj:=h1.mem_iff.1 N;obtain⟨i,hi⟩:=List.getElem?_of_mem bj;obtain⟨j,hj⟩:=List.getElem?_of_mem hb;obtain⟨a1,a2⟩:=List.getElem?_eq_some_iff.1 hi;obtain⟨y,a3⟩:=List.getElem?_eq_some_iff.1 hj;rcases Nat.lt_trichotomy i j with h|h|h
  ·have:=List.pairwise_iff_getElem.1 E.rise i j a1 y h
   rw[a2,a3]at this;omega
  ·subst h
   rw[hi]at hj;exact Option.some.inj hj
  ·have:=List.pairwise_iff_getElem.1 E.rise j i y a1 h
   rw[a2,a3]at this;omega
 refine⟨true,rfl,BG (x:=_) ⟨_,H5.lo rPT,AA rfl ?_⟩⟩;rw[add_lit]
 have H6:Hp [] w w6 (.blk z.ub (tbC z t st.P.length u) 86::.blk Y (ldC z.ub st.next p st.V.length q I aa B.length ac) 128::.own 204 8 aa B.length ac (B.flatMap rwC)::.imap z.sb .i64 (smC [])::Ak A O st.V::(B.map rwO++(pgsA G t u st.P::.smap z.qb (gC Ah st.Q)::.own 9 1 p st.V.length q (BL st.V)::AU tf z.tb ⟨[],1⟩::Ak wf z.wb []::X))):=H5.perm (by
  refine AL fun ff gg h0 J N ab=>?_
  simp only[N,J,h0,append_eq,nil_append,cons_append];omega)
 clear H5;obtain⟨k,a4⟩:∃k:WN,k= {z with wb:=O}:=⟨_,rfl⟩
 have R:k.ub=z.ub/\k.sb=z.sb/\k.wb=O/\k.qb=z.qb:=by rw[a4];exact⟨rfl,rfl,rfl,rfl⟩
 refine Hp.st (o:=0+2) H6 EQ4 rPB rfl rfl (by simp[tbC]) (cs':=tbC k t st.P.length u) (by rw[a4];rfl) fun w7 H7=>?_;clear H6
 have H8:Hp [] w w7 (.blk Y (ldC k.ub st.next p st.V.length q I aa B.length ac) 128::.blk k.ub (tbC k t st.P.length u) 86::.own 204 8 aa B.length ac (B.flatMap rwC)::.imap k.sb .i64 (smC [])::Ak A k.wb st.V::(B.map rwO++(pgsA G t u st.P::.smap z.qb (gC Ah st.Q)::.own 9 1 p st.V.length q (BL st.V)::AU tf z.tb ⟨[],1⟩::Ak wf z.wb []::X))):=by
  rw[R.1,R.2.1,R.2.2.1];exact H7.Af
 clear H7;refine AC (nTreeQ_spec Y k t st.P.length u st.next p st.V.length q I aa ac B A st.V E.good (by rw[a0];exact E.tree) E.next H8) ?_;rintro _ w8 ⟨a5,a6,rfl,H9⟩;clear H8;rw[a0]at H9;refine⟨true,rfl,BG (x:=_) ⟨_,H9.lo rPT,?_⟩⟩;obtain⟨D,a7⟩:∃D:WN,D= {k with tb:=a6}:=⟨_,rfl⟩
 have g:D.ub=k.ub/\D.tb=a6/\D.sb=k.sb/\D.wb=k.wb/\D.qb=z.qb:=by rw[a7];exact⟨rfl,rfl,rfl,rfl,R.2.2.2⟩
 rw[<- a7]at H9
 have bk:Hp [] w w8 (tabL D t u G a5 A ⟨T,spR d,st.V,st.P,st.Q⟩++(.blk Y (ldC k.ub st.next p st.V.length q I aa B.length ac) 128::.own 9 1 p st.V.length q (BL st.V)::AU tf z.tb ⟨[],1⟩::Ak wf z.wb []::X)):=H9.perm (by
  refine AL fun ff gg h0 J N ab=>?_
  simp only[tabL,g.1,g.2.1,g.2.2.1,g.2.2.2.1,g.2.2.2.2,N,J,h0,append_eq,nil_append,cons_append];omega)
 obtain⟨f',bl⟩:=bk.Cm (Q:=tabQ D.ub ⟨T,spR d,st.V,st.P,st.Q⟩) ⟨D,t,u,G,a5,A,rfl,⟨r.w,by have:=r.ql;show st.Q.length<=500000;omega⟩,rfl⟩;exact⟨f',D.ub,by rw[g.1],Hp.BN (L:=[_]) bl⟩
end
end Go.Proofs.YtljenkbpnioipaaGreat
namespace Go.Nod
open Go
end Go.Nod
namespace Go.Proofs.YtljenkbpnioipaaGreat
noncomputable section
open Go Go.Vc Go.Nod
structure PgW(L:Sl.Recs):Prop where
 up:L.Pairwise fun a b=>a.1<b.1
 lt:∀p∈L,p.1<120
 few:Sl.tot L<=3600
theorem PgW.nil:PgW []:=⟨.nil,fun p h=>(by cases h),by show 0<=3600;omega⟩
theorem MC{P:List Sl.Recs}{n:Nat}(h:P.length<=n):Ba P n=[]:=by rw[Ba,List.getElem?_eq_none h];rfl
def PgsW(P:List Sl.Recs):Prop:=∀L∈P,PgW L
theorem PgsW.page{P:List Sl.Recs}(h:PgsW P)(n:Nat):PgW (Ba P n):=by
 rw[Ba]
 cases e:P[n]? with
 |none=>exact .nil
 |some L=>exact h L (mem_of_getElem? e)
open Classical in
end
noncomputable section
open Go Go.Vc Go.Nod
end
noncomputable section
open Go Go.Vc Go.Nod
end
noncomputable section
open Go Go.Vc Go.Nod
theorem LV:∀(P:List Sl.Recs)(n:Nat)(c:Cg),c∈EC n P↔∃m p,p∈Ba P m/\c=⟨((n+m:Nat):Int),((p.1:Nat):Int),bts p.2,false⟩
 | [],n,c=>by
  constructor
  ·intro h;cases h
  ·rintro⟨m,p,h,_⟩;rw[MC (Nat.zero_le _)]at h;cases h
 |R::r,n,c=>by
  rw[EC,List.mem_append,LV r (n+1) c,EY,mem_map];constructor
  ·rintro(⟨p,a,rfl⟩|⟨m,p,a,rfl⟩)
   ·exact⟨0,p,a,rfl⟩
   ·exact⟨m+1,p,a,by rw[Nat.add_assoc,Nat.add_comm 1 m]⟩
  ·rintro⟨m,p,a,rfl⟩
   cases m with
   |zero=>exact .inl ⟨p,a,rfl⟩
   |succ m=>exact .inr ⟨m,p,a,by rw[Nat.add_assoc,Nat.add_comm 1 m]⟩
theorem OW{P:List Sl.Recs}{c:Cg}:c∈Df P↔∃(m:Nat)(p:Nat×List UInt8),p∈Ba P m/\c=⟨(m:Int),(p.1:Int),bts p.2,false⟩:=by
 rw[Df,LV];simp only[Nat.zero_add]
def VS(a b:Cg):Prop:=a.page<b.page\/a.page=b.page/\a.slot<b.slot
theorem Ry:∀(P:List Sl.Recs)(n:Nat),PgsW P->(EC n P).Pairwise VS
 | [],n,_=>.nil
 |R::r,n,h=>by
  rw[EC,List.pairwise_append];refine⟨?_,Ry r (n+1) (fun L c=>h L (.tail _ c)),fun a d b e=>?_⟩
  ·rw[EY,pairwise_map]
   refine(h R (.head _)).up.imp fun{a b} f=>.inr ⟨rfl,?_⟩;show(a.1:Int)<(b.1:Int);omega
  ·obtain⟨p,_,rfl⟩:=mem_map.1 d
   obtain⟨m,q,_,rfl⟩:=(LV r (n+1) b).1 e;left;show(n:Int)<((n+1+m:Nat):Int);omega
theorem bQ{P:List Sl.Recs}(h:PgsW P):(Df P).Pairwise VS:=Ry P 0 h
end
noncomputable section
open Go Go.Vc Go.Nod
section
variable{F:Fo}{X:Tab}{l:List Cg}{st:LdS}
end
end
noncomputable section
open Go Go.Vc Go.Nod
end
noncomputable section
open Go Go.Vc Go.Nod
end
end Go.Proofs.YtljenkbpnioipaaGreat
namespace Go.Vc
open Go
end Go.Vc
namespace Go.Proofs.YtljenkbpnioipaaGreat
noncomputable section
open Go Go.Vc Go.Nod
def Je(a b:Cg):Prop:=if a.page≠b.page then a.page<b.page else a.slot<b.slot
instance (a b:Cg):Decidable (Je a b):=by unfold Je;infer_instance
theorem ahead_lt{a b:Cg}:Je a b↔VS a b:=by
 unfold Je VS;split<;>omega
open Classical in
end
open Go Go.Vc
section
variable(P:Program)(I:Int->Value)(Q:Option Addr->Value)(S:Option Addr->Nat->Nat->Value)(E:Value->Ending)(w:World)(R:Ending->World->Prop){u:World}{U:Ending->World->Prop}(p0 p1 p2:Option Addr)(n0 n1 n2 n3:Nat)(i0 i1 i2 i3 i4 i5 i6 i7 i8 i9 i10 i11:Int)(s0 s1 s2 s3:ByteArray)(b0 b1:Bool)(m0:Option Nat)(v0:Value)
def fewW.vc:Prop:=AP (St:=Int×Int) (fun a d q=>B0 (a.2<(↑n0:Int)) (onP p0 fun e=>D1 a.2 n0/\G4 d (e.add (a.2.toNat*7)) fun j k l m n o i b c=>N2 d 0 0 0 0 (.mk #[]) (.mk #[]) none 0 0 fun f p=>U2 p f 0 j k l m n o i b c fun h=>L6 h f 6 fun e b c=>q (IntKind.wrap .i64 (a.1+(↑b:Int)),IntKind.wrap .i64 (a.2+1)) h) (B0 ((↑n0:Int)<=50) (R (E (.bool (decide (a.1<=1200)))) d) (R (E (.bool false)) d))) (0,0) w
theorem fewW.ok(Z0:fewW.vc .returned u U p0 n0):Calls Tryz.prog 11 #[.slice p0 n0 n1] u U:=cok ⟨[0,1,2,3,4,5,6,7,8,9,10,11,12],[(3,[(3,.inl .i64),(8,.inl .i64)])],[],[]⟩ Tryz.func11 Z0
end
noncomputable section
open Go.Nod
structure NOp where
 o:OpP
 a:Option Addr
 c:Nat
 ss:List Sl3
def nopC(q:NOp):List Value:=opC q.o q.a q.o.l.length q.c
def NY(os:List NOp):List Value:=os.flatMap nopC
theorem nopsC_len(a:List NOp):(NY a).length=a.length*7:=by
 induction a with
 |nil=>rfl
 |cons o r b=>rw[NY,flatMap_cons,length_append,<- NY,b,length_cons];show 7+_=_;omega
theorem XG:∀{a:List NOp}{k:Nat}{q:NOp},a[k]? =some q->((NY a).drop (k*7)).take 7=nopC q
 |x::r,0,q,h=>by
  simp at h;subst h;rw[NY,flatMap_cons,Nat.zero_mul,drop_zero];exact List.take_left' rfl
 |x::r,k+1,q,h=>by
  rw[List.getElem?_cons_succ]at h;rw[NY,flatMap_cons,Nat.succ_mul,Nat.add_comm,<- drop_drop,List.drop_left' (by rfl)];exact XG h
structure NScr(w:World)(sa:Option Addr)(os:List NOp):Prop where
 cells:Cells w sa (NY os)
 it:∀q∈os,DX [] w q.a q.o.l.length q.o.l q.ss
 len:os.length<=140737488355328
 lens:∀q∈os,q.o.l.length<=140737488355328
 txt:∀q∈os,q.o.text.size<=maxLen
theorem Yw:Agg Tryz.prog 36 7:=Cb (by kernel_rfl)
theorem bJ:Agg Tryz.prog 79 4:=Cb (by kernel_rfl)
theorem meltR:Elt Tryz.prog 37 79 4 40:=CQ (by kernel_rfl)
theorem mundR:Tryz.prog.underlying 37=some (.slice 79):=by kernel_rfl
theorem mSI:Scl Tryz.prog 34:=BH (by kernel_rfl)
theorem NScr.ld{w w':World}{e:Option Addr}{c:List NOp}(h:NScr w e c)(hc:Chg [] w w'){k:Nat}{q:NOp}(f:c[k]? =some q):∃b,e=some b/\Ld Tryz.prog 36 w' (b.add (k*7)) (.agg (nopC q).toArray):=by
 have g:=(List.getElem?_eq_some_iff.1 f).1
 have d:0<(NY c).length:=by rw[nopsC_len];omega
 obtain⟨b,a,_⟩:=h.cells 0 _ (List.getElem?_eq_getElem d);exact⟨b,a,(h.cells.chg hc (by simp)).ldA Yw a (XG f) rfl⟩
def sumN(os:List NOp):Nat:=(os.map fun q=>q.o.l.length).sum
structure FewN(os:List NOp):Prop where
 len:os.length<=50
 sum:sumN os<=1200
theorem sumN_snoc(a:List NOp)(q:NOp):sumN (a++[q])=sumN a+q.o.l.length:=by simp[sumN]
theorem ZV:∀(a:List NOp),(∀q∈a,q.o.l.length<=140737488355328)->sumN a<=a.length*140737488355328
 | [],_=>by simp[sumN]
 |o::r,h=>by
  have b:=ZV r fun q c=>h q (.tail _ c);have:=h o (.head _);simp only[sumN,map_cons,List.sum_cons,length_cons]at b⊢;omega
theorem few_spec(u:Option Addr)(z:Nat)(a:List NOp){w0 w:World}(j:NScr w0 u a)(hc:Chg [] w0 w):
  Calls Tryz.prog 11 #[.slice u a.length z] w fun e w'=>∃b:Bool,e=.returned (.bool b)/\(b=true->FewN a)/\Hp [] w w' []:=by
 apply fewW.ok;unfold fewW.vc;have A:=j.len;refine AP.mk (fun m (s:Int×Int) w'=>∃(k:Nat)(n:Int),m=a.length-k/\k<=a.length/\s=(n,(k:Int))/\(k<=60->n=(sumN (a.take k):Int))/\Hp [] w w' []) a.length ⟨0,0,rfl,by omega,rfl,fun _=>rfl,Hp.start w⟩ ?_
 rintro m s G next ⟨k,n,rfl,I,rfl,c,H⟩ d
 dsimp only;refine AB (fun x=>?_) (fun x=>?_)
 ·have f:k<a.length:=by omega
  obtain⟨q,i⟩:∃q,a[k]? =some q:=⟨_,List.getElem?_eq_getElem f⟩;obtain⟨J,l,o⟩:=j.ld (hc.trans H.chg (by simp) (by simp)) i
  have p:a.take (k+1)=a.take k++[q]:=by rw[take_succ_eq_append_getElem f,(List.getElem?_eq_some_iff.1 i).2]
  refine AA l ⟨⟨by omega,x⟩,_,_,_,_,_,_,_,_,_,by rw[Int.toNat_natCast];exact o,?_⟩;intro b K B;have C:=H.nw B;refine Hp.sA C Yw (cs':=nopC q) fun L y=>?_;refine⟨_,_,_,y.lo mSI,?_⟩
  have r:IntKind.i64.wrap ((k:Int)+1)=((k+1:Nat):Int):=by rw[Gu (by omega)];rfl
  refine d (a.length-(k+1)) _ _ (by omega) ⟨k+1,_,rfl,by omega,by rw[r],fun D=>?_,y.done⟩;have g:=ZV (a.take (k+1)) fun q i=>j.lens q (List.mem_of_mem_take i);rw[List.length_take]at g
  have:min (k+1) a.length<=60:=by omega
  have:min (k+1) a.length*140737488355328<=60*140737488355328:=Nat.mul_le_mul_right _ this;rw[p,sumN_snoc]at g⊢;rw[c (by omega),Gu (by omega)];omega
 ·have t:k=a.length:=by omega
  subst t;rw[take_length]at c;refine AB (fun E=>⟨_,rfl,fun F=>?_,H⟩) (fun E=>⟨false,rfl,fun h=>(by cases h),H⟩);rw[decide_eq_true_eq]at F;have:=c (by omega);exact⟨by omega,by omega⟩
theorem own_spec(o:OpP)(a:Option Addr)(n c:Nat)(w:World):Calls Tryz.prog 20 #[.agg (opC o a n c).toArray] w fun e w'=>e=.returned (.agg (opC o a n c).toArray)/\Hp [] w w' []:=by
 apply own.ok;unfold own.vc;intro b h d i j f;have H:=((Hp.start w).new (cs:=opC o a n c) EQ4 d).nw f;have k:∀{x:Asn}{L:List Asn},Asn.blk b (opC o a n c) 36∈x::(Asn.blk b (opC o a n c) 36::L):=.tail _ (.head _);refine⟨o.kind,H.lo yInt,o.id,H.lo yInt,o.to,H.lo yInt,o.at_,H.lo yInt,o.name,H.lo yStr,o.text,H.lo yStr,a,n,c,H.lo mSI,?_⟩;refine Hp.sA H Zf (cs':=opC o a n c) fun l g=>?_;exact⟨_,_,_,_,_,_,_,_,_,g.loA Zf,rfl,g.done⟩
theorem plain_spec(q:Option Addr)(A:Nat)(l:List Cg)(w:World)(N:l.length<=1000000)(B:Cells w q (cgsC l)):
  Calls Tryz.prog 16 #[.slice q l.length A] w fun e w'=>∃a c,e=.returned (.slice a l.length c)/\Hp [] w w' [.own 79 4 a l.length c (cgsC l)]:=by
 apply plain.ok;unfold plain.vc;refine AP.mk (fun m s w'=>∃(k:Nat)(a:Option Addr)(c:Nat)(X:List Asn),m=l.length-k/\k<=l.length/\s=((a,k,c),(k:Int))/\Hp [] w w' (.own 79 4 a k c (cgsC (l.take k))::X)) l.length ⟨0,none,0,[],rfl,by omega,rfl,(Hp.start w).nilS 79 4⟩ ?_
 rintro m s O next ⟨k,a,c,X,rfl,Q,rfl,H⟩ d
 dsimp only;refine AB (fun r=>?_) (fun r=>?_)
 ·have f:k<l.length:=by omega
  obtain⟨x,t⟩:∃x,l[k]? =some x:=⟨_,List.getElem?_eq_getElem f⟩
  have i:l.take (k+1)=l.take k++[x]:=by rw[take_succ_eq_append_getElem f,(List.getElem?_eq_some_iff.1 t).2]
  have h:=B.chg H.chg (by simp)
  have j:0<(cgsC l).length:=by rw[Qi];omega
  obtain⟨R,g,_⟩:=h 0 _ (List.getElem?_eq_getElem j);refine AA g ⟨⟨by omega,r⟩,x.page,x.slot,x.s,x.gone,by rw[Int.toNat_natCast];exact h.ldA magg g (NM t) rfl,fun b S n=>?_⟩;have C:=H.nw n;refine Hp.sA C magg (cs':=cgC x) fun T u=>?_;refine⟨x.page,x.slot,x.s,x.gone,u.loA magg,fun y D o=>?_⟩;have E:=u.new (cs:=cgC x) EQ4 o
  have z:Hp [] w D (.own 79 4 a k c (cgsC (l.take k))::.blk y (cgC x) 79::(.blk b (cgC x) 55::X)):=E.perm (by
   refine AL fun ff U F h G I=>?_
   simp only[G,h,F];omega)
  refine Hp.app meltR (by omega) z EQ4 (Blk.src (P:=Tryz.prog) mundR (z.blk m1) rfl rfl) (by simp only[maxLen];omega) (by omega) ?_;intro J K Y M;refine⟨iR,d (l.length-(k+1)) _ _ (by omega) ⟨k+1,J,K,.blk y (cgC x) 79::.blk b (cgC x) 55::X,rfl,by omega,rfl,?_⟩⟩;rw[i,OV];exact M
 ·have p:k=l.length:=by omega
  subst p;rw[take_length]at H;exact⟨a,c,rfl,Hp.BN (L:=[_]) H⟩
instance:DecidableEq Cg:=fun a b=>decidable_of_iff (a.page=b.page/\a.slot=b.slot/\a.s=b.s/\a.gone=b.gone) ⟨fun h=>by
 obtain⟨a1,a2,a3,a4⟩:=a
 obtain⟨b1,b2,b3,b4⟩:=b
 dsimp only at h
 rw[h.1,h.2.1,h.2.2.1,h.2.2.2],fun h=>by subst h;exact⟨rfl,rfl,rfl,rfl⟩⟩
theorem aS{w:World}{d:Option Addr}{l:List Cg}(h:Cells w d (cgsC l)){k:Nat}{x:Cg}(e:l[k]? =some x):∃b,d=some b/\Ld Tryz.prog 79 w (b.add (k*4)) (.agg (cgC x).toArray):=by
 have f:=(List.getElem?_eq_some_iff.1 e).1
 have c:0<(cgsC l).length:=by rw[Qi];omega
 obtain⟨b,a,_⟩:=h 0 _ (List.getElem?_eq_getElem c);exact⟨b,a,h.ldA bJ a (NM e) rfl⟩
end
end Go.Proofs.YtljenkbpnioipaaGreat
namespace Go.Vc
open Go Go.ChangeShapes Go.WideShapes Go.WideElems
noncomputable section
def RdK(P:Program)(w:World):Nat->TypeId->(List Value->Prop)->Prop
 |0,_,K=>∃cs,K cs
 |n+1,t,K=>match P.underlying t with
  |some (.int k)=>∃i,inR k i/\K [.int k i]
  |some .bool=>∃b,K [.bool b]
  |some .string=>∃s:ByteArray,s.size<=reachBytes/\K [.string s]
  |some (.slice e)=>∃(a:Option Addr)(cap:Nat)(els:List (List Value)),els.length<=cap/\cap<=maxLen/\els.length*P.bytesOf e<=reachBytes/\(a=none->els=[])/\(∀x∈els,RdK P w n e (fun cs=>x=cs))/\Cells w a els.flatten/\K [.slice a els.length cap]
  |some (.struct fs)=>exLs (RdK P w n) (fs.toList.map (·.type)) K
  |_=>∃cs,K cs
def ofC(b:Option Bool)(cs:List Value):Value:=match b with
 |some true=>.agg cs.toArray
 |_=>cs.headD .nilFunc
def RdA(P:Program)(w:World)(n:Nat):List TypeId->(List Value->Prop)->Prop
 | [],K=>K []
 |t::r,K=>RdK P w n t fun cs=>RdA P w n r fun l=>K (ofC (aggB P t) cs::l)
section
variable{H:Type}{enc:TypeId×Value->H}{P:Program}{w:World}{base:Nat}{spare:Nat->Bool}{held:Bool}
theorem lit_inR{k:IntKind}{n:Int}(h:(Lit.int k n).wf=true):inR k n:=by
 simpa [Lit.wf,inR]using h
theorem Zb{f:TypeId->(List Value->Prop)->Prop}:∀(l:List TypeId)(p:List (List Value))(K:List Value->Prop),p.length=l.length->(∀(i:Nat)(t:TypeId)(x:List Value),l[i]? =some t->p[i]? =some x->∀a:List Value->Prop,a x->f t a)->K p.flatten->exLs f l K
 | [],[],K,_,_,hk=>by simpa [exLs]using hk
 |t::r,x::q,K,hl,hf,hk=>by
  rw[exLs];refine hf 0 t x rfl rfl _ ?_;refine Zb r q _ (by simpa using hl) (fun i t y b c=>hf (i+1) t y b c) ?_;simpa using hk
theorem YL:∀(a:List Nat)(cs:List Value),cs.length=a.sum->((List.range a.length).map fun i=>(cs.drop (a.take i).sum).take (a.getD i 0)).flatten=cs
 | [],cs,h=>by
  have:cs=[]:=List.eq_nil_of_length_eq_zero (by simpa using h);simp[this]
 |n::r,cs,h=>by
  have b:=YL r (cs.drop n) (by simp at h⊢;omega);rw[length_cons,List.range_succ_eq_map,map_cons,flatten_cons,map_map]
  have e:((fun i=>(cs.drop ((n::r).take i).sum).take ((n::r).getD i 0))∘Nat.succ)=fun i=>((cs.drop n).drop (r.take i).sum).take (r.getD i 0):=by
   funext i;simp[drop_drop]
  rw[e,b];simp[List.take_append_drop]
theorem rdK(hl:laidOutB P=true):∀(n:Nat)(fuel:Nat)(t:TypeId)(cs:List Value)(x:DataW H×List MemPlace)(K:List Value->Prop),t<P.types.size->DataW.trod enc P w base spare held fuel t cs=some x->(x.1.weights P t).all (· <=reachBytes)=true->K cs->RdK P w n t K:=by
 intro n
 induction n with
 |zero=>intro fuel t cs x K _ _ _ hk;exact⟨cs,hk⟩
 |succ n ih=>
  intro fuel t cs x K ht h hwt hk;unfold RdK;split
  ·rename_i k hu
   obtain⟨i,rfl,_,hw⟩:=DataW.trod_int hu h;exact⟨i,lit_inR hw,hk⟩
  ·rename_i hu
   obtain⟨b,rfl,_⟩:=DataW.trod_bool hu h;exact⟨b,hk⟩
  ·rename_i hu
   obtain⟨s,rfl,rfl,hs⟩:=DataW.trod_string hu h;simp only[DataW.weights,all_cons,List.all_nil,Bool.and_true,decide_eq_true_eq]at hwt;exact⟨s,by rw[Array.length_toList]at hwt;exact hwt,hk⟩
  ·rename_i e hu
   have he:e<P.types.size:=kid_slice hl ht hu
   rcases DataW.trod_slice hu h with⟨rfl,_⟩|⟨a,len,cap,elems,rest,m,rfl,rfl,hxx,hb,h1,h2,hlen,hel,hr1,hr2⟩
   ·exact⟨none,0,[],Nat.le_refl _,by simp[maxLen],by rw[List.length_nil,Nat.zero_mul];exact Nat.zero_le _,fun _=>rfl,by simp,by intro j v hj;simp at hj,hk⟩
   ·rw[hxx]at hwt
    simp only[DataW.weights,hu,all_cons,all_append,Bool.and_eq_true,decide_eq_true_eq,length_map]at hwt
    have hwe:∀z∈elems,(z.1.weights P e).all (· <=reachBytes)=true:=by
     have hmem:∀(l:List (DataW H)),(DataW.weightsAll P e l).all (· <=reachBytes)=true->∀d∈l,(d.weights P e).all (· <=reachBytes)=true:=by
      intro l
      induction l with
      |nil=>intro _ d hd;cases hd
      |cons x r ihr=>
       intro hl d hd;simp only[DataW.weightsAll,all_append,Bool.and_eq_true]at hl;rcases mem_cons.1 hd with rfl|hd
       ·exact hl.1
       ·exact ihr hl.2 d hd
     exact fun z hz=>hmem _ hwt.2.1 _ (List.mem_map_of_mem hz)
    have hall:∀i,i<len->∃y,w.cells? base (a.add (i*P.cellsOf e)) (P.cellsOf e)=some y/\∃z∈elems,DataW.trod enc P w base spare held m e y=some z:=by
     intro i hi;have h3:=hel i hi;rw[List.getElem?_eq_getElem (by omega),Option.bind_eq_some_iff]at h3;obtain⟨y,hy,hz⟩:=h3;exact⟨y,hy,_,List.getElem_mem _,hz⟩
    obtain⟨els,hels,hget⟩:∃els:List (List Value),els.length=len/\∀i y,els[i]? =some y->w.cells? base (a.add (i*P.cellsOf e)) (P.cellsOf e)=some y/\∃z∈elems,DataW.trod enc P w base spare held m e y=some z:=by
     clear hel hlen h hk h1 hr1 hr2 hxx hwt
     induction len with
     |zero=>exact⟨[],rfl,by simp⟩
     |succ q ihq=>
      obtain⟨els,e1,e2⟩:=ihq fun i hi=>hall i (by omega);obtain⟨y,hy⟩:=hall q (by omega);refine⟨els++[y],by simp[e1],fun i z hz=>?_⟩;rw[List.getElem?_append]at hz;split at hz
      ·exact e2 i z hz
      ·have hi:i=q:=by
        have:=(List.getElem?_eq_some_iff.1 hz).1;simp at this;omega
       subst hi;simp[e1]at hz;subst hz;exact hy
    have hsz:∀y∈els,y.length=P.cellsOf e:=by
     intro y hy;obtain⟨i,hi⟩:=List.getElem?_of_mem hy;exact(World.cells?_some (hget i y hi).1).2.1
    refine⟨some a,cap,els,by omega,h2,Nat.le_trans (Nat.mul_le_mul_right _ (by omega)) hwt.1,by simp,?_,?_,by rw[hels];exact hk⟩
    ·intro y hy
     obtain⟨i,hi⟩:=List.getElem?_of_mem hy;obtain⟨_,z,hzm,hz⟩:=hget i y hi;exact ih m e y z _ he hz (hwe z hzm) rfl
    ·have hcell:∀(els:List (List Value))(i0:Nat),(∀i y,els[i]? =some y->y.length=P.cellsOf e/\∀j v,y[j]? =some v->w.cell? (a.add ((i0+i)*P.cellsOf e+j))=some v)->∀j v,els.flatten[j]? =some v->w.cell? (a.add (i0*P.cellsOf e+j))=some v:=by
      intro els
      induction els with
      |nil=>intro i0 _ j v hj;simp at hj
      |cons y r ihr=>
       intro i0 hh j v hj;obtain⟨hy,hyc⟩:=hh 0 y rfl;rw[flatten_cons,List.getElem?_append]at hj;split at hj
       ·simpa using hyc j v hj
       ·have:=ihr (i0+1) (fun i z hz=>by
         have:=hh (i+1) z hz
         rw[show i0+1+i=i0+(i+1) by omega];exact this) (j-y.length) v hj
        rw[Nat.add_mul,Nat.one_mul]at this;rw[show i0*P.cellsOf e+j=i0*P.cellsOf e+P.cellsOf e+(j-y.length) by omega];exact this
     intro j v hj;refine⟨a,rfl,?_⟩
     have:=hcell els 0 (fun i y hi=>⟨hsz y (mem_of_getElem? hi),fun j v hv=>by
      have:=(World.cells?_some (hget i y hi).1).2.2 j (by rw[<- hsz y (mem_of_getElem? hi)];exact(List.getElem?_eq_some_iff.1 hv).1);rw[add_add,hv]at this
      simpa using this⟩) j v hj
     simpa using this
  ·rename_i fs hu
   obtain⟨xs,m,_,rfl,hcl,hxl,hf⟩:=DataW.trod_struct hu h;obtain⟨k1,k2,k3⟩:=kid_struct hl ht hu
   have hws:∀(ts:List TypeId)(l:List (DataW H)),(DataW.weightsEach P ts l).all (· <=reachBytes)=true->∀(i:Nat) t d,ts[i]? =some t->l[i]? =some d->(d.weights P t).all (· <=reachBytes)=true:=by
    intro ts
    induction ts with
    |nil=>intro l _ i t d h1;simp at h1
    |cons t0 r ihr=>
     intro l hl i t d h1 h2
     cases l with
     |nil=>simp at h2
     |cons d0 l=>
      simp only[DataW.weightsEach,all_append,Bool.and_eq_true]at hl
      cases i with
      |zero=>simp at h1 h2;subst h1 h2;exact hl.1
      |succ i=>exact ihr l hl.2 i t d (by simpa using h1) (by simpa using h2)
   simp only[DataW.weights,hu]at hwt;have hcut:=YL (fs.toList.map fun f=>P.cellsOf f.type) cs (by rw[hcl,k2]);refine Zb _ _ _ ?_ ?_ (by rw[hcut];exact hk)
   ·simp
   ·intro i t y h1 h2 K' hK'
    simp only[List.getElem?_map,Option.map_eq_some_iff]at h1;obtain⟨f,hfi,rfl⟩:=h1;have hi:i<fs.toList.length:=(List.getElem?_eq_some_iff.1 hfi).1;simp only[length_map,List.getElem?_map,List.getElem?_range hi,Option.map_some,Option.some.injEq]at h2;have e3:=k3 i f hfi;rw[<- List.map_take,<- e3]at h2
    have e4:(fs.toList.map fun f=>P.cellsOf f.type).getD i 0=P.cellsOf f.type:=by
     rw[List.getD_eq_getElem?_getD,List.getElem?_map,hfi];rfl
    rw[e4]at h2;have h5:=hf i f (by simpa using hfi);rw[h2]at h5
    have h6:i<xs.length:=by rw[hxl];simpa using hi
    rw[List.getElem?_eq_getElem h6]at h5;refine ih m f.type y _ _ (k1 f (mem_of_getElem? hfi)) h5 (hws _ _ hwt i _ _ (by rw[List.getElem?_map,hfi];rfl) (by rw[List.getElem?_map,List.getElem?_eq_getElem h6];rfl)) hK'
  ·exact⟨cs,hk⟩
theorem ofC_eq{r:Reach}{g:Nat}{t:TypeId}{v:Value}(f:match P.underlying t with|some (.int _)|some .bool|some .string|some (.slice _)|some (.struct _)=>True|_=>False)(e:Value.okWide P w r g t v):ofC (aggB P t) v.cells.toList=v:=by
 cases hu:P.underlying t with
 |none=>rw[hu]at f;exact f.elim
 |some d=>
  rw[hu]at f
  cases d<;>try exact f.elim
  ·obtain⟨b,rfl⟩:=okWide_bool hu e;simp[ofC,aggB,hu,Value.cells]
  ·obtain⟨b,rfl⟩:=okWide_int hu e;simp[ofC,aggB,hu,Value.cells]
  ·obtain⟨b,rfl⟩:=okWide_string hu e;simp[ofC,aggB,hu,Value.cells]
  ·obtain⟨a,l,c,rfl⟩:=okWide_slice hu e;simp[ofC,aggB,hu,Value.cells]
  ·obtain⟨h,rfl,_⟩:=okWide_struct hu e;simp[ofC,aggB,hu,Value.cells]
def Rn(P:Program)(t:TypeId):Bool:=Nat.blt t P.types.size&&P.readableRec t&&match P.underlying t with
 |some (.int _)|some .bool|some .string|some (.slice _)|some (.struct _)=>true
 |_=>false
theorem YF{t:TypeId}(h:Rn P t=true):t<P.types.size/\P.readableRec t=true/\match P.underlying t with|some (.int _)|some .bool|some .string|some (.slice _)|some (.struct _)=>True|_=>False:=by
 simp only[Rn,Bool.and_eq_true]at h;refine⟨Nat.lt_of_lt_of_le (Nat.lt_succ_self _) (Nat.le_of_ble_eq_true h.1.1),h.1.2,?_⟩;have:=h.2;split at this<;>simp_all
theorem rdA(hl:laidOutB P=true){r:Reach}{b0:Nat}(n:Nat):∀(ts:List TypeId)(vs:List Value)(ds:List (DataW H))(ps:List MemPlace)(K:List Value->Prop),ts.all (Rn P)=true->(∀(j:Nat) t v,ts[j]? =some t->vs[j]? =some v->Value.okWide P w r b0 t v)->
  DataW.TrodAll enc P w base spare held ts vs ds ps->(DataW.weightsEach P ts ds).all (· <=reachBytes)=true->K vs->RdA P w n ts K
 | [],[],[],ps,K,_,_,_,_,hk=>hk
 |t::ts,v::vs,d::ds,ps,K,hp,hv,⟨p,q,⟨fuel,h1⟩,h2,_⟩,hwt,hk=>by
  simp only[DataW.weightsEach,all_append,Bool.and_eq_true]at hwt;simp only[all_cons,Bool.and_eq_true]at hp;obtain⟨p1,p2,p3⟩:=YF hp.1;rw[RdA];refine rdK hl n fuel t _ _ _ p1 h1 hwt.1 ?_;refine rdA hl n ts vs ds q _ hp.2 (fun j t v h3 h4=>hv (j+1) t v h3 h4) h2 hwt.2 ?_;rw[ofC_eq p3 (hv 0 t v rfl rfl)];exact hk
theorem PV(d:laidOutB P=true){W W':World}{f:Nat->Bool}(g:Go.RowKit.Below W.heap.size W W'):∀{c:List TypeId}{vs:List Value}{ds:List (DataW H)}{b:List MemPlace},c.all (Rn P)=true->(∀x∈b,x.block<W.heap.size)->(∀x∈b,f x.block=true)->
  DataW.TrodAll enc P W 0 (fun _=>true) true c vs ds b->DataW.TrodAll enc P W' 0 f true c vs ds b
 | [],[],[],_,_,_,_,h=>h
 |_::_,_::_,_::_,_,hp,hlt,hs,⟨p,q,h1,h2,e⟩=>by
  simp only[all_cons,Bool.and_eq_true]at hp;obtain⟨i,j,k⟩:=YF hp.1
  exact⟨p,q,Trod_stays d j i h1 (fun x a=>g.same (hlt x (by rw[e];exact mem_append_left _ a))) (fun x a=>hs x (by rw[e];exact mem_append_left _ a)),
   PV d g hp.2 (fun x a=>hlt x (by rw[e];exact mem_append_right _ a)) (fun x a=>hs x (by rw[e];exact mem_append_right _ a)) h2,e⟩
theorem Px{W:World}:∀{a:List TypeId}{vs:List Value}{ds:List (DataW H)}{b:List MemPlace},DataW.TrodAll enc P W base spare held a vs ds b->ds.length=a.length
 | [],[],[],_,_=>rfl
 |_::_,_::_,_::_,_,⟨_,_,_,h2,_⟩=>by simp[Px h2]
end
theorem Chg.below{w w':World}(h:Chg [] w w'):Go.RowKit.Below w.heap.size w w':=⟨h.1,h.2.1,h.2.2.1,h.size,fun k a=>h.2.2.2.2 k a (by simp)⟩
theorem law_lift{C:Checked}{os:Os}{H:Type}{enc:TypeId×Value->H}(f:FuncId)(fn:Func){s:ChangeSpec}(n:Nat){t0:TypeId}(aa:ownKnob C.prog.godebug=none)(m:os.Started)(y:C.prog.inits.idxOf? f=none)(ab:C.prog.funcs[f]? =some fn)
  (E:laidOutB C.prog=true) (K:fn.params.toList.all (Rn C.prog)=true) (L:s.vars=[]) (M:fn.resultTypes= #[t0]) (hb:C.prog.underlying t0=some .bool)
  (ac:∀ds:List (DataW H),ds.length=fn.params.toList.length->s.fn H ds= {results:=[.lit (.bool true)],args:=ds})
  (o:∃(w:World)(a:Tape)(i:Input),w.os=os/\(w.forCall a i).Shaped C.prog/\i.vars=[]/\Input.okWide C.prog (w.forCall a i) .any w.heap.size f i/\
   s.pre6 enc C.prog fn [] false (w.forCall a i).memory i.args/\({}:Assume).holds C.prog (lone (Frame.enter C.prog f i.args .normal) [] (w.forCall a i)))
  (k:∀(W:World)(args:Array Value),RdA C.prog W n fn.params.toList (fun l=>args.toList=l)->Calls C.prog f args W fun e W'=>e=.returned (.bool true)/\Chg [] W W'):
  ReturnsInHanded {} C os f .any (s.pre6 enc C.prog fn [] false) (s.post enc C.prog fn false true false false):=by
 refine returnsInHanded_of_calls aa m y o ?_;intro Y a g _ _ _ ad N _;obtain⟨_,_,_,c,O,_,_,_,_,u⟩:=ad;have ae:c=fn:=Option.some.inj (O.symm.trans ab);subst ae;obtain⟨⟨ds,gs,before,F,_⟩,Q⟩:=N;have R:=Q.weights F;have Z:=DataW.Whole.of_heap (w':=Y.forCall a g) (by rfl) F;clear Q F
 suffices G:Calls C.prog f g.args (Y.forCall a g) fun e W'=>∃v,e=.returned v/\s.post enc C.prog c false true false false (Y.forCall a g) g.args v W' from G.mono fun e W' ⟨v,he,hp⟩=>by
  subst he;exact ChangeSpec.post_blind hp
 generalize Y.forCall a g=W at Z u;generalize g.args=args at Z u;have S:=Z;obtain⟨p,q,hA,hV,rfl,af,ag⟩:=Z;rw[L]at hV;obtain⟨rfl,rfl⟩:=trodVars_none hV;have D:=Px hA
 have ah:(DataW.weightsEach C.prog (c.params.toList++(OpenSpec.ofChange s).bare.plain.varTypes C.prog) (ds++[])).all (· <=reachBytes)=true->(DataW.weightsEach C.prog c.params.toList ds).all (· <=reachBytes)=true:=by
  rw[append_nil]
  have:∀(T U:List TypeId)(l:List (DataW H)),l.length=T.length->DataW.weightsEach C.prog (T++U) l=DataW.weightsEach C.prog T l:=by
   intro T
   induction T with
   |nil=>intro U l E;have:l=[]:=List.eq_nil_of_length_eq_zero E;subst this;cases U<;>rfl
   |cons t r ih=>
    intro U l E
    cases l with
    |nil=>cases E
    |cons d l=>simp only[cons_append,DataW.weightsEach];rw[ih U l (by simpa using E)]
  rw[this _ _ _ D];exact id
 have ak:=rdA E n c.params.toList args.toList ds p (fun l=>args.toList=l) K (fun j t v h1 h2=>u j t v (by simpa using h1) (by simpa using h2)) hA (ah R) rfl;refine(k W args ak).mono fun e W' ⟨he,hc⟩=>⟨_,he,?_⟩;have I:=hc.below;have z:=S.lt;simp only[append_nil]at z
 have h:s.fn H (ds++[])= {results:=[.lit (.bool true)],args:=ds}:=by rw[append_nil];exact ac ds D
 have hR:∀(b:Nat)(A:Nat->Bool)(hd:Bool),DataW.TrodAll enc C.prog W' b A hd c.resultTypes.toList ((Value.bool true).resultList c.resultTypes.size) (s.fn H (ds++[])).results []:=fun b A hd=>by
  rw[h,M];exact trodAll_mk1 (Go.RowKit.shut_bool hb true)
 have hG:∀A:Nat->Bool,(∀x∈p,A x.block=true)->DataW.TrodAll enc C.prog W' 0 A true c.params.toList args.toList (s.fn H (ds++[])).args p:=fun A hs=>by
  rw[h];exact PV E I K z hs hA
 have X:∀A:Nat->Bool,DataW.TrodVars enc C.prog W' A s.vars (s.fn H (ds++[])).vars []:=fun A=>by
  rw[h,L];rfl
 refine⟨ds,[],p++[],[],p,[],S,hR _ _ _,hG _ (fun x B=>by simpa using z x B),X _,World.keptBut_mono (fun x B=>⟨B,.inr (by simpa using B)⟩) (I.frame _),fun _=>?_⟩;refine⟨Go.RowKit.ok_one M rfl (Go.RowKit.okWide_bool_mk hb true),_,_,([]++p)++[],⟨[]++p,[],trodAll_append (hG _ (fun _ _=>rfl)) (hR _ _ _),X _,rfl,?_,?_⟩,?_⟩
 ·intro b J B
  have h1:=z (.cell b J) (by simpa using B);rw[I.frozen (p:=⟨b,J,none⟩) h1];exact af b J (by simpa using B)
 ·intro ha
  simpa using ag ha
 ·intro x B _
  simpa using B
end
end Go.Vc
namespace Go.Proofs.YtljenkbpnioipaaGreat
open Go Go.Vc Go.Nod Go.ChangeAt
theorem own_:ownKnob Tryz.prog.godebug=none:=by kernel_rfl
theorem laid_:laidOutB Tryz.prog=true:=by kernel_rfl
theorem und4:Tryz.prog.underlying 4=some .bool:=by kernel_rfl
def ArgG(W:World)(n:Nat)(e:TypeId)(K:List Value->Prop):Prop:=∃(a:Option Addr)(cap:Nat)(els:List (List Value)),els.length<=cap/\cap<=maxLen/\els.length*Tryz.prog.bytesOf e<=reachBytes/\(a=none->els=[])/\(∀x∈els,RdK Tryz.prog W n e (fun cs=>x=cs))/\Cells W a els.flatten/\K [.slice a els.length cap]
theorem QP{α:Type}{f:α->List Value}{Q:α->Prop}:∀(a:List (List Value)),(∀x∈a,∃p,Q p/\x=f p)->∃l:List α,a=l.map f/\∀p∈l,Q p
 | [],_=>⟨[],rfl,by simp⟩
 |x::r,h=>by
  obtain⟨p,b,rfl⟩:=h x (.head _);obtain⟨l,rfl,c⟩:=QP r fun y d=>h y (.tail _ d);exact⟨p::l,rfl,by simpa using⟨b,c⟩⟩
theorem rd_at(W:World)(K:List Value->Prop):RdK Tryz.prog W 2 142 K=(∃s:ByteArray,s.size<=reachBytes/\∃t:ByteArray,t.size<=reachBytes/\K (.string s::.string t::[])):=by kernel_rfl
theorem rd_it(W:World)(K:List Value->Prop):RdK Tryz.prog W 4 123 K=(∃i,inR .i64 i/\∃j,inR .i64 j/\∃s:ByteArray,s.size<=reachBytes/\∃t:ByteArray,t.size<=reachBytes/\ArgG W 2 142 fun x=>K (.int .i64 i::.int .i64 j::.string s::.string t::(x++[]))):=by kernel_rfl
theorem rd_op(W:World)(K:List Value->Prop):RdK Tryz.prog W 6 36 K=(∃i,inR .i64 i/\∃j,inR .i64 j/\∃k,inR .i64 k/\∃l,inR .i64 l/\∃s:ByteArray,s.size<=reachBytes/\∃t:ByteArray,t.size<=reachBytes/\ArgG W 4 123 fun x=>K (.int .i64 i::.int .i64 j::.int .i64 k::.int .i64 l::.string s::.string t::(x++[]))):=by kernel_rfl
theorem Oa:reachBytes=140737488351232:=rfl
theorem Gw{n:Nat}(h:n<=reachBytes):n<=maxLen:=by
 rw[Oa]at h;simp only[maxLen];omega
theorem atC_flat(l:List At):(l.map fun p:At=>[Value.string p.1,.string p.2]).flatten=atC l:=by rw[<- List.flatMap_def];rfl
theorem argG_at{W:World}{K:List Value->Prop}(h:ArgG W 2 142 K):∃(a:Option Addr)(c:Nat)(l:List At),Cells W a (atC l)/\l.length<=reachBytes/\(∀p∈l,p.1.size<=maxLen/\p.2.size<=maxLen)/\K [.slice a l.length c]:=by
 obtain⟨a,d,e,r,_,g,u,b,i,j⟩:=h
 have k:Tryz.prog.bytesOf 142=32:=by kernel_rfl
 rw[k]at g
 obtain⟨l,rfl,m⟩:=QP (f:=fun p:At=>[Value.string p.1,.string p.2]) (Q:=fun p:At=>p.1.size<=maxLen/\p.2.size<=maxLen) e fun x n=>by
  have:=b x n;rw[rd_at]at this;obtain⟨s,o,t,q,rfl⟩:=this;exact⟨(s,t),⟨Gw o,Gw q⟩,rfl⟩
 rw[length_map]at j g;rw[atC_flat]at i;exact⟨a,d,l,i,by omega,m,j⟩
theorem VF:∀l:List (It×Sl3),(l.map fun p=>itC p.1 p.2).flatten=itsC (l.map (·.1)) (l.map (·.2))
 | []=>rfl
 |p::r=>by
  have a:=VF r;rw[itsC]at a⊢;rw[map_cons,flatten_cons,a];rfl
theorem argG_it{W:World}{K:List Value->Prop}(h:ArgG W 4 123 K):∃(a:Option Addr)(c:Nat)(l:List It)(ss:List Sl3),DX [] W a l.length l ss/\l.length<=140737488355328/\K [.slice a l.length c]:=by
 obtain⟨a,o,q,B,r,u,C,g,n,w⟩:=h
 have z:Tryz.prog.bytesOf 123=72:=by kernel_rfl
 rw[z,Oa]at u
 obtain⟨l,rfl,m⟩:=QP (f:=fun p:It×Sl3=>itC p.1 p.2) (Q:=fun p=>AtR W p.2.1 p.2.2.1 p.1.x.attrs/\p.2.2.1<=maxLen/\RU p.1.x) q fun x e=>by
  have:=g x e;rw[rd_it]at this;obtain⟨i,_,j,_,s,d,t,A,h⟩:=this;obtain⟨a,c,l,n,m,b,rfl⟩:=argG_at h;exact⟨(⟨i,⟨j,s,t,l⟩⟩,(a,l.length,c)),⟨⟨rfl,n⟩,Gw m,Gw d,Gw A,b⟩,rfl⟩
 rw[length_map]at w u;rw[VF]at n;refine⟨a,o,l.map (·.1),l.map (·.2),⟨fun D y=>⟨rfl,by simp,n.chg y (by simp),fun k x s e d=>?_⟩,by rw[length_map];simp only[maxLen];omega,fun s d=>?_,fun x e=>?_⟩,by rw[length_map];omega,by rw[length_map];exact w⟩
 ·rw[List.getElem?_map]at e d
  obtain⟨p,b,rfl⟩:=Option.map_eq_some_iff.1 e;rw[b]at d;cases d;exact(m p (mem_of_getElem? b)).1.chg y (by simp)
 ·obtain⟨p,b,rfl⟩:=mem_map.1 d
  exact(m p b).2.1
 ·obtain⟨p,b,rfl⟩:=mem_map.1 e
  exact(m p b).2.2
theorem nopsC_flat(l:List NOp):(l.map nopC).flatten=NY l:=by rw[<- List.flatMap_def];rfl
theorem argG_nscr{W:World}{K:List Value->Prop}(h:ArgG W 6 36 K):∃(a:Option Addr)(c:Nat)(p:List NOp),NScr W a p/\K [.slice a p.length c]:=by
 obtain⟨a,e,g,r,_,u,w,b,y,z⟩:=h
 have A:Tryz.prog.bytesOf 36=88:=by kernel_rfl
 rw[A,Oa]at u
 obtain⟨l,rfl,n⟩:=QP (f:=nopC) (Q:=fun q=>DX [] W q.a q.o.l.length q.o.l q.ss/\q.o.l.length<=140737488355328/\q.o.text.size<=maxLen) g fun x B=>by
  have:=b x B;rw[rd_op]at this;obtain⟨i,_,j,_,k,_,m,_,s,_,t,C,h⟩:=this;obtain⟨a,c,l,D,r,w,rfl⟩:=argG_it h;exact⟨⟨⟨i,j,k,m,s,t,l⟩,a,c,D⟩,⟨r,w,Gw C⟩,rfl⟩
 rw[length_map]at z u;rw[nopsC_flat]at y;exact⟨a,e,l,⟨y,fun q d=>(n q d).1,by omega,fun q d=>(n q d).2.1,fun q d=>(n q d).2.2⟩,z⟩
theorem rd_scr(W:World)(K:List Value->Prop):RdA Tryz.prog W 7 [22] K=ArgG W 6 36 (fun cs=>K (ofC (some false) cs::[])):=by kernel_rfl
theorem open_scr{W:World}{args:Array Value}(h:RdA Tryz.prog W 7 [22] (fun l=>args.toList=l)):∃(a:Option Addr)(c:Nat)(b:List NOp),args= #[.slice a b.length c]/\NScr W a b:=by
 rw[rd_scr]at h;obtain⟨a,c,b,d,h⟩:=argG_nscr h;exact⟨a,c,b,by cases args;simp_all [ofC],d⟩
end Go.Proofs.YtljenkbpnioipaaGreat
namespace Go
theorem joined_of{P:Program}{f:FuncId}{fn:Func}{s:ChangeSpec}{c:OpenClaim}(h1:laidOutB P=true)(h:mapsRowed P=true)(i:(c.inPlace==P.inPlace f)=true)(j:(c.unfollowed==P.unfollowed f)=true)(l:(c.recurses==P.recurses f)=true)(m:(c.named==P.varsNamed f)=true)(n:P.stopsHeard=true)(o:P.mayEnter=true)(p:(c.lifted==P.liftsFinal)=true)(a:(P.make==some c.make)=true)
  (b:(c.wf (OpenSpec.ofChange s)&&fn.params.all (P.readableRec ·)&&namedTie P c.named s.vars&&
 (c.stops==[])&&(P.stops==[])&&(c.knobs==[])&&(P.stopKnobs==[]))=true)
  (d:((c.maps==(fn.params.toList++s.plain.varTypes P).any (P.mapsRec ·))&&(c.ifaces==(fn.params.toList++s.plain.varTypes P).any (P.ifacesRec ·))&&(c.mapsOut==P.mapsAmong fn.resultTypes.toList)&&
 (c.loops==(fn.params.toList++s.plain.varTypes P).any (P.loopsFrom ·))&&(c.wideKeys==(fn.params.toList++s.plain.varTypes P++fn.resultTypes.toList).any (P.wideKeysFrom ·)))=true)
  (e:(s.vars.all (P.varReadable ·)&&fn.resultTypes.all (fun t=>P.readableRec t&&decide (t<P.types.size))&&(c.ifacesOut==fn.resultTypes.toList.any (P.ifacesRec ·))&&(c.loopsOut==fn.resultTypes.toList.any (P.loopsFrom ·))&&(c.plainKeys==P.plainKeys)&&c.shortTexts.isNone)=true)
  (g:((c.kinds==(if c.domain.isEmpty then []else fn.params.toList.map fun t=>match P.underlying t with|some (.int k)=>some k|_=>none))&&(c.pinned==c.pinnedBy)&&
 (c.veiled==(fn.params.toList++s.plain.varTypes P++fn.resultTypes.toList).any (P.veiledRec ·))&&c.veiledFits P fn.params.toList (fn.params.toList++s.plain.varTypes P++fn.resultTypes.toList))=true):joinedFacts P f fn s c=true:=by
 unfold joinedFacts;simp only[Bool.and_eq_true]at b d e g⊢;obtain⟨⟨⟨⟨⟨⟨q,r⟩,u⟩,w⟩,x⟩,y⟩,z⟩:=b;obtain⟨⟨⟨⟨A,B⟩,C⟩,D⟩,E⟩:=d;obtain⟨⟨⟨⟨⟨F,G⟩,H⟩,I⟩,J⟩,K⟩:=e;obtain⟨⟨⟨L,M⟩,N⟩,O⟩:=g;exact⟨⟨⟨⟨⟨⟨⟨⟨⟨⟨⟨⟨⟨⟨⟨⟨⟨⟨⟨⟨⟨⟨⟨⟨⟨⟨⟨⟨⟨⟨⟨q,h1⟩,h⟩,r⟩,u⟩,w⟩,x⟩,y⟩,z⟩,i⟩,j⟩,l⟩,m⟩,A⟩,B⟩,C⟩,D⟩,E⟩,F⟩,G⟩,H⟩,I⟩,J⟩,K⟩,n⟩,o⟩,p⟩,a⟩,L⟩,M⟩,N⟩,O⟩
end Go
namespace Go.Proofs.YtljenkbpnioipaaGreat
open Go Go.Vc
theorem rowed_:mapsRowed Tryz.prog=true:=by kernel_rfl
theorem heard_:Tryz.prog.stopsHeard=true:=by kernel_rfl
theorem enter_:Tryz.prog.mayEnter=true:=by kernel_rfl
theorem lifts_:Tryz.prog.liftsFinal=Rows.nodetabAllRow.lifted:=by kernel_rfl
theorem make_:Tryz.prog.make=some Rows.nodetabAllRow.make:=by kernel_rfl
noncomputable section
open Go.Nod
def docA:It:=⟨0,{kind:=1,name:=⟨#[97]⟩,text:=⟨#[]⟩,attrs:=[]}⟩
def docX:It:=⟨1,{kind:=2,name:=⟨#[]⟩,text:=⟨#[120]⟩,attrs:=[]}⟩
def docL:List It:=[docA,docX]
def docO:OpP:=⟨0,0,0,0,⟨#[]⟩,⟨#[]⟩,docL⟩
theorem VL{b:UInt8}{c:Int}(hc:Du c)(a:encP c=[b]):Lc [b] [c]:=⟨fun d e=>by rw[mem_singleton.1 e];exact hc,by simp[a]⟩
theorem Rz:Dq ⟨#[97]⟩:=by
 refine⟨by decide,by decide,[97],VL (by unfold Du;omega) (by unfold encP;rfl),fun c a=>?_,fun c a=>?_⟩
 ·rw[mem_singleton.1 a];unfold NG GL;omega
 ·cases a;unfold GL;omega
theorem doc_text:BQ ⟨#[120]⟩=0:=by
 rw[BQ,if_neg,if_neg (by decide)];exact not_not_intro ⟨[120],VL (by unfold Du;omega) (by unfold encP;rfl)⟩
theorem Uh:(D5 docL).2=0:=by
 rw[D5,if_neg (by simp[docL]),LG];intro k x b;rw[Nat.zero_add,oneE];have i:k<2:=(List.getElem?_eq_some_iff.1 b).1
 have c:k=0\/k=1:=by omega
 rcases c with rfl|rfl
 ·cases b
  have e:Cc docL 0 docA=0:=by
   rw[Cc,if_neg (by simp[docA]),if_neg (by omega),if_neg (by simp[docA]),if_neg (by omega)]
  rw[if_pos e,Ap,if_neg (by simp[docA]),if_pos (show docA.x.kind=1/\docA.x.text=⟨#[]⟩from⟨rfl,rfl⟩)]
  have d:DJ docA.x=0:=by
   rw[DJ,if_neg (not_not_intro (show Dq docA.x.name from Rz)),if_neg (not_not_intro (show Pz docA.x.attrs from⟨fun a f=>(by cases f),.nil⟩)),if_neg (by simp[docA])]
  rw[if_pos d];rfl
 ·cases b
  have e:Cc docL 1 docX=0:=by
   rw[Cc,if_neg (by omega),if_neg,if_neg (by simp[docX]),if_neg (by omega)];rintro⟨_,h|⟨y,g,h⟩⟩
   ·exact absurd h (by simp[docX])
   ·cases g
    rcases h with h|⟨_,h⟩
    ·simp[docA,docX]at h
    ·simp[docA]at h
  rw[if_pos e,Ap,if_pos (show docX.x.kind=2 from rfl),if_pos (show docX.x.name=⟨#[]⟩/\docX.x.attrs=[]from⟨rfl,rfl⟩)];exact doc_text
theorem SN:(tab0.T.edit docO)=(⟨Ar 1 0 docL,3⟩,1,0):=by
 rw[Tr.edit,if_pos (show docO.kind=0 from rfl)];show Tr.load ⟨[],1⟩ docL=_;rw[Tr.load,if_neg (by rw[Uh];omega),if_neg (by simp[docL])];rfl
theorem doc_good:∃F,BM F (tab0.T.edit docO).1:=by
 obtain⟨F,h,_⟩:=RD Uh (n:=1) (by omega) (by simp[docL]);rw[SN];exact⟨F,h⟩
theorem doc_spec(w:World):Calls Tryz.prog 24 #[] w fun e w'=>∃b,e=.returned (.slice (some ⟨b,0,none⟩) 2 2)/\Hp [] w w' [.blk b (itsC docL [(none,0,0),(none,0,0)]) 123]:=by
 apply doc.ok;unfold doc.vc;intro b c a;exact⟨b,rfl,(Hp.start w).new (cs:=itsC docL [(none,0,0),(none,0,0)]) EQ4 a⟩
theorem doc_arg{B:List Nat}{w0 w:World}{L:List Asn}{b:Nat}{f:List Nat}(H:Hp B w0 w L)(p:Asn.blk b (itsC docL [(none,0,0),(none,0,0)]) 123∈L)(l:∀W,Chg f w W->(Asn.blk b (itsC docL [(none,0,0),(none,0,0)]) 123).ok W):DX f w (some ⟨b,0,none⟩) 2 docL [(none,0,0),(none,0,0)]:=by
 refine⟨fun W m=>⟨rfl,rfl,fun j v d=>?_,fun k x s g i=>?_⟩,by simp[maxLen],fun s i=>?_,fun x g=>?_⟩
 ·have c:Blk W b (itsC docL [(none,0,0),(none,0,0)]) 123:=l W m
  exact⟨_,rfl,by rw[add_lit];exact c.cell (by rw[Nat.zero_add];exact d)⟩
 ·have e:s=(none,0,0):=by
   have:=mem_of_getElem? i;simpa using this
  have n:x.x.attrs=[]:=by
   have:=mem_of_getElem? g;rcases mem_cons.1 this with rfl|h
   ·rfl
   ·rw[mem_singleton.1 h];rfl
  rw[e,n];exact⟨rfl,fun j v d=>by cases d⟩
 ·have e:s=(none,0,0):=by simpa using i
  rw[e];exact Nat.zero_le _
 ·have:x=docA\/x=docX:=by simpa [docL]using g
  rcases this with rfl|rfl<;>exact⟨by decide,by decide,fun a o=>by cases o⟩
theorem WU:Tryz.prog.underlying 23=some (.pointer 86):=by kernel_rfl
theorem mundPG:Tryz.prog.underlying 49=some (.pointer 119):=by kernel_rfl
theorem rowsT_len{P:List Sl.Recs}(f:PgsW P)(o:P.length<=4096):(Df P).length<=491520:=by
 have c:∀(P:List Sl.Recs)(n:Nat),PgsW P->(EC n P).length<=120*P.length:=by
  intro P
  induction P with
  |nil=>intro n _;exact Nat.zero_le _
  |cons R r g=>
   intro n h;have q:=g (n+1) fun L i=>h L (.tail _ i)
   have s:R.length<=120:=by
    have d:=h R (.head _)
    have j:(R.map (·.1)).Nodup:=(pairwise_map.2 d.up).imp fun{a b} h e=>by omega
    have:=I8 (l:=R.map (·.1)) (l':=List.range 120) j fun x k=>by
     obtain⟨p,m,rfl⟩:=mem_map.1 k;exact List.mem_range.2 (d.lt p m)
    rw[length_map,List.length_range]at this;exact this
   rw[EC,length_append,EY,length_map,length_cons];omega
 have:=c P 0 f;rw[Df];omega
end
noncomputable section
open Go.Nod
end
noncomputable section
open Go.Nod
theorem rahead_spec(a b:Cg)(w:World):Calls Tryz.prog 76 #[.agg (cgC a).toArray,.agg (cgC b).toArray] w fun e w'=>e=.returned (.bool (decide (Je a b)))/\Hp [] w w' []:=by
 apply rahead.ok;unfold rahead.vc;intro f i c j k d;have H:=((Hp.start w).new (cs:=cgC a) EQ4 c).new (cs:=cgC b) EQ4 d;have l:∀{x:Asn}{L:List Asn},Asn.blk f (cgC a) 79∈x::(Asn.blk f (cgC a) 79::L):=.tail _ (.head _)
 have e:∀{p:Prop} [Decidable p],(Je a b↔p)->decide p=decide (Je a b):=fun{p} _ h=>by simp[h]
 refine⟨a.page,H.lo yInt,b.page,H.lo yInt,Aa (fun h=>?_) (fun h=>?_)⟩
 ·refine⟨a.page,H.lo yInt,b.page,H.lo yInt,?_,H.done⟩
  rw[e];unfold Je;rw[if_pos h]
 ·refine⟨a.slot,H.lo yInt,b.slot,H.lo yInt,?_,H.done⟩
  rw[e];unfold Je;rw[if_neg (fun g=>g h)]
theorem rise_spec(g:Option Addr)(j:Nat)(l:List Cg)(w:World)(y:l.length<=1000000)(n:Cells w g (cgsC l))(o:l.Pairwise VS):
  Calls Tryz.prog 34 #[.slice g l.length j] w fun e w'=>e=.returned (.bool true)/\Hp [] w w' []:=by
 apply rise.ok;unfold rise.vc;refine AP.mk (fun m s w'=>∃k:Nat,m=l.length-k/\1<=k/\s=(k:Int)/\Hp [] w w' []) (l.length-1) ⟨1,rfl,by omega,rfl,Hp.start w⟩ ?_
 rintro m s z next ⟨k,rfl,A,rfl,H⟩ a
 refine AB (fun p=>?_) (fun p=>⟨rfl,H⟩)
 have b:k<l.length:=by omega
 have i:=n.chg H.drew.chg (by simp);obtain⟨B,d,q⟩:=aS i (List.getElem?_eq_getElem (show k-1<l.length by omega));obtain⟨r,c,t⟩:=aS i (List.getElem?_eq_getElem b)
 have u:((k:Int)-1).toNat=k-1:=by omega
 refine⟨iR,AA d ⟨⟨by omega,by omega⟩,_,_,_,_,by rw[u];exact q,AA c ⟨⟨by omega,by omega⟩,_,_,_,_,by rw[Int.toNat_natCast];exact t,AC (rahead_spec l[k-1] l[k] _) ?_⟩⟩⟩;rintro _ C ⟨rfl,x⟩;have f:=List.pairwise_iff_getElem.1 o (k-1) k (by omega) b (by omega);refine⟨_,rfl,Fh (fun h=>?_) (fun _=>⟨iR,a (l.length-(k+1)) _ _ (by omega) ⟨k+1,rfl,by omega,by omega,H.drew.ext0 x⟩⟩)⟩;rw[decide_eq_false_iff_not,ahead_lt]at h;exact(h f).elim
def onPg(l:List Cg)(pg:Int):List Cg:=l.filter fun c=>decide (c.page=pg)
def szPg(l:List Cg)(pg:Int):Nat:=((onPg l pg).map fun c=>c.s.size).sum
theorem PgW.len{L:Sl.Recs}(c:PgW L):L.length<=120:=by
 have d:(L.map (·.1)).Nodup:=(pairwise_map.2 c.up).imp fun{a b} h e=>by omega
 have:=I8 (l:=L.map (·.1)) (l':=List.range 120) d fun x f=>by
  obtain⟨p,g,rfl⟩:=mem_map.1 f;exact List.mem_range.2 (c.lt p g)
 rwa [length_map,List.length_range]at this
theorem XZ:∀(P:List Sl.Recs)(n m:Nat),onPg (EC n P) ((n+m:Nat):Int)=EY (n+m) (Ba P m)
 | [],n,m=>by rw[MC (Nat.zero_le _)];rfl
 |R::r,n,m=>by
  have a:∀(k:Nat)(R:Sl.Recs),onPg (EY k R) (k:Int)=EY k R:=fun k R=>by
   rw[onPg,List.filter_eq_self];intro c b;obtain⟨p,_,rfl⟩:=mem_map.1 b;exact decide_eq_true rfl
  rw[EC,onPg,filter_append,<- onPg,<- onPg]
  cases m with
  |zero=>
   have d:onPg (EC (n+1) r) ((n+0:Nat):Int)=[]:=by
    rw[onPg,List.filter_eq_nil_iff];intro c b h;obtain⟨m,p,_,rfl⟩:=(LV r (n+1) c).1 b;rw[decide_eq_true_eq]at h;dsimp only at h;omega
   rw[d,append_nil];exact a n R
  |succ m=>
   have d:onPg (EY n R) ((n+(m+1):Nat):Int)=[]:=by
    rw[onPg,List.filter_eq_nil_iff];intro c b h;obtain⟨p,_,rfl⟩:=mem_map.1 b;rw[decide_eq_true_eq]at h;dsimp only at h;omega
   have e:=XZ r (n+1) m;rw[show n+1+m=n+(m+1) by omega]at e;rw[d,nil_append,e];rfl
theorem fit_rows{P:List Sl.Recs}(b:PgsW P){c:Cg}(hc:c∈Df P):szPg (Df P) c.page<=3600/\(onPg (Df P) c.page).length<=120:=by
 obtain⟨m,p,f,rfl⟩:=OW.1 hc;have e:=XZ P 0 m;rw[Nat.zero_add]at e;have e:onPg (Df P) (m:Int)=EY m (Ba P m):=e;have a:=b.page m;dsimp only;rw[szPg,e,EY,length_map,map_map];refine⟨?_,a.len⟩
 have d:((fun c:Cg=>c.s.size)∘fun p:Nat×List UInt8=>(⟨(m:Int),(p.1:Int),bts p.2,false⟩:Cg))=fun p=>p.2.length:=by
  funext p;exact EG p.2
 rw[d];exact a.few
theorem on_sub(l:List Cg)(a:Int)(k:Nat):szPg (l.take k) a<=szPg l a/\(onPg (l.take k) a).length<=(onPg l a).length:=by
 have e:onPg l a=onPg (l.take k) a++onPg (l.drop k) a:=by rw[onPg,onPg,onPg,<- filter_append,List.take_append_drop]
 rw[szPg,szPg,e,map_append,List.sum_append,length_append];omega
theorem on_snoc(l:List Cg)(c:Cg)(a:Int):szPg (l++[c]) a=(if c.page=a then szPg l a+c.s.size else szPg l a)/\(onPg (l++[c]) a).length=if c.page=a then(onPg l a).length+1 else(onPg l a).length:=by
 rw[szPg,szPg,onPg,onPg,filter_append];by_cases h:c.page=a
 ·rw[if_pos h,if_pos h,List.filter_cons,if_pos (by simpa using h)]
  simp
 ·rw[if_neg h,if_neg h,List.filter_cons,if_neg (by simpa using h)]
  simp
theorem V7{w:World}{d:Option Addr}{l:List Cg}(h:Cells w d (cgsC l)){k:Nat}{x:Cg}(f:l[k]? =some x):∃b,d=some b/\Ld Tryz.prog 3 w (b.add (k*4)) (.int .i64 x.page)/\Ld Tryz.prog 3 w ((b.add (k*4)).add 1) (.int .i64 x.slot)/\Ld Tryz.prog 9 w ((b.add (k*4)).add 2) (.string x.s):=by
 have i:=(List.getElem?_eq_some_iff.1 f).1
 have c:0<(cgsC l).length:=by rw[Qi];omega
 obtain⟨b,a,_⟩:=h 0 _ (List.getElem?_eq_getElem c)
 have at_:∀{o:Nat}{v:Value},o<4->(cgC x)[o]? =some v->(cgsC l)[k*4+o]? =some v:=fun{o v} j g=>by
  have e:=NM f;rw[<- e,List.getElem?_take_of_lt j,List.getElem?_drop]at g;exact g
 refine⟨b,a,?_,?_,?_⟩
 ·exact h.ld yInt a (at_ (o:=0) (by omega) rfl)
 ·rw[add_add];exact h.ld yInt a (at_ (o:=1) (by omega) rfl)
 ·rw[add_add];exact h.ld yStr a (at_ (o:=2) (by omega) rfl)
theorem fits_spec(E:Option Addr)(K:Nat)(l:List Cg)(w:World)(R:l.length<=1000000)(F:Cells w E (cgsC l))(r:∀c∈l,InS c)(g:∀c∈l,szPg l c.page<=3600/\(onPg l c.page).length<=120):
  Calls Tryz.prog 36 #[.slice E l.length K] w fun e w'=>e=.returned (.bool true)/\Hp [] w w' []:=by
 apply rnFits.ok;unfold rnFits.vc;refine AP.mk (fun m s w'=>∃k:Nat,m=l.length-k/\k<=l.length/\s=(k:Int)/\Hp [] w w' []) l.length ⟨0,rfl,by omega,rfl,Hp.start w⟩ ?_
 rintro m s S next ⟨k,rfl,T,rfl,H⟩ f
 refine AB (fun L=>?_) (fun L=>⟨rfl,H⟩)
 have t:k<l.length:=by omega
 obtain⟨x,u⟩:∃x,l[k]? =some x:=⟨_,List.getElem?_eq_getElem t⟩;have i:=mem_of_getElem? u;obtain⟨U,X⟩:=g x i;obtain⟨Y,Z,i3,i4⟩:=r x i;refine AP.mk (fun m (s:Int×Int×Int) w'=>∃j:Nat,m=l.length-j/\j<=l.length/\s=(((szPg (l.take j) x.page:Nat):Int),(((onPg (l.take j) x.page).length:Nat):Int),(j:Int))/\Hp [] w w' []) l.length ⟨0,rfl,by omega,rfl,H⟩ ?_;clear H;rintro m s w2 z ⟨j,rfl,hj,rfl,H⟩ b;dsimp only;refine AB (fun M=>?_) (fun M=>?_)
 ·have d:j<l.length:=by omega
  obtain⟨y,G⟩:∃y,l[j]? =some y:=⟨_,List.getElem?_eq_getElem d⟩
  have A:l.take (j+1)=l.take j++[y]:=by rw[take_succ_eq_append_getElem d,(List.getElem?_eq_some_iff.1 G).2]
  have p:=F.chg H.drew.chg (by simp);obtain⟨s1,n⟩:=on_snoc (l.take j) y x.page;rw[<- A]at s1 n;obtain⟨t1,t2⟩:=on_sub l x.page (j+1);refine Am.mk (fun s w'=>s=(((szPg (l.take (j+1)) x.page:Nat):Int),(((onPg (l.take (j+1)) x.page).length:Nat):Int))/\Hp [] w w' []) ?_ ?_
  ·rintro _ w3 ⟨rfl,N⟩
   exact⟨iR,b (l.length-(j+1)) _ _ (by omega) ⟨j+1,rfl,by omega,rfl,N⟩⟩
  intro J I;obtain⟨ad,o,O,a2,P⟩:=V7 p G;obtain⟨B,a,q,C,Q⟩:=V7 p u;refine AA o ⟨⟨by omega,by omega⟩,y.page,by rw[Int.toNat_natCast];exact O,AA a ⟨⟨by omega,by omega⟩,x.page,by rw[Int.toNat_natCast];exact q,AB (fun D=>?_) (fun D=>?_)⟩⟩
  ·rw[if_pos D]at s1 n
   refine AA o ⟨⟨by omega,by omega⟩,y.s,by rw[Int.toNat_natCast];exact P,iR,iR,I _ _ ⟨?_,H.drew⟩⟩;rw[s1,n];rfl
  ·rw[if_neg D]at s1 n
   refine I _ _ ⟨?_,H.drew⟩;rw[s1,n]
 ·have d:j=l.length:=by omega
  subst d;rw[take_length];have p:=F.chg H.chg (by simp);obtain⟨B,a,q,C,Q⟩:=V7 p u;refine AA a ⟨⟨by omega,by omega⟩,x.page,by rw[Int.toNat_natCast];exact q,AB (fun h=>by omega) (fun _=>AA a ⟨⟨by omega,by omega⟩,x.page,by rw[Int.toNat_natCast];exact q,AB (fun h=>by omega) (fun _=>AA a ⟨⟨by omega,by omega⟩,x.slot,by rw[Int.toNat_natCast];exact C,AB (fun h=>by omega) (fun _=>AA a ⟨⟨by omega,by omega⟩,x.slot,by rw[Int.toNat_natCast];exact C,AB (fun h=>by omega) (fun _=>AB (fun h=>by omega) (fun _=>AB (fun h=>by omega) (fun _=>⟨iR,?_⟩)))⟩)⟩)⟩)⟩;exact f (l.length-(k+1)) _ _ (by omega) ⟨k+1,rfl,by omega,rfl,H⟩
def UN(l:List Cg):Int:=match l.getLast? with
 |some c=>c.page+1
 |none=>0
theorem Td(P:List Sl.Recs):∀n,n<=P.length->UN (EC 0 (P.take n))=(JW P n:Int)
 |0,_=>by rw[take_zero];rfl
 |n+1,h=>by
  have c:=Td P n (by omega);have d:P[n]? =some P[n]:=List.getElem?_eq_getElem (by omega)
  have b:Ba P n=P[n]:=by rw[Ba,d];rfl
  rw[take_succ_eq_append_getElem (by omega),IE,List.length_take,Nat.min_eq_left (by omega),Nat.zero_add,JW,b];by_cases a:P[n]=[]
  ·rw[if_pos a,a]
   show UN (EC 0 (P.take n)++[])=_;rw[append_nil,c]
  ·rw[if_neg a,UN,List.getLast?_append]
   obtain⟨p,f⟩:∃p,(P[n]).getLast? =some p:=by
    cases e:(P[n]).getLast? with
    |none=>rw[List.getLast?_eq_none_iff]at e;exact(a e).elim
    |some p=>exact⟨p,rfl⟩
   rw[EY,List.getLast?_map,f];rfl
theorem last_rows(P:List Sl.Recs):UN (Df P)=(JW P P.length:Int):=by
 have:=Td P P.length (Nat.le_refl _);rw[take_length]at this;exact this
theorem rows_in{P:List Sl.Recs}(b:PgsW P)(d:P.length<=4096){c:Cg}(hc:c∈Df P):InS c:=by
 obtain⟨m,p,a,rfl⟩:=OW.1 hc;have e:=(b.page m).lt p a
 have f:m<P.length:=by
  rcases Nat.lt_or_ge m P.length with h|h
  ·exact h
  ·rw[MC h]at a;cases a
 exact⟨by dsimp only;omega,by dsimp only;omega,by dsimp only;omega,by dsimp only;omega⟩
end
noncomputable section
open Go.Nod
theorem pgs_w{f:List Nat}{pa:Option Addr}{pc:Nat}{P:List Sl.Recs}{w:World}(h:(pgsA f pa pc P).ok w):PgsW P:=by
 obtain⟨L,⟨bs,i,a,_⟩,_⟩:=EJ h;intro R e;obtain⟨k,d⟩:=List.getElem?_of_mem e;have c:=(List.getElem?_eq_some_iff.1 d).1;have b:=a.rep k _ R (List.getElem?_eq_getElem (by rw[a.lg];exact c)) d;have j:=b.ok.many;exact⟨b.sorted,fun p g=>by have:=b.below p g;omega,b.small⟩
theorem Wi{f:List Nat}{b:Nat}{X:Tab}{w:World}(h:(tabA f b X).ok w):PgsW X.P/\X.P.length<=4096:=by
 obtain⟨L,⟨z,c,d,e,g,i,_,a,rfl⟩,H,_⟩:=(BZ h:Hp f w w [tabA f b X]).unpack;exact⟨pgs_w (H.ok (pgsA e c d X.P) m4),a.st.len⟩
theorem tab_len{f:List Nat}{b:Nat}{X:Tab}{w:World}(h:(tabA f b X).ok w):(Df X.P).length<=491520:=rowsT_len (Wi h).1 (Wi h).2
def docT:Tr:=⟨Ar 1 0 docL,3⟩
def docW:List ByteArray:=[⟨#[97]⟩]
def docS:SM:=[(1,(922337203685477580,3689348814741910323)),(2,(1844674407370955161,2767011611056432742))]
def GZ:Fol.Rec:=⟨1,0,1,1,922337203685477580,3689348814741910323,⟨#[]⟩,[]⟩
def GY:Fol.Rec:=⟨2,1,2,0,1844674407370955161,2767011611056432742,⟨#[120]⟩,[]⟩
theorem doc_names:GM (docT.L.map rowI)=docW:=by
 have e:(docT.L.map rowI).flatMap FO=[⟨#[97]⟩]:=by
  simp[docT,docL,docA,docX,Ar,rowI,FO]
 rw[GM,e];simp[uniq,addN,Eb,docW]
theorem VM:tab0.words docT=(docW,0):=by
 rw[Tab.words,doc_names,Oq];show Le [⟨#[97]⟩] []=_
 have e:addR [] ⟨#[97]⟩=(addW [] ⟨#[97]⟩,(posW [] none0:Int)+1,0):=by
  rw[addR,if_neg (not_not_intro Rz),if_neg (by rw[show cntW []=0 from rfl];omega)]
 rw[Le,if_neg (by simp[hasW]),e,if_neg (by simp)];rfl
theorem UV:tab0.spans docT docO=docS:=by
 rw[Tab.spans,Tab.moved,if_neg (by simp[docO]),Jp]
 show(match EK [(1,false),(2,false),(2,true),(1,true)] []with
  |some s=>s
  |none=>_)=_
 have e:betP 0 4611686018427387904 4=some [922337203685477580,1844674407370955161,2767011611056432742,3689348814741910323]:=by
  rw[betP,if_pos (by unfold inS;omega)];rfl
 have a:EK [(1,false),(2,false),(2,true),(1,true)] []=some docS:=by
  rw[EK];show IA _ _ 5 0 0 0 []=_;rw[IA,if_pos (by decide),IA,if_pos (by decide),IA,if_pos (by decide),IA,if_pos (by decide),IA,if_neg (by decide)]
  show(match betP 0 4611686018427387904 4 with
   |none=>none
   |some b=>_)=_
  rw[e];rfl
 rw[a]
def docM:List ByteArray:=[Gj 3,OQ 0 ⟨#[97]⟩,FV (Fol.Bf GZ 0),FV (Fol.Bf GY 0)]
theorem UA:Fol.Dz GZ:=of_decide_eq_true (by kernel_rfl)
theorem TR:Fol.Dz GY:=of_decide_eq_true (by kernel_rfl)
theorem TK:Fol.pieces GZ=[Fol.Bf GZ 0]:=by kernel_rfl
theorem Qv:Fol.pieces GY=[Fol.Bf GY 0]:=by kernel_rfl
theorem doc_recs:Ku docT docS docW=docM:=by
 have a:recP docS docW 1 (BC docT.L 0) docA.x=GZ:=by
  simp[recP,GZ,docS,docW,docA,docT,docL,Ar,BC,Dp,sget,numW,hasW,posW,none0]
 have b:recP docS docW 2 (BC docT.L 1) docX.x=GY:=by
  simp[recP,GY,docS,docW,docX,docA,docT,docL,Ar,BC,Dp,sget,numW,hasW,posW,none0]
 have c:Sz docT docS docW 0=[FV (Fol.Bf GZ 0)]:=by
  show(Fol.out (recP docS docW 1 (BC docT.L 0) docA.x)).map FV=_;rw[a,Fol.out,if_pos UA,TK];rfl
 have d:Sz docT docS docW 1=[FV (Fol.Bf GY 0)]:=by
  show(Fol.out (recP docS docW 2 (BC docT.L 1) docX.x)).map FV=_;rw[b,Fol.out,if_pos TR,Qv];rfl
 rw[Ku];show Gj 3::(Ew 0 docW++Eg docT docS docW 2)=_;rw[show(2:Nat)=1+1 from rfl,IR,show(1:Nat)=0+1 from rfl,IR,c,d];rfl
def SG:RM:=layR [] docM
def docK:List ByteArray:=[⟨#[104]⟩,⟨#[110,0,0,0,1,0]⟩,⟨#[110,0,0,0,2,0]⟩,⟨#[119,0,1]⟩]
theorem doc_keys:SG.map (·.1)=[⟨#[104]⟩,⟨#[119,0,1]⟩,⟨#[110,0,0,0,1,0]⟩,⟨#[110,0,0,0,2,0]⟩]:=by kernel_rfl
theorem doc_sort:Eb (SG.map (·.1))=docK:=by
 refine List.Perm.eq_of_pairwise (le:=fun x y=>x.data.toList<y.data.toList) (fun a b _ _ c d=>absurd d (List.lt_asymm c)) (Hz (S9 docM [] .nil)) (by unfold docK;decide) ((Dl _).trans ?_);rw[doc_keys];exact .cons _ (List.perm_append_comm (l₁:=[_]) (l₂:=[_,_]))
def JI:WSt:=(layK SG docK ⟨[],[],[]⟩).1
def Zj:Tab:=⟨docT,docS,docW,JI.P,JI.Q⟩
theorem doc_wr:tab0.wr docT docO=(JI,0):=by
 rw[Tab.wr,UV,VM,Ed,doc_recs,KQ];show layK SG (Eb (SG.map (·.1))) (I4 SG (Eb []) ⟨[],[],[]⟩)=_;rw[doc_sort,show Eb []=[] by simp[Eb]]
 have h:(layK SG docK ⟨[],[],[]⟩).2=0:=by kernel_rfl
 exact Prod.ext rfl h
theorem doc_do2:∃D,doP tab0 docO=(Zj,1,D,0)/\D≠[]:=by
 have e:(tab0.T.edit docO)=(docT,1,0):=SN;refine⟨EN tab0.P JI.P JI.D,?_,?_⟩
 ·rw[doP,e,if_neg (by simp),VM,if_neg (by simp),doc_wr,if_neg (by simp),UV];rfl
 ·intro h
  have a:=congrArg List.length h;rw[EN,Nv,(List.mergeSort_perm _ _).length_eq]at a
  have b:((JI.D.map (·.1)).filterMap (EE [] JI.P)).length=4:=by kernel_rfl
  have a:((JI.D.map (·.1)).filterMap (EE [] JI.P)).length=0:=a;omega
def XM:LdS:=⟨JI.P,JI.Q,3,docW,[(1,[Fol.Bf GZ 0]),(2,[Fol.Bf GY 0])]⟩
theorem doc_take:IZ lds0 (Df JI.P)=some XM:=by kernel_rfl
theorem doc_wok:WOk docW:=by
 refine⟨fun s a=>.inr ?_,fun j k s b c _=>?_,by simp[docW,none0],by simp[docW]⟩
 ·rw[mem_singleton.1 a];exact Rz
 ·have d:=(List.getElem?_eq_some_iff.1 b).1
  have e:=(List.getElem?_eq_some_iff.1 c).1;simp only[docW,length_cons,List.length_nil]at d e;omega
theorem ZR{r:Fol.Rec}(h:Fol.Dz r)(e:Fol.pieces r=[Fol.Bf r 0]):Fol.decR (sortL [Fol.Bf r 0]) r:=⟨h,by rw[e,sortL,List.mergeSort_singleton]⟩
theorem doc_lev:Gm [GX GZ,GX GY]=some [0,1]:=by
 rw[Gm,levP,if_neg,levP,if_neg,levP]
 ·rfl
 ·simp[badS,inS,GX,GZ,GY,popA]
 ·simp[badS,inS,GX,GZ,GY,popA]
theorem doc_tree:aF docW docT [GZ,GY]:=by
 refine⟨rfl,?_,?_,?_,?_,doc_lev⟩
 ·intro j r q a b
  match j,a,b with
  |0,a,b=>cases a;cases b;rfl
  |1,a,b=>cases a;cases b;rfl
 ·intro j r q a b
  match j,a,b with
  |0,a,b=>cases a;cases b;rfl
  |1,a,b=>cases a;cases b;rfl
 ·intro j r q a b
  match j,a,b with
  |0,a,b=>cases a;cases b;rfl
  |1,a,b=>cases a;cases b;rfl
 ·intro q c
  rcases mem_cons.1 c with rfl|c
  ·exact⟨fun _=>⟨by decide,by decide⟩,fun p d=>(by cases d),.nil,by decide⟩
  ·rw[mem_singleton.1 c]
   exact⟨fun h=>absurd h (by decide),fun p d=>(by cases d),.nil,by decide⟩
theorem doc_load:∃F,bP (Df JI.P) XM [GZ,GY] F docT:=by
 obtain⟨F,c⟩:=doc_good;rw[SN]at c;refine⟨F,doc_take,doc_wok,⟨[1,2],[GZ,GY],.refl _,by decide,rfl,fun j i r a b=>?_,.refl _⟩,by simp[GZ,GY],c,doc_tree,rfl⟩
 match j,a,b with
 |0,a,b=>cases a;cases b;exact ZR UA TK
 |1,a,b=>cases a;cases b;exact ZR TR Qv
theorem QI(w:World):Calls Tryz.prog 12 #[] w fun e w'=>e=.returned (.bool true)/\Hp [] w w' []:=by
 apply alive.ok;unfold alive.vc;refine AC (O3 w) ?_;rintro _ I ⟨b,f,rfl,y⟩;refine⟨_,rfl,_,Wy WU,BG ?_⟩;refine AC (doc_spec I) ?_;rintro _ J ⟨z,rfl,A⟩;have B:=y.ext1 A;clear y A;refine⟨_,_,_,rfl,?_⟩;have g:=B.Af;have K:DX f J (some ⟨z,0,none⟩) 2 docL [(none,0,0),(none,0,0)]:=doc_arg g m1 (g.keep (.head _));have p:=g.ok (tabA f b tab0) (.head _);refine AC (Wp p docO (some ⟨z,0,none⟩) 2 2 _ K (by omega) (by decide)) ?_;rintro _ w3 ⟨L,ca,cc,rfl,C⟩;have o:=g.use1 C;clear g C B;obtain⟨D,E,q⟩:=doc_do2;rw[E]at o;rw[E];refine⟨_,_,_,_,_,rfl,AC (Rf (o.ok (tabA L b Zj) (.head _))) ?_⟩;rintro _ M ⟨N,O,rfl,G⟩;have r:=o.ext1 G;clear o G;obtain⟨F,R⟩:=doc_load;refine⟨_,_,_,rfl,AC (nLoad_spec R N _ O M (fun W S=>?_) rfl (by decide)) ?_⟩
 ·exact(r.ownA (.head _)).cells.chg S (by simp)
 rintro _ w5 ⟨U,s,rfl,H⟩;have a:=r.ext1 H;clear r H;refine⟨_,_,rfl,?_⟩;refine AB (fun _=>AB (fun _=>AB (fun _=>AB (fun _=>⟨_,RG WU,DR ?_⟩) (fun h=>(h rfl).elim)) (fun h=>(h rfl).elim)) (fun h=>?_)) (fun h=>(h rfl).elim);rotate_left
 ·have:=List.length_pos_iff.2 q
  exact(h (show(0:Int)<((D.length:Nat):Int) by omega)).elim
 obtain⟨Y,i⟩:∃Y:Tab,Y=⟨docT,spR [GZ,GY],XM.V,XM.P,XM.Q⟩:=⟨_,rfl⟩
 have j:Y.T=⟨Ar 1 0 docL,3⟩:=by rw[i];rfl
 rw[<- i]at a;refine AC (MX (a.ok (tabA U s Y) (.head _))) ?_;rintro _ w6 ⟨X,g2,gb,rfl,k⟩;have d:=a.use1 k;clear a k;refine⟨_,rfl,_,RG mundPG,DR (AC (MX (d.ok (tabA X s Y) (.head _))) ?_)⟩;rintro _ w7 ⟨Z,g4,t,rfl,l⟩;have c:=d.use1 l;clear d l;refine⟨_,rfl,AC (gLen_spec (c.ok (AU g4 t Y.T) m1)) ?_⟩;rintro _ w8 ⟨rfl,u⟩;obtain rfl:=u.symm;refine⟨_,rfl,AB (fun _=>AC (MX (c.ok (tabA Z s Y) (.head _))) ?_) (fun h=>(h (by rw[j];rfl)).elim)⟩;rintro _ w9 ⟨g5,g6,x,rfl,m⟩;have n:=c.use1 m;clear c m;refine⟨_,rfl,AC (Tv (n.ok (AU g6 x Y.T) m1)) ?_⟩;rintro _ aa ⟨rfl,u⟩;obtain rfl:=u.symm;refine⟨_,rfl,?_,n.done⟩;rw[j];rfl
end
noncomputable section
open Go.Nod
theorem nodetabPages_law2(O:Option Addr)(sc:Nat)(i:List NOp)(w0:World)(B:NScr w0 O i):Calls Tryz.prog 9 #[.slice O i.length sc] w0 fun e w'=>e=.returned (.bool true)/\Hp [] w0 w' []:=by
 apply nodetabPages.ok;unfold nodetabPages.vc;have af:=B.len;refine AC (O3 w0) ?_;rintro _ w1 ⟨b,f,rfl,H⟩;refine⟨_,rfl,_,Wy WU,BG (AC (few_spec O sc i B H.chg) ?_)⟩;rintro _ w2 ⟨fb,rfl,ae,d⟩;have Q:=H.ext0 d;clear H d;refine⟨_,rfl,Fh (fun _=>⟨_,RG WU,DR (AC (QI w2) ?_)⟩) (fun _=>?_)⟩
 ·rintro _ w3 ⟨rfl,d⟩
  exact⟨_,rfl,rfl,(Q.ext0 d).done⟩
 refine AP.mk (fun m (s:Int) w'=>∃(k:Nat)(f:List Nat)(X:Tab)(Z:List Asn),m=i.length-k/\k<=i.length/\s=(k:Int)/\Hp [] w0 w' (tabA f b X::Z)) i.length ⟨0,_,tab0,[],rfl,by omega,rfl,Q⟩ ?_;clear Q
 rintro m s w3 next ⟨k,f,X,Z,rfl,hk,rfl,H⟩ r
 refine AB (fun h1=>?_) (fun h1=>?_)
 ·have R:k<i.length:=by omega
  obtain⟨q,hq⟩:∃q,i[k]? =some q:=⟨_,List.getElem?_eq_getElem R⟩;have t:=mem_of_getElem? hq;obtain⟨ad,u,S⟩:=B.ld H.chg hq;refine AA u ⟨⟨by omega,h1⟩,_,_,_,_,_,_,_,_,_,by rw[Int.toNat_natCast];exact S,?_⟩;intro yb E F;have w:=H.nw F;refine Hp.sA w Yw (cs':=nopC q) fun w6 C=>?_;clear H w F;refine⟨_,_,_,_,_,_,_,_,_,C.loA Yw,AC (own_spec q.o q.a q.o.l.length q.c _) ?_⟩;rintro _ T ⟨rfl,d⟩;have p:=(C.ext0 d).Af;clear C d;have U:DX f T q.a q.o.l.length q.o.l q.ss:=(B.it q t).go p fun k hk=>DY.2 ⟨tabA f b X,.head _,hk⟩;have G:=p.ok (tabA f b X) (.head _);refine⟨_,_,_,_,_,_,_,_,_,rfl,AC (Wp G q.o q.a _ q.c q.ss U (B.lens q t) (B.txt q t)) ?_⟩;rintro _ w8 ⟨g1,ca,cc,rfl,d⟩;have y:=p.use1 d;clear p d;exact⟨_,_,_,_,_,rfl,iR,r (i.length-(k+1)) _ _ (by omega) ⟨k+1,g1,(doP X q.o).1,_,rfl,by omega,rfl,y⟩⟩
 ·have z:=H.ok (tabA f b X) (.head _)
  have Y:=tab_len z;obtain⟨hw,hP⟩:=Wi z;have I:(Df X.P).Pairwise VS:=bQ hw;have A:∀c∈Df X.P,InS c:=fun c J=>rows_in hw hP J;have K:∀c∈Df X.P,szPg (Df X.P) c.page<=3600/\(onPg (Df X.P) c.page).length<=120:=fun c J=>fit_rows hw J
  have L:∀c∈Df X.P,c.gone=false:=fun c J=>by obtain⟨_,_,_,rfl⟩:=OW.1 J;rfl
  have g:=last_rows X.P;refine AC (Rf z) ?_;rintro _ w4 ⟨ra,rc,rfl,d⟩;have w:=H.ext1 d;clear H d;obtain⟨l,hl⟩:∃l,l=Df X.P:=⟨_,rfl⟩;rw[<- hl]at w Y I A K L g⊢;refine⟨_,_,_,rfl,AC (plain_spec ra rc l w4 (by omega) (w.ownA (.head _)).cells) ?_⟩;rintro _ E ⟨pa,pc,rfl,d⟩;have C:=w.ext1 d;clear w d;have M:∀{W:World},Hp [] E W []->Cells W pa (cgsC l):=fun HW=>((C.ext0 HW).ownA (.head _)).cells;refine⟨_,_,_,rfl,AC (rise_spec pa pc l E (by omega) (M (Hp.start E)) I) ?_⟩;rintro _ w6 ⟨rfl,d⟩;refine⟨_,rfl,Fh (fun h=>by cases h) (fun _=>?_)⟩;refine AP.mk (fun m (s:Int×Int) w'=>∃j:Nat,m=l.length-j/\j<=l.length/\s=(UN (l.take j),(j:Int))/\Hp [] E w' []) l.length ⟨0,rfl,by omega,by rw[take_zero];rfl,d⟩ ?_;clear d;rintro m s T nx ⟨j,rfl,hj,rfl,p⟩ aa;dsimp only;refine AB (fun h2=>?_) (fun h2=>?_)
  ·have n:j<l.length:=by omega
   obtain⟨x,hx⟩:∃x,l[j]? =some x:=⟨_,List.getElem?_eq_getElem n⟩;have N:=mem_of_getElem? hx
   have ab:l.take (j+1)=l.take j++[x]:=by rw[take_succ_eq_append_getElem n,(List.getElem?_eq_some_iff.1 hx).2]
   obtain⟨ad,u,l1⟩:=aS (M p) hx;obtain⟨i1,i2,_,_⟩:=A x N;have hg:=L x N;refine AA u ⟨⟨by omega,h2⟩,_,_,_,_,by rw[Int.toNat_natCast];exact l1,?_⟩;intro zb w8 ac;have y:=p.nw ac;refine Hp.sA y bJ (cs':=cgC x) fun w9 D=>?_;refine⟨x.page,D.lo yInt,iR,x.gone,D.lo Yj,?_⟩;rw[hg];refine BG ⟨iR,aa (l.length-(j+1)) _ _ (by omega) ⟨j+1,rfl,by omega,?_,D.done⟩⟩;rw[ab,UN,List.getLast?_append];rfl
  ·have n:j=l.length:=by omega
   subst n;rw[take_length];refine AC (QI T) ?_;rintro _ w8 ⟨rfl,d⟩;have y:=C.ext0 (p.ext0 d);refine⟨_,rfl,DR (AC (nPages_spec (y.ok (tabA f b X) m2)) ?_)⟩;rintro _ w9 ⟨rfl,D⟩;refine⟨_,rfl,AB (fun _=>AB (fun _=>⟨rfl,(y.ext0 D).done⟩) (fun _=>?_)) (fun h=>(h g.symm).elim)⟩;have H7:=y.ext0 D;refine AC (fits_spec pa pc l w9 (by omega) (H7.ownA (.head _)).cells A K) ?_;rintro _ ag ⟨rfl,H8⟩;exact⟨_,rfl,rfl,(H7.ext0 H8).done⟩
end
open Go.Nod Go.ChangeAt
theorem nodetabPages_1:(Rows.nodetabPagesRow.inPlace==Tryz.prog.inPlace 9)=true:=by kernel_rfl
theorem nodetabPages_2:(Rows.nodetabPagesRow.unfollowed==Tryz.prog.unfollowed 9)=true:=by kernel_rfl
theorem nodetabPages_3:(Rows.nodetabPagesRow.recurses==Tryz.prog.recurses 9)=true:=by kernel_rfl
theorem nodetabPages_4:(Rows.nodetabPagesRow.named==Tryz.prog.varsNamed 9)=true:=by kernel_rfl
theorem nodetabPages_holds:Rows.NodetabPagesSaid:=
 OpenClaim.holds_of_wide 9 Tryz.f9 rfl rfl rfl rfl rfl rfl rfl ⟨rfl,rfl,rfl,rfl,rfl⟩ rfl rfl rfl rfl rfl (by kernel_rfl) Tryz.func9 (joined_of laid_ rowed_ nodetabPages_1 nodetabPages_2 nodetabPages_3 nodetabPages_4 heard_ enter_ (beq_iff_eq.2 lifts_.symm) (beq_iff_eq.2 make_) (by kernel_rfl) (by kernel_rfl) (by kernel_rfl) (by kernel_rfl))
  (of_decide_eq_true (by kernel_rfl)) (by unfold Func.isWrapper;first|(rw[if_pos (by decide+kernel)];kernel_rfl)|(rw[if_neg (by decide+kernel)];exact⟨rfl,rfl⟩))
  (fun n a H b _=>law_lift (C:=Tryz.checked) (s:=Rows.nodetabPagesSpec) 9 Tryz.f9 7 own_ a (by kernel_rfl) Tryz.func9 laid_ (by kernel_rfl) rfl (by kernel_rfl) und4
   (fun f h=>by
    match f,h with
    | [d0],_=>rfl)
   (ChangeSpec.witness6 (enc:=b) (C:=Tryz.checked) false ⟨#[],#[.slice none 0 0],[]⟩ 8 (by kernel_rfl) (by kernel_rfl) (by kernel_rfl) (by kernel_rfl))
   (fun W d c=>by
    obtain⟨g,i,j,rfl,k⟩:=open_scr c
    exact Calls.mono (nodetabPages_law2 g i j W k) fun e o ⟨l,m⟩=>⟨l,m.chg⟩))
end Go.Proofs.YtljenkbpnioipaaGreat
