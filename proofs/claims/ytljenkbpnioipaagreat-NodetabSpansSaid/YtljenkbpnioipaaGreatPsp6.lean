/- Part 6 of 6 of the proof of nodetabSpans_holds: for every input, from every world that may be reached. -/
import Derived.Test.YtljenkbpnioipaaGreatPsp5
set_option linter.unusedVariables false
set_option linter.unusedSimpArgs false
set_option maxRecDepth 100000
set_option maxHeartbeats 4000000
open List(all_append all_cons append_assoc append_eq append_nil cons_append drop_drop drop_eq_getElem_cons drop_of_length_le drop_zero flatMap_cons flatten_cons getElem_mem length_append length_cons length_drop length_map length_nil length_take map_append map_cons map_map map_singleton map_take mem_append mem_append_left mem_append_right mem_cons mem_flatMap mem_map mem_map_of_mem mem_of_getElem? mem_of_mem_take mem_reverse mem_singleton nil_append nodup_cons pairwise_append pairwise_cons pairwise_map reverse_append take_append_drop take_length take_of_length_le take_succ_eq_append_getElem take_zero zip_cons_cons)
namespace Go.Proofs.YtljenkbpnioipaaGreat
noncomputable section
open Go Go.Vc Go.Nod
theorem xeltS:Elt Tryz.prog 187 62 2 16:=CW (by kernel_rfl)
theorem xundS:Tryz.prog.underlying 187=some (.slice 62):=by kernel_rfl
def Gt(r:Fol.Rec):Sp:=(r.frm,r.to)
def spR(l:List Fol.Rec):SM:=l.foldl (fun S r=>sput S r.id (Gt r)) []
theorem spR_snoc(l:List Fol.Rec)(r:Fol.Rec):spR (l++[r])=sput (spR l) r.id (Gt r):=by rw[spR,List.foldl_append];rfl
structure bZ(W:List ByteArray)(T:Tr)(recs:List Fol.Rec):Prop where
 len:recs.length=T.L.length
 id:∀(j:Nat)(r:Rw)(q:Fol.Rec),T.L[j]? =some r->recs[j]? =some q->q.id=r.id
 par:∀(j:Nat)(r:Rw)(q:Fol.Rec),T.L[j]? =some r->recs[j]? =some q->q.parent=BG T.L j
 it:∀(j:Nat)(r:Rw)(q:Fol.Rec),T.L[j]? =some r->recs[j]? =some q->WX W r.level q=AY r
 known:∀q∈recs,dm W q
 lev:GY (recs.map Gt)=some (T.L.map (·.level))
theorem rwC_at{a:List RW}{j:Nat}{p:RW}(h:a[j]? =some p):((a.flatMap rwC).drop (j*8)).take 8=rwC p:=by
 induction a generalizing j with
 |nil=>simp at h
 |cons q r b=>
  cases j with
  |zero=>
   simp at h;subst h;rw[flatMap_cons,Nat.zero_mul,drop_zero];exact List.take_left' rfl
  |succ j=>
   rw[List.getElem?_cons_succ]at h;rw[flatMap_cons,Nat.succ_mul,Nat.add_comm,<- drop_drop,List.drop_left' (by rfl)];exact b h
theorem nTreeQ_spec{B:List Nat}{w0 w:World}{L:List Asn}(xb:Nat)(z:WN)(pa:Option Addr)(n pc:Nat)(next:Int)(wa:Option Addr)(wn wc pb:Nat)(aa:Option Addr)(ac:Nat)(d:List RW)(wf:List Nat)(W:List ByteArray){F:Fo}{T:Tr}(hG:BN F T)(hT:bZ W T (d.map (·.1)))(co:max next 1=T.next)
  (H:Hp B w0 w (.blk xb (ldC z.ub next wa wn wc pb aa d.length ac) 128::.blk z.ub (tbC z pa n pc) 86::.own 204 8 aa d.length ac (d.flatMap rwC)::.imap z.sb .i64 (smC [])::Aj wf z.wb W::(d.map rwO++L))):
  Calls Tryz.prog 68 #[.pointer (some ⟨xb,0,none⟩)] w fun e w'=>∃tf tb,e=.returned (.bool true)/\
   Hp B w0 w' (.blk xb (ldC z.ub next wa wn wc pb aa d.length ac) 128::.blk z.ub (tbC {z with tb:=tb} pa n pc) 86::AU tf tb T::.imap z.sb .i64 (smC (spR (d.map (·.1))))::Aj wf z.wb W::L):=by
 apply nTreeQ.ok;unfold nTreeQ.vc;have cz:=hG.len
 have cp:d.length=T.L.length:=by rw[<- hT.len,length_map]
 obtain⟨X0,ao⟩:∃X0,X0=Asn.blk xb (ldC z.ub next wa wn wc pb aa d.length ac) 128:=⟨_,rfl⟩;obtain⟨A0,bv⟩:∃A0,A0=Asn.own 204 8 aa d.length ac (d.flatMap rwC):=⟨_,rfl⟩;rw[<- ao,<- bv]at H
 have bd:∀{W:World}{M:List Asn},Hp B w0 W M->X0∈M->∀{W':World},Eqw W W'->Ld Tryz.prog 126 W' (Addr.add ⟨xb,0,none⟩ 4) (.slice aa d.length ac):=fun{W M} H m _ e=>by
  rw[ao]at m;rw[add_lit];exact H.ld (o:=4) (cs:=ldC z.ub next wa wn wc pb aa d.length ac) e vSR m rfl
 have bw:∀{W:World}{M:List Asn},Hp B w0 W M->X0∈M->∀{W':World},Eqw W W'->Ld Tryz.prog 23 W' ⟨xb,0,none⟩ (.pointer (some ⟨z.ub,0,none⟩)):=fun{W M} H m _ e=>by
  rw[ao]at m;exact H.ld (o:=0) (cs:=ldC z.ub next wa wn wc pb aa d.length ac) e rPT m rfl
 have bh:∀{W:World}{M:List Asn}{j:Nat}{p:RW},Hp B w0 W M->A0∈M->d[j]? =some p->∃ad,aa=some ad/\Ld Tryz.prog 204 W (ad.add ((j:Int).toNat*8)) (.agg (rwC p).toArray):=fun{W M j p} H m hj=>by
  rw[bv]at m;rw[Int.toNat_natCast];exact H.ldOA (w':=W) (o:=j*8) EQ4 Fol.Cj (by omega) m (rwC_at hj) rfl
 refine AA rfl ⟨aa,d.length,ac,bd H (.head _) EQ4,?_⟩;obtain⟨Y,hY⟩:∃Y:List Asn,Y=X0::.blk z.ub (tbC z pa n pc) 86::A0::.imap z.sb .i64 (smC [])::Aj wf z.wb W::(d.map rwO++L):=⟨_,rfl⟩;rw[<- hY]at H
 have mX:X0∈Y:=by rw[hY];exact .head _
 have mA:A0∈Y:=by rw[hY];exact .tail _ m1
 obtain⟨b,N⟩:∃b,b=d.map (·.1):=⟨_,rfl⟩;rw[<- N]at hT
 have ak:b.length=d.length:=by rw[N,length_map]
 have bi:∀{j:Nat}{p:RW},d[j]? =some p->b[j]? =some p.1:=fun{j p} h=>by rw[N,List.getElem?_map,h];rfl
 have bx:∀{j:Nat}{p:RW},d[j]? =some p->b.take (j+1)=b.take j++[p.1]:=fun{j p} h=>by
  have h2:=bi h;rw[take_succ_eq_append_getElem (List.getElem?_eq_some_iff.1 h2).1,(List.getElem?_eq_some_iff.1 h2).2]
 refine AP.mk (fun m s w'=>∃(j:Nat)(sa:Option Addr)(sc:Nat)(X:List Asn),m=d.length-j/\j<=d.length/\s=((sa,j,sc),(j:Int))/\Hp B w0 w' (.own 62 2 sa j sc (Az ((b.take j).map Gt))::(Y++X))) d.length ⟨0,none,0,[],rfl,by omega,rfl,by rw[append_nil];exact H.nilS 62 2⟩ ?_;clear H;rintro m s w1 nx ⟨j,sa,sc,X,rfl,hj,rfl,H⟩ a9;dsimp only;refine AB (fun h1=>?_) (fun h1=>?_)
 ·have ah:j<d.length:=by omega
  obtain⟨p,hp⟩:∃p,d[j]? =some p:=⟨_,List.getElem?_eq_getElem ah⟩;obtain⟨ad,aq,al⟩:=bh H (.tail _ (mem_append_left _ mA)) hp;refine AA aq ⟨⟨by omega,h1⟩,_,_,_,_,_,_,_,_,_,_,al,fun yb w2 b0=>?_⟩;have H2:=H.new (cs:=recZ) EQ4 b0;refine Hp.stA H2 EQ4 Fol.Cj (vs:=rwC p) rfl rfl (by simp[recZ]) (cs':=rwC p) rfl fun w3 A=>?_;clear H H2 b0;refine⟨p.1.frm,p.1.to,A.loA EK,fun y w4 a8=>?_⟩;have H4:=A.nw a8;refine Hp.app xeltS (by omega) H4.BD EQ4 (Blk.src (P:=Tryz.prog) xundS (H4.blk (.head _)) rfl rfl) (by simp only[maxLen];omega) (by omega) ?_;intro a2 c2 w5 H5;refine⟨iR,a9 (d.length-(j+1)) _ _ (by omega) ⟨j+1,a2,c2,.blk y [.int .i64 p.1.frm,.int .i64 p.1.to] 62::.blk yb (rwC p) 204::X,rfl,by omega,rfl,H5.perm ?_⟩⟩
  have e1:Az ((b.take (j+1)).map Gt)=Az ((b.take j).map Gt)++[.int .i64 p.1.frm,.int .i64 p.1.to]:=by
   rw[bx hp,map_append];simp[Az,Gt]
  refine AL fun ff gg i l q u=>?_;simp only[I,Q,e1,q,l,i,append_eq,nil_append,cons_append];omega
 have ah:j=d.length:=by omega
 rw[ah,<- ak,take_length]at H;clear a9 hj h1;have b1:Own w1 0 62 2 sa b.length sc (Az (b.map Gt)):=H.ownA (.head _);rw[ah,<- ak];refine AC (sLevels_spec sa b.length sc (b.map Gt) w1 b1.cells (by rw[length_map]) (by omega)) ?_;rintro _ w2 (⟨b2,_⟩|⟨Lv,va,vc,b3,b4,rfl,H2⟩)
 ·rw[hT.lev]at b2;cases b2
 rw[hT.lev]at b3;cases b3;have A:=H.ext1 H2;clear H H2 b1;refine⟨_,_,_,_,rfl,BA (x:=_) (AA rfl ⟨aa,d.length,ac,bd A (.tail _ (.tail _ (mem_append_left _ mX))) EQ4,?_⟩)⟩;rw[ak]at A b4⊢;have cq:spR []=[]:=rfl
 have H4:Hp B w0 w2 (.imap z.sb .i64 (smC (spR (b.take 0)))::X0::.blk z.ub (tbC z pa n pc) 86::A0::Aj wf z.wb W::.own 3 1 va d.length vc (AO (T.L.map (·.level)))::(d.map rwO++(L++(.own 62 2 sa d.length sc (Az (b.map Gt))::X)))):=A.perm (by
  refine AL fun ff gg i l q u=>?_
  simp only[hY,take_zero,cq,q,l,i,append_eq,nil_append,cons_append];omega)
 clear A;generalize c0:(Asn.own 62 2 sa d.length sc (Az (b.map Gt))::X)=X1 at H4;obtain⟨Z,hZ⟩:∃Z:List Asn,Z=X0::.blk z.ub (tbC z pa n pc) 86::A0::Aj wf z.wb W::.own 3 1 va d.length vc (AO (T.L.map (·.level)))::(d.map rwO++L):=⟨_,rfl⟩
 have zX:X0∈Z:=by rw[hZ];exact .head _
 have zA:A0∈Z:=by rw[hZ];exact .tail _ m1
 have zT:Asn.blk z.ub (tbC z pa n pc) 86∈Z:=by rw[hZ];exact .tail _ (.head _)
 have zB:Aj wf z.wb W∈Z:=by rw[hZ];exact .tail _ m2
 have zV:Asn.own 3 1 va d.length vc (AO (T.L.map (·.level)))∈Z:=by rw[hZ];exact .tail _ m3
 have zO:∀{j:Nat}{p:RW},d[j]? =some p->rwO p∈Z:=fun{j p} h=>by
  rw[hZ];exact .tail _ (.tail _ (.tail _ (.tail _ (.tail _ (mem_append_left _ (mem_map.2 ⟨p,mem_of_getElem? h,rfl⟩))))))
 refine AP.mk (fun m s w'=>∃(j:Nat)(ia:Option Addr)(ic:Nat)(za:Option Addr)(zc:Nat)(f:List Sl3)(X:List Asn),m=d.length-j/\j<=d.length/\s=((ia,j,ic),(za,j,zc),(j:Int))/\SlOk ((T.L.take j).map AY) f/\
  Hp B w0 w' (.imap z.sb .i64 (smC (spR (b.take j)))::.own 123 5 ia j ic (itsC ((T.L.take j).map AY) f)::.own 3 1 za j zc (AO ((T.L.take j).map (·.id)))::(BQ ((T.L.take j).map AY) f++(Z++X)))) d.length ⟨0,none,0,none,0,[],X1,rfl,by omega,rfl,⟨by simp,fun k x s h=>by simp at h⟩,?_⟩ ?_
 ·exact((H4.nilS 3 1).nilS 123 5).perm (by
   refine AL fun ff gg i l q u=>?_;have e1:itsC [] []=[]:=rfl;have e2:BQ [] []=[]:=rfl;have e3:AO []=[]:=rfl
   simp only[I,Q,take_zero,List.map_nil,e1,e2,e3,hZ,q,l,i,append_eq,nil_append,cons_append];omega)
 clear H4;rintro m s w3 nx ⟨j,ia,ic,za,zc,f,X,rfl,hj,rfl,ar,H⟩ ba;dsimp only;have b5:∀{x a1 a2 a3:Asn},x∈Z->x∈a1::a2::a3::(BQ ((T.L.take j).map AY) f++(Z++X)):=fun h=>.tail _ (.tail _ (.tail _ (mem_append_right _ (mem_append_left _ h))));refine AB (fun h1=>?_) (fun h1=>?_)
 ·have ah:j<d.length:=by omega
  obtain⟨p,hp⟩:∃p,d[j]? =some p:=⟨_,List.getElem?_eq_getElem ah⟩;obtain⟨r,hr⟩:∃r,T.L[j]? =some r:=⟨_,List.getElem?_eq_getElem (by omega)⟩;have ap:=bi hp;have bj:=hT.id j r p.1 hr ap;have av:=hT.it j r p.1 hr ap;have cr:=hT.known p.1 (mem_of_getElem? ap)
  have b6:T.L.take (j+1)=T.L.take j++[r]:=by
   rw[take_succ_eq_append_getElem (List.getElem?_eq_some_iff.1 hr).1,(List.getElem?_eq_some_iff.1 hr).2]
  obtain⟨ad,aq,al⟩:=bh H (b5 zA) hp;refine AA aq ⟨⟨by omega,h1⟩,_,_,_,_,_,_,_,_,_,_,al,fun yb w4 a8=>?_⟩;have H2:=H.new (cs:=recZ) EQ4 a8;refine Hp.stA H2 EQ4 Fol.Cj (vs:=rwC p) rfl rfl (by simp[recZ]) (cs':=rwC p) rfl fun w5 A=>?_;clear H H2 a8 al;have K:∀{x a0:Asn},x∈Z->x∈a0::.imap z.sb .i64 (smC (spR (b.take j)))::.own 123 5 ia j ic (itsC ((T.L.take j).map AY) f)::.own 3 1 za j zc (AO ((T.L.take j).map (·.id)))::(BQ ((T.L.take j).map AY) f++(Z++X)):=fun h=>.tail _ (b5 h)
  have b7:(AO (T.L.map (·.level)))[j]? =some (.int .i64 r.level):=by simp[AO,hr]
  have am:∀{w6:World},Hp B w0 w6 (.blk yb (rwC p) 204::.imap z.sb .i64 (smC (spR (b.take j)))::.own 123 5 ia j ic (itsC ((T.L.take j).map AY) f)::.own 3 1 za j zc (AO ((T.L.take j).map (·.id)))::(BQ ((T.L.take j).map AY) f++(Z++X)))->
    Calls Tryz.prog 135 #[.pointer (some ⟨xb,0,none⟩),.agg (rwC p).toArray,.int .i64 r.level] w6 fun e w'=>∃a c,e=.returned (.tuple #[.agg (itC (AY r) (a,p.1.attrs.length,c)).toArray,.bool true])/\Hp [] w6 w' [.own 142 2 a p.1.attrs.length c (atC r.x.attrs)]:=fun{w6} H6=>by
   have hb:Blk w6 xb (ldC z.ub next wa wn wc pb aa d.length ac) 128:=H6.blk (by rw[<- ao];exact K zX);have ho:Own w6 0 260 2 p.2.1 p.1.attrs.length p.2.2 (Fol.BC p.1.attrs):=H6.ownA (K (zO hp));have:=nItem_spec xb z.ub z.wb (ldC z.ub next wa wn wc pb aa d.length ac) (tbC z pa n pc) 128 86 hb rfl (H6.blk (K zT)) rfl (W:=W) (H6.ok (Aj wf z.wb W) (K zB)) p.1 p.2.1 p.2.2 ho.cells cr r.level;rw[av]at this;exact this
  refine Am.mk (fun t w'=>∃(ib:Nat)(a:Option Addr)(c:Nat),t=(some ⟨ib,0,none⟩,true)/\Hp B w0 w' (.blk ib (itC (AY r) (a,p.1.attrs.length,c)) 123::.own 142 2 a p.1.attrs.length c (atC r.x.attrs)::.blk yb (rwC p) 204::.imap z.sb .i64 (smC (spR (b.take j)))::.own 123 5 ia j ic (itsC ((T.L.take j).map AY) f)::.own 3 1 za j zc (AO ((T.L.take j).map (·.id)))::(BQ ((T.L.take j).map AY) f++(Z++X)))) ?_ ?_;rotate_left
  ·intro J hJ
   obtain⟨vd,bk,b8⟩:=A.ldO (w':=w5.drew) (o:=j) EQ4 yInt (K zV) b7;refine⟨⟨_,_,_,_,_,_,_,_,_,_,A.ldA (o:=0) (cs:=rwC p) EQ4 Fol.Cj (.head _) rfl rfl,AA bk ⟨⟨by omega,by omega⟩,r.level,by rw[Int.toNat_natCast,Nat.mul_one];exact b8,AC (am A.drew) ?_⟩⟩,⟨_,_,_,_,_,_,_,_,_,_,A.ldA (o:=0) (cs:=rwC p) EQ4 Fol.Cj (.head _) rfl rfl,AA bk ⟨⟨by omega,by omega⟩,r.level,by rw[Int.toNat_natCast,Nat.mul_one];exact b8,fun ib w6 ct=>?_⟩⟩⟩
   ·rintro _ w6 ⟨a,c,rfl,H6⟩
    refine⟨_,_,_,_,_,_,_,_,rfl,fun ib w7 D=>?_⟩;have C:=(A.drew.ext1 H6).new (cs:=itZ) EQ4 D;refine Hp.stA C EQ4 DZ (vs:=itC (AY r) (a,p.1.attrs.length,c)) rfl rfl (by simp[itZ]) (cs':=itC (AY r) (a,p.1.attrs.length,c)) rfl fun w8 O=>hJ _ _ ⟨ib,a,c,rfl,O⟩
   ·have H6:=A.drew.new (cs:=itZ) EQ4 ct
    obtain⟨ve,b9,ca⟩:=H6.ldO (w':=w6) (o:=j) EQ4 yInt (.tail _ (K zV)) b7;rw[bk]at b9;cases b9;refine⟨by rw[Int.toNat_natCast,Nat.mul_one];exact ca,H6.ldA (o:=0) (cs:=rwC p) EQ4 Fol.Cj m1 rfl rfl,AC (am H6.drop) ?_⟩;rintro _ w7 ⟨a,c,rfl,C⟩;refine⟨_,_,_,_,_,_,_,_,rfl,?_⟩;refine Hp.stA (H6.ext1 C).Ae EQ4 DZ (vs:=itC (AY r) (a,p.1.attrs.length,c)) rfl rfl (by simp[itZ]) (cs':=itC (AY r) (a,p.1.attrs.length,c)) rfl fun w8 O=>hJ _ _ ⟨ib,a,c,rfl,O⟩
  clear A am;rintro t w6 ⟨ib,a,c,rfl,H⟩;refine BA (x:=_) ?_;obtain⟨g,U⟩:∃g,g=itC (AY r) (a,p.1.attrs.length,c):=⟨_,rfl⟩;rw[<- U]at H;have cb:p.1.id=r.id:=bj
  have cc:SlOk ((T.L.take j).map AY++[AY r]) (f++[(a,p.1.attrs.length,c)]):=ar.snoc (by
   have:=congrArg (fun x:It=>x.x.attrs.length) av;rw[WX]at this;simp only[length_map]at this
   exact this)
  have cu:p.1.attrs.length=(AY r).x.attrs.length:=by
   have:=congrArg (fun x:It=>x.x.attrs.length) av;rw[WX]at this;simp only[length_map]at this;exact this
  have cd:f.length=((T.L.take j).map AY).length:=ar.len
  have aw:(T.L.take (j+1)).map AY=(T.L.take j).map AY++[AY r]:=by rw[b6,map_append];rfl
  have ce:itsC ((T.L.take (j+1)).map AY) (f++[(a,p.1.attrs.length,c)])=itsC ((T.L.take j).map AY) f++g:=by rw[aw,WW cd,U]
  have cf:BQ ((T.L.take (j+1)).map AY) (f++[(a,p.1.attrs.length,c)])=BQ ((T.L.take j).map AY) f++[.own 142 2 a p.1.attrs.length c (atC r.x.attrs)]:=by
   rw[aw,Sm cd,cu];rfl
  have cg:AO ((T.L.take (j+1)).map (·.id))=AO ((T.L.take j).map (·.id))++[.int .i64 r.id]:=by rw[b6,map_append];simp[AO]
  have a4:g.length=5:=by rw[U];rfl
  have cv:g.all (·.oneCell')=true:=by rw[U];rfl
  refine Am.mk (fun t w'=>∃(ab:Option Addr)(ae:Nat)(af:Option Addr)(ag:Nat)(X':List Asn),t=((ab,j+1,ae),(af,j+1,ag))/\Hp B w0 w' (.blk yb (rwC p) 204::.imap z.sb .i64 (smC (spR (b.take j)))::.own 123 5 ab (j+1) ae (itsC ((T.L.take (j+1)).map AY) (f++[(a,p.1.attrs.length,c)]))::.own 3 1 af (j+1) ag (AO ((T.L.take (j+1)).map (·.id)))::(BQ ((T.L.take (j+1)).map AY) (f++[(a,p.1.attrs.length,c)])++(Z++X')))) ?_ ?_
  ·rintro t w7 ⟨ab,ae,af,ag,X',rfl,C⟩
   have mz:∀{x a0 a1 a2 a3:Asn}{M1 M2:List Asn},x∈Z->x∈a0::a1::a2::a3::(M1++(Z++M2)):=fun h=>.tail _ (.tail _ (.tail _ (.tail _ (mem_append_right _ (mem_append_left _ h)))));refine AA rfl ⟨_,bw C (mz zX) EQ4,AA rfl ⟨some z.sb,by rw[add_lit];exact C.ld (o:=1) (cs:=tbC z pa n pc) EQ4 rMIS (mz zT) rfl,p.1.id,C.lo yInt,p.1.frm,p.1.to,C.loA EK,?_⟩⟩;refine Hp.mupI IZ C.Ae EQ4 fun w8 O=>⟨iR,ba (d.length-(j+1)) _ _ (by omega) ⟨j+1,ab,ae,af,ag,f++[(a,p.1.attrs.length,c)],X',rfl,by omega,rfl,by rw[aw];exact cc,?_⟩⟩
   have e1:aput (smC (spR (b.take j))) p.1.id (.agg #[.int .i64 p.1.frm,.int .i64 p.1.to])=smC (spR (b.take (j+1))):=by
    rw[bx hp,spR_snoc];exact Lp (spR (b.take j)) p.1.id (Gt p.1)
   rw[e1]at O;exact O.del1
  ·intro J hJ
   have bl:∀{w9:World}{ab af:Option Addr}{ae ag:Nat}{y ub:Nat}{T1 T2:TypeId},Hp B w0 w9 (.own 3 1 af (j+1) ag (AO ((T.L.take j).map (·.id))++[.int .i64 p.1.id])::.own 123 5 ab (j+1) ae (itsC ((T.L.take j).map AY) f++g)::.blk y g T1::.blk ub [.int .i64 p.1.id] T2::.blk ib g 123::.own 142 2 a p.1.attrs.length c (atC r.x.attrs)::.blk yb (rwC p) 204::.imap z.sb .i64 (smC (spR (b.take j)))::(BQ ((T.L.take j).map AY) f++(Z++X)))->J ((ab,j+1,ae),(af,j+1,ag)) w9:=fun{w9 ab af ae ag y ub T1 T2} H9=>
    hJ _ _ ⟨ab,ae,af,ag,.blk y g T1::.blk ub [.int .i64 p.1.id] T2::.blk ib g 123::X,rfl,H9.perm (by
     refine AL fun ff gg i l q u=>?_
     simp only[ce,cf,cg,cb,q,l,i,append_eq,nil_append,cons_append];omega)⟩
   have a5:∀{w8 an:World}{y:Nat}{M:List Asn}{G:Option Addr->Nat->Nat->World->Prop},Hp B w0 w8 (.own 123 5 ia j ic (itsC ((T.L.take j).map AY) f)::M)->Asn.blk y g 123∈M->Eqw w8 an->(∀a' c' w1,Hp B w0 w1 (.own 123 5 a' (j+1) c' (itsC ((T.L.take j).map AY) f++g)::M)->G a' (j+1) c' w1)->∃a' n' c' w1,App Tryz.prog #[34,34] 34 an (.slice ia j ic) (.slice (some ⟨y,0,none⟩) 1 1) (.slice a' n' c') w1/\G a' n' c' w1:=fun{w8 an y M G} O hm e k=>
    Hp.app dY (by omega) O e (Blk.src (P:=Tryz.prog) dh ((O.go e).blk (.tail _ hm)) (by rw[a4]) cv) (by simp only[maxLen];omega) (by omega) k
   have appZ:∀{w8 an:World}{y:Nat}{M:List Asn}{G:Option Addr->Nat->Nat->World->Prop},Hp B w0 w8 (.own 3 1 za j zc (AO ((T.L.take j).map (·.id)))::M)->Asn.blk y [.int .i64 p.1.id] 3∈M->Eqw w8 an->(∀a' c' w1,Hp B w0 w1 (.own 3 1 a' (j+1) c' (AO ((T.L.take j).map (·.id))++[.int .i64 p.1.id])::M)->G a' (j+1) c' w1)->∃a' n' c' w1,App Tryz.prog #[59,59] 59 an (.slice za j zc) (.slice (some ⟨y,0,none⟩) 1 1) (.slice a' n' c') w1/\G a' n' c' w1:=fun{w8 an y M G} O hm e k=>
    Hp.app MP (by omega) O e (Blk.src (P:=Tryz.prog) NF ((O.go e).blk (.tail _ hm)) rfl rfl) (by simp only[maxLen];omega) (by omega) k
   have bm:∀{W:World},Eqw w6 W->Ld Tryz.prog 123 W ⟨ib,0,none⟩ (.agg (itC (AY r) (a,p.1.attrs.length,c)).toArray):=fun e=>by
    rw[<- U];exact H.ldA (o:=0) (cs:=g) e DZ (.head _) (by rw[drop_zero];exact take_of_length_le (Nat.le_of_eq a4)) a4
   have bo:∀{W:World},Eqw w6 W->Ld Tryz.prog 3 W ⟨yb,0,none⟩ (.int .i64 p.1.id):=fun e=>H.ld (o:=0) (cs:=rwC p) e yInt m2 rfl;refine⟨⟨_,_,_,_,_,_,_,AA rfl (bm EQ4),p.1.id,bo EQ4,fun y w7 D=>?_⟩,⟨_,_,_,_,_,_,_,AA rfl (bm EQ4),p.1.id,bo EQ4,fun y w7 D=>?_⟩,⟨_,_,_,_,_,_,_,AA rfl (bm EQ4),p.1.id,bo EQ4,fun ub w7 D=>?_⟩⟩
   ·have C:=H.drew.new (cs:=g) EQ4 (by rw[U];exact D)
    refine⟨C.lo yInt,a5 (M:=.blk y g 123::.blk ib g 123::.own 142 2 a p.1.attrs.length c (atC r.x.attrs)::.blk yb (rwC p) 204::.imap z.sb .i64 (smC (spR (b.take j)))::.own 3 1 za j zc (AO ((T.L.take j).map (·.id)))::(BQ ((T.L.take j).map AY) f++(Z++X))) (C.perm (by
     refine AL fun ff gg i l q u=>?_
     simp only[q,l,i,append_eq,nil_append,cons_append];omega)) (.head _) EQ4 fun a2 c2 w8 O=>⟨O.lo yInt,fun ub w9 cw=>?_⟩⟩
    have H9:=O.nw cw
    refine appZ (M:=.own 123 5 a2 (j+1) c2 (itsC ((T.L.take j).map AY) f++g)::.blk y g 123::.blk ub [.int .i64 p.1.id] 3::.blk ib g 123::.own 142 2 a p.1.attrs.length c (atC r.x.attrs)::.blk yb (rwC p) 204::.imap z.sb .i64 (smC (spR (b.take j)))::(BQ ((T.L.take j).map AY) f++(Z++X))) (H9.perm (by
     refine AL fun ff gg i l q u=>?_
     simp only[q,l,i,append_eq,nil_append,cons_append];omega)) m2 EQ4 fun a3 c3 bp a6=>bl a6
   ·have C:=H.drew.new (cs:=g) EQ4 (by rw[U];exact D)
    refine⟨C.lo yInt,fun ub w8 bq=>?_⟩;have O:=C.nw bq
    refine a5 (M:=.blk y g 123::.blk ub [.int .i64 p.1.id] 3::.blk ib g 123::.own 142 2 a p.1.attrs.length c (atC r.x.attrs)::.blk yb (rwC p) 204::.imap z.sb .i64 (smC (spR (b.take j)))::.own 3 1 za j zc (AO ((T.L.take j).map (·.id)))::(BQ ((T.L.take j).map AY) f++(Z++X))) (O.perm (by
     refine AL fun ff gg i l q u=>?_
     simp only[q,l,i,append_eq,nil_append,cons_append];omega)) (.head _) EQ4 fun a2 c2 w9 H9=>?_
    refine appZ (M:=.own 123 5 a2 (j+1) c2 (itsC ((T.L.take j).map AY) f++g)::.blk y g 123::.blk ub [.int .i64 p.1.id] 3::.blk ib g 123::.own 142 2 a p.1.attrs.length c (atC r.x.attrs)::.blk yb (rwC p) 204::.imap z.sb .i64 (smC (spR (b.take j)))::(BQ ((T.L.take j).map AY) f++(Z++X))) (H9.perm (by
     refine AL fun ff gg i l q u=>?_
     simp only[q,l,i,append_eq,nil_append,cons_append];omega)) m2 EQ4 fun a3 c3 bp a6=>bl a6
   ·have C:=H.drew.nw D
    refine⟨AA rfl (show Ld Tryz.prog 123 w7 ⟨ib,0,none⟩ (.agg (itC (AY r) (a,p.1.attrs.length,c)).toArray) by rw[<- U];exact C.ldA (o:=0) (cs:=g) EQ4 DZ m1 (by rw[drop_zero];exact take_of_length_le (Nat.le_of_eq a4)) a4),fun y w8 bq=>?_⟩;have O:=C.new (cs:=g) EQ4 (by rw[U];exact bq)
    refine a5 (M:=.blk y g 123::.blk ub [.int .i64 p.1.id] 3::.blk ib g 123::.own 142 2 a p.1.attrs.length c (atC r.x.attrs)::.blk yb (rwC p) 204::.imap z.sb .i64 (smC (spR (b.take j)))::.own 3 1 za j zc (AO ((T.L.take j).map (·.id)))::(BQ ((T.L.take j).map AY) f++(Z++X))) (O.perm (by
     refine AL fun ff gg i l q u=>?_
     simp only[q,l,i,append_eq,nil_append,cons_append];omega)) (.head _) EQ4 fun a2 c2 w9 H9=>?_
    refine appZ (M:=.own 123 5 a2 (j+1) c2 (itsC ((T.L.take j).map AY) f++g)::.blk y g 123::.blk ub [.int .i64 p.1.id] 3::.blk ib g 123::.own 142 2 a p.1.attrs.length c (atC r.x.attrs)::.blk yb (rwC p) 204::.imap z.sb .i64 (smC (spR (b.take j)))::(BQ ((T.L.take j).map AY) f++(Z++X))) (H9.perm (by
     refine AL fun ff gg i l q u=>?_
     simp only[q,l,i,append_eq,nil_append,cons_append];omega)) m2 EQ4 fun a3 c3 bp a6=>bl a6
 clear ba
 have ah:j=d.length:=by omega
 rw[ah]at H ar⊢;rw[show T.L.take d.length=T.L from take_of_length_le (by omega)]at H ar;rw[show b.take d.length=b from take_of_length_le (by omega)]at H;have ch:∀{x a1 a2 a3:Asn}{M:List Asn},x∈Z->x∈a1::a2::a3::(M++(Z++X)):=fun h=>.tail _ (.tail _ (.tail _ (mem_append_right _ (mem_append_left _ h))));refine AA rfl ⟨next,by rw[add_lit];exact H.ld (o:=1) (cs:=ldC z.ub next wa wn wc pb aa d.length ac) EQ4 yInt (by rw[<- ao];exact ch zX) rfl,?_⟩;dsimp only;rw[co];have a7:d.length=T.L.length:=cp
 have bb:Df [] w3 ia d.length (T.L.map rowI) f:=by
  rw[a7];exact MM hG (ia:=ia) (ic:=ic) ar H (by rw[<- a7];exact .tail _ (.head _)) (fun x hx=>.tail _ (.tail _ (.tail _ (mem_append_left _ hx))))
 have ci:Own w3 0 3 1 za d.length zc (AO (T.L.map (·.id))):=H.ownA m2;refine AC (gRestore_spec hG ia d.length ic f za d.length zc w3 bb ci.cells a7) ?_;rintro _ w4 ⟨tf,tb,rfl,H2⟩;have A:=H.ext1 H2;clear H H2 bb ci;refine⟨_,_,rfl,AV (fun h=>(h rfl).elim) (fun _=>?_)⟩
 have H5:Hp B w0 w4 (.blk z.ub (tbC z pa n pc) 86::AU tf tb T::X0::A0::.imap z.sb .i64 (smC (spR b))::Aj wf z.wb W::(L++(d.map rwO++(.own 3 1 va d.length vc (AO (T.L.map (·.level)))::.own 123 5 ia d.length ic (itsC (T.L.map AY) f)::.own 3 1 za d.length zc (AO (T.L.map (·.id)))::(BQ (T.L.map AY) f++X))))):=A.perm (by
  refine AL fun ff gg i l q u=>?_
  simp only[hZ,q,l,i,append_eq,nil_append,cons_append];omega)
 clear A;generalize c1:(d.map rwO++(Asn.own 3 1 va d.length vc (AO (T.L.map (·.level)))::.own 123 5 ia d.length ic (itsC (T.L.map AY) f)::.own 3 1 za d.length zc (AO (T.L.map (·.id)))::(BQ (T.L.map AY) f++X)))=X2 at H5;refine AA rfl ⟨_,bw H5 m2 EQ4,AA rfl ?_⟩;refine Hp.st (o:=0) H5 EQ4 nPT rfl rfl (by simp[tbC]) (cs':=tbC {z with tb:=tb} pa n pc) rfl fun w5 H6=>?_;clear H5;refine AA rfl ⟨aa,d.length,ac,bd H6 m2 EQ4,?_⟩;have cx:=hG.Rz;refine AP.mk (fun m s w'=>∃(j:Nat)(tf:List Nat)(X:List Asn),m=d.length-j/\j<=d.length/\s=(j:Int)/\Hp B w0 w' (AU tf tb T::X0::A0::.blk z.ub (tbC {z with tb:=tb} pa n pc) 86::.imap z.sb .i64 (smC (spR b))::Aj wf z.wb W::(L++X))) d.length ⟨0,tf,X2,rfl,by omega,rfl,H6.perm ?_⟩ ?_
 ·refine AL fun ff gg i l q u=>?_
  simp only[q,l,i,append_eq,nil_append,cons_append];omega
 clear H6;rintro m s w6 c4 ⟨j3,cj,X3,rfl,c5,rfl,H⟩ ck;refine AB (fun h2=>?_) (fun h2=>?_)
 ·have cl:j3<d.length:=by omega
  obtain⟨p,hp⟩:∃p,d[j3]? =some p:=⟨_,List.getElem?_eq_getElem cl⟩;obtain⟨r,hr⟩:∃r,T.L[j3]? =some r:=⟨_,List.getElem?_eq_getElem (by omega)⟩;have ap:=bi hp;have bj:=hT.id j3 r p.1 hr ap;have cm:=hT.par j3 r p.1 hr ap;obtain⟨ad,aq,al⟩:=bh H m2 hp;refine AA aq ⟨⟨by omega,h2⟩,_,_,_,_,_,_,_,_,_,_,al,fun yb w7 D=>?_⟩;have H2:=H.new (cs:=recZ) EQ4 D;refine Hp.stA H2 EQ4 Fol.Cj (vs:=rwC p) rfl rfl (by simp[recZ]) (cs':=rwC p) rfl fun w8 A=>?_;clear H H2 D al;refine⟨p.1.id,A.lo yInt,?_⟩;have cn:=Xk cx hr;rw[bj];refine AC (Lu (A.ok (AU cj tb T) m1) r.id) ?_;rintro _ w9 ⟨cy,⟨h3,_⟩|⟨k,r',a,c,kd,h3,rfl,h4,H4⟩⟩
  ·rw[cn]at h3;cases h3
  rw[cn]at h3;cases h3;have H5:=A.Ae.use1 H4;clear A H4;refine⟨_,_,_,_,_,_,_,_,_,_,rfl,fun y bp bc=>?_⟩;have H6:=H5.nw bc;refine Hp.sA H6 KE (cs':=ndC r.id (BG T.L j3) kd r.x a r.x.attrs.length c) fun c6 C=>?_;clear H5 H6 bc;refine⟨BG T.L j3,C.lo yInt,p.1.parent,C.lo yInt,AV (fun h=>(h cm.symm).elim) (fun _=>⟨iR,ck (d.length-(j3+1)) _ _ (by omega) ⟨j3+1,cy,.blk y (ndC r.id (BG T.L j3) kd r.x a r.x.attrs.length c) 71::.own 142 2 a r.x.attrs.length c (atC r.x.attrs)::.blk yb (rwC p) 204::X3,rfl,by omega,rfl,C.perm ?_⟩⟩)⟩;refine AL fun ff gg i l q u=>?_;simp only[q,l,i,append_eq,nil_append,cons_append];omega
 ·refine⟨cj,tb,rfl,?_⟩
  rw[<- ao,<- N]
  exact Hp.BP (R:=A0::X3) (H.perm (by
   refine AL fun ff gg i l q u=>?_
   simp only[q,l,i,append_eq,nil_append,cons_append];omega))
end
noncomputable section
open Go Go.Vc Go.Nod
def Iw:LdS->List Cg->Option LdS
 |st,[]=>some st
 |st,c::r=>match Rt st c with
  |none=>none
  |some st'=>Iw st' r
def lds0:LdS:=⟨[],[],0,[],[]⟩
structure LdG(st:LdS)(N:Nat):Prop where
 ok:LdOk st N
 w:CB ⟨st.P,st.Q,[]⟩ 0
 ql:st.Q.length<=N
 cn:(st.C.map (·.1)).Nodup
 cl:st.C.length<=N
 ci:∀i∈st.C.map (·.1),0<=i/\i<=4294967296
theorem Zh:LdG lds0 0:=⟨⟨Nat.zero_le _,Nat.zero_le _,fun i=>Nat.zero_le _⟩,⟨Nat.zero_le _,fun e h=>(by cases h),.nil,fun e h=>(by cases h),fun e h=>(by cases h),.nil⟩,Nat.zero_le _,.nil,Nat.zero_le _,fun i h=>(by cases h)⟩
theorem headF_id{l:List UInt8}{x:Nat×Nat×Nat}(h:Fol.D5 l=some x):x.1<=4294967296:=by
 rw[Fol.D5]at h;split at h
 ·cases h
 ·split at h
  ·cases h
  ·cases h
   dsimp only;omega
theorem LdG.take{st m:LdS}{N:Nat}{c:Cg}(h:LdG st N)(f:Rt st c=some m):LdG m (N+1):=by
 have n:=h.ok.take f;rw[Rt]at f;split at f
 ·cases f
 rename_i H;split at f
 ·cases f
 rename_i A;obtain⟨⟨J,K,r⟩,a,t⟩:=Option.map_eq_some_iff.1 f;subst t;have L:=h.ok.P
 have o:0<=c.slot/\c.slot<120:=by
  have g:(Sl.aput (Cm (padP st.P (c.page.toNat+1)) c.page.toNat) c.slot c.s.data.toList).2=0:=Classical.byContradiction fun h=>A (.inr (.inr h));rw[Sl.aput]at g;split at g
  ·cases g
  ·omega
 have p:st.P.length<=((padP st.P (c.page.toNat+1)).set c.page.toNat (Sl.aput (Cm (padP st.P (c.page.toNat+1)) c.page.toNat) c.slot c.s.data.toList).1).length/\c.page.toNat<((padP st.P (c.page.toNat+1)).set c.page.toNat (Sl.aput (Cm (padP st.P (c.page.toNat+1)) c.page.toNat) c.slot c.s.data.toList).1).length:=by
  rw[List.length_set,padP,length_append,List.length_replicate];omega
 have l:=h.w.pages p.1 n.P
 have u:c.page<(((padP st.P (c.page.toNat+1)).set c.page.toNat (Sl.aput (Cm (padP st.P (c.page.toNat+1)) c.page.toNat) c.slot c.s.data.toList).1).length:Int):=by
  have:=p.2;omega
 have B:CB ⟨(padP st.P (c.page.toNat+1)).set c.page.toNat (Sl.aput (Cm (padP st.P (c.page.toNat+1)) c.page.toNat) c.slot c.s.data.toList).1,gput st.Q (CJ c.s) (c.page,c.slot),[]⟩ 0:=by
  refine⟨l.len,fun e j=>?_,IC l.qn _ _,fun e j=>?_,l.d,l.dn⟩
  ·rcases Jb j with rfl|j
   ·exact⟨by show 0<=c.page;omega,u,o.1,o.2⟩
   ·exact l.q e j
  ·rcases Jb j with rfl|j
   ·exact UJ _
   ·exact l.key e j
 have D:=UU st.Q (CJ c.s) (c.page,c.slot)
 have y:(r.map (·.1)).Nodup/\r.length<=N+1/\∀i∈r.map (·.1),0<=i/\i<=4294967296:=by
  have b:(st.C.map (·.1)).Nodup/\st.C.length<=N+1/\∀i∈st.C.map (·.1),0<=i/\i<=4294967296:=⟨h.cn,Nat.le_succ_of_le h.cl,h.ci⟩;rw[Wx.eq_def]at a;split at a
  ·cases a
  ·split at a
   ·split at a
    ·cases a;exact b
    ·cases a
   ·split at a
    ·obtain⟨M,F,e⟩:=Option.map_eq_some_iff.1 a
     cases e;exact b
    ·split at a
     ·obtain⟨x,G,e⟩:=Option.map_eq_some_iff.1 a
      cases e;refine⟨IC h.cn _ _,Nat.le_trans (UU _ _ _) (Nat.succ_le_succ h.cl),fun i k=>?_⟩;rw[Jg]at k
      have z:i∈st.C.map (·.1)\/i=(x.1:Int):=by
       split at k
       ·exact .inl k
       ·rw[mem_append,mem_singleton]at k;exact k
      rcases z with k|rfl
      ·exact h.ci i k
      ·have:=headF_id G
       omega
     ·cases a
 exact⟨n,B,by have:=h.ql;show(gput st.Q (CJ c.s) (c.page,c.slot)).length<=N+1;omega,y.1,y.2.1,y.2.2⟩
theorem SE:∀(l:List Cg)(st a:LdS)(N:Nat),LdG st N->Iw st l=some a->LdG a (N+l.length)
 | [],st,a,N,h,ht=>by cases ht;exact h
 |c::r,st,a,N,h,ht=>by
  rw[Iw]at ht;split at ht
  ·cases ht
  ·rename_i s1 b
   have:=SE r s1 a (N+1) (h.take b) ht;rw[length_cons,show N+(r.length+1)=N+1+r.length by omega];exact this
structure fK(l:List Cg)(st:LdS)(recs:List Fol.Rec)(F:Fo)(T:Tr):Prop where
 take:Iw lds0 l=some st
 words:WOk st.V
 keys:∃(K:List Int)(rK:List Fol.Rec),K.Perm (st.C.map (·.1))/\(K.Pairwise fun x y=>x<y)/\rK.length=K.length/\(∀(j:Nat)(i:Int)(r:Fol.Rec),K[j]? =some i->rK[j]? =some r->Fol.decR (sortL (pcAt st.C i)) r)/\recs.Perm rK
 rise:recs.Pairwise fun a b=>a.frm<b.frm
 good:BN F T
 tree:bZ st.V T recs
 next:max st.next 1=T.next
theorem nLoad_spec{l:List Cg}{st:LdS}{d:List Fol.Rec}{F:Fo}{T:Tr}(G:fK l st d F T)(la:Option Addr)(n lc:Nat)(w:World)(a8:∀W,Chg [] w W->Cells W la (cgsC l))(hn:n=l.length)(bp:n<=400000):
  Calls Tryz.prog 25 #[.slice la n lc] w fun e w'=>∃f b,e=.returned (.tuple #[.pointer (some ⟨b,0,none⟩),.int .i64 0])/\Hp [] w w' [tabA f b ⟨T,spR d,st.V,st.P,st.Q⟩]:=by
 apply nLoad.ok;unfold nLoad.vc;have r:=SE l lds0 st 0 Zh G.take;rw[Nat.zero_add]at r;refine AC (PT w) ?_;rintro _ w1 ⟨b,f,rfl,H1⟩;obtain⟨M,⟨z,t,u,J,tf,wf,rfl,_,rfl⟩,Z,_⟩:=H1.unpack;clear H1;refine⟨_,rfl,fun N w2 ag xb w3 ah=>?_⟩;obtain⟨cf,H3⟩:=pcs_nil (Z.newI EQ4 .i64 ag);have H4:=(H3.new (cs:=ldC z.ub 0 none 0 0 N none 0 0) EQ4 ah).nilS 9 1;clear Z H3 ag ah
 refine AP.mk (fun m s w'=>∃(j:Nat)(p:Option Addr)(q:Nat)(cf J:List Nat)(t:Option Addr)(u:Nat)(s1:LdS)(X:List Asn),m=n-j/\j<=n/\s=(j:Int)/\LdG s1 j/\Iw s1 (l.drop j)=some st/\
  Hp [] w w' (ldL xb N z p q none 0 0 cf J t u s1++(AU tf z.tb ⟨[],1⟩::.imap z.sb .i64 (smC [])::Aj wf z.wb []::X))) n ⟨0,none,0,cf,J,t,u,lds0,[],rfl,by omega,rfl,Zh,G.take,H4.perm ?_⟩ ?_
 ·refine AL fun ff gg h0 O R ab=>?_
  have e1:BI lds0.V=[]:=rfl;have e2:tab0.T=⟨[],1⟩/\tab0.S=[]/\tab0.W=[]/\tab0.P=lds0.P/\tab0.Q=lds0.Q:=⟨rfl,rfl,rfl,rfl,rfl⟩;have e3:lds0.V.length=0/\lds0.next=0/\lds0.C=[]:=⟨rfl,rfl,rfl⟩;simp only[I,Q,tabL,ldL,e1,e2.1,e2.2.1,e2.2.2.1,e2.2.2.2.1,e2.2.2.2.2,e3.1,e3.2.1,e3.2.2,R,O,h0,append_eq,nil_append,cons_append];omega
 clear H4;rintro m s w4 nx ⟨j,p,q,cf,J,t,u,s1,X,rfl,hj,rfl,hg,ht,H⟩ ak;refine AB (fun h1=>?_) (fun h1=>?_)
 ·have y:j<l.length:=by omega
  obtain⟨c,al⟩:∃c,c=l[j]:=⟨_,rfl⟩
  have O:l[j]? =some c:=by rw[al];exact List.getElem?_eq_getElem y
  have a9:l.drop j=c::l.drop (j+1):=by rw[al];exact drop_eq_getElem_cons y
  rw[a9,Iw]at ht;split at ht
  ·cases ht
  rename_i s2 ae;have am:=a8 w4 H.chg;have af:=Zn O;obtain⟨ad,an⟩:=am.some (fun e=>by rw[e]at af;simp[cgC]at af);refine AA an ⟨⟨by omega,h1⟩,c.page,c.slot,c.s,c.gone,by rw[Int.toNat_natCast];exact am.ldA magg an af rfl,fun yb w5 ao=>?_⟩;have Z:=H.nw ao;refine Hp.sA Z magg (cs':=cgC c) fun w6 H3=>?_;clear H Z ao;refine⟨c.page,c.slot,c.s,c.gone,H3.loA magg,?_⟩;have H4:=H3.drop;obtain⟨pg,sl,s,ap⟩:=c;have aq:s=bts s.data.toList:=(Kr s).symm;have ar:=ae;rw[aq]at ae;have av:=nTake_spec xb N z p q none 0 0 cf J t u s1 s2 j hg.ok (by omega) pg sl s.data.toList ap ae H4;rw[<- aq]at av;refine AC av ?_;rintro _ w7 ⟨ba,bb,bc,bd,bh,bi,rfl,H5⟩;refine⟨true,rfl,BA (x:=_) ⟨iR,ak (n-(j+1)) _ _ (by omega) ⟨j+1,ba,bb,bc,bd,bh,bi,s2,X,rfl,by omega,rfl,hg.take ar,ht,H5⟩⟩⟩
 have y:j=l.length:=by omega
 rw[y,List.drop_length,Iw]at ht;cases ht;clear ak;refine⟨p,st.V.length,q,H.lo rSS,?_⟩;have aw:Own w4 0 9 1 p st.V.length q (BI st.V):=H.ownA m1;refine AC (xLoad_spec p st.V.length q st.V w4 aw.cells rfl G.words) ?_;rintro _ w5 ⟨A,U,rfl,Z⟩;have H3:=H.ext1 Z;clear H Z aw;refine⟨_,_,rfl,AV (fun h=>(h rfl).elim) (fun _=>?_)⟩;obtain⟨K,rK,k1,k2,k3,k4,k5⟩:=G.keys
 have H4:Hp [] w w5 (.blk xb (ldC z.ub st.next p st.V.length q N none 0 0) 128::pcsA cf N st.C::(Aj A U st.V::.blk z.ub (tbC z t st.P.length u) 86::pgsA J t u st.P::.smap z.qb (gC Ag st.Q)::.imap z.sb .i64 (smC [])::.own 9 1 p st.V.length q (BI st.V)::AU tf z.tb ⟨[],1⟩::Aj wf z.wb []::X)):=H3.perm (by
  refine AL fun ff gg h0 O R ab=>?_
  simp only[ldL,R,O,h0,append_eq,nil_append,cons_append];omega)
 clear H3;refine AC (nNodes_spec xb z.ub N st.next p st.V.length q cf st.C r.cn (by have:=r.cl;omega) (fun i=>by have:=r.ok.C i;omega) (fun i hi=>by have:=r.ci i hi;omega) K k1 k2 rK k3 k4 H4) ?_;rintro _ w6 ⟨aa,ac,B,rfl,bj,bk,H5⟩;clear H4
 have a0:B.map (·.1)=d:=by
  have h1:(B.map (·.1)).Perm d:=bj.trans k5.symm;have h2:(B.map (·.1)).Pairwise fun a b=>a.frm<=b.frm:=pairwise_map.2 bk;refine List.Perm.eq_of_pairwise (le:=fun a b=>a.frm<=b.frm) (fun a b R hb h3 h4=>?_) h2 (G.rise.imp fun h=>Int.le_of_lt h) h1;have bq:a.frm=b.frm:=Int.le_antisymm h3 h4;have bl:=h1.mem_iff.1 R;obtain⟨i,hi⟩:=List.getElem?_of_mem bl;obtain⟨j,hj⟩:=List.getElem?_of_mem hb;obtain⟨a1,a2⟩:=List.getElem?_eq_some_iff.1 hi;obtain⟨y,a3⟩:=List.getElem?_eq_some_iff.1 hj;rcases Nat.lt_trichotomy i j with h|h|h
  ·have:=List.pairwise_iff_getElem.1 G.rise i j a1 y h
   rw[a2,a3]at this;omega
  ·subst h
   rw[hi]at hj;exact Option.some.inj hj
  ·have:=List.pairwise_iff_getElem.1 G.rise j i y a1 h
   rw[a2,a3]at this;omega
 refine⟨true,rfl,BA (x:=_) ⟨_,H5.lo rPT,AA rfl ?_⟩⟩;rw[add_lit]
 have H6:Hp [] w w6 (.blk z.ub (tbC z t st.P.length u) 86::.blk xb (ldC z.ub st.next p st.V.length q N aa B.length ac) 128::.own 204 8 aa B.length ac (B.flatMap rwC)::.imap z.sb .i64 (smC [])::Aj A U st.V::(B.map rwO++(pgsA J t u st.P::.smap z.qb (gC Ag st.Q)::.own 9 1 p st.V.length q (BI st.V)::AU tf z.tb ⟨[],1⟩::Aj wf z.wb []::X))):=H5.perm (by
  refine AL fun ff gg h0 O R ab=>?_
  simp only[R,O,h0,append_eq,nil_append,cons_append];omega)
 clear H5;obtain⟨k,a4⟩:∃k:WN,k= {z with wb:=U}:=⟨_,rfl⟩
 have Y:k.ub=z.ub/\k.sb=z.sb/\k.wb=U/\k.qb=z.qb:=by rw[a4];exact⟨rfl,rfl,rfl,rfl⟩
 refine Hp.st (o:=0+2) H6 EQ4 rPB rfl rfl (by simp[tbC]) (cs':=tbC k t st.P.length u) (by rw[a4];rfl) fun w7 H7=>?_;clear H6
 have H8:Hp [] w w7 (.blk xb (ldC k.ub st.next p st.V.length q N aa B.length ac) 128::.blk k.ub (tbC k t st.P.length u) 86::.own 204 8 aa B.length ac (B.flatMap rwC)::.imap k.sb .i64 (smC [])::Aj A k.wb st.V::(B.map rwO++(pgsA J t u st.P::.smap z.qb (gC Ag st.Q)::.own 9 1 p st.V.length q (BI st.V)::AU tf z.tb ⟨[],1⟩::Aj wf z.wb []::X))):=by
  rw[Y.1,Y.2.1,Y.2.2.1];exact H7.Ae
 clear H7;refine AC (nTreeQ_spec xb k t st.P.length u st.next p st.V.length q N aa ac B A st.V G.good (by rw[a0];exact G.tree) G.next H8) ?_;rintro _ w8 ⟨a5,a6,rfl,H9⟩;clear H8;rw[a0]at H9;refine⟨true,rfl,BA (x:=_) ⟨_,H9.lo rPT,?_⟩⟩;obtain⟨D,a7⟩:∃D:WN,D= {k with tb:=a6}:=⟨_,rfl⟩
 have g:D.ub=k.ub/\D.tb=a6/\D.sb=k.sb/\D.wb=k.wb/\D.qb=z.qb:=by rw[a7];exact⟨rfl,rfl,rfl,rfl,Y.2.2.2⟩
 rw[<- a7]at H9
 have bm:Hp [] w w8 (tabL D t u J a5 A ⟨T,spR d,st.V,st.P,st.Q⟩++(.blk xb (ldC k.ub st.next p st.V.length q N aa B.length ac) 128::.own 9 1 p st.V.length q (BI st.V)::AU tf z.tb ⟨[],1⟩::Aj wf z.wb []::X)):=H9.perm (by
  refine AL fun ff gg h0 O R ab=>?_
  simp only[tabL,g.1,g.2.1,g.2.2.1,g.2.2.2.1,g.2.2.2.2,R,O,h0,append_eq,nil_append,cons_append];omega)
 obtain⟨f',bo⟩:=bm.DJ (Q:=tabQ D.ub ⟨T,spR d,st.V,st.P,st.Q⟩) ⟨D,t,u,J,a5,A,rfl,⟨r.w,by have:=r.ql;show st.Q.length<=500000;omega⟩,rfl⟩;exact⟨f',D.ub,by rw[g.1],Hp.BP (L:=[_]) bo⟩
end
end Go.Proofs.YtljenkbpnioipaaGreat
namespace Go.Nod
open Go
def bndR:List It->List Int->List Bd->List Bd
 |x::r,i::is,op=>(op.drop x.level.toNat).reverse++(i,false)::bndR r is (op.take x.level.toNat++[(i,true)])
 |_,_,op=>op.reverse
theorem O6(ids:List Int)(a:List Bd):bndR [] ids a=a.reverse:=by
 cases ids<;>rfl
theorem Xv:∀(n:Nat)(s:BSt),n<=s.op.length->Ig n s=⟨s.op.take (s.op.length-n),s.out++(s.op.drop (s.op.length-n)).reverse⟩
 |0,s,_=>by simp[Ig]
 |n+1,s,h=>by
  rw[Nj,Xv n s (by omega),popB];obtain⟨k,c⟩:∃k,s.op.length-(n+1)=k:=⟨_,rfl⟩
  have b:s.op.length-n=k+1:=by omega
  have a:k<s.op.length:=by omega
  rw[c,b]
  have d:(s.op.take (k+1)).dropLast=s.op.take k:=by
   rw[take_succ_eq_append_getElem a,List.dropLast_concat]
  have e:(s.op.take (k+1)).getLastD (0,true)=s.op[k]:=by
   rw[take_succ_eq_append_getElem a,List.getLastD_concat]
  have f:s.op.drop k=s.op[k]::s.op.drop (k+1):=drop_eq_getElem_cons a;rw[d,e,f,List.reverse_cons,append_assoc]
theorem YR(d:Int)(s:BSt):Fj d s=⟨s.op.take d.toNat,s.out++(s.op.drop d.toNat).reverse⟩:=by
 rw[Fj,Xv _ s (by omega)];by_cases h:d.toNat<=s.op.length
 ·rw[show s.op.length-(s.op.length-d.toNat)=d.toNat by omega]
 ·rw[show s.op.length-(s.op.length-d.toNat)=s.op.length by omega,take_of_length_le (Nat.le_refl _),take_of_length_le (by omega),drop_of_length_le (Nat.le_refl _),drop_of_length_le (by omega)]
theorem aH:∀(l:List It)(ids:List Int)(s:BSt),ids.length=l.length->(Fj 0 (bndS l ids s)).out=s.out++bndR l ids s.op
 | [],ids,s,_=>by rw[bndS,YR,O6];rfl
 |x::r,[],s,h=>by cases h
 |x::r,i::is,s,h=>by
  rw[bndS,List.tail_cons,List.headD_cons,aH r is _ (by simpa using h),YR,begB,bndR];simp
theorem GK{l:List It}{ids:List Int}(h:ids.length=l.length):Bv l ids=bndR l ids []:=by
 rw[Bv,aH l ids _ h];rfl
theorem JU:∀(l:List It)(ids:List Int)(a:List Bd),ids.length=l.length->(bndR l ids a).Perm (a++ids.flatMap fun i=>[(i,false),(i,true)])
 | [],[],a,_=>by rw[O6];simp
 | [],_::_,a,h=>by cases h
 |x::r,[],a,h=>by cases h
 |x::r,i::is,a,h=>by
  have c:=JU r is (a.take x.level.toNat++[(i,true)]) (by simpa using h);rw[bndR]
  have d:((a.drop x.level.toNat).reverse++(i,false)::bndR r is (a.take x.level.toNat++[(i,true)])).Perm (a.drop x.level.toNat++(i,false)::(a.take x.level.toNat++[(i,true)]++is.flatMap fun i=>[(i,false),(i,true)])):=
   (List.reverse_perm _).append (c.cons _)
  refine d.trans ?_
  have b:(a.drop x.level.toNat++(i,false)::(a.take x.level.toNat++[(i,true)]++is.flatMap fun i=>[(i,false),(i,true)])).Perm ((a.take x.level.toNat++a.drop x.level.toNat)++((i,false)::(i,true)::is.flatMap fun i=>[(i,false),(i,true)])):=by
   rw[List.perm_iff_count];intro z;simp only[List.count_append,List.count_cons,List.count_nil];omega
  rw[take_append_drop]at b;exact b
theorem VR{l:List It}{ids:List Int}(h:ids.length=l.length)(hn:ids.Nodup):(Bv l ids).Nodup:=by
 rw[GK h,(JU l ids [] h).nodup_iff,nil_append];clear h
 induction ids with
 |nil=>simp
 |cons i c d=>
  rw[nodup_cons]at hn;rw[flatMap_cons];show((i,false)::(i,true)::c.flatMap fun i=>[(i,false),(i,true)]).Nodup
  have b:∀e:Bool,(i,e)∉c.flatMap fun i=>[((i,false):Bd),(i,true)]:=fun e a=>by
   obtain⟨j,f,a⟩:=mem_flatMap.1 a;simp only[mem_cons,List.not_mem_nil,or_false,Prod.mk.injEq]at a;rcases a with a|a<;>exact hn.1 (a.1▸f)
  rw[nodup_cons,nodup_cons];refine⟨fun a=>?_,b true,d hn.2⟩;rcases mem_cons.1 a with a|a
  ·cases a
  ·exact b false a
theorem OV{l:List It}{ids:List Int}(h:ids.length=l.length){b:Bd}:b∈Bv l ids↔b.1∈ids:=by
 rw[GK h,(JU l ids [] h).mem_iff,nil_append,mem_flatMap];obtain⟨i,e⟩:=b;constructor
 ·rintro⟨j,c,a⟩
  simp only[mem_cons,List.not_mem_nil,or_false,Prod.mk.injEq]at a;rcases a with a|a<;>exact a.1▸c
 ·intro d
  exact⟨i,d,by cases e<;>simp⟩
theorem RP:∀(l:List It)(ids:List Int)(a:List Bd),(a.reverse).Sublist (bndR l ids a)
 | [],ids,a=>by rw[O6];exact .refl _
 |x::r,[],a=>.refl _
 |x::r,i::is,a=>by
  have c:=RP r is (a.take x.level.toNat++[(i,true)]);rw[reverse_append]at c;have b:(a.take x.level.toNat).reverse.Sublist (bndR r is (a.take x.level.toNat++[(i,true)])):=(List.sublist_append_right _ _).trans c;rw[bndR]
  have e:a.reverse=(a.drop x.level.toNat).reverse++(a.take x.level.toNat).reverse:=by rw[<- reverse_append,take_append_drop]
  rw[e];exact(List.Sublist.refl _).append (b.cons _)
structure Rise(S:SM)(bs:List Bd):Prop where
 lt:bs.Pairwise fun a b=>atB S a<atB S b
 pos:∀b∈bs,0<atB S b/\atB S b<4611686018427387904
def spB(S:SM)(i:Int):Sp:=(atB S (i,false),atB S (i,true))
def LevR:Nat->List It->Prop
 |_,[]=>True
 |m,x::r=>0<=x.level/\x.level.toNat<=m/\LevR (x.level.toNat+1) r
theorem ay(o:List Sp)(x:Sp)(d:Nat)(f:d<=o.length)(h1:∀k y,d<=k->o[k]? =some y->y.2<x.1)(c:∀k y,k<d->o[k]? =some y->¬y.2<x.1):∀n,d<=n->n<=o.length->popA n o x=o.take d
 |0,hn,hl=>by
  have:d=0:=by omega
  rw[this,popA,take_zero]
 |n+1,hn,hl=>by
  obtain⟨y,a⟩:∃y,o[n]? =some y:=⟨_,List.getElem?_eq_getElem (by omega)⟩;rw[popA,a];dsimp only;by_cases e:d<=n
  ·rw[if_pos (h1 n y e a)]
   exact ay o x d f h1 c n e (by omega)
  ·have b:d=n+1:=by omega
   rw[if_neg (c n y (by omega) a),b]
theorem bI(S:SM):∀(l:List It)(ids:List Int)(f:List Bd)(p:Option Int),ids.length=l.length->LevR f.length l->(∀b∈f,b.2=true)->Rise S (bndR l ids f)->(∀b∈f,∀c∈bndR l ids f,atB S (b.1,false)<atB S c)->(∀z,p=some z->∀c∈bndR l ids f,z<atB S c)->
  levP p (f.map fun b=>spB S b.1) (ids.map (spB S))=some (l.map (·.level))/\(ids.map (spB S)).Pairwise (fun a b=>a.1<b.1)/\∀i∈ids,(spB S i).1<(spB S i).2
 | [],[],f,p,_,_,_,_,_,_=>⟨rfl,.nil,fun i hi=>(by cases hi)⟩
 | [],_::_,f,p,h,_,_,_,_,_=>by cases h
 |x::r,[],f,p,h,_,_,_,_,_=>by cases h
 |x::r,i::is,f,p,h,hlev,hop,hR,hfr,hp=>by
  obtain⟨l0,R,Y⟩:=hlev;rw[bndR]at hR hfr hp;obtain⟨d,hd⟩:∃d,d=x.level.toNat:=⟨_,rfl⟩;rw[<- hd]at hR hfr hp R Y;obtain⟨g,m⟩:∃g,g=f.take d++[(i,true)]:=⟨_,rfl⟩;rw[<- m]at hR hfr hp;obtain⟨o,n⟩:∃o,o=bndR r is g:=⟨_,rfl⟩;rw[<- n]at hR hfr hp
  have w:g.reverse.Sublist o:=by rw[n];exact RP r is g
  have A:g.reverse=(i,true)::(f.take d).reverse:=by rw[m,reverse_append];rfl
  have G:=pairwise_append.1 hR.lt;have q:=pairwise_cons.1 G.2.1;have C:Rise S o:=⟨q.2,fun b e=>hR.pos b (mem_append_right _ (.tail _ e))⟩;have H:(i,true)∈o:=w.subset (by rw[A];exact .head _);have T:(spB S i).1<(spB S i).2:=q.1 _ H;have J:∀b∈f.drop d,atB S b<atB S (i,false):=fun b e=>G.2.2 b (mem_reverse.2 e) _ (.head _)
  have s:∀b∈f.take d,atB S (i,true)<atB S b:=fun b e=>by
   have t:(g.reverse).Pairwise fun a b=>atB S a<atB S b:=C.lt.sublist w;rw[A]at t;exact(pairwise_cons.1 t).1 b (mem_reverse.2 e)
  have K:popA (f.map fun b=>spB S b.1).length (f.map fun b=>spB S b.1) (spB S i)=(f.take d).map fun b=>spB S b.1:=by
   rw[ay _ (spB S i) d (by rw[length_map];exact R) (fun k y Z D=>?_) (fun k y Z D=>?_) _ (by rw[length_map];exact R) (Nat.le_refl _),map_take]
   ·rw[List.getElem?_map]at D
    obtain⟨b,e,rfl⟩:=Option.map_eq_some_iff.1 D;have B:b∈f.drop d:=mem_of_getElem? (i:=k-d) (by rw[List.getElem?_drop,show d+(k-d)=k by omega];exact e);have:=J b B;have u:=hop b (mem_of_getElem? e);obtain⟨U,b2⟩:=b;subst u;exact this
   ·rw[List.getElem?_map]at D
    obtain⟨b,e,rfl⟩:=Option.map_eq_some_iff.1 D;have B:b∈f.take d:=mem_of_getElem? (i:=k) (by rw[List.getElem?_take_of_lt Z];exact e);have:=s b B;have u:=hop b (mem_of_getElem? e);obtain⟨U,b2⟩:=b;subst u;intro h;have t:atB S (U,true)<atB S (i,false):=h;have O:atB S (i,false)<atB S (i,true):=T;omega
  have L:¬badS p ((f.take d).map fun b=>spB S b.1) (spB S i):=by
   have p1:=hR.pos (i,false) (mem_append_right _ (.head _));have p2:=C.pos _ H;rintro(t|t|⟨z,t,O⟩|⟨y,t,O⟩)
   ·exact t ⟨⟨by show 0<=atB S (i,false);omega,by show atB S (i,false)<=_;omega⟩,⟨by show 0<=atB S (i,true);omega,by show atB S (i,true)<=_;omega⟩⟩
   ·exact absurd T (by omega)
   ·have:=hp z t (i,false) (mem_append_right _ (.head _))
    have h3:atB S (i,false)<=z:=O;omega
   ·rw[List.getLast?_map]at t
    obtain⟨b,e,rfl⟩:=Option.map_eq_some_iff.1 t;have B:b∈f.take d:=List.mem_of_getLast? e;have M:b∈f:=mem_of_mem_take B;have h3:=s b B;have h4:=hfr b M (i,false) (mem_append_right _ (.head _));have u:=hop b M;obtain⟨U,b2⟩:=b;subst u;exact O ⟨h4,h3⟩
  have X:g.length=d+1:=by
   rw[m,length_append,length_take];simp;omega
  obtain⟨i1,i2,i3⟩:=bI S r is g (some (atB S (i,false))) (by simpa using h) (by rw[X];exact Y) (fun b e=>by
   rw[m,mem_append,mem_singleton]at e;rcases e with e|e
   ·exact hop b (mem_of_mem_take e)
   ·rw[e]) (by rw[<- n];exact C) (fun b e c F=>by
   rw[<- n]at F;rw[m,mem_append,mem_singleton]at e;rcases e with e|e
   ·exact hfr b (mem_of_mem_take e) c (mem_append_right _ (.tail _ F))
   ·rw[e];exact q.1 c F) (fun z hz c F=>by
   rw[<- n]at F;cases hz
   exact q.1 c F)
  refine⟨?_,?_,fun j N=>?_⟩
  ·rw[map_cons,levP,K,if_neg L]
   have e1:((f.take d).map fun b=>spB S b.1)++[spB S i]=g.map fun b=>spB S b.1:=by rw[m,map_append];rfl
   rw[e1,show(spB S i).1=atB S (i,false)from rfl,i1]
   have e2:(((f.take d).map fun b=>spB S b.1).length:Int)=x.level:=by
    rw[length_map,length_take];omega
   rw[e2];rfl
  ·rw[map_cons,pairwise_cons]
   refine⟨fun y D=>?_,i2⟩;obtain⟨j,N,rfl⟩:=mem_map.1 D
   have B:(j,false)∈o:=by
    rw[n,(JU r is g (by simpa using h)).mem_iff,mem_append];exact .inr (mem_flatMap.2 ⟨j,N,.head _⟩)
   exact q.1 _ B
  ·rcases mem_cons.1 N with rfl|N
   ·exact T
   ·exact i3 j N
theorem levels_ok{S:SM}{l:List It}{ids:List Int}(h:ids.length=l.length)(c:LevR 0 l)(e:Rise S (Bv l ids)):GY (ids.map (spB S))=some (l.map (·.level))/\(ids.map (spB S)).Pairwise (fun a b=>a.1<b.1)/\∀i∈ids,(spB S i).1<(spB S i).2:=by
 rw[GK h]at e;exact bI S l ids [] none h c (fun b d=>(by cases d)) e (fun b d=>(by cases d)) (fun z f=>(by cases f))
theorem part_zero(low wide N:Int):Ff low wide 0 N=low:=by simp[Ff]
theorem part_full{low wide N:Int}(a:0<N):Ff low wide N N=low+wide:=by
 rw[Ff,Int.mul_ediv_cancel _ (by omega)];have:=Int.mul_ediv_add_emod wide N;rw[Int.mul_comm]at this;omega
theorem Wh{low wide k N:Int}(a:0<N)(b:N<=wide):Ff low wide k N<Ff low wide (k+1) N:=by
 have c:1<=wide/N:=by
  have:=Int.ediv_le_ediv a b
  rwa [Int.ediv_self (by omega)]at this
 have d:0<=wide%N:=Int.emod_nonneg _ (by omega);have e:wide%N*k/N<=wide%N*(k+1)/N:=Int.ediv_le_ediv a (by rw[Int.mul_add];omega);rw[Ff,Ff,Int.mul_add (wide/N)];omega
theorem WM{low wide N:Int}(b:0<N)(c:N<=wide)(a:Nat):∀d:Nat,Ff low wide (a:Int) N<Ff low wide ((a+d+1:Nat):Int) N
 |0=>Wh b c
 |d+1=>Int.lt_trans (WM b c a d) (Wh (k:=((a+d+1:Nat):Int)) b c)
theorem dD{low c n:Int}{f:List Int}(h:betP low c n=some f):f.length=n.toNat/\0<=n/\0<=low/\c<=4611686018427387904/\(low::(f++[c])).Pairwise (· < ·):=by
 rw[betP]at h;split at h;rotate_left
 ·cases h
 rename_i g;obtain⟨i,j,l,q,r⟩:=g;cases h;refine⟨by rw[length_map,List.length_range],l,i.1,j.2,?_⟩
 have e:low::(((List.range n.toNat).map fun(k:Nat)=>Ff low (c-low) ((k:Int)+1) (n+1))++[c])=(List.range (n.toNat+2)).map fun(k:Nat)=>Ff low (c-low) (k:Int) (n+1):=by
  rw[List.range_succ,map_append,List.range_succ_eq_map,map_cons,map_map,map_singleton];have m:Ff low (c-low) ((0:Nat):Int) (n+1)=low:=part_zero _ _ _
  have o:Ff low (c-low) ((n.toNat+1:Nat):Int) (n+1)=c:=by
   rw[show((n.toNat+1:Nat):Int)=n+1 by omega,part_full (by omega)];omega
  rw[m,o];rfl
 rw[e,pairwise_map];refine List.pairwise_lt_range.imp fun{a b} p=>?_;obtain⟨d,rfl⟩:∃d,b=a+d+1:=⟨b-a-1,by omega⟩;exact WM (by omega) (by omega) a d
theorem LX{S:SM}{b:Bd}(h:0<=atB S b):(sget S b.1).isSome:=by
 cases e:sget S b.1 with
 |none=>
  rw[atB,e]at h;have a:(0:Int)<= -1:=h;omega
 |some x=>rfl
theorem lay_get(S:SM)(b:Bd)(n:Int)(i:Int):(sget (layB S b n) i).isSome=(decide (i=b.1)||(sget S i).isSome):=by
 rw[layB,LP];by_cases h:i=b.1
 ·simp[h]
 ·simp[h]
theorem lay_self(S:SM)(b:Bd)(n:Int):atB (layB S b n) b=n:=by
 rw[layB,atB,LP,if_pos rfl];cases e:b.2<;>simp
theorem lay_other{S:SM}{b c:Bd}{n:Int}(h:c≠b)(e:(sget S c.1).isSome):atB (layB S b n) c=atB S c:=by
 rw[layB,atB,LP];by_cases a:c.1=b.1
 ·rw[if_pos a,atB]
  obtain⟨z,d⟩:=Option.isSome_iff_exists.1 e
  have f:b.2= !c.2:=by
   obtain⟨i,x⟩:=c;obtain⟨j,y⟩:=b;simp only at a⊢;subst a;cases x<;>cases y<;>simp_all
  rw[f,d,<- a,d];cases c.2<;>simp
 ·rw[if_neg a,<- atB]
theorem Qz:∀(bs:List Bd)(a:List Int)(S:SM)(i:Int),(sget S i).isSome->(sget (layAll S bs a) i).isSome
 | [],a,S,i,h=>by rw[layAll];exact h;intros;simp_all
 |b::bs,[],S,i,h=>by rw[IB];exact h
 |b::bs,n::a,S,i,h=>by
  rw[layAll];exact Qz bs a _ i (by rw[lay_get,h,Bool.or_true])
theorem LU:∀(bs:List Bd)(a:List Int)(S:SM)(i:Int),(sget (layAll S bs a) i).isSome->(sget S i).isSome\/∃b∈bs,b.1=i
 | [],a,S,i,h=>by
  have e:layAll S [] a=S:=by cases a<;>rfl
  rw[e]at h;exact .inl h
 |b::bs,[],S,i,h=>by rw[IB]at h;exact .inl h
 |b::bs,n::a,S,i,h=>by
  rw[layAll]at h;rcases LU bs a _ i h with h|⟨c,d,rfl⟩
  ·rw[lay_get]at h
   by_cases e:i=b.1
   ·exact .inr ⟨b,.head _,e.symm⟩
   ·simp[e]at h;exact .inl h
  ·exact .inr ⟨c,.tail _ d,rfl⟩
theorem Gy:∀(bs:List Bd)(a:List Int)(S:SM)(c:Bd),c∉bs.take a.length->(sget S c.1).isSome->atB (layAll S bs a) c=atB S c
 | [],a,S,c,_,_=>by
  have e:layAll S [] a=S:=by cases a<;>rfl
  rw[e]
 |b::bs,[],S,c,_,_=>by rw[IB]
 |b::bs,n::a,S,c,h,hs=>by
  rw[length_cons,List.take_succ_cons,mem_cons,not_or]at h;rw[layAll,Gy bs a _ c h.2 (by rw[lay_get,hs,Bool.or_true]),lay_other h.1 hs]
theorem Nk:∀(bs:List Bd)(a:List Int)(S:SM),bs.Nodup->a.length<=bs.length->(bs.take a.length).map (atB (layAll S bs a))=a
 |bs,[],S,_,_=>by simp
 | [],n::a,S,_,h=>by simp at h
 |b::bs,n::a,S,hn,h=>by
  rw[nodup_cons]at hn;rw[length_cons,List.take_succ_cons,map_cons,layAll,Nk bs a _ hn.2 (by simpa using h)];rw[Gy bs a _ b (fun c=>hn.1 (mem_of_mem_take c)) (by rw[lay_get];simp),lay_self]
theorem SH(old:SM):∀(l:List Bd)(S:SM)(i:Int),sget (Fv old l S) i=if∃b∈l,b.1=i/\0<=atB old b then sget old i else sget S i
 | [],S,i=>by simp[Fv]
 |b::r,S,i=>by
  rw[Fv,SH old r];by_cases e:∃c∈r,c.1=i/\0<=atB old c
  ·obtain⟨c,a,e,d⟩:=e
   rw[if_pos ⟨c,a,e,d⟩,if_pos ⟨c,.tail _ a,e,d⟩]
  ·rw[if_neg e]
   by_cases d:0<=atB old b
   ·rw[if_pos d,LP]
    obtain⟨z,j⟩:=Option.isSome_iff_exists.1 (LX d);by_cases f:i=b.1
    ·rw[if_pos f,if_pos ⟨b,.head _,f.symm,d⟩,f,j];rfl
    ·rw[if_neg f,if_neg]
     rintro⟨c,a,g,h⟩;rcases mem_cons.1 a with rfl|a
     ·exact f g.symm
     ·exact e ⟨c,a,g,h⟩
   ·rw[if_neg d,if_neg]
    rintro⟨c,a,g,h⟩;rcases mem_cons.1 a with rfl|a
    ·exact d h
    ·exact e ⟨c,a,g,h⟩
structure SpI(l:List Bd)(old:SM)(k fr:Nat)(low:Int)(S:SM):Prop where
 le:fr<=k
 z:0<=low
 rise:((l.take fr).map (atB S)).Pairwise (· < ·)
 pos:∀b∈l.take fr,0<atB S b/\atB S b<=low
 no:∀q b,fr<=q->q<k->l[q]? =some b->atB old b<0
 old_:∀q b,fr<=q->l[q]? =some b->0<=atB old b->atB S b=atB old b/\(sget S b.1).isSome
theorem SpI.step{l:List Bd}(hn:l.Nodup){old:SM}{k fr:Nat}{low c:Int}{S:SM}(h:SpI l old k fr low S)(N:k<=l.length){d:List Int}(u:betP low c ((k:Int)-(fr:Int))=some d):
  ((l.take k).map (atB (layAll S (l.drop fr) d))).Pairwise (· < ·)/\(∀b∈l.take k,0<atB (layAll S (l.drop fr) d) b/\atB (layAll S (l.drop fr) d) b<c)/\(∀q b,k<=q->l[q]? =some b->0<=atB old b->atB (layAll S (l.drop fr) d) b=atB old b/\(sget (layAll S (l.drop fr) d) b.1).isSome):=by
 obtain⟨O,R,T,U,H⟩:=dD u;have w:=h.le
 have z:d.length=k-fr:=by omega
 have A:(l.drop fr).Nodup:=hn.sublist (List.drop_sublist _ _)
 have i:l.take k=l.take fr++(l.drop fr).take d.length:=by
  rw[z,<- List.drop_take,show l.take fr=(l.take k).take fr by rw[List.take_take,Nat.min_eq_left w],take_append_drop]
 have n:∀b∈l.take fr,b∉(l.drop fr).take d.length:=fun b a B=>by
  have:(l.take k).Nodup:=hn.sublist (List.take_sublist _ _);rw[i,List.nodup_append]at this;exact this.2.2 b a b B rfl
 have o:∀b∈l.take fr,atB (layAll S (l.drop fr) d) b=atB S b:=fun b a=>Gy _ _ _ _ (n b a) (LX (by have:=(h.pos b a).1;omega));have e:((l.drop fr).take d.length).map (atB (layAll S (l.drop fr) d))=d:=Nk _ _ _ A (by rw[length_drop];omega);have m:=pairwise_cons.1 H;have p:=pairwise_append.1 m.2;have g:∀x∈d,low<x:=fun x r=>m.1 x (mem_append_left _ r);have s:∀x∈d,x<c:=fun x r=>p.2.2 x r c (.head _);have J:low<c:=m.1 c (mem_append_right _ (.head _));refine⟨?_,?_,?_⟩
 ·rw[i,map_append,e,List.map_congr_left o,pairwise_append]
  refine⟨h.rise,p.1,fun x r y K=>?_⟩;obtain⟨b,u,rfl⟩:=mem_map.1 r;have:=(h.pos b u).2;have:=g y K;omega
 ·intro b a
  rw[i,mem_append]at a;rcases a with a|a
  ·rw[o b a]
   have:=h.pos b a;exact⟨this.1,by omega⟩
  ·have t:atB (layAll S (l.drop fr) d) b∈d:=by
    have:=mem_map_of_mem (f:=atB (layAll S (l.drop fr) d)) a
    rwa [e]at this
   have:=g _ t;exact⟨by omega,s _ t⟩
 ·intro q b X a L
  obtain⟨M,G⟩:=h.old_ q b (by omega) a L;refine⟨?_,Qz _ _ _ _ G⟩;rw[Gy _ _ _ _ (fun t=>?_) G,M];obtain⟨j,C⟩:=List.mem_iff_getElem?.1 t
  have D:j<d.length:=by
   have:=(List.getElem?_eq_some_iff.1 C).1;rw[length_take]at this;omega
  rw[List.getElem?_take_of_lt D,List.getElem?_drop]at C;have F:=(List.getElem?_eq_some_iff.1 a).1;have:q=fr+j:=(List.getElem?_inj F hn).1 (by rw[a,C]);omega
theorem Uy{l:List Bd}(hn:l.Nodup){old:SM}:∀(f k:Nat)(low:Int)(fr:Nat)(S i:SM),f+k=l.length+1->k<=l.length->SpI l old k fr low S->Ej l old f k low fr S=some i->Rise i l
 |0,k,low,fr,S,i,hf,hk,_,_=>by omega
 |f+1,k,low,fr,S,i,hf,hk,hI,hs=>by
  rw[Ej]at hs;split at hs
  ·rename_i a
   have d:k<l.length:=by
    rcases Nat.lt_or_ge k l.length with h|h
    ·exact h
    ·rw[JF,List.getElem?_eq_none h]at a
     simp at a
   refine Uy hn f (k+1) low fr S i (by omega) (by omega) ⟨by have:=hI.le;omega,hI.z,hI.rise,hI.pos,fun q b r s n=>?_,hI.old_⟩ hs;by_cases e:q=k
   ·subst e
    rw[JF,n]at a;exact a
   ·exact hI.no q b r (by omega) n
  ·rename_i a
   split at hs
   ·cases hs
   rename_i H u;obtain⟨s1,j,w⟩:=hI.step hn hk u;by_cases d:k<l.length
   ·obtain⟨b,g⟩:∃b,l[k]? =some b:=⟨_,List.getElem?_eq_getElem d⟩
    have o:JF l old k=atB old b:=by rw[JF,g]
    rw[o]at hs j a;obtain⟨A,J⟩:=w k b (Nat.le_refl _) g (by omega)
    have B:l.take (k+1)=l.take k++[b]:=by
     rw[take_succ_eq_append_getElem d,(List.getElem?_eq_some_iff.1 g).2]
    obtain⟨_,_,K,_,C⟩:=dD u;rw[o]at C;have F:low<atB old b:=(pairwise_cons.1 C).1 _ (mem_append_right _ (.head _));refine Uy hn f (k+1) _ (k+1) _ i (by omega) (by omega) ⟨Nat.le_refl _,by omega,?_,?_,fun q b r s n=>by omega,fun q b r s n=>w q b (by omega) s n⟩ hs
    ·rw[B,map_append,pairwise_append]
     refine⟨s1,List.pairwise_singleton _ _,fun x G y D=>?_⟩;obtain⟨c,m,rfl⟩:=mem_map.1 G;rw[map_singleton,mem_singleton]at D;rw[D,A];exact(j c m).2
    ·intro c m
     rw[B,mem_append,mem_singleton]at m;rcases m with m|rfl
     ·have:=j c m
      exact⟨this.1,by omega⟩
     ·rw[A];exact⟨by omega,by omega⟩
   ·have p:k=l.length:=by omega
    have t:f=0:=by omega
    subst t;rw[Ej]at hs;cases hs
    have o:JF l old k=4611686018427387904:=by rw[JF,List.getElem?_eq_none (by omega)]
    rw[p,take_length]at s1 j;rw[p]at o;rw[o]at j;exact⟨pairwise_map.1 s1,j⟩
theorem NL{l:List Bd}{old:SM}:∀(f k:Nat)(low:Int)(fr:Nat)(S c:SM),Ej l old f k low fr S=some c->∀i,(sget c i).isSome->(sget S i).isSome\/∃b∈l,b.1=i
 |0,k,low,fr,S,c,a,i,d=>by
  rw[Ej]at a;cases a;exact .inl d
 |f+1,k,low,fr,S,c,a,i,d=>by
  rw[Ej]at a;split at a
  ·exact NL f _ _ _ _ _ a i d
  ·split at a
   ·cases a
   ·rcases NL f _ _ _ _ _ a i d with h|h
    ·rcases LU _ _ _ _ h with h|⟨b,g,e⟩
     ·exact .inl h
     ·exact .inr ⟨b,List.mem_of_mem_drop g,e⟩
    ·exact .inr h
theorem spanned_ok{l:List Bd}(hn:l.Nodup){old S:SM}(h:Dz l old=some S):Rise S l/\∀i,(sget S i).isSome↔∃b∈l,b.1=i:=by
 have d:Rise S l:=by
  refine Uy hn (l.length+1) 0 0 0 (Fv old l []) S (by omega) (by omega) ⟨Nat.le_refl _,Int.le_refl _,by simp,fun b c=>by simp at c,fun q b a f=>by omega,fun q b a f g=>?_⟩ h;have j:b∈l:=mem_of_getElem? f
  have e:sget (Fv old l []) b.1=sget old b.1:=by rw[SH,if_pos ⟨b,j,rfl,g⟩]
  exact⟨by rw[atB,e,<- atB],by rw[e];exact LX g⟩
 refine⟨d,fun i=>⟨fun k=>?_,?_⟩⟩
 ·rcases NL _ _ _ _ _ _ h i k with a|a
  ·rw[SH]at a
   split at a
   ·rename_i m
    obtain⟨b,c,e,_⟩:=m;exact⟨b,c,e⟩
   ·cases a
  ·exact a
 ·rintro⟨b,c,rfl⟩
  exact LX (by have:=(d.pos b c).1;omega)
theorem TA:∀(ids:List Int)(P:List Sp)(m:SM),ids.Nodup->(∀i∈ids,i∉m.map (·.1))->ids.length=P.length->ED m ids P=m++ids.zip P
 | [],[],m,_,_,_=>by rw[ED];simp;intros;simp_all
 | [],_::_,m,_,_,h=>by cases h
 |_::_,[],m,_,_,h=>by cases h
 |i::ids,p::P,m,hn,hd,h=>by
  rw[nodup_cons]at hn
  have b:∀m:SM,i∉m.map (·.1)->sput m i p=m++[(i,p)]:=by
   intro m
   induction m with
   |nil=>intro _;rfl
   |cons q m d=>
    obtain⟨x,u⟩:=q;intro a;rw[map_cons,mem_cons,not_or]at a;rw[sput,if_neg a.1,d a.2];rfl
  rw[ED,b m (hd i (.head _)),TA ids P _ hn.2 (fun j c a=>?_) (by simpa using h),append_assoc]
  ·rfl
  ·rw[map_append,mem_append]at a
   rcases a with a|a
   ·exact hd j (.tail _ c) a
   ·rw[map_singleton,mem_singleton]at a
    have a:j=i:=a;exact hn.1 (a▸c)
theorem XL:∀(ids:List Int)(P:List Sp)(k:Nat)(i:Int),ids.Nodup->ids[k]? =some i->sget (ids.zip P) i=P[k]?
 | [],P,k,i,_,h=>by simp at h
 |j::ids,[],k,i,_,h=>by simp[sget]
 |j::ids,p::P,0,i,_,h=>by
  simp at h;subst h;rw[zip_cons_cons,sget,if_pos rfl];rfl
 |j::ids,p::P,k+1,i,hn,h=>by
  rw[nodup_cons]at hn;rw[List.getElem?_cons_succ]at h;rw[zip_cons_cons,sget,if_neg (fun e=>hn.1 (by rw[<- e];exact mem_of_getElem? h)),XL ids P k i hn.2 h];rfl
theorem XR:∀(ids:List Int)(P:List Sp)(k:Nat)(i:Int)(v:Sp),ids.Nodup->ids.length=P.length->ids[k]? =some i->sput (ids.zip P) i v=ids.zip (P.set k v)
 | [],P,k,i,v,_,_,h=>by simp at h
 |j::ids,[],k,i,v,_,hl,h=>by cases hl
 |j::ids,p::P,0,i,v,_,_,h=>by
  simp at h;subst h;rw[zip_cons_cons,sput,if_pos rfl];rfl
 |j::ids,p::P,k+1,i,v,hn,hl,h=>by
  rw[nodup_cons]at hn;rw[List.getElem?_cons_succ]at h;rw[zip_cons_cons,sput,if_neg (fun e=>hn.1 (by rw[<- e];exact mem_of_getElem? h)),XR ids P k i v hn.2 (by simpa using hl) h];rfl
def layN:SM->List Bd->Int->SM
 |s,[],_=>s
 |s,b::r,a=>layN (layB s b (a+1099511627776)) r (a+1099511627776)
def Je:Int->Nat->List Int
 |_,0=>[]
 |a,n+1=>(a+1099511627776)::Je (a+1099511627776) n
theorem P9:∀(n:Nat)(a:Int),(Je a n).length=n
 |0,a=>rfl
 |n+1,a=>by rw[Je,length_cons,P9 n]
theorem Xr:∀(bs:List Bd)(s:SM)(a:Int),layN s bs a=layAll s bs (Je a bs.length)
 | [],s,a=>by exact(IB s []).symm
 |b::r,s,a=>by rw[layN,length_cons,Je,layAll,Xr r]
theorem TY:∀(x y:List Bd)(s:SM)(a:Int),layN s (x++y) a=layN (layN s x a) y (a+1099511627776*(x.length:Int))
 | [],y,s,a=>by simp[layN]
 |b::x,y,s,a=>by
  rw[cons_append,layN,layN,TY x y,length_cons];congr 1;omega
theorem Nu:∀(n:Nat)(a:Int),∀z∈Je a n,a<z/\z<=a+1099511627776*(n:Int)
 |0,a,z,h=>by cases h
 |n+1,a,z,h=>by
  rcases mem_cons.1 h with rfl|h
  ·omega
  ·have:=Nu n _ z h
   omega
theorem Wq:∀(n:Nat)(a:Int),(Je a n).Pairwise (· < ·)
 |0,a=>.nil
 |n+1,a=>.cons (fun z b=>(Nu n _ z b).1) (Wq n _)
def endOf(ids:List Int)(j:Nat):Bd:=(ids[j]?.getD 0,true)
theorem put_to{ids:List Int}(hn:ids.Nodup){out:List Sp}(b:ids.length=out.length){k:Nat}(c:k<ids.length)(z:Int):ids.zip (KN out k z)=layB (ids.zip out) (endOf ids k) z:=by
 obtain⟨i,a⟩:∃i,ids[k]? =some i:=⟨_,List.getElem?_eq_getElem c⟩;rw[layB,endOf,a];show _=sput (ids.zip out) i (((sget (ids.zip out) i).getD (0,0)).1,z);rw[XL ids out k i hn a,XR ids out k i _ hn b a];rfl
theorem put_fr{ids:List Int}(hn:ids.Nodup){out:List Sp}(b:ids.length=out.length){k:Nat}{i:Int}(a:ids[k]? =some i)(z:Int):ids.zip (MQ out k z)=layB (ids.zip out) (i,false) z:=by
 rw[layB];show _=sput (ids.zip out) i (z,((sget (ids.zip out) i).getD (0,0)).2);rw[XL ids out k i hn a,XR ids out k i _ hn b a];rfl
theorem Y7{ids:List Int}(hn:ids.Nodup):∀(n:Nat)(s:LSt),n<=s.op.length->(∀k∈s.op,k<ids.length)->ids.length=s.out.length->ids.zip (popN n s).out=layN (ids.zip s.out) (((s.op.drop (s.op.length-n)).reverse).map (endOf ids)) s.at_
 |0,s,_,_,_=>by simp[popN,layN]
 |n+1,s,h,ho,hl=>by
  have c:=Y7 hn n s (by omega) ho hl;obtain⟨d,e,f⟩:=IQ n s (by omega);obtain⟨k,g⟩:∃k,s.op.length-(n+1)=k:=⟨_,rfl⟩
  have b:s.op.length-n=k+1:=by omega
  have a:k<s.op.length:=by omega
  rw[b]at c d
  have i:(popN n s).op.getLastD 0=s.op[k]:=by
   rw[d,take_succ_eq_append_getElem a,List.getLastD_concat]
  have j:s.op.drop k=s.op[k]::s.op.drop (k+1):=drop_eq_getElem_cons a
  have l:(s.op.drop (k+1)).length=n:=by rw[length_drop];omega
  rw[P7,popL];show ids.zip (KN (popN n s).out ((popN n s).op.getLastD 0) ((popN n s).at_+1099511627776))=_;rw[i,put_to hn (by rw[f];exact hl) (ho _ (getElem_mem a)),c,g,j,List.reverse_cons,map_append,TY,length_map,List.length_reverse,l,e];rfl
theorem Yj{ids:List Int}(hn:ids.Nodup)(d:Int)(s:LSt)(ho:∀k∈s.op,k<ids.length)(a:ids.length=s.out.length):ids.zip (DI d s).out=layN (ids.zip s.out) (((s.op.map (endOf ids)).drop d.toNat).reverse) s.at_/\(DI d s).op=s.op.take d.toNat/\(DI d s).at_=s.at_+1099511627776*(((s.op.map (endOf ids)).drop d.toNat).length:Int)/\(DI d s).out.length=s.out.length:=by
 obtain⟨b,c,f⟩:=IQ (s.op.length-d.toNat) s (by omega);have h:=Y7 hn (s.op.length-d.toNat) s (by omega) ho a;rw[DI]
 have e:((s.op.map (endOf ids)).drop d.toNat).reverse=((s.op.drop (s.op.length-(s.op.length-d.toNat))).reverse).map (endOf ids):=by
  rw[<- List.map_drop,List.map_reverse];by_cases g:d.toNat<=s.op.length
  ·rw[show s.op.length-(s.op.length-d.toNat)=d.toNat by omega]
  ·rw[drop_of_length_le (by omega),drop_of_length_le (by omega)]
 have i:(popN (s.op.length-d.toNat) s).op=s.op.take d.toNat:=by
  rw[b];by_cases g:d.toNat<=s.op.length
  ·congr 1;omega
  ·rw[take_of_length_le (by omega),take_of_length_le (by omega)]
 exact⟨by rw[h,e],i,by rw[c,length_drop,length_map],f⟩
theorem Zq{ids:List Int}(hn:ids.Nodup):∀(l:List It)(k:Nat)(s:LSt),k+l.length=ids.length->(∀j∈s.op,j<ids.length)->ids.length=s.out.length->ids.zip (labF l k s).out=layN (ids.zip s.out) (bndR l (ids.drop k) (s.op.map (endOf ids))) s.at_
 | [],k,s,hk,ho,hl=>by
  obtain⟨c,d,f,e⟩:=Yj hn 0 s ho hl;rw[labF,c,O6];rfl
 |x::r,k,s,hk,ho,hl=>by
  rw[length_cons]at hk;obtain⟨c,d,f,e⟩:=Yj hn x.level s ho hl
  have a:k<ids.length:=by omega
  have g:ids[k]? =some ids[k]:=List.getElem?_eq_getElem a;rw[labF,Zq hn r (k+1) (begL k (DI x.level s)) (by omega) ?_ ?_]
  ·rw[drop_eq_getElem_cons a,bndR,TY]
   have h:(begL k (DI x.level s)).op.map (endOf ids)=(s.op.map (endOf ids)).take x.level.toNat++[(ids[k],true)]:=by
    rw[begL,d,map_append,map_take,map_singleton];show _++[endOf ids k]=_;rw[endOf,g];rfl
   have i:ids.zip (begL k (DI x.level s)).out=layB (ids.zip (DI x.level s).out) (ids[k],false) ((DI x.level s).at_+1099511627776):=put_fr hn (by rw[e];exact hl) g _;rw[h,i,c,layN,List.length_reverse,<- f];rfl
  ·intro j b
   rw[begL,mem_append,mem_singleton,d]at b;rcases b with b|b
   ·exact ho j (mem_of_mem_take b)
   ·omega
  ·rw[begL]
   show _=(MQ _ _ _).length;rw[MQ,List.length_set,e];exact hl
theorem label_lay{ids:List Int}(hn:ids.Nodup){l:List It}(h:ids.length=l.length):ED [] ids (Gq l)=layAll (ids.zip (List.replicate l.length (0,0))) (Bv l ids) (Je 0 (Bv l ids).length):=by
 rw[TA ids _ [] hn (fun i _ a=>by cases a) (by rw[WE,h]),nil_append,Gq,Zq hn l 0 _ (by omega) (fun j b=>by cases b) (by simp[h]),<- Xr,GK h];rfl
theorem label_ok{ids:List Int}(hn:ids.Nodup){l:List It}(h:ids.length=l.length)(t:l.length<=100000):Rise (ED [] ids (Gq l)) (Bv l ids)/\∀i,(sget (ED [] ids (Gq l)) i).isSome↔∃b∈Bv l ids,b.1=i:=by
 have a:=VR h hn;have k:=SK l ids;rw[label_lay hn h];obtain⟨bs,c⟩:∃bs,bs=Bv l ids:=⟨_,rfl⟩
 have d:∀{b:Bd},b∈bs↔b.1∈ids:=fun{b}=>by rw[c];exact OV h
 rw[<- c]at a k⊢;have m:=Nk bs (Je 0 bs.length) (ids.zip (List.replicate l.length (0,0))) a (by rw[P9];exact Nat.le_refl _);rw[P9,take_length]at m
 have o:Rise (layAll (ids.zip (List.replicate l.length (0,0))) bs (Je 0 bs.length)) bs:=by
  refine⟨pairwise_map.1 (by rw[m];exact Wq _ _),fun b n=>?_⟩
  have g:atB (layAll (ids.zip (List.replicate l.length (0,0))) bs (Je 0 bs.length)) b∈Je 0 bs.length:=by
   have:=mem_map_of_mem (f:=atB (layAll (ids.zip (List.replicate l.length (0,0))) bs (Je 0 bs.length))) n
   rwa [m]at this
  have:=Nu _ _ _ g;omega
 refine⟨o,fun i=>⟨fun q=>?_,?_⟩⟩
 ·rcases LU _ _ _ _ q with g|g
  ·have:i∈ids:=by
    have r:∀(ids:List Int)(P:List Sp),(sget (ids.zip P) i).isSome->i∈ids:=by
     intro ids
     induction ids with
     |nil=>intro P h;cases h
     |cons j ids s=>
      intro P h
      cases P with
      |nil=>cases h
      |cons p P=>
       rw[zip_cons_cons,sget]at h;split at h
       ·rename_i e;rw[e];exact .head _
       ·exact .tail _ (s P h)
    exact r _ _ g
   exact⟨(i,true),d.2 this,rfl⟩
  ·exact g
 ·rintro⟨b,n,rfl⟩
  exact LX (by have:=(o.pos b n).1;omega)
theorem aT:∀(l:List It)(m:Nat),(∀(k:Nat)(x:It),l[k]? =some x->0<=x.level/\(k=0->x.level<=(m:Int))/\∀y,0<k->l[k-1]? =some y->x.level<=y.level+1)->LevR m l
 | [],m,_=>trivial
 |x::r,m,h=>by
  obtain⟨b,c,_⟩:=h 0 x rfl;have:=c rfl;refine⟨b,by omega,aT r _ fun k y d=>?_⟩;obtain⟨f,i,a⟩:=h (k+1) y (by rw[List.getElem?_cons_succ];exact d);refine⟨f,fun e=>?_,fun z n g=>?_⟩
  ·subst e
   have:=a x (by omega) rfl;omega
  ·refine a z (by omega) ?_
   obtain⟨j,rfl⟩:∃j,k=j+1:=⟨k-1,by omega⟩;exact g
theorem levR_ok{l:List It}(h:WT l):LevR 0 l:=aT l 0 fun k x a=>by
 obtain⟨b,c,d⟩:=h k x a;exact⟨b,fun e=>by rw[c e];exact Int.le_refl _,d⟩
structure W9(T:Tr)(S:SM):Prop where
 rise:Rise S (Bv (T.L.map rowI) (T.L.map (·.id)))
 keys:∀i,(sget S i).isSome↔i∈T.L.map (·.id)
theorem labelN_ok{F:Fo}{T:Tr}(f:BN F T)(old:SM)(moved:List Int):W9 T (IP T old moved):=by
 have g:=f.len;have h:=f.Rz
 have a:(T.L.map (·.id)).length=(T.L.map rowI).length:=by rw[length_map,length_map]
 have j:∀i,(∃b∈Bv (T.L.map rowI) (T.L.map (·.id)),b.1=i)↔i∈T.L.map (·.id):=fun i=>
  ⟨fun⟨b,k,e⟩=>e▸(OV a).1 k,fun l=>⟨(i,true),(OV a).2 l,rfl⟩⟩
 rw[IP];split
 ·rename_i s m
  obtain⟨c,d⟩:=spanned_ok (VR a h) m;exact⟨c,fun i=>(d i).trans (j i)⟩
 ·obtain⟨c,d⟩:=label_ok h a (by rw[length_map];omega)
  exact⟨c,fun i=>(d i).trans (j i)⟩
end Go.Nod
namespace Go.Proofs.YtljenkbpnioipaaGreat
noncomputable section
open Go Go.Vc Go.Nod
structure PgW(L:Sl.Recs):Prop where
 up:L.Pairwise fun a b=>a.1<b.1
 lt:∀p∈L,p.1<120
 few:Sl.tot L<=3600
def cel(P:List Sl.Recs)(p:Pl):Option (List UInt8):=Sl.lk (Cm P p.1.toNat) p.2
def PgsW(P:List Sl.Recs):Prop:=∀L∈P,PgW L
structure PInv(P:List Sl.Recs)(Q:QM):Prop where
 w:PgsW P
 at_:∀k p,gget Q k=some p->0<=p.1/\∃s,cel P p=some s/\CJ (bts s)=k
 all:∀(p:Pl) s,0<=p.1->cel P p=some s->gget Q (CJ (bts s))=some p
def recK(st:WSt)(k:ByteArray):Option (List UInt8):=(gget st.Q k).bind (cel st.P)
structure WInv(st:WSt):Prop where
 pi:PInv st.P st.Q
 qn:(st.Q.map (·.1)).Nodup
open Classical in
end
noncomputable section
open Go Go.Vc Go.Nod
def aboL:List UInt8->List UInt8
 | []=>[]
 |b::r=>if b.toNat=119 then(b::r).take 3 else if b.toNat=110 then(b::r).take 6 else [b]
theorem about_bts(l:List UInt8):CJ (bts l)=bts (aboL l):=by
 cases l with
 |nil=>rfl
 |cons b r=>
  have f:bts (b::r)≠none0:=fun e=>by
   have:=congrArg (fun s:ByteArray=>s.data.toList) e;cases this
  have g:sb (bts (b::r)) 0=(b.toNat:Int):=rfl
  have a:∀n,(bts (b::r)).extract 0 n=bts ((b::r).take n):=fun n=>by
   apply ByteArray.ext;rw[ByteArray.data_extract,bts,bts];simp
  rw[CJ,if_neg f,g,aboL,a,a,a,EU];by_cases c:b.toNat=119
  ·rw[if_pos (by omega),if_pos c]
   congr 1;rcases Nat.le_total (b::r).length 3 with h|h
   ·rw[Nat.min_eq_left h,take_of_length_le (Nat.le_refl _),take_of_length_le h]
   ·rw[Nat.min_eq_right h]
  ·rw[if_neg (by omega),if_neg c]
   by_cases d:b.toNat=110
   ·rw[if_pos (by omega),if_pos d]
    congr 1;rcases Nat.le_total (b::r).length 6 with h|h
    ·rw[Nat.min_eq_left h,take_of_length_le (Nat.le_refl _),take_of_length_le h]
    ·rw[Nat.min_eq_right h]
   ·rw[if_neg (by omega),if_neg d];rfl
def bD:List UInt8:=[104]
theorem about_head(n:Int):CJ (Et n)=bts bD:=about_bts _
theorem nodesR_mem{T:Tr}{S:SM}{W:List ByteArray}{n:Nat}{s:ByteArray}:s∈ER T S W n↔∃j,j<n/\s∈OO T S W j:=by
 rw[ER,mem_flatMap];constructor
 ·rintro⟨j,a,h⟩;exact⟨j,List.mem_range.1 a,h⟩
 ·rintro⟨j,a,h⟩;exact⟨j,List.mem_range.2 a,h⟩
theorem all_mem{T:Tr}{S:SM}{W:List ByteArray}{s:ByteArray}:s∈He T S W↔s=Et T.next\/s∈Eg 0 W\/∃j,j<T.L.length/\s∈OO T S W j:=by
 rw[He,cons_append,mem_cons,mem_append,nodesR_mem]
theorem Zw:∀(l:List ByteArray)(m:RM)(k r:ByteArray),gget (layR m l) k=some r->(r∈l/\CJ r=k)\/gget m k=some r
 | [],m,k,r,h=>.inr h
 |x::l,m,k,r,h=>by
  rcases Zw l (gput m (CJ x) x) k r h with h|h
  ·exact .inl ⟨.tail _ h.1,h.2⟩
  ·rw[OB]at h
   split at h
   ·rename_i e
    cases h;exact .inl ⟨.head _,e.symm⟩
   ·exact .inr h
theorem records_about(T:Tr)(S:SM)(W:List ByteArray){k r:ByteArray}(h:gget (DL T S W) k=some r):r∈He T S W/\CJ r=k:=by
 rcases Zw _ _ _ _ h with h|h
 ·exact h
 ·cases h
end
noncomputable section
open Go Go.Vc Go.Nod
structure TInv(X:Tab):Prop where
 span:W9 X.T X.S
 wok:WOk X.W
 names:∀s,s≠none0->(s∈X.W↔s∈GL (X.T.L.map rowI))
 inv:WInv ⟨X.P,X.Q,[]⟩
 recs:∀k,k≠bts bD->recK ⟨X.P,X.Q,[]⟩ k=(gget (DL X.T X.S X.W) k).map (·.data.toList)
 head:recK ⟨X.P,X.Q,[]⟩ (bts bD)=some (Et X.T.next).data.toList\/(recK ⟨X.P,X.Q,[]⟩ (bts bD)=none/\X.T.next=1)
theorem tinv0:TInv tab0:=by
 refine⟨⟨⟨?_,fun b a=>?_⟩,fun i=>?_⟩,Zg,fun s m=>?_,⟨⟨fun L h=>(by cases h),fun k p h=>(by cases h),fun p s _ h=>(by cases h)⟩,.nil⟩,fun k d=>?_,.inr ⟨rfl,rfl⟩⟩
 ·rw[GK rfl];exact .nil
 ·rw[GK rfl]at a;cases a
 ·exact⟨fun h=>(by cases h),fun h=>(by cases h)⟩
 ·refine⟨fun h=>(by cases h),fun h=>?_⟩
  obtain⟨x,f,_⟩:=Vj.1 h;cases f
 ·show none=_
  cases e:gget (DL tab0.T tab0.S tab0.W) k with
  |none=>rfl
  |some r=>
   obtain⟨g,c⟩:=records_about _ _ _ e;rcases all_mem.1 g with h|h|⟨j,l,_⟩
   ·rw[h,about_head]at c;exact absurd c.symm d
   ·cases h
   ·exact absurd l (Nat.not_lt_zero _)
theorem do_bad{X:Tab}{o:OpP}(hc:(doP X o).2.2.2≠0):(doP X o).1=X/\(doP X o).2.1=0/\(doP X o).2.2.1=[]:=by
 rw[doP]at hc⊢;split
 ·exact⟨rfl,rfl,rfl⟩
 ·rename_i a
  rw[if_neg a]at hc;split
  ·exact⟨rfl,rfl,rfl⟩
  ·rename_i b
   rw[if_neg b]at hc;split
   ·exact⟨rfl,rfl,rfl⟩
   ·rename_i c
    rw[if_neg c]at hc;exact absurd rfl hc
end
noncomputable section
open Go Go.Vc Go.Nod
end
noncomputable section
open Go Go.Vc Go.Nod
section
variable{F:Fo}{X:Tab}{l:List Cg}{st:LdS}
end
end
noncomputable section
open Go Go.Vc Go.Nod
end
noncomputable section
open Go Go.Vc Go.Nod
end
end Go.Proofs.YtljenkbpnioipaaGreat
namespace Go.Vc
open Go
end Go.Vc
namespace Go.Proofs.YtljenkbpnioipaaGreat
noncomputable section
open Go Go.Vc Go.Nod
theorem YX{f:List Nat}{b:Nat}{X:Tab}{w:World}(h:(tabA f b X).ok w):∃F,BN F X.T:=by
 obtain⟨L,⟨z,e,g,i,a,j,_,c,rfl⟩,H,_⟩:=(Be h:Hp f w w [tabA f b X]).unpack;obtain⟨F,_,_,d,_⟩:=FQ (H.ok (AU a z.tb X.T) m1);exact⟨F,d⟩
def aj(a b:Cg):Prop:=if a.page≠b.page then a.page<b.page else a.slot<b.slot
instance (a b:Cg):Decidable (aj a b):=by unfold aj;infer_instance
open Classical in
end
open Go Go.Vc
section
variable(w:World)(R:Ending->World->Prop){u:World}{U:Ending->World->Prop}(p0 p1 p2:Option Addr)(n0 n1 n2 n3:Nat)(i0 i1 i2 i3 i4 i5 i6 i7 i8 i9 i10 i11:Int)(s0 s1 s2 s3:ByteArray)(b0 b1:Bool)(m0:Option Nat)(v0:Value)
def fewW.vc:Prop:=AP (St:=Int×Int) (fun a d q=>B0 (a.2<(↑n0:Int)) (onP p0 fun e=>D1 a.2 n0/\G4 d (e.add (a.2.toNat*7)) fun j k l m n o i b c=>N2 d 0 0 0 0 (.mk #[]) (.mk #[]) none 0 0 fun f p=>U2 p f 0 j k l m n o i b c fun h=>L6 h f 6 fun e b c=>q (IntKind.wrap .i64 (a.1+(↑b:Int)),IntKind.wrap .i64 (a.2+1)) h) (B0 ((↑n0:Int)<=50) (R (E (.bool (decide (a.1<=1200)))) d) (R (E (.bool false)) d))) (0,0) w
theorem fewW.ok(Z0:fewW.vc u U p0 n0):Calls P 11 #[S p0 n0 n1] u U:=cok ⟨[0,1,2,3,4,5,6,7,8,9,10,11,12],[(3,[(3,.inl .i64),(8,.inl .i64)])],[],[]⟩ Tryz.func11 Z0
end
noncomputable section
open Go.Nod
structure NOp where
 o:OpP
 a:Option Addr
 c:Nat
 ss:List Sl3
def nopC(q:NOp):List Value:=opC q.o q.a q.o.l.length q.c
def OG(os:List NOp):List Value:=os.flatMap nopC
theorem nopsC_len(a:List NOp):(OG a).length=a.length*7:=by
 induction a with
 |nil=>rfl
 |cons o r b=>rw[OG,flatMap_cons,length_append,<- OG,b,length_cons];show 7+_=_;omega
theorem Yr:∀{a:List NOp}{k:Nat}{q:NOp},a[k]? =some q->((OG a).drop (k*7)).take 7=nopC q
 |x::r,0,q,h=>by
  simp at h;subst h;rw[OG,flatMap_cons,Nat.zero_mul,drop_zero];exact List.take_left' rfl
 |x::r,k+1,q,h=>by
  rw[List.getElem?_cons_succ]at h;rw[OG,flatMap_cons,Nat.succ_mul,Nat.add_comm,<- drop_drop,List.drop_left' (by rfl)];exact Yr h
structure NScr(w:World)(sa:Option Addr)(os:List NOp):Prop where
 cells:Cells w sa (OG os)
 it:∀q∈os,Df [] w q.a q.o.l.length q.o.l q.ss
 len:os.length<=140737488355328
 lens:∀q∈os,q.o.l.length<=140737488355328
 txt:∀q∈os,q.o.text.size<=maxLen
theorem Z9:Agg Tryz.prog 36 7:=Ci (by kernel_rfl)
theorem mSI:Scl Tryz.prog 34:=BK (by kernel_rfl)
theorem NScr.ld{w w':World}{e:Option Addr}{c:List NOp}(h:NScr w e c)(hc:Chg [] w w'){k:Nat}{q:NOp}(f:c[k]? =some q):∃b,e=some b/\Ld Tryz.prog 36 w' (b.add (k*7)) (.agg (nopC q).toArray):=by
 have g:=(List.getElem?_eq_some_iff.1 f).1
 have d:0<(OG c).length:=by rw[nopsC_len];omega
 obtain⟨b,a,_⟩:=h.cells 0 _ (List.getElem?_eq_getElem d);exact⟨b,a,(h.cells.chg hc (by simp)).ldA Z9 a (Yr f) rfl⟩
def sumN(os:List NOp):Nat:=(os.map fun q=>q.o.l.length).sum
structure FewN(os:List NOp):Prop where
 len:os.length<=50
 sum:sumN os<=1200
theorem sumN_snoc(a:List NOp)(q:NOp):sumN (a++[q])=sumN a+q.o.l.length:=by simp[sumN]
theorem Zv:∀(a:List NOp),(∀q∈a,q.o.l.length<=140737488355328)->sumN a<=a.length*140737488355328
 | [],_=>by simp[sumN]
 |o::r,h=>by
  have b:=Zv r fun q c=>h q (.tail _ c);have:=h o (.head _);simp only[sumN,map_cons,List.sum_cons,length_cons]at b⊢;omega
theorem few_spec(u:Option Addr)(z:Nat)(a:List NOp){w0 w:World}(j:NScr w0 u a)(hc:Chg [] w0 w):
  Calls Tryz.prog 11 #[.slice u a.length z] w fun e w'=>∃b:Bool,e=.returned (.bool b)/\(b=true->FewN a)/\Hp [] w w' []:=by
 apply fewW.ok;unfold fewW.vc;have A:=j.len;refine AP.mk (fun m (s:Int×Int) w'=>∃(k:Nat)(n:Int),m=a.length-k/\k<=a.length/\s=(n,(k:Int))/\(k<=60->n=(sumN (a.take k):Int))/\Hp [] w w' []) a.length ⟨0,0,rfl,by omega,rfl,fun _=>rfl,Hp.start w⟩ ?_
 rintro m s J next ⟨k,n,rfl,K,rfl,c,H⟩ d
 dsimp only;refine AB (fun x=>?_) (fun x=>?_)
 ·have f:k<a.length:=by omega
  obtain⟨q,i⟩:∃q,a[k]? =some q:=⟨_,List.getElem?_eq_getElem f⟩;obtain⟨L,l,o⟩:=j.ld (hc.trans H.chg (by simp) (by simp)) i
  have p:a.take (k+1)=a.take k++[q]:=by rw[take_succ_eq_append_getElem f,(List.getElem?_eq_some_iff.1 i).2]
  refine AA l ⟨⟨by omega,x⟩,_,_,_,_,_,_,_,_,_,by rw[Int.toNat_natCast];exact o,?_⟩;intro b M B;have C:=H.nw B;refine Hp.sA C Z9 (cs':=nopC q) fun N y=>?_;refine⟨_,_,_,y.lo mSI,?_⟩
  have r:IntKind.i64.wrap ((k:Int)+1)=((k+1:Nat):Int):=by rw[Hu (by omega)];rfl
  refine d (a.length-(k+1)) _ _ (by omega) ⟨k+1,_,rfl,by omega,by rw[r],fun D=>?_,y.done⟩;have g:=Zv (a.take (k+1)) fun q i=>j.lens q (mem_of_mem_take i);rw[length_take]at g
  have:min (k+1) a.length<=60:=by omega
  have:min (k+1) a.length*140737488355328<=60*140737488355328:=Nat.mul_le_mul_right _ this;rw[p,sumN_snoc]at g⊢;rw[c (by omega),Hu (by omega)];omega
 ·have t:k=a.length:=by omega
  subst t;rw[take_length]at c;refine AB (fun F=>⟨_,rfl,fun G=>?_,H⟩) (fun F=>⟨false,rfl,fun h=>(by cases h),H⟩);rw[decide_eq_true_eq]at G;have:=c (by omega);exact⟨by omega,by omega⟩
theorem own_spec(o:OpP)(a:Option Addr)(n c:Nat)(w:World):Calls Tryz.prog 20 #[.agg (opC o a n c).toArray] w fun e w'=>e=.returned (.agg (opC o a n c).toArray)/\Hp [] w w' []:=by
 apply own.ok;unfold own.vc;intro b h d i j f;have H:=((Hp.start w).new (cs:=opC o a n c) EQ4 d).nw f;have k:∀{x:Asn}{L:List Asn},Asn.blk b (opC o a n c) 36∈x::(Asn.blk b (opC o a n c) 36::L):=.tail _ (.head _);refine⟨o.kind,H.lo yInt,o.id,H.lo yInt,o.to,H.lo yInt,o.at_,H.lo yInt,o.name,H.lo yStr,o.text,H.lo yStr,a,n,c,H.lo mSI,?_⟩;refine Hp.sA H bV (cs':=opC o a n c) fun l g=>?_;exact⟨_,_,_,_,_,_,_,_,_,g.loA bV,rfl,g.done⟩
instance:DecidableEq Cg:=fun a b=>decidable_of_iff (a.page=b.page/\a.slot=b.slot/\a.s=b.s/\a.gone=b.gone) ⟨fun h=>by
 obtain⟨a1,a2,a3,a4⟩:=a
 obtain⟨b1,b2,b3,b4⟩:=b
 dsimp only at h
 rw[h.1,h.2.1,h.2.2.1,h.2.2.2],fun h=>by subst h;exact⟨rfl,rfl,rfl,rfl⟩⟩
end
end Go.Proofs.YtljenkbpnioipaaGreat
namespace Go.Vc
open Go Go.ChangeShapes Go.WideShapes Go.WideElems
noncomputable section
def RdK(P:Program)(w:World):Nat->TypeId->(List Value->Prop)->Prop
 |0,_,K=>∃cs,K cs
 |n+1,t,K=>match P.underlying t with
  |some (.int k)=>∃i,inR k i/\K [.int k i]
  |some .bool=>∃b,K [.bool b]
  |some .string=>∃s:ByteArray,s.size<=reachBytes/\K [.string s]
  |some (.slice e)=>∃(a:Option Addr)(cap:Nat)(els:List (List Value)),els.length<=cap/\cap<=maxLen/\els.length*P.bytesOf e<=reachBytes/\(a=none->els=[])/\(∀x∈els,RdK P w n e (fun cs=>x=cs))/\Cells w a els.flatten/\K [.slice a els.length cap]
  |some (.struct fs)=>exLs (RdK P w n) (fs.toList.map (·.type)) K
  |_=>∃cs,K cs
def ofC(b:Option Bool)(cs:List Value):Value:=match b with
 |some true=>.agg cs.toArray
 |_=>cs.headD .nilFunc
def RdA(P:Program)(w:World)(n:Nat):List TypeId->(List Value->Prop)->Prop
 | [],K=>K []
 |t::r,K=>RdK P w n t fun cs=>RdA P w n r fun l=>K (ofC (aggB P t) cs::l)
section
variable{H:Type}{enc:TypeId×Value->H}{P:Program}{w:World}{base:Nat}{spare:Nat->Bool}{held:Bool}
theorem lit_inR{k:IntKind}{n:Int}(h:(Lit.int k n).wf=true):inR k n:=by
 simpa [Lit.wf,inR]using h
theorem aU{f:TypeId->(List Value->Prop)->Prop}:∀(l:List TypeId)(p:List (List Value))(K:List Value->Prop),p.length=l.length->(∀(i:Nat)(t:TypeId)(x:List Value),l[i]? =some t->p[i]? =some x->∀a:List Value->Prop,a x->f t a)->K p.flatten->exLs f l K
 | [],[],K,_,_,hk=>by simpa [exLs]using hk
 |t::r,x::q,K,hl,hf,hk=>by
  rw[exLs];refine hf 0 t x rfl rfl _ ?_;refine aU r q _ (by simpa using hl) (fun i t y b c=>hf (i+1) t y b c) ?_;simpa using hk
theorem Xt:∀(a:List Nat)(cs:List Value),cs.length=a.sum->((List.range a.length).map fun i=>(cs.drop (a.take i).sum).take (a.getD i 0)).flatten=cs
 | [],cs,h=>by
  have:cs=[]:=List.eq_nil_of_length_eq_zero (by simpa using h);simp[this]
 |n::r,cs,h=>by
  have b:=Xt r (cs.drop n) (by simp at h⊢;omega);rw[length_cons,List.range_succ_eq_map,map_cons,flatten_cons,map_map]
  have e:((fun i=>(cs.drop ((n::r).take i).sum).take ((n::r).getD i 0))∘Nat.succ)=fun i=>((cs.drop n).drop (r.take i).sum).take (r.getD i 0):=by
   funext i;simp[drop_drop]
  rw[e,b];simp[take_append_drop]
theorem rdK(hl:laidOutB P=true):∀(n:Nat)(fuel:Nat)(t:TypeId)(cs:List Value)(x:DataW H×List MemPlace)(K:List Value->Prop),t<P.types.size->DataW.trod enc P w base spare held fuel t cs=some x->(x.1.weights P t).all (· <=reachBytes)=true->K cs->RdK P w n t K:=by
 intro n
 induction n with
 |zero=>intro fuel t cs x K _ _ _ hk;exact⟨cs,hk⟩
 |succ n ih=>
  intro fuel t cs x K ht h hwt hk;unfold RdK;split
  ·rename_i k hu
   obtain⟨i,rfl,_,hw⟩:=DataW.trod_int hu h;exact⟨i,lit_inR hw,hk⟩
  ·rename_i hu
   obtain⟨b,rfl,_⟩:=DataW.trod_bool hu h;exact⟨b,hk⟩
  ·rename_i hu
   obtain⟨s,rfl,rfl,hs⟩:=DataW.trod_string hu h;simp only[DataW.weights,all_cons,List.all_nil,Bool.and_true,decide_eq_true_eq]at hwt;exact⟨s,by rw[Array.length_toList]at hwt;exact hwt,hk⟩
  ·rename_i e hu
   have he:e<P.types.size:=kid_slice hl ht hu
   rcases DataW.trod_slice hu h with⟨rfl,_⟩|⟨a,len,cap,elems,rest,m,rfl,rfl,hxx,hb,h1,h2,hlen,hel,hr1,hr2⟩
   ·exact⟨none,0,[],Nat.le_refl _,by simp[maxLen],by rw[length_nil,Nat.zero_mul];exact Nat.zero_le _,fun _=>rfl,by simp,by intro j v hj;simp at hj,hk⟩
   ·rw[hxx]at hwt
    simp only[DataW.weights,hu,all_cons,all_append,Bool.and_eq_true,decide_eq_true_eq,length_map]at hwt
    have hwe:∀z∈elems,(z.1.weights P e).all (· <=reachBytes)=true:=by
     have hmem:∀(l:List (DataW H)),(DataW.weightsAll P e l).all (· <=reachBytes)=true->∀d∈l,(d.weights P e).all (· <=reachBytes)=true:=by
      intro l
      induction l with
      |nil=>intro _ d hd;cases hd
      |cons x r ihr=>
       intro hl d hd;simp only[DataW.weightsAll,all_append,Bool.and_eq_true]at hl;rcases mem_cons.1 hd with rfl|hd
       ·exact hl.1
       ·exact ihr hl.2 d hd
     exact fun z hz=>hmem _ hwt.2.1 _ (mem_map_of_mem hz)
    have hall:∀i,i<len->∃y,w.cells? base (a.add (i*P.cellsOf e)) (P.cellsOf e)=some y/\∃z∈elems,DataW.trod enc P w base spare held m e y=some z:=by
     intro i hi;have h3:=hel i hi;rw[List.getElem?_eq_getElem (by omega),Option.bind_eq_some_iff]at h3;obtain⟨y,hy,hz⟩:=h3;exact⟨y,hy,_,getElem_mem _,hz⟩
    obtain⟨els,hels,hget⟩:∃els:List (List Value),els.length=len/\∀i y,els[i]? =some y->w.cells? base (a.add (i*P.cellsOf e)) (P.cellsOf e)=some y/\∃z∈elems,DataW.trod enc P w base spare held m e y=some z:=by
     clear hel hlen h hk h1 hr1 hr2 hxx hwt
     induction len with
     |zero=>exact⟨[],rfl,by simp⟩
     |succ q ihq=>
      obtain⟨els,e1,e2⟩:=ihq fun i hi=>hall i (by omega);obtain⟨y,hy⟩:=hall q (by omega);refine⟨els++[y],by simp[e1],fun i z hz=>?_⟩;rw[List.getElem?_append]at hz;split at hz
      ·exact e2 i z hz
      ·have hi:i=q:=by
        have:=(List.getElem?_eq_some_iff.1 hz).1;simp at this;omega
       subst hi;simp[e1]at hz;subst hz;exact hy
    have hsz:∀y∈els,y.length=P.cellsOf e:=by
     intro y hy;obtain⟨i,hi⟩:=List.getElem?_of_mem hy;exact(World.cells?_some (hget i y hi).1).2.1
    refine⟨some a,cap,els,by omega,h2,Nat.le_trans (Nat.mul_le_mul_right _ (by omega)) hwt.1,by simp,?_,?_,by rw[hels];exact hk⟩
    ·intro y hy
     obtain⟨i,hi⟩:=List.getElem?_of_mem hy;obtain⟨_,z,hzm,hz⟩:=hget i y hi;exact ih m e y z _ he hz (hwe z hzm) rfl
    ·have hcell:∀(els:List (List Value))(i0:Nat),(∀i y,els[i]? =some y->y.length=P.cellsOf e/\∀j v,y[j]? =some v->w.cell? (a.add ((i0+i)*P.cellsOf e+j))=some v)->∀j v,els.flatten[j]? =some v->w.cell? (a.add (i0*P.cellsOf e+j))=some v:=by
      intro els
      induction els with
      |nil=>intro i0 _ j v hj;simp at hj
      |cons y r ihr=>
       intro i0 hh j v hj;obtain⟨hy,hyc⟩:=hh 0 y rfl;rw[flatten_cons,List.getElem?_append]at hj;split at hj
       ·simpa using hyc j v hj
       ·have:=ihr (i0+1) (fun i z hz=>by
         have:=hh (i+1) z hz
         rw[show i0+1+i=i0+(i+1) by omega];exact this) (j-y.length) v hj
        rw[Nat.add_mul,Nat.one_mul]at this;rw[show i0*P.cellsOf e+j=i0*P.cellsOf e+P.cellsOf e+(j-y.length) by omega];exact this
     intro j v hj;refine⟨a,rfl,?_⟩
     have:=hcell els 0 (fun i y hi=>⟨hsz y (mem_of_getElem? hi),fun j v hv=>by
      have:=(World.cells?_some (hget i y hi).1).2.2 j (by rw[<- hsz y (mem_of_getElem? hi)];exact(List.getElem?_eq_some_iff.1 hv).1);rw[add_add,hv]at this
      simpa using this⟩) j v hj
     simpa using this
  ·rename_i fs hu
   obtain⟨xs,m,_,rfl,hcl,hxl,hf⟩:=DataW.trod_struct hu h;obtain⟨k1,k2,k3⟩:=kid_struct hl ht hu
   have hws:∀(ts:List TypeId)(l:List (DataW H)),(DataW.weightsEach P ts l).all (· <=reachBytes)=true->∀(i:Nat) t d,ts[i]? =some t->l[i]? =some d->(d.weights P t).all (· <=reachBytes)=true:=by
    intro ts
    induction ts with
    |nil=>intro l _ i t d h1;simp at h1
    |cons t0 r ihr=>
     intro l hl i t d h1 h2
     cases l with
     |nil=>simp at h2
     |cons d0 l=>
      simp only[DataW.weightsEach,all_append,Bool.and_eq_true]at hl
      cases i with
      |zero=>simp at h1 h2;subst h1 h2;exact hl.1
      |succ i=>exact ihr l hl.2 i t d (by simpa using h1) (by simpa using h2)
   simp only[DataW.weights,hu]at hwt;have hcut:=Xt (fs.toList.map fun f=>P.cellsOf f.type) cs (by rw[hcl,k2]);refine aU _ _ _ ?_ ?_ (by rw[hcut];exact hk)
   ·simp
   ·intro i t y h1 h2 K' hK'
    simp only[List.getElem?_map,Option.map_eq_some_iff]at h1;obtain⟨f,hfi,rfl⟩:=h1;have hi:i<fs.toList.length:=(List.getElem?_eq_some_iff.1 hfi).1;simp only[length_map,List.getElem?_map,List.getElem?_range hi,Option.map_some,Option.some.injEq]at h2;have e3:=k3 i f hfi;rw[<- map_take,<- e3]at h2
    have e4:(fs.toList.map fun f=>P.cellsOf f.type).getD i 0=P.cellsOf f.type:=by
     rw[List.getD_eq_getElem?_getD,List.getElem?_map,hfi];rfl
    rw[e4]at h2;have h5:=hf i f (by simpa using hfi);rw[h2]at h5
    have h6:i<xs.length:=by rw[hxl];simpa using hi
    rw[List.getElem?_eq_getElem h6]at h5;refine ih m f.type y _ _ (k1 f (mem_of_getElem? hfi)) h5 (hws _ _ hwt i _ _ (by rw[List.getElem?_map,hfi];rfl) (by rw[List.getElem?_map,List.getElem?_eq_getElem h6];rfl)) hK'
  ·exact⟨cs,hk⟩
theorem ofC_eq{r:Reach}{g:Nat}{t:TypeId}{v:Value}(f:match P.underlying t with|some (.int _)|some .bool|some .string|some (.slice _)|some (.struct _)=>True|_=>False)(e:Value.okWide P w r g t v):ofC (aggB P t) v.cells.toList=v:=by
 cases hu:P.underlying t with
 |none=>rw[hu]at f;exact f.elim
 |some d=>
  rw[hu]at f
  cases d<;>try exact f.elim
  ·obtain⟨b,rfl⟩:=okWide_bool hu e;simp[ofC,aggB,hu,Value.cells]
  ·obtain⟨b,rfl⟩:=okWide_int hu e;simp[ofC,aggB,hu,Value.cells]
  ·obtain⟨b,rfl⟩:=okWide_string hu e;simp[ofC,aggB,hu,Value.cells]
  ·obtain⟨a,l,c,rfl⟩:=okWide_slice hu e;simp[ofC,aggB,hu,Value.cells]
  ·obtain⟨h,rfl,_⟩:=okWide_struct hu e;simp[ofC,aggB,hu,Value.cells]
def UQ(P:Program)(t:TypeId):Bool:=Nat.blt t P.types.size&&P.readableRec t&&match P.underlying t with
 |some (.int _)|some .bool|some .string|some (.slice _)|some (.struct _)=>true
 |_=>false
theorem Yd{t:TypeId}(h:UQ P t=true):t<P.types.size/\P.readableRec t=true/\match P.underlying t with|some (.int _)|some .bool|some .string|some (.slice _)|some (.struct _)=>True|_=>False:=by
 simp only[UQ,Bool.and_eq_true]at h;refine⟨Nat.lt_of_lt_of_le (Nat.lt_succ_self _) (Nat.le_of_ble_eq_true h.1.1),h.1.2,?_⟩;have:=h.2;split at this<;>simp_all
theorem rdA(hl:laidOutB P=true){r:Reach}{b0:Nat}(n:Nat):∀(ts:List TypeId)(vs:List Value)(ds:List (DataW H))(ps:List MemPlace)(K:List Value->Prop),ts.all (UQ P)=true->(∀(j:Nat) t v,ts[j]? =some t->vs[j]? =some v->Value.okWide P w r b0 t v)->
  DataW.TrodAll enc P w base spare held ts vs ds ps->(DataW.weightsEach P ts ds).all (· <=reachBytes)=true->K vs->RdA P w n ts K
 | [],[],[],ps,K,_,_,_,_,hk=>hk
 |t::ts,v::vs,d::ds,ps,K,hp,hv,⟨p,q,⟨fuel,h1⟩,h2,_⟩,hwt,hk=>by
  simp only[DataW.weightsEach,all_append,Bool.and_eq_true]at hwt;simp only[all_cons,Bool.and_eq_true]at hp;obtain⟨p1,p2,p3⟩:=Yd hp.1;rw[RdA];refine rdK hl n fuel t _ _ _ p1 h1 hwt.1 ?_;refine rdA hl n ts vs ds q _ hp.2 (fun j t v h3 h4=>hv (j+1) t v h3 h4) h2 hwt.2 ?_;rw[ofC_eq p3 (hv 0 t v rfl rfl)];exact hk
theorem Qj(d:laidOutB P=true){W W':World}{f:Nat->Bool}(g:Go.RowKit.Below W.heap.size W W'):∀{c:List TypeId}{vs:List Value}{ds:List (DataW H)}{b:List MemPlace},c.all (UQ P)=true->(∀x∈b,x.block<W.heap.size)->(∀x∈b,f x.block=true)->
  DataW.TrodAll enc P W 0 (fun _=>true) true c vs ds b->DataW.TrodAll enc P W' 0 f true c vs ds b
 | [],[],[],_,_,_,_,h=>h
 |_::_,_::_,_::_,_,hp,hlt,hs,⟨p,q,h1,h2,e⟩=>by
  simp only[all_cons,Bool.and_eq_true]at hp;obtain⟨i,j,k⟩:=Yd hp.1
  exact⟨p,q,Trod_stays d j i h1 (fun x a=>g.same (hlt x (by rw[e];exact mem_append_left _ a))) (fun x a=>hs x (by rw[e];exact mem_append_left _ a)),
   Qj d g hp.2 (fun x a=>hlt x (by rw[e];exact mem_append_right _ a)) (fun x a=>hs x (by rw[e];exact mem_append_right _ a)) h2,e⟩
theorem Qw{W:World}:∀{a:List TypeId}{vs:List Value}{ds:List (DataW H)}{b:List MemPlace},DataW.TrodAll enc P W base spare held a vs ds b->ds.length=a.length
 | [],[],[],_,_=>rfl
 |_::_,_::_,_::_,_,⟨_,_,_,h2,_⟩=>by simp[Qw h2]
end
theorem Chg.below{w w':World}(h:Chg [] w w'):Go.RowKit.Below w.heap.size w w':=⟨h.1,h.2.1,h.2.2.1,h.size,fun k a=>h.2.2.2.2 k a (by simp)⟩
theorem law_lift{C:Checked}{os:Os}{H:Type}{enc:TypeId×Value->H}(f:FuncId)(fn:Func){s:ChangeSpec}(n:Nat){t0:TypeId}(ab:ownKnob C.prog.godebug=none)(m:os.Started)(y:C.prog.inits.idxOf? f=none)(ac:C.prog.funcs[f]? =some fn)
  (F:laidOutB C.prog=true) (M:fn.params.toList.all (UQ C.prog)=true) (N:s.vars=[]) (O:fn.resultTypes= #[t0]) (hb:C.prog.underlying t0=some .bool)
  (ad:∀ds:List (DataW H),ds.length=fn.params.toList.length->s.fn H ds= {results:=[.lit (.bool true)],args:=ds})
  (o:∃(w:World)(a:Tape)(i:Input),w.os=os/\(w.forCall a i).Shaped C.prog/\i.vars=[]/\Input.okWide C.prog (w.forCall a i) .any w.heap.size f i/\
   s.pre6 enc C.prog fn [] false (w.forCall a i).memory i.args/\({}:Assume).holds C.prog (lone (Frame.enter C.prog f i.args .normal) [] (w.forCall a i)))
  (k:∀(W:World)(args:Array Value),RdA C.prog W n fn.params.toList (fun l=>args.toList=l)->Calls C.prog f args W fun e W'=>e=.returned (.bool true)/\Chg [] W W'):
  ReturnsInHanded {} C os f .any (s.pre6 enc C.prog fn [] false) (s.post enc C.prog fn false true false false):=by
 refine returnsInHanded_of_calls ab m y o ?_;intro w0 a g _ _ _ ae R _;obtain⟨_,_,_,c,T,_,_,_,_,u⟩:=ae;have af:c=fn:=Option.some.inj (T.symm.trans ac);subst af;obtain⟨⟨ds,gs,before,G,_⟩,U⟩:=R;have X:=U.weights G;have hW:=DataW.Whole.of_heap (w':=w0.forCall a g) (by rfl) G;clear U G
 suffices J:Calls C.prog f g.args (w0.forCall a g) fun e W'=>∃v,e=.returned v/\s.post enc C.prog c false true false false (w0.forCall a g) g.args v W' from J.mono fun e W' ⟨v,he,hp⟩=>by
  subst he;exact ChangeSpec.post_blind hp
 generalize w0.forCall a g=W at hW u;generalize g.args=args at hW u;have Y:=hW;obtain⟨p,q,hA,hV,rfl,ag,ah⟩:=hW;rw[N]at hV;obtain⟨rfl,rfl⟩:=trodVars_none hV;have D:=Qw hA
 have ak:(DataW.weightsEach C.prog (c.params.toList++(OpenSpec.ofChange s).bare.plain.varTypes C.prog) (ds++[])).all (· <=reachBytes)=true->(DataW.weightsEach C.prog c.params.toList ds).all (· <=reachBytes)=true:=by
  rw[append_nil]
  have:∀(Z us:List TypeId)(l:List (DataW H)),l.length=Z.length->DataW.weightsEach C.prog (Z++us) l=DataW.weightsEach C.prog Z l:=by
   intro Z
   induction Z with
   |nil=>intro us l F;have:l=[]:=List.eq_nil_of_length_eq_zero F;subst this;cases us<;>rfl
   |cons t r ih=>
    intro us l F
    cases l with
    |nil=>cases F
    |cons d l=>simp only[cons_append,DataW.weightsEach];rw[ih us l (by simpa using F)]
  rw[this _ _ _ D];exact id
 have al:=rdA F n c.params.toList args.toList ds p (fun l=>args.toList=l) M (fun j t v h1 h2=>u j t v (by simpa using h1) (by simpa using h2)) hA (ak X) rfl;refine(k W args al).mono fun e W' ⟨he,hc⟩=>⟨_,he,?_⟩;have K:=hc.below;have z:=Y.lt;simp only[append_nil]at z
 have h:s.fn H (ds++[])= {results:=[.lit (.bool true)],args:=ds}:=by rw[append_nil];exact ad ds D
 have hR:∀(b:Nat)(A:Nat->Bool)(hd:Bool),DataW.TrodAll enc C.prog W' b A hd c.resultTypes.toList ((Value.bool true).resultList c.resultTypes.size) (s.fn H (ds++[])).results []:=fun b A hd=>by
  rw[h,O];exact trodAll_mk1 (Go.RowKit.shut_bool hb true)
 have hG:∀A:Nat->Bool,(∀x∈p,A x.block=true)->DataW.TrodAll enc C.prog W' 0 A true c.params.toList args.toList (s.fn H (ds++[])).args p:=fun A hs=>by
  rw[h];exact Qj F K M z hs hA
 have aa:∀A:Nat->Bool,DataW.TrodVars enc C.prog W' A s.vars (s.fn H (ds++[])).vars []:=fun A=>by
  rw[h,N];rfl
 refine⟨ds,[],p++[],[],p,[],Y,hR _ _ _,hG _ (fun x B=>by simpa using z x B),aa _,World.keptBut_mono (fun x B=>⟨B,.inr (by simpa using B)⟩) (K.frame _),fun _=>?_⟩;refine⟨Go.RowKit.ok_one O rfl (Go.RowKit.okWide_bool_mk hb true),_,_,([]++p)++[],⟨[]++p,[],trodAll_append (hG _ (fun _ _=>rfl)) (hR _ _ _),aa _,rfl,?_,?_⟩,?_⟩
 ·intro b L B
  have h1:=z (.cell b L) (by simpa using B);rw[K.frozen (p:=⟨b,L,none⟩) h1];exact ag b L (by simpa using B)
 ·intro ha
  simpa using ah ha
 ·intro x B _
  simpa using B
end
end Go.Vc
namespace Go.Proofs.YtljenkbpnioipaaGreat
open Go Go.Vc Go.Nod Go.ChangeAt
theorem own_:ownKnob Tryz.prog.godebug=none:=by kernel_rfl
theorem laid_:laidOutB Tryz.prog=true:=by kernel_rfl
theorem und4:Tryz.prog.underlying 4=some .bool:=by kernel_rfl
def ArgG(W:World)(n:Nat)(e:TypeId)(K:List Value->Prop):Prop:=∃(a:Option Addr)(cap:Nat)(els:List (List Value)),els.length<=cap/\cap<=maxLen/\els.length*Tryz.prog.bytesOf e<=reachBytes/\(a=none->els=[])/\(∀x∈els,RdK Tryz.prog W n e (fun cs=>x=cs))/\Cells W a els.flatten/\K [.slice a els.length cap]
theorem RH{α:Type}{f:α->List Value}{Q:α->Prop}:∀(a:List (List Value)),(∀x∈a,∃p,Q p/\x=f p)->∃l:List α,a=l.map f/\∀p∈l,Q p
 | [],_=>⟨[],rfl,by simp⟩
 |x::r,h=>by
  obtain⟨p,b,rfl⟩:=h x (.head _);obtain⟨l,rfl,c⟩:=RH r fun y d=>h y (.tail _ d);exact⟨p::l,rfl,by simpa using⟨b,c⟩⟩
theorem rd_at(W:World)(K:List Value->Prop):RdK Tryz.prog W 2 142 K=(∃s:ByteArray,s.size<=reachBytes/\∃t:ByteArray,t.size<=reachBytes/\K (.string s::.string t::[])):=by kernel_rfl
theorem rd_it(W:World)(K:List Value->Prop):RdK Tryz.prog W 4 123 K=(∃i,inR .i64 i/\∃j,inR .i64 j/\∃s:ByteArray,s.size<=reachBytes/\∃t:ByteArray,t.size<=reachBytes/\ArgG W 2 142 fun x=>K (.int .i64 i::.int .i64 j::.string s::.string t::(x++[]))):=by kernel_rfl
theorem rd_op(W:World)(K:List Value->Prop):RdK Tryz.prog W 6 36 K=(∃i,inR .i64 i/\∃j,inR .i64 j/\∃k,inR .i64 k/\∃l,inR .i64 l/\∃s:ByteArray,s.size<=reachBytes/\∃t:ByteArray,t.size<=reachBytes/\ArgG W 4 123 fun x=>K (.int .i64 i::.int .i64 j::.int .i64 k::.int .i64 l::.string s::.string t::(x++[]))):=by kernel_rfl
theorem PX:reachBytes=140737488351232:=rfl
theorem Ht{n:Nat}(h:n<=reachBytes):n<=maxLen:=by
 rw[PX]at h;simp only[maxLen];omega
theorem atC_flat(l:List At):(l.map fun p:At=>[Value.string p.1,.string p.2]).flatten=atC l:=by rw[<- List.flatMap_def];rfl
theorem argG_at{W:World}{K:List Value->Prop}(h:ArgG W 2 142 K):∃(a:Option Addr)(c:Nat)(l:List At),Cells W a (atC l)/\l.length<=reachBytes/\(∀p∈l,p.1.size<=maxLen/\p.2.size<=maxLen)/\K [.slice a l.length c]:=by
 obtain⟨a,d,e,r,_,g,u,b,i,j⟩:=h
 have k:Tryz.prog.bytesOf 142=32:=by kernel_rfl
 rw[k]at g
 obtain⟨l,rfl,m⟩:=RH (f:=fun p:At=>[Value.string p.1,.string p.2]) (Q:=fun p:At=>p.1.size<=maxLen/\p.2.size<=maxLen) e fun x n=>by
  have:=b x n;rw[rd_at]at this;obtain⟨s,o,t,q,rfl⟩:=this;exact⟨(s,t),⟨Ht o,Ht q⟩,rfl⟩
 rw[length_map]at j g;rw[atC_flat]at i;exact⟨a,d,l,i,by omega,m,j⟩
theorem Vs:∀l:List (It×Sl3),(l.map fun p=>itC p.1 p.2).flatten=itsC (l.map (·.1)) (l.map (·.2))
 | []=>rfl
 |p::r=>by
  have a:=Vs r;rw[itsC]at a⊢;rw[map_cons,flatten_cons,a];rfl
theorem argG_it{W:World}{K:List Value->Prop}(h:ArgG W 4 123 K):∃(a:Option Addr)(c:Nat)(l:List It)(ss:List Sl3),Df [] W a l.length l ss/\l.length<=140737488355328/\K [.slice a l.length c]:=by
 obtain⟨a,o,q,B,r,u,C,g,n,w⟩:=h
 have z:Tryz.prog.bytesOf 123=72:=by kernel_rfl
 rw[z,PX]at u
 obtain⟨l,rfl,m⟩:=RH (f:=fun p:It×Sl3=>itC p.1 p.2) (Q:=fun p=>AtR W p.2.1 p.2.2.1 p.1.x.attrs/\p.2.2.1<=maxLen/\TG p.1.x) q fun x e=>by
  have:=g x e;rw[rd_it]at this;obtain⟨i,_,j,_,s,d,t,A,h⟩:=this;obtain⟨a,c,l,n,m,b,rfl⟩:=argG_at h;exact⟨(⟨i,⟨j,s,t,l⟩⟩,(a,l.length,c)),⟨⟨rfl,n⟩,Ht m,Ht d,Ht A,b⟩,rfl⟩
 rw[length_map]at w u;rw[Vs]at n;refine⟨a,o,l.map (·.1),l.map (·.2),⟨fun D y=>⟨rfl,by simp,n.chg y (by simp),fun k x s e d=>?_⟩,by rw[length_map];simp only[maxLen];omega,fun s d=>?_,fun x e=>?_⟩,by rw[length_map];omega,by rw[length_map];exact w⟩
 ·rw[List.getElem?_map]at e d
  obtain⟨p,b,rfl⟩:=Option.map_eq_some_iff.1 e;rw[b]at d;cases d;exact(m p (mem_of_getElem? b)).1.chg y (by simp)
 ·obtain⟨p,b,rfl⟩:=mem_map.1 d
  exact(m p b).2.1
 ·obtain⟨p,b,rfl⟩:=mem_map.1 e
  exact(m p b).2.2
theorem nopsC_flat(l:List NOp):(l.map nopC).flatten=OG l:=by rw[<- List.flatMap_def];rfl
theorem argG_nscr{W:World}{K:List Value->Prop}(h:ArgG W 6 36 K):∃(a:Option Addr)(c:Nat)(p:List NOp),NScr W a p/\K [.slice a p.length c]:=by
 obtain⟨a,e,g,r,_,u,w,b,y,z⟩:=h
 have A:Tryz.prog.bytesOf 36=88:=by kernel_rfl
 rw[A,PX]at u
 obtain⟨l,rfl,n⟩:=RH (f:=nopC) (Q:=fun q=>Df [] W q.a q.o.l.length q.o.l q.ss/\q.o.l.length<=140737488355328/\q.o.text.size<=maxLen) g fun x B=>by
  have:=b x B;rw[rd_op]at this;obtain⟨i,_,j,_,k,_,m,_,s,_,t,C,h⟩:=this;obtain⟨a,c,l,D,r,w,rfl⟩:=argG_it h;exact⟨⟨⟨i,j,k,m,s,t,l⟩,a,c,D⟩,⟨r,w,Ht C⟩,rfl⟩
 rw[length_map]at z u;rw[nopsC_flat]at y;exact⟨a,e,l,⟨y,fun q d=>(n q d).1,by omega,fun q d=>(n q d).2.1,fun q d=>(n q d).2.2⟩,z⟩
end Go.Proofs.YtljenkbpnioipaaGreat
namespace Go
theorem joined_of{P:Program}{f:FuncId}{fn:Func}{s:ChangeSpec}{c:OpenClaim}(h1:laidOutB P=true)(h:mapsRowed P=true)(i:(c.inPlace==P.inPlace f)=true)(j:(c.unfollowed==P.unfollowed f)=true)(l:(c.recurses==P.recurses f)=true)(m:(c.named==P.varsNamed f)=true)(n:P.stopsHeard=true)(o:P.mayEnter=true)(p:(c.lifted==P.liftsFinal)=true)(a:(P.make==some c.make)=true)
  (b:(c.wf (OpenSpec.ofChange s)&&fn.params.all (P.readableRec ·)&&namedTie P c.named s.vars&&
 (c.stops==[])&&(P.stops==[])&&(c.knobs==[])&&(P.stopKnobs==[]))=true)
  (d:((c.maps==(fn.params.toList++s.plain.varTypes P).any (P.mapsRec ·))&&(c.ifaces==(fn.params.toList++s.plain.varTypes P).any (P.ifacesRec ·))&&(c.mapsOut==P.mapsAmong fn.resultTypes.toList)&&
 (c.loops==(fn.params.toList++s.plain.varTypes P).any (P.loopsFrom ·))&&(c.wideKeys==(fn.params.toList++s.plain.varTypes P++fn.resultTypes.toList).any (P.wideKeysFrom ·)))=true)
  (e:(s.vars.all (P.varReadable ·)&&fn.resultTypes.all (fun t=>P.readableRec t&&decide (t<P.types.size))&&(c.ifacesOut==fn.resultTypes.toList.any (P.ifacesRec ·))&&(c.loopsOut==fn.resultTypes.toList.any (P.loopsFrom ·))&&(c.plainKeys==P.plainKeys)&&c.shortTexts.isNone)=true)
  (g:((c.kinds==(if c.domain.isEmpty then []else fn.params.toList.map fun t=>match P.underlying t with|some (.int k)=>some k|_=>none))&&(c.pinned==c.pinnedBy)&&
 (c.veiled==(fn.params.toList++s.plain.varTypes P++fn.resultTypes.toList).any (P.veiledRec ·))&&c.veiledFits P fn.params.toList (fn.params.toList++s.plain.varTypes P++fn.resultTypes.toList))=true):joinedFacts P f fn s c=true:=by
 unfold joinedFacts;simp only[Bool.and_eq_true]at b d e g⊢;obtain⟨⟨⟨⟨⟨⟨q,r⟩,u⟩,w⟩,x⟩,y⟩,z⟩:=b;obtain⟨⟨⟨⟨A,B⟩,C⟩,D⟩,F⟩:=d;obtain⟨⟨⟨⟨⟨G,H⟩,J⟩,K⟩,L⟩,M⟩:=e;obtain⟨⟨⟨N,O⟩,R⟩,T⟩:=g;exact⟨⟨⟨⟨⟨⟨⟨⟨⟨⟨⟨⟨⟨⟨⟨⟨⟨⟨⟨⟨⟨⟨⟨⟨⟨⟨⟨⟨⟨⟨⟨q,h1⟩,h⟩,r⟩,u⟩,w⟩,x⟩,y⟩,z⟩,i⟩,j⟩,l⟩,m⟩,A⟩,B⟩,C⟩,D⟩,F⟩,G⟩,H⟩,J⟩,K⟩,L⟩,M⟩,n⟩,o⟩,p⟩,a⟩,N⟩,O⟩,R⟩,T⟩
end Go
namespace Go.Proofs.YtljenkbpnioipaaGreat
open Go Go.Vc
theorem rowed_:mapsRowed Tryz.prog=true:=by kernel_rfl
theorem heard_:Tryz.prog.stopsHeard=true:=by kernel_rfl
theorem enter_:Tryz.prog.mayEnter=true:=by kernel_rfl
theorem lifts_:Tryz.prog.liftsFinal=Rows.nodetabAllRow.lifted:=by kernel_rfl
theorem make_:Tryz.prog.make=some Rows.nodetabAllRow.make:=by kernel_rfl
noncomputable section
open Go.Nod
def docA:It:=⟨0,{kind:=1,name:=⟨#[97]⟩,text:=⟨#[]⟩,attrs:=[]}⟩
def docX:It:=⟨1,{kind:=2,name:=⟨#[]⟩,text:=⟨#[120]⟩,attrs:=[]}⟩
def docL:List It:=[docA,docX]
def docO:OpP:=⟨0,0,0,0,⟨#[]⟩,⟨#[]⟩,docL⟩
theorem WF{b:UInt8}{c:Int}(hc:Bj c)(a:encP c=[b]):Gl [b] [c]:=⟨fun d e=>by rw[mem_singleton.1 e];exact hc,by simp[a]⟩
theorem SX:Cb ⟨#[97]⟩:=by
 refine⟨by decide,by decide,[97],WF (by unfold Bj;omega) (by unfold encP;rfl),fun c a=>?_,fun c a=>?_⟩
 ·rw[mem_singleton.1 a];unfold GZ Dc;omega
 ·cases a;unfold Dc;omega
theorem doc_text:BJ ⟨#[120]⟩=0:=by
 rw[BJ,if_neg,if_neg (by decide)];exact not_not_intro ⟨[120],WF (by unfold Bj;omega) (by unfold encP;rfl)⟩
theorem Vg:(DC docL).2=0:=by
 rw[DC,if_neg (by simp[docL]),MH];intro k x b;rw[Nat.zero_add,oneE];have i:k<2:=(List.getElem?_eq_some_iff.1 b).1
 have c:k=0\/k=1:=by omega
 rcases c with rfl|rfl
 ·cases b
  have e:BV docL 0 docA=0:=by
   rw[BV,if_neg (by simp[docA]),if_neg (by omega),if_neg (by simp[docA]),if_neg (by omega)]
  rw[if_pos e,Ap,if_neg (by simp[docA]),if_pos (show docA.x.kind=1/\docA.x.text=⟨#[]⟩from⟨rfl,rfl⟩)]
  have d:Bh docA.x=0:=by
   rw[Bh,if_neg (not_not_intro (show Cb docA.x.name from SX)),if_neg (not_not_intro (show Mc docA.x.attrs from⟨fun a f=>(by cases f),.nil⟩)),if_neg (by simp[docA])]
  rw[if_pos d];rfl
 ·cases b
  have e:BV docL 1 docX=0:=by
   rw[BV,if_neg (by omega),if_neg,if_neg (by simp[docX]),if_neg (by omega)];rintro⟨_,h|⟨y,g,h⟩⟩
   ·exact absurd h (by simp[docX])
   ·cases g
    rcases h with h|⟨_,h⟩
    ·simp[docA,docX]at h
    ·simp[docA]at h
  rw[if_pos e,Ap,if_pos (show docX.x.kind=2 from rfl),if_pos (show docX.x.name=⟨#[]⟩/\docX.x.attrs=[]from⟨rfl,rfl⟩)];exact doc_text
theorem SA:(tab0.T.edit docO)=(⟨Ar 1 0 docL,3⟩,1,0):=by
 rw[Tr.edit,if_pos (show docO.kind=0 from rfl)];show Tr.load ⟨[],1⟩ docL=_;rw[Tr.load,if_neg (by rw[Vg];omega),if_neg (by simp[docL])];rfl
theorem doc_good:∃F,BN F (tab0.T.edit docO).1:=by
 obtain⟨F,h,_⟩:=Ri Vg (n:=1) (by omega) (by simp[docL]);rw[SA];exact⟨F,h⟩
theorem doc_spec(w:World):Calls Tryz.prog 24 #[] w fun e w'=>∃b,e=.returned (.slice (some ⟨b,0,none⟩) 2 2)/\Hp [] w w' [.blk b (itsC docL [(none,0,0),(none,0,0)]) 123]:=by
 apply doc.ok;unfold doc.vc;intro b c a;exact⟨b,rfl,(Hp.start w).new (cs:=itsC docL [(none,0,0),(none,0,0)]) EQ4 a⟩
theorem doc_arg{B:List Nat}{w0 w:World}{L:List Asn}{b:Nat}{f:List Nat}(H:Hp B w0 w L)(p:Asn.blk b (itsC docL [(none,0,0),(none,0,0)]) 123∈L)(l:∀W,Chg f w W->(Asn.blk b (itsC docL [(none,0,0),(none,0,0)]) 123).ok W):Df f w (some ⟨b,0,none⟩) 2 docL [(none,0,0),(none,0,0)]:=by
 refine⟨fun W m=>⟨rfl,rfl,fun j v d=>?_,fun k x s g i=>?_⟩,by simp[maxLen],fun s i=>?_,fun x g=>?_⟩
 ·have c:Blk W b (itsC docL [(none,0,0),(none,0,0)]) 123:=l W m
  exact⟨_,rfl,by rw[add_lit];exact c.cell (by rw[Nat.zero_add];exact d)⟩
 ·have e:s=(none,0,0):=by
   have:=mem_of_getElem? i;simpa using this
  have n:x.x.attrs=[]:=by
   have:=mem_of_getElem? g;rcases mem_cons.1 this with rfl|h
   ·rfl
   ·rw[mem_singleton.1 h];rfl
  rw[e,n];exact⟨rfl,fun j v d=>by cases d⟩
 ·have e:s=(none,0,0):=by simpa using i
  rw[e];exact Nat.zero_le _
 ·have:x=docA\/x=docX:=by simpa [docL]using g
  rcases this with rfl|rfl<;>exact⟨by decide,by decide,fun a o=>by cases o⟩
theorem Xj:Tryz.prog.underlying 23=some (.pointer 86):=by kernel_rfl
theorem eQ:Tryz.prog.underlying 49=some (.pointer 119):=by kernel_rfl
end
noncomputable section
open Go.Nod
end
noncomputable section
open Go.Nod
end
noncomputable section
open Go.Nod
def docT:Tr:=⟨Ar 1 0 docL,3⟩
def docW:List ByteArray:=[⟨#[97]⟩]
def docS:SM:=[(1,(922337203685477580,3689348814741910323)),(2,(1844674407370955161,2767011611056432742))]
def Gw:Fol.Rec:=⟨1,0,1,1,922337203685477580,3689348814741910323,⟨#[]⟩,[]⟩
def Gx:Fol.Rec:=⟨2,1,2,0,1844674407370955161,2767011611056432742,⟨#[120]⟩,[]⟩
theorem doc_names:GL (docT.L.map rowI)=docW:=by
 have e:(docT.L.map rowI).flatMap Fe=[⟨#[97]⟩]:=by
  simp[docT,docL,docA,docX,Ar,rowI,Fe]
 rw[GL,e];simp[uniq,addN,Eh,docW]
theorem Wu:tab0.words docT=(docW,0):=by
 rw[Tab.words,doc_names,NR];show Md [⟨#[97]⟩] []=_
 have e:addR [] ⟨#[97]⟩=(addW [] ⟨#[97]⟩,(posW [] none0:Int)+1,0):=by
  rw[addR,if_neg (not_not_intro SX),if_neg (by rw[show cntW []=0 from rfl];omega)]
 rw[Md,if_neg (by simp[hasW]),e,if_neg (by simp)];rfl
theorem Va:tab0.spans docT docO=docS:=by
 rw[Tab.spans,Tab.moved,if_neg (by simp[docO]),IP]
 show(match Dz [(1,false),(2,false),(2,true),(1,true)] []with
  |some s=>s
  |none=>_)=_
 have e:betP 0 4611686018427387904 4=some [922337203685477580,1844674407370955161,2767011611056432742,3689348814741910323]:=by
  rw[betP,if_pos (by unfold inS;omega)];rfl
 have a:Dz [(1,false),(2,false),(2,true),(1,true)] []=some docS:=by
  rw[Dz];show Ej _ _ 5 0 0 0 []=_;rw[Ej,if_pos (by decide),Ej,if_pos (by decide),Ej,if_pos (by decide),Ej,if_pos (by decide),Ej,if_neg (by decide)]
  show(match betP 0 4611686018427387904 4 with
   |none=>none
   |some b=>_)=_
  rw[e];rfl
 rw[a]
def docM:List ByteArray:=[Et 3,Oa 0 ⟨#[97]⟩,FX (Fol.Bi Gw 0),FX (Fol.Bi Gx 0)]
theorem TK:Fol.EE Gw:=of_decide_eq_true (by kernel_rfl)
theorem UE:Fol.EE Gx:=of_decide_eq_true (by kernel_rfl)
theorem Rl:Fol.pieces Gw=[Fol.Bi Gw 0]:=by kernel_rfl
theorem Uk:Fol.pieces Gx=[Fol.Bi Gx 0]:=by kernel_rfl
theorem doc_recs:He docT docS docW=docM:=by
 have a:recP docS docW 1 (BG docT.L 0) docA.x=Gw:=by
  simp[recP,Gw,docS,docW,docA,docT,docL,Ar,BG,Dx,sget,numW,hasW,posW,none0]
 have b:recP docS docW 2 (BG docT.L 1) docX.x=Gx:=by
  simp[recP,Gx,docS,docW,docX,docA,docT,docL,Ar,BG,Dx,sget,numW,hasW,posW,none0]
 have c:OO docT docS docW 0=[FX (Fol.Bi Gw 0)]:=by
  show(Fol.out (recP docS docW 1 (BG docT.L 0) docA.x)).map FX=_;rw[a,Fol.out,if_pos TK,Rl];rfl
 have d:OO docT docS docW 1=[FX (Fol.Bi Gx 0)]:=by
  show(Fol.out (recP docS docW 2 (BG docT.L 1) docX.x)).map FX=_;rw[b,Fol.out,if_pos UE,Uk];rfl
 rw[He];show Et 3::(Eg 0 docW++ER docT docS docW 2)=_;rw[show(2:Nat)=1+1 from rfl,Ij,show(1:Nat)=0+1 from rfl,Ij,c,d];rfl
def Uh:RM:=layR [] docM
def docK:List ByteArray:=[⟨#[104]⟩,⟨#[110,0,0,0,1,0]⟩,⟨#[110,0,0,0,2,0]⟩,⟨#[119,0,1]⟩]
theorem doc_keys:Uh.map (·.1)=[⟨#[104]⟩,⟨#[119,0,1]⟩,⟨#[110,0,0,0,1,0]⟩,⟨#[110,0,0,0,2,0]⟩]:=by kernel_rfl
theorem doc_sort:Eh (Uh.map (·.1))=docK:=by
 refine List.Perm.eq_of_pairwise (le:=fun x y=>x.data.toList<y.data.toList) (fun a b _ _ c d=>absurd d (List.lt_asymm c)) (IL (UW docM [] .nil)) (by unfold docK;decide) ((Dy _).trans ?_);rw[doc_keys];exact .cons _ (List.perm_append_comm (l₁:=[_]) (l₂:=[_,_]))
def JP:WSt:=(layK Uh docK ⟨[],[],[]⟩).1
def dM:Tab:=⟨docT,docS,docW,JP.P,JP.Q⟩
theorem doc_wr:tab0.wr docT docO=(JP,0):=by
 rw[Tab.wr,Va,Wu,DL,doc_recs,Jt];show layK Uh (Eh (Uh.map (·.1))) (JR Uh (Eh []) ⟨[],[],[]⟩)=_;rw[doc_sort,show Eh []=[] by simp[Eh]]
 have h:(layK Uh docK ⟨[],[],[]⟩).2=0:=by kernel_rfl
 exact Prod.ext rfl h
theorem doc_do2:∃D,doP tab0 docO=(dM,1,D,0)/\D≠[]:=by
 have e:(tab0.T.edit docO)=(docT,1,0):=SA;refine⟨DR tab0.P JP.P JP.D,?_,?_⟩
 ·rw[doP,e,if_neg (by simp),Wu,if_neg (by simp),doc_wr,if_neg (by simp),Va];rfl
 ·intro h
  have a:=congrArg List.length h;rw[DR,O0,(List.mergeSort_perm _ _).length_eq]at a
  have b:((JP.D.map (·.1)).filterMap (EN [] JP.P)).length=4:=by kernel_rfl
  have a:((JP.D.map (·.1)).filterMap (EN [] JP.P)).length=0:=a;omega
def Y8:LdS:=⟨JP.P,JP.Q,3,docW,[(1,[Fol.Bi Gw 0]),(2,[Fol.Bi Gx 0])]⟩
theorem doc_take:Iw lds0 (SC JP.P)=some Y8:=by kernel_rfl
theorem doc_wok:WOk docW:=by
 refine⟨fun s a=>.inr ?_,fun j k s b c _=>?_,by simp[docW,none0],by simp[docW]⟩
 ·rw[mem_singleton.1 a];exact SX
 ·have d:=(List.getElem?_eq_some_iff.1 b).1
  have e:=(List.getElem?_eq_some_iff.1 c).1;simp only[docW,length_cons,length_nil]at d e;omega
theorem aB{r:Fol.Rec}(h:Fol.EE r)(e:Fol.pieces r=[Fol.Bi r 0]):Fol.decR (sortL [Fol.Bi r 0]) r:=⟨h,by rw[e,sortL,List.mergeSort_singleton]⟩
theorem doc_lev:GY [Gt Gw,Gt Gx]=some [0,1]:=by
 rw[GY,levP,if_neg,levP,if_neg,levP]
 ·rfl
 ·simp[badS,inS,Gt,Gw,Gx,popA]
 ·simp[badS,inS,Gt,Gw,Gx,popA]
theorem doc_tree:bZ docW docT [Gw,Gx]:=by
 refine⟨rfl,?_,?_,?_,?_,doc_lev⟩
 ·intro j r q a b
  match j,a,b with
  |0,a,b=>cases a;cases b;rfl
  |1,a,b=>cases a;cases b;rfl
 ·intro j r q a b
  match j,a,b with
  |0,a,b=>cases a;cases b;rfl
  |1,a,b=>cases a;cases b;rfl
 ·intro j r q a b
  match j,a,b with
  |0,a,b=>cases a;cases b;rfl
  |1,a,b=>cases a;cases b;rfl
 ·intro q c
  rcases mem_cons.1 c with rfl|c
  ·exact⟨fun _=>⟨by decide,by decide⟩,fun p d=>(by cases d),.nil,by decide⟩
  ·rw[mem_singleton.1 c]
   exact⟨fun h=>absurd h (by decide),fun p d=>(by cases d),.nil,by decide⟩
theorem doc_load:∃F,fK (SC JP.P) Y8 [Gw,Gx] F docT:=by
 obtain⟨F,c⟩:=doc_good;rw[SA]at c;refine⟨F,doc_take,doc_wok,⟨[1,2],[Gw,Gx],.refl _,by decide,rfl,fun j i r a b=>?_,.refl _⟩,by simp[Gw,Gx],c,doc_tree,rfl⟩
 match j,a,b with
 |0,a,b=>cases a;cases b;exact aB TK Rl
 |1,a,b=>cases a;cases b;exact aB UE Uk
theorem QS(w:World):Calls Tryz.prog 12 #[] w fun e w'=>e=.returned (.bool true)/\Hp [] w w' []:=by
 apply alive.ok;unfold alive.vc;refine AC (PT w) ?_;rintro _ K ⟨b,f,rfl,y⟩;refine⟨_,rfl,_,Um Xj,BA ?_⟩;refine AC (doc_spec K) ?_;rintro _ L ⟨z,rfl,A⟩;have B:=y.ext1 A;clear y A;refine⟨_,_,_,rfl,?_⟩;have g:=B.Ae;have M:Df f L (some ⟨z,0,none⟩) 2 docL [(none,0,0),(none,0,0)]:=doc_arg g m1 (g.keep (.head _));have p:=g.ok (tabA f b tab0) (.head _);refine AC (YM p docO (some ⟨z,0,none⟩) 2 2 _ M (by omega) (by decide)) ?_;rintro _ w3 ⟨N,ca,cc,rfl,C⟩;have o:=g.use1 C;clear g C B;obtain⟨D,G,q⟩:=doc_do2;rw[G]at o;rw[G];refine⟨_,_,_,_,_,rfl,AC (nRows_spec (o.ok (tabA N b dM) (.head _))) ?_⟩;rintro _ O ⟨R,U,rfl,H⟩;have r:=o.ext1 H;clear o H;obtain⟨F,X⟩:=doc_load;refine⟨_,_,_,rfl,AC (nLoad_spec X R _ U O (fun W Z=>?_) rfl (by decide)) ?_⟩
 ·exact(r.ownA (.head _)).cells.chg Z (by simp)
 rintro _ w5 ⟨uf,s,rfl,J⟩;have a:=r.ext1 J;clear r J;refine⟨_,_,rfl,?_⟩;refine AB (fun _=>AB (fun _=>AB (fun _=>AB (fun _=>⟨_,SN Xj,CU ?_⟩) (fun h=>(h rfl).elim)) (fun h=>(h rfl).elim)) (fun h=>?_)) (fun h=>(h rfl).elim);rotate_left
 ·have:=List.length_pos_iff.2 q
  exact(h (show(0:Int)<((D.length:Nat):Int) by omega)).elim
 obtain⟨Y,i⟩:∃Y:Tab,Y=⟨docT,spR [Gw,Gx],Y8.V,Y8.P,Y8.Q⟩:=⟨_,rfl⟩
 have j:Y.T=⟨Ar 1 0 docL,3⟩:=by rw[i];rfl
 rw[<- i]at a;refine AC (Js (a.ok (tabA uf s Y) (.head _))) ?_;rintro _ w6 ⟨g1,g2,gb,rfl,k⟩;have d:=a.use1 k;clear a k;refine⟨_,rfl,_,SN eQ,CU (AC (Js (d.ok (tabA g1 s Y) (.head _))) ?_)⟩;rintro _ w7 ⟨g3,g4,t,rfl,l⟩;have c:=d.use1 l;clear d l;refine⟨_,rfl,AC (PM (c.ok (AU g4 t Y.T) m1)) ?_⟩;rintro _ w8 ⟨rfl,u⟩;obtain rfl:=u.symm;refine⟨_,rfl,AB (fun _=>AC (Js (c.ok (tabA g3 s Y) (.head _))) ?_) (fun h=>(h (by rw[j];rfl)).elim)⟩;rintro _ w9 ⟨g5,g6,x,rfl,m⟩;have n:=c.use1 m;clear c m;refine⟨_,rfl,AC (UX (n.ok (AU g6 x Y.T) m1)) ?_⟩;rintro _ aa ⟨rfl,u⟩;obtain rfl:=u.symm;refine⟨_,rfl,?_,n.done⟩;rw[j];rfl
end
open Go.Nod
theorem rChar_spec(c:Int)(w:World):Calls Tryz.prog 316 #[.int .i32 c] w fun e w'=>e=.returned (.bool (dec (Bj c)))/\w'=w:=by
 apply ryChar.ok;unfold ryChar.vc;have t:Bj c->Ending.returned (.bool true)=.returned (.bool (dec (Bj c)))/\w=w:=fun h=>⟨by rw[<- CZ h],rfl⟩;have f:¬Bj c->Ending.returned (.bool false)=.returned (.bool (dec (Bj c)))/\w=w:=fun h=>⟨by rw[<- Bf h],rfl⟩;have d:∀{p:Prop} [Decidable p],(p↔Bj c)->Ending.returned (.bool (decide p))=.returned (.bool (dec (Bj c)))/\w=w:=fun h=>⟨by rw[KC h],rfl⟩;unfold Bj at*
 repeat' refine AB (fun _=>?_) (fun _=>?_)
 all_goals first|exact t (by omega)|exact f (by omega)|exact d (by omega)
theorem QG(c:Int)(w:World):Calls Tryz.prog 262 #[.int .i32 c] w fun e w'=>e=.returned (.bool (dec (Dc c)))/\w'=w:=by
 apply ryStart.ok;unfold ryStart.vc;have t:Dc c->Ending.returned (.bool true)=.returned (.bool (dec (Dc c)))/\w=w:=fun h=>⟨by rw[<- CZ h],rfl⟩;have f:¬Dc c->Ending.returned (.bool false)=.returned (.bool (dec (Dc c)))/\w=w:=fun h=>⟨by rw[<- Bf h],rfl⟩;have d:∀{p:Prop} [Decidable p],(p↔Dc c)->Ending.returned (.bool (decide p))=.returned (.bool (dec (Dc c)))/\w=w:=fun h=>⟨by rw[KC h],rfl⟩;unfold Dc at*;refine Am.mk (fun s b=>(s=true↔(65<=c/\c<=90)\/c=95\/(97<=c/\c<=122)\/(192<=c/\c<=214)\/(216<=c/\c<=246))/\b=w) ?_ ?_;rotate_left
 ·intro J a
  repeat' refine AB (fun _=>?_) (fun _=>?_)
  all_goals first|exact a _ _ ⟨⟨fun _=>by omega,fun _=>rfl⟩,rfl⟩|exact a _ _ ⟨⟨fun h=>(by cases h),fun h=>by omega⟩,rfl⟩|exact a _ _ ⟨decide_eq_true_iff.trans (by omega),rfl⟩
 rintro s b ⟨g,rfl⟩;refine F6 (fun h=>t (by have:=g.1 h;omega)) (fun h=>?_);rw[h]at g;refine Am.mk (fun s i=>(s=true↔(248<=c/\c<=767)\/(880<=c/\c<=893)\/(895<=c/\c<=8191)\/c=8204\/c=8205)/\i=b) ?_ ?_;rotate_left
 ·intro J a
  repeat' refine AB (fun _=>?_) (fun _=>?_)
  all_goals first|exact a _ _ ⟨⟨fun _=>by omega,fun _=>rfl⟩,rfl⟩|exact a _ _ ⟨⟨fun h=>(by cases h),fun h=>by omega⟩,rfl⟩|exact a _ _ ⟨decide_eq_true_iff.trans (by omega),rfl⟩
 rintro s i ⟨j,rfl⟩;refine F6 (fun h=>t (by have:=j.1 h;omega)) (fun h=>?_);rw[h]at j;refine Am.mk (fun s b=>(s=true↔(8304<=c/\c<=8591)\/(11264<=c/\c<=12271)\/(12289<=c/\c<=55295))/\b=i) ?_ ?_;rotate_left
 ·intro J a
  repeat' refine AB (fun _=>?_) (fun _=>?_)
  all_goals first|exact a _ _ ⟨⟨fun _=>by omega,fun _=>rfl⟩,rfl⟩|exact a _ _ ⟨⟨fun h=>(by cases h),fun h=>by omega⟩,rfl⟩|exact a _ _ ⟨decide_eq_true_iff.trans (by omega),rfl⟩
 rintro s b ⟨k,rfl⟩;refine F6 (fun h=>t (by have:=k.1 h;omega)) (fun h=>?_);rw[h]at k;simp only[Bool.false_eq_true,false_iff]at g j k
 repeat' refine AB (fun _=>?_) (fun _=>?_)
 all_goals first|exact t (by omega)|exact f (by omega)|exact d (by omega)
theorem rPart_spec(c:Int)(w:World):Calls Tryz.prog 263 #[.int .i32 c] w fun e w'=>e=.returned (.bool (dec (GZ c)))/\w'=w:=by
 apply ryPart.ok;unfold ryPart.vc;have t:GZ c->Ending.returned (.bool true)=.returned (.bool (dec (GZ c)))/\w=w:=fun h=>⟨by rw[<- CZ h],rfl⟩;have d:∀{p:Prop} [Decidable p],(p↔GZ c)->Ending.returned (.bool (decide p))=.returned (.bool (dec (GZ c)))/\w=w:=fun h=>⟨by rw[KC h],rfl⟩;refine AC (QG c w) ?_;rintro _ _ ⟨rfl,rfl⟩;unfold GZ at*;refine⟨_,rfl,br_d (fun h=>t (by simp[h])) (fun h=>?_)⟩;simp only[h,or_false]at t d⊢
 repeat' refine AB (fun _=>?_) (fun _=>?_)
 all_goals first|exact t (by omega)|exact d (by omega)
theorem Hq(c n:Int)(hc:0<=c/\c<=1114111)(hn:0<n)(w:World):Calls Tryz.prog 317 #[.int .i32 c,.int .i32 n] w fun e w'=>e=.returned (.int .u8 ((u8 (128+c/n%64)).toNat:Int))/\w'=w:=by
 apply rySix.ok;unfold rySix.vc;have a:Int.tdiv c n=c/n:=Int.tdiv_eq_ediv_of_nonneg hc.1;have b:0<=c/n:=Int.ediv_nonneg hc.1 (by omega);have f:c/n<=c:=Int.ediv_le_self _ hc.1;have d:Int.tmod (c/n) 64=c/n%64:=Int.tmod_eq_emod_of_nonneg b;rw[a,d];exact⟨by omega,Gu.2 (by omega),by omega,Gu.2 (by omega),by rw[Gn (by omega) (by omega),FM,Int.emod_eq_of_lt (by omega) (by omega)],rfl⟩
theorem rPut_spec(c:Int)(w:World):Calls Tryz.prog 313 #[.int .i32 c] w fun e w'=>((Bj c/\e=.returned (.tuple #[sv (encP c),.bool true]))\/(¬Bj c/\e=.returned (.tuple #[sv [],.bool false])))/\Hp [] w w' []:=by
 apply ryPut.ok;unfold ryPut.vc;refine AC (rChar_spec c w) ?_;rintro _ w' ⟨rfl,a⟩;obtain rfl:=a.symm;refine⟨_,rfl,F5 (fun h=>⟨.inr ⟨h,rfl⟩,Hp.start _⟩) (fun h=>?_)⟩
 have j:0<=c/\c<=1114111:=by unfold Bj at h;omega
 have f:∀{g:World}(b:Nat)(l:List UInt8),encP c=l->New w (.cells (Aa l).toArray 5) b g->
   ∃s,B2S Tryz.prog 159 9 g (.slice (some ⟨b,0,none⟩) l.length l.length) (.string s)/\((Bj c/\Ending.returned (.tuple #[.string s,.bool true])=.returned (.tuple #[sv (encP c),.bool true]))\/(¬Bj c/\Ending.returned (.tuple #[.string s,.bool true])=.returned (.tuple #[sv [],.bool false])))/\Hp [] w g []:=by
  intro g b l e d;have H:=(Hp.start w).new (cs:=Aa l) EQ4 d;refine⟨⟨l.toArray⟩,b2s VQ Yx X5 ?_ (by rw[GX]),.inl ⟨h,by rw[e];rfl⟩,H.drop⟩;rw[CQ];exact(H.blk (.head _)).cells
 have wr:∀z:Int,0<=z->z<256->IntKind.u8.wrap z=((u8 z).toNat:Int):=fun z i k=>by rw[FM,Gn i k,Int.emod_eq_of_lt i k]
 have o:∀n:Int,Int.tdiv c n=c/n:=fun n=>Int.tdiv_eq_ediv_of_nonneg j.1;rw[o,o,o];refine AB (fun i=>?_) (fun i=>AB (fun k=>⟨by omega,Gu.2 (by omega),Gu.2 (by omega),?_⟩) (fun k=>AB (fun p=>⟨by omega,Gu.2 (by omega),Gu.2 (by omega),?_⟩) (fun p=>⟨by omega,Gu.2 (by omega),Gu.2 (by omega),?_⟩)))
 ·intro b g d
  rw[wr _ (by omega) (by omega)]at d;exact f b [u8 c] (by rw[encP,if_pos i]) d
 ·refine AC (Hq c 1 j (by omega) _) ?_
  rintro _ m ⟨rfl,a⟩;obtain rfl:=a.symm;refine⟨_,rfl,fun b g d=>?_⟩;rw[wr _ (by omega) (by omega)]at d;exact f b [u8 (192+c/64),u8 (128+c/1%64)] (by rw[encP,if_neg i,if_pos k,Int.ediv_one]) d
 ·refine AC (Hq c 64 j (by omega) _) ?_
  rintro _ m ⟨rfl,a⟩;obtain rfl:=a.symm;refine⟨_,rfl,AC (Hq c 1 j (by omega) _) ?_⟩;rintro _ m ⟨rfl,a⟩;obtain rfl:=a.symm;refine⟨_,rfl,fun b g d=>?_⟩;rw[wr _ (by omega) (by omega)]at d;exact f b [u8 (224+c/4096),u8 (128+c/64%64),u8 (128+c/1%64)] (by rw[encP,if_neg i,if_neg k,if_pos p,Int.ediv_one]) d
 ·refine AC (Hq c 4096 j (by omega) _) ?_
  rintro _ m ⟨rfl,a⟩;obtain rfl:=a.symm;refine⟨_,rfl,AC (Hq c 64 j (by omega) _) ?_⟩;rintro _ m ⟨rfl,a⟩;obtain rfl:=a.symm;refine⟨_,rfl,AC (Hq c 1 j (by omega) _) ?_⟩;rintro _ m ⟨rfl,a⟩;obtain rfl:=a.symm;refine⟨_,rfl,fun b g d=>?_⟩;rw[wr _ (by omega) (by omega)]at d;exact f b [u8 (240+c/262144),u8 (128+c/4096%64),u8 (128+c/64%64),u8 (128+c/1%64)] (by rw[encP,if_neg i,if_neg k,if_neg p,Int.ediv_one]) d
def stepD(x a b k:Int)(p:Int×Int):Int×Int:=if a<=x/\x<b then(k,p.2-a)else p
theorem Zb{x a b k:Int}{p:Int×Int}{w:World}{D:Prop}{C:Int×Int->World->Prop}(g:D)(i:a<=x->x<b->inR .i32 (p.2-a))(hc:C (stepD x a b k p) w):
  Am C fun J=>Am (fun(e:Bool) w=>br e (inR .i32 (p.2-a)/\J (k,p.2-a) w) (J (p.1,p.2) w)) fun J=>D/\br (decide (a<=x)) (D/\J (decide (x<b)) w) (J false w):=by
 refine Am.mk (fun q v=>q=stepD x a b k p/\v=w) (fun q v h=>by rw[h.1,h.2];exact hc) fun J d=>?_;refine Am.mk (fun e v=>(e=true↔a<=x/\x<b)/\v=w) ?_ fun J d=>⟨g,AB (fun h=>⟨g,d _ _ ⟨decide_eq_true_iff.trans ⟨fun c=>⟨h,c⟩,fun c=>c.2⟩,rfl⟩⟩) (fun h=>d _ _ ⟨⟨fun c=>(by cases c),fun c=>(h c.1).elim⟩,rfl⟩)⟩;rintro e v ⟨f,rfl⟩;refine F6 (fun h=>⟨i (f.1 h).1 (f.1 h).2,d _ _ ⟨by rw[stepD,if_pos (f.1 h)],rfl⟩⟩) (fun h=>d _ _ ⟨by rw[stepD,if_neg fun c=>by rw[f.2 c]at h;cases h],rfl⟩)
def docN(x:Int):Int×Int:=stepD x 240 248 4 (stepD x 224 240 3 (stepD x 192 224 2 (1,x)))
theorem docN_facts(x:Nat)(f:x<256):∃(n:Nat)(a:Int),docN x=((n:Int),a)/\1<=n/\n<=4/\0<=a/\(n≠1->a<32)/\((Ce x).1≠0->Ce x=(n,a)):=by
 unfold docN stepD Ce;by_cases b:x<192
 ·refine⟨1,x,by rw[if_neg (by omega),if_neg (by omega),if_neg (by omega)];rfl,by omega,by omega,by omega,by omega,?_⟩
  split
  ·exact fun _=>rfl
  ·exact fun h=>(h rfl).elim
 by_cases c:x<224
 ·refine⟨2,(x:Int)-192,by rw[if_neg (by omega),if_neg (by omega),if_pos (by omega)];rfl,by omega,by omega,by omega,by omega,fun _=>?_⟩
  rw[if_neg (by omega),if_neg b,if_pos c,Prod.mk.injEq];omega
 by_cases d:x<240
 ·refine⟨3,(x:Int)-224,by rw[if_neg (by omega),if_pos (by omega),if_neg (by omega)];rfl,by omega,by omega,by omega,by omega,fun _=>?_⟩
  rw[if_neg (by omega),if_neg b,if_neg c,if_pos d,Prod.mk.injEq];omega
 by_cases e:x<248
 ·refine⟨4,(x:Int)-240,by rw[if_pos (by omega),if_neg (by omega),if_neg (by omega)];rfl,by omega,by omega,by omega,by omega,fun _=>?_⟩
  rw[if_neg (by omega),if_neg b,if_neg c,if_neg d,if_pos e,Prod.mk.injEq];omega
 ·refine⟨1,x,by rw[if_neg (by omega),if_neg (by omega),if_neg (by omega)];rfl,by omega,by omega,by omega,by omega,?_⟩
  rw[if_neg (by omega),if_neg b,if_neg c,if_neg d,if_neg e];exact fun h=>(h rfl).elim
def LY(c:Int)(l:List UInt8):Int:=l.foldl (fun c x=>c*64+(x.toNat:Int)-128) c
theorem SB(c:Int)(l:List UInt8)(x:UInt8):LY c (l++[x])=LY c l*64+(x.toNat:Int)-128:=by simp[LY]
theorem Yq:∀(l:List UInt8)(c:Int),(∀y∈l,128<=y.toNat/\y.toNat<192)->LY c l=Ep c l
 | [],_,_=>rfl
 |x::l,c,h=>by
  have:=h x (.head _);rw[LY,List.foldl_cons,Ep,List.foldl_cons,show c*64+(x.toNat:Int)-128=c*64+(x.toNat:Int)%64 by omega];exact Yq l _ fun y a=>h y (.tail _ a)
theorem rNext_spec(s:ByteArray)(hs:s.size<=maxLen)(w:World):Calls Tryz.prog 299 #[.string s] w fun e w'=>au s.data.toList e/\Hp [] w w' []:=by
 apply ryNext.ok;unfold ryNext.vc;obtain⟨l,i⟩:∃l,l=s.data.toList:=⟨_,rfl⟩
 have J:l.length=s.size:=by rw[i];exact BF s
 simp only[maxLen]at hs;rw[<- i];have f:∀(z:Int)(w':World),(∀c,¬Dec l c)->Hp [] w w' []->au l (.returned (.tuple #[.int .i32 z,.int .i64 0]))/\Hp [] w w' []:=fun z w' h H=>⟨.inr ⟨h,z,rfl⟩,H⟩;refine AB (fun h=>?_) (fun h=>?_)
 ·refine f 0 w (fun c a=>?_) (Hp.start w)
  rw[i,Em.1 h]at a;exact XV a
 have K:l≠[]:=fun e=>h (Em.2 (by rw[<- i];exact e));obtain⟨x,t,L⟩:=List.exists_cons_of_ne_nil K
 have M:sb s 0=(x.toNat:Int):=by
  have:s.data.toList[(0:Int).toNat]? =some x:=by rw[<- i,L];rfl
  rw[sb,this];rfl
 have Z:0<s.size:=by rw[<- J,L];simp
 have j:l.headD 0=x:=by rw[L];rfl
 have aa:=x.toNat_lt;have hw:IntKind.i32.wrap (x.toNat:Int)=x.toNat:=FH (by omega);simp only[M,hw];have F:(0:Int)<=0/\(0:Int)<(s.size:Int):=⟨by omega,by omega⟩;refine⟨F,?_⟩;refine Zb (p:=(1,(x.toNat:Int))) F (fun _ _=>Gu.2 (by dsimp only;omega)) (Zb F (fun _ _=>Gu.2 ?_) (Zb F (fun _ _=>Gu.2 ?_) ?_))
 ·unfold stepD;split<;>(dsimp only;omega)
 ·unfold stepD;repeat' split
  all_goals (dsimp only;omega)
 obtain⟨n,d,hn,n1,n4,c1,c2,hh⟩:=docN_facts x.toNat (by omega);rw[docN]at hn;rw[hn]
 have o:∀c,Dec l c->n=(encP c).length/\(encP c).length<=l.length/\KD l=c/\∀y∈(l.take n).drop 1,128<=y.toNat/\y.toNat<192:=fun c a=>by
  have u:=a.next;have A:=Jl a.1;rw[j]at u;rw[hh (by omega)]at u;exact u
 have N:∀c,Dec l c->KD l=Ep d ((l.take n).drop 1):=fun c a=>by
  have u:=a.next.1;have A:=Jl a.1;rw[j]at u;rw[KD,j,hh (by omega)]
 refine AB (fun A=>?_) (fun A=>?_)
 ·exact f _ _ (fun c a=>by have:=o c a;dsimp only at A;omega) (Hp.start w)
 dsimp only at A;obtain⟨T,G⟩:∃T,T=(l.take n).drop 1:=⟨_,rfl⟩
 have ab:T.length=n-1:=by rw[G,length_drop,length_take];omega
 refine AP.mk (fun m st w'=>∃k:Nat,m=n-1-k/\k<=n-1/\st=(LY d (T.take k),(k:Int)+1)/\(n≠1->LY d (T.take k)+3<=40*64^k/\3-40*64^k<=LY d (T.take k))/\Hp [] w w' []) (n-1)
  ⟨0,by omega,by omega,rfl,fun h=>by rw[Int.pow_zero];have:=c2 h;show d+3<=40*1/\3-40*1<=d;omega,Hp.start w⟩ ?_
 rintro m st w3 next ⟨k,rfl,hk,rfl,hf,H⟩ q
 dsimp only;refine AB (fun h3=>?_) (fun h3=>?_)
 ·have B:k<T.length:=by omega
  have ac:=T[k].toNat_lt
  have O:sb s ((k:Int)+1)=(T[k].toNat:Int):=by
   have:s.data.toList[((k:Int)+1).toNat]? =some T[k]:=by
    rw[<- i,show((k:Int)+1).toNat=1+k by omega,<- List.getElem?_drop,<- List.getElem?_eq_getElem B,G,List.drop_take,List.getElem?_take_of_lt (by omega)]
   rw[sb,this];rfl
  have C:T.take (k+1)=T.take k++[T[k]]:=take_succ_eq_append_getElem B;obtain⟨f1,f2⟩:=hf (by omega)
  have ad:0<(64:Int)^k/\(64:Int)^k<=4096:=by
   have h:k=0\/k=1\/k=2:=by omega
   rcases h with e|e|e<;>rw[e]<;>decide
  rw[O,FH (by omega)];refine⟨Gu.2 (by omega),⟨by omega,by omega⟩,Gu.2 (by omega),Gu.2 (by omega),iR,?_⟩;refine q (n-1-(k+1)) _ _ (by omega) ⟨k+1,rfl,by omega,by rw[C,SB];rfl,fun _=>?_,H⟩;rw[C,SB,Int.pow_succ];omega
 ·have R:k=T.length:=by omega
  rw[R,take_length];refine AC (rPut_spec _ w3) ?_
  have D:(s.extract 0 n).data.toList=l.take n:=by rw[Jh,drop_zero,i]
  have g:∀c,Dec l c->LY d T=c:=fun c a=>by
   obtain⟨_,_,g3,g4⟩:=o c a;rw[Yq T d (by rw[G];exact g4),G,<- N c a,g3]
  rintro e w4 ⟨⟨U,rfl⟩|⟨U,rfl⟩,H'⟩
  ·replace H:=H.ext0 H'
   refine⟨_,_,rfl,BA (x:=_) ⟨⟨by omega,by omega⟩,?_⟩⟩;rw[Int.toNat_natCast];refine AV (fun X=>?_) (fun X=>?_)
   ·refine f _ _ (fun c a=>X (eqB ?_)) H
    obtain⟨g1,g2,g3,_⟩:=o c a;rw[D,g c a];obtain⟨t2,Y⟩:=a.2;rw[g1,<- Y,List.take_left]
   ·have r:=congrArg (fun b:ByteArray=>b.data.toList) X
    dsimp only at r;rw[D]at r
    have r:encP (LY d T)=l.take n:=by simpa using r
    have h7:(encP (LY d T)).length=n:=by rw[r,length_take];omega
    refine⟨.inl ⟨_,⟨U,by rw[r];exact List.take_prefix _ _⟩,?_⟩,H⟩;rw[h7]
  ·exact⟨_,_,rfl,CU (f _ _ (fun c a=>U (by rw[g c a];exact a.1)) (H.ext0 H'))⟩
theorem reltR:Elt Tryz.prog 332 21 1 4:=CW (by kernel_rfl)
theorem rundR:Tryz.prog.underlying 332=some (.slice 21):=by kernel_rfl
def runC(l:List Int):List Value:=l.map fun c=>.int .i32 c
theorem TF:∀(l:List Int),(∀c∈l,Bj c)->l.length<=(l.flatMap encP).length
 | [],_=>Nat.zero_le _
 |c::r,h=>by
  have b:=TF r fun d a=>h d (.tail _ a);have e:=Jl (h c (.head _));rw[flatMap_cons,length_append,length_cons];omega
def AllR(w:World)(l:List UInt8)(e:Ending)(w':World):Prop:=
 (∃cs a c,Gl l cs/\e=.returned (.tuple #[.slice a cs.length c,.bool true])/\Hp [] w w' [.own 21 1 a cs.length c (runC cs)])\/((∀cs,¬Gl l cs)/\e=.returned (.tuple #[.slice none 0 0,.bool false])/\Hp [] w w' [])
theorem VL(s:ByteArray)(Y:s.size<=2000000)(w:World):Calls Tryz.prog 261 #[.string s] w fun e w'=>AllR w s.data.toList e w':=by
 apply ryAll.ok;unfold ryAll.vc;obtain⟨l,p⟩:∃l,l=s.data.toList:=⟨_,rfl⟩
 have F:l.length=s.size:=by rw[p];exact BF s
 rw[<- p];refine AP.mk (fun m st w'=>∃(f:List Int)(a:Option Addr)(c:Nat),m=st.1.size/\st.2=(a,f.length,c)/\(∀c∈f,Bj c)/\f.flatMap encP++st.1.data.toList=l/\Hp [] w w' [.own 21 1 a f.length c (runC f)]) s.size ⟨[],none,0,rfl,rfl,by simp,by rw[p];rfl,(Hp.start w).nilS 21 1⟩ ?_
 rintro m ⟨t,q⟩ G next ⟨f,a,J,rfl,K,n,g,H⟩ i
 dsimp only at*;obtain rfl:=K.symm;have Z:=TF f n;have L:=congrArg List.length g;rw[length_append,BF]at L;refine AV (fun h=>?_) (fun h=>?_)
 ·refine AC (rNext_spec t (by simp only[maxLen];omega) G) ?_
  rintro e w3 ⟨⟨c,o,rfl⟩|⟨x,z,rfl⟩,B⟩
  ·have M:=Jl o.1
   have y:=o.2.length_le;rw[BF]at y;refine⟨_,_,rfl,AB (fun h=>by omega) (fun _ b w4 N=>?_)⟩;have C:=((H.ext0 B).nw N).Ae;dsimp only;refine Hp.app reltR (by omega) C EQ4 (Blk.src (P:=Tryz.prog) rundR (C.blk m1) rfl rfl) (by simp only[maxLen];omega) (by omega) ?_;intro O R w5 T;refine⟨⟨by omega,by omega⟩,?_⟩;rw[Int.toNat_natCast]
   have D:(t.extract (encP c).length t.size).data.toList=t.data.toList.drop (encP c).length:=by
    rw[Jh,take_of_length_le (by rw[BF];exact Nat.le_refl _)]
   have A:(t.extract (encP c).length t.size).size=t.size-(encP c).length:=by rw[<- BF,D,length_drop,BF]
   refine i (t.size-(encP c).length) _ _ (by omega) ⟨f++[c],O,R,A.symm,by rw[length_append];rfl,fun d j=>?_,?_,?_⟩
   ·rcases mem_append.1 j with h|h
    ·exact n d h
    ·rw[mem_singleton.1 h];exact o.1
   ·show(f++[c]).flatMap encP++(t.extract (encP c).length t.size).data.toList=l
    rw[D,<- g,List.flatMap_append,append_assoc];congr 1;obtain⟨u,U⟩:=o.2;rw[<- U,List.drop_left];simp
   ·rw[length_append,runC,map_append]
    exact T.del1
  ·refine⟨_,_,rfl,AB (fun _=>.inr ⟨fun cs k=>?_,rfl,(H.ext0 B).drop⟩) (fun h=>(h rfl).elim)⟩
   rw[<- g]at k;obtain⟨r,rfl,X⟩:=MO f n k;obtain⟨d,r2,rfl,j,_⟩:=X.cons (fun e=>h (Em.2 e));exact x d j
 ·have h:=Em.1 h
  rw[h,append_nil]at g;exact .inl ⟨f,a,J,⟨n,g⟩,rfl,H⟩
theorem rCount_spec(s:ByteArray)(f:s.size<=2000000)(w:World):Calls Tryz.prog 264 #[.string s] w fun e w'=>(∃z,e=.returned (.int .i64 z)/\(z<0↔¬VT s))/\Hp [] w w' []:=by
 apply ryCount.ok;unfold ryCount.vc;refine AC (VL s f w) ?_;rintro e g (⟨b,a,c,d,rfl,H⟩|⟨d,rfl,H⟩)
 ·refine⟨_,_,_,_,rfl,BA (x:=_) ?_⟩
  exact⟨⟨_,rfl,⟨by omega,fun h=>(h ⟨b,d⟩).elim⟩⟩,H.drop⟩
 ·refine⟨_,_,_,_,rfl,CU ?_⟩
  exact⟨⟨_,rfl,⟨fun _ ⟨b,h⟩=>d b h,fun _=>by omega⟩⟩,H⟩
theorem bQ{w:World}{a:Option Addr}{l:List Int}(h:Cells w a (runC l)){k:Nat}(d:k<l.length):∃c,a=some c/\Ld Tryz.prog 21 w (c.add (k*1)) (.int .i32 l[k]):=by
 have e:(runC l)[k]? =some (.int .i32 l[k]):=by simp[runC,d]
 obtain⟨c,b,_⟩:=h k _ e;exact⟨c,b,by rw[Nat.mul_one];exact h.ld yI32 b e⟩
theorem TN(s:ByteArray)(F:s.size<=2000000)(w:World):Calls Tryz.prog 210 #[.string s] w fun e w'=>e=.returned (.bool (dec (Cb s)))/\Hp [] w w' []:=by
 apply ryName.ok;unfold ryName.vc;refine AC (VL s F w) ?_;rintro e G (⟨b,a,c,l,rfl,H⟩|⟨l,rfl,H⟩);rotate_left
 ·refine⟨_,_,_,_,rfl,CU ⟨?_,H⟩⟩
  rw[Bf (q:=Cb s) fun p=>p.2.2.elim fun b h=>l b h.1]
 refine⟨_,_,_,_,rfl,BA (x:=_) (AB (fun h=>⟨by rw[Bf fun p:Cb s=>by have:=p.1;omega],H.drop⟩) (fun h=>AB (fun p=>⟨by rw[Bf fun g:Cb s=>by have:=g.2.1;omega],H.drop⟩) (fun p=>?_)))⟩
 have z:b≠[]:=fun e=>by
  have g:=congrArg List.length l.2;rw[e,BF]at g;have g:0=s.size:=g;omega
 have r:=List.length_pos_iff.2 z;have J:=l.2▸TF b l.1;rw[BF]at J
 have A:Cb s↔(∀c∈b,GZ c)/\Dc b[0]:=by
  refine⟨fun⟨_,_,O,B,C,K⟩=>?_,fun⟨B,C⟩=>⟨by omega,by omega,b,l,B,fun d i=>?_⟩⟩
  ·obtain rfl:=l.one B
   exact⟨C,K _ (by rw[List.head?_eq_getElem?];exact List.getElem?_eq_getElem _)⟩
  ·rw[List.head?_eq_getElem?,List.getElem?_eq_getElem r]at i
   cases i;exact C
 obtain⟨L,n,j⟩:=bQ (H.ownA (.head _)).cells r;refine AA n ⟨⟨by omega,by omega⟩,_,by rw[Nat.zero_mul]at j;exact j,AC (QG _ _) ?_⟩;rintro _ M ⟨rfl,t⟩;obtain rfl:=t.symm;refine⟨_,rfl,F5 (fun g=>⟨by rw[Bf fun y=>g (A.1 y).2],H.drop⟩) (fun g=>?_)⟩;refine AP.mk (fun m st w'=>∃k:Nat,m=b.length-k/\k<=b.length/\st=(k:Int)/\(∀c∈b.take k,GZ c)/\w'=G) b.length ⟨0,rfl,by omega,rfl,by simp,rfl⟩ ?_
 rintro m st R next ⟨k,rfl,T,rfl,f,t⟩ o
 obtain rfl:=t.symm;refine AB (fun y=>?_) (fun y=>?_)
 ·have u:k<b.length:=by omega
  obtain⟨L,n,j⟩:=bQ (H.ownA (.head _)).cells u;refine AA n ⟨⟨by omega,y⟩,_,by rw[Int.toNat_natCast];exact j,AC (rPart_spec _ _) ?_⟩;rintro _ M ⟨rfl,t⟩;obtain rfl:=t.symm;refine⟨_,rfl,F5 (fun D=>⟨by rw[Bf fun N=>D ((A.1 N).1 _ (getElem_mem _))],H.drop⟩) (fun D=>⟨iR,o _ _ _ (by omega) ⟨k+1,rfl,by omega,rfl,fun d i=>?_,rfl⟩⟩)⟩;rw[take_succ_eq_append_getElem u]at i;rcases mem_append.1 i with i|i
  ·exact f d i
  ·rw[mem_singleton.1 i];exact D
 ·rw[take_of_length_le (by omega)]at f
  exact⟨by rw[CZ (A.2 ⟨f,g⟩)],H.drop⟩
theorem Qh(s:ByteArray)(d:s.size<=2000000)(w:World):Calls Tryz.prog 260 #[.string s] w fun e w'=>e=.returned (.int .i64 (BJ s))/\Hp [] w w' []:=by
 apply rpChars.ok;unfold rpChars.vc;refine AC (rCount_spec s d w) ?_;rintro e f ⟨⟨z,rfl,b⟩,H⟩;refine⟨_,rfl,AB (fun h=>⟨by rw[BJ,if_pos (b.1 h)],H⟩) (fun h=>?_)⟩;have c:¬¬VT s:=fun a=>h (b.2 a);exact AB (fun a=>⟨by rw[BJ,if_neg c,if_pos (by omega)],H⟩) (fun a=>⟨by rw[BJ,if_neg c,if_neg (by omega)],H⟩)
noncomputable section
def FitX(x:NX):Prop:=x.name.size<=2000000/\x.text.size<=2000000/\∀a∈x.attrs,a.1.size<=2000000/\a.2.size<=2000000
theorem AtR.ld{w:World}{a:Option Addr}{n:Nat}{l:List At}(h:AtR w a n l){k:Nat}{p:At}(g:l[k]? =some p):∃b,a=some b/\Ld Tryz.prog 9 w (b.add (k*2)) (.string p.1)/\Ld Tryz.prog 9 w ((b.add (k*2)).add 1) (.string p.2):=by
 have c:=J3 g;obtain⟨b,d⟩:=h.cells.some (fun e=>by rw[e]at c;simp at c)
 have at_:∀{o:Nat}{v:Value},o<2->([Value.string p.1,.string p.2])[o]? =some v->(atC l)[k*2+o]? =some v:=fun{o v} i f=>by
  rw[<- c,List.getElem?_take_of_lt i,List.getElem?_drop]at f;exact f
 exact⟨b,d,h.cells.ld yStr d (at_ (o:=0) (by omega) rfl),by rw[add_add];exact h.cells.ld yStr d (at_ (o:=1) (by omega) rfl)⟩
theorem rParts_spec(G:Int)(x:NX)(a:Option Addr)(n c:Nat)(w:World)(J:AtR w a n x.attrs)(hn:n<=maxLen)(T:FitX x):Calls Tryz.prog 202 #[.agg (itC ⟨G,x⟩ (a,n,c)).toArray] w fun e w'=>e=.returned (.int .i64 (Ap x))/\Hp [] w w' []:=by
 apply rpParts.ok;unfold rpParts.vc;simp only[maxLen]at hn;have K:=J.len;intro b w1 X;have H:=(Hp.start w).new (cs:=itC ⟨G,x⟩ (a,n,c)) EQ4 X;have sl:∀{v v':World},Hp [] w v [.blk b (itC ⟨G,x⟩ (a,n,c)) 123]->Eqw v v'->Ld Tryz.prog 69 v' ⟨b,4,none⟩ (.slice a n c):=fun H e=>H.ld e iSAt (.head _) rfl;have ne:x.attrs=[]↔¬(0:Int)<(n:Int):=⟨fun h=>by rw[K,h];decide,fun h=>List.eq_nil_of_length_eq_zero (by omega)⟩;refine⟨x.kind,H.lo yInt,AB (fun h=>?_) (fun h=>⟨x.kind,H.lo yInt,AV (fun B=>⟨by rw[Ap,if_neg h,if_neg fun f=>B f.1],H.drop⟩) (fun B=>?_)⟩)⟩
 ·refine⟨x.name,H.lo yStr,AV (fun B=>⟨by rw[Ap,if_pos h,if_neg fun f=>B f.1],H.drop⟩) (fun B=>⟨a,n,c,sl H EQ4,AB (fun o=>⟨by rw[Ap,if_pos h,if_neg fun f=>ne.1 f.2 o],H.drop⟩) (fun o=>⟨x.text,H.lo yStr,AC (Qh _ T.2.1 w1) ?_⟩)⟩)⟩
  rintro _ w3 ⟨rfl,y⟩;exact⟨_,rfl,by rw[Ap,if_pos h,if_pos ⟨B,ne.2 o⟩],H.drop.ext0 y⟩
 refine⟨x.text,H.lo yStr,AV (fun o=>⟨by rw[Ap,if_neg h,if_neg fun f=>o f.2],H.drop⟩) (fun o=>?_)⟩
 have hP:Ap x=if Bh x=0 then valsE x.attrs else Bh x:=by rw[Ap,if_neg h,if_pos ⟨B,o⟩]
 rw[hP];refine⟨x.name,H.lo yStr,AC (TN _ T.1 w1) ?_⟩;rintro _ w2 ⟨rfl,y⟩;replace H:=H.ext0 y;refine⟨_,rfl,F5 (fun f=>⟨by rw[Bh,if_pos f];rfl,H.drop⟩) (fun f=>?_)⟩;have C:¬¬Cb x.name:=fun h=>h f;have L:∀w',¬Mc x.attrs->Hp [] w w' []->Ending.returned (.int .i64 63)=.returned (.int .i64 (if Bh x=0 then valsE x.attrs else Bh x))/\Hp [] w w' []:=fun w' z H=>⟨by rw[Bh,if_neg C,if_pos z];rfl,H⟩;refine AP.mk (fun m s w'=>∃k:Nat,m=n-k/\k<=n/\s=(k:Int)/\(∀p∈x.attrs.take k,Cb p.1)/\Rs (x.attrs.take k)/\Hp [] w w' [.blk b (itC ⟨G,x⟩ (a,n,c)) 123]) n ⟨0,rfl,by omega,rfl,by simp,by simp[Rs],H⟩ ?_;clear H
 rintro m s w3 next ⟨k,rfl,hk,rfl,D,F,H⟩ d
 refine⟨a,n,c,sl H EQ4,AB (fun Y=>?_) (fun Y=>?_)⟩
 ·have t:k<x.attrs.length:=by omega
  obtain⟨p,l⟩:∃p,x.attrs[k]? =some p:=⟨_,List.getElem?_eq_getElem t⟩;have M:=mem_of_getElem? l;obtain⟨ad,g,N,_⟩:=(J.go H.drew.drop).ld l;refine⟨a,n,c,sl H EQ4,AA g ⟨⟨by omega,Y⟩,p.1,by rw[Int.toNat_natCast];exact N,AC (TN _ (T.2.2 p M).1 _) ?_⟩⟩;rintro _ w4 ⟨rfl,y⟩;replace H:=H.drew.ext0 y;refine⟨_,rfl,F5 (fun O=>L _ (fun z=>O (z.1 p M)) H.drop) (fun O=>?_)⟩
  have Z:x.attrs.take (k+1)=x.attrs.take k++[p]:=by rw[take_succ_eq_append_getElem t,(List.getElem?_eq_some_iff.1 l).2]
  have on:(∀q,(x.attrs.take k).getLast? =some q->ltB q.1 p.1)->inR .i64 ((k:Int)+1)/\next ((k:Int)+1) w4:=fun hl=>⟨iR,d (n-(k+1)) _ _ (by omega) ⟨k+1,rfl,by omega,rfl,fun q i=>by
   rw[Z]at i;rcases mem_append.1 i with i|i
   ·exact D q i
   ·rw[mem_singleton.1 i];exact O,OW l F hl,H⟩⟩
  refine AB (fun U=>?_) (fun U=>on fun q i=>?_)
  ·obtain⟨q,i⟩:∃q,x.attrs[k-1]? =some q:=⟨_,List.getElem?_eq_getElem (by omega)⟩
   have j:(x.attrs.take k).getLast? =some q:=by
    rw[List.getLast?_eq_getElem?,length_take,Nat.min_eq_left (by omega),List.getElem?_take_of_lt (by omega),i]
   obtain⟨ad,g,N,_⟩:=(J.go H.drop).ld l;obtain⟨ab,R,l2,_⟩:=(J.go H.drop).ld i
   have e1:((k:Int)-1).toNat=k-1:=by omega
   refine⟨a,n,c,sl H EQ4,AA g ⟨⟨by omega,Y⟩,p.1,by rw[Int.toNat_natCast];exact N,a,n,c,sl H EQ4,iR,AA R ⟨⟨by omega,by omega⟩,q.1,by rw[e1];exact l2,F6 (fun A=>L _ (fun z=>RD.1 A (Zo z.2 l j)) H.drop) (fun A=>on fun r hr=>?_)⟩⟩⟩;rw[j]at hr;cases hr
   exact Classical.byContradiction fun h8=>by rw[RD.2 h8]at A;cases A
  ·have h0:k=0:=by omega
   subst h0;simp at i
 ·have aa:x.attrs.take k=x.attrs:=take_of_length_le (by omega)
  rw[aa]at D F;have z:¬¬Mc x.attrs:=fun o=>o ⟨D,F⟩;refine⟨a,n,c,sl H EQ4,AB (fun O=>⟨?_,H.drop⟩) (fun O=>?_)⟩
  ·have hN:Bh x=67:=by rw[Bh,if_neg C,if_neg z,if_pos (by omega)]
   rw[hN];rfl
  have hN:Bh x=0:=by rw[Bh,if_neg C,if_neg z,if_neg (by omega)]
  rw[if_pos hN];refine AP.mk (fun m s w'=>∃k:Nat,m=n-k/\k<=n/\s=(k:Int)/\valsE (x.attrs.take k)=0/\Hp [] w w' [.blk b (itC ⟨G,x⟩ (a,n,c)) 123]) n ⟨0,rfl,by omega,rfl,rfl,H⟩ ?_;clear H
  rintro m s w4 next ⟨k,rfl,hk,rfl,hv,H⟩ d
  refine⟨a,n,c,sl H EQ4,AB (fun U=>?_) (fun U=>?_)⟩
  ·have t:k<x.attrs.length:=by omega
   obtain⟨p,l⟩:∃p,x.attrs[k]? =some p:=⟨_,List.getElem?_eq_getElem t⟩;obtain⟨ad,g,_,N⟩:=(J.go H.drop).ld l;refine⟨a,n,c,sl H EQ4,AA g ⟨⟨by omega,U⟩,p.2,by rw[Int.toNat_natCast];exact N,AC (Qh _ (T.2.2 p (mem_of_getElem? l)).2 _) ?_⟩⟩;rintro _ w5 ⟨rfl,y⟩;have u:=PH l;rw[if_pos hv]at u;refine⟨_,rfl,AV (fun A=>⟨?_,(H.ext0 y).drop⟩) (fun A=>⟨iR,d (n-(k+1)) _ _ (by omega) ⟨k+1,rfl,by omega,rfl,by rw[u,A],H.ext0 y⟩⟩)⟩;have e:=KR (x.attrs.take (k+1)) (x.attrs.drop (k+1));rw[take_append_drop,if_neg (by rw[u];exact A),u]at e;rw[e]
  ·rw[take_of_length_le (by omega)]at hv
   exact⟨by rw[hv],H.drop⟩
theorem rTail{w v:World}{b k:Nat}{l:List It}{x:It}{s:Sl3}(j:AtR w s.1 s.2.1 x.x.attrs)(hn:s.2.1<=maxLen)(m:FitX x.x)(H:Hp [] w v [.blk b (itC x s) 123])(d:BV l k x=if 40<=x.level then 42 else if 1000<=k then 43 else 0){R:Ending->World->Prop}(f:∀a,Hp [] w a []->R (.returned (.int .i64 (oneE l k x))) a):
  ∃z,Ld Tryz.prog 3 v ⟨b,0,none⟩ (.int .i64 z)/\br (decide (40<=z)) (R (.returned (.int .i64 42)) v) (br (decide (1000<=(k:Int))) (R (.returned (.int .i64 43)) v) (∃(z1 g:Int)(s1 i:ByteArray)(p:Option Addr)(n c:Nat),Ld Tryz.prog 123 v ⟨b,0,none⟩ (.agg #[.int .i64 z1,.int .i64 g,.string s1,.string i,.slice p n c])/\BL Tryz.prog 202 [.agg #[.int .i64 z1,.int .i64 g,.string s1,.string i,.slice p n c]] v fun e a=>∃z,e=.returned (.int .i64 z)/\R (.returned (.int .i64 z)) a)):=by
 refine⟨x.level,H.lo yInt,AB (fun h=>?_) (fun h=>AB (fun o=>?_) (fun o=>?_))⟩
 ·have:=f v H.drop
  rw[oneE,d,if_pos h]at this;exact this
 ·have:=f v H.drop
  rw[oneE,d,if_neg h,if_pos (show 1000<=k by omega)]at this;exact this
 ·refine⟨_,_,_,_,_,_,_,H.ldA (vs:=itC x s) EQ4 DZ (.head _) rfl rfl,AC (rParts_spec x.level x.x s.1 s.2.1 s.2.2 v (j.go H.drop) hn m) ?_⟩
  rintro _ a ⟨rfl,q⟩;have:=f a (H.drop.ext0 q);rw[oneE,d,if_neg h,if_neg (show¬1000<=k by omega),if_pos rfl]at this;exact⟨_,rfl,this⟩
theorem rOne_spec(a:Option Addr)(n c:Nat)(l:List It)(ss:List Sl3)(k:Nat)(x:It)(G:l[k]? =some x)(w:World)(q:ItR w a n l ss)(hn:n<=maxLen)(J:∀s∈ss,s.2.1<=maxLen)(hf:FitX x.x)
  (aa:x.level<=9223372036854775807) (K:∀y,0<k->l[k-1]? =some y->0<=y.level/\y.level<1000000):Calls Tryz.prog 138 #[.slice a n c,.int .i64 (k:Int)] w fun e w'=>e=.returned (.int .i64 (oneE l k x))/\Hp [] w w' []:=by
 apply rpOne.ok;unfold rpOne.vc;simp only[maxLen]at hn;have X:=q.len;have ab:=(List.getElem?_eq_some_iff.1 G).1;obtain⟨x',s,r,Y,L⟩:=q.at_ (k:=k) (by omega);rw[G]at r;cases r;have M:=J s (mem_of_getElem? Y);obtain⟨Z,o,N⟩:=q.some G Y;refine AA o ⟨⟨by omega,by omega⟩,_,_,_,_,_,_,_,by rw[Int.toNat_natCast];exact N,?_⟩;intro b w1 O;have H:=(Hp.start w).nw O;refine Hp.sA H DZ (cs':=itC x s) fun w2 H=>?_;have d:∀w',BV l k x=69->Hp [] w w' [.blk b (itC x s) 123]->Ending.returned (.int .i64 69)=.returned (.int .i64 (oneE l k x))/\Hp [] w w' []:=fun w' h H=>⟨by rw[oneE,h];rfl,H.drop⟩;have T:=fun hp=>rTail (k:=k) (l:=l) (R:=fun e w'=>e=.returned (.int .i64 (oneE l k x))/\Hp [] w w' []) L M hf H.drew hp fun v' H'=>⟨rfl,H'⟩;by_cases hk:k=0
 ·subst hk
  refine AB (fun _=>⟨x.level,H.lo yInt,AV (fun h=>d _ (by rw[BV,if_pos ⟨rfl,.inl h⟩]) H) (fun h=>⟨x.x.kind,H.lo yInt,AV (fun t=>d _ (by rw[BV,if_pos ⟨rfl,.inr t⟩]) H) (fun t=>AB (fun u=>by omega) (fun _=>T ?_))⟩)⟩) (fun h=>(h rfl).elim);rw[BV,if_neg (fun u=>u.2.elim (fun i=>i h) (fun i=>i t)),if_neg (fun u=>by omega)]
 ·obtain⟨y,f⟩:∃y,l[k-1]? =some y:=⟨_,List.getElem?_eq_getElem (by omega)⟩
  have ac:=K y (by omega) f;obtain⟨y',sy,A,B,_⟩:=q.at_ (k:=k-1) (by omega);rw[f]at A;cases A
  have m:((k:Int)-1).toNat=k-1:=by omega
  have C:=q.go H.drop.drew;have D:Ld Tryz.prog 3 w2.drew (Z.add ((k-1)*5)) (.int .i64 y.level):=C.ld f B o yInt (j:=0) rfl
  have U:Ld Tryz.prog 3 w2.drew ((Z.add ((k-1)*5)).add 1) (.int .i64 y.x.kind):=by rw[add_add];exact C.ld f B o yInt (j:=1) rfl
  have F:¬(k=0/\(x.level≠0\/x.x.kind≠1)):=fun h=>hk h.1
  have kk:(0:Int)<k:=by omega
  refine AB (fun h=>by omega) (fun _=>AB (fun _=>⟨x.level,H.lo yInt,AB (fun h=>d _ (by rw[BV,if_neg F,if_pos ⟨by omega,.inl h⟩]) H.drew) (fun h=>?_)⟩) (fun h=>(h kk).elim));refine⟨x.level,H.lo yInt,iR,iR,AA o ⟨⟨by omega,by omega⟩,y.level,by rw[m];exact D,AB (fun t=>d _ (by rw[BV,if_neg F,if_pos ⟨by omega,.inr ⟨y,f,.inl (by omega)⟩⟩]) H.drew) (fun t=>?_)⟩⟩;refine⟨x.level,H.lo yInt,iR,iR,AA o ⟨⟨by omega,by omega⟩,y.level,by rw[m];exact D,AB (fun u=>⟨iR,AA o ⟨⟨by omega,by omega⟩,y.x.kind,by rw[m];exact U,AB (fun i=>d _ (by rw[BV,if_neg F,if_pos ⟨by omega,.inr ⟨y,f,.inr ⟨by omega,i⟩⟩⟩]) H.drew) (fun i=>T ?_)⟩⟩) (fun u=>T ?_)⟩⟩
  ·rw[BV,if_neg F,if_neg]
   rintro⟨_,p|⟨z,g,p|p⟩⟩
   ·omega
   ·rw[f]at g;cases g;omega
   ·rw[f]at g;cases g;exact i p.2
  ·rw[BV,if_neg F,if_neg]
   rintro⟨_,p|⟨z,g,p|p⟩⟩
   ·omega
   ·rw[f]at g;cases g;omega
   ·rw[f]at g;cases g;omega
theorem one_level{l:List It}{k:Nat}{x:It}(h:oneE l k x=0):(0<k->1<=x.level)/\(k=0->x.level=0)/\x.level<40:=by
 rw[oneE]at h;split at h
 ·rename_i a
  rw[BV]at a;split at a
  ·cases a
  rename_i d;split at a
  ·cases a
  rename_i e;split at a
  ·cases a
  exact⟨fun b=>Int.not_lt.1 fun c=>e ⟨b,.inl c⟩,fun b=>Classical.byContradiction fun c=>d ⟨b,.inl c⟩,by omega⟩
 ·rename_i a;exact(a h).elim
theorem rCheck_spec(a:Option Addr)(n c:Nat)(l:List It)(ss:List Sl3)(w:World)(z:ItR w a n l ss)(hn:n<=maxLen)(p:∀s∈ss,s.2.1<=maxLen)(C:∀x∈l,FitX x.x/\x.level<=9223372036854775807):
  Calls Tryz.prog 71 #[.slice a n c] w fun e w'=>e=.returned (.tuple #[.int .i64 ((DC l).1:Int),.int .i64 (DC l).2])/\Hp [] w w' []:=by
 apply rpCheck.ok;unfold rpCheck.vc;have q:=hn;simp only[maxLen]at q;have g:=z.len;refine AB (fun h=>⟨?_,Hp.start w⟩) (fun h=>?_)
 ·have:l=[]:=List.eq_nil_of_length_eq_zero (by omega)
  rw[DC,if_pos this];rfl
 have r:l≠[]:=fun e=>h (by rw[g,e];rfl);rw[DC,if_neg r];refine AP.mk (fun m s w'=>∃k:Nat,m=n-k/\k<=n/\s=(k:Int)/\EF l k (l.drop k)=EF l 0 l/\(∀y,0<k->l[k-1]? =some y->0<=y.level/\y.level<1000000)/\Hp [] w w' []) n ⟨0,rfl,by omega,rfl,rfl,by omega,Hp.start w⟩ ?_
 rintro m s D next ⟨k,rfl,K,rfl,b,t,H⟩ d
 refine AB (fun F=>?_) (fun F=>⟨?_,H⟩)
 ·have f:k<l.length:=by omega
  have A:l[k]? =some l[k]:=List.getElem?_eq_getElem f;have i:=C _ (getElem_mem f);rw[drop_eq_getElem_cons f,EF]at b;refine AC (rOne_spec a n c l ss k l[k] A D (z.go H) hn p i.1 i.2 t) ?_;rintro _ L ⟨rfl,B⟩;refine⟨_,rfl,AV (fun j=>⟨?_,H.ext0 B⟩) (fun j=>⟨iR,d (n-(k+1)) _ _ (by omega) ⟨k+1,rfl,by omega,rfl,by rw[if_pos j]at b;exact b,fun y _ o=>?_,H.ext0 B⟩⟩)⟩
  ·rw[if_neg j]at b;rw[<- b]
  ·have o:l[k]? =some y:=o
   rw[A]at o;cases o;obtain⟨G,J,M⟩:=one_level j;by_cases u:k=0
   ·have:=J u;omega
   ·have:=G (by omega);omega
 ·rw[drop_of_length_le (by omega),EF]at b
  rw[<- b];rfl
structure EndI(l:List It)(k:Nat)(x:It)(j:Nat):Prop where
 lt:k<j
 le:j<=l.length
 up:∀(i:Nat)(y:It),k<i->i<j->l[i]? =some y->x.level<y.level
 stop:∀y,l[j]? =some y->y.level<=x.level
theorem rEnd_spec(a:Option Addr)(n c:Nat)(l:List It)(ss:List Sl3)(k:Nat)(x:It)(q:l[k]? =some x)(w:World)(f:ItR w a n l ss)(hn:n<=1000000):
  Calls Tryz.prog 73 #[.slice a n c,.int .i64 (k:Int)] w fun e w'=>∃j:Nat,EndI l k x j/\e=.returned (.int .i64 (j:Int))/\Hp [] w w' []:=by
 apply rpEnd.ok;unfold rpEnd.vc;have D:=f.len;have N:=(List.getElem?_eq_some_iff.1 q).1;obtain⟨O,s,o,F,_⟩:=f.at_ (k:=k) (by omega);rw[q]at o;cases o;refine AB (fun h=>by omega) (fun _=>AB (fun h=>by omega) (fun _=>⟨iR,?_⟩));refine AP.mk (fun m s w'=>∃j:Nat,m=n-j/\j<=n/\s=(j:Int)/\k<j/\(∀(i:Nat)(y:It),k<i->i<j->l[i]? =some y->x.level<y.level)/\Hp [] w w' []) (n-(k+1)) ⟨k+1,rfl,by omega,rfl,by omega,fun i y t u=>by omega,Hp.start w⟩ ?_
 rintro m _ G next ⟨j,rfl,R,rfl,A,b,H⟩ d
 refine AB (fun t=>?_) (fun t=>⟨n,⟨by omega,by omega,fun i y B K=>b i y B (by omega),fun y p=>by have:=(List.getElem?_eq_some_iff.1 p).1;omega⟩,rfl,H⟩);obtain⟨y,T,p,C,_⟩:=(f.go H.drew).at_ (k:=j) (by omega);obtain⟨J,r,_⟩:=f.some q F;have L:Ld Tryz.prog 3 G.drew (J.add (j*5)) (.int .i64 y.level):=(f.go H.drew).ld p C r yInt (j:=0) rfl;have M:Ld Tryz.prog 3 G.drew (J.add (k*5)) (.int .i64 x.level):=(f.go H.drew).ld q F r yInt (j:=0) rfl;refine AA r ⟨⟨by omega,t⟩,_,by rw[Int.toNat_natCast];exact L,AA r ⟨⟨by omega,by omega⟩,_,by rw[Int.toNat_natCast];exact M,AB (fun u=>⟨j,⟨A,by omega,b,fun z g=>by rw[p]at g;cases g;exact u⟩,rfl,H.drew⟩) (fun u=>⟨iR,d (n-(j+1)) _ _ (by omega) ⟨j+1,rfl,by omega,rfl,by omega,fun i z B K g=>?_,H.drew⟩⟩)⟩⟩;by_cases e:i=j
 ·subst e;rw[p]at g;cases g;omega
 ·exact b i z B (by omega) g
end
end Go.Proofs.YtljenkbpnioipaaGreat
namespace Go.Nod
open Go
theorem YE(S:SM):∀(r:List It)(f:List Int)(e:List Bd)(d:Nat)(b:Bd),f.length=r.length->LevR e.length r->Rise S (bndR r f e)->e[d]? =some b->∀(k:Nat)(j:Int),f[k]? =some j->
  ((∀(m:Nat)(z:It),m<=k->r[m]? =some z->(d:Int)<z.level)->atB S (j,true)<atB S b)/\(∀(m:Nat)(z:It),m<=k->r[m]? =some z->z.level<=(d:Int)->atB S b<atB S (j,false))
 | [],f,e,d,b,hl,_,_,_,k,j,hj=>by
  have:=(List.getElem?_eq_some_iff.1 hj).1;rw[length_nil]at hl;omega
 |y::r,[],e,d,b,hl,_,_,_,k,j,hj=>by cases hl
 |y::r,i::f,e,d,b,hl,hlev,hR,hb,k,j,hj=>by
  obtain⟨H,J,B⟩:=hlev;rw[bndR]at hR;have C:=(List.getElem?_eq_some_iff.1 hb).1;have n:=pairwise_append.1 hR.lt;have q:=pairwise_cons.1 n.2.1;have o:Rise S (bndR r f (e.take y.level.toNat++[(i,true)])):=⟨q.2,fun c D=>hR.pos c (mem_append_right _ (.tail _ D))⟩
  have p:f.length=r.length:=by simpa using hl
  have s:(e.take y.level.toNat++[((i,true):Bd)]).length=y.level.toNat+1:=by
   rw[length_append,length_take];simp;omega
  have x:=(RP r f (e.take y.level.toNat++[(i,true)])).subset;by_cases K:y.level<=(d:Int)
  ·have t:b∈(e.drop y.level.toNat).reverse:=by
    rw[mem_reverse];exact mem_of_getElem? (i:=d-y.level.toNat) (by rw[List.getElem?_drop,show y.level.toNat+(d-y.level.toNat)=d by omega];exact hb)
   refine⟨fun h=>by have:=h 0 y (Nat.zero_le _) rfl;omega,fun m z u g l=>n.2.2 b t _ ?_⟩
   cases k with
   |zero=>cases hj;exact .head _
   |succ k=>
    refine .tail _ ((JU r f _ p).mem_iff.2 (mem_append_right _ (mem_flatMap.2 ⟨j,mem_of_getElem? hj,.head _⟩)))
  ·have w:(e.take y.level.toNat++[((i,true):Bd)])[d]? =some b:=by
    rw[List.getElem?_append_left (by rw[length_take];omega),List.getElem?_take_of_lt (by omega)];exact hb
   cases k with
   |zero=>
    cases hj;refine⟨fun _=>?_,fun m z u g l=>?_⟩
    ·have A:((e.take y.level.toNat++[((i,true):Bd)]).reverse).Pairwise fun a b=>atB S a<atB S b:=o.lt.sublist (RP r f _)
     rw[reverse_append]at A;refine(pairwise_cons.1 A).1 b (mem_reverse.2 (mem_of_getElem? (i:=d) ?_));rw[List.getElem?_take_of_lt (by omega)];exact hb
    ·have:m=0:=by omega
     subst this;cases g;omega
   |succ k=>
    obtain⟨F,G⟩:=YE S r f _ d b p (by rw[s];exact B) o w k j hj;refine⟨fun h=>F fun m z u g=>h (m+1) z (by omega) g,fun m z u g l=>?_⟩
    cases m with
    |zero=>cases g;omega
    |succ m=>exact G m z (by omega) g l
theorem Z8(S:SM):∀(l:List It)(ids:List Int)(d:List Bd),ids.length=l.length->LevR d.length l->Rise S (bndR l ids d)->∀(i k:Nat)(x:It)(a b:Int),i<k->l[i]? =some x->ids[i]? =some a->ids[k]? =some b->
  ((∀(m:Nat)(z:It),i<m->m<=k->l[m]? =some z->x.level<z.level)->atB S (b,true)<atB S (a,true))/\(∀(m:Nat)(z:It),i<m->m<=k->l[m]? =some z->z.level<=x.level->atB S (a,true)<atB S (b,false))
 | [],ids,d,_,_,_,i,k,x,a,b,_,hx,_,_=>by cases hx
 |y::r,[],d,hl,_,_,i,k,x,a,b,_,_,ha,_=>by cases ha
 |y::r,i0::is,d,hl,hlev,hR,i,k,x,a,b,hik,hx,ha,hb=>by
  obtain⟨D,F,A⟩:=hlev;rw[bndR]at hR;have p:=pairwise_cons.1 (pairwise_append.1 hR.lt).2.1;have g:Rise S (bndR r is (d.take y.level.toNat++[(i0,true)])):=⟨p.2,fun c B=>hR.pos c (mem_append_right _ (.tail _ B))⟩
  have j:is.length=r.length:=by simpa using hl
  have e:(d.take y.level.toNat).length=y.level.toNat:=by rw[length_take];omega
  have n:LevR (d.take y.level.toNat++[((i0,true):Bd)]).length r:=by rw[length_append,e];exact A
  obtain⟨k,rfl⟩:∃C,k=C+1:=⟨k-1,by omega⟩
  cases i with
  |zero=>
   cases hx;cases ha;obtain⟨q,s⟩:=YE S r is _ y.level.toNat (i0,true) j n g (by rw[List.getElem?_append_right (by rw[e];exact Nat.le_refl _),e,Nat.sub_self];rfl) k b hb;refine⟨fun h=>q fun m z t f=>by have:=h (m+1) z (by omega) (by omega) f;omega,fun m z w t f o=>?_⟩;obtain⟨m,rfl⟩:∃u,m=u+1:=⟨m-1,by omega⟩;exact s m z (by omega) f (by omega)
  |succ i=>
   obtain⟨q,s⟩:=Z8 S r is _ j n g i k x a b (by omega) hx ha hb;refine⟨fun h=>q fun m z w t f=>h (m+1) z (by omega) (by omega) f,fun m z w t f o=>?_⟩;obtain⟨m,rfl⟩:∃u,m=u+1:=⟨m-1,by omega⟩;exact s m z (by omega) (by omega) f o
structure SpOk(l:List It)(s:List Sp):Prop where
 len:s.length=l.length
 one:∀p∈s,inS p.1/\inS p.2/\p.1<p.2
 up:s.Pairwise fun a b=>a.1<b.1
 two:∀(i k:Nat)(x:It)(p q:Sp),i<k->l[i]? =some x->s[i]? =some p->s[k]? =some q->
  ((∀(m:Nat)(z:It),i<m->m<=k->l[m]? =some z->x.level<z.level)->q.2<p.2)/\(∀(m:Nat)(z:It),i<m->m<=k->l[m]? =some z->z.level<=x.level->p.2<q.1)
theorem spans_ok{S:SM}{l:List It}{ids:List Int}(h:ids.length=l.length)(c:LevR 0 l)(d:Rise S (Bv l ids)):SpOk l (ids.map (spB S)):=by
 obtain⟨_,m,n⟩:=levels_ok h c d;refine⟨by rw[length_map,h],fun p e=>?_,m,fun i k x p q f o e j=>?_⟩
 ·obtain⟨i,g,rfl⟩:=mem_map.1 e
  have t:=d.pos (i,false) ((OV h).2 g);have u:=d.pos (i,true) ((OV h).2 g);exact⟨⟨by show 0<=atB S (i,false);omega,by show atB S (i,false)<=_;omega⟩,⟨by show 0<=atB S (i,true);omega,by show atB S (i,true)<=_;omega⟩,n i g⟩
 ·rw[List.getElem?_map]at e j
  obtain⟨a,r,rfl⟩:=Option.map_eq_some_iff.1 e;obtain⟨b,s,rfl⟩:=Option.map_eq_some_iff.1 j;rw[GK h]at d;exact Z8 S l ids [] h c d i k x a b f o r s
end Go.Nod
namespace Go.Proofs.YtljenkbpnioipaaGreat
noncomputable section
open Go Go.Vc Go.Nod
theorem NE(z:Int)(w:World):Calls Tryz.prog 72 #[.int .i64 z] w fun e w'=>e=.returned (.bool (dec (inS z)))/\w'=w:=by
 apply rsInside.ok;unfold rsInside.vc;exact AB (fun h=>⟨by rw[KC (q:=inS z) ⟨fun a=>⟨h,a⟩,fun a=>a.2⟩],rfl⟩) (fun h=>⟨by rw[Bf (q:=inS z) fun a=>h a.1],rfl⟩)
theorem rsIn_spec(p q:Sp)(w:World):Calls Tryz.prog 74 #[.agg #[.int .i64 p.1,.int .i64 p.2],.agg #[.int .i64 q.1,.int .i64 q.2]] w fun e w'=>e=.returned (.bool (decide (q.1<p.1/\p.2<q.2)))/\Hp [] w w' []:=by
 apply rsIn.ok;unfold rsIn.vc;intro c d a f g b;have H:=((Hp.start w).nw a).nw b;refine⟨q.1,H.lo yInt,p.1,H.lo yInt,AB (fun h=>⟨p.2,H.lo yInt,q.2,H.lo yInt,?_,H.done⟩) (fun h=>⟨?_,H.done⟩)⟩
 ·simp[h]
 ·simp[h]
theorem rsAhead_spec(p q:Sp)(w:World):Calls Tryz.prog 75 #[.agg #[.int .i64 p.1,.int .i64 p.2],.agg #[.int .i64 q.1,.int .i64 q.2]] w fun e w'=>e=.returned (.bool (decide (p.2<q.1)))/\Hp [] w w' []:=by
 apply rsAhead.ok;unfold rsAhead.vc;intro c d a f g b;have H:=((Hp.start w).nw a).nw b;exact⟨p.2,H.lo yInt,q.1,H.lo yInt,rfl,H.done⟩
theorem raggS:Agg Tryz.prog 68 2:=Ci (by kernel_rfl)
theorem rsCheck_spec(a:Option Addr)(c:Nat)(l:List It)(ss:List Sl3)(R:Option Addr)(sc:Nat)(s:List Sp)(w:World)(hI:ItR w a l.length l ss)(hn:l.length<=1000000)(aa:∀s∈ss,s.2.1<=maxLen)(hf:∀x∈l,FitX x.x/\x.level<=9223372036854775807)
  (hS:Cells w R (Az s)) (hC:(DC l).2=0) (N:SpOk l s):Calls Tryz.prog 31 #[.slice a l.length c,.slice R s.length sc] w fun e w'=>e=.returned (.bool true)/\Hp [] w w' []:=by
 apply rsCheck.ok;unfold rsCheck.vc;refine AC (rCheck_spec a l.length c l ss w hI (by simp only[maxLen];omega) aa hf) ?_;rintro _ w1 ⟨rfl,H⟩;have ae:=N.len;refine⟨_,_,rfl,AV (fun h=>(h hC).elim) (fun _=>AV (fun h=>by omega) (fun _=>?_))⟩
 have F:∀{W:World},Hp [] w W []->∀(k:Nat)(p:Sp),s[k]? =some p->∃t,R=some t/\Ld Tryz.prog 68 W (t.add (k*2)) (.agg #[.int .i64 p.1,.int .i64 p.2])/\Ld Tryz.prog 3 W (t.add (k*2)) (.int .i64 p.1)/\Ld Tryz.prog 3 W ((t.add (k*2)).add 1) (.int .i64 p.2):=fun{W} H k p y=>by
  have A:=Jj y;have T:=hS.chg H.chg (by simp);obtain⟨t,b⟩:=T.some (fun e=>by rw[e]at A;simp at A)
  have at_:∀{o:Nat}{v:Value},o<2->([Value.int .i64 p.1,.int .i64 p.2])[o]? =some v->(Az s)[k*2+o]? =some v:=fun{o v} ho hv=>by
   rw[<- A,List.getElem?_take_of_lt ho,List.getElem?_drop]at hv;exact hv
  exact⟨t,b,T.ldA raggS b A rfl,T.ld yInt b (at_ (o:=0) (by omega) rfl),by rw[add_add];exact T.ld yInt b (at_ (o:=1) (by omega) rfl)⟩
 refine AP.mk (fun m q w'=>∃k:Nat,m=l.length-k/\k<=l.length/\q=(k:Int)/\Hp [] w w' []) l.length ⟨0,rfl,by omega,rfl,H⟩ ?_;clear H
 rintro m q w2 next ⟨k,rfl,hk,rfl,H⟩ G
 refine AB (fun h1=>?_) (fun h1=>⟨rfl,H⟩)
 have J:k<s.length:=by omega
 obtain⟨p,y⟩:∃p,s[k]? =some p:=⟨_,List.getElem?_eq_getElem J⟩;obtain⟨o1,o2,o3⟩:=N.one p (mem_of_getElem? y);have K:(0:Int)<=k/\(k:Int)<s.length:=⟨by omega,by omega⟩;have U:((k:Int)).toNat=k:=Int.toNat_natCast k;obtain⟨t,b,_,f,_⟩:=F H.drew k p y;rw[<- U]at f;refine AA b ⟨K,_,f,AC (NE _ _) ?_⟩;rintro _ w3 ⟨rfl,hw⟩;obtain rfl:=hw.symm;refine⟨_,rfl,F5 (fun h=>(h o1).elim) (fun _=>?_)⟩;obtain⟨t,b,_,f,L⟩:=F H.drew k p y;rw[<- U]at f L;refine AA b ⟨K,_,L,AC (NE _ _) ?_⟩;rintro _ w3 ⟨rfl,hw⟩;obtain rfl:=hw.symm;refine⟨_,rfl,F5 (fun h=>(h o2).elim) (fun _=>AA b ⟨K,_,f,AA b ⟨K,_,L,AB (fun h=>by omega) (fun _=>?_)⟩⟩)⟩
 have up:0<k->∃B g,s[k-1]? =some B/\B.1<p.1/\R=some g/\Ld Tryz.prog 3 w2.drew (g.add (((k:Int)-1).toNat*2)) (.int .i64 B.1):=fun h=>by
  obtain⟨B,C⟩:∃B,s[k-1]? =some B:=⟨_,List.getElem?_eq_getElem (by omega)⟩;obtain⟨g,n,_,l0,_⟩:=F H.drew (k-1) B C;have d:=List.pairwise_iff_getElem.1 N.up (k-1) k (by omega) J (by omega);rw[(List.getElem?_eq_some_iff.1 C).2,(List.getElem?_eq_some_iff.1 y).2]at d;exact⟨B,g,C,d,n,by rw[show((k:Int)-1).toNat=k-1 by omega];exact l0⟩
 refine(fun(kk:(0:Int)<=0->_)=>AB (fun h=>?pos) (fun h=>kk (Int.le_refl _))) ?cont
 case pos=>
  obtain⟨B,g,C,d,n,l0⟩:=up (by omega);exact AA b ⟨K,_,f,iR,AA n ⟨⟨by omega,by omega⟩,_,l0,AB (fun h=>by omega) (fun _=>kk (Int.le_refl _))⟩⟩
 intro _;refine AP.mk (fun m q w'=>∃i:Nat,m=k-i/\i<=k/\q=(i:Int)/\Hp [] w w' []) k ⟨0,rfl,by omega,rfl,H.drew⟩ ?_;clear H;rintro m q w4 M ⟨i,rfl,hi,rfl,H⟩ D;refine AB (fun A=>?_) (fun A=>⟨iR,G (l.length-(k+1)) _ _ (by omega) ⟨k+1,rfl,by omega,rfl,H⟩⟩);obtain⟨x,hx⟩:∃x,l[i]? =some x:=⟨_,List.getElem?_eq_getElem (by omega)⟩;obtain⟨u,X⟩:∃u,s[i]? =some u:=⟨_,List.getElem?_eq_getElem (by omega)⟩;refine AC (rEnd_spec a _ c l ss i x hx w4 (hI.go H) hn) ?_;rintro _ w5 ⟨j,hE,rfl,O⟩;have H2:=H.ext0 O;obtain⟨t,b,f,_⟩:=F H2.drew k p y;obtain⟨ab,r,L,_⟩:=F H2.drew i u X;rw[<- U]at f;refine⟨_,rfl,AA b ⟨K,_,_,f,AA r ⟨⟨by omega,by omega⟩,_,_,by rw[Int.toNat_natCast];exact L,AC (rsIn_spec p u _) ?_⟩⟩⟩;rintro _ w6 ⟨rfl,O⟩;have Y:=H2.drew.ext0 O;obtain⟨t1,t2⟩:=N.two i k x u p (by omega) hx X y;have d:=List.pairwise_iff_getElem.1 N.up i k (by omega) J (by omega);rw[(List.getElem?_eq_some_iff.1 X).2,(List.getElem?_eq_some_iff.1 y).2]at d
 have hd:¬k<j->u.2<p.1:=fun h=>by
  obtain⟨z,Z⟩:∃z,l[j]? =some z:=⟨_,List.getElem?_eq_getElem (by omega)⟩;exact t2 j z hE.lt (by omega) Z (hE.stop z Z)
 have ac:decide (((k:Nat):Int)<(j:Int))=decide (u.1<p.1/\p.2<u.2):=by
  by_cases h:k<j
  ·have:=t1 fun m z g1 g2 Z=>hE.up m z g1 (by omega) Z
   rw[decide_eq_true (by omega),decide_eq_true ⟨d,this⟩]
  ·have:=hd h
   rw[decide_eq_false (by omega),decide_eq_false (by omega)]
 have go:∀v,Hp [] w v []->inR .i64 ((i:Int)+1)/\M ((i:Int)+1) v:=fun v H=>⟨iR,D (k-(i+1)) _ _ (by omega) ⟨i+1,rfl,by omega,rfl,H⟩⟩;refine⟨_,rfl,?_⟩;rw[ac];simp only[beq_self_eq_true,Bool.not_true];refine BA (x:=_) (AV (fun h=>?_) (fun h=>go _ Y));obtain⟨t,b,f,_⟩:=F Y k p y;obtain⟨ab,r,L,_⟩:=F Y i u X;rw[<- U]at f;refine AA r ⟨⟨by omega,by omega⟩,_,_,by rw[Int.toNat_natCast];exact L,AA b ⟨K,_,_,f,AC (rsAhead_spec u p _) ?_⟩⟩;rintro _ w7 ⟨rfl,O⟩;refine⟨_,rfl,Gp (fun A=>?_) (fun _=>go _ (Y.ext0 O))⟩;rw[decide_eq_false_iff_not]at A;exact(A (hd (by omega))).elim
end
noncomputable section
open Go Go.Vc Go.Nod
theorem span0:W9 tab0.T tab0.S:=tinv0.span
theorem do_span{f:List Nat}{b:Nat}{X:Tab}{o:OpP}{w:World}(h:W9 X.T X.S)(c:(tabA f b (doP X o).1).ok w):W9 (doP X o).1.T (doP X o).1.S:=by
 obtain⟨F,d⟩:=YX c;by_cases a:(doP X o).2.2.2=0
 ·rw[doP]at a d⊢
  split at a
  ·rename_i h;exact absurd a h
  rename_i e;split at a
  ·rename_i h;exact absurd a h
  rename_i c;split at a
  ·rename_i h;exact absurd a h
  rename_i g;rw[if_neg e,if_neg c,if_neg g]at d⊢;exact labelN_ok d X.S _
 ·rw[(do_bad a).1];exact h
theorem at_ids{L:List Rw}(hn:(L.map (·.id)).Nodup)(i:Int):(atR L i).isSome=true↔i∈L.map (·.id):=by
 constructor
 ·intro h
  obtain⟨⟨n,r⟩,a⟩:=Option.isSome_iff_exists.1 h;obtain⟨b,rfl⟩:=dV a;exact mem_map_of_mem (mem_of_getElem? b)
 ·intro h
  obtain⟨r,a,rfl⟩:=mem_map.1 h;obtain⟨j,c⟩:=List.getElem?_of_mem a;rw[Xk hn c];rfl
theorem heltS:Elt Tryz.prog 66 68 2 16:=CW (by kernel_rfl)
theorem hundS:Tryz.prog.underlying 66=some (.slice 68):=by kernel_rfl
theorem haggN:Agg Tryz.prog 71 7:=Ci (by kernel_rfl)
theorem spans_snoc(l:List Sp)(p:Sp):Az (l++[p])=Az l++[.int .i64 p.1,.int .i64 p.2]:=by simp[Az]
theorem spB_of{S:SM}{i:Int}{p:Sp}(h:sget S i=some p):spB S i=p:=by
 simp[spB,atB,h]
theorem ai:∀{l:List At},valsE l=0->∀a∈l,BJ a.2=0
 | [],_,a,b=>by cases b
 |p::l,h,a,b=>by
  rw[valsE]at h;split at h
  ·rcases mem_cons.1 b with rfl|b
   ·assumption
   ·exact ai h a b
  ·rename_i c;exact(c h).elim
theorem YB{s:ByteArray}(h:BJ s=0):s.size<=1500:=by
 rw[BJ]at h;split at h
 ·cases h
 ·split at h
  ·cases h
  ·omega
theorem fit_of{x:NX}(h:Ap x=0):FitX x:=by
 obtain⟨i,d,f⟩:=FK h;rcases XU h with c|c
 ·obtain⟨n,g,t,v⟩:=d c
  refine⟨by have:=n.2.1;omega,by rw[t];exact Nat.zero_le _,fun a b=>⟨by have:=(g.1 a b).2.1;omega,by have:=YB (ai v a b);omega⟩⟩
 ·obtain⟨e,t,n⟩:=f c
  refine⟨by rw[n];exact Nat.zero_le _,by have:=YB t;omega,fun a b=>by rw[e]at b;cases b⟩
theorem nodetabSpans_law(sa:Option Addr)(sc:Nat)(G:List NOp)(id:Int)(w0:World)(hs:NScr w0 sa G):Calls Tryz.prog 8 #[.slice sa G.length sc,.int .i64 id] w0 fun e w'=>e=.returned (.bool true)/\Hp [] w0 w' []:=by
 apply nodetabSpans.ok;unfold nodetabSpans.vc;have bb:=hs.len;refine AC (PT w0) ?_;rintro _ w1 ⟨b,f,rfl,H⟩;refine⟨_,rfl,_,Um Xj,BA (AC (few_spec sa sc G hs H.chg) ?_)⟩;rintro _ w2 ⟨fb,rfl,ba,d⟩;have H1:=H.ext0 d;clear H d;refine⟨_,rfl,Gp (fun _=>⟨_,SN Xj,CU (AC (QS w2) ?_)⟩) (fun _=>?_)⟩
 ·rintro _ w3 ⟨rfl,d⟩
  exact⟨_,rfl,rfl,(H1.ext0 d).done⟩
 refine AP.mk (fun m (s:Int) w'=>∃(k:Nat)(f:List Nat)(X:Tab)(Z:List Asn),m=G.length-k/\k<=G.length/\s=(k:Int)/\W9 X.T X.S/\Hp [] w0 w' (tabA f b X::Z)) G.length ⟨0,_,tab0,[],rfl,by omega,rfl,span0,H1⟩ ?_;clear H1
 rintro m s w3 next ⟨k,f,X,Z,rfl,hk,rfl,hX,H⟩ ab
 refine AB (fun h1=>?_) (fun h1=>?_)
 ·have A:k<G.length:=by omega
  obtain⟨q,hq⟩:∃q,G[k]? =some q:=⟨_,List.getElem?_eq_getElem A⟩;have ac:=mem_of_getElem? hq;obtain⟨ad,J,av⟩:=hs.ld H.chg hq;refine AA J ⟨⟨by omega,h1⟩,_,_,_,_,_,_,_,_,_,by rw[Int.toNat_natCast];exact av,?_⟩;intro yb w5 ak;have u:=H.nw ak;refine Hp.sA u Z9 (cs':=nopC q) fun w6 t=>?_;clear H u ak;refine⟨_,_,_,_,_,_,_,_,_,t.loA Z9,AC (own_spec q.o q.a q.o.l.length q.c _) ?_⟩;rintro _ w7 ⟨rfl,d⟩;have w:=(t.ext0 d).Ae;clear t d;have aw:Df f w7 q.a q.o.l.length q.o.l q.ss:=(hs.it q ac).go w fun k hk=>Dl.2 ⟨tabA f b X,.head _,hk⟩;have al:=w.ok (tabA f b X) (.head _);refine⟨_,_,_,_,_,_,_,_,_,rfl,AC (YM al q.o q.a _ q.c q.ss aw (hs.lens q ac) (hs.txt q ac)) ?_⟩;rintro _ w8 ⟨g1,ca,cc,rfl,d⟩;have H5:=w.use1 d;clear w d;have t1:=do_span hX (H5.ok (tabA g1 b (doP X q.o).1) (.head _));exact⟨_,_,_,_,_,rfl,iR,ab (G.length-(k+1)) _ _ (by omega) ⟨k+1,g1,(doP X q.o).1,_,rfl,by omega,rfl,t1,H5⟩⟩
 obtain⟨F,O⟩:=YX (H.ok (tabA f b X) (.head _));have bc:=O.len;refine AC (Js (H.ok (tabA f b X) (.head _))) ?_;rintro _ w4 ⟨f1,f2,K,rfl,d⟩;have u:=H.use1 d;clear H d;refine⟨_,rfl,_,Um eQ,BA (AC (Ip (u.ok (AU f2 K X.T) m1)) ?_)⟩;rintro _ w5 ⟨f3,oa,oc,rfl,d⟩;have t:=u.Ae.use1 d;clear u d;obtain⟨ids,g⟩:∃ids,ids=X.T.L.map (·.id):=⟨_,rfl⟩
 have a0:ids.length=X.T.L.length:=by rw[g,length_map]
 have B:∀i,(sget X.S i).isSome↔i∈ids:=by rw[g];exact hX.keys
 rw[<- g]at t;refine⟨_,_,_,rfl,AP.mk (fun m (s:Sl3×Int) w'=>∃(k:Nat)(a:Option Addr)(c:Nat)(Z:List Asn),m=X.T.L.length-k/\k<=X.T.L.length/\s=((a,k,c),(k:Int))/\Hp [] w0 w' (.own 68 2 a k c (Az ((ids.take k).map (spB X.S)))::AU f3 K X.T::.own 3 1 oa X.T.L.length oc (AO ids)::tabA f1 b X::Z)) X.T.L.length ⟨0,none,0,Z,rfl,by omega,rfl,t.nilS 68 2⟩ ?_⟩;clear t;rintro m s w6 a1 ⟨C,a,c,Z2,rfl,bd,rfl,H⟩ N;dsimp only;have mo:∀{x y z:Asn}{M:List Asn},z∈x::y::z::M:=.tail _ m1;refine AB (fun h2=>?_) (fun h2=>?_)
 ·have A:C<ids.length:=by omega
  have am:(AO ids)[C]? =some (.int .i64 ids[C]):=by simp[AO,A]
  have an:Cells w6 oa (AO ids):=(H.ownA mo).cells;obtain⟨ad,J,_⟩:=an C _ am;refine AA J ⟨⟨by omega,h2⟩,ids[C],by rw[Int.toNat_natCast,Nat.mul_one];exact an.ld yInt J am,AC (TE (H.ok (tabA f1 b X) (.tail _ mo)) _) ?_⟩;rintro _ w7 ⟨rfl,d⟩;obtain⟨p,hp⟩:=Option.isSome_iff_exists.1 ((B ids[C]).2 (getElem_mem A));rw[hp];refine⟨p.1,p.2,_,rfl,fun zb w8 D=>?_⟩;have u:=(H.ext0 d).nw D;refine Hp.sA u EK (cs':=[.int .i64 p.1,.int .i64 p.2]) fun w9 t=>?_;clear H u D;refine BA (x:=_) ⟨p.1,p.2,t.ldA (vs:=[.int .i64 p.1,.int .i64 p.2]) EQ4 EK (.head _) rfl rfl,fun yb a2 ao=>?_⟩;have w:=(t.nw ao).BD;refine Hp.app heltS (by omega) w EQ4 (Blk.src (P:=Tryz.prog) hundS (w.blk m1) rfl rfl) (by simp only[maxLen];omega) (by omega) ?_;intro a' c' a3 H5;refine⟨iR,N (X.T.L.length-(C+1)) _ _ (by omega) ⟨C+1,a',c',.blk yb [.int .i64 p.1,.int .i64 p.2] 68::.blk zb [.int .i64 p.1,.int .i64 p.2] 62::Z2,rfl,by omega,rfl,?_⟩⟩
  have e:Az ((ids.take (C+1)).map (spB X.S))=Az ((ids.take C).map (spB X.S))++[.int .i64 p.1,.int .i64 p.2]:=by
   rw[take_succ_eq_append_getElem A,map_append,<- spB_of hp];exact spans_snoc _ _
  rw[e]
  exact H5.perm (by
   refine AL fun ff gg h0 hc ha a4=>?_
   simp only[ha,hc,h0,append_eq,nil_append,cons_append];omega)
 have ap:C=X.T.L.length:=by omega
 subst ap;rw[take_of_length_le (by omega)]at H;obtain⟨sp,ae⟩:∃sp,sp=ids.map (spB X.S):=⟨_,rfl⟩
 have aq:sp.length=X.T.L.length:=by rw[ae,length_map,a0]
 rw[<- ae]at H
 have af:(sget X.S id).isSome=(atR X.T.L id).isSome:=by
  rw[Bool.eq_iff_iff,B,at_ids O.Rz,g]
 have H0:=H.Ae;clear H;refine AC (Lu (H0.ok (AU f3 K X.T) (.head _)) id) ?_;rintro e w7 ⟨f4,R⟩
 have hg:∃(z1 z2 z3 z4:Int)(s1 s2:ByteArray)(p:Option Addr)(n c:Nat)(Y:List Asn),e=.returned (.tuple #[.agg #[.int .i64 z1,.int .i64 z2,.int .i64 z3,.int .i64 z4,.string s1,.string s2,.slice p n c],.bool (atR X.T.L id).isSome])/\Hp f3 w6 w7 (AU f4 K X.T::Y):=by
  rcases R with⟨h,rfl,H⟩|⟨n,r,a,c,kd,h,rfl,_,H⟩
  ·exact⟨_,_,_,_,_,_,_,_,_,_,by rw[h];rfl,H⟩
  ·exact⟨_,_,_,_,_,_,_,_,_,_,by rw[h];rfl,H⟩
 obtain⟨z1,z2,z3,z4,s1,s2,pp,nn,cc,Y,rfl,d⟩:=hg;have H1:=H0.use1 d;clear R H0 d;refine⟨_,_,_,_,_,_,_,_,_,_,rfl,fun gb w8 D=>?_⟩;have u:=H1.nw D;refine Hp.sA u haggN (cs':=[.int .i64 z1,.int .i64 z2,.int .i64 z3,.int .i64 z4,.string s1,.string s2,.slice pp nn cc]) fun w9 t=>?_
 have w:=t.perm (M:=tabA f1 b X::AU f4 K X.T::.own 68 2 a X.T.L.length c (Az sp)::(.blk gb [.int .i64 z1,.int .i64 z2,.int .i64 z3,.int .i64 z4,.string s1,.string s2,.slice pp nn cc] 71::.own 3 1 oa X.T.L.length oc (AO ids)::(Y++Z2))) (by
  refine AL fun ff gg h0 hc ha a4=>?_
  simp only[ha,hc,h0,append_eq,nil_append,cons_append];omega)
 clear H1 u t D;generalize hZ:(Asn.blk gb [.int .i64 z1,.int .i64 z2,.int .i64 z3,.int .i64 z4,.string s1,.string s2,.slice pp nn cc] 71::.own 3 1 oa X.T.L.length oc (AO ids)::(Y++Z2))=Z3 at w;refine AC (TE (w.ok (tabA f1 b X) (.head _)) id) ?_;rintro _ a2 ⟨rfl,d⟩;have H5:=w.ext0 d;clear w d;generalize(sget X.S id).getD (0,0)=p;refine⟨p.1,p.2,_,rfl,fun qb a3 U=>?_⟩;have H6:=H5.nw U;refine Hp.sA H6 EK (cs':=[.int .i64 p.1,.int .i64 p.2]) fun a5 H7=>AC (QS a5) ?_;rintro _ bh ⟨rfl,d⟩;have H8:=H7.ext0 d;clear H5 H6 H7 d U;rw[af];have mt:∀{x y z:Asn}{M:List Asn},z∈x::y::z::M:=.tail _ m1;refine⟨_,rfl,CU ?_⟩;rw[beq_self_eq_true];refine CU (AC (PM (H8.ok (AU f4 K X.T) mt)) ?_);rintro _ bi ⟨rfl,hw⟩;obtain rfl:=hw.symm;refine⟨_,rfl,AB (fun _=>⟨rfl,H8.done⟩) (fun a6=>AC (PM (H8.ok (AU f4 K X.T) mt)) ?_)⟩;rintro _ bj ⟨rfl,hw⟩;obtain rfl:=hw.symm;refine⟨_,rfl,AB (fun _=>⟨rfl,H8.done⟩) (fun _=>AC (Jw (H8.ok (AU f4 K X.T) mt)) ?_)⟩;rintro _ bk ⟨rfl,hw⟩;obtain rfl:=hw.symm;refine⟨_,rfl,AC (Ie (H8.ok (AU f4 K X.T) mt)) ?_⟩;rintro _ ag ⟨f5,ia,ic,ss,rfl,a7,d⟩;have H9:=H8.BD.use1 d;have j:Df [] ag ia X.T.L.length (X.T.L.map rowI) ss:=MM O a7 H9 m1 fun x hx=>.tail _ (.tail _ (mem_append_left _ hx))
 have a8:SpOk (X.T.L.map rowI) sp:=by
  rw[ae,g];exact spans_ok (by rw[length_map,length_map]) (levR_ok (O8 (b:=0) O.ok O.fl)) hX.rise
 have ah:(X.T.L.map rowI).length=X.T.L.length:=by rw[length_map]
 have a9:Cells ag a (Az sp):=(H9.ownA (.tail _ (.tail _ (mem_append_right _ m2)))).cells;have ar:X.T.L≠[]:=fun e=>a6 (by rw[e];rfl);have aa:=rsCheck_spec ia ic (X.T.L.map rowI) ss a c sp ag (by rw[ah];exact j.now) (by rw[ah];omega) j.sls (fun x hx=>⟨fit_of (EM O x hx),?_⟩) a9 (Nv O ar) a8
 ·rw[ah,aq]at aa
  refine⟨_,_,_,rfl,AC aa ?_⟩;rintro _ bl ⟨rfl,d⟩;exact⟨_,rfl,rfl,(H9.ext0 d).done⟩
 ·obtain⟨r,hr,rfl⟩:=mem_map.1 hx
  have:=O.deep r hr;show r.level<=_;omega
end
open Go Go.Vc Go.Nod Go.ChangeAt
theorem rd_si(W:World)(K:List Value->Prop):RdA Tryz.prog W 7 [22,3] K=ArgG W 6 36 (fun cs=>∃i,inR .i64 i/\K (ofC (some false) cs::.int .i64 i::[])):=by kernel_rfl
theorem open_si{W:World}{args:Array Value}(h:RdA Tryz.prog W 7 [22,3] (fun l=>args.toList=l)):∃(a:Option Addr)(c:Nat)(b:List NOp)(i:Int),args= #[.slice a b.length c,.int .i64 i]/\NScr W a b:=by
 rw[rd_si]at h;obtain⟨a,c,b,d,i,_,h⟩:=argG_nscr h;exact⟨a,c,b,i,by cases args;simp_all [ofC],d⟩
theorem nodetabSpans_1:(Rows.nodetabSpansRow.inPlace==Tryz.prog.inPlace 8)=true:=by kernel_rfl
theorem nodetabSpans_2:(Rows.nodetabSpansRow.unfollowed==Tryz.prog.unfollowed 8)=true:=by kernel_rfl
theorem nodetabSpans_3:(Rows.nodetabSpansRow.recurses==Tryz.prog.recurses 8)=true:=by kernel_rfl
theorem nodetabSpans_4:(Rows.nodetabSpansRow.named==Tryz.prog.varsNamed 8)=true:=by kernel_rfl
theorem nodetabSpans_holds:Rows.NodetabSpansSaid:=
 OpenClaim.holds_of_wide 8 Tryz.f8 rfl rfl rfl rfl rfl rfl rfl ⟨rfl,rfl,rfl,rfl,rfl⟩ rfl rfl rfl rfl rfl (by kernel_rfl) Tryz.func8 (joined_of laid_ rowed_ nodetabSpans_1 nodetabSpans_2 nodetabSpans_3 nodetabSpans_4 heard_ enter_ (beq_iff_eq.2 lifts_.symm) (beq_iff_eq.2 make_) (by kernel_rfl) (by kernel_rfl) (by kernel_rfl) (by kernel_rfl))
  (of_decide_eq_true (by kernel_rfl)) (by unfold Func.isWrapper;first|(rw[if_pos (by decide+kernel)];kernel_rfl)|(rw[if_neg (by decide+kernel)];exact⟨rfl,rfl⟩))
  (fun o a H b _=>law_lift (C:=Tryz.checked) (s:=Rows.nodetabSpansSpec) 8 Tryz.f8 7 own_ a (by kernel_rfl) Tryz.func8 laid_ (by kernel_rfl) rfl (by kernel_rfl) und4
   (fun f h=>by
    match f,h with
    | [d0,d1],_=>rfl)
   (ChangeSpec.witness6 (enc:=b) (C:=Tryz.checked) false ⟨#[],#[.slice none 0 0,.int .i64 0],[]⟩ 8 (by kernel_rfl) (by kernel_rfl) (by kernel_rfl) (by kernel_rfl))
   (fun W d c=>by
    obtain⟨g,j,k,i,rfl,l⟩:=open_si c
    exact Calls.mono (nodetabSpans_law g j k i W l) fun e p ⟨m,n⟩=>⟨m,n.chg⟩))
end Go.Proofs.YtljenkbpnioipaaGreat
