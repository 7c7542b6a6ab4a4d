/- Part 4 of 6 of the proof of nodetabBack_holds: for every input, from every world that may be reached. -/
import Derived.Test.YtljenkbpnioipaaGreatPbk3
set_option linter.unusedVariables false
set_option linter.unusedSimpArgs false
set_option linter.defProp false
set_option maxRecDepth 100000
set_option maxHeartbeats 4000000
open List(cons_append nil_append)
namespace Go.Nod
noncomputable section
open Classical
def KAz:Nat->List Sp->Sp->List Sp
 |0,_,_=>[]
 |n+1,o,x=>match o[n]? with
  |some y=>if y.2<x.1 then KAz n o x else o.take (n+1)
  |none=>o.take (n+1)
theorem XQ:∀(n:Nat)(o:List Sp)(x:Sp),n<=o.length->∃m,m<=n/\KAz n o x=o.take m
 |0,o,x,_=>⟨0,aZ _,by simp[KAz]⟩
 |n+1,o,x,h=>by
  rw[KAz];have e:o[n]? =some o[n]:=aB om;rw[e];dsimp only;split
  ·obtain⟨m,b,a⟩:=XQ n o x om;exact⟨m,om,a⟩
  exact⟨n+1,aZ _,rfl⟩
def KEA(p:Option Int)(o:List Sp)(x:Sp):Prop:=¬(inS x.1/\inS x.2)\/x.2<=x.1\/(∃z,p=some z/\x.1<=z)\/∃y,o.getLast? =some y/\¬(y.1<x.1/\x.2<y.2)
def KCC:Option Int->List Sp->List Sp->Option (lI)
 |_,_,[]=>some []
 |p,o,x::r=>if KEA p (KAz o.length o x) x then none else(KCC (some x.1) (KAz o.length o x++[x]) r).map λl=>((KAz o.length o x).length:Int)::l
def GV(s:List Sp):Option (lI):=KCC none [] s
end
end Go.Nod
namespace Go.Proofs.YtljenkbpnioipaaGreat
noncomputable section
open Go Go.Vc Go.Nod
theorem sLevels_spec(sa:Option Addr)(n sc:Nat)(l:List Sp)(w:World)(hS:Cells w sa (BP l))(hn:n=l.length)(hbig:n<=100000):
  Calls Tryz.prog 134 #[.slice sa n sc] w λe w'=>(GV l=none/\e=.returned (.tuple #[.slice none 0 0,.bool false])/\Hp [] w w' [])\/
   ∃L a c,GV l=some L/\L.length=n/\e=.returned (.tuple #[.slice a n c,.bool true])/\Hp [] w w' [.own 3 1 a n c (AO L)]:=by
 apply Je0
 refine xI.mk (λm s w'=>∃(j:Nat)(oa:Option Addr)(oc:Nat)(ba:Option Addr)(bc:Nat)(O:List Sp)(L:List Int)(X:List Asn),m=n-j/\j<=n/\L.length=j/\O.length<=j/\s=((oa,j,oc),(ba,O.length,bc),(j:Int))/\
   GV l=(KCC (if j=0 then none else(l[j-1]?).map (·.1)) O (l.drop j)).map (λr=>L++r)/\Hp [] w w' (.own 3 1 oa j oc (AO L)::.own 62 2 ba O.length bc (BP O)::X)) n
  ⟨0,none,0,none,0,[],[],[],rfl,by omega,rfl,aZ _,rfl,?_,((Hp.start w).yS 62 2).yS 3 1⟩ ?_
 ·rw[if_pos rfl,fF,GV]
  cases KCC none [] l<;>rfl
 rintro m s w1 nx ⟨j,oa,oc,ba,bc,O,L,X,rfl,hj,hL,hO,rfl,hlev,H⟩ hnx
 dsimp only
 refine AB (λh1=>?_) (λh1=>?_)
 rotate_left
 ·have hjn:j=n:=by omega
  subst hjn
  rw[hn,iQ,KCC]at hlev
  refine .inr ⟨L,oa,oc,?_,hL,rfl,Hp.BM H⟩
  rw[hlev];simp
 have hjl:j<l.length:=by omega
 obtain⟨x,hx⟩:∃x,l[j]? =some x:=⟨_,aB hjl⟩
 have hdr:l.drop j=x::l.drop (j+1):=by
  rw[<- jL hjl,(aA.1 hx).2]
 rw[hdr,KCC]at hlev
 have hS1:Cells w1 sa (BP l):=hS.chg H.chg (by simp)
 have hx2:=MV hx
 obtain⟨ad,had⟩:=hS1.some (λe=>by rw[e]at hx2;simp at hx2)
 refine AA had ⟨⟨by omega,h1⟩,x.1,x.2,hS1.ldA Fz had hx2 rfl,?_⟩
 intro xb w2 hn2
 have H2:=H.new EQ4 hn2
 refine Hp.stA H2 EQ4 Fz rfl rfl (by simp) rfl λw3 H3=>?_
 obtain⟨P,hP⟩:∃P,P=KAz O.length O x:=⟨_,rfl⟩
 rw[<- hP]at hlev
 refine xM.mk (λs w'=>∃c,s=(ba,P.length,c)/\Hp [] w w' (.blk xb [.int .i64 x.1,.int .i64 x.2] 62::.own 3 1 oa j oc (AO L)::.own 62 2 ba P.length c (BP P)::X)) ?_ ?_
 rotate_left
 ·intro J hJ
  refine xI.mk (λq s w'=>∃(k:Nat)(c:Nat),q=k/\k<=O.length/\s=(ba,k,c)/\KAz k O x=P/\Hp [] w w' (.blk xb [.int .i64 x.1,.int .i64 x.2] 62::.own 3 1 oa j oc (AO L)::.own 62 2 ba k c (BP (O.take k))::X)) O.length ⟨O.length,bc,rfl,aZ _,rfl,hP.symm,by rw[bJ];exact H3⟩ ?_
  rintro q s w4 nx2 ⟨k,c,hq,hk,rfl,hpk,H4⟩ hnx2
  dsimp only
  have hb:Own w4 0 62 2 ba k c (BP (O.take k)):=H4.xh (.tail _ (.tail _ (.head _)))
  refine AB (λh2=>?_) (λh2=>?_)
  ·obtain⟨k',rfl⟩:∃k',k=k'+1:=⟨k-1,by omega⟩
   obtain⟨y,hy⟩:∃y,O[k']? =some y:=⟨_,aB (by omega)⟩
   have hyt:(O.take (k'+1))[k']? =some y:=by rw[bn (by omega)];exact hy
   have hy2:=MV hyt
   obtain⟨g,hg⟩:=hb.D6 (by omega)
   have e1:Int.toNat (((k'+1:Nat):Int)-1)=k':=by omega
   rw[e1]
   have hbd:Cells w4.drew ba (BP (O.take (k'+1))):=hb.cells
   refine⟨DT.2 (by omega),AA hg ⟨⟨by omega,by omega⟩,y.1,y.2,hbd.ldA Fz hg hy2 rfl,x.1,x.2,H4.ldA EQ4 Fz (.head _) rfl rfl,?_⟩⟩
   refine AC (sAhead_spec y.1 y.2 x.1 x.2 w4.drew) ?_
   rintro _ w5 ⟨rfl,H'⟩
   have H5:=H4.drew.xN H'
   have hle:=hb.le
   rw[KAz,hy]at hpk
   dsimp only at hpk
   refine⟨_,rfl,AB (λh3=>⟨DT.2 (by omega),DT.2 (by omega),⟨by omega,by omega,by omega⟩,?_⟩) (λh3=>?_)⟩
   ·rw[if_pos h3]at hpk
    refine hnx2 k' _ _ (by omega) ⟨k',k',rfl,by omega,rfl,hpk,?_⟩
    have hb5:Own w5 0 62 2 ba (k'+1) c (BP (O.take (k'+1))):=H5.xh (.tail _ (.tail _ (.head _)))
    have hb6:=hb5.only (F:=k') (by omega)
    have e2:(BP (O.take (k'+1))).take (k'*2)=BP (O.take k'):=by
     rw[aG (by omega),Xb]
     have:(BP (O.take k')).length=k'*2:=by rw[QT,aJ];omega
     rw[<- this,iq]
    rw[e2]at hb6
    refine(Hp.set (a':=.own 62 2 ba k' k' (BP (O.take k'))) (H5.BF) (Chg.refl _ _) hb6 λk hk=>.inl hk).perm ?_
    refine AL λff gg h0 hc ha hpm=>?_
    simp only[ha,hc,h0];omega
   rw[if_neg h3]at hpk
   refine hJ _ _ ⟨c,?_,?_⟩
   ·rw[<- hpk,aJ];congr 2;omega
   have e3:P.length=k'+1:=by rw[<- hpk,aJ];omega
   rw[e3,<- hpk]
   exact H5
  have hk0:k=0:=by omega
  subst hk0
  rw[KAz]at hpk
  subst hpk
  exact hJ _ _ ⟨c,rfl,H4.drew⟩
 clear H3
 rintro _ w3 ⟨c,rfl,H3⟩
 dsimp only
 have hPl:P.length<=O.length:=by
  obtain⟨m,h2,h3⟩:=XQ O.length O x (aZ _)
  rw[hP,h3,aJ];omega
 have hbad:∀{w':World},KEA (if j=0 then none else(l[j-1]?).map (·.1)) P x->Hp [] w w' (.blk xb [.int .i64 x.1,.int .i64 x.2] 62::.own 3 1 oa j oc (AO L)::.own 62 2 ba P.length c (BP P)::X)->
   (GV l=none/\Ending.returned (.tuple #[.slice none 0 0,.bool false])=.returned (.tuple #[.slice none 0 0,.bool false])/\Hp [] w w' [])\/
   ∃L a c,GV l=some L/\L.length=n/\Ending.returned (.tuple #[.slice none 0 0,.bool false])=.returned (.tuple #[.slice a n c,.bool true])/\Hp [] w w' [.own 3 1 a n c (AO L)]:=λ{w'} hb H=>by
  rw[if_pos hb]at hlev
  exact .inl ⟨by rw[hlev];rfl,rfl,Hp.BM H⟩
 refine xM.mk (λs w'=>s=dec (¬(inS x.1/\inS x.2)\/x.2<=x.1)/\Hp [] w w' (.blk xb [.int .i64 x.1,.int .i64 x.2] 62::.own 3 1 oa j oc (AO L)::.own 62 2 ba P.length c (BP P)::X)) ?_ ?_
 rotate_left
 ·intro J hJ
  have ld0:Ld Tryz.prog 3 w3 ⟨xb,0,none⟩ (.int .i64 x.1):=H3.ld EQ4 xK (.head _) rfl
  have ld1:Ld Tryz.prog 3 w3 ⟨xb,1,none⟩ (.int .i64 x.2):=H3.ld EQ4 xK (.head _) rfl
  refine⟨x.1,ld0,x.2,ld1,λb1 w4 hn4=>?_⟩
  have H4:=H3.new EQ4 hn4
  have hc:Cells w4 (some ⟨b1,0,none⟩) (AO [x.1,x.2]):=λj v hj=>⟨_,rfl,by rw[add_lit,cZ];exact(H4.blk (.head _)).cell hj⟩
  refine AC (Pm _ 2 2 [x.1,x.2] w4 hc rfl (by simp[maxLen])) ?_
  rintro _ _ ⟨rfl,rfl⟩
  have hall:(∀z∈[x.1,x.2],inS z)↔inS x.1/\inS x.2:=by simp
  refine⟨_,rfl,Hg (λh2=>hJ _ _ ⟨DV (.inl λh3=>h2 (hall.2 h3)),H4.drop⟩) (λh2=>⟨x.1,H4.ld EQ4 xK (.tail _ (.head _)) rfl,x.2,H4.ld EQ4 xK (.tail _ (.head _)) rfl,hJ _ _ ⟨?_,H4.drop⟩⟩)⟩
  by_cases h3:x.2<=x.1
  ·exact(decide_eq_true h3).trans (DV (.inr h3))
  exact(decide_eq_false h3).trans (Bz λh4=>h4.elim (λh5=>h5 (hall.1 h2)) h3)
 clear H3
 rintro _ w4 ⟨rfl,H3⟩
 refine KAl (λh2=>hbad (h2.elim .inl λh3=>.inr (.inl h3)) H3) (λh2=>?_)
 refine xM.mk (λs w'=>s=dec (∃z,(if j=0 then none else(l[j-1]?).map (·.1))=some z/\x.1<=z)/\Hp [] w w' (.blk xb [.int .i64 x.1,.int .i64 x.2] 62::.own 3 1 oa j oc (AO L)::.own 62 2 ba P.length c (BP P)::X)) ?_ ?_
 rotate_left
 ·intro J hJ
  refine AB (λh3=>?_) (λh3=>hJ _ _ ⟨Bz λ⟨z,h4,_⟩=>(by rw[if_pos (by omega)]at h4;cases h4),H3.drew⟩)
  obtain⟨p,hp⟩:∃p,l[j-1]? =some p:=⟨_,aB (by omega)⟩
  have hS4:Cells w4.drew sa (BP l):=hS.chg H3.chg (by simp)
  have e1:Int.toNat ((j:Int)-1)=j-1:=by omega
  refine⟨x.1,H3.ld EQ4 xK (.head _) rfl,DT.2 (by omega),AA had ⟨⟨by omega,by omega⟩,p.1,by rw[e1];exact hS4.ld xK had (Tq hp),hJ _ _ ⟨?_,H3.drew⟩⟩⟩
  rw[if_neg (by omega),hp]
  by_cases h4:x.1<=p.1
  ·exact(decide_eq_true h4).trans (DV ⟨p.1,rfl,h4⟩)
  exact(decide_eq_false h4).trans (Bz λ⟨z,h5,h6⟩=>by cases h5;exact h4 h6)
 clear H3
 rintro _ w5 ⟨rfl,H3⟩
 refine KAl (λh3=>hbad (.inr (.inr (.inl h3))) H3) (λh3=>?_)
 have fin:∀{w6:World},Hp [] w w6 (.blk xb [.int .i64 x.1,.int .i64 x.2] 62::.own 3 1 oa j oc (AO L)::.own 62 2 ba P.length c (BP P)::X)->¬KEA (if j=0 then none else(l[j-1]?).map (·.1)) P x->
   ∀(b2:Nat)(w7:World),New w6 (.cells #[.int .i64 (P.length:Int)] 3) b2 w7->∃a n m w8,App Tryz.prog #[59,59] 59 w7 (.slice oa j oc) (.slice (some ⟨b2,0,none⟩) 1 1) (.slice a n m) w8/\∃i i5,Ld Tryz.prog 62 w8 ⟨xb,0,none⟩ (.agg #[.int .i64 i,.int .i64 i5])/\
    ∀(b3:Nat)(w9:World),New w8 (.cells #[.int .i64 i,.int .i64 i5] 62) b3 w9->∃a2 n1 m1 w10,App Tryz.prog #[187,187] 187 w9 (.slice ba P.length c) (.slice (some ⟨b3,0,none⟩) 1 1) (.slice a2 n1 m1) w10/\gB ((j:Int)+1)/\nx ((a,n,m),(a2,n1,m1),(j:Int)+1) w10:=λ{w6} H hb b2 w7 hn7=>by
  rw[if_neg hb]at hlev
  have H7:=H.new (cs:=[.int .i64 (P.length:Int)]) EQ4 hn7
  refine Hp.app Kz (by omega) H7.BF EQ4 (Blk.src (P:=Tryz.prog) LH (H7.blk (.head _)) rfl rfl) (by simp only[maxLen];omega) (by omega) ?_
  intro a' c' w8 H8
  refine⟨x.1,x.2,H8.ldA (o:=0) (cs:=[.int .i64 x.1,.int .i64 x.2]) EQ4 Fz (.tail _ (.tail _ (.head _))) rfl rfl,λb3 w9 hn9=>?_⟩
  have H9:=H8.new (cs:=[.int .i64 x.1,.int .i64 x.2]) EQ4 hn9
  refine Hp.app xC (by omega) H9.JH EQ4 (Blk.src (P:=Tryz.prog) wundS (H9.blk (.head _)) rfl rfl) (by simp only[maxLen];omega) (by omega) ?_
  intro a2 c2 w10 H10
  refine⟨DT.2 (by omega),?_⟩
  have e1:P.length+1=(P++[x]).length:=by simp
  rw[e1]at H10⊢
  refine hnx (n-(j+1)) _ _ (by omega) ⟨j+1,a',c',a2,c2,P++[x],L++[(P.length:Int)],[.blk b3 [.int .i64 x.1,.int .i64 x.2] 62,.blk b2 [.int .i64 (P.length:Int)] 3,.blk xb [.int .i64 x.1,.int .i64 x.2] 62]++X,rfl,by omega,by simp[hL],by simp;omega,rfl,?_,H10.perm ?_⟩
  ·rw[hlev,if_neg (by omega),jB,hx]
   dsimp only[Option.map_some]
   cases KCC (some x.1) (P++[x]) (l.drop (j+1))with
   |none=>rfl
   |some r=>simp
  have e2:AO (L++[(P.length:Int)])=AO L++[.int .i64 (P.length:Int)]:=by simp[AO]
  have e3:BP (P++[x])=BP P++[.int .i64 x.1,.int .i64 x.2]:=by rw[Xb];rfl
  refine AL λff gg h0 hc ha hpm=>?_
  simp only[e2,e3,ha,hc,h0];omega
 have hnot:(∀y,P.getLast? =some y->y.1<x.1/\x.2<y.2)->¬KEA (if j=0 then none else(l[j-1]?).map (·.1)) P x:=λh4 hb=>by
  rcases hb with hb|hb|hb|⟨y,hb1,hb2⟩
  ·exact h2 (.inl hb)
  ·exact h2 (.inr hb)
  ·exact h3 hb
  exact hb2 (h4 y hb1)
 refine AB (λh4=>?_) (λh4=>?_)
 ·have hP0:0<P.length:=by omega
  obtain⟨y,hy⟩:∃y,P[P.length-1]? =some y:=⟨_,aB (by omega)⟩
  have hyl:P.getLast? =some y:=by rw[dZ];exact hy
  have hb:Own w5 0 62 2 ba P.length c (BP P):=H3.xh (.tail _ (.tail _ (.head _)))
  obtain⟨g,hg⟩:=hb.D6 hP0
  have hbd:Cells w5.drew ba (BP P):=hb.cells
  have e1:Int.toNat ((P.length:Int)-1)=P.length-1:=by omega
  refine⟨x.1,x.2,H3.ldA (o:=0) (cs:=[.int .i64 x.1,.int .i64 x.2]) EQ4 Fz (.head _) rfl rfl,DT.2 (by omega),AA hg ⟨⟨by omega,by omega⟩,y.1,y.2,by rw[e1];exact hbd.ldA Fz hg (MV hy) rfl,?_⟩⟩
  refine AC (sIn_spec x.1 x.2 y.1 y.2 w5.drew) ?_
  rintro _ w6 ⟨rfl,H'⟩
  have H4:=H3.drew.xN H'
  refine⟨_,rfl,Hg (λh5=>hbad (.inr (.inr (.inr ⟨y,hyl,h5⟩))) H4) (λh5=>?_)⟩
  exact fin H4 (hnot λy' hy'=>by rw[hyl]at hy';cases hy';exact h5)
 have hP0:P=[]:=ay (by omega)
 exact fin H3.drew (hnot λy hy=>by rw[hP0]at hy;cases hy)
end
end Go.Proofs.YtljenkbpnioipaaGreat
namespace Go.Nod
abbrev none0:BA:=⟨#[]⟩
structure WOk(W:Lj):Prop where
 ok:∀s∈W,s=none0\/CZ s
 one:∀(j k:Nat)(s:BA),W[j]? =some s->W[k]? =some s->s≠none0->j=k
 last:W.getLast? ≠some none0
 len:W.length<=4000
def rF:WOk []:=⟨by simp,by simp,by simp,by simp⟩
def KAP(W:Lj)(n:BA):Prop:=n∈W/\n≠none0
noncomputable instance (W:List ByteArray) (n:ByteArray):Decidable (KAP W n):=Classical.propDecidable _
def yz:Lj->BA->Nat
 | [],_=>0
 |x::r,n=>if x=n then 0 else yz r n+1
theorem Nu:∀{W:Lj}{n:BA},n∈W->W[yz W n]? =some n
 |x::r,n,h=>by
  rw[yz];by_cases e:x=n
  ·rw[if_pos e,dI,e]
  rw[if_neg e,bI];exact Nu ((aP.1 h).resolve_left λh=>e h.symm)
end Go.Nod
namespace Go.Proofs.YtljenkbpnioipaaGreat
noncomputable section
open Go Go.Vc Go.Nod
def kSW:Scl PP 148:=BQ (by kernel_rfl)
def KDM:Scl PP 147:=BQ (by kernel_rfl)
def ML:Agg PP 167 2:=DN (by kernel_rfl)
def ui:Elt PP 148 167 2 24:=DU (by kernel_rfl)
def qi:Elt PP 106 9 1 16:=DU (by kernel_rfl)
def qp:PP.underlying 106=some (.slice 9):=by kernel_rfl
def vY:PP.underlying 148=some (.slice 167):=by kernel_rfl
def I9:KAa PP Gu 147 9 3 (I 0):=⟨by kernel_rfl,by kernel_rfl,by kernel_rfl⟩
def zF(s:BA):Int:=if s=none0 then 0 else 1
def Ak(W:Lj):LV:=W.flatMap λs=>[.string s,I (zF s)]
theorem Fb(l:Lj):(Ak l).length=l.length*2:=by
 induction l with
 |nil=>rfl
 |cons p r a=>simp only[Ak,bW,aF,aK,dK]at a⊢;omega
def wordsC_one(l:Lj):∀u∈Ak l,u.oneCell'=true:=by
 intro u c;obtain⟨p,_,a⟩:=fH.1 c;simp at a;rcases a with rfl|rfl<;>rfl
def F9(p:BA)(r:Lj):Ak (p::r)=.string p::I (zF p)::Ak r:=rfl
def KF(a b:Lj):Ak (a++b)=Ak a++Ak b:=by simp[Ak]
theorem Qv:∀{l:Lj}{k:Nat}{p:BA},l[k]? =some p->((Ak l).drop (k*2)).take 2=[.string p,I (zF p)]
 |x::r,0,p,h=>by simp at h;subst h;rfl
 |x::r,k+1,p,h=>by
  rw[bI]at h;rw[F9,di,eF,eF];exact Qv h
theorem Gs:∀{l:Lj}{k:Nat}{p:BA},l[k]? =some p->(Ak l)[k*2+1]? =some (I (zF p))
 |x::r,0,p,h=>by simp at h;subst h;rfl
 |x::r,k+1,p,h=>by
  rw[bI]at h;rw[F9,di];exact Gs h
theorem Om:∀(l:Lj)(k:Nat)(z:BA),k<l.length->over [.string z,I (zF z)] (k*2) (Ak l)=Ak (l.set k z)
 |x::r,0,z,_=>by
  rw[bz,F9,F9];exact FU [.string z,I (zF z)] [] [.string x,I (zF x)] (Ak r) rfl
 |x::r,k+1,z,h=>by
  have i:=Om r k z (by simpa using h);have m:k<r.length:=by simpa using h
  rw[bu,F9,F9,<- i];have n:=Fb r
  have e:Ak r=(Ak r).take (k*2)++(((Ak r).drop (k*2)).take 2++(Ak r).drop (k*2+2)):=by
   rw[<- dS,bY,bY]
  have a:((Ak r).take (k*2)).length=k*2:=by rw[aJ];omega
  have c:(((Ak r).drop (k*2)).take 2).length=2:=by rw[aJ,bf];omega
  have d:=FU [.string z,I (zF z)] ((Ak r).take (k*2)) (((Ak r).drop (k*2)).take 2) ((Ak r).drop (k*2+2)) c.symm;rw[a,<- e]at d;have g:=FU [.string z,I (zF z)] (.string x::I (zF x)::(Ak r).take (k*2)) (((Ak r).drop (k*2)).take 2) ((Ak r).drop (k*2+2)) c.symm;have j:(Value.string x::I (zF x)::(Ak r).take (k*2)).length=(k+1)*2:=by rw[aK,aK,a];omega
  rw[j,aH,aH,<- e]at g;rw[d,g];rfl
structure Gf(W:Lj)(al:List (BA×Value)):Prop where
 apart:FN al
 iff:∀(n:BA)(v:Value),(n,v)∈al↔∃k:Nat,W[k]? =some n/\n≠none0/\v=I ((k:Int)+1)
theorem Gf.get{W:Lj}{al:List (BA×Value)}(h:Gf W al)(g:WOk W)(n:BA):xZ al n=if KAP W n then some (I ((yz W n:Nat)+1:Int))else none:=by
 by_cases a:KAP W n
 ·rw[if_pos a];exact(FV h.apart).2 ((h.iff n _).2 ⟨_,Nu a.1,a.2,rfl⟩)
 rw[if_neg a];cases e:xZ al n with
 |none=>rfl
 |some v=>
  obtain⟨k,c,d,_⟩:=(h.iff n v).1 ((FV h.apart).1 e);exact(a ⟨aC c,d⟩).elim
def J7(b mb:Nat)(a:OA)(c:Nat)(W:Lj)(al:List (BA×Value)):List Asn:=[.blk b [.slice a W.length c,.map (some mb)] 150,.own 167 2 a W.length c (Ak W),.xH mb al]
def Td(b:Nat)(W:Lj)(L:List Asn):Prop:=WOk W/\∃mb a c al,Gf W al/\L=J7 b mb a c W al
def Az(f:Nq)(b:Nat)(W:Lj):Asn:=pkA f (Td b W)
def XE(w:Wq):CP 38 #[] w λe w'=>∃b f,e=Ej (pq b)/\Hp [] w w' [Az f b []]:=by
 apply Jfh;intro a l c;have H:=(Hp.start w).KFF EQ4 c;intro b d g;have h:=(H.nw g).yS 167 2;have i:Hp [] w d (J7 b a none 0 [] []++[]):=h.AX;obtain⟨f,j⟩:=i.D5 (Q:=Td b []) ⟨rF,a,none,0,[],⟨mP,by simp⟩,rfl⟩;exact⟨b,f,rfl,j⟩
section
variable{f:List Nat}{b:Nat}{W:List ByteArray}{w:World}
def Ny(h:(Az f b W).ok w)(n:BA):CP 100 #[pq b,.string n] w λe w'=>e=Ej (.tuple #[I (if KAP W n then(yz W n:Int)+1 else 0),.bool (dec (KAP W n))])/\w'=w:=by
 apply Jfd;obtain⟨L,⟨i,j,a,c,l,m,rfl⟩,o,_⟩:=E5 h;have H:=Hp.Cb o;have g:=m.get i n;refine AA rfl ⟨some j,by rw[add_lit];exact H.lo KDM,(if KAP W n then(yz W n:Int)+1 else 0),(xZ l n).isSome,H.XN I9 EQ4 m2 ?_ rfl,?_,rfl⟩
 ·rw[g];split<;>rfl
 rw[g];by_cases d:KAP W n
 ·rw[if_pos d,if_pos d,<- DV d];rfl
 rw[if_neg d,if_neg d,<- Bz d];rfl
def xClone_spec(h:(Az f b W).ok w):Calls Tryz.prog 51 #[.pointer (some ⟨b,0,none⟩)] w λe w'=>∃n o i,e=.returned (.pointer (some ⟨i,0,none⟩))/\Hp f w w' [Az n b W,Az o i W]:=by
 apply Jfb;have B:Hp f w w [Az f b W]:=BU h;obtain⟨M,⟨p,j,a,c,g,x,rfl⟩,H,Y⟩:=B.unpack;have Z:=p.len;refine AA rfl ⟨a,W.length,c,H.ld EQ4 kSW (.head _) rfl,AA rfl ⟨some j,by rw[add_lit];exact H.ld EQ4 KDM (.head _) rfl,?_⟩⟩;have y:Own w 0 167 2 a W.length c (Ak W):=H.xh m1;have q:Cells w.drew a (Ak W):=y.cells;refine AC (lCloneW_spec a W.length c (Ak W) w.drew q (Fb W) (wordsC_one W) (Sj y) om) ?_;rintro _ z ⟨l,m,rfl,C⟩;have r:=H.drew.yC C;refine⟨l,_,m,rfl,by rw[add_lit];exact r.ld EQ4 KDM m1 rfl,?_⟩;have D:MapAt Gu z j g:=r.ok _ m3;refine AC (lMCloneSI_spec j g z D) ?_;rintro _ F ⟨d,rfl,G,s,t⟩
 have J:Hp f w F (.xH d g::_):=r.add t s (λk K=>by
  have:k=d:=by simpa [Asn.foot]using K
  omega)
 refine⟨some d,rfl,λi A u=>?_⟩;have L:=J.new (cs:=[.slice l W.length m,.map (some d)]) EQ4 u
 have N:Hp f w A (J7 b j a c W g++(J7 i d l m W g++[])):=L.perm (by
  refine AL λff gg O t R T=>?_;simp only[J7,R,t,O];omega)
 obtain⟨n,U⟩:=N.D5 (Q:=Td b W) ⟨p,j,a,c,g,x,rfl⟩;obtain⟨o,X⟩:=(U.perm bP.symm:Hp f w A (J7 i d l m W g++[Az n b W])).D5 (Q:=Td i W) ⟨p,d,l,m,g,x,rfl⟩;exact⟨n,o,i,rfl,X.AX⟩
def BN(l:Lj):LV:=l.map .string
def Ws(h:(Az f b W).ok w):CP 97 #[pq b] w λe w'=>∃a c,e=Ej (.slice a W.length c)/\Hp [] w w' [.own 9 1 a W.length c (BN W)]:=by
 apply Je9;obtain⟨L,⟨y,N,a,c,O,R,rfl⟩,z,_⟩:=E5 h;have H:=Hp.Cb z;have T:=y.len;have A:Own w 0 167 2 a W.length c (Ak W):=H.xh m1;refine AA rfl ⟨a,W.length,c,H.lo kSW,?_⟩;refine xI.mk (λq s w'=>∃(j:Nat)(m:OA)(n:Nat)(X:List Asn),q=W.length-j/\j<=W.length/\s=((m,j,n),(j:Int))/\Hp [] w w' (.own 9 1 m j n (BN (W.take j))::X)) W.length ⟨0,none,0,[],rfl,om,rfl,(Hp.start w).yS 9 1⟩ ?_;rintro q s B U ⟨j,m,n,X,rfl,Y,rfl,H⟩ o;dsimp only;refine AB (λt=>?_) (λt=>?_)
 ·have d:j<W.length:=om;have C:W[j]? =some W[j]:=aB d;have i:Cells B a (Ak W):=A.cells.chg H.chg (by simp);have g:=Qv C;obtain⟨Z,l⟩:=i.some (λe=>by rw[e]at g;simp at g);refine AA l ⟨⟨om,t⟩,W[j],zF W[j],i.ldA ML l g rfl,?_⟩;intro D w2 p;have F:=H.nw p;refine Hp.stA F EQ4 ML rfl rfl (by simp) rfl λw3 u=>?_;refine⟨W[j],u.lo xx,?_⟩;intro G w4 r;have x:=u.nw r;refine Hp.app qi om x.BF EQ4 (Blk.src qp (x.blk (.head _)) rfl rfl) (by simp only[maxLen];omega) om ?_;intro J K w5 M;refine⟨iR,o (W.length-(j+1)) _ _ om ⟨j+1,J,K,.blk G [.string W[j]] 9::.blk D [.string W[j],I (zF W[j])] 167::X,rfl,om,rfl,?_⟩⟩
  have e:BN (W.take (j+1))=BN (W.take j)++[.string W[j]]:=by
   rw[BN,BN,aG d,ai];rfl
  rw[e];exact M
 have d:j=W.length:=om;subst d;rw[bJ]at H;exact⟨m,n,rfl,Hp.BM H⟩
def atW(W:Lj)(n:Int):BA:=if n<1 then none0 else W[n.toNat-1]?.getD none0
def Yd(h:(Az f b W).ok w)(n:Int)(M:n<=1000000):CP 157 #[pq b,I n] w λe w'=>e=Ej (.agg #[.string (atW W n),I (zF (atW W n))])/\Hp [] w w' []:=by
 apply Jfa;obtain⟨L,⟨C,y,a,c,N,O,rfl⟩,D,_⟩:=E5 h;have R:=C.len;have z:=Hp.Cb D;have F:Own w 0 167 2 a W.length c (Ak W):=z.xh m1;have G:Blk w b [.slice a W.length c,.map (some y)] 150:=z.blk (.head _);intro A p r;have H:=(Hp.start w).nw r;have t:Blk p b [.slice a W.length c,.map (some y)] 150:=G.chg H.chg (by simp);have ld0:Ld PP 148 p ⟨b,0,none⟩ (.slice a W.length c):=t.ld kSW.agg rfl
 have j:atW W n=none0->∃d,St PP 167 p ⟨A,0,none⟩ (.agg #[.string none0,I 0]) d/\∃s i,Ld PP 167 d ⟨A,0,none⟩ (.agg #[.string s,I i])/\Ending.returned (.agg #[.string s,I i])=Ej (.agg #[.string (atW W n),I (zF (atW W n))])/\Hp [] w d []:=λe=>by
  refine Hp.stA H EQ4 ML rfl rfl (by simp) rfl λJ l=>?_;exact⟨none0,0,l.loA ML,by rw[e];rfl,l.drop⟩
 refine AB (λq=>j (by rw[atW,if_pos q])) (λq=>AA rfl ⟨a,W.length,c,ld0,AB (λK=>j ?_) (λK=>AA rfl ⟨a,W.length,c,ld0,iR,?_⟩)⟩)
 ·rw[atW,if_neg q,bC om];rfl
 obtain⟨k,T⟩:∃k:Nat,n=(k:Int)+1:=⟨n.toNat-1,om⟩;have u:k<W.length:=om;have B:W[k]? =some W[k]:=aB u
 have x:atW W n=W[k]:=by
  rw[atW,if_neg q,show n.toNat-1=k by omega,B];rfl
 have m:Cells p a (Ak W):=F.cells.chg H.chg (by simp);have g:=Qv B;obtain⟨U,o⟩:=m.some (λe=>by rw[e]at g;simp at g);rw[x];refine AA o ⟨⟨om,om⟩,W[k],zF W[k],by rw[show(n-1).toNat=k by omega];exact m.ldA ML o g rfl,?_⟩;refine Hp.stA H EQ4 ML rfl rfl (by simp) rfl λJ l=>?_;exact⟨W[k],zF W[k],l.loA ML,rfl,l.drop⟩
def xName_spec(h:(Az f b W).ok w)(n:Int)(d:n<=1000000):CP 198 #[pq b,I n] w λe w'=>e=Ej (.tuple #[.string (atW W n),.bool (decide (atW W n≠none0))])/\Hp [] w w' []:=by
 apply Jfg;refine AC (Yd h n d) ?_;rintro _ i ⟨rfl,g⟩;refine⟨_,_,rfl,λj l a=>?_⟩;have H:=g.nw a;refine Hp.stA H EQ4 ML rfl rfl (by simp) rfl λm c=>?_;refine⟨atW W n,c.lo xx,zF (atW W n),c.lo xK,?_,c.drew.drop⟩
 have:decide (0<zF (atW W n))=decide (atW W n≠none0):=by
  rw[zF];by_cases e:atW W n=none0
  ·rw[if_pos e];simp[e]
  rw[if_neg e];simp[e]
 rw[this]
end
end
end Go.Proofs.YtljenkbpnioipaaGreat
namespace Go.Nod
noncomputable section
open Classical
theorem Qm:∀(W:Lj)(n:BA),yz W n<=W.length
 | [],_=>aZ _
 |x::r,n=>by
  have:=Qm r n;rw[yz];split<;>simp<;>omega
theorem Tz:∀(W:Lj)(n:BA)(k:Nat)(s:BA),W[k]? =some s->k<yz W n->s≠n
 |x::r,n,0,s,h,hk=>by
  rw[dI]at h;cases h;rw[yz]at hk;intro e;rw[if_pos e]at hk;omega
 |x::r,n,k+1,s,h,hk=>by
  rw[bI]at h;rw[yz]at hk;by_cases e:x=n
  ·rw[if_pos e]at hk;omega
  rw[if_neg e]at hk;exact Tz r n k s h om
theorem qh{W:Lj}{n:BA}(h:n∉W):yz W n=W.length:=by
 induction W with
 |nil=>rfl
 |cons x r a=>
  rw[aP,not_or]at h;rw[yz,if_neg λe=>h.1 e.symm,a h.2,aK]
def KAV(W:Lj)(n:BA):Lj:=if yz W none0<W.length then W.set (yz W none0) n else W++[n]
def KDI(W:Lj):Nat:=(W.filter λs=> !decide (s=none0)).length
def Nc:Nat->Lj->Lj
 |0,_=>[]
 |n+1,W=>match W[n]? with
  |some s=>if s=none0 then Nc n W else W.take (n+1)
  |none=>W.take (n+1)
def JU(W:Lj)(k:Nat):Lj:=Nc W.length (W.set k none0)
def KT{W:Lj}{n:BA}(k:Nat):(KAV W n)[k]? =if k=yz W none0 then some n else W[k]? :=by
 rw[KAV];have c:=Qm W none0;split
 ·rename_i h;rw[jX];by_cases e:k=yz W none0
  ·rw[if_pos e.symm,if_pos e,if_pos om]
  rw[if_neg λh=>e h.symm,if_neg e]
 rename_i h;have a:yz W none0=W.length:=om;rw[a];by_cases e:k=W.length
 ·subst e;simp
 rw[if_neg e];by_cases b:k<W.length
 ·rw[bQ b]
 rw[bC (by simp;omega),bC om]
def cnt_full{W:Lj}(h:none0∉W):KDI W=W.length:=by
 rw[KDI,gV.2];intro s a;have:s≠none0:=λe=>h (e▸a);simp[this]
def WOk.add{W:Lj}(h:WOk W){n:BA}(g:CZ n)(i:¬KAP W n)(q:KDI W<4000):WOk (KAV W n):=by
 have c:n≠none0:=λe=>by rw[e]at g;exact absurd g.1 (by decide)
 have l:n∉W:=λm=>i ⟨m,c⟩;have r:=Qm W none0;have d:∀k,W[k]? ≠some n:=λk a=>l (aC a);refine⟨λs o=>?_,λj k s f a o=>?_,?_,?_⟩
 ·obtain⟨k,a⟩:=bD o;rw[KT]at a;split at a
  ·cases a;exact .inr g
  exact h.ok s (aC a)
 ·rw[KT]at f a;split at f<;>split at a
  ·omega
  ·cases f;exact(d _ a).elim
  ·cases a;exact(d _ f).elim
  exact h.one j k s f a o
 ·intro e;rw[dZ,KT]at e;split at e
  ·cases e;exact c rfl
  rename_i b;rw[KAV]at e b;split at e
  ·rw[bU]at e;exact h.last (by rw[dZ];exact e)
  rename_i p;rw[if_neg p]at b;simp at b;omega
 rw[KAV];have:=h.len;split
 ·rw[bU];exact this
 rename_i p
 have:none0∉W:=λm=>by
  have:=(aA.1 (Nu m)).1;omega
 have:=cnt_full this;simp;omega
theorem rC:∀(n:Nat)(W:Lj),n<=W.length->∃m,m<=n/\Nc n W=W.take m/\(∀k s,m<=k->k<n->W[k]? =some s->s=none0)/\(0<m->W[m-1]? ≠some none0)
 |0,W,_=>⟨0,aZ _,by simp[Nc],λk s f c=>by omega,λh=>by omega⟩
 |n+1,W,h=>by
  have e:W[n]? =some W[n]:=aB om;rw[Nc,e];dsimp only;by_cases b:W[n]=none0
  ·rw[if_pos b];obtain⟨m,f,c,i,j⟩:=rC n W om;refine⟨m,om,c,λk s d l a=>?_,j⟩;by_cases o:k=n
   ·subst o;rw[e]at a;cases a;exact b
   exact i k s d om a
  rw[if_neg b];refine⟨n+1,aZ _,rfl,λk s f c=>by omega,λ_ g=>b ?_⟩;rw[jB,e]at g;exact Option.some.inj g
def drop_at{W:Lj}{k:Nat}(g:k<W.length):∃m,m<=W.length/\JU W k=(W.set k none0).take m/\(∀(j:Nat)(s:BA),s≠none0->((JU W k)[j]? =some s↔W[j]? =some s/\j≠k))/\(JU W k).getLast? ≠some none0:=by
 obtain⟨m,d,c,i,l⟩:=rC W.length (W.set k none0) (by rw[bU];exact aZ _);refine⟨m,d,c,λj s f=>?_,?_⟩
 ·rw[JU,c]
  have a:(W.set k none0)[j]? =some s↔W[j]? =some s/\j≠k:=by
   rw[jX];by_cases e:k=j
   ·subst e;rw[if_pos rfl,if_pos g];exact⟨λh=>(by cases h;exact(f rfl).elim),λh=>(h.2 rfl).elim⟩
   rw[if_neg e];exact⟨λh=>⟨h,λh=>e h.symm⟩,λh=>h.1⟩
  rw[<- a];by_cases n:j<m
  ·rw[bn n]
  rw[bC (by rw[aJ];omega)];refine⟨λh=>(by cases h),λh=>?_⟩;have b:=(aA.1 h).1;rw[bU]at b;exact(f (i j s om b h)).elim
 rw[JU,c];intro e;rw[dZ,aJ,bU,fE d]at e;by_cases o:0<m
 ·rw[bn om]at e;exact l o e
 have:m=0:=om;subst this;simp at e
def WOk.drop{W:Lj}(h:WOk W){k:Nat}(e:k<W.length):WOk (JU W k):=by
 obtain⟨m,n,c,d,f⟩:=drop_at e
 have b:∀s∈JU W k,s=none0\/s∈W:=λs a=>by
  rw[c]at a;exact(gG (dJ a)).symm
 refine⟨λs a=>?_,λi j s g l a=>?_,f,?_⟩
 ·rcases b s a with a|a
  ·exact .inl a
  exact h.ok s a
 ·exact h.one i j s ((d i s a).1 g).1 ((d j s a).1 l).1 a
 rw[c,aJ,bU];have:=h.len;omega
end
end Go.Nod
namespace Go.Proofs.YtljenkbpnioipaaGreat
noncomputable section
open Go Go.Vc Go.Nod
def Gf.add{W:Lj}{al:List (BA×Value)}(h:Gf W al)(q:WOk W){n:BA}(d:n≠none0)(f:¬KAP W n):Gf (KAV W n) (xY al n (I ((yz W none0:Int)+1))):=by
 have j:=h.get q n;rw[if_neg f]at j;have l:=Jo.1 j;rw[MZ _ _ _ l];have r:∀k,W[k]? ≠some n:=λk s=>f ⟨aC s,d⟩;refine⟨?_,λm v=>?_⟩
 ·rw[FN,ai,bG];exact⟨h.apart,by simp,λa t c o e=>by rw[aj,jC,aW]at o;subst o;exact l (e▸t)⟩
 rw[aT,aW,h.iff];constructor
 ·rintro(⟨k,b,g,i⟩|b)
  ·refine⟨k,?_,g,i⟩;rw[KT,if_neg,b];intro e;subst e;have u:=Qm W none0;by_cases p:none0∈W
   ·rw[Nu p]at b;cases b;exact g rfl
   rw[qh p,bC (aZ _)]at b;cases b
  cases b;exact⟨yz W none0,by rw[KT,if_pos rfl],d,rfl⟩
 rintro⟨k,b,g,i⟩;rw[KT]at b;split at b
 ·rename_i e;cases b;exact .inr (by rw[i,e])
 exact .inl ⟨k,b,g,i⟩
def Gf.drop{W:Lj}{al:List (BA×Value)}(h:Gf W al)(p:WOk W){k:Nat}{n:BA}(f:W[k]? =some n)(g:n≠none0):Gf (JU W k) (zx al n):=by
 have i:=(aA.1 f).1;obtain⟨m,r,s,o,t⟩:=drop_at i;rw[VB h.apart];refine⟨?_,λa v=>?_⟩
 ·have:(KDi al n).Sublist al:=kV;exact h.apart.sublist (this.map _)
 rw[KDi,dO,h.iff];constructor
 ·rintro⟨⟨j,b,c,l⟩,d⟩;refine⟨j,(o j a c).2 ⟨b,λe=>?_⟩,c,l⟩;subst e;rw[f]at b;cases b;simp at d
 rintro⟨j,b,c,l⟩;obtain⟨d,q⟩:=(o j a c).1 b;refine⟨⟨j,d,c,l⟩,?_⟩;have:a≠n:=λe=>q (p.one j k n (e▸d) f g);simp[this]
def Gf.len{W:Lj}{al:List (BA×Value)}(h:Gf W al)(d:WOk W):al.length=KDI W:=by
 have b:(al.map (·.1)).Perm (W.filter λs=> !decide (s=none0)):=by
  refine(fU h.apart ?_).2 λn=>?_
  ·rw[List.Nodup,List.pairwise_filter,dE];intro i j f g l m r e;have:=d.one i j W[i] (aB f) (by rw[aB g,e]) (by simpa using m);omega
  rw[aU,dO];constructor
  ·rintro⟨⟨a,v⟩,c,rfl⟩;obtain⟨k,b,o,_⟩:=(h.iff a v).1 c;exact⟨aC b,by simp[o]⟩
  rintro⟨c,p⟩;obtain⟨k,q⟩:=bD c;exact⟨(n,_),(h.iff n _).2 ⟨k,q,by simpa using p,rfl⟩,rfl⟩
 have:=b.length_eq;rw[aQ]at this;exact this
end
end Go.Proofs.YtljenkbpnioipaaGreat
namespace Go.Vc
def Hp.delS{P:Program}{B:Nq}{w0 w w':Wq}{L:List Asn}{t h i:TypeId}{z:Value}{b:Nat}{al:List (BA×Value)}(T:KAa P Gu t h i z){g:Array TypeId}{ty:TypeId}(d:g[0]? =some t)(H:Hp B w0 w (.xH b al::L))(e:Eqw w w'){x:BA}{G:WP}
  (kk:∀w1,Hp B w0 w1 (.xH b (zx al x)::L)->G w1):∃w1,Del P g ty w' (.map (some b)) (.string x) w1/\G w1:=by
 obtain⟨w1,j,l,m⟩:=qx (ty:=ty) T d ((H.go e).ok _ (.head _)) x;exact⟨w1,j,kk w1 ((H.go e).set m l λk n=>.inl n)⟩
end Go.Vc
namespace Go.Nod
theorem pos_none_of(W:Lj)(n:BA)(j:Nat)(h:∀k<j,∀s,W[k]? =some s->s≠n)(d:j<=W.length):j<=yz W n:=by
 induction W generalizing j with
 |nil=>
  have:j=0:=by simpa using d
  omega
 |cons x r e=>
  cases j with
  |zero=>omega
  |succ j=>
   have g:=h 0 om x rfl;rw[yz,if_neg g];have:=e j (λk l s i=>h (k+1) om s (by rw[bI];exact i)) (by simpa using d);omega
end Go.Nod
namespace Go.Proofs.YtljenkbpnioipaaGreat
noncomputable section
open Go Go.Vc Go.Nod
def J6(s:BA):zF s=0↔s=none0:=by
 rw[zF];by_cases e:s=none0
 ·rw[if_pos e];exact⟨λ_=>e,λ_=>rfl⟩
 rw[if_neg e];exact⟨λh=>by omega,λh=>(e h).elim⟩
section
variable{b mb:Nat}{a:Option Addr}{c:Nat}{W:List ByteArray}{al:List (ByteArray×Value)}{w:World}
def xFree_w(g:Std w (J7 b mb a c W al))(A:W.length<=4000):CP 158 #[pq b] w λe w'=>e=Ej (I ((yz W none0:Int)+1))/\w'=w:=by
 apply Jfe;have H:=Hp.Cb g;have ld0:Ld PP 148 w ⟨b,0,none⟩ (.slice a W.length c):=H.lo kSW;have p:Own w 0 167 2 a W.length c (Ak W):=H.xh m1;refine xI.mk (λq s w'=>∃j:Nat,q=W.length-j/\j<=W.length/\s=(j:Int)+1/\(∀k<j,∀s,W[k]? =some s->s≠none0)/\w'=w) W.length ⟨0,rfl,om,rfl,λk r=>by omega,rfl⟩ ?_;rintro q s _ B ⟨j,rfl,t,rfl,d,rfl⟩ n;have u:=pos_none_of W none0 j d t;refine AA rfl ⟨a,W.length,c,ld0,AB (λx=>AA rfl ⟨a,W.length,c,ld0,iR,?_⟩) (λx=>?_)⟩
 ·have i:j<W.length:=om;have m:W[j]? =some W[j]:=aB i;obtain⟨C,l,_⟩:=p.cells _ _ (Gs m);refine AA l ⟨⟨om,om⟩,zF W[j],?_,AB (λo=>?_) (λo=>⟨iR,?_⟩)⟩
  ·rw[add_add,show((j:Int)+1-1).toNat=j by omega];exact p.cells.ld xK l (Gs m)
  ·have y:=(J6 _).1 o
   have:yz W none0=j:=by
    refine Nat.le_antisymm (qL.1 λz=>?_) u;exact Tz W none0 j W[j] m z y
   exact⟨by rw[this],rfl⟩
  refine n (W.length-(j+1)) _ _ om ⟨j+1,rfl,om,rfl,λk r s g=>?_,rfl⟩;by_cases e:k=j
  ·subst e;rw[m]at g;cases g;exact λh=>o ((J6 _).2 h)
  exact d k om s g
 have i:j=W.length:=om;have:=Qm W none0;exact⟨by rw[show yz W none0=j by omega],rfl⟩
end
section
variable{f:List Nat}{b:Nat}{W:List ByteArray}{w:World}
def KAU(W:Lj)(n:BA):Lj×Int×Int:=open Classical in if¬CZ n then(W,0,63)else if 4000<=KDI W then(W,0,150)else(KAV W n,(yz W none0:Int)+1,0)
def xAdd_spec(h:(Az f b W).ok w)(n:BA)(m:¬KAP W n):CP 101 #[pq b,.string n] w λe w'=>∃F,e=Ej (.tuple #[I (KAU W n).2.1,I (KAU W n).2.2])/\Hp f w w' [Az F b (KAU W n).1]:=by
 apply Je8;have r:Hp f w w [Az f b W]:=BU h;obtain⟨M,⟨s,mb,a,c,al,G,rfl⟩,H,hf⟩:=r.unpack;have hl:=s.len;have K:=G.get s n;rw[if_neg m]at K;have t:=G.len s;refine AA rfl ⟨some mb,by rw[add_lit];exact H.ld EQ4 KDM (.head _) rfl,0,false,H.XN I9 EQ4 (t2 (.head _)) (by rw[K];rfl) (by rw[K];rfl),?_⟩;refine AC (Iz n w) ?_;rintro _ w1 ⟨rfl,Hn⟩;replace r:=r.xN Hn;replace H:=H.xN Hn;refine⟨_,rfl,Hg (λj=>⟨f,by rw[KAU,if_pos j],by rw[KAU,if_pos j];exact r⟩) (λj=>Au ?_)⟩;have hm:MapAt Gu w1 mb al:=H.ok _ (t2 (.head _));refine AA rfl ⟨some mb,by rw[add_lit];exact H.ld EQ4 KDM (.head _) rfl,_,run_len_map I9.und hm,?_⟩;rw[t];refine AB (λh2=>⟨f,by rw[KAU,if_neg (λh=>h j),if_pos om],by rw[KAU,if_neg (λh=>h j),if_pos om];exact r⟩) (λh2=>?_);have hR:KAU W n=(KAV W n,(yz W none0:Int)+1,0):=by rw[KAU,if_neg (λh=>h j),if_neg om]
 rw[hR];have u:n≠none0:=λe=>by rw[e]at j;exact absurd j.1 (by decide)
 have N:=s.add j m om;have x:=G.add s u m;refine AC (xFree_w H.KCE hl) ?_;rintro _ _ ⟨rfl,rfl⟩;refine⟨_,rfl,?_⟩;have hp:=Qm W none0;obtain⟨p,y⟩:∃p,p=yz W none0:=⟨_,rfl⟩;rw[<- y]at hp x⊢;obtain⟨V,B⟩:∃V,V=if p<W.length then W else W++[none0]:=⟨_,rfl⟩
 have O:p<V.length/\V.length<=4001:=by
  rw[B];split
  ·omega
  simp;omega
 have z:V.set p n=KAV W n:=by
  rw[B,KAV,<- y];split
  ·rfl
  have:p=W.length:=om;subst this;simp
 refine xM.mk (λ_ w'=>∃(d:OA)(i:Nat)(X:List Asn),Hp f w w' (.blk b [.slice d V.length i,.map (some mb)] 150::.own 167 2 d V.length i (Ak V)::.xH mb al::X)) ?_ ?_;rotate_left
 ·intro J hJ;refine AA rfl ⟨a,W.length,c,H.ld EQ4 kSW (.head _) rfl,AB (λh3=>?_) (λh3=>?_)⟩
  ·have l:V=W++[none0]:=by rw[B,if_neg om]
   refine AA rfl ⟨a,W.length,c,H.ld EQ4 kSW (.head _) rfl,λxb w2 R=>?_⟩;have q:=H.new (cs:=[.string none0,I 0]) EQ4 R;refine Hp.app ui om q.BF EQ4 (Blk.src vY (q.blk (.head _)) rfl rfl) (by simp only[maxLen];omega) om ?_;intro d i w3 C;refine AA rfl (Hp.st C.BF EQ4 kSW rfl rfl (by simp) (cs':=[.slice d (W.length+1) i,.map (some mb)]) rfl λw4 D=>hJ _ _ ⟨d,i,[.blk xb [.string none0,I 0] 167],D.perm ?_⟩);have T:V.length=W.length+1:=by rw[l];simp
   have e2:Ak V=Ak W++[.string none0,I 0]:=by rw[l,KF];rfl
   refine AL λff gg U Y Z aa=>?_;simp only[J7,T,e2,Z,Y,U,aY,aX,aO];omega
  have l:V=W:=by rw[B,if_pos om]
  refine hJ _ _ ⟨a,c,[],?_⟩;rw[l];rw[aX]at H;exact H
 rintro _ w2 ⟨d,i,X,q⟩;refine AA rfl ⟨d,V.length,i,q.ld (o:=0) (cs:=[.slice d V.length i,.map (some mb)]) EQ4 kSW (.head _) rfl,DT.2 om,?_⟩;have ho:Own w2 0 167 2 d V.length i (Ak V):=q.xh (.tail _ (.head _));obtain⟨g,A⟩:=ho.D6 om;refine AA A ⟨⟨om,om⟩,?_⟩;rw[show((p:Int)+1-1).toNat=p by omega];have ab:zF n=1:=by rw[zF,if_neg u]
 refine Hp.stO (v:=.agg #[.string n,I 1]) (o:=p*2) q.AX EQ4 A ML.size rfl (by rw[Fb];simp[Value.cells];omega) (xs':=Ak (KAV W n)) (by rw[<- z,<- Om V p n O.1,ab];rfl) λw3 C=>?_;refine AA rfl ⟨some mb,by rw[add_lit];exact C.ld (o:=1) (cs:=[.slice d V.length i,.map (some mb)]) EQ4 KDM (.tail _ (.head _)) rfl,?_⟩;refine Hp.KEC I9 C.BF EQ4 λw4 D=>?_;have T:V.length=(KAV W n).length:=by rw[<- z,bU]
 rw[T]at D
 have H5:Hp f w w4 (J7 b mb d i (KAV W n) (xY al n (I ((p:Int)+1)))++X):=D.perm (by
  refine AL λff gg U Y Z aa=>?_;simp only[I,J7,Z,Y,U];omega)
 obtain⟨F,H6⟩:=H5.D5 (Q:=Td b (KAV W n)) ⟨N,mb,d,i,_,x,rfl⟩;exact⟨F,rfl,Hp.BM (L:=[_]) H6⟩
def xDrop_spec(h:(Az f b W).ok w)(k:Nat)(n:BA)(r:W[k]? =some n)(s:n≠none0):CP 99 #[pq b,I ((k:Int)+1)] w λe w'=>∃t,e=Ej (.bool true)/\Hp f w w' [Az t b (JU W k)]:=by
 apply Jfc;have H0:Hp f w w [Az f b W]:=BU h;have x:=(aA.1 r).1
 have hl:W.length<=4000:=by
  obtain⟨L,⟨O,_⟩,_⟩:=E5 h;exact O.len
 have Y:atW W ((k:Int)+1)=n:=by
  rw[atW,if_neg om,show((k:Int)+1).toNat-1=k by omega,r];rfl
 have y:zF n=1:=by rw[zF,if_neg s]
 have A:=Yd h ((k:Int)+1) om;rw[Y,y]at A;refine AC A ?_;rintro _ w1 ⟨rfl,H1⟩;obtain⟨M,⟨O,mb,a,c,al,hN,rfl⟩,H,hf⟩:=(H0.xN H1).unpack;refine⟨_,_,rfl,λxb w2 Z=>?_⟩;have H2:=H.nw Z;refine Hp.sA H2 ML (cs':=[.string n,I 1]) λw3 R=>?_;refine⟨1,R.lo xK,AB (λh1=>by omega) (λ_=>?_)⟩;have ho:Own w3 0 167 2 a W.length c (Ak W):=R.xh m2;obtain⟨g,p⟩:=ho.D6 om;have hu:=Gs r;rw[y]at hu;refine AA rfl ⟨a,W.length,c,R.lo kSW,iR,AA p ⟨⟨om,om⟩,1,?_,by exact iR,AA p ⟨⟨om,om⟩,?_⟩⟩⟩
 ·rw[add_add,show((k:Int)+1-1).toNat=k by omega];exact ho.cells.ld xK p hu
 rw[add_add,show((k:Int)+1-1).toNat=k by omega];refine Hp.KEq R.BF EQ4 xK p rfl rfl (by rw[Fb];omega) λw4 T=>?_;refine⟨1,T.lo xK,AB (λh1=>by omega) (λ_=>?_)⟩;refine AA rfl ⟨some mb,by rw[add_lit];exact T.lo KDM,n,T.lo xx,?_⟩;refine Hp.delS I9 rfl T.ET EQ4 λw5 H5=>?_;refine AA rfl ⟨a,W.length,c,H5.lo kSW,iR,AA p ⟨⟨om,om⟩,?_⟩⟩
 have aa:over [Value.string none0,I 0] (k*2) ((Ak W).set (k*2+1) (I (1-1)))=Ak (W.set k none0):=by
  rw[<- Om W k none0 x];have e0:zF none0=0:=rfl;have ab:∀(xs:LV)(i:Nat)(u v z:Value),((xs.set (i+1) u).set i v).set (i+1) z=(xs.set i v).set (i+1) z:=λxs i u v z=>by rw[List.set_comm u v om,List.set_set]
  have am:=Fb W;rw[e0,yf _ _ _ _ (by rw[bU];omega),yf _ _ _ _ (by rw[bU,bU];omega),yf _ _ _ _ om,yf _ _ _ _ (by rw[bU];omega),yQ,yQ,ab]
 refine Hp.stO (v:=.agg #[.string none0,I 0]) (o:=k*2) H5.AX EQ4 p ML.size rfl (by rw[bU,Fb];simp[Value.cells];omega) (xs':=Ak (W.set k none0)) aa λw6 H6=>?_;obtain⟨V,hV⟩:∃V,V=W.set k none0:=⟨_,rfl⟩;have B:V.length=W.length:=by rw[hV,bU]
 obtain⟨D,hD⟩:∃D,D=JU W k:=⟨_,rfl⟩;have ac:Nc V.length V=D:=by rw[hD,JU,hV,bU]
 rw[<- hV,<- B]at H6;have C:=hN.drop O r s;have G:=O.drop x;rw[<- hD]at C G⊢;refine xI.mk (λq _ w'=>∃(j c:Nat),q=j/\j<=V.length/\Nc j V=D/\Hp f w w' (.blk b [.slice a j c,.map (some mb)] 150::.own 167 2 a j c (Ak (V.take j))::.xH mb (zx al n)::[.blk xb [.string n,I 1] 167])) V.length ⟨V.length,c,rfl,aZ _,ac,?_⟩ ?_
 ·rw[bJ];refine H6.perm ?_;refine AL λff gg h0 hc ha an=>?_;simp only[B,ha,hc,h0,aY,aX,aO];omega
 rintro q _ J nx ⟨j,c,hq,hj,l,U⟩ ad
 have done:D=V.take j->∃t,Ending.returned (.bool true)=Ej (.bool true)/\Hp f w J.drew [Az t b D]:=λe=>by
  have ae:D.length=j:=by rw[e,aJ];omega
  have X:Hp f w J.drew (J7 b mb a c D (zx al n)++[.blk xb [.string n,I 1] 167]):=by
   rw[J7,ae,e];exact U.drew
  obtain⟨t,H9⟩:=X.D5 (Q:=Td b D) ⟨G,mb,a,c,_,C,rfl⟩;exact⟨t,rfl,Hp.BM (L:=[_]) H9⟩
 have m:∀{W':Wq},Eqw J W'->Ld PP 148 W' ⟨b,0,none⟩ (.slice a j c):=λhe=>U.ld (o:=0) (cs:=[.slice a j c,.map (some mb)]) he kSW (.head _) rfl;refine AA rfl ⟨a,j,c,m EQ4,AB (λh1=>?_) (λh1=>?_)⟩
 ·obtain⟨d,rfl⟩:∃d,j=d+1:=⟨j-1,om⟩;have hx:V[d]? =some V[d]:=aB om;have af:(V.take (d+1))[d]? =some V[d]:=by rw[bn om];exact hx
  have K:Own J 0 167 2 a (d+1) c (Ak (V.take (d+1))):=U.xh m1;have ag:Cells J.drew a (Ak (V.take (d+1))):=K.cells;have ao:=K.le;have e1:(((d+1:Nat):Int)-1).toNat=d:=om;refine AA rfl ⟨a,d+1,c,m EQ4,AA rfl ⟨a,d+1,c,m EQ4,iR,AA p ⟨⟨om,om⟩,zF V[d],?_,AB (λh2=>?_) (λh2=>?_)⟩⟩⟩
  ·rw[add_add,e1];exact ag.ld xK p (Gs af)
  ·have h3:=(J6 _).1 h2;rw[Nc,hx]at l;dsimp only at l;rw[if_pos h3]at l;refine AA rfl ⟨a,d+1,c,m EQ4,AA rfl ⟨a,d+1,c,m EQ4,iR,AA rfl ⟨a,d+1,c,m EQ4,iR,⟨om,om,om⟩,AA rfl ?_⟩⟩⟩;rw[e1];refine Hp.s1 U.drew.drew kSW (cs':=[.slice a d d,.map (some mb)]) λw8 X=>?_;have ah:Own w8 0 167 2 a (d+1) c (Ak (V.take (d+1))):=X.xh m1;have N:=ah.only (F:=d) om
   have e2:(Ak (V.take (d+1))).take (d*2)=Ak (V.take d):=by
    rw[aG om,KF];have:(Ak (V.take d)).length=d*2:=by rw[Fb,aJ];omega
    rw[<- this,iq]
   rw[e2]at N;refine ad d _ _ om ⟨d,d,rfl,om,l,?_⟩;exact(Hp.set (a':=.own 167 2 a d d (Ak (V.take d))) X.AX (Chg.refl _ _) N λk r=>.inl r).AX
  refine done ?_;rw[Nc,hx]at l;dsimp only at l;rw[if_neg (λh=>h2 ((J6 _).2 h))]at l;exact l.symm
 have ak:j=0:=om;subst ak;rw[Nc]at l;exact done (by rw[<- l];simp)
end
end
noncomputable section
open Go Go.Vc Go.Nod
def CW.go{S S':Nq}{w w':Wq}{L:List Asn}{a:OA}{n:Nat}{l:List It}{ss:List Sl3}(h:CW S w a n l ss)(H:Hp S w w' L)(b:∀k∈S',k∈xq L):CW S' w' a n l ss:=
 ⟨λW c=>h.rd W (H.KDH (c.more b)),h.len,h.sls,h.small⟩
def opC(o:OpP)(la:OA)(n lc:Nat):LV:=[I o.kind,I o.id,I o.to,I o.at_,.string o.name,.string o.text,.slice la n lc]
def UY{f:Nq}{b:Nat}{T:Tr}{w:Wq}(h:(AV f b T).ok w)(o:OpP)(i:OA)(n lc:Nat)(ss:List Sl3)(L:CW f w i n o.l ss)(x:n<=140737488355328)(K:o.text.size<=maxLen):
  CP 54 #[pq b,.agg (opC o i n lc).toArray] w λe w'=>∃c,e=Ej (.tuple #[I (T.xg o).2.1,I (T.xg o).2.2])/\Hp f w w' [AV c b (T.xg o).1]:=by
 apply Jce;have M:Hp f w w [AV f b T]:=BU h;intro D y F;have H:=M.nw F;have A:CW f y i n o.l ss:=L.go H λk N=>BD.2 ⟨AV f b T,.tail _ (.head _),N⟩;have m:=H.drop;have d:(AV f b T).ok y:=m.ok _ (.head _);have a:∀{j:Nat}{z:Int},(opC o i n lc)[j]? =some (I z)->Ld PP 3 y ⟨D,j,none⟩ (I z):=λG=>H.ld EQ4 xK (.head _) G;have p:∀{j:Nat}{z:BA},(opC o i n lc)[j]? =some (.string z)->Ld PP 9 y ⟨D,j,none⟩ (.string z):=λG=>H.ld EQ4 xx (.head _) G;have ldL:Ld PP 34 y ⟨D,6,none⟩ (.slice i n lc):=H.lo KDo;refine⟨o.kind,a rfl,AB (λq=>?_) (λq=>AB (λr=>?_) (λr=>AB (λs=>?_) (λs=>AB (λt=>?_) (λt=>AB (λB=>?_) (λB=>AB (λC=>?_) (λC=>AB (λJ=>?_) (λJ=>?_)))))))⟩
 ·have e:T.xg o=T.load o.l:=by rw[Tr.xg,if_pos q]
  refine⟨i,n,lc,ldL,AC (gLoad_spec d i n lc o.l ss A) ?_⟩;rintro _ u ⟨c,rfl,g⟩;exact⟨_,_,rfl,c,by rw[e],by rw[e];exact m.Bg g⟩
 ·have e:T.xg o=T.insert o.id o.at_ o.l:=by rw[Tr.xg,if_neg q,if_pos r]
  refine⟨o.id,a rfl,o.at_,a rfl,i,n,lc,ldL,AC (gInsert_spec d o.id o.at_ i n lc o.l ss A x) ?_⟩;rintro _ u ⟨c,rfl,g⟩;exact⟨_,_,rfl,c,by rw[e],by rw[e];exact m.Bg g⟩
 ·have e:T.xg o=((T.delete o.id).1,0,(T.delete o.id).2):=by rw[Tr.xg,if_neg q,if_neg r,if_pos s]
  refine⟨o.id,a rfl,AC (gDelete_spec d o.id) ?_⟩;rintro _ u ⟨c,rfl,g⟩;exact⟨_,rfl,c,by rw[e],by rw[e];exact m.Bg g⟩
 ·have e:T.xg o=((T.move o.id o.to o.at_).1,0,(T.move o.id o.to o.at_).2):=by rw[Tr.xg,if_neg q,if_neg r,if_neg s,if_pos t]
  refine⟨o.id,a rfl,o.to,a rfl,o.at_,a rfl,AC (gMove_spec d o.id o.to o.at_) ?_⟩;rintro _ u ⟨c,rfl,g⟩;exact⟨_,rfl,c,by rw[e],by rw[e];exact m.Bg g⟩
 ·have e:T.xg o=((T.Be o.id (o.name,o.text)).1,0,(T.Be o.id (o.name,o.text)).2):=by rw[Tr.xg,if_neg q,if_neg r,if_neg s,if_neg t,if_pos B]
  refine⟨o.id,a rfl,o.name,p rfl,o.text,p rfl,AC (gSetAttr_spec d o.id o.name o.text K) ?_⟩;rintro _ u ⟨c,rfl,g⟩;exact⟨_,rfl,c,by rw[e],by rw[e];exact m.Bg g⟩
 ·have e:T.xg o=((T.Bj o.id o.name).1,0,(T.Bj o.id o.name).2):=by rw[Tr.xg,if_neg q,if_neg r,if_neg s,if_neg t,if_neg B,if_pos C]
  refine⟨o.id,a rfl,o.name,p rfl,AC (gDelAttr_spec d o.id o.name) ?_⟩;rintro _ u ⟨c,rfl,g⟩;exact⟨_,rfl,c,by rw[e],by rw[e];exact m.Bg g⟩
 ·have e:T.xg o=((T.Bv o.id o.text).1,0,(T.Bv o.id o.text).2):=by rw[Tr.xg,if_neg q,if_neg r,if_neg s,if_neg t,if_neg B,if_neg C,if_pos J]
  refine⟨o.id,a rfl,o.text,p rfl,AC (gSetText_spec d o.id o.text K) ?_⟩;rintro _ u ⟨c,rfl,g⟩;exact⟨_,rfl,c,by rw[e],by rw[e];exact m.Bg g⟩
 have e:T.xg o=(T,0,1):=by rw[Tr.xg,if_neg q,if_neg r,if_neg s,if_neg t,if_neg B,if_neg C,if_neg J]
 exact⟨f,by rw[e],by rw[e];exact m⟩
def Aa(s:BA):BA:=if s=none0 then none0 else if sb s 0=119 then s.extract 0 (min s.size 3)else if sb s 0=110 then s.extract 0 (min s.size 6)else s.extract 0 1
def SQ(s:BA)(w:Wq):CP 113 #[.string s] w λe w'=>e=Ej (.string (Aa s))/\w'=w:=by
 apply Jb4;refine AB (λh=>⟨by rw[Aa,if_pos h],rfl⟩) (λh=>?_);have c:0<s.size:=Nat.pos_of_ne_zero λe=>h (FQ.2 (ay (by rw[BO];exact e)));refine⟨⟨om,om⟩,AB (λa=>⟨⟨om,om⟩,?_,rfl⟩) (λa=>⟨⟨om,om⟩,AB (λb=>⟨⟨om,om⟩,?_,rfl⟩) (λb=>⟨⟨om,om⟩,?_,rfl⟩)⟩)⟩
 ·rw[Aa,if_neg h,if_pos a,show(min (s.size:Int) 3).toNat=min s.size 3 by omega]
 ·rw[Aa,if_neg h,if_neg a,if_pos b,show(min (s.size:Int) 6).toNat=min s.size 6 by omega]
 rw[Aa,if_neg h,if_neg a,if_neg b];rfl
end
end Go.Proofs.YtljenkbpnioipaaGreat
namespace Go.Vc
open Go
theorem wJ{α:Type}{f:α->LV}{n:Nat}(b:∀x,(f x).length=n):∀{l:List α}{k:Nat}{x:α},l[k]? =some x->((l.flatMap f).drop (k*n)).take n=f x
 |y::r,0,x,h=>by
  cases h;rw[bW,jV,fF,iM (b _)]
 |y::r,k+1,x,h=>by
  rw[bW,di,iG,<- dS,kX (b _)];exact wJ b (by simpa using h)
theorem vk{α:Type}{f:α->LV}{n:Nat}(b:∀x,(f x).length=n):∀(l:List α),(l.flatMap f).length=l.length*n
 | []=>by simp
 |x::r=>by rw[bW,aF,b,vk b r,aK,di];omega
theorem YH{α:Type}{f:α->LV}{n:Nat}(b:∀x,(f x).length=n):∀(l:List α)(k:Nat),(l.flatMap f).drop (k*n)=(l.drop k).flatMap f
 | [],k=>by simp
 |x::r,0=>by simp
 |x::r,k+1=>by
  rw[bW,di,iG,<- dS,kX (b _),YH b r k,eF]
def take_snoc{α:Type}{l:List α}{k:Nat}{x:α}(h:l[k]? =some x):l.take (k+1)=l.take k++[x]:=by
 rw[aG (aA.1 h).1,(aA.1 h).2]
end Go.Vc
namespace Go.Proofs.YtljenkbpnioipaaGreat
noncomputable section
open Go Go.Vc Go.Nod
def bSR:Scl PP 27:=BQ (by kernel_rfl)
def bT2:Agg PP 29 2:=DN (by kernel_rfl)
def bR6:Agg PP 133 6:=DN (by kernel_rfl)
def bER:Elt PP 27 133 6 80:=DU (by kernel_rfl)
def bUR:PP.underlying 27=some (.slice 133):=by kernel_rfl
abbrev DR:=Rw×Sl3
abbrev rws(M:List DR):List Rw:=M.map (·.1)
def drC(p:DR):LV:=I p.1.id::itC ⟨p.1.level,p.1.x⟩ p.2
def yV(M:List DR):LV:=M.flatMap drC
def tC(a:OA)(n c:Nat)(nx:Int):LV:=[.slice a n c,I nx]
abbrev tV(a:OA)(n c:Nat)(nx:Int):Value:=.agg #[.slice a n c,I nx]
def O6(p:DR):(drC p).length=6:=rfl
def Px(M:List DR):(yV M).length=M.length*6:=vk O6 M
def drsC_one(M:List DR):∀u∈yV M,u.oneCell'=true:=by
 intro u d;obtain⟨p,_,b⟩:=fH.1 d;simp only[drC,itC,aP,iP,or_false]at b;rcases b with rfl|rfl|rfl|rfl|rfl|rfl<;>rfl
def AtA(f:Nq)(w:Wq)(p:DR):Prop:=∀W,Chg f w W->AtR W p.2.1 p.2.2.1 p.1.x.FP
structure TrA(f:Nq)(w:Wq)(a:OA)(c:Nat)(M:List DR):Prop where
 rd:∀W,Chg f w W->Cells W a (yV M)
 att:∀p∈M,AtA f w p
 cap:M.length<=c
 lt:∀k∈f,k<w.heap.size
variable{f:List Nat}{w w':World}{a:Option Addr}{c:Nat}{M:List DR}{L:List Asn}
def YD(H:Hp [] w w' L){S:Nq}{W:Wq}(h:Chg S w' W)(b:∀k∈S,k∈f\/w.heap.size<=k):Chg f w W:=H.chg.trans h (by simp) b
def AtA.mv{p:DR}(h:AtA f w p)(H:Hp [] w w' L){S:Nq}(b:∀k∈S,k∈f\/w.heap.size<=k):AtA S w' p:=λW d=>h W (YD H d b)
def AtA.go{p:DR}(h:AtA f w p)(H:Hp [] w w' L):AtA f w' p:=h.mv H λk b=>.inl b
def QC(H:Hp [] w w' L){S:Nq}(m:∀k∈S,k∈xq L):(∀k∈S++f,k∈f\/w.heap.size<=k)/\∀k∈S,k<w'.heap.size:=by
 have d:∀k∈S,w.heap.size<=k/\k<w'.heap.size:=λk b=>by
  obtain⟨x,e,g⟩:=BD.1 (m k b);exact⟨(H.own x e k g).resolve_left (by simp),Asn.Jb (H.ok x e) k g⟩
 exact⟨λk b=>(aT.1 b).elim (λh=>.inr (d k h).1) .inl,λk b=>(d k b).2⟩
def TrA.mv(h:TrA f w a c M)(H:Hp [] w w' L){S:Nq}(m:∀k∈S,k∈xq L):TrA (S++f) w' a c M:=
 ⟨λW d=>h.rd W (YD H d (QC H m).1),λp e=>(h.att p e).mv H (QC H m).1,h.cap,λk b=>(aT.1 b).elim ((QC (f:=f) H m).2 k) λb=>fM (h.lt k b) H.chg.size⟩
def TrA.go(h:TrA f w a c M)(H:Hp [] w w' L):TrA f w' a c M:=h.mv H (S:=[]) (by simp)
def TrA.back{S:Nq}(h:TrA (S++f) w a c M)(e:Chg S w w'):TrA f w' a c M:=by
 have g:∀{W:Wq},Chg f w' W->Chg (S++f) w W:=λb=>e.trans b (λk d=>aS _ d) λk d=>.inl (aI _ d);exact⟨λW b=>h.rd W (g b),λp i W b=>h.att p i W (g b),h.cap,λk d=>fM (h.lt k (aI _ d)) e.size⟩
def CW.mv2{b:OA}{n:Nat}{l:List It}{ss:List Sl3}(h:CW f w b n l ss)(H:Hp [] w w' L){S:Nq}(m:∀k∈S,k∈xq L):CW (S++f) w' b n l ss:=
 ⟨λW d=>h.rd W (YD H d (QC H m).1),h.len,h.sls,h.small⟩
def TrA.cells(h:TrA f w a c M):Cells w a (yV M):=h.rd w (Chg.refl _ _)
def stay{x:Asn}(H:Hp [] w w' L)(m:x∈L)(lt:∀k∈f,k<w.heap.size){W:Wq}(h:Chg f w' W):x.ok W:=by
 have b:=H.ok x m;refine Asn.Ri b λk d=>h.2.2.2.2 k (Asn.Jb b k d) λg=>?_;rcases H.own x m k d with e|e
 ·cases e
 have:=lt k g;omega
def wZ{x:Asn}(H:Hp [] w w' (x::L))(lt:∀k∈f,k<w.heap.size){S:Nq}(m:∀k∈S,k∈xq L){W:Wq}(h:Chg (S++f) w' W):x.ok W:=by
 have b:=H.ok x (.head _);refine Asn.Ri b λk d=>h.2.2.2.2 k (Asn.Jb b k d) λj=>?_;rcases aT.1 j with e|e
 ·obtain⟨y,l,g⟩:=BD.1 (m k e);exact(bF.1 H.sep).1 y l k d g
 rcases H.own x (.head _) k d with i|i
 ·cases i
 have:=lt k e;omega
def TrA.own(H:Hp [] w w' L)(m:Asn.own 133 6 a M.length c (yV M)∈L)(lt:∀k∈f,k<w.heap.size)(att:∀p∈M,AtA f w' p):TrA f w' a c M:=
 ⟨λW b=>Own.cells (stay H m lt b),att,(H.xh m).le.1,λk d=>fM (lt k d) H.chg.size⟩
def TrA.sub(h:TrA f w a c M){i j:Nat}(n:j<=M.length):TrA f w (slA a c i 6) (c-i) ((M.take j).drop i):=by
 refine⟨λW g=>?_,λp l=>h.att p (dJ (fA l)),by rw[bf,aJ];have:=h.cap;omega,h.lt⟩;have m:=Cells.KEo (i:=i) (sz:=6) (h.rd W g) (Px M) h.cap;intro k v d;refine m k v ?_;rw[yV,YH O6]
 have e:M.drop i=(M.take j).drop i++M.drop (max i j):=by
  by_cases b:i<=j
  ·rw[gu,Nat.max_eq_right b];have:=(bY (j-i) (M.drop i)).symm;rw[dS,show i+(j-i)=j by omega]at this;exact this
  rw[show(M.take j).drop i=[]from eu (by rw[aJ];omega),Nat.max_eq_left om];rfl
 rw[e,dR];exact(bQ (aA.1 d).1).trans d
def TrA.take(h:TrA f w a c M)(j:Nat):TrA f w a c (M.take j):=by
 refine⟨λW d k v b=>h.rd W d k v ?_,λp g=>h.att p (dJ g),by rw[aJ];have:=h.cap;omega,h.lt⟩;have e:yV M=yV (M.take j)++yV (M.drop j):=by rw[yV,yV,yV,<- dR,bY]
 rw[e,bQ (aA.1 b).1];exact b
theorem TrA.src(h:TrA f w a c M)(n:Nat)(b:n=M.length)(c':Nat):Src PP 6 27 (.slice a n c') n (yV M) w:=by
 subst b;refine Cells.src bUR h.cells (Px M) (drsC_one M) λe=>?_;subst e;cases hM:M with
 |nil=>rfl
 |cons p r=>
  obtain⟨g,d,_⟩:=h.cells 0 (I p.1.id) (by rw[hM];rfl);cases d
def TrA.ld(h:TrA f w a c M){k:Nat}{p:DR}(l:M[k]? =some p):∃b,a=some b/\(∀{t:TypeId}{j:Nat}{v:Value},Scl PP t->(drC p)[j]? =some v->Ld PP t w (b.add (k*6+j)) v)/\Ld PP 133 w (b.add (k*6)) (.agg (drC p).toArray)/\Ld PP 123 w ((b.add (k*6)).add 1) (.agg (itC ⟨p.1.level,p.1.x⟩ p.2).toArray):=by
 have d:((yV M).drop (k*6)).take 6=drC p:=wJ O6 l;obtain⟨b,g⟩:=h.cells.some (λe=>by rw[e,List.drop_nil,List.take_nil]at d;cases d);refine⟨b,g,λ{t j v} S i=>h.cells.ld S g ?_,h.cells.ldA bR6 g d rfl,?_⟩
 ·have m:j<6:=by have:=(aA.1 i).1;rwa [O6]at this
  rw[<- d,bn m,dm]at i;exact i
 rw[add_add];refine h.cells.ldA CB g ?_ rfl;rw[<- dS];have e:(((yV M).drop (k*6)).take 6).drop 1=itC ⟨p.1.level,p.1.x⟩ p.2:=by rw[d];rfl
 rw[<- e,gu]
def FindD(M:List DR)(id z:Int):Prop:=(EI (rws M) id=none/\atR (rws M) id=none/\z= -1)\/∃(k:Nat)(p:DR),M[k]? =some p/\p.1.id=id/\EI (rws M) id=some k/\atR (rws M) id=some (k,p.1)/\z=k
def D8(h:TrA f w a c M)(C:M.length<=1000000)(nx id:Int):
  CP 82 #[tV a M.length c nx,I id] w λe w'=>(∃z,e=Ej (I z)/\FindD M id z)/\Hp [] w w' []:=by
 apply Jdl;intro b D u;have H:=(Hp.start w).nw u;refine xI.mk (λm s w'=>∃k:Nat,m=M.length-k/\k<=M.length/\s=(k:Int)/\(∀(j:Nat)(p:DR),j<k->M[j]? =some p->p.1.id≠id)/\Hp [] w w' [.blk b (tC a M.length c nx) 29]) M.length ⟨0,rfl,om,rfl,λj p h=>by omega,H⟩ ?_;rintro m s F next ⟨k,rfl,G,rfl,d,H⟩ g
 refine⟨_,_,_,H.lo bSR,AB (λA=>?_) (λA=>?_)⟩
 ·obtain⟨p,i⟩:∃p,M[k]? =some p:=⟨_,aB om⟩;obtain⟨J,x,ld,_⟩:=(h.go H).ld i;refine⟨_,_,_,H.lo bSR,AA x ⟨⟨om,A⟩,_,ld (j:=0) xK rfl,AB (λt=>⟨⟨_,rfl,.inr ⟨k,p,i,?_⟩⟩,H.drop⟩) (λt=>⟨iR,g (M.length-(k+1)) _ _ om ⟨k+1,rfl,om,rfl,λj q l y=>?_,H⟩⟩)⟩⟩
  ·have n:EI (rws M) id=some k:=by
    rw[EI,kZ];have o:=(aA.1 i);refine⟨by rw[aQ];exact o.1,by rw[kM,o.2,decide_eq_true_eq];exact t,λj l=>?_⟩;rw[kM];have:=d j _ l (aB om);simpa using this
   exact⟨t,n,by rw[atR,n];dsimp only;rw[au,i];rfl,rfl⟩
  by_cases e:j=k
  ·subst e;rw[i]at y;cases y;exact t
  exact d j q om y
 have n:EI (rws M) id=none:=by
  rw[EI,jT];intro r B;obtain⟨p,i,rfl⟩:=aU.1 B;obtain⟨j,l⟩:=bD i;have:=d j p (by have:=(aA.1 l).1;omega) l;simpa using this
 exact⟨⟨_,rfl,.inl ⟨n,by rw[atR,n],rfl⟩⟩,H.drop⟩
def Ul{k:Nat}{p:DR}(b:M[k]? =some p):(rws M).drop k=p.1::(rws M).drop (k+1):=by
 have h:=aA.1 b;rw[bM (by rw[aQ];exact h.1),kM,h.2]
def Kw{k:Nat}{p:DR}(b:M[k]? =some p):(rws M)[k]? =some p.1:=by rw[au,b];rfl
theorem tH(v:Int):∀(l:List Rw)(n:Nat),n<=KBr v n l/\KBr v n l<=n+l.length
 | [],n=>⟨aZ _,aZ _⟩
 |r::t,n=>by
  have:=tH v t (n+1);rw[KBr,aK];split<;>omega
def Sv{L:List Rw}{k:Nat}{r:Rw}(h:L[k]? =some r):k<yg L k/\yg L k<=L.length:=by
 have:=tH r.level (L.drop (k+1)) (k+1);have b:=(aA.1 h).1;rw[bf]at this;rw[yg,h];dsimp only;omega
def Gm(h:TrA f w a c M)(C:M.length<=1000000)(nx:Int){k:Nat}{p:DR}(l:M[k]? =some p):
  CP 84 #[tV a M.length c nx,I (k:Int)] w λe w'=>e=Ej (I (yg (rws M) k:Int))/\Hp [] w w' []:=by
 apply Jdk;intro b D n;have H:=(Hp.start w).nw n;have o:=(aA.1 l).1;have A:yg (rws M) k=KBr p.1.level (k+1) ((rws M).drop (k+1)):=by rw[yg,Kw l]
 refine⟨iR,xI.mk (λm s w'=>∃j:Nat,m=M.length-j/\j<=M.length/\s=(j:Int)/\yg (rws M) k=KBr p.1.level j ((rws M).drop j)/\Hp [] w w' [.blk b (tC a M.length c nx) 29]) (M.length-(k+1)) ⟨k+1,rfl,o,rfl,A,H⟩ ?_⟩;rintro m s F next ⟨j,rfl,x,rfl,d,H⟩ g
 refine⟨_,_,_,H.lo bSR,AB (λy=>?_) (λy=>?_)⟩
 ·obtain⟨q,z⟩:∃q,M[j]? =some q:=⟨_,aB om⟩;obtain⟨G,r,ld,_⟩:=(h.go H.drew).ld z;obtain⟨B,i,t,_⟩:=(h.go H.drew).ld l;rw[Ul z,KBr]at d;refine⟨_,_,_,H.lo bSR,AA r ⟨⟨om,y⟩,_,by rw[aN,add_add];exact ld xK rfl,_,_,_,H.lo bSR,AA i ⟨⟨om,om⟩,_,by rw[aN,add_add];exact t xK rfl,AB (λu=>⟨?_,H.drew.drop⟩) (λu=>⟨iR,g (M.length-(j+1)) _ _ om ⟨j+1,rfl,om,rfl,?_,H.drew⟩⟩)⟩⟩⟩
  ·rw[if_pos u]at d;rw[d]
  rw[if_neg u]at d;exact d
 have x:j=M.length:=om;rw[eu (by rw[aQ];omega),KBr]at d;exact⟨_,_,_,H.lo bSR,by rw[d,x],H.drop⟩
abbrev KER(l:Nq):lI:=l.map λ(n:Nat)=>(n:Int)
theorem kids_in{L:List Rw}{k:Nat}{r:Rw}(h:L[k]? =some r){j:Nat}{n:Nat}(g:(EK L k)[j]? =some n):k<n/\n<yg L k:=by
 have i:∀(l:List Rw)(v:Int)(m:Nat),∀x∈KAd v m l,m<=x/\x<m+l.length:=by
  intro l v
  induction l with
  |nil=>intro m x b;cases b
  |cons q t d=>
   intro m x b;rw[KAd]at b;rw[aK];split at b
   ·rcases aP.1 b with rfl|b
    ·omega
    have:=d _ x b;omega
   have:=d _ x b;omega
 have e:=aC g;rw[EK,h]at e;have:=i _ _ _ n e;rw[bf,aJ]at this;omega
def Lm(h:TrA f w a c M)(C:M.length<=1000000)(nx:Int){k:Nat}{p:DR}(l:M[k]? =some p)(z:∀q∈M,-1000000<=q.1.level/\q.1.level<=1000000):
  CP 204 #[tV a M.length c nx,I (k:Int)] w λe w'=>∃a' c',e=Ej (.slice a' (EK (rws M) k).length c')/\Hp [] w w' [.own 3 1 a' (EK (rws M) k).length c' (AO (KER (EK (rws M) k)))]:=by
 apply Jdp;intro b w1 o;have H:=(Hp.start w).nw o;have D:=(aA.1 l).1;have F:=z p (aC l);obtain⟨G,K⟩:=Sv (Kw l);rw[aQ]at K;have N:EK (rws M) k=KAd p.1.level (k+1) (((rws M).take (yg (rws M) k)).drop (k+1)):=by rw[EK,Kw l]
 refine⟨iR,xI.mk (λm s w'=>∃(j:Nat)(d:Nq)(a':OA)(c':Nat)(X:List Asn),m=M.length-j/\j<=yg (rws M) k/\s=((a',d.length,c'),(j:Int))/\d.length<=j/\EK (rws M) k=d++KAd p.1.level j (((rws M).take (yg (rws M) k)).drop j)/\Hp [] w w' (.own 3 1 a' d.length c' (AO (KER d))::.blk b (tC a M.length c nx) 29::X)) (M.length-(k+1)) ⟨k+1,[],none,0,[],rfl,G,rfl,by simp,N,H.yS 3 1⟩ ?_⟩;clear H;rintro m s w2 next ⟨j,d,a',c',X,rfl,O,rfl,R,g,H⟩ i
 dsimp only;refine⟨_,_,_,_,H.loA bT2,AC (Gm (h.go H) C nx l) ?_⟩;rintro _ w3 ⟨rfl,T⟩;replace H:=H.xN T;refine⟨_,rfl,AB (λU=>?_) (λU=>?_)⟩
 ·obtain⟨q,r⟩:∃q,M[j]? =some q:=⟨_,aB om⟩;have Y:=z q (aC r);obtain⟨ad,t,ld,_⟩:=(h.go H.drew).ld r;obtain⟨Z,n,u,_⟩:=(h.go H.drew).ld l
  have hd:((rws M).take (yg (rws M) k)).drop j=q.1::((rws M).take (yg (rws M) k)).drop (j+1):=by
   rw[gu,Ul r,show yg (rws M) k-j=(yg (rws M) k-(j+1))+1 by omega,dY,<- gu]
  rw[hd,KAd]at g;refine xM.mk (λs w'=>∃(d:Nq)(a':OA)(c':Nat)(X:List Asn),s=(a',d.length,c')/\d.length<=j+1/\EK (rws M) k=d++KAd p.1.level (j+1) (((rws M).take (yg (rws M) k)).drop (j+1))/\Hp [] w w' (.own 3 1 a' d.length c' (AO (KER d))::.blk b (tC a M.length c nx) 29::X)) ?_ ?_
  ·rintro s w4 ⟨d,a',c',X,rfl,g1,g2,g3⟩;exact⟨iR,i (M.length-(j+1)) _ _ om ⟨j+1,d,a',c',X,rfl,om,rfl,g1,g2,g3⟩⟩
  intro J A;refine⟨_,_,_,H.lo bSR,AA t ⟨⟨om,om⟩,_,by rw[aN,add_add];exact ld xK rfl,_,_,_,H.lo bSR,AA n ⟨⟨om,om⟩,_,by rw[aN,add_add];exact u xK rfl,DT.2 (by dsimp only;omega),AB (λx=>?_) (λx=>?_)⟩⟩⟩
  ·rw[if_pos x]at g;intro b2 w4 y;have B:=(H.drew.nw y).AX;refine Hp.app Kz om B EQ4 (Blk.src LH (B.blk m1) rfl rfl) (by simp only[maxLen];omega) om ?_;intro a2 c2 w5 H3;refine A _ _ ⟨d++[j],a2,c2,.blk b2 [I (j:Int)] 3::X,by rw[aF];rfl,by rw[aF,gY];omega,by rw[g,ax];rfl,?_⟩;have e:AO (KER (d++[j]))=AO (KER d)++[I (j:Int)]:=by simp[AO]
   rw[e,aF];exact(H3.BF).AX
  rw[if_neg x]at g;exact A _ _ ⟨d,a',c',X,rfl,om,g,H.drew⟩
 have O:j=yg (rws M) k:=om;rw[eu (by rw[aJ];omega),KAd,aX]at g;rw[g];exact⟨a',c',rfl,H.BM (L:=[_])⟩
theorem rgRoot_spec(h:TrA f w a c M)(nx:Int):
  CP 46 #[tV a M.length c nx] w λe w'=>e=Ej (I (TU ⟨rws M,nx⟩))/\Hp [] w w' []:=by
 apply Jdy;intro b n d;have H:=(Hp.start w).nw d;refine⟨_,_,_,H.lo bSR,AB (λg=>?_) (λg=>?_)⟩
 ·have:M=[]:=ay om;subst this;exact⟨rfl,H.drop⟩
 cases hM:M with
 |nil=>rw[hM]at g;exact(g rfl).elim
 |cons p r=>
  have m:M[0]? =some p:=by rw[hM];rfl
  obtain⟨o,i,ld,_⟩:=(h.go H).ld m;have l:=ld (j:=0) xK rfl;rw[jV,cZ,wR]at l;rw[hM]at H;exact⟨_,_,_,H.lo bSR,AA i ⟨⟨om,by rw[aK];omega⟩,_,l,rfl,H.drop⟩⟩
def PL(h:TrA f w a c M)(z:M.length<=1000000)(nx:Int):
  CP 26 #[tV a M.length c nx] w λe w'=>∃a' c',e=Ej (.slice a' M.length c')/\Hp [] w w' [.own 3 1 a' M.length c' (AO ((rws M).map (·.id)))]:=by
 apply Jdw;intro b A g;have H:=(Hp.start w).nw g;refine xI.mk (λm s w'=>∃(k:Nat)(a':OA)(c':Nat)(X:List Asn),m=M.length-k/\k<=M.length/\s=((a',k,c'),(k:Int))/\Hp [] w w' (.own 3 1 a' k c' (AO ((rws (M.take k)).map (·.id)))::.blk b (tC a M.length c nx) 29::X)) M.length ⟨0,none,0,[],rfl,om,rfl,H.yS 3 1⟩ ?_;rintro m s B next ⟨k,a',c',X,rfl,C,rfl,H⟩ d
 dsimp only;refine⟨_,_,_,H.lo bSR,AB (λn=>?_) (λn=>?_)⟩
 ·obtain⟨p,o⟩:∃p,M[k]? =some p:=⟨_,aB om⟩;obtain⟨D,i,ld,_⟩:=(h.go H).ld o;refine⟨_,_,_,H.lo bSR,AA i ⟨⟨om,n⟩,_,ld (j:=0) xK rfl,?_⟩⟩;intro r F l;have q:=(H.nw l).AX;refine Hp.app Kz om q EQ4 (Blk.src LH (q.blk m1) rfl rfl) (by simp only[maxLen];omega) om ?_;intro t u G x;refine⟨iR,d (M.length-(k+1)) _ _ om ⟨k+1,t,u,.blk r [I p.1.id] 3::X,rfl,om,rfl,?_⟩⟩;have e:AO ((rws (M.take (k+1))).map (·.id))=AO ((rws (M.take k)).map (·.id))++[I p.1.id]:=by rw[take_snoc o];simp[AO]
  rw[e];exact(x.BF).AX
 have y:k=M.length:=om;subst y;rw[bJ]at H;exact⟨a',c',rfl,H.BM (L:=[_])⟩
end
noncomputable section
open Go Go.Vc Go.Nod
variable{f:List Nat}{w w':World}{a:Option Addr}{c:Nat}{M:List DR}{L:List Asn}
def vg{w0 w1:Wq}{k b:Nat}{a:OA}{c:Nat}{N:List DR}{p:DR}{X:List Asn}(H:Hp [] w w0 (.own 133 6 a N.length c (yV N)::X))(q:N.length<=100000000)(j:New w0 (.cells (drC p).toArray 133) b w1){G:OA->Nat->Nat->Wq->Prop}
  (k:∀a' c' d,Hp [] w d (.own 133 6 a' (N++[p]).length c' (yV (N++[p]))::.blk b (drC p) 133::X)->G a' (N++[p]).length c' d):
  ∃a' g c' d,App PP #[27,27] 27 w1 (.slice a N.length c) (.slice (Pq b) 1 1) (.slice a' g c') d/\G a' g c' d:=by
 have h:=(H.nw j).AX;refine Hp.app bER om h EQ4 (Blk.src bUR (h.blk m1) rfl rfl) (by simp only[maxLen];omega) om ?_;intro l m n i;have e:N.length+1=(N++[p]).length:=by rw[aF];rfl
 have o:yV N++drC p=yV (N++[p]):=by simp[yV]
 rw[e,o]at i;rw[e];exact k l m n i
def JV(M:List DR)(less:Int):List DR:=M.map λp=>({p.1 with level:=p.1.level-less},p.2)
def rws_part(M:List DR)(b:Int):rws (JV M b)=Ho (rws M) b:=by simp[rws,JV,Ho]
def SI(h:TrA f w a c M)(N:M.length<=1000000)(c':Nat)(d:Int)(D:∀q∈M,-1000000<=q.1.level/\q.1.level<=1000000)(O: -1000000<=d/\d<=1000000):
  CP 83 #[.slice a M.length c',I d] w λe w'=>∃l c2,e=Ej (.slice l M.length c2)/\TrA f w' l c2 (JV M d)/\Hp [] w w' []:=by
 apply Jdx;have g:(JV M d).length=M.length:=aQ _;refine xI.mk (λm s w'=>∃(k:Nat)(n:OA)(c':Nat)(X:List Asn),m=M.length-k/\k<=M.length/\s=((n,((JV M d).take k).length,c'),(k:Int))/\Hp [] w w' (.own 133 6 n ((JV M d).take k).length c' (yV ((JV M d).take k))::X)) M.length ⟨0,none,0,[],rfl,om,rfl,(Hp.start w).yS 133 6⟩ ?_;rintro m s R next ⟨k,n,c',X,rfl,T,rfl,H⟩ i
 refine AB (λz=>?_) (λz=>?_)
 ·obtain⟨p,j⟩:∃p,M[k]? =some p:=⟨_,aB om⟩;have F:=D p (aC j);obtain⟨U,t,_,ld,_⟩:=(h.go H).ld j;refine AA t ⟨⟨om,z⟩,_,_,_,_,_,_,_,_,ld,?_⟩;intro b Y u;have G:=H.nw u;refine Hp.sA G bR6 (cs':=drC p) λZ A=>?_;refine⟨_,A.lo xK,DT.2 (by dsimp only;omega),?_⟩;obtain⟨q,o⟩:∃q:DR,q=({p.1 with level:=p.1.level-d},p.2):=⟨_,rfl⟩;refine Hp.st A EQ4 xK rfl rfl (by simp[drC,itC]) (cs':=drC q) (by rw[o];rfl) λw5 B=>?_;refine⟨_,_,_,_,_,_,_,_,B.loA bR6,λb2 w6 x=>?_⟩;have y:(JV M d)[k]? =some q:=by rw[JV,au,j,o];rfl
  have J:((JV M d).take k).length=k:=by rw[aJ];omega
  refine vg (k:=k) (p:=q) B.AX om x ?_;intro l c2 w7 C;rw[<- take_snoc y]at C⊢;exact⟨iR,i (M.length-(k+1)) _ _ om ⟨k+1,l,c2,_,rfl,om,rfl,C⟩⟩
 have K:k=M.length:=om;subst K;rw[aV om]at H;have r:=H.BM (L:=[_]);rw[aV om,g];rw[g]at r;refine⟨n,c',rfl,TrA.own r (by rw[g];exact .head _) h.lt λp j=>?_,r.drop⟩;obtain⟨q,o,rfl⟩:=aU.1 j;exact(h.att q o).go r
def sH{X:List Rw}{ss:List Sl3}(h:ss.length=X.length):rws (X.zip ss)=X:=List.map_fst_zip (by omega)
def zip_at{X:List Rw}{ss:List Sl3}{k:Nat}{r:Rw}{s:Sl3}(h:X[k]? =some r)(b:ss[k]? =some s):(X.zip ss)[k]? =some (r,s):=by
 rw[nD];exact⟨h,b⟩
def QG{K:OA}{n lc:Nat}{l:List It}{ss:List Sl3}(N:CW f w K n l ss)(O:OA)(tn R:Nat)(nx more:Int)(lt:∀k∈f,k<w.heap.size)(hn:n<=1000000)(hl:∀x∈l,-1000000<=x.level/\x.level<=1000000)(hs: -1000000<=more/\more<=1000000)(hx:0<=nx/\nx<=2147483647):
  CP 203 #[tV O tn R nx,.slice K n lc,I more] w λe w'=>∃o c2,e=Ej (.slice o n c2)/\TrA f w' o c2 ((Ar nx more l).zip ss)/\Hp [] w w' []:=by
 apply Jdu;have q:=N.now;have h1:=q.len;have h2:=q.ssl;obtain⟨Y,r⟩:∃Y,Y=(Ar nx more l).zip ss:=⟨_,rfl⟩;have y:Y.length=n:=by rw[r,oD,Eo];omega
 rw[<- r];intro b w1 z;have H:=(Hp.start w).nw z;refine xI.mk (λm s w'=>∃(k:Nat)(t:OA)(u:Nat)(X:List Asn),m=n-k/\k<=n/\s=((t,(Y.take k).length,u),(k:Int))/\Hp [] w w' (.own 133 6 t (Y.take k).length u (yV (Y.take k))::.blk b (tC O tn R nx) 29::X)) n ⟨0,none,0,[],rfl,om,rfl,H.yS 133 6⟩ ?_;rintro m s w2 next ⟨k,t,u,X,rfl,T,rfl,H⟩ g
 refine AB (λU=>?_) (λU=>?_)
 ·obtain⟨x,s,d,h,_⟩:=q.at_ (k:=k) om;have aa:=hl x (aC d);obtain⟨ad,A,ld⟩:=(q.go H).some d h;refine AA A ⟨⟨om,U⟩,_,_,_,_,_,_,_,ld,?_⟩;intro b1 w3 B;have H2:=H.nw B;refine Hp.sA H2 CB (cs':=itC x s) λw4 Z=>?_;refine⟨_,Z.lo xK,iR,?_⟩;refine Hp.st Z EQ4 xK rfl rfl (by simp[itC]) rfl λw5 C=>?_;refine⟨_,C.lo xK,iR,_,_,_,_,_,_,_,C.loA CB,λb2 w6 D=>?_⟩
  have F:Y[k]? =some (⟨nx+k,x.level+more,x.x⟩,s):=by
   rw[r];exact zip_at (by rw[Dz,d];rfl) h
  have ab:(Y.take k).length=k:=by rw[aJ];omega
  refine vg (k:=k) (p:=(⟨nx+k,x.level+more,x.x⟩,s)) C.AX om D ?_;intro o c2 w7 H5;rw[<- take_snoc F]at H5⊢;exact⟨iR,g (n-(k+1)) _ _ om ⟨k+1,o,c2,_,rfl,om,rfl,(H5.perm (Em [_,_,_] _ _)).AX⟩⟩
 have i:k=n:=om;subst i;rw[aV om]at H;rw[aV om,y];have G:=H.BM (L:=[_]);refine⟨t,u,rfl,TrA.own G (.head _) lt λp hp=>?_,G.drop⟩;obtain⟨j,i⟩:=bD hp;rw[r,nD,Dz]at i;obtain⟨x,d,J⟩:=cO.1 i.1;intro W hW;have:=(N.rd W (YD G hW λk T=>.inl T)).FP j x p.2 d i.2;rw[<- J];exact this
def Jp(M:List DR)(n:Nat)(N:List DR):List DR:=M.take n++N++M.drop n
def Y2(M:List DR)(n:Nat)(N:List DR):rws (Jp M n N)=Ky (rws M) n (rws N):=by simp[rws,Jp,Ky,ai,iE,jd]
def MC(A B:List DR):yV (A++B)=yV A++yV B:=by simp[yV]
def NZ{w0:Wq}{a:OA}{c:Nat}{N:List DR}{X:List Asn}(H:Hp [] w w0 (.own 133 6 a N.length c (yV N)::X)){d:OA}{c1 c2 n:Nat}{K:List DR}(j:TrA f w0 d c1 K)(g:n=K.length)(o:N.length+K.length<=100000000){G:OA->Nat->Nat->Wq->Prop}
  (k:∀a' c' b,Hp [] w b (.own 133 6 a' (N++K).length c' (yV (N++K))::X)->G a' (N++K).length c' b):
  ∃a' h c' b,App PP #[27,27] 27 w0 (.slice a N.length c) (.slice d n c2) (.slice a' h c') b/\G a' h c' b:=by
 refine Hp.app bER om H ⟨rfl,rfl,rfl,rfl⟩ (j.src n g c2) (by simp only[maxLen];omega) om ?_;intro l c2 m i;have e:N.length+n=(N++K).length:=by rw[aF,g]
 rw[e,<- MC]at i;rw[e];exact k l c2 m i
def SK(h:TrA f w a c M)(C:M.length<=1000000)(nx:Int){n:Nat}(x:n<=M.length){q:OA}{c1 c2:Nat}{N:List DR}(r:TrA f w q c1 N)(y:N.length<=1000000):
  CP 207 #[tV a M.length c nx,I (n:Int),.slice q N.length c2] w λe w'=>∃a' c',e=Ej (tV a' (Jp M n N).length c' nx)/\TrA f w' a' c' (Jp M n N)/\Hp [] w w' []:=by
 apply Jdq;intro b D j F G l;have H:=(((Hp.start w).nw j).nw l).yS 133 6;have s:=h.cap;refine⟨_,_,_,H.lo bSR,⟨om,om⟩,?_⟩;refine NZ (N:=[]) H ((h.go H).take n) (by rw[aJ];omega) (by rw[aJ];simp;omega) ?_;intro J K O m;rw[aO]at m⊢;refine NZ m (r.go m) rfl (by rw[aJ];omega) ?_;intro R T U o;refine⟨_,_,_,o.lo bSR,⟨om,om⟩,?_⟩;have t:=(h.go o).sub (i:=n) (aZ _);rw[bJ]at t;rw[aN];refine NZ o t (by rw[bf]) (by rw[aF,aJ,bf];omega) ?_;intro z A X B;refine Hp.st (B.BF) EQ4 bSR rfl rfl (by simp[tC]) rfl λY u=>?_;refine⟨_,_,_,_,u.loA bT2,?_⟩;refine Hp.stA u.BF EQ4 bT2 rfl rfl (by simp[tC]) rfl λZ g=>?_;refine⟨_,_,_,_,g.loA bT2,?_⟩;refine⟨z,A,rfl,TrA.own g m2 h.lt λp d=>?_,g.done⟩;rcases aT.1 d with d|d
 ·rcases aT.1 d with d|d
  ·exact(h.att p (dJ d)).go g
  exact(r.att p d).go g
 exact(h.att p (fA d)).go g
def Jj(M:List DR)(k:Nat):List DR:=M.take k++M.drop (yg (rws M) k)
def Si(M:List DR)(k:Nat):rws (Jj M k)=BX (rws M) k:=by simp[rws,Jj,BX,ai,iE,jd]
def LM(h:TrA f w a c M)(s:M.length<=1000000)(nx:Int){k:Nat}{p:DR}(d:M[k]? =some p):
  CP 209 #[tV a M.length c nx,I (k:Int)] w λe w'=>∃a' c',e=Ej (tV a' (Jj M k).length c' nx)/\TrA f w' a' c' (Jj M k)/\Hp [] w w' []:=by
 apply Jd6;intro b B l C D m;have H:=(((Hp.start w).nw l).nw m).yS 133 6;have o:=h.cap;have t:=(aA.1 d).1;obtain⟨F,u⟩:=Sv (Kw d);rw[aQ]at u;refine⟨_,_,_,H.lo bSR,⟨om,om⟩,?_⟩;refine NZ (N:=[]) H ((h.go H).take k) (by rw[aJ];omega) (by rw[aJ];simp;omega) ?_;intro G J K g;rw[aO]at g⊢;refine⟨_,_,_,g.lo bSR,_,_,_,_,g.loA bT2,AC (Gm (h.go g.drew) s nx d) ?_⟩;rintro _ O ⟨rfl,x⟩;have n:=g.drew.xN x;refine⟨_,rfl,n.lo bSR,⟨om,om⟩,?_⟩;have q:=(h.go n).sub (i:=yg (rws M) k) (aZ _);rw[bJ]at q;rw[aN];refine NZ n q (by rw[bf]) (by rw[aJ,bf];omega) ?_;intro y z R A;refine Hp.st (A.BF) EQ4 bSR rfl rfl (by simp[tC]) rfl λT r=>?_;refine⟨_,_,_,_,r.loA bT2,?_⟩;refine Hp.stA r.BF EQ4 bT2 rfl rfl (by simp[tC]) rfl λU j=>?_;refine⟨_,_,_,_,j.loA bT2,?_⟩;refine⟨y,z,rfl,TrA.own j m2 h.lt λp d=>?_,j.done⟩;rcases aT.1 d with d|d
 ·exact(h.att p (dJ d)).go j
 exact(h.att p (fA d)).go j
theorem uF{L:List Rw}{k:Nat}{r:Rw}(h:L[k]? =some r)(n:Nat):k<IA L k n/\IA L k n<=L.length:=by
 have b:=Sv h;rw[IA,dH];cases hk:(EK L k)[n]? with
 |none=>exact b
 |some j=>have:=kids_in h hk;rw[fG];omega
def RJ(h:TrA f w a c M)(l:M.length<=1000000)(nx:Int){k:Nat}{p:DR}(m:M[k]? =some p)(t:∀q∈M,-1000000<=q.1.level/\q.1.level<=1000000)(n:Int)(u:0<=n):
  CP 208 #[tV a M.length c nx,I (k:Int),I n] w λe w'=>e=Ej (I (IA (rws M) k n.toNat:Int))/\Hp [] w w' []:=by
 apply Jd3;intro b x g;have H:=(Hp.start w).nw g;refine⟨_,_,_,_,H.loA bT2,AC (Lm (h.go H) l nx m t) ?_⟩;rintro _ y ⟨z,A,rfl,i⟩;replace H:=H.yC i;refine⟨_,_,_,rfl,AB (λo=>?_) (λo=>?_)⟩
 ·obtain⟨j,r⟩:∃j,(EK (rws M) k)[n.toNat]? =some j:=⟨_,aB om⟩;have s:(AO (KER (EK (rws M) k)))[n.toNat]? =some (I (j:Int)):=by rw[AO,au,au,r];rfl
  obtain⟨B,d,_⟩:=(H.xh (.head _)).cells _ _ s;refine AA d ⟨⟨u,o⟩,_,by rw[bV];exact(H.xh (.head _)).cells.ld xK d s,?_,H.done⟩;rw[IA,dH,r];rfl
 refine⟨_,_,_,_,H.loA bT2,AC (Gm (h.go H) l nx m) ?_⟩;rintro _ C ⟨rfl,i⟩;refine⟨_,rfl,?_,(H.xN i).done⟩;rw[IA,dH,bC om];rfl
end
noncomputable section
open Go Go.Vc Go.Nod
variable{f:List Nat}{w w':World}{a:Option Addr}{c:Nat}{M:List DR}{L:List Asn}
def Rq(s:BA)(i:s.size<=2000000)(w:Wq):CP 211 #[.string s] w λe w'=>e=Ej (I (BH s))/\Hp [] w w' []:=by
 apply Jd4;refine AC (Qy s i w) ?_;rintro e j ⟨⟨z,rfl,d⟩,H⟩;refine⟨_,rfl,AB (λh=>⟨by rw[BH,if_pos (d.1 h)],H⟩) (λh=>?_)⟩;have g:¬¬Uk s:=λb=>h (d.2 b);exact AB (λb=>⟨by rw[BH,if_neg g,if_pos om],H⟩) (λb=>⟨by rw[BH,if_neg g,if_neg om],H⟩)
def rgDeepest_spec{n lc:Nat}{l:List It}{ss:List Sl3}(d:ItR w a n l ss)(r:n<=140737488355328):CP 206 #[.slice a n lc] w λe w'=>e=Ej (I (deepest l))/\Hp [] w w' []:=by
 apply Jdg;have h:=d.len;refine xI.mk (λm s w'=>∃k:Nat,m=n-k/\k<=n/\s=(deepest (l.take k),(k:Int))/\w'=w) n ⟨0,rfl,om,rfl,rfl⟩ ?_;rintro m s t next ⟨k,rfl,u,rfl,q⟩ b
 obtain rfl:=q.symm;refine AB (λi=>?_) (λi=>⟨by rw[aV om],Hp.start w⟩);obtain⟨x,s,g,o,_⟩:=d.at_ (k:=k) om;obtain⟨y,p,_⟩:=d.some g o;refine AA p ⟨⟨om,i⟩,_,d.ld g o p xK (j:=0) rfl,iR,b (n-(k+1)) _ _ om ⟨k+1,rfl,om,?_,rfl⟩⟩;rw[take_snoc g];show _=(J9 0 (l.take k++[x]),_);rw[OX];rfl
theorem rgForest_spec{n lc:Nat}{l:List It}{ss:List Sl3}(Z:ItR w a n l ss)(hn:n<=maxLen)(G:∀s∈ss,s.2.1<=maxLen)(hf:∀x∈l,KCX x.x):CP 205 #[.slice a n lc] w λe w'=>e=Ej (I (CX l))/\Hp [] w w' []:=by
 apply Jdm;have r:=Z.len;simp only[maxLen]at hn;refine AB (λh=>⟨?_,Hp.start w⟩) (λh=>?_)
 ·have:l=[]:=ay om;rw[CX,if_pos this]
 have K:l≠[]:=λe=>h (by rw[r,e];rfl);rw[CX,if_neg K];refine xI.mk (λm s w'=>∃(k:Nat)(p:Option It),m=n-k/\k<=n/\s=(k:Int)/\DW p (l.drop k)=DW none l/\(k=0->p=none)/\(0<k->p=l[k-1]?)/\(∀y,p=some y->0<=y.level/\y.level<=k)/\Hp [] w w' []) n ⟨0,none,rfl,om,rfl,rfl,λ_=>rfl,om,λy h=>(by cases h),Hp.start w⟩ ?_;rintro m s w1 next ⟨k,p,rfl,hk,rfl,b,N,O,u,H⟩ g
 refine AB (λF=>?_) (λF=>?_);rotate_left
 ·rw[eu om,DW]at b;exact⟨by rw[<- b],H⟩
 have q:=Z.go H;obtain⟨x,s,z,R,T⟩:=q.at_ (k:=k) om;have A:=(aA.1 z);obtain⟨ad,d,U⟩:=q.some z R;have l0:=q.ld z R d xK (j:=0) rfl;rw[bM A.1,A.2,DW]at b;refine xM.mk (λt w'=>t=IR p/\w'=w1) ?_ ?_
 ·rintro t w2 ⟨rfl,hw⟩;obtain rfl:=hw.symm;refine AA d ⟨⟨om,F⟩,_,l0,AB (λB=>⟨by rw[<- b,if_pos (.inl B)],H⟩) (λB=>AA d ⟨⟨om,F⟩,_,l0,AB (λi=>⟨by rw[<- b,if_pos (.inr i)],H⟩) (λi=>?_)⟩)⟩;rw[if_neg (λh=>h.elim B i)]at b;refine AA d ⟨⟨om,F⟩,_,_,_,_,_,_,_,U,AC (RS x.level x.x s.1 s.2.1 s.2.2 _ T (G s (aC R)) (hf x (aC z))) ?_⟩;rintro _ w3 ⟨rfl,H'⟩;refine⟨_,rfl,AQ (λX=>⟨by rw[<- b,if_neg X],H.xN H'⟩) (λX=>⟨iR,g (n-(k+1)) _ _ om ⟨k+1,some x,rfl,om,rfl,by rw[if_pos X]at b;exact b,om,λ_=>by rw[jB,z],λy C=>?_,H.xN H'⟩⟩)⟩;cases C
  have ht:IR p<=(k:Int)+1:=by
   cases hq:p with
   |none=>show(0:Int)<=_;omega
   |some y=>
    have:=u y hq;show(if y.x.kind=2 then y.level else y.level+1)<=_;split<;>omega
  omega
 intro J Y;refine AB (λB=>?_) (λB=>Y _ _ ⟨by rw[N om];rfl,rfl⟩);obtain⟨y,sy,C,D,_⟩:=q.at_ (k:=k-1) om;have o:p=some y:=by rw[O om,C]
 have aa:=u y o;have e1:((k:Int)-1).toNat=k-1:=om;refine⟨iR,AA d ⟨⟨om,om⟩,_,by rw[e1];exact q.ld C D d xK (j:=0) rfl,iR,AA d ⟨⟨om,om⟩,_,by rw[e1,add_add];exact q.ld C D d xK rfl,AQ (λi=>⟨iR,Y _ _ ⟨?_,rfl⟩⟩) (λi=>Y _ _ ⟨?_,rfl⟩)⟩⟩⟩
 ·rw[o];exact(if_neg i).symm
 rw[o];exact(if_pos i).symm
def Xz{w0 w1:Wq}{b:Nat}{a:OA}{c:Nat}{N:List At}{p:At}{X:List Asn}(H:Hp [] w w0 (.own 142 2 a N.length c (atC N)::X))(o:N.length<=100000000){d:Wq}(e:Eqw w0 d)(j:New d (.cells #[.string p.1,.string p.2] 142) b w1){G:OA->Nat->Nat->Wq->Prop}
  (k:∀a' c' d,Hp [] w d (.own 142 2 a' (N++[p]).length c' (atC (N++[p]))::.blk b [.string p.1,.string p.2] 142::X)->G a' (N++[p]).length c' d):
  ∃a' g c' d,App PP #[69,69] 69 w1 (.slice a N.length c) (.slice (Pq b) 1 1) (.slice a' g c') d/\G a' g c' d:=by
 have h:=(H.new e j).AX;refine Hp.app uy om h EQ4 (Blk.src uj (h.blk m1) rfl rfl) (by simp only[maxLen];omega) om ?_;intro l m n i;have e:N.length+1=(N++[p]).length:=by rw[aF];rfl
 rw[e,show [Value.string p.1,.string p.2]=atC [p]from rfl,<- Gp]at i;rw[e];exact k l m n i
def rgLess_spec{n lc:Nat}{l:List At}(o:AtR w a n l)(F:n<=1000000)(d:BA):
  CP 214 #[.slice a n lc,.string d] w λe w'=>∃a' c',e=Ej (.slice a' (BR l d).length c')/\Hp [] w w' [.own 142 2 a' (BR l d).length c' (atC (BR l d))]:=by
 apply Jdr;have u:=o.len;refine xI.mk (λm s w'=>∃(k:Nat)(a':OA)(c':Nat)(X:List Asn),m=n-k/\k<=n/\s=((a',(BR (l.take k) d).length,c'),(k:Int))/\Hp [] w w' (.own 142 2 a' (BR (l.take k) d).length c' (atC (BR (l.take k) d))::X)) n ⟨0,none,0,[],rfl,om,rfl,(Hp.start w).yS 142 2⟩ ?_;rintro m s G next ⟨k,a',c',X,rfl,x,rfl,H⟩ g
 refine AB (λq=>?_) (λq=>?_);rotate_left
 ·have x:k=n:=om;subst x;rw[aV om]at H⊢;exact⟨_,_,rfl,H.BM (L:=[_])⟩
 obtain⟨p,r⟩:∃p,l[k]? =some p:=⟨_,aB om⟩;obtain⟨J,h,A,_⟩:=(o.go H).ld r;have i:BR (l.take (k+1)) d=BR (l.take k) d++BR [p] d:=by rw[take_snoc r,BR,iC];rfl
 refine AA h ⟨⟨om,q⟩,_,A,AQ (λj=>AA h ⟨⟨om,q⟩,_,_,(o.go H).cells.ldA EX h (Gg r) rfl,λb K t=>?_⟩) (λj=>⟨iR,g (n-(k+1)) _ _ om ⟨k+1,a',c',X,rfl,om,?_,?_⟩⟩)⟩
 ·have B:(BR (l.take k) d).length<=k:=by
   have:=jR (λy:At=> !decide (y.1=d)) (l.take k);rw[aJ]at this;show(List.filter _ _).length<=k;omega
  refine Xz H om EQ4 t ?_;intro C D N z;have e:BR (l.take k) d++[p]=BR (l.take (k+1)) d:=by rw[i,BR,BR,dL,if_pos (by simpa using j)];rfl
  rw[e]at z⊢;exact⟨iR,g (n-(k+1)) _ _ om ⟨k+1,C,D,_,rfl,om,rfl,z⟩⟩
 ·rw[i,BR,BR,dL,if_neg (by simpa using j)];simp[BR]
 rw[i,show BR [p] d=[] by rw[BR,dL,if_neg (by simpa using j)];rfl,aX];exact H
def sO(at_:At):Bool->List At->List At
 |true,l=>BR l at_.1
 |false,l=>CQ l at_
theorem rgWith_spec{n lc:Nat}{l:List At}(Z:AtR w a n l)(hn:n<=1000000)(x:At):
  CP 212 #[.slice a n lc,.agg #[.string x.1,.string x.2]] w λe w'=>∃a' c',e=Ej (.slice a' (CQ l x).length c')/\Hp [] w w' [.own 142 2 a' (CQ l x).length c' (atC (CQ l x))]:=by
 obtain⟨i,r⟩:=x;apply Jd5;obtain⟨x,G⟩:∃x:At,x=(i,r):=⟨_,rfl⟩;have j:x.1=i:=by rw[G]
 have ab:=Z.len;intro b w1 aa;have H:=(Hp.start w).nw aa;rw[<- G];refine xI.mk (λm s w'=>∃(k:Nat)(N:List At)(d:Bool)(a':OA)(c':Nat)(X:List Asn),m=n-k/\k<=n/\s=((a',N.length,c'),d,(k:Int))/\N.length<=2*k/\CQ l x=N++sO x d (l.drop k)/\Hp [] w w' (.own 142 2 a' N.length c' (atC N)::.blk b [.string i,.string r] 142::X)) n ⟨0,[],false,none,0,[],rfl,om,rfl,by simp,rfl,H.yS 142 2⟩ ?_;rintro m s w1 next ⟨k,N,d,a',c',X,rfl,hk,rfl,ac,u,H⟩ y
 dsimp only;have sN:∀{w:Wq}{L:List Asn},Hp [] w w L->True:=λ_=>trivial;refine AB (λK=>?_) (λK=>?_);rotate_left
 ·rw[eu om]at u;refine Es (λg=>?_) (λg=>?_)
  ·rw[g]at u;refine⟨_,_,H.loA EX,λO w2 o=>?_⟩;refine Xz (p:=(i,r)) H om EQ4 o ?_;intro R T w3 z;have e:N++[(i,r)]=CQ l x:=by rw[u,<- G];rfl
   rw[e]at z⊢;exact⟨_,_,rfl,z.BM (L:=[_])⟩
  rw[g,show sO x true []=[]from rfl,aX]at u;rw[u];exact⟨_,_,rfl,H.BM (L:=[_])⟩
 obtain⟨p,U⟩:∃p,l[k]? =some p:=⟨_,aB om⟩;have B:=aA.1 U;rw[bM B.1,B.2]at u;refine xM.mk (λ(s:(OA×Nat×Nat)×Bool) w'=>∃(N:List At)(a':OA)(c':Nat)(X:List Asn),s=((a',N.length,c'),s.2)/\N.length<=2*(k+1)/\CQ l x=N++sO x s.2 (l.drop (k+1))/\Hp [] w w' (.own 142 2 a' N.length c' (atC N)::.blk b [.string i,.string r] 142::X)) ?_ ?_
 ·rintro⟨s1,d⟩ w4 ⟨N,a',c',X,hs,Y,A,g3⟩;cases hs;exact⟨iR,y (n-(k+1)) _ _ om ⟨k+1,N,d,a',c',X,rfl,om,rfl,Y,A,g3⟩⟩
 intro J hJ;refine xM.mk (λ(s:(OA×Nat×Nat)×Bool) w'=>∃(N:List At)(a':OA)(c':Nat)(X:List Asn),s=((a',N.length,c'),s.2)/\N.length<=2*k+1/\CQ l x=N++(BR [p] x.1++sO x s.2 (l.drop (k+1)))/\Hp [] w w' (.own 142 2 a' N.length c' (atC N)::.blk b [.string i,.string r] 142::X)) ?_ ?_
 ·rintro⟨s1,d⟩ w4 ⟨N,a',c',X,hs,Y,A,H⟩;cases hs;have C:=Z.go H.drew;obtain⟨ad,q,l1,_⟩:=C.ld U;refine AA q ⟨⟨om,K⟩,_,l1,_,H.lo xx,AQ (λg=>AA q ⟨⟨om,K⟩,_,_,C.cells.ldA EX q (Gg U) rfl,λO w2 o=>?_⟩) (λg=>hJ _ _ ⟨N,a',c',X,rfl,om,?_,H.drew⟩)⟩
  ·refine Xz H om EQ4 o ?_;intro R T w3 z;refine hJ _ _ ⟨N++[p],R,T,.blk O [.string p.1,.string p.2] 142::X,rfl,by rw[aF,gY];omega,?_,z.perm (Em [_,_] _ _ |>.trans ((List.Perm.swap _ _ _)))⟩;rw[A,BR,dL,if_pos (by rw[j];simpa using g)];simp
  rw[A,BR,dL,if_neg (by rw[j];simpa using g)];simp
 intro J2 D;refine xM.mk (λ(s:Bool) w'=>(s=true->d=false/\¬ltB p.1 i)/\(s=false->d=true\/ltB p.1 i)/\Hp [] w w' (.own 142 2 a' N.length c' (atC N)::.blk b [.string i,.string r] 142::X)) ?_ ?_
 ·rintro s w4 ⟨Y,A,H⟩;refine Du (λg=>?_) (λg=>?_)
  ·obtain⟨rfl,t⟩:=Y g;refine⟨_,_,H.loA EX,λO w2 o=>?_⟩;refine Xz (p:=(i,r)) H om EQ4 o ?_;intro R T w3 z;refine D _ _ ⟨N++[(i,r)],R,T,.blk O [.string i,.string r] 142::X,rfl,by rw[aF,gY];omega,?_,z.perm (Em [_,_] _ _ |>.trans ((List.Perm.swap _ _ _)))⟩;rw[u,<- G];show N++CQ (p::l.drop (k+1)) x=N++[x]++(BR [p] x.1++BR (l.drop (k+1)) x.1);rw[CQ,if_neg (by rw[j];exact t),BR,BR,<- iC];simp
  refine D _ _ ⟨N,a',c',X,rfl,om,?_,H⟩;rw[u];congr 1;cases d with
  |true=>show BR (p::_) _=BR [p] _++BR _ _;rw[BR,BR,BR,<- iC];rfl
  |false=>
   have t:=(A g).resolve_left (by simp);show CQ (p::_) _=BR [p] _++CQ _ _;rw[CQ,if_pos (by rw[j];exact t),BR,dL,if_pos (by rw[j];simp;intro e;rw[e]at t;exact EF _ t)];rfl
 intro J3 F;refine Es (λg=>?_) (λg=>F _ _ ⟨λh=>(by cases h),λ_=>.inl g,H.drew⟩);obtain⟨ad,q,l1,_⟩:=(Z.go H.drew).ld U;refine AA q ⟨⟨om,K⟩,_,l1,_,H.lo xx,F _ _ ⟨λh=>⟨g,λt=>?_⟩,λh=>.inr ?_,H.drew⟩⟩
 ·rw[Go.Proofs.bytesLess_eq]at h;simp only[lC,decide_eq_false_iff_not]at h;exact h t
 rw[Go.Proofs.bytesLess_eq]at h;exact az λt=>by rw[decide_eq_false (show¬(p.1.data.toList<i.data.toList)from t)]at h;cases h
def KAB(M:List DR)(k:Nat)(p:DR)(x:NX)(s:Sl3):List DR:=M.set k ({p.1 with x:=x},s)
def rws_set(M:List DR)(k:Nat)(p:DR)(x:NX)(s:Sl3):rws (KAB M k p x s)=KAn (rws M) k p.1 x:=by simp[rws,KAB,KAn,qE]
def rgSet_spec(h:TrA f w a c M)(hn:M.length<=1000000)(nx:Int){k:Nat}{p:DR}(l:M[k]? =some p)(x:NX)(s:Sl3)(D:AtA f w ({p.1 with x:=x},s)):
  CP 213 #[tV a M.length c nx,I (k:Int),.agg (itC ⟨p.1.level,x⟩ s).toArray] w λe w'=>∃a' c',e=Ej (tV a' (KAB M k p x s).length c' nx)/\TrA f w' a' c' (KAB M k p x s)/\Hp [] w w' []:=by
 apply Jd0;intro b w1 m F w2 n G w3 o y J r;have z:=((((Hp.start w).nw m).nw n).nw o).nw r;have H:Hp [] w J (.own 133 6 (Pq y) ([]:List DR).length 0 (yV [])::.blk G (tC none 0 0 0) 29::.blk F (itC ⟨p.1.level,x⟩ s) 123::.blk b (tC a M.length c nx) 29::[]):=z.set (Chg.refl _ _) ⟨rfl,.inr ⟨y,#[],(0,0),rfl,bZ _,z.blk (.head _),KBc.zero _,aZ _,bZ _,by simp,rfl⟩⟩ (λk K=>.inl K);have d:=(aA.1 l).1;refine⟨_,_,_,H.lo bSR,?_⟩;refine NZ H (h.go H) rfl (by simp;omega) ?_;intro N O w5 j;rw[aO]at j⊢;have A:(KAB M k p x s).length=M.length:=by rw[KAB,bU]
 obtain⟨ad,g,_⟩:=(j.xh (.head _)).cells (k*6) (I p.1.id) (by
  have R:=wJ O6 l;have:(((yV M).drop (k*6)).take 6)[0]? =some (I p.1.id):=by rw[yV,R];rfl
  rw[bn om,dm]at this;exact this)
 refine⟨_,_,_,_,_,_,_,j.loA CB,AA g ⟨⟨om,om⟩,?_⟩⟩;rw[aN,add_add]
 have t:over (itC ⟨p.1.level,x⟩ s) (k*6+1) (yV M)=yV (KAB M k p x s):=by
  have T:M=M.take k++p::M.drop (k+1):=by
   have:=bY k M;rw[bM d,(aA.1 l).2]at this;exact this.symm
  have U:(M.take k).length=k:=by rw[aJ];omega
  have X:KAB M k p x s=M.take k++({p.1 with x:=x},s)::M.drop (k+1):=by
   rw[KAB,ku,if_pos d]
  have Y:yV M=(yV (M.take k)++[I p.1.id])++(itC ⟨p.1.level,p.1.x⟩ p.2++yV (M.drop (k+1))):=by
   conv=>lhs;rw[T]
   rw[MC];simp[yV,drC]
  have Z:yV (KAB M k p x s)=(yV (M.take k)++[I p.1.id])++(itC ⟨p.1.level,x⟩ s++yV (M.drop (k+1))):=by
   rw[X,MC];simp[yV,drC]
  have e5:k*6+1=(yV (M.take k)++[I p.1.id]).length:=by rw[aF,Px,U];rfl
  rw[Y,Z,e5];exact FU _ _ _ _ rfl
 refine Hp.stO (v:=.agg (itC ⟨p.1.level,x⟩ s).toArray) (xs':=yV (KAB M k p x s)) j EQ4 g CB.size rfl (by rw[Px];show k*6+1+5<=_;omega) t λw6 B=>?_;rw[<- A]at B;rw[<- A];refine Hp.st (B.ET) EQ4 bSR rfl rfl (by simp[tC]) rfl λw7 C=>?_;refine⟨_,_,_,_,C.loA bT2,?_⟩;refine Hp.stA (C.BF) EQ4 bT2 rfl rfl (by simp[tC]) rfl λw8 i=>?_;refine⟨_,_,_,_,i.loA bT2,N,O,rfl,TrA.own i m2 h.lt λq u=>?_,i.done⟩;rcases gG u with u|rfl
 ·exact(h.att q u).go i
 exact D.go i
end
noncomputable section
open Go Go.Vc Go.Nod
variable{f:List Nat}{w w':World}{a:Option Addr}{c:Nat}{M:List DR}{L:List Asn}
theorem giv{B:Nq}{w1:Wq}{b1:Nat}{cs:LV}{n:Nat}{nx:Int}{G:WP}(H:Hp B w w1 (.blk b1 cs 29::L))(d:cs.length=2)(k:∀b,Chg [b1] w1 b->Hp B w b (.blk b1 (tC a n c nx) 29::L)->G b):∃b,St PP 29 w1 ⟨b1,0,none⟩ (tV a n c nx) b/\G b:=by
 have g:Hp [b1] w1 w1 [.blk b1 cs 29]:=Hp.II (H.ok _ (.head _))
 refine Hp.stA g EQ4 bT2 rfl rfl (by rw[d];exact aZ _) (by
  match cs,d with
  | [x,y],_=>rfl) λb e=>k b e.chg (H.Bg e)
def give{B:Nq}{w1:Wq}{b1:Nat}{cs:LV}{n:Nat}{nx:Int}{G:OA->Nat->Nat->Int->Wq->Prop}(H:Hp B w w1 (.blk b1 cs 29::L))(d:cs.length=2)(k:∀b,Chg [b1] w1 b->Hp B w b []->G a n c nx b):
  ∃b,St PP 29 w1 ⟨b1,0,none⟩ (tV a n c nx) b/\∃a' e c' g,Ld PP 29 b ⟨b1,0,none⟩ (.agg #[.slice a' e c',I g])/\G a' e c' g b:=
 giv H d λb i h=>⟨_,_,_,_,h.loA bT2,k b i h.done⟩
def back{B:Nq}{w1:Wq}{b b1:Nat}{cs:LV}{n:Nat}{nx:Int}{G:OA->Nat->Nat->Int->Wq->Prop}(H:Hp B w w1 (.blk b1 cs 29::L))(m:Asn.blk b (tC a n c nx) 29∈L)(h:cs.length=2)(k:∀d,Hp B w d []->G a n c nx d):
  ∃a' e c' g,Ld PP 29 w1 ⟨b,0,none⟩ (.agg #[.slice a' e c',I g])/\∃d,St PP 29 w1 ⟨b1,0,none⟩ (.agg #[.slice a' e c',I g]) d/\∃a' e c' g,Ld PP 29 d ⟨b1,0,none⟩ (.agg #[.slice a' e c',I g])/\G a' e c' g d:=
 ⟨_,_,_,_,H.ldA EQ4 bT2 (.tail _ m) rfl rfl,give H h λd _ i=>k d i⟩
def zM(f:Nq)(w:Wq)(T:Tr)(K:Value->Ending)(e:Ending)(w':Wq):Prop:=
 ∃(a':OA)(c':Nat)(M':List DR),e=K (tV a' M'.length c' T.next)/\rws M'=T.L/\TrA f w' a' c' M'/\Hp [] w w' []
def K2(z:Int)(t:Value):Ending:=Ej (.tuple #[t,I z])
def K3(i z:Int)(t:Value):Ending:=Ej (.tuple #[t,I i,I z])
structure TrG(M:List DR)(nx:Int):Prop where
 len:M.length<=1000
 lev:∀q∈M,0<=q.1.level/\q.1.level<40
 next:1<=nx/\nx<=2147483647
def TrG.wide{nx:Int}(g:TrG M nx):∀q∈M,-1000000<=q.1.level/\q.1.level<=1000000:=λq b=>by have:=g.lev q b;omega
def zM.same(h:TrA f w a c M){nx:Int}{b:Wq}(H:Hp [] w b [])(K:Value->Ending){T:Tr}(d:T=⟨rws M,nx⟩):zM f w T K (K (tV a M.length c nx)) b:=by
 subst d;exact⟨a,c,M,rfl,rfl,h.go H,H⟩
theorem deep_len{l:List It}(h:CX l=0):0<=deepest l/\deepest l<=l.length:=by
 have j:l≠[]:=λe=>by rw[CX,if_pos e]at h;cases h
 refine⟨(PK l 0).1,?_⟩
 have b:∀x∈l,x.level<=l.length:=λx g=>by
  have s:DW none l=0:=by rw[CX,if_neg j]at h;exact h
  have:=IV l none 0 s (gz _) x g;omega
 have o:∀(i:List It)(d m:Int),d<=m->(∀x∈i,x.level<=m)->J9 d i<=m:=by
  intro i
  induction i with
  |nil=>intro d m q _;exact q
  |cons y r t=>
   intro d m q g;have:=g y (.head _);exact t (max d y.level) m om λx p=>g x (.tail _ p)
 exact o l 0 _ om b
section
variable{la:Option Addr}{n lc:Nat}{l:List It}{ss:List Sl3}{nx:Int}
def rgLoad_spec(h:TrA f w a c M)(g:TrG M nx)(e:CW f w la n l ss)(N:∀x∈l,KCX x.x/\x.level<=9223372036854775807)(hn:n<=140737488355328):
  CP 139 #[tV a M.length c nx,.slice la n lc] w (zM f w (Tr.load ⟨rws M,nx⟩ l).1 (K3 (Tr.load ⟨rws M,nx⟩ l).2.1 (Tr.load ⟨rws M,nx⟩ l).2.2)):=by
 apply Jds;intro b w1 q F O r;have H:=((Hp.start w).nw q).nw r;have i:=e.now.len;have s:=g.next;refine AC (rCheck_spec la n lc l ss O (e.now.go H) e.len e.sls N) ?_;rintro _ w3 ⟨rfl,t⟩;replace H:=H.xN t;refine⟨_,_,rfl,AQ (λo=>?_) (λo=>?_)⟩
 ·refine back H (.head _) rfl λG u=>?_;rw[Tr.load,if_pos o];exact zM.same h u _ rfl
 have j:¬(Dp l).2≠0:=λy=>y o;refine⟨_,H.lo xK,iR,AB (λy=>?_) (λy=>?_)⟩
 ·refine back H (.head _) rfl λG u=>?_;rw[Tr.load,if_neg j,if_pos (by dsimp only;omega)];exact zM.same h u _ rfl
 have z:¬2147483647<nx+(l.length:Int):=om;obtain⟨R,d,T⟩:=OT o s.1 om
 have U:l.length<=1000:=by
  have:=d.len;rw[Eo]at this;exact this
 have m:∀x∈l,-1000000<=x.level/\x.level<=1000000:=λx X=>by
  obtain⟨k,Y⟩:=bD X;have J:(Ar nx 0 l)[k]? =some ⟨nx+k,x.level+0,x.x⟩:=by rw[Dz,Y];rfl
  have A:=d.deep _ (aC J);have B:=Bh R 0 ⟨nx+k,x.level+0,x.x⟩ (by rw[d.fl];exact aC J);dsimp only at A B;omega
 have p:∀{w':Wq},Hp [] w w' [.blk F (tC none 0 0 0) 29,.blk b (tC a M.length c nx) 29]->Ld PP 3 w' ⟨b,1,none⟩ (I nx):=λH=>H.lo xK;refine⟨_,_,_,_,H.loA bT2,_,p H.drew,iR,_,p H.drew,AC (QG (e.mv2 H.drew (by simp[xq,Asn.foot])) a M.length c nx 0 (h.mv H.drew (S:=[F]) (by simp[xq,Asn.foot])).lt om m om om) ?_⟩;rintro _ G ⟨Z,c2,rfl,hT,t⟩;replace H:=H.drew.xN t;have K:=e.now.ssl;have C:((Ar nx 0 l).zip ss).length=n:=by rw[oD,Eo];omega
 refine⟨_,_,_,rfl,p H,p H,giv H rfl λw5 hc D=>⟨D.lo xK,_,_,_,_,D.loA bT2,?_⟩⟩;rw[Tr.load,if_neg j,if_neg om];exact⟨Z,c2,_,by rw[C,i];rfl,sH (by rw[Eo];omega),hT.back hc,D.done⟩
def rgDelete_spec(h:TrA f w a c M)(g:TrG M nx)(id:Int):
  CP 141 #[tV a M.length c nx,I id] w (zM f w (Tr.delete ⟨rws M,nx⟩ id).1 (K2 (Tr.delete ⟨rws M,nx⟩ id).2)):=by
 apply Jdi;intro b C e q D i;have H:=((Hp.start w).nw e).nw i;have F:=g.len;refine⟨_,_,_,_,H.loA bT2,AC (D8 (h.go H) om nx id) ?_⟩;rintro _ G ⟨⟨z,rfl,r⟩,j⟩;replace H:=H.xN j;rcases r with⟨_,d,rfl⟩|⟨k,p,s,_,_,d,rfl⟩
 ·refine⟨_,rfl,AB (λ_=>back H (.head _) rfl λo m=>?_) (λh=>by omega)⟩;rw[Tr.delete,d];exact zM.same h m _ rfl
 refine⟨_,rfl,AB (λh=>by omega) (λ_=>AB (λt=>back H (.head _) rfl λo m=>?_) (λt=>⟨_,_,_,_,H.loA bT2,AC (LM (h.mv H (S:=[q]) (by simp[xq,Asn.foot])) om nx s) ?_⟩))⟩
 ·rw[Tr.delete,d];dsimp only;rw[if_pos om];exact zM.same h m _ rfl
 rintro _ o ⟨u,x,rfl,y,j⟩;refine⟨_,_,_,_,rfl,give (H.xN j) rfl λJ A B=>?_⟩;rw[Tr.delete,d];dsimp only;rw[if_neg om];exact⟨u,x,_,rfl,Si M k,y.back A,B⟩
def rgInsert_spec(h:TrA f w a c M)(g:TrG M nx)(id at_:Int)(hA:CW f w la n l ss)(hf:∀x∈l,KCX x.x)(T:n<=140737488355328):
  CP 140 #[tV a M.length c nx,I id,I at_,.slice la n lc] w (zM f w (Tr.insert ⟨rws M,nx⟩ id at_ l).1 (K3 (Tr.insert ⟨rws M,nx⟩ id at_ l).2.1 (Tr.insert ⟨rws M,nx⟩ id at_ l).2.2)):=by
 apply Jdn;intro b w1 ab t w2 ak;have H:=((Hp.start w).nw ab).nw ak;have hl:=g.len;have av:=g.next;have af:=hA.now.len;have K:∀{Z:List Asn},Asn.blk b (tC a M.length c nx) 29∈.blk t (tC none 0 0 0) 29::.blk b (tC a M.length c nx) 29::Z:=.tail _ (.head _);refine⟨_,_,_,_,H.ldA EQ4 bT2 K rfl rfl,AC (D8 (h.go H) om nx id) ?_⟩;rintro _ w3 ⟨⟨z,rfl,hz⟩,d⟩;replace H:=H.xN d;have same:∀(w':Wq)(e:Int),Tr.insert ⟨rws M,nx⟩ id at_ l=(⟨rws M,nx⟩,0,e)->Hp [] w w' []->zM f w (Tr.insert ⟨rws M,nx⟩ id at_ l).1 (K3 (Tr.insert ⟨rws M,nx⟩ id at_ l).2.1 (Tr.insert ⟨rws M,nx⟩ id at_ l).2.2) (K3 0 e (tV a M.length c nx)) w':=λw' e he H=>by rw[he];exact zM.same h H _ rfl
 rcases hz with⟨_,h1,rfl⟩|⟨k,p,U,_,_,h1,rfl⟩
 ·exact⟨_,rfl,AB (λ_=>back H (.head _) rfl λw4 j=>same _ _ (by rw[Tr.insert,h1]) j) (λh=>by omega)⟩
 have aw:=(aA.1 U).1;have a0:=g.lev p (aC U);obtain⟨ad,ac,ld,_⟩:=(h.go H).ld U;refine⟨_,rfl,AB (λh=>by omega) (λ_=>⟨_,_,_,H.ld EQ4 bSR K rfl,AA ac ⟨⟨om,om⟩,_,by rw[aN,add_add,add_add];exact ld xK rfl,AQ (λh2=>back H (.head _) rfl λw4 j=>same _ _ (by rw[Tr.insert,h1];dsimp only;rw[if_pos h2]) j) (λh2=>?_)⟩⟩)⟩;have ab:¬p.1.x.kind≠1:=λh=>h h2
 have X:(Tr.insert ⟨rws M,nx⟩ id at_ l)=(if at_<0\/((EK (rws M) k).length:Int)<at_ then((⟨rws M,nx⟩:Tr),0,69)else if CX l≠0 then(⟨rws M,nx⟩,0,CX l)else if 40<=p.1.level+1+deepest l then(⟨rws M,nx⟩,0,65)
  else if 1000<M.length+l.length\/2147483647<nx+l.length then(⟨rws M,nx⟩,0,66)
  else(⟨Ky (rws M) (IA (rws M) k at_.toNat) (Ar nx (p.1.level+1) l),nx+l.length⟩,nx,0)):=by
  rw[Tr.insert,h1];dsimp only;rw[if_neg ab,aQ]
 refine xM.mk (λs w'=>(s=true↔at_<0\/((EK (rws M) k).length:Int)<at_)/\Hp [] w w' [.blk t (tC none 0 0 0) 29,.blk b (tC a M.length c nx) 29]) ?_ ?_;rotate_left
 ·intro J hJ;refine AB (λN=>hJ _ _ ⟨⟨λ_=>.inl N,λ_=>rfl⟩,H⟩) (λN=>⟨_,_,_,_,H.ldA EQ4 bT2 K rfl rfl,AC (Lm (h.go H) om nx U g.wide) ?_⟩);rintro _ w4 ⟨a2,c2,rfl,d⟩;exact⟨_,_,_,rfl,hJ _ _ ⟨decide_eq_true_iff.trans ⟨.inr,λh=>h.resolve_left N⟩,(H.yC d).drop⟩⟩
 rintro s w4 ⟨hs,H⟩;refine Du (λN=>back H (.head _) rfl λw5 A=>same _ _ (by rw[X,if_pos (hs.1 N)]) A) (λN=>?_);have N:¬(at_<0\/((EK (rws M) k).length:Int)<at_):=λh=>by rw[hs.2 h]at N;cases N
 rw[if_neg N]at X;have al:=hA.mv2 (S:=[]) H (by simp);refine AC (rgForest_spec al.now hA.len hA.sls hf) ?_;rintro _ w5 ⟨rfl,d⟩;replace H:=H.xN d;refine⟨_,rfl,AQ (λh4=>back H (.head _) rfl λw5 A=>same _ _ (by rw[X,if_pos h4]) A) (λh4=>?_)⟩;rw[if_neg (λh=>h h4)]at X;obtain⟨d1,d2⟩:=deep_len h4;obtain⟨ad,ac,ld,_⟩:=(h.go H).ld U;refine⟨_,_,_,H.ld EQ4 bSR K rfl,AA ac ⟨⟨om,om⟩,_,by rw[aN,add_add];exact ld (v:=I p.1.level) xK rfl,iR,AC (rgDeepest_spec (hA.mv2 (S:=[]) H (by simp)).now T) ?_⟩⟩;rintro _ w6 ⟨rfl,d⟩;replace H:=H.xN d;refine⟨_,rfl,iR,AB (λh5=>back H (.head _) rfl λw5 A=>same _ _ (by rw[X,if_pos h5]) A) (λh5=>?_)⟩;rw[if_neg h5]at X;refine xM.mk (λs w'=>(s=true↔1000<M.length+l.length\/2147483647<nx+(l.length:Int))/\Hp [] w w' [.blk t (tC none 0 0 0) 29,.blk b (tC a M.length c nx) 29]) ?_ ?_;rotate_left
 ·intro J hJ;refine⟨_,_,_,H.ld (cs:=tC a M.length c nx) EQ4 bSR K rfl,iR,AB (λh6=>hJ _ _ ⟨⟨λ_=>.inl om,λ_=>rfl⟩,H⟩) (λh6=>⟨_,H.ld (o:=1) (cs:=tC a M.length c nx) EQ4 xK K rfl,iR,hJ _ _ ⟨decide_eq_true_iff.trans ⟨λh=>.inr om,λh=>?_⟩,H⟩⟩)⟩;rcases h with h|h<;>omega
 rintro s w7 ⟨hs,H⟩;refine Du (λh6=>back H (.head _) rfl λw5 A=>same _ _ (by rw[X,if_pos (hs.1 h6)]) A) (λh6=>?_);have h6:¬(1000<M.length+l.length\/2147483647<nx+(l.length:Int)):=λh=>by rw[hs.2 h]at h6;cases h6
 rw[if_neg h6]at X;obtain⟨Y,hY⟩:∃Y,Y=(Ar nx (p.1.level+1) l).zip ss:=⟨_,rfl⟩;have ar:=hA.now.ssl;have am:rws Y=Ar nx (p.1.level+1) l:=by rw[hY];exact sH (by rw[Eo];omega)
 have an:Y.length=n:=by rw[hY,oD,Eo];omega
 obtain⟨q,hq⟩:∃q,q=IA (rws M) k at_.toNat:=⟨_,rfl⟩
 have ag:=uF (Kw U) at_.toNat
 rw[<- hq,aQ]at ag
 have ah:∀x∈l,-1000000<=x.level/\x.level<=1000000:=λx hx=>by
  have ao:l≠[]:=λe=>by rw[e]at hx;cases hx
  have h9:DW none l=0:=by rw[CX,if_neg ao]at h4;exact h4
  have:=IV l none 0 h9 (gz _) x hx;omega
 have cS:∀{w':Wq}{L':List Asn},Hp [] w w' L'->CP 208 #[tV a M.length c nx,I (k:Int),I at_] w' λe w2=>e=Ej (I (q:Int))/\Hp [] w' w2 []:=λH=>by
  have:=RJ (h.go H) om nx U g.wide at_ om
  rw[<- hq]at this;exact this
 have cN:∀{S:Nq}{w':Wq}{L':List Asn},Hp [] w w' L'->(∀k∈S,k∈xq L')->CP 203 #[tV a M.length c nx,.slice la n lc,I (p.1.level+1)] w' λe w2=>∃a2 c2,e=Ej (.slice a2 n c2)/\TrA (S++f) w2 a2 c2 Y/\Hp [] w' w2 []:=λ{S w' L'} H m=>by
  have:=QG (lc:=lc) (hA.mv2 H m) a M.length c nx (p.1.level+1) (h.mv H m).lt om ah om om;rw[<- hY]at this;exact this
 have cL:∀{S:Nq}{w':Wq}{L':List Asn}{a1:OA}{c1:Nat},Hp [] w w' L'->(∀k∈S,k∈xq L')->TrA (S++f) w' a1 c1 Y->CP 207 #[tV a M.length c nx,I (q:Int),.slice a1 n c1] w' λe w2=>∃B C,e=Ej (tV B (Jp M q Y).length C nx)/\TrA (S++f) w2 B C (Jp M q Y)/\Hp [] w' w2 []:=λ{S w' L' a1 c1} H m r=>by
  have:=SK (c2:=c1) (h.mv H m) om nx ag.2 r om;rw[an]at this;exact this
 refine xM.mk (λs w'=>∃(i:Nat)(B:OA)(C:Nat),s=some ⟨i,0,none⟩/\TrA (i::t::f) w' B C (Jp M q Y)/\Hp [] w w' [.blk i (tC B (Jp M q Y).length C nx) 29,.blk t (tC none 0 0 0) 29,.blk b (tC a M.length c nx) 29]) ?_ ?_
 ·clear H;rintro s D ⟨i,B,C,rfl,r,H⟩;refine⟨_,H.ld (o:=1) (cs:=tC a M.length c nx) EQ4 xK (.tail _ K) rfl,iR,AA rfl ?_⟩;rw[add_lit];have H1:Hp [i] D D [.blk i (tC B (Jp M q Y).length C nx) 29]:=Hp.II (H.ok _ (.head _));refine Hp.st (o:=1) H1 EQ4 xK rfl rfl (by simp[tC]) (cs':=tC B (Jp M q Y).length C (nx+n)) rfl λF y=>?_;have ap:TrA (t::f) F B C (Jp M q Y):=TrA.back (S:=[i]) r y.chg;have O:=H.Bg y;refine⟨_,_,_,_,AA rfl (O.drew.loA bT2),_,O.ld (o:=1) (cs:=tC a M.length c nx) EQ4 xK (.tail _ K) rfl,?_⟩;refine giv (O.drew.AX) rfl λG hc j=>⟨j.lo xK,_,_,_,_,j.loA bT2,?_⟩;rw[X];exact⟨B,C,_,by rw[af];rfl,by rw[Y2,am,hq],TrA.back (S:=[t]) (ap.go (Hp.start F).drew) hc,j.done⟩
 intro J hJ;have u:∀{w':Wq}{Z:List Asn},Hp [] w w' (.blk t (tC none 0 0 0) 29::.blk b (tC a M.length c nx) 29::Z)->Ld PP 29 w' ⟨b,0,none⟩ (tV a M.length c nx):=λH=>H.ldA (cs:=tC a M.length c nx) EQ4 bT2 K rfl rfl;have R:∀{w':Wq}{x:Asn}{Z:List Asn},Hp [] w w' (x::.blk t (tC none 0 0 0) 29::.blk b (tC a M.length c nx) 29::Z)->Ld PP 29 w' ⟨b,0,none⟩ (tV a M.length c nx):=λH=>H.ldA (cs:=tC a M.length c nx) EQ4 bT2 (.tail _ K) rfl rfl
 have aa:∀{D:Wq}{i:Nat}{B:OA}{C:Nat},Hp [] w D [.blk i (tC none 0 0 0) 29,.blk t (tC none 0 0 0) 29,.blk b (tC a M.length c nx) 29]->TrA (i::t::f) D B C (Jp M q Y)->∃F,St PP 29 D ⟨i,0,none⟩ (tV B (Jp M q Y).length C nx) F/\J (Pq i) F:=λ{D i B C} H r=>by
  refine giv H rfl λF hc y=>hJ _ _ ⟨i,B,C,rfl,⟨λW hW=>r.rd W ?_,λp U W hW=>r.att p U W ?_,r.cap,λk hk=>fM (r.lt k hk) hc.size⟩,y⟩
  all_goals exact hc.trans hW (by simp) λk hk=>.inl hk
 have m1:∀{Z:List Asn},∀k∈[t],k∈xq (.blk t (tC none 0 0 0) 29::Z):=by intro Z k hk;simp[xq,Asn.foot]at hk⊢;exact .inl hk
 have m2:∀{i:Nat}{Z:List Asn},∀k∈[i,t],k∈xq (.blk i (tC none 0 0 0) 29::.blk t (tC none 0 0 0) 29::Z):=by intro i Z k hk;simp[xq,Asn.foot]at hk⊢;rcases hk with h|h;exact .inl h;exact .inr (.inl h)
 refine⟨⟨_,_,_,_,u H.drew,_,_,_,_,u H.drew,_,_,_,_,u H.drew,AC (cS H.drew) ?_⟩,⟨_,_,_,_,u H.drew,_,_,_,_,u H.drew,_,_,_,_,u H.drew,AC (cS H.drew) ?_⟩,⟨_,_,_,_,u H.drew,_,_,_,_,u H.drew,_,_,_,_,u H.drew,AC (cS H.drew) ?_⟩,⟨_,_,_,_,u H.drew,_,_,_,_,u H.drew,_,_,_,_,u H.drew,λi D aq=>?_⟩⟩
 ·rintro _ D ⟨rfl,d⟩;have y:=H.drew.xN d;refine⟨_,rfl,u y,u y,AC (cN y m1) ?_⟩;rintro _ F ⟨a2,c2,rfl,r,d⟩;have O:=y.xN d;refine⟨_,_,_,rfl,u O,AC (cL O m1 r) ?_⟩;rintro _ G ⟨a3,c3,rfl,r,d⟩;have j:=O.xN d;refine⟨_,_,_,_,rfl,λi ae T=>aa (j.new (cs:=tC none 0 0 0) EQ4 T) (r.mv (S:=[i]) ((Hp.start G).new (cs:=tC none 0 0 0) EQ4 T) (by simp[xq,Asn.foot]))⟩
 ·rintro _ D ⟨rfl,d⟩;have y:=H.drew.xN d;refine⟨_,rfl,u y,u y,AC (cN y m1) ?_⟩;rintro _ F ⟨a2,c2,rfl,r,d⟩;have O:=y.xN d;refine⟨_,_,_,rfl,u O,λi G T=>?_⟩;have Hn:=(Hp.start F).new (cs:=tC none 0 0 0) EQ4 T;have j:=O.new (cs:=tC none 0 0 0) EQ4 T;refine⟨R j,AC (cL (S:=[i,t]) j m2 (r.mv (S:=[i]) Hn (by simp[xq,Asn.foot]))) ?_⟩;rintro _ ae ⟨a3,c3,rfl,r,d⟩;exact⟨_,_,_,_,rfl,aa (j.xN d) r⟩
 ·rintro _ D ⟨rfl,d⟩;have y:=H.drew.xN d;refine⟨_,rfl,u y,u y,λi G T=>?_⟩;have j:=y.new (cs:=tC none 0 0 0) EQ4 T;refine⟨R j,R j,AC (cN (S:=[i,t]) j m2) ?_⟩;rintro _ F ⟨a2,c2,rfl,r,d⟩;have A:=j.xN d;refine⟨_,_,_,rfl,R A,AC (cL (S:=[i,t]) A m2 r) ?_⟩;rintro _ ae ⟨a3,c3,rfl,r,d⟩;exact⟨_,_,_,_,rfl,aa (A.xN d) r⟩
 have j:=H.drew.new (cs:=tC none 0 0 0) EQ4 aq;refine⟨R j,R j,R j,AC (cS j) ?_⟩;rintro _ F ⟨rfl,d⟩;have A:=j.xN d;refine⟨_,rfl,R A,R A,AC (cN (S:=[i,t]) A m2) ?_⟩;rintro _ G ⟨a2,c2,rfl,r,d⟩;have H6:=A.xN d;refine⟨_,_,_,rfl,R H6,AC (cL (S:=[i,t]) H6 m2 r) ?_⟩;rintro _ ae ⟨a3,c3,rfl,r,d⟩;exact⟨_,_,_,_,rfl,aa (H6.xN d) r⟩
end
end
noncomputable section
open Go Go.Vc Go.Nod Classical
variable{f:List Nat}{w w':World}{a:Option Addr}{c:Nat}{M:List DR}{L:List Asn}{nx:Int}
def rws_sub(i j:Nat):rws ((M.take j).drop i)=((rws M).take j).drop i:=by simp[rws,jd,iE]
theorem rgMove_spec(h:TrA f w a c M)(g:TrG M nx)(id to at_:Int):
  CP 142 #[tV a M.length c nx,I id,I to,I at_] w (zM f w (Tr.move ⟨rws M,nx⟩ id to at_).1 (K2 (Tr.move ⟨rws M,nx⟩ id to at_).2)):=by
 apply Jdt;intro b w1 ar B w2 av;have H:=((Hp.start w).nw ar).nw av;have hl:=g.len;have mT:∀{Z:List Asn},Asn.blk b (tC a M.length c nx) 29∈.blk B (tC none 0 0 0) 29::.blk b (tC a M.length c nx) 29::Z:=.tail _ (.head _);refine⟨_,_,_,_,H.ldA EQ4 bT2 mT rfl rfl,AC (D8 (h.go H) om nx id) ?_⟩;rintro _ w3 ⟨⟨z,rfl,hz⟩,d⟩;replace H:=H.xN d;refine⟨_,rfl,_,_,_,_,H.ldA EQ4 bT2 mT rfl rfl,AC (D8 (h.go H) om nx to) ?_⟩;rintro _ w4 ⟨⟨y,rfl,hy⟩,d⟩;replace H:=H.xN d;have same:∀(w':Wq)(e:Int),Tr.move ⟨rws M,nx⟩ id to at_=(⟨rws M,nx⟩,e)->Hp [] w w' []->zM f w (Tr.move ⟨rws M,nx⟩ id to at_).1 (K2 (Tr.move ⟨rws M,nx⟩ id to at_).2) (K2 e (tV a M.length c nx)) w':=λw' e he H=>by rw[he];exact zM.same h H _ rfl
 refine⟨_,rfl,xM.mk (λs w'=>(s=true↔z<0\/y<0)/\Hp [] w w' [.blk B (tC none 0 0 0) 29,.blk b (tC a M.length c nx) 29]) ?_ ?_⟩;rotate_left
 ·intro J X;exact AB (λt=>X _ _ ⟨⟨λ_=>.inl t,λ_=>rfl⟩,H⟩) (λt=>X _ _ ⟨decide_eq_true_iff.trans ⟨.inr,λh=>h.resolve_left t⟩,H⟩)
 rintro s w5 ⟨O,H⟩
 have aw:(z<0↔atR (rws M) id=none):=by
  rcases hz with⟨_,t,rfl⟩|⟨k,p,G,_,_,t,rfl⟩
  ·simp[t]
  simp[t]
 have a0:(y<0↔atR (rws M) to=none):=by
  rcases hy with⟨_,t,rfl⟩|⟨k,p,G,_,_,t,rfl⟩
  ·simp[t]
  simp[t]
 refine Du (λt=>back H (.head _) rfl λw6 H6=>same _ _ ?_ H6) (λt=>?_)
 ·rcases O.1 t with h2|h2
  ·rw[Tr.move,aw.1 h2]
  rw[Tr.move,a0.1 h2];cases atR (rws M) id<;>rfl
 have am:¬(z<0\/y<0):=λh=>by rw[O.2 h]at t;cases t
 rcases hz with⟨_,_,rfl⟩|⟨k,p,G,_,_,a1,rfl⟩
 ·exact(am (.inl (by decide))).elim
 rcases hy with⟨_,_,rfl⟩|⟨j,q,hq,a5,_,a6,rfl⟩
 ·exact(am (.inr (by decide))).elim
 have bk:=(aA.1 G).1;have bl:=(aA.1 hq).1;have bm:=g.lev p (aC G);have bo:=g.lev q (aC hq);obtain⟨e1,e2⟩:=Sv (Kw G);rw[aQ]at e2;obtain⟨ad,l,ld,_⟩:=(h.go H).ld hq
 have C:Tr.move ⟨rws M,nx⟩ id to at_=if k=0 then((⟨rws M,nx⟩:Tr),(62:Int))else if q.1.x.kind≠1 then(⟨rws M,nx⟩,68)else if k<=j/\j<yg (rws M) k then(⟨rws M,nx⟩,61)
  else match EI (BX (rws M) k) to with
   |none=>(⟨rws M,nx⟩,60)
   |some p'=>
    if at_<0\/((EK (BX (rws M) k) p').length:Int)<at_ then(⟨rws M,nx⟩,69)
    else if∃x∈Ho (KBS (rws M) k) (p.1.level-q.1.level-1),40<=x.level then(⟨rws M,nx⟩,65)
    else(⟨Ky (BX (rws M) k) (IA (BX (rws M) k) p' at_.toNat) (Ho (KBS (rws M) k) (p.1.level-q.1.level-1)),nx⟩,0):=by rw[Tr.move,a1,a6];rfl
 refine AB (λh2=>back H (.head _) rfl λw6 H6=>same _ _ (by rw[C,if_pos om]) H6) (λh2=>?_);rw[if_neg (show¬k=0 by omega)]at C;refine⟨_,_,_,H.ld EQ4 bSR mT rfl,AA l ⟨⟨om,om⟩,_,by rw[aN,add_add,add_add];exact ld xK rfl,AQ (λF=>back H (.head _) rfl λw6 H6=>same _ _ (by rw[C,if_pos F]) H6) (λF=>?_)⟩⟩;rw[if_neg (λh=>h F)]at C;refine xM.mk (λs w'=>(s=true↔k<=j/\j<yg (rws M) k)/\Hp [] w w' [.blk B (tC none 0 0 0) 29,.blk b (tC a M.length c nx) 29]) ?_ ?_;rotate_left
 ·intro J X;refine AB (λR=>⟨_,_,_,_,H.ldA EQ4 bT2 mT rfl rfl,AC (Gm (h.go H) om nx G) ?_⟩) (λR=>X _ _ ⟨⟨λh=>(by cases h),λh=>by omega⟩,H⟩);rintro _ w6 ⟨rfl,d⟩;exact⟨_,rfl,X _ _ ⟨decide_eq_true_iff.trans om,H.xN d⟩⟩
 rintro s w6 ⟨O,H⟩;refine Du (λR=>back H (.head _) rfl λw6 H6=>same _ _ (by rw[C,if_pos (O.1 R)]) H6) (λR=>?_);have an:¬(k<=j/\j<yg (rws M) k):=λh=>by rw[O.2 h]at R;cases R
 rw[if_neg an]at C;have lS:∀{w':Wq}{Z:List Asn},Hp [] w w' (.blk B (tC none 0 0 0) 29::.blk b (tC a M.length c nx) 29::Z)->Ld PP 27 w' ⟨b,0,none⟩ (.slice a M.length c):=λH=>H.ld EQ4 bSR mT rfl;have lT:∀{w':Wq}{Z:List Asn},Hp [] w w' (.blk B (tC none 0 0 0) 29::.blk b (tC a M.length c nx) 29::Z)->Ld PP 29 w' ⟨b,0,none⟩ (tV a M.length c nx):=λH=>H.ldA EQ4 bT2 mT rfl rfl
 have lv:∀{w':Wq}{Z:List Asn},Hp [] w w' Z->∀{k:Nat}{p:DR},M[k]? =some p->∃ad,a=some ad/\Ld PP 3 w' ((ad.add (k*6)).add 1) (I p.1.level):=λH k p G=>by
  obtain⟨ad,l,ld,_⟩:=(h.go H).ld G;exact⟨ad,l,by rw[add_add];exact ld xK rfl⟩
 obtain⟨ad,l,l1⟩:=lv H.drew G;obtain⟨bp,Y,l2⟩:=lv H.drew hq;have bj:=h.cap;refine⟨_,_,_,lS H.drew,_,_,_,_,lT H.drew,_,_,_,lS H.drew,AA l ⟨⟨om,om⟩,_,l1,_,_,_,lS H.drew,AA Y ⟨⟨om,om⟩,_,l2,iR,iR,AC (Gm (h.go H.drew) om nx G) ?_⟩⟩⟩;rintro _ w7 ⟨rfl,d⟩;replace H:=H.drew.xN d;obtain⟨a7,o,l1⟩:=lv H G;rw[l]at o;cases o;obtain⟨a7,o,l2⟩:=lv H hq;rw[Y]at o;cases o;have aa:=(h.mv H (S:=[B]) (by simp[xq,Asn.foot])).sub (i:=k) om;have ao:((M.take (yg (rws M) k)).drop k).length=yg (rws M) k-k:=by rw[bf,aJ];omega
 obtain⟨N,hN⟩:∃N,N=(M.take (yg (rws M) k)).drop k:=⟨_,rfl⟩;rw[<- hN]at aa ao;have a8:rws N=KBS (rws M) k:=by rw[hN,rws_sub,KBS]
 have cP:CP 83 #[.slice (slA a c k 6) (yg (rws M) k-k) (c-k),I (p.1.level-q.1.level-1)] w7 λe w'=>∃a2 c2,e=Ej (.slice a2 N.length c2)/\TrA (B::f) w' a2 c2 (JV N (p.1.level-q.1.level-1))/\Hp [] w7 w' []:=by
  have:=SI aa om (c-k) (p.1.level-q.1.level-1) (λr K=>g.wide r (by rw[hN]at K;exact dJ (fA K))) om;rw[ao]at this⊢;exact this
 refine⟨_,rfl,l2,lS H,l1,lS H,lS H,⟨om,om,om⟩,?_⟩;rw[aN,aN];refine AC cP ?_;rintro _ w8 ⟨a2,c2,rfl,u,d⟩;replace H:=H.xN d;obtain⟨D,hD⟩:∃D,D=JV N (p.1.level-q.1.level-1):=⟨_,rfl⟩;have a9:D.length=N.length:=by rw[hD];exact aQ _
 have ba:rws D=Ho (KBS (rws M) k) (p.1.level-q.1.level-1):=by rw[hD,rws_part,a8]
 rw[<- hD]at u;rw[<- a9];have bq:N.length<=1000:=om;refine⟨_,_,_,rfl,_,_,_,_,lT H,AC (LM (h.mv H (S:=[B]) (by simp[xq,Asn.foot])) om nx G) ?_⟩;rintro _ w9 ⟨a3,c3,rfl,A,d⟩;replace H:=H.xN d;replace u:=u.go d;obtain⟨U,hU⟩:∃U,U=Jj M k:=⟨_,rfl⟩;have bb:rws U=BX (rws M) k:=by rw[hU,Si]
 have bv:U.length<=M.length:=by rw[hU,Jj,aF,aJ,bf];omega
 have ap:∀r∈U,-1000000<=r.1.level/\r.1.level<=1000000:=λr K=>g.wide r (by
  rw[hU]at K;exact(aT.1 K).elim dJ fA)
 rw[<- hU]at A⊢;refine⟨_,_,_,_,rfl,λb2 bw ab=>?_⟩;have Hn:=(Hp.start w9).new (cs:=tC none 0 0 0) EQ4 ab;have u:=u.mv (S:=[b2]) Hn (by simp[xq,Asn.foot]);have A:=A.mv (S:=[b2]) Hn (by simp[xq,Asn.foot]);refine giv (H.new (cs:=tC none 0 0 0) EQ4 ab) rfl λbx hc H=>?_;replace u:=TrA.back (S:=[b2]) (f:=B::f) u hc;replace A:=TrA.back (S:=[b2]) (f:=B::f) A hc;have lU:∀{w':Wq}{Z:List Asn},Hp [] w w' (.blk b2 (tC a3 U.length c3 nx) 29::Z)->Ld PP 29 w' ⟨b2,0,none⟩ (tV a3 U.length c3 nx):=λH=>H.loA bT2;refine⟨_,_,_,_,lU H,AC (D8 A om nx to) ?_⟩;rintro _ b0 ⟨⟨z2,rfl,bc⟩,d⟩;replace H:=H.xN d;replace u:=u.go d;replace A:=A.go d
 have bd:q∈U:=by
  rw[hU];by_cases bh:j<k
  ·exact aS _ (aC (by rw[bn bh];exact hq))
  refine aI _ (aC (i:=j-yg (rws M) k) ?_);rw[dm,<- hq];congr 1;omega
 rcases bc with⟨aq,_,_⟩|⟨k2,p2,af,_,bi,_,rfl⟩
 ·rw[EI,jT]at aq;have:=aq q.1 (aU.2 ⟨q,bd,rfl⟩);simp[a5]at this
 rw[<- bb,bi]at C;dsimp only at C;rw[<- ba]at C;refine⟨_,rfl,xM.mk (λs w'=>(s=true↔at_<0\/((EK (rws U) k2).length:Int)<at_)/\TrA (B::f) w' a2 c2 D/\TrA (B::f) w' a3 c3 U/\Hp [] w w' [.blk b2 (tC a3 U.length c3 nx) 29,.blk B (tC none 0 0 0) 29,.blk b (tC a M.length c nx) 29]) ?_ ?_⟩;rotate_left
 ·intro J X;refine AB (λF=>X _ _ ⟨⟨λ_=>.inl F,λ_=>rfl⟩,u,A,H⟩) (λF=>⟨_,_,_,_,lU H,AC (Lm A om nx af ap) ?_⟩);rintro _ T ⟨a4,c4,rfl,d⟩;exact⟨_,_,_,rfl,X _ _ ⟨decide_eq_true_iff.trans ⟨.inr,λh=>h.resolve_left F⟩,u.go d,A.go d,(H.yC d).drop⟩⟩
 rintro s T ⟨O,u,A,H⟩;refine Du (λF=>back H.AX m1 rfl λw5 H5=>same _ _ (by rw[C,if_pos (O.1 F)]) H5) (λF=>?_);have F:¬(at_<0\/((EK (rws U) k2).length:Int)<at_):=λh=>by rw[O.2 h]at F;cases F
 rw[if_neg F]at C;clear O;refine xI.mk (λm s w'=>∃i:Nat,m=D.length-i/\i<=D.length/\s=(i:Int)/\(∀(n:Nat)(r:DR),n<i->D[n]? =some r->r.1.level<40)/\w'=T) D.length ⟨0,rfl,om,rfl,λn r h=>by omega,rfl⟩ ?_;rintro m s b3 next ⟨i,rfl,hi,rfl,ac,hw⟩ ag
 obtain rfl:=hw.symm;refine AB (λR=>?_) (λR=>?_)
 ·obtain⟨r,K⟩:∃r,D[i]? =some r:=⟨_,aB om⟩;obtain⟨ad,l,ld,_⟩:=u.ld K;refine AA l ⟨⟨om,R⟩,_,by rw[aN,add_add];exact ld (j:=1) (v:=I r.1.level) xK rfl,AB (λh5=>back H.AX m1 rfl λw5 H5=>same _ _ (by rw[C,if_pos ⟨r.1,aU.2 ⟨r,aC K,rfl⟩,h5⟩]) H5) (λh5=>⟨iR,ag (D.length-(i+1)) _ _ om ⟨i+1,rfl,om,rfl,λn r' hn ah=>?_,rfl⟩⟩)⟩;by_cases e:n=i
  ·subst e;rw[K]at ah;cases ah;omega
  exact ac n r' om ah
 have ak:¬∃x∈rws D,40<=x.level:=by
  rintro⟨x,hx,b4⟩;obtain⟨r,K,rfl⟩:=aU.1 hx;obtain⟨n,hn⟩:=bD K;have:=ac n r (by have:=(aA.1 hn).1;omega) hn;omega
 rw[if_neg ak]at C;obtain⟨s0,al⟩:∃s0,s0=IA (rws U) k2 at_.toNat:=⟨_,rfl⟩
 have ae:=uF (Kw af) at_.toNat
 rw[<- al,aQ]at ae;have Hd:=H.drew;have u:=u.go (Hp.start T).drew;have A:=A.go (Hp.start T).drew;refine⟨_,_,_,_,lU Hd,_,_,_,_,lU Hd,AC (RJ A om nx af ap at_ om) ?_⟩;rintro _ b5 ⟨rfl,d⟩;rw[<- al];refine⟨_,rfl,lU (Hd.xN d),AC (SK (c2:=c2) (A.go d) om nx ae.2 (u.go d) om) ?_⟩;rintro _ b6 ⟨a4,c4,rfl,hT,H2⟩;refine⟨_,_,_,_,rfl,give ((Hd.xN d).xN H2).AX rfl λb7 hc H5=>?_⟩;rw[C];exact⟨a4,c4,_,rfl,by rw[Y2,al],hT.back (S:=[B]) hc,H5⟩
def KFX(h:TrA f w a c M)(u:M.length<=1000000){k:Nat}{p:DR}(y:M[k]? =some p){x:NX}{s:Sl3}{w1:Wq}{b i o:Nat}{cs:LV}(H:Hp [] w w1 (.blk i cs 29::L))(n:cs.length=2)(m:Asn.blk b (tC a M.length c nx) 29∈L)(z:Asn.blk o (itC ⟨p.1.level,x⟩ s) 123∈L)
  (A:AtA (i::f) w1 ({p.1 with x:=x},s)) {R:EW} (B:∀e w',zM f w ⟨KAn (rws M) k p.1 x,nx⟩ (K2 0) e w'->R e w'):
  ∃a' d c' g,Ld PP 29 w1 ⟨b,0,none⟩ (.agg #[.slice a' d c',I g])/\∃z1 q s1 r j t c2,Ld PP 123 w1 ⟨o,0,none⟩ (.agg #[I z1,I q,.string s1,.string r,.slice j t c2])/\
   xk PP 213 [.agg #[.slice a' d c',I g],I (k:Int),.agg #[I z1,I q,.string s1,.string r,.slice j t c2]] w1 λe w'=>∃a' d c' g,e=Ej (.agg #[.slice a' d c',I g])/\
    ∃l,St PP 29 w' ⟨i,0,none⟩ (.agg #[.slice a' d c',I g]) l/\∃a' d c' g,Ld PP 29 l ⟨i,0,none⟩ (.agg #[.slice a' d c',I g])/\R (Ej (.tuple #[.agg #[.slice a' d c',I g],I 0])) l:=by
 refine⟨_,_,_,_,H.ldA EQ4 bT2 (.tail _ m) rfl rfl,_,_,_,_,_,_,_,H.ldA EQ4 CB (.tail _ z) rfl rfl,AC (rgSet_spec (h.mv H (S:=[i]) (by simp[xq,Asn.foot])) u nx y x s A) ?_⟩;rintro _ l ⟨j,c2,rfl,C,D⟩;exact⟨_,_,_,_,rfl,give (H.xN D) n λJ F G=>B _ _ ⟨j,c2,_,rfl,rws_set M k p x s,C.back F,G⟩⟩
def rgSetText_spec(h:TrA f w a c M)(g:TrG M nx)(id:Int)(t:BA)(B:t.size<=2000000):
  CP 145 #[tV a M.length c nx,I id,.string t] w (zM f w (Tr.Bv ⟨rws M,nx⟩ id t).1 (K2 (Tr.Bv ⟨rws M,nx⟩ id t).2)):=by
 apply Jd2;intro b R n C T o;have H:=((Hp.start w).nw n).nw o;have U:=g.len;refine⟨_,_,_,_,H.loA bT2,AC (D8 (h.go H) om nx id) ?_⟩;rintro _ X ⟨⟨z,rfl,D⟩,q⟩;replace H:=H.xN q;have same:∀(w':Wq)(e:Int),Tr.Bv ⟨rws M,nx⟩ id t=(⟨rws M,nx⟩,e)->Hp [] w w' []->zM f w (Tr.Bv ⟨rws M,nx⟩ id t).1 (K2 (Tr.Bv ⟨rws M,nx⟩ id t).2) (K2 e (tV a M.length c nx)) w':=λw' e F H=>by rw[F];exact zM.same h H _ rfl
 rcases D with⟨_,i,rfl⟩|⟨k,p,l,_,_,i,rfl⟩
 ·exact⟨_,rfl,AB (λ_=>back H (.head _) rfl λG j=>same _ _ (by rw[Tr.Bv,i]) j) (λh=>by omega)⟩
 obtain⟨Y,r,_,_,ld⟩:=(h.go H).ld l;have J:=(aA.1 l).1;refine⟨_,rfl,AB (λh=>by omega) (λ_=>⟨_,_,_,H.lo bSR,AA r ⟨⟨om,om⟩,_,_,_,_,_,_,_,ld,λZ G s=>?_⟩⟩)⟩;have K:=H.nw s;refine Hp.sA K CB (cs':=itC ⟨p.1.level,p.1.x⟩ p.2) λN d=>?_;refine⟨_,d.lo xK,AQ (λm=>back d.AX m1 rfl λA u=>same _ _ (by rw[Tr.Bv,i];dsimp only;rw[if_pos m]) u) (λm=>AC (Rq t B N) ?_)⟩;rintro _ A ⟨rfl,q⟩;replace d:=d.xN q;refine⟨_,rfl,AQ (λy=>back d.AX m1 rfl λA u=>same _ _ (by rw[Tr.Bv,i];dsimp only;rw[if_neg (λh=>h m),if_pos y]) u) (λy=>?_)⟩;refine Hp.st d EQ4 xx rfl rfl (by simp[itC]) (cs':=itC ⟨p.1.level,{p.1.x with text:=t}⟩ p.2) rfl λw7 j=>?_;refine KFX h om l j.AX rfl m1 (.head _) (AtA.mv (h.att p (aC l)) j (S:=[C]++f) (QC j (by simp[xq,Asn.foot])).1) λe w' O=>?_;rw[Tr.Bv,i];dsimp only;rw[if_neg (λh=>h m),if_neg (λh=>h y)];exact O
def rgDelAttr_spec(h:TrA f w a c M)(g:TrG M nx)(r:∀q∈M,q.1.x.FP.length<=1000)(id:Int)(d:BA):
  CP 144 #[tV a M.length c nx,I id,.string d] w (zM f w (Tr.Bj ⟨rws M,nx⟩ id d).1 (K2 (Tr.Bj ⟨rws M,nx⟩ id d).2)):=by
 apply Jdh;intro b w1 s G w2 t;have H:=((Hp.start w).nw s).nw t;have hl:=g.len;refine⟨_,_,_,_,H.loA bT2,AC (D8 (h.go H) om nx id) ?_⟩;rintro _ w3 ⟨⟨z,rfl,J⟩,u⟩;replace H:=H.xN u;have same:∀(w':Wq)(e:Int),Tr.Bj ⟨rws M,nx⟩ id d=(⟨rws M,nx⟩,e)->Hp [] w w' []->zM f w (Tr.Bj ⟨rws M,nx⟩ id d).1 (K2 (Tr.Bj ⟨rws M,nx⟩ id d).2) (K2 e (tV a M.length c nx)) w':=λw' e K H=>by rw[K];exact zM.same h H _ rfl
 rcases J with⟨_,i,rfl⟩|⟨k,p,n,_,_,i,rfl⟩
 ·exact⟨_,rfl,AB (λ_=>back H (.head _) rfl λN j=>same _ _ (by rw[Tr.Bj,i]) j) (λh=>by omega)⟩
 obtain⟨ad,y,_,_,ld⟩:=(h.go H).ld n;have O:=(aA.1 n).1;have l:=aC n;have R:=r p l;refine⟨_,rfl,AB (λh=>by omega) (λ_=>⟨_,_,_,H.lo bSR,AA y ⟨⟨om,om⟩,_,_,_,_,_,_,_,ld,λb3 N A=>?_⟩⟩)⟩;have T:=H.nw A;refine Hp.sA T CB (cs':=itC ⟨p.1.level,p.1.x⟩ p.2) λw5 m=>?_;have C:=AtA.go (h.att p l) m _ (Chg.refl _ _);have U:=C.len;refine⟨_,m.lo xK,AQ (λo=>back m.AX m1 rfl λD B=>same _ _ (by rw[Tr.Bj,i];dsimp only;rw[if_pos o]) B) (λo=>⟨_,_,_,m.lo yx,AC (rgLess_spec C om d) ?_⟩)⟩;rintro _ D ⟨X,Y,rfl,u⟩;have j:=m.yC u;refine⟨_,_,_,rfl,_,_,_,j.lo yx,AB (λZ=>back j.BF m2 rfl λD B=>same _ _ (by rw[Tr.Bj,i];dsimp only;rw[if_neg (λh=>h o),if_pos om]) B) (λZ=>?_)⟩;refine Hp.st j.AX EQ4 yx rfl rfl (by simp[itC]) (cs':=itC ⟨p.1.level,{p.1.x with FP:=BR p.1.x.FP d}⟩ (X,(BR p.1.x.FP d).length,Y)) rfl λw7 F=>?_;refine KFX h om n F.BF rfl m2 (.head _) (λW hW=>⟨rfl,Own.cells (wZ F.AX h.lt (S:=[G]) (by simp[xq,Asn.foot]) hW)⟩) λe w' hO=>?_;rw[Tr.Bj,i];dsimp only;rw[if_neg (λh=>h o),if_neg om];exact hO
def rgSetAttr_spec(h:TrA f w a c M)(g:TrG M nx)(A:∀q∈M,q.1.x.FP.length<=1000)(id:Int)(d t:BA)(B:d.size<=2000000)(X:t.size<=2000000):
  CP 143 #[tV a M.length c nx,I id,.agg #[.string d,.string t]] w (zM f w (Tr.Be ⟨rws M,nx⟩ id (d,t)).1 (K2 (Tr.Be ⟨rws M,nx⟩ id (d,t)).2)):=by
 apply Jd1;intro b w1 C b1 Y n Z w2 D;have H:=(((Hp.start w).nw C).nw n).nw D;have hl:=g.len;refine⟨_,_,_,_,H.loA bT2,AC (D8 (h.go H) om nx id) ?_⟩;rintro _ w3 ⟨⟨z,rfl,hz⟩,l⟩;replace H:=H.xN l;have same:∀(w':Wq)(e:Int),Tr.Be ⟨rws M,nx⟩ id (d,t)=(⟨rws M,nx⟩,e)->Hp [] w w' []->zM f w (Tr.Be ⟨rws M,nx⟩ id (d,t)).1 (K2 (Tr.Be ⟨rws M,nx⟩ id (d,t)).2) (K2 e (tV a M.length c nx)) w':=λw' e he H=>by rw[he];exact zM.same h H _ rfl
 rcases hz with⟨_,F,rfl⟩|⟨k,p,u,_,_,F,rfl⟩
 ·exact⟨_,rfl,AB (λ_=>back H m1 rfl λw4 G=>same _ _ (by rw[Tr.Be,F]) G) (λh=>by omega)⟩
 obtain⟨ad,J,_,_,ld⟩:=(h.go H).ld u;have aa:=(aA.1 u).1;have r:=aC u;have ab:=A p r;refine⟨_,rfl,AB (λh=>by omega) (λ_=>⟨_,_,_,H.lo bSR,AA J ⟨⟨om,om⟩,_,_,_,_,_,_,_,ld,λb3 w4 K=>?_⟩⟩)⟩;have H2:=H.nw K;refine Hp.sA H2 CB (cs':=itC ⟨p.1.level,p.1.x⟩ p.2) λw5 i=>?_
 have j:Tr.Be ⟨rws M,nx⟩ id (d,t)=if p.1.x.kind≠1 then((⟨rws M,nx⟩:Tr),68)else if¬CZ d then(⟨rws M,nx⟩,63)else if BH t≠0 then(⟨rws M,nx⟩,BH t)
  else if 20<(CQ p.1.x.FP (d,t)).length then(⟨rws M,nx⟩,67)else(⟨KAn (rws M) k p.1 {p.1.x with FP:=CQ p.1.x.FP (d,t)},nx⟩,0):=by rw[Tr.Be,F]
 refine⟨_,i.lo xK,AQ (λN=>back i.AX m2 rfl λs m=>same _ _ (by rw[j,if_pos N]) m) (λN=>⟨_,i.lo xx,AC (Oi d B w5) ?_⟩)⟩;rw[if_neg (λh=>h N)]at j;rintro _ s ⟨rfl,l⟩;replace i:=i.xN l;refine⟨_,rfl,Hg (λO=>back i.AX m2 rfl λs m=>same _ _ (by rw[j,if_pos O]) m) (λO=>⟨_,i.lo xx,AC (Rq t X s) ?_⟩)⟩;rw[if_neg (λh=>h O)]at j;rintro _ w7 ⟨rfl,l⟩;replace i:=i.xN l;have U:=AtA.go (h.att p r) i _ (Chg.refl _ _);have ac:=U.len;refine⟨_,rfl,AQ (λR=>back i.AX m2 rfl λs m=>same _ _ (by rw[j,if_pos R]) m) (λR=>⟨_,_,_,i.lo yx,_,_,i.loA EX,AC (rgWith_spec U om (d,t)) ?_⟩)⟩;rw[if_neg (λh=>h R)]at j;rintro _ w8 ⟨a6,c6,rfl,l⟩;have G:=i.yC l;refine⟨_,_,_,rfl,?_⟩;refine Hp.st (o:=4) G.AX EQ4 yx rfl rfl (by simp[itC]) (cs':=itC ⟨p.1.level,{p.1.x with FP:=CQ p.1.x.FP (d,t)}⟩ (a6,(CQ p.1.x.FP (d,t)).length,c6)) rfl λw9 y=>?_;refine⟨_,_,_,y.lo yx,AB (λT=>back y.BF m3 rfl λs m=>same _ _ (by rw[j,if_pos (by dsimp only at T;omega)]) m) (λT=>?_)⟩;rw[if_neg (by dsimp only at T;omega)]at j;refine KFX h om u y.BF rfl m3 (.head _) (λW hW=>⟨rfl,Own.cells (wZ y.AX h.lt (S:=[Z]) (by simp[xq,Asn.foot]) hW)⟩) λe w' hO=>?_;rw[j];exact hO
def rgDo_spec(h:TrA f w a c M)(g:TrG M nx)(R:∀q∈M,q.1.x.FP.length<=1000)(o:OpP)(N:0<=o.kind/\o.kind<=6)(la:OA)(n lc:Nat)(ss:List Sl3)(hA:CW f w la n o.l ss)(hf:∀x∈o.l,KCX x.x/\x.level<=9223372036854775807)(hn:n<=140737488355328)(hs:o.name.size<=2000000/\o.text.size<=2000000):
  CP 77 #[tV a M.length c nx,.agg (opC o la n lc).toArray] w (zM f w (Tr.xg ⟨rws M,nx⟩ o).1 (K3 (Tr.xg ⟨rws M,nx⟩ o).2.1 (Tr.xg ⟨rws M,nx⟩ o).2.2)):=by
 apply Jdj;intro b G aa b1 w2 ab u w3 ac;have H:=(((Hp.start w).nw aa).nw ab).nw ac;have m0:∀{x:Asn},Asn.blk b (tC a M.length c nx) 29∈x::.blk b1 (opC o la n lc) 36::.blk b (tC a M.length c nx) 29::[]:=.tail _ m1;have K:Ld PP 29 w3 ⟨b,0,none⟩ (tV a M.length c nx):=H.loA bT2;have d:∀{j:Nat}{t:TypeId}{v:Value},Scl PP t->(opC o la n lc)[j]? =some v->Ld PP t w3 ⟨b1,j,none⟩ v:=λS hv=>H.ld EQ4 S m1 hv;have T:=h.mv H (S:=[u,b]) (by simp[xq,Asn.foot]);have h2:=h.mv H (S:=[u]) (by simp[xq,Asn.foot]);have U:=hA.mv2 H (S:=[u]) (by simp[xq,Asn.foot])
 have X:∀{m:Tr}{e:Ending}{w':Wq}{i z:Int},Tr.xg ⟨rws M,nx⟩ o=(m,i,z)->zM (u::f) w3 m (K3 i z) e w'->∃a l c Y Z y,e=Ej (.tuple #[.agg #[.slice a l c,I Y],I Z,I y])/\∃G,St PP 29 w' ⟨u,0,none⟩ (.agg #[.slice a l c,I Y]) G/\∃a l c i,Ld PP 29 G ⟨u,0,none⟩ (.agg #[.slice a l c,I i])/\zM f w (Tr.xg ⟨rws M,nx⟩ o).1 (K3 (Tr.xg ⟨rws M,nx⟩ o).2.1 (Tr.xg ⟨rws M,nx⟩ o).2.2) (Ej (.tuple #[.agg #[.slice a l c,I i],I Z,I y])) G:=by
  rintro m e w' i z he ⟨C,D,B,rfl,hr,F,H'⟩;refine⟨_,_,_,_,_,_,rfl,give (H.xN H') rfl λw4 O H4=>?_⟩;rw[he];exact⟨C,D,B,rfl,hr,F.back (S:=[u]) O,H4⟩
 refine xM.mk (λs w'=>∃(m:Tr)(C:OA)(D:Nat)(B:List DR),Tr.xg ⟨rws M,nx⟩ o=(m,0,s)/\rws B=m.L/\TrA (u::f) w' C D B/\Hp [] w w' [.blk u (tC none 0 0 0) 29,.blk b (tC C B.length D m.next) 29]) ?_ ?_
 ·rintro s w4 ⟨m,C,D,B,he,hr,F,H⟩;refine⟨_,_,_,_,H.loA bT2,give H rfl λw5 O H5=>?_⟩;rw[he];exact⟨C,D,B,rfl,hr,F.back (S:=[u]) O,H5⟩
 intro J hJ
 have A:∀{m:Tr}{e:Ending}{w':Wq}{z:Int},Tr.xg ⟨rws M,nx⟩ o=(m,0,z)->zM ([u,b]++f) w3 m (K2 z) e w'->∃a l c i y,e=Ej (.tuple #[.agg #[.slice a l c,I i],I y])/\∃G,St PP 29 w' ⟨b,0,none⟩ (.agg #[.slice a l c,I i]) G/\J y G:=by
  rintro m e w' z he ⟨C,D,B,rfl,hr,F,H'⟩;refine⟨_,_,_,_,_,rfl,giv ((H.xN H').BF) rfl λw4 O H4=>hJ _ _ ⟨m,C,D,B,he,hr,⟨λW hW=>F.rd W ?_,λp hp W hW=>F.att p hp W ?_,F.cap,λk N=>fM (F.lt k (by simp at N⊢;rcases N with h|h;exact .inl h;exact .inr (.inr h))) O.size⟩,(H4.AX).BM (L:=[_,_])⟩⟩
  all_goals exact O.trans hW (by simp) λk N=>.inl (by simp at N⊢;rcases N with h|h;exact .inl h;exact .inr (.inr h))
 refine⟨_,d (j:=0) xK rfl,AB (λe=>?_) (λe0=>AB (λe=>?_) (λe1=>AB (λe=>?_) (λe2=>AB (λe=>?_) (λe3=>AB (λe=>?_) (λe4=>AB (λe=>?_) (λe5=>AB (λe=>?_) (λe6=>by omega)))))))⟩
 ·exact⟨_,_,_,_,K,_,_,_,d (j:=6) KDo rfl,AC (rgLoad_spec h2 g U hf hn) λe w' r=>X (by simp[*,Tr.xg]) r⟩
 ·exact⟨_,_,_,_,K,_,d (j:=1) xK rfl,_,d (j:=3) xK rfl,_,_,_,d (j:=6) KDo rfl,AC (rgInsert_spec h2 g o.id o.at_ U (λx hx=>(hf x hx).1) hn) λe w' r=>X (by simp[*,Tr.xg]) r⟩
 ·exact⟨_,_,_,_,K,_,d (j:=1) xK rfl,AC (rgDelete_spec T g o.id) λe w' r=>A (by simp[*,Tr.xg]) r⟩
 ·exact⟨_,_,_,_,K,_,d (j:=1) xK rfl,_,d (j:=2) xK rfl,_,d (j:=3) xK rfl,AC (rgMove_spec T g o.id o.to o.at_) λe w' r=>A (by simp[*,Tr.xg]) r⟩
 ·exact⟨_,_,_,_,K,_,d (j:=1) xK rfl,_,d (j:=4) xx rfl,_,d (j:=5) xx rfl,AC (rgSetAttr_spec T g R o.id o.name o.text hs.1 hs.2) λe w' r=>A (by simp[*,Tr.xg]) r⟩
 ·exact⟨_,_,_,_,K,_,d (j:=1) xK rfl,_,d (j:=4) xx rfl,AC (rgDelAttr_spec T g R o.id o.name) λe w' r=>A (by simp[*,Tr.xg]) r⟩
 exact⟨_,_,_,_,K,_,d (j:=1) xK rfl,_,d (j:=5) xx rfl,AC (rgSetText_spec T g o.id o.text hs.2) λe w' r=>A (by simp[*,Tr.xg]) r⟩
def bO7:Agg PP 36 7:=DN (by kernel_rfl)
def rnDo_spec(h:TrA f w a c M)(g:TrG M nx)(p:∀q∈M,q.1.x.FP.length<=1000)(o:OpP)(i:OA)(n lc:Nat)(ss:List Sl3)(D:CW f w i n o.l ss)(F:∀x∈o.l,KCX x.x/\x.level<=9223372036854775807)(G:n<=140737488355328)(K:o.name.size<=2000000/\o.text.size<=2000000):
  CP 40 #[tV a M.length c nx,.agg (opC o i n lc).toArray] w (zM f w (Tr.xg ⟨rws M,nx⟩ o).1 (K3 (Tr.xg ⟨rws M,nx⟩ o).2.1 (Tr.xg ⟨rws M,nx⟩ o).2.2)):=by
 apply Jd9;intro b w1 r N w2 u O z y;have H:=(((Hp.start w).nw r).nw u).nw y;have A:∀{j:Nat}{t:TypeId}{v:Value},Scl PP t->(opC o i n lc)[j]? =some v->Ld PP t z ⟨N,j,none⟩ v:=λS R=>H.ld EQ4 S m1 R;refine xM.mk (λs w'=>(s=true↔¬(0<=o.kind/\o.kind<=6))/\w'=z) ?_ ?_
 ·rintro s T ⟨d,U⟩;obtain rfl:=U.symm;refine Du (λm=>back H m1 rfl λw5 X=>?_) (λm=>?_)
  ·have B:=d.1 m
   have Y:Tr.xg ⟨rws M,nx⟩ o=(⟨rws M,nx⟩,0,1):=by
    unfold Tr.xg
    iterate 7 rw[if_neg om]
   rw[Y];exact zM.same h X _ rfl
  have B:0<=o.kind/\o.kind<=6:=az λh=>by rw[d.2 h]at m;cases m
  refine⟨_,_,_,_,H.loA bT2,_,_,_,_,_,_,_,_,_,H.loA bO7,AC (rgDo_spec (h.mv H (by simp[xq,Asn.foot])) g p o B i n lc ss (D.mv2 H (S:=[O]) (by simp[xq,Asn.foot])) F G K) ?_⟩;rintro e w' ⟨Z,c',M',rfl,hr,hT,H'⟩;refine⟨_,_,_,_,_,_,rfl,give (H.xN H') rfl λT hc H4=>⟨Z,c',M',rfl,hr,hT.back hc,H4⟩⟩
 intro J C;exact⟨_,A xK rfl,AB (λe=>C _ _ ⟨⟨λ_=>by omega,λ_=>rfl⟩,rfl⟩) (λe=>⟨_,A xK rfl,C _ _ ⟨decide_eq_true_iff.trans om,rfl⟩⟩)⟩
end
end Go.Proofs.YtljenkbpnioipaaGreat
namespace Go.Nod
abbrev SM:=List (Int×Sp)
def xm:SM->Int->Option Sp
 | [],_=>none
 |(x,s)::r,k=>if k=x then some s else xm r k
def KAF:SM->Int->Sp->SM
 | [],k,v=>[(k,v)]
 |(x,s)::r,k,v=>if k=x then(x,v)::r else(x,s)::KAF r k v
def KEF:SM->Int->SM
 | [],_=>[]
 |(x,s)::r,k=>if k=x then r else(x,s)::KEF r k
theorem JE:∀(l:SM)(k x:Int)(v:Sp),xm (KAF l k v) x=if x=k then some v else xm l x
 | [],k,x,v=>rfl
 |(y,u)::r,k,x,v=>by
  have b:=JE r k x v;rw[KAF];by_cases h:k=y
  ·subst h;rw[if_pos rfl,xm,xm];by_cases a:x=k<;>simp[a]
  rw[if_neg h,xm,xm,b];by_cases a:x=y
  ·subst a;rw[if_pos rfl,if_pos rfl,if_neg λe=>h e.symm]
  rw[if_neg a,if_neg a]
theorem sput_keys:∀(l:SM)(k:Int)(v:Sp),(KAF l k v).map (·.1)=if k∈l.map (·.1)then l.map (·.1)else l.map (·.1)++[k]
 | [],k,v=>rfl
 |(y,u)::r,k,v=>by
  have b:=sput_keys r k v;rw[KAF];by_cases h:k=y
  ·rw[if_pos h,if_pos (by rw[h];exact .head _)];rfl
  rw[if_neg h,aj,b,aj];by_cases a:k∈r.map (·.1)
  ·rw[if_pos a,if_pos (.tail _ a)]
  rw[if_neg a,if_neg λc=>(aP.1 c).elim h a];rfl
theorem sdel_keys:∀(l:SM)(k:Int),((KEF l k).map (·.1)).Sublist (l.map (·.1))
 | [],k=>.slnil
 |(y,u)::r,k=>by
  rw[KEF];by_cases h:k=y
  ·rw[if_pos h];exact jl _ _
  rw[if_neg h];exact(sdel_keys r k).cons_cons _
abbrev Bd:=Int×Bool
def atB(s:SM)(b:Bd):Int:=match xm s b.1 with
 |none=> -1
 |some x=>if b.2 then x.2 else x.1
def KAW(s:SM)(b:Bd)(n:Int):SM:=KAF s b.1 (if b.2 then(((xm s b.1).getD (0,0)).1,n)else(n,((xm s b.1).getD (0,0)).2))
end Go.Nod
namespace Go.Proofs.YtljenkbpnioipaaGreat
noncomputable section
open Go Go.Vc Go.Nod
def spV(s:Sp):Value:=.agg #[I s.1,I s.2]
def smC(l:SM):List (Int×Value):=l.map λp=>(p.1,spV p.2)
theorem Kq:∀(l:SM)(k:Int),xZ (smC l) k=(xm l k).map spV
 | [],k=>rfl
 |(x,s)::r,k=>by
  have a:=Kq r k;rw[xm];show(if k=x then some (spV s)else xZ (smC r) k)=_;by_cases h:k=x
  ·rw[if_pos h,if_pos h];rfl
  rw[if_neg h,if_neg h,a]
theorem NY:∀(l:SM)(k:Int)(v:Sp),xY (smC l) k (spV v)=smC (KAF l k v)
 | [],k,v=>rfl
 |(x,s)::r,k,v=>by
  have a:=NY r k v;rw[KAF];show(if k=x then(x,spV v)::smC r else(x,spV s)::xY (smC r) k (spV v))=_;by_cases h:k=x
  ·rw[if_pos h,if_pos h];rfl
  rw[if_neg h,if_neg h,a];rfl
theorem rJ:∀(l:SM)(k:Int),zx (smC l) k=smC (KEF l k)
 | [],k=>rfl
 |(x,s)::r,k=>by
  have a:=rJ r k;rw[KEF];show(if k=x then smC r else(x,spV s)::zx (smC r) k)=_;by_cases h:k=x
  ·rw[if_pos h,if_pos h]
  rw[if_neg h,if_neg h,a];rfl
def I4:KAa PP (Dn .i64) 80 3 62 (.agg #[I 0,I 0]):=⟨by kernel_rfl,by kernel_rfl,by kernel_rfl⟩
def uC:Agg PP 248 2:=DN (by kernel_rfl)
def rD:Scl PP 4:=BQ (by kernel_rfl)
def bdV(b:Bd):Value:=.agg #[I b.1,.bool b.2]
theorem Zf(mb:Nat)(s:SM)(d:Bd)(w:Wq)(h:MapAt (Dn .i64) w mb (smC s)):CP 161 #[.map (some mb),bdV d] w λe w'=>e=Ej (I (atB s d))/\Hp [] w w' []:=by
 apply Jb5;have r:mb<w.heap.size:=h.lt;intro t n f;have H:=(Hp.start w).nw f;have o:MapAt (Dn .i64) n mb (smC s):=h.chg H.chg (by simp);have m:=Kq s d.1;obtain⟨z,g⟩:∃z:Sp,z=(xm s d.1).getD (0,0):=⟨_,rfl⟩
 have i:(xZ (smC s) d.1).getD (.agg #[I 0,I 0])=.agg #[I z.1,I z.2]:=by
  rw[m,g];cases xm s d.1<;>rfl
 have c:=(MJ I4 o d.1).2;rw[i]at c;refine⟨d.1,H.lo xK,z.1,z.2,(xZ (smC s) d.1).isSome,c,λu y j=>?_⟩;have p:=H.nw j;refine Hp.stA p EQ4 Fz rfl rfl (by simp) rfl λA b=>?_;have q:(xZ (smC s) d.1).isSome=(xm s d.1).isSome:=by rw[m,lG]
 rw[q];refine Es (λa=>⟨?_,b.drop.drop⟩) (λa=>⟨d.2,b.lo rD,Du (λl=>⟨z.2,b.lo xK,?_,b.drop.drop⟩) (λl=>⟨z.1,b.lo xK,?_,b.drop.drop⟩)⟩)
 ·rw[atB];cases e:xm s d.1 with
  |none=>rfl
  |some x=>rw[e]at a;cases a
 ·rw[atB,g];cases e:xm s d.1 with
  |none=>rw[e]at a;cases a
  |some x=>dsimp only;rw[if_pos l];rfl
 rw[atB,g];cases e:xm s d.1 with
 |none=>rw[e]at a;cases a
 |some x=>dsimp only;rw[if_neg (by rw[l];simp)];rfl
def nLay_spec{B:Nq}{w0:Wq}{L:List Asn}(mb:Nat)(s:SM)(d:Bd)(n:Int)(w:Wq)(t:Hp B w0 w (.Z6 mb .i64 (smC s)::L)):CP 163 #[.map (some mb),bdV d,I n] w λe w'=>e=Ej (.tuple #[])/\Hp B w0 w' (.Z6 mb .i64 (smC (KAW s d n))::L):=by
 apply Jcj;intro q D c;have H:=t.nw c;have u:=Kq s d.1;obtain⟨z,f⟩:∃z:Sp,z=(xm s d.1).getD (0,0):=⟨_,rfl⟩
 have g:(xZ (smC s) d.1).getD (.agg #[I 0,I 0])=.agg #[I z.1,I z.2]:=by
  rw[u,f];cases xm s d.1<;>rfl
 refine⟨d.1,H.lo xK,z.1,z.2,H.lkI I4 EQ4 m1 g,λr F h=>?_⟩;have x:=H.nw h;refine Hp.sA x Fz (cs':=[I z.1,I z.2]) λG i=>?_;refine⟨d.2,i.lo rD,Du (λj=>?_) (λj=>?_)⟩
 ·refine Hp.s1 i xK (cs':=[I z.1,I n]) λy a=>?_;refine⟨d.1,a.lo xK,z.1,n,a.loA Fz,?_⟩;refine Hp.KCj I4 a.BF EQ4 λA b=>⟨rfl,?_⟩
  have e:xY (smC s) d.1 (.agg #[I z.1,I n])=smC (KAW s d n):=by
   have:=NY s d.1 (z.1,n);rw[KAW,if_pos j,<- f];exact this
  rw[e]at b
  exact Hp.BM (R:=[.blk r [I z.1,I n] 62,.blk q [I d.1,.bool d.2] 248]) (b.perm (by
   refine AL λff C l m o p=>?_;simp only[o,m,l];omega))
 refine Hp.s1 i xK (cs':=[I n,I z.2]) λy a=>?_;refine⟨d.1,a.lo xK,n,z.2,a.loA Fz,?_⟩;refine Hp.KCj I4 a.BF EQ4 λA b=>⟨rfl,?_⟩
 have e:xY (smC s) d.1 (.agg #[I n,I z.2])=smC (KAW s d n):=by
  have:=NY s d.1 (n,z.2);rw[KAW,if_neg (by rw[j];simp),<- f];exact this
 rw[e]at b
 exact Hp.BM (R:=[.blk r [I n,I z.2] 62,.blk q [I d.1,.bool d.2] 248]) (b.perm (by
  refine AL λff C l m o p=>?_;simp only[o,m,l];omega))
end
end Go.Proofs.YtljenkbpnioipaaGreat
namespace Go.Nod
structure BSt where
 op:List Bd
 out:List Bd
def KCk(s:BSt):BSt:=⟨s.op.dropLast,s.out++[s.op.getLastD (0,true)]⟩
def JW:Nat->BSt->BSt
 |0,s=>s
 |n+1,s=>JW n (KCk s)
def GG(d:Int)(s:BSt):BSt:=JW (s.op.length-d.toNat) s
def KDj(i:Int)(s:BSt):BSt:=⟨s.op++[(i,true)],s.out++[(i,false)]⟩
def KBO:List It->lI->BSt->BSt
 | [],_,s=>s
 |x::r,ids,s=>KBO r ids.tail (KDj (ids.headD 0) (GG x.level s))
def DJ(l:List It)(ids:lI):List Bd:=(GG 0 (KBO l ids ⟨[],[]⟩)).out
theorem Oo:∀(j:Nat)(s:BSt),JW (j+1) s=KCk (JW j s)
 |0,s=>rfl
 |j+1,s=>by rw[JW,Oo j];rfl
theorem Lu:∀(n:Nat)(s:BSt),n<=s.op.length->(JW n s).op=s.op.take (s.op.length-n)/\(JW n s).out.length=s.out.length+n
 |0,s,_=>by simp[JW]
 |n+1,s,h=>by
  have a:(KCk s).op.length=s.op.length-1:=by rw[KCk,oW]
  obtain⟨b,c⟩:=Lu n (KCk s) om;rw[JW];refine⟨?_,?_⟩
  ·rw[b,a];show(s.op.dropLast).take _=_;rw[kE,jE];congr 1;omega
  rw[c,KCk];simp;omega
theorem WC(x:It)(i:Int):∀(l:List It)(ids:lI)(s:BSt),ids.length=l.length->KBO (l++[x]) (ids++[i]) s=KDj i (GG x.level (KBO l ids s))
 | [],[],s,_=>rfl
 |y::r,z::ids,s,h=>by
  rw[aH,aH,KBO,KBO,lD,jw,lD,jw];exact WC x i r ids _ (by simpa using h)
structure Rl(j:Nat)(s:BSt):Prop where
 len:s.op.length+s.out.length=2*j
 op:s.op.length<=j
def Rl.shut{j:Nat}{s:BSt}(h:Rl j s)(d:Int):Rl j (GG d s):=by
 obtain⟨a,b⟩:=Lu (s.op.length-d.toNat) s om;have c:=h.len;have f:=h.op;have e:(GG d s).op.length=s.op.length-(s.op.length-d.toNat):=by rw[GG,a,aJ];omega
 have g:(GG d s).out.length=s.out.length+(s.op.length-d.toNat):=b;exact⟨om,om⟩
def Rl.beg{j:Nat}{s:BSt}(h:Rl j s)(i:Int):Rl (j+1) (KDj i s):=by
 have a:=h.len;have b:=h.op;exact⟨by rw[KDj];simp;omega,by rw[KDj];simp;omega⟩
theorem Qo:∀(l:List It)(ids:lI)(k:Nat)(s:BSt),Rl k s->Rl (k+l.length) (KBO l ids s)
 | [],_,k,s,h=>h
 |x::r,ids,k,s,h=>by
  have:=Qo r ids.tail (k+1) _ ((h.shut x.level).beg (ids.headD 0));rw[KBO,aK,iG r.length,<- jb];exact this
def UH(l:List It)(ids:lI):(DJ l ids).length<=2*l.length:=by
 have h:=(Qo l ids 0 ⟨[],[]⟩ ⟨rfl,by simp⟩).shut 0;have:=h.len;rw[DJ];omega
end Go.Nod
namespace Go.Proofs.YtljenkbpnioipaaGreat
noncomputable section
open Go Go.Vc Go.Nod
def bdC(l:List Bd):LV:=l.flatMap λp=>[I p.1,.bool p.2]
def ZX(p:Bd)(r:List Bd):bdC (p::r)=I p.1::.bool p.2::bdC r:=rfl
def Xm(a b:List Bd):bdC (a++b)=bdC a++bdC b:=by simp[bdC]
theorem qR:∀{l:List Bd}{k:Nat}{p:Bd},l[k]? =some p->((bdC l).drop (k*2)).take 2=[I p.1,.bool p.2]
 |x::r,0,p,h=>by simp at h;subst h;rfl
 |x::r,k+1,p,h=>by
  rw[bI]at h;rw[ZX,di,eF,eF];exact qR h
theorem bdC_take(l:List Bd)(k:Nat):(bdC l).take (k*2)=bdC (l.take k):=by
 induction l generalizing k with
 |nil=>simp[bdC]
 |cons p r a=>
  cases k with
  |zero=>simp[bdC]
  |succ k=>rw[ZX,di,dY,dY,a k];rfl
def uP:Elt PP 185 248 2 16:=DU (by kernel_rfl)
def mSB:Scl PP 185:=BQ (by kernel_rfl)
def wO:PP.underlying 185=some (.slice 248):=by kernel_rfl
def KDG(b0 b1:Nat)(oa:OA)(oc:Nat)(ua:OA)(uc:Nat)(s:BSt):List Asn:=
 [.blk b0 [.slice oa s.op.length oc] 185,.own 248 2 oa s.op.length oc (bdC s.op),.blk b1 [.slice ua s.out.length uc] 185,.own 248 2 ua s.out.length uc (bdC s.out)]
def Nl{B:Nq}{w0:Wq}{L:List Asn}(d:Int)(l b1:Nat)(a:OA)(b:Nat)(n:OA)(o:Nat)(s:BSt)(w:Wq)(T:0<=d)(aa:s.op.length<=100000)(ab:s.out.length<=100000)(H:Hp B w0 w (KDG l b1 a b n o s++L)):
  CP 164 #[I d,pq l,pq b1] w λe w'=>∃f h X,e=Ej (.tuple #[])/\Hp B w0 w' (KDG l b1 a b f h (GG d s)++(X++L)):=by
 apply Jb8;refine xI.mk (λm _ w'=>∃(j:Nat)(f:OA)(h:Nat)(X:List Asn),m=s.op.length-j/\j<=s.op.length-d.toNat/\Hp B w0 w' (KDG l b1 a b f h (JW j s)++(X++L))) s.op.length ⟨0,n,o,[],rfl,om,H⟩ ?_;rintro m _ u nx ⟨j,n,o,X,rfl,hj,H⟩ y;obtain⟨U,f2⟩:=Lu j s om;obtain⟨s1,i⟩:∃s1,s1=JW j s:=⟨_,rfl⟩;rw[<- i]at H U f2;have ac:s1.op.length=s.op.length-j:=by rw[U,aJ];omega
 have ldO:∀{W:Wq},Eqw u W->Ld PP 185 W ⟨l,0,none⟩ (.slice a s1.op.length b):=λA=>H.ld A mSB (.head _) rfl;have C:∀{W:Wq},Eqw u W->Ld PP 185 W ⟨b1,0,none⟩ (.slice n s1.out.length o):=λA=>H.ld A mSB m2 rfl;refine⟨a,s1.op.length,b,AA rfl (ldO EQ4),AB (λh1=>?_) (λh1=>?_)⟩
 ·have p:0<s1.op.length:=om;obtain⟨z,Y⟩:∃z,s1.op[s1.op.length-1]? =some z:=⟨_,aB om⟩
  have D:z=s1.op.getLastD (0,true):=by
   rw[nC,dZ,Y];rfl
  have c:Own u 0 248 2 a s1.op.length b (bdC s1.op):=H.xh m1;have G:Cells u.drew a (bdC s1.op):=c.cells;obtain⟨g,Z⟩:=c.D6 p;have e1:Int.toNat ((s1.op.length:Int)-1)=s1.op.length-1:=om;refine⟨n,s1.out.length,o,AA rfl (C EQ4),a,s1.op.length,b,AA rfl (ldO EQ4),a,s1.op.length,b,AA rfl (ldO EQ4),iR,AA Z ⟨⟨om,om⟩,z.1,z.2,by rw[e1];exact G.ldA uC Z (qR Y) rfl,λxb w2 J=>?_⟩⟩;have K:=H.drew.nw J;refine⟨AA rfl (K.lo mSB),?_⟩;refine Hp.app uP om K.JH EQ4 (Blk.src wO (K.blk (.head _)) rfl rfl) (by simp only[maxLen];omega) om ?_;intro q r w3 H3;refine AA rfl (Hp.s1 H3.JH mSB (cs':=[.slice q (s1.out.length+1) r]) λw4 M=>?_);have ldO:Ld PP 185 w4 ⟨l,0,none⟩ (.slice a s1.op.length b):=M.lo mSB;have c:Own w4 0 248 2 a s1.op.length b (bdC s1.op):=M.xh m4;have ad:=c.le;refine⟨a,s1.op.length,b,AA rfl ldO,a,s1.op.length,b,AA rfl ldO,iR,⟨om,om⟩,AA rfl ?_⟩;rw[e1];refine Hp.s1 M.ET mSB (cs':=[.slice a (s1.op.length-1) b]) λw5 H5=>?_;have t:Own w5 0 248 2 a s1.op.length b (bdC s1.op):=H5.xh m4;have x:=t.keep (F:=s1.op.length-1) om;have e2:(bdC s1.op).take ((s1.op.length-1)*2)=bdC (s1.op.take (s1.op.length-1)):=bdC_take _ _;rw[e2]at x;have H6:=Hp.set (a':=.own 248 2 a (s1.op.length-1) b (bdC (s1.op.take (s1.op.length-1)))) H5.JH (Chg.refl _ _) x λk x=>.inl x;have N:JW (j+1) s=KCk s1:=by rw[i,Oo]
  have O:KCk s1=⟨s1.op.take (s1.op.length-1),s1.out++[z]⟩:=by rw[KCk,kE,D]
  refine y (s.op.length-(j+1)) _ _ om ⟨j+1,q,r,.blk xb [I z.1,.bool z.2] 248::X,rfl,om,?_⟩;rw[N,O];refine H6.perm ?_;have e3:(s1.op.take (s1.op.length-1)).length=s1.op.length-1:=by rw[aJ];omega
  have e4:(s1.out++[z]).length=s1.out.length+1:=by simp
  have e5:bdC (s1.out++[z])=bdC s1.out++[I z.1,.bool z.2]:=by rw[Xm];rfl
  refine AL λff gg T hc ha ae=>?_;simp only[KDG,e3,e4,e5,ha,hc,T,aY,aO];omega
 have R:j=s.op.length-d.toNat:=om;refine⟨n,o,X,rfl,?_⟩;rw[GG,<- R,<- i];exact H
end
noncomputable section
open Go Go.Vc Go.Nod
def nBounds_spec(la:Option Addr)(n lc:Nat)(l:List It)(ss:List Sl3)(za:Option Addr)(zc:Nat)(ids:List Int)(w:World)(hA:CW [] w la n l ss)(Z:Cells w za (AO ids))(a0:ids.length=n)(hn:n<=10000)(D:∀x∈l,0<=x.level):
  Calls Tryz.prog 105 #[.slice la n lc,.slice za n zc] w λe w'=>∃a c,e=.returned (.slice a (DJ l ids).length c)/\Hp [] w w' [.own 248 2 a (DJ l ids).length c (bdC (DJ l ids))]:=by
 apply Jb7;have ar:=hA.now.len;intro F w1 aa;have H1:=(Hp.start w).new (cs:=[.slice none 0 0]) EQ4 aa;intro G w2 ab;have H2:=((H1.new (cs:=[.slice none 0 0]) EQ4 ab).yS 248 2).yS 248 2;refine xI.mk (λm s w'=>∃(j:Nat)(f:Option Addr)(g:Nat)(J:Option Addr)(K:Nat)(X:List Asn),m=n-j/\j<=n/\s=(j:Int)/\Hp [] w w' (KDG G F f g J K (KBO (l.take j) (ids.take j) ⟨[],[]⟩)++X)) n ⟨0,none,0,none,0,[],rfl,om,rfl,H2.perm ?_⟩ ?_
 ·refine AL λff gg p q r u=>?_;have L:bdC []=[]:=rfl;simp only[KDG,fD,KBO,L,dK,r,q,p];omega
 rintro m s w3 nx ⟨j,f,g,J,K,X,rfl,hj,rfl,H⟩ ac;have M:=Qo (l.take j) (ids.take j) 0 ⟨[],[]⟩ ⟨rfl,by simp⟩;have ae:(l.take j).length=j:=by rw[aJ];omega
 rw[ae,cZ]at M;obtain⟨s,hs⟩:∃s,s=KBO (l.take j) (ids.take j) ⟨[],[]⟩:=⟨_,rfl⟩;rw[<- hs]at H M;have a1:=M.len;have a2:=M.op;refine AB (λh1=>?_) (λh1=>?_)
 ·have af:j<l.length:=om;have hI:=hA.rd w3 H.chg;obtain⟨x,sl,hx,ag,a3⟩:=hI.at_ (k:=j) om;obtain⟨ad,ah,ak⟩:=hI.some hx ag;refine AA ah ⟨⟨om,h1⟩,x.level,x.x.kind,x.x.name,x.x.text,sl.1,sl.2.1,sl.2.2,ak,?_⟩;intro xb w4 al;have H4:=H.new EQ4 al;refine Hp.stA H4 EQ4 CB rfl rfl (by simp) (cs':=itC x sl) rfl λw5 H5=>?_;refine⟨x.level,H5.ld (o:=0) (cs:=itC x sl) EQ4 xK (.head _) rfl,?_⟩;have am:=D x (aC hx)
  have H6:Hp [] w w5 (KDG G F f g J K s++(.blk xb (itC x sl) 123::X)):=H5.perm (by
   refine AL λff gg p q r u=>?_;simp only[r,q,p];omega)
  refine AC (Nl x.level G F f g J K s w5 am om om H6) ?_;rintro _ w6 ⟨b,d,X2,rfl,y⟩;have z:=M.shut x.level;obtain⟨t,ht⟩:∃t,t=GG x.level s:=⟨_,rfl⟩;rw[<- ht]at y z;have av:=z.len;have aw:=z.op;obtain⟨i,hi⟩:∃i,ids[j]? =some i:=⟨_,aB om⟩;have A:(AO ids)[j]? =some (.int .i64 i):=by simp[AO,hi]
  obtain⟨a4,h,_⟩:=Z _ _ A;refine⟨rfl,b,t.out.length,d,y.ld (o:=0) (cs:=[.slice b t.out.length d]) EQ4 mSB m2 rfl,AA h ⟨⟨om,om⟩,i,?_,?_⟩⟩
  ·rw[aN,bV];exact(Z.chg (w':=w6.drew) y.chg (by simp)).ld xK h A
  intro yb w7 an;have H8:=y.drew.new (cs:=[.int .i64 i,.bool false]) EQ4 an;refine⟨H8.ld (o:=0) (cs:=[.slice b t.out.length d]) EQ4 mSB m3 rfl,?_⟩;refine Hp.app uP om H8.JH EQ4 (Blk.src (P:=Tryz.prog) wO (H8.blk (.head _)) rfl rfl) (by simp only[maxLen];omega) om ?_;intro N O w8 H9;refine Hp.st (o:=0) H9.JH EQ4 mSB rfl rfl (by simp) (cs':=[.slice N (t.out.length+1) O]) rfl λw9 B=>?_;refine⟨f,t.op.length,g,B.ld (o:=0) (cs:=[.slice f t.op.length g]) EQ4 mSB m3 rfl,AA h ⟨⟨om,om⟩,i,?_,?_⟩⟩
  ·rw[aN,bV];exact(Z.chg (w':=w9.drew) B.chg (by simp)).ld xK h A
  intro vb a5 T;have C:=B.drew.new (cs:=[.int .i64 i,.bool true]) EQ4 T;refine⟨C.ld (o:=0) (cs:=[.slice f t.op.length g]) EQ4 mSB m4 rfl,?_⟩;refine Hp.app uP om C.vN EQ4 (Blk.src (P:=Tryz.prog) wO (C.blk (.head _)) rfl rfl) (by simp only[maxLen];omega) om ?_;intro U Y a6 ao;refine Hp.st (o:=0) ao.vN EQ4 mSB rfl rfl (by simp) (cs':=[.slice U (t.op.length+1) Y]) rfl λa7 ap=>⟨iR,?_⟩;refine ac (n-(j+1)) _ _ om ⟨j+1,U,Y,N,O,.blk vb [.int .i64 i,.bool true] 248::.blk yb [.int .i64 i,.bool false] 248::(X2++(.blk xb (itC x sl) 123::X)),rfl,om,rfl,ap.perm ?_⟩
  have L:KBO (l.take (j+1)) (ids.take (j+1)) ⟨[],[]⟩=KDj i t:=by
   rw[aG af,(aA.1 hx).2,aG om,(aA.1 hi).2,WC _ _ _ _ _ (by rw[aJ,aJ];omega),<- hs,<- ht]
  have e2:bdC (t.op++[(i,true)])=bdC t.op++[.int .i64 i,.bool true]:=by rw[Xm];rfl
  have e3:(t.op++[(i,true)]).length=t.op.length+1:=by simp
  have e4:bdC (t.out++[(i,false)])=bdC t.out++[.int .i64 i,.bool false]:=by rw[Xm];rfl
  have e5:(t.out++[(i,false)]).length=t.out.length+1:=by simp
  rw[L];refine AL λff gg p q r u=>?_;simp only[KDG,KDj,e2,e3,e4,e5,r,q,p,aY,aO];omega
 have aq:j=n:=om;subst aq;refine AC (Nl 0 G F f g J K s w3 om om om H) ?_;rintro _ w6 ⟨b,d,X2,rfl,y⟩
 have L:DJ l ids=(GG 0 s).out:=by
  rw[DJ,hs,aV om,aV om]
 rw[L];refine⟨rfl,b,_,d,y.ld (o:=0) (cs:=[.slice b (GG 0 s).out.length d]) EQ4 mSB m2 rfl,b,d,rfl,?_⟩;refine Hp.BM (R:=[.blk G [.slice f (GG 0 s).op.length g] 185,.own 248 2 f (GG 0 s).op.length g (bdC (GG 0 s).op),.blk F [.slice b (GG 0 s).out.length d] 185]++(X2++X)) (y.perm ?_);refine AL λff gg p q r u=>?_;simp only[KDG,r,q,p];omega
end
end Go.Proofs.YtljenkbpnioipaaGreat
namespace Go.Nod
def F7(old:SM):List Bd->SM->SM
 | [],s=>s
 |b::r,s=>F7 old r (if 0<=atB old b then KAF s b.1 ((xm old b.1).getD (0,0))else s)
def layAll:SM->List Bd->lI->SM
 |s,b::bs,n::ns=>layAll (KAW s b n) bs ns
 |s,_,_=>s
def KC(l:List Bd)(old:SM)(k:Nat):Int:=match l[k]? with
 |some b=>atB old b
 |none=>4611686018427387904
noncomputable def FW(l:List Bd)(old:SM):Nat->Nat->Int->Nat->SM->Option SM
 |0,_,_,_,s=>some s
 |n+1,k,low,from_,s=>
  if KC l old k<0 then FW l old n (k+1) low from_ s
  else match KBd low (KC l old k) ((k:Int)-(from_:Int))with
   |none=>none
   |some ns=>FW l old n (k+1) (KC l old k) (k+1) (layAll s (l.drop from_) ns)
noncomputable def Eg(l:List Bd)(old:SM):Option SM:=FW l old (l.length+1) 0 0 0 (F7 old l [])
theorem XI(old:SM):∀(a b:List Bd)(s:SM),F7 old (a++b) s=F7 old b (F7 old a s)
 | [],b,s=>rfl
 |x::a,b,s=>by rw[aH,F7,F7,XI old a b]
theorem Ud:∀(a:lI)(n:Int)(s:SM)(bs:List Bd)(b:Bd),bs[a.length]? =some b->layAll s bs (a++[n])=KAW (layAll s bs a) b n
 | [],n,s,c::bs,b,h=>by
  rw[dK,dI]at h;cases h;rw[aO,layAll];cases bs<;>simp[layAll]
 |m::a,n,s,c::bs,b,h=>by
  rw[aK,bI]at h;rw[aH,layAll,layAll];exact Ud a n (KAW s c m) bs b h
def Ir(s:SM)(bs:List Bd):layAll s bs []=s:=by cases bs<;>rfl
end Go.Nod
namespace Go.Proofs.YtljenkbpnioipaaGreat
noncomputable section
open Go Go.Vc Go.Nod
def nSpanned_spec(la:OA)(n lc:Nat)(l:List Bd)(D:Nat)(old:SM)(w:Wq)(hL:Cells w la (bdC l))(hn:n=l.length)(ao:n<=10000)(hO:MapAt (Dn .i64) w D (smC old)):
  CP 104 #[.slice la n lc,.map (some D)] w λe w'=>(Eg l old=none/\e=Ej (.tuple #[.map none,.bool false])/\Hp [] w w' [])\/
   ∃s mb,Eg l old=some s/\e=Ej (.tuple #[.map (some mb),.bool true])/\Hp [] w w' [.Z6 mb .i64 (smC s)]:=by
 apply Jcx;intro mb w1 aa;have H1:Hp [] w w1 [.Z6 mb .i64 (smC [])]:=(Hp.start w).KDN EQ4 .i64 aa
 have cell:∀{w':Wq}{L:List Asn}{j:Nat}{d:Bd},Hp [] w w' L->l[j]? =some d->∃A,la=some A/\Ld PP 248 w' (A.add (j*2)) (bdV d):=λ{w' L j d} H r=>by
  have hc:Cells w' la (bdC l):=hL.chg H.chg (by simp);have f:=qR r;obtain⟨A,c⟩:=hc.some (λe=>by rw[e]at f;simp at f);exact⟨A,c,hc.ldA uC c f rfl⟩
 refine xI.mk (λm s w'=>∃(j:Nat)(X:List Asn),m=n-j/\j<=n/\s=(j:Int)/\Hp [] w w' (.Z6 mb .i64 (smC (F7 old (l.take j) []))::X)) n ⟨0,[],rfl,om,rfl,H1⟩ ?_;rintro m s w2 nx ⟨j,X,rfl,hj,rfl,H⟩ u;refine AB (λh1=>?_) (λh1=>?_)
 ·have F:j<l.length:=om;obtain⟨d,r⟩:∃d,l[j]? =some d:=⟨_,aB F⟩;obtain⟨A,c,h⟩:=cell H r;refine AA c ⟨⟨om,h1⟩,d.1,d.2,h,?_⟩;intro xb w3 ab;have B:=H.nw ab;refine Hp.stA B EQ4 uC rfl rfl (by simp) rfl λw4 G=>?_;refine⟨d.1,d.2,G.loA uC,?_⟩;refine AC (Zf D old d w4 (hO.chg G.chg (by simp))) ?_;rintro _ w5 ⟨rfl,C⟩;have H5:=G.xN C
  have M:F7 old (l.take (j+1)) []=if 0<=atB old d then KAF (F7 old (l.take j) []) d.1 ((xm old d.1).getD (0,0))else F7 old (l.take j) []:=by
   rw[aG F,(aA.1 r).2,XI];rfl
  have ld0:Ld PP 3 w5 ⟨xb,0,none⟩ (I d.1):=H5.lo xK;refine⟨_,rfl,AB (λf=>?_) (λf=>⟨iR,?_⟩)⟩
  ·obtain⟨z,hz⟩:∃z:Sp,z=(xm old d.1).getD (0,0):=⟨_,rfl⟩
   have ac:(xZ (smC old) d.1).getD (.agg #[I 0,I 0])=.agg #[I z.1,I z.2]:=by
    rw[Kq,hz];cases xm old d.1<;>rfl
   have N:=(MJ I4 (hO.chg H5.chg (by simp):MapAt (Dn .i64) w5 D (smC old)) d.1).1;rw[ac]at N;rw[if_pos f,<- hz]at M;refine⟨d.1,ld0,d.1,ld0,z.1,z.2,N,?_⟩;refine Hp.KCj I4 H5.AX EQ4 λw6 H6=>⟨iR,u (n-(j+1)) _ _ om ⟨j+1,.blk xb [I d.1,.bool d.2] 248::X,rfl,om,rfl,?_⟩⟩;have:=NY (F7 old (l.take j) []) d.1 z;rw[M,<- this];exact H6
  rw[if_neg f]at M;refine u (n-(j+1)) _ _ om ⟨j+1,.blk xb [I d.1,.bool d.2] 248::X,rfl,om,rfl,?_⟩;rw[M];exact H5.AX
 have ae:j=n:=om;subst ae;rw[aV om]at H;refine xI.mk (λm s w'=>∃(k b:Nat)(x:Int)(S:SM)(X:List Asn),m=l.length+1-k/\k<=l.length+1/\b<=k/\s=(x,(b:Int),(k:Int))/\Eg l old=FW l old (l.length+1-k) k x b S/\Hp [] w w' (.Z6 mb .i64 (smC S)::X)) (l.length+1) ⟨0,0,0,F7 old l [],X,rfl,om,om,rfl,by rw[Eg,kN],H⟩ ?_;rintro m s w3 nx ⟨k,b,x,S,X,rfl,M,ap,rfl,a,H⟩ u;dsimp only;refine AB (λh1=>?_) (λh1=>?_);rotate_left
 ·have O:k=l.length+1:=om;rw[O,iL,FW]at a;exact .inr ⟨S,mb,a,rfl,Hp.BM H⟩
 have O:k<=l.length:=om;have af:l.length+1-k=(l.length-k)+1:=om;rw[af,FW]at a;obtain⟨o,hh⟩:∃o,o=KC l old k:=⟨_,rfl⟩;rw[<- hh]at a;refine xM.mk (λs1 w'=>∃(p:Nat)(S2:SM)(y:List Asn),p<=k+1/\s1.2=(p:Int)/\Eg l old=FW l old (l.length-k) (k+1) s1.1 p S2/\Hp [] w w' (.Z6 mb .i64 (smC S2)::y)) ?_ ?_
 ·rintro⟨ag,f2⟩ w4 ⟨p,S2,y,g1,g2,g3,g4⟩;subst g2;refine⟨iR,u (l.length+1-(k+1)) _ _ om ⟨k+1,p,ag,S2,y,rfl,om,g1,rfl,?_,g4⟩⟩;rw[show l.length+1-(k+1)=l.length-k by omega];exact g3
 intro J hJ;refine xM.mk (λs1 w'=>s1=o/\Hp [] w w' (.Z6 mb .i64 (smC S)::X)) ?_ ?_;rotate_left
 ·intro K hK;refine AB (λf=>?_) (λf=>hK _ _ ⟨?_,H⟩)
  ·obtain⟨d,r⟩:∃d,l[k]? =some d:=⟨_,aB om⟩;obtain⟨A,c,h⟩:=cell H r;refine AA c ⟨⟨om,f⟩,d.1,d.2,h,?_⟩;refine AC (Zf D old d w3 (hO.chg H.chg (by simp))) ?_;rintro _ w5 ⟨rfl,C⟩;refine⟨_,rfl,hK _ _ ⟨?_,H.xN C⟩⟩;rw[hh,KC,r]
  rw[hh,KC,bC om]
 rintro s1 w4 ⟨ah,H⟩;subst ah;refine AB (λf=>?_) (λf=>⟨iR,?_⟩)
 ·rw[if_pos f]at a;exact hJ _ _ ⟨b,S,X,om,rfl,a,H⟩
 rw[if_neg f]at a;have R:=sBetween_spec x s1 ((k:Int)-(b:Int)) w4 ⟨om,om⟩;have ak:((k:Int)-(b:Int)).toNat=k-b:=om;rw[ak]at R;refine AC R ?_;rintro e w5 (⟨hb,rfl,C⟩|⟨g,na,nc,hb,aq,rfl,C⟩)
 ·rw[hb]at a;exact⟨none,0,0,false,rfl,Cc (.inl ⟨a,rfl,Hp.BM (H.xN C)⟩)⟩
 rw[hb]at a;have H2:=H.yC C;refine⟨na,k-b,nc,true,rfl,Au ?_⟩;refine xI.mk (λq t w'=>∃(i:Nat)(y:List Asn),q=(k-b)-i/\i<=k-b/\t=(i:Int)/\Hp [] w w' (.Z6 mb .i64 (smC (layAll S (l.drop b) (g.take i)))::.own 3 1 na (k-b) nc (AO g)::y)) (k-b) ⟨0,X,rfl,om,rfl,?_⟩ ?_
 ·rw[fD,Ir];exact H2.AX
 rintro q t w6 ar ⟨i,y,rfl,hi,rfl,B⟩ T;refine AB (λh3=>?_) (λh3=>⟨iR,hJ _ _ ⟨k+1,layAll S (l.drop b) g,.own 3 1 na (k-b) nc (AO g)::y,om,rfl,a,?_⟩⟩)
 ·have U:i<g.length:=om;have al:(AO g)[i]? =some (I g[i]):=by simp[AO,U]
  obtain⟨A,c,h⟩:=B.ldO EQ4 xK m1 al;obtain⟨d,r⟩:∃d,l[b+i]? =some d:=⟨_,aB om⟩;obtain⟨av,Y,Z⟩:=cell B r;refine AA c ⟨⟨om,h3⟩,g[i],by rw[aN,bV];exact h,iR,AA Y ⟨⟨om,om⟩,d.1,d.2,?_,?_⟩⟩
  ·rw[show((b:Int)+(i:Int)).toNat=b+i by omega];exact Z
  refine AC (nLay_spec mb _ d g[i] w6 B) ?_;rintro _ w7 ⟨rfl,G⟩;refine⟨rfl,iR,T (k-b-(i+1)) _ _ om ⟨i+1,y,rfl,om,rfl,?_⟩⟩;have am:(g.take i).length=i:=by rw[aJ];omega
  rw[aG U,Ud (g.take i) g[i] S (l.drop b) d (by rw[am,dm];exact r)];exact G
 have an:i=g.length:=om;rw[an,bJ]at B;exact B
end
end Go.Proofs.YtljenkbpnioipaaGreat
namespace Go.Nod
def GK:SM->lI->SM
 |s,[]=>s
 |s,i::r=>GK (KEF s i) r
theorem RV(i:Int):∀(l:lI)(s:SM),GK s (l++[i])=KEF (GK s l) i
 | [],s=>rfl
 |j::l,s=>by rw[aH,GK,GK,RV i l]
def Et:SM->lI->List Sp->SM
 |m,i::is,s::ss=>Et (KAF m i s) is ss
 |m,_,_=>m
theorem SE(i:Int)(s:Sp):∀(a:lI)(ss:List Sp)(m:SM),a.length=ss.length->Et m (a++[i]) (ss++[s])=KAF (Et m a ss) i s
 | [],[],m,_=>rfl
 |j::a,t::ss,m,h=>by
  rw[aH,aH,Et,Et];exact SE i s a ss _ (by simpa using h)
noncomputable def Je(T:Tr)(old:SM)(moved:lI):SM:=
 match Eg (DJ (T.L.map yH) (T.L.map (·.id))) (GK old moved)with
 |some s=>s
 |none=>Et [] (T.L.map (·.id)) (IJ (T.L.map yH))
end Go.Nod
namespace Go.Proofs.YtljenkbpnioipaaGreat
noncomputable section
open Go Go.Vc Go.Nod
def Y7{x:NX}(c:x.kind=1\/x.kind=2)(h:Ap x=0):Xp x:=by
 obtain⟨l,g,i⟩:=DC h;rcases c with c|c
 ·obtain⟨e,b,f,j⟩:=g c;refine⟨by have:=e.2.1;simp only[maxLen];omega,by rw[f];simp[maxLen];decide,λa d=>⟨by have:=(b.1 a d).2.1;simp only[maxLen];omega,?_⟩⟩;have:=(Gt _).1 j a d;rw[BH]at this;split at this
  ·cases this
  split at this
  ·cases this
  simp only[maxLen];omega
 obtain⟨e,b,f⟩:=i c;refine⟨by rw[f];decide,?_,λa d=>by rw[e]at d;cases d⟩;rw[BH]at b;split at b
 ·cases b
 split at b
 ·cases b
 simp only[maxLen];omega
def JO{x:NX}(h:Ap x=0):x.kind=1\/x.kind=2:=by
 rw[Ap]at h;split at h
 ·rename_i a;exact .inr a
 split at h
 ·rename_i a;exact .inl a.1
 cases h
def Dl{F:Fo}{T:Tr}(a:Am F T):∀x∈T.L.map yH,Ap x.x=0:=λx b=>by
 obtain⟨r,c,rfl⟩:=aU.1 b;exact GH F 0 a.ok r (by rw[a.fl];exact c)
def nLabel_spec{f:Nq}{b:Nat}{T:Tr}{w:Wq}(h:(AV f b T).ok w)(ob:Nat)(old:SM)(ma:OA)(B mc:Nat)(moved:lI)(hO:∀W,Chg f w W->MapAt (Dn .i64) W ob (smC old))(hM:∀W,Chg f w W->Cells W ma (AO moved))(a2:B=moved.length)(a3:B<=100000):
  CP 58 #[pq b,.map (some ob),.slice ma B mc] w λe w'=>∃f' mb,e=Ej (.map (some mb))/\Hp f w w' [AV f' b T,.Z6 mb .i64 (smC (Je T old moved))]:=by
 apply Jci;have H0:Hp f w w [AV f b T]:=BU h;obtain⟨F,a4,a5,C,_⟩:=FD h;have a1:=C.len;refine AC (OW h) ?_;rintro _ w0 ⟨rfl,an⟩;obtain rfl:=an.symm;refine⟨_,rfl,AC (MQ h) ?_⟩;rintro _ w1 ⟨f1,D,ic,g,rfl,G,H1⟩;refine⟨_,_,_,rfl,AC (JZ (H1.ok _ (.head _))) ?_⟩;rintro _ w2 ⟨f2,J,zc,rfl,H2⟩;have H3:=H1.zK H2;refine⟨_,_,_,rfl,?_⟩;refine AC (Mc ob (smC old) w2 (hO w2 H3.chg)) ?_;rintro _ w3 ⟨n,rfl,a6,ao,ap⟩
 have H4:=H3.add (a':=.Z6 n .i64 (smC old)) ap ao (λk hk=>by
  have:k=n:=by simpa [Asn.foot]using hk
  omega)
 refine⟨some n,rfl,?_⟩;obtain⟨Y,hY⟩:∃Y:List Asn,Y=([AV f2 b T,.own 3 1 J T.L.length zc (AO (T.L.map (·.id)))]++(.own 123 5 D T.L.length ic (yK (T.L.map Ac) g)::Bo (T.L.map Ac) g)):=⟨_,rfl⟩;rw[<- hY]at H4;refine xI.mk (λm s w'=>∃j:Nat,m=B-j/\j<=B/\s=(j:Int)/\Hp f w w' (.Z6 n .i64 (smC (GK old (moved.take j)))::Y)) B ⟨0,rfl,om,rfl,by rw[fD];exact H4⟩ ?_;rintro m s w4 nx ⟨j,rfl,hj,rfl,H⟩ K;refine AB (λh1=>?_) (λh1=>?_)
 ·have d:j<moved.length:=om;have aa:(AO moved)[j]? =some (I moved[j]):=by simp[AO,d]
  have l:=hM w4 H.chg;obtain⟨ad,q,_⟩:=l _ _ aa;refine AA q ⟨⟨om,h1⟩,moved[j],by rw[aN,bV];exact l.ld xK q aa,?_⟩;refine Hp.delI I4 rfl H EQ4 λw5 H5=>⟨iR,K (B-(j+1)) _ _ om ⟨j+1,rfl,om,rfl,?_⟩⟩;rw[aG d,RV,<- rJ];exact H5
 rw[aV om]at H;have ab:∀{a:Asn},a∈Y->a∈(Asn.Z6 n .i64 (smC (GK old moved))::Y):=λh=>.tail _ h
 have y:∀{w':Wq}{L:List Asn},Hp f w w' L->(∀a∈Y,a∈L)->CW [] w' D T.L.length (T.L.map yH) g:=λ{w' L} H r=>by
  refine⟨λW hW=>?_,by simp only[maxLen];omega,λs M=>?_,λx t=>Y7 (JO (Dl C x t)) (Dl C x t)⟩
  ·have HW:=H.KFO hW;exact ul (show Own W 0 123 5 D T.L.length ic (yK (T.L.map Ac) g)from HW.xh (r _ (by rw[hY];exact .tail _ m1))) G (by rw[aQ]) λx t=>HW.ok x (r _ (by rw[hY];exact .tail _ (t2 t)))
  obtain⟨k,hk⟩:=bD M;have a7:=(aA.1 hk).1;have a8:=G.len;have t:(T.L.map Ac)[k]? =some ((T.L.map Ac)[k]' om):=aB _;have e:=G.att k _ s t hk;have:=(DC (Dl C _ (aC t))).1;simp only[maxLen];omega
 have ac:∀{w':Wq}{L:List Asn},Hp f w w' L->(∀a∈Y,a∈L)->Cells w' J (AO (T.L.map (·.id))):=λ{w' L} H r=>by
  have:Own w' 0 3 1 J T.L.length zc (AO (T.L.map (·.id))):=H.xh (r _ (by rw[hY];exact .tail _ (.head _)));exact this.cells
 have z:∀x∈T.L.map yH,0<=x.level:=λx t=>by
  obtain⟨k,hk⟩:=bD t;exact(PI (b:=0) C.ok C.fl k x hk).1
 have u:=UH (T.L.map yH) (T.L.map (·.id));rw[aQ]at u;refine AC (nBounds_spec D _ ic (T.L.map yH) g J zc (T.L.map (·.id)) w4 (y H λa c=>ab c) (ac H λa c=>ab c) (by rw[aQ]) om z) ?_;rintro _ w5 ⟨ba,bc,rfl,H5⟩;have H6:=H.yC H5;obtain⟨bs,N⟩:∃bs,bs=DJ (T.L.map yH) (T.L.map (·.id)):=⟨_,rfl⟩;rw[<- N]at H6 u⊢;have aq:Own w5 0 248 2 ba bs.length bc (bdC bs):=H6.xh (.head _);refine⟨_,_,_,rfl,AC (nSpanned_spec ba bs.length bc bs n (GK old moved) w5 aq.cells rfl om (H6.ok _ m1)) ?_⟩;rintro _ w6 (⟨M,rfl,H7⟩|⟨S,mb,M,rfl,H7⟩);rotate_left
 ·refine⟨_,_,rfl,Cc ⟨f2,mb,rfl,?_⟩⟩;have hl:Je T old moved=S:=by rw[Je,<- N,M]
  rw[hl];have H8:=H6.yC H7;rw[hY]at H8
  exact Hp.BM (R:=[.own 248 2 ba bs.length bc (bdC bs),.Z6 n .i64 (smC (GK old moved)),.own 3 1 J T.L.length zc (AO (T.L.map (·.id)))]++(.own 123 5 D T.L.length ic (yK (T.L.map Ac) g)::Bo (T.L.map Ac) g)) (H8.perm (by
   refine AL λff gg O l c U=>?_;simp only[c,l,O,aY,aO,aH];omega))
 refine⟨_,_,rfl,Au λnb w7 ar=>?_⟩;have H8:Hp f w w7 (.Z6 nb .i64 (smC [])::_):=(H6.xN H7).KDN EQ4 .i64 ar;have ae:∀{a:Asn},a∈Y->a∈(Asn.Z6 nb .i64 (smC [])::.own 248 2 ba bs.length bc (bdC bs)::.Z6 n .i64 (smC (GK old moved))::Y):=λh=>.tail _ (t2 h)
 have av:T.L≠[]:=λe=>by
  have e1:bs=[]:=ay (by rw[e]at u;simpa using u);rw[e1]at M
  have e2:Eg [] (GK old moved)≠none:=by
   have e3:KC [] (GK old moved) 0=4611686018427387904:=rfl;have e4:KBd 0 4611686018427387904 (((0:Nat):Int)-((0:Nat):Int))=some []:=by rw[KBd,if_pos (by refine⟨⟨?_,?_⟩,⟨?_,?_⟩,?_,?_,?_⟩<;>decide)];rfl
   rw[Eg,dK,FW,e3,if_neg (by decide),e4];dsimp only;rw[FW];simp
  exact e2 M
 have hl:Je T old moved=Et [] (T.L.map (·.id)) (IJ (T.L.map yH)):=by rw[Je,<- N,M]
 rw[hl];refine AC (sLabel_spec D _ ic (T.L.map yH) g w7 (y H8 λa c=>ae c) (Tm C av) (by rw[aQ];omega) z) ?_;rintro _ w8 ⟨la,rfl,H9⟩;have af:=H8.yC H9;have ag:=Wl (T.L.map yH);rw[aQ]at ag;obtain⟨P,hP⟩:∃P,P=IJ (T.L.map yH):=⟨_,rfl⟩;rw[<- hP]at af ag⊢;obtain⟨A,Z⟩:∃A,A=T.L.map (·.id):=⟨_,rfl⟩;have a9:A.length=T.L.length:=by rw[Z,aQ]
 refine⟨_,_,_,_,rfl,xI.mk (λm s w'=>∃(j:Nat)(X:List Asn),m=T.L.length-j/\j<=T.L.length/\s=(j:Int)/\Hp f w w' (.Z6 nb .i64 (smC (Et [] (A.take j) (P.take j)))::.own 62 2 la T.L.length T.L.length (BP P)::(Y++X))) T.L.length ⟨0,[.own 248 2 ba bs.length bc (bdC bs),.Z6 n .i64 (smC (GK old moved))],rfl,om,rfl,af.perm ?_⟩ ?_⟩
 ·refine AL λff gg O l c U=>?_;simp only[fD,Et,c,l,O,aY,aO,aH];omega
 rintro m s w9 nx ⟨j,X,rfl,hj,rfl,H⟩ K;refine AB (λh2=>?_) (λh2=>?_)
 ·have d:j<P.length:=om;obtain⟨p,hp⟩:∃p,P[j]? =some p:=⟨_,aB d⟩;obtain⟨i,hi⟩:∃i,A[j]? =some i:=⟨_,aB om⟩;obtain⟨ad,q,aw⟩:=H.ldOA (w':=w9) (o:=j*2) EQ4 Fz om m1 (MV hp) rfl;refine AA q ⟨⟨om,h2⟩,p.1,p.2,aw,λxb bb ah=>?_⟩;have H2:=H.nw ah;refine Hp.sA H2 Fz (cs':=[I p.1,I p.2]) λa0 H3=>?_;have ak:(AO (T.L.map (·.id)))[j]? =some (I i):=by rw[<- Z];simp[AO,hi]
  have al:Cells a0.drew J (AO (T.L.map (·.id))):=ac H3.drew λa c=>.tail _ (t2 (aS _ c));obtain⟨zd,am,_⟩:=al _ _ ak;refine AA am ⟨⟨om,om⟩,i,by rw[aN,bV];exact al.ld xK am ak,p.1,p.2,H3.loA Fz,?_⟩;refine Hp.KCj (v:=.agg #[I p.1,I p.2]) I4 H3.drew.AX EQ4 λbd H4=>⟨iR,K (T.L.length-(j+1)) _ _ om ⟨j+1,.blk xb [I p.1,I p.2] 62::X,rfl,om,rfl,?_⟩⟩;have e1:=NY (Et [] (A.take j) (P.take j)) i p
  have e2:Et [] (A.take (j+1)) (P.take (j+1))=KAF (Et [] (A.take j) (P.take j)) i p:=by
   rw[aG om,(aA.1 hi).2,aG d,(aA.1 hp).2,SE _ _ _ _ _ (by rw[aJ,aJ];omega)]
  have e3:spV p=.agg #[I p.1,I p.2]:=rfl;rw[e2,<- e1,e3]
  exact H4.perm (by
   refine AL λff gg O l c U=>?_;simp only[c,l,O,aY,aO,aH];omega)
 rw[aV om,aV om,Z,hY]at H;refine⟨f2,nb,rfl,?_⟩
 exact Hp.BM (R:=[.own 62 2 la T.L.length T.L.length (BP P),.own 3 1 J T.L.length zc (AO (T.L.map (·.id)))]++((.own 123 5 D T.L.length ic (yK (T.L.map Ac) g)::Bo (T.L.map Ac) g)++X)) (H.perm (by
  refine AL λff gg O l c U=>?_;simp only[c,l,O,aY,aO,aH];omega))
end
end Go.Proofs.YtljenkbpnioipaaGreat
namespace Go.Nod
open Go Go.Vc
section
variable{K V:Type}
def gC(enc:V->Value)(l:List (K×V)):List (K×Value):=l.map λp=>(p.1,enc p.2)
def TA(enc:V->Value)(l:List (K×V)):(gC enc l).map (·.1)=l.map (·.1):=by
 rw[gC,dB];rfl
def um(enc:V->Value)(l:List (K×V)):(gC enc l).length=l.length:=aQ _
end
section
variable{K V:Type}[DecidableEq K]
def xP:List (K×V)->K->Option V
 | [],_=>none
 |(x,s)::r,k=>if k=x then some s else xP r k
def yR:List (K×V)->K->V->List (K×V)
 | [],k,v=>[(k,v)]
 |(x,s)::r,k,v=>if k=x then(x,v)::r else(x,s)::yR r k v
def zY:List (K×V)->K->List (K×V)
 | [],_=>[]
 |(x,s)::r,k=>if k=x then r else(x,s)::zY r k
theorem MH(enc:V->Value):∀(l:List (K×V))(k:K),xZ (gC enc l) k=(xP l k).map enc
 | [],k=>rfl
 |(x,s)::r,k=>by
  have a:=MH enc r k;rw[xP];show(if k=x then some (enc s)else xZ (gC enc r) k)=_;by_cases h:k=x
  ·rw[if_pos h,if_pos h];rfl
  rw[if_neg h,if_neg h,a]
theorem OV(enc:V->Value):∀(l:List (K×V))(k:K)(v:V),xY (gC enc l) k (enc v)=gC enc (yR l k v)
 | [],k,v=>rfl
 |(x,s)::r,k,v=>by
  have a:=OV enc r k v;rw[yR];show(if k=x then(x,enc v)::gC enc r else(x,enc s)::xY (gC enc r) k (enc v))=_;by_cases h:k=x
  ·rw[if_pos h,if_pos h];rfl
  rw[if_neg h,if_neg h,a];rfl
theorem uh(enc:V->Value):∀(l:List (K×V))(k:K),zx (gC enc l) k=gC enc (zY l k)
 | [],k=>rfl
 |(x,s)::r,k=>by
  have a:=uh enc r k;rw[zY];show(if k=x then gC enc r else(x,enc s)::zx (gC enc r) k)=_;by_cases h:k=x
  ·rw[if_pos h,if_pos h]
  rw[if_neg h,if_neg h,a];rfl
theorem EP:∀(l:List (K×V))(k x:K)(v:V),xP (yR l k v) x=if x=k then some v else xP l x
 | [],k,x,v=>rfl
 |(y,u)::r,k,x,v=>by
  have b:=EP r k x v;rw[yR];by_cases h:k=y
  ·subst h;rw[if_pos rfl,xP,xP];by_cases a:x=k<;>simp[a]
  rw[if_neg h,xP,xP,b];by_cases a:x=y
  ·subst a;rw[if_pos rfl,if_pos rfl,if_neg λe=>h e.symm]
  rw[if_neg a,if_neg a]
theorem Ie:∀(l:List (K×V))(k:K)(v:V),(yR l k v).map (·.1)=if k∈l.map (·.1)then l.map (·.1)else l.map (·.1)++[k]
 | [],k,v=>by simp[yR]
 |(y,u)::r,k,v=>by
  have b:=Ie r k v;rw[yR];by_cases h:k=y
  ·rw[if_pos h,if_pos (by rw[h];exact .head _)];rfl
  rw[if_neg h,aj,b,aj];by_cases a:k∈r.map (·.1)
  ·rw[if_pos a,if_pos (.tail _ a)]
  rw[if_neg a,if_neg λc=>(aP.1 c).elim h a];rfl
def Gn{l:List (K×V)}(h:(l.map (·.1)).Nodup)(k:K)(v:V):((yR l k v).map (·.1)).Nodup:=by
 rw[Ie];split
 ·exact h
 rename_i d;rw[bG];exact⟨h,by simp,λa f c b e=>by rw[aW]at b;subst b;exact d (e▸f)⟩
theorem CY:∀{l:List (K×V)}{k:K},xP l k=none↔k∉l.map (·.1)
 | [],k=>by simp[xP]
 |(y,u)::r,k=>by
  rw[xP,aj,aP,not_or];by_cases h:k=y
  ·rw[if_pos h];exact⟨λe=>(by cases e),λe=>(e.1 h).elim⟩
  rw[if_neg h,CY];exact⟨λe=>⟨h,e⟩,λe=>e.2⟩
def gget_key{l:List (K×V)}{k:K}{v:V}(h:xP l k=some v):k∈l.map (·.1):=
 az λa=>by rw[CY.2 a]at h;cases h
theorem NK:∀{l:List (K×V)}{k:K}{v:V},xP l k=some v->(k,v)∈l
 |(y,u)::r,k,v,h=>by
  rw[xP]at h;by_cases e:k=y
  ·subst e;rw[if_pos rfl]at h;cases h;exact .head _
  rw[if_neg e]at h;exact .tail _ (NK h)
theorem J4:∀(l:List (K×V))(k x:K),(l.map (·.1)).Nodup->xP (zY l k) x=if x=k then none else xP l x
 | [],k,x,_=>by rw[zY,xP];split<;>rfl
 |(y,u)::r,k,x,hn=>by
  rw[aj,bH]at hn;have b:=J4 r k x hn.2;rw[zY];by_cases h:k=y
  ·subst h;rw[if_pos rfl,xP];by_cases a:x=k
   ·subst a;rw[if_pos rfl];exact CY.2 hn.1
   rw[if_neg a,if_neg a]
  rw[if_neg h,xP,xP,b];by_cases a:x=y
  ·subst a;rw[if_pos rfl,if_pos rfl,if_neg λe=>h e.symm]
  rw[if_neg a,if_neg a]
theorem Lc:∀(l:List (K×V))(k:K),(zY l k).Sublist l
 | [],k=>.slnil
 |(y,u)::r,k=>by
  rw[zY];by_cases h:k=y
  ·rw[if_pos h];exact jl _ _
  rw[if_neg h];exact(Lc r k).cons_cons _
def OJ{l:List (K×V)}(h:(l.map (·.1)).Nodup)(k:K):((zY l k).map (·.1)).Nodup:=h.sublist ((Lc l k).map _)
def VK(l:List (K×V))(k:K)(v:V):(yR l k v).length<=l.length+1:=by
 have h:=congrArg List.length (Ie l k v);rw[aQ]at h;rw[h];split<;>simp
theorem Jk{l:List (K×V)}{k:K}{v:V}{p:K×V}(h:p∈yR l k v):p=(k,v)\/p∈l:=by
 induction l with
 |nil=>rw[yR,aW]at h;exact .inl h
 |cons q r a=>
  obtain⟨y,u⟩:=q;rw[yR]at h;by_cases e:k=y
  ·rw[if_pos e,aP]at h;rcases h with h|h
   ·exact .inl (by rw[h,e])
   exact .inr (.tail _ h)
  rw[if_neg e,aP]at h;rcases h with h|h
  ·exact .inr (by rw[h];exact .head _)
  rcases a h with h|h
  ·exact .inl h
  exact .inr (.tail _ h)
end
noncomputable section
open Classical
def leS(a b:BA):Bool:=decide (a.data.toList<=b.data.toList)
def Eh(l:Lj):Lj:=l.mergeSort leS
def Dq(l:Lj):(Eh l).Perm l:=gW l leS
def I8{l:Lj}(h:l.Nodup):(Eh l).Pairwise λx y=>x.data.toList<y.data.toList:=by
 have i:∀a b c:BA,leS a b=true->leS b c=true->leS a c=true:=λa b c d e=>by simp only[leS,decide_eq_true_eq]at*;exact lq d e
 have j:∀a b:BA,(leS a b||leS b a)=true:=λa b=>by simp only[leS,nz,decide_eq_true_eq];exact lu _ _
 have d:=fV i j l;have e:(Eh l).Nodup:=(Dq l).nodup_iff.2 h;refine(d.and e).imp λ⟨g,m⟩=>?_;simp only[leS,decide_eq_true_eq]at g;rcases oV.1 g with f|f
 ·exact f
 exact(m (eqB f)).elim
def Dy{l:Lj}{x:BA}:x∈Eh l↔x∈l:=(Dq l).mem_iff
def Il(l:Lj):(Eh l).length=l.length:=(Dq l).length_eq
def addN(l:Lj)(n:BA):Lj:=if n∈l then l else l++[n]
def uniq(l:Lj):Lj:=l.foldl addN []
def WO(l:Lj)(n:BA):uniq (l++[n])=addN (uniq l) n:=by rw[uniq,ig];rfl
def addN_mem{l:Lj}{n x:BA}:x∈addN l n↔x∈l\/x=n:=by
 rw[addN];split
 ·rename_i h;exact⟨.inl,λa=>a.elim id λe=>e▸h⟩
 rw[aT,aW]
def addN_nodup{l:Lj}(h:l.Nodup)(n:BA):(addN l n).Nodup:=by
 rw[addN];split
 ·exact h
 rename_i d;rw[bG];exact⟨h,by simp,λa f c b e=>by rw[aW]at b;subst b;exact d (e▸f)⟩
theorem Nw(l:Lj):∀(A:Lj),(∀x,x∈l.foldl addN A↔x∈A\/x∈l)/\(A.Nodup->(l.foldl addN A).Nodup)/\(l.foldl addN A).length<=A.length+l.length:=by
 induction l with
 |nil=>intro A;simp
 |cons n r a=>
  intro A;obtain⟨b,c,d⟩:=a (addN A n);refine⟨λx=>?_,λh=>c (addN_nodup h n),?_⟩
  ·rw[dP,b,addN_mem,aP,or_assoc]
  have:(addN A n).length<=A.length+1:=by rw[addN];split<;>simp
  rw[dP,aK];omega
def uniq_mem{l:Lj}{x:BA}:x∈uniq l↔x∈l:=by
 rw[uniq,(Nw l []).1];simp
def Ti(l:Lj):(uniq l).Nodup:=(Nw l []).2.1 .nil
def Zk(l:Lj):(uniq l).length<=l.length:=by
 have:=(Nw l []).2.2;simpa [uniq]using this
def EG(x:It):Lj:=(if x.x.kind=1 then [x.x.name]else [])++x.x.FP.map (·.1)
def FM(l:List It):Lj:=Eh (uniq (l.flatMap EG))
def NT{l:List It}{n:BA}:n∈FM l↔∃x∈l,n∈EG x:=by
 rw[FM,Dy,uniq_mem,fH]
theorem Qe:∀(al:List (BA×Value))(n:BA)(v:Value),(xY al n v).map (·.1)=addN (al.map (·.1)) n
 | [],n,v=>by simp[xY,addN]
 |(y,u)::r,n,v=>by
  have b:=Qe r n v;rw[xY];by_cases h:n=y
  ·rw[if_pos h,addN,if_pos (by rw[h];exact .head _)];rfl
  rw[if_neg h,aj,b,aj,addN,addN];by_cases a:n∈r.map (·.1)
  ·rw[if_pos a,if_pos (.tail _ a)]
  rw[if_neg a,if_neg λc=>(aP.1 c).elim h a];rfl
end
end Go.Nod
namespace Go.Proofs.YtljenkbpnioipaaGreat
noncomputable section
open Go Go.Vc Go.Nod Classical
def GX(l:Lj):Lj->Nat->Lj->Lj
 | [],_,W=>W
 |s::r,k,W=>GX l r (k+1) (if s≠none0/\s∉l then JU W k else W)
def GU:Lj->Lj->Lj×Int
 | [],W=>(W,0)
 |s::r,W=>if KAP W s then GU r W else if(KAU W s).2.2≠0 then((KAU W s).1,94)else GU r (KAU W s).1
def Io(W l:Lj):Lj×Int:=GU l (GX l W 0 W)
end
open Go Go.Vc Go.Proofs Go.RowKit Go.Maps Go.Sort Go.Shelf
def WH{w w':Wq}(h:Below w.heap.size w w'):Chg [] w w':=⟨h.os,h.tape,h.output,h.size,λk a _=>h.block k a⟩
def Xx{w w':Wq}{e:TypeId}{v:Value}{n:Nat}{xs:LV}(i:Below w.heap.size w w')(h:w'.ownsRow w.heap.size e 1 v n xs):
  ∃a c,v=.slice a n c/\Hp [] w w' [.own e 1 a n c xs]:=by
 obtain⟨j,⟨rfl,rfl⟩|⟨g,d,f,rfl,m,o,p,q,r,s⟩⟩:=h
 ·refine⟨none,0,rfl,WH i,?_,by simp[Asn.foot,x9],by simp⟩;intro a b;rw[aW]at b;subst b;exact⟨j,.inl ⟨rfl,rfl,rfl⟩⟩
 refine⟨some ⟨g,0,none⟩,d,rfl,WH i,?_,?_,by simp⟩
 ·intro a b;rw[aW]at b;subst b;exact⟨j,.inr ⟨g,f,(0,0),rfl,bZ _,o,KBc.zero _,p,q,jo r.symm,s⟩⟩
 intro a b k l;rw[aW]at b;subst b;simp[Asn.foot,x9]at l;subst l;exact .inr m
section
variable{K:Type}[DecidableEq K]{kt:KCY K}
def RR:Value->Option (DataW Unit×List MemPlace):=λ_=>some (.nil,[])
theorem Sr{P:Program}{k:TypeId}{w:Wq}{b:Nat}{al:List (K×Value)}(h:MapAt kt w b al)(t:(al.map (·.1)).Nodup)(u:al.length<=maxLen)(enc:K->Lit)(m:∀x y,kt.enc x=kt.enc y->x=y)
  (g:∀p∈al,keyOf P k (kt.enc p.1)=some (enc p.1)):
  ∃D:DataW Unit,w.ownsMap P k RR b al.length D/\Maps.size D=al.length/\∃l:List (Lit×DataW Unit),D=.map l/\l.Perm (al.map λp=>(enc p.1,DataW.nil)):=by
 obtain⟨f,d,z,j,A,B⟩:=h
 have a:f.size=al.length:=by
  have:=congrArg List.length j;simpa using this
 have n:∀x∈f.toList,∃p∈al,x.key=kt.enc p.1:=by
  intro x o;have:(x.key,x.val)∈al.map λp=>(kt.enc p.1,p.2):=j▸aU.2 ⟨x,o,rfl⟩;obtain⟨p,i,e⟩:=aU.1 this;exact⟨p,i,(congrArg Prod.fst e).symm⟩
 have c:f.toList.map (WideElems.rg P k RR)=al.map λp=>(enc p.1,DataW.nil):=by
  have q:f.toList.map (·.key)=al.map λp=>kt.enc p.1:=by
   have:=congrArg (List.map Prod.fst) j;simpa [dB,nJ]using this
  have C:∀(l:List MapEntry)(al:List (K×Value)),(∀p∈al,keyOf P k (kt.enc p.1)=some (enc p.1))->l.map (·.key)=(al.map λp=>kt.enc p.1)->l.map (WideElems.rg P k RR)=al.map λp=>(enc p.1,(DataW.nil:DataW Unit)):=by
   intro l
   induction l with
   |nil=>intro al _ h;cases al with
    |nil=>rfl
    |cons _ _=>cases h
   |cons x r F=>
    intro al g h;cases al with
    |nil=>cases h
    |cons p al=>
     simp at h⊢;refine⟨?_,F al (λp i=>g p (.tail _ i)) h.2⟩;simp only[WideElems.rg,WideElems.rd,h.1,g p (.head _)];rfl
  exact C _ _ g q
 refine⟨_,⟨f,d,z,⟨by rw[a];exact u,⟨B,A,?_⟩,?_⟩,by rw[a];exact aZ _,rfl⟩,?_,_,rfl,?_⟩
 ·have q:f.toList.map (·.key)=(al.map (·.1)).map kt.enc:=by
   have:=congrArg (List.map Prod.fst) j;simpa [dB,nJ]using this
  rw[q];exact dD.2 (t.imp λs G=>s (m _ _ G))
 ·intro x o;obtain⟨p,i,e⟩:=n x o;exact⟨(enc p.1,.nil),by simp only[WideElems.rd,e,g p i];rfl⟩
 ·rw[c];have:=(WideShapes.sorted_perm (al.map λp=>(enc p.1,(DataW.nil:DataW Unit)))).length_eq;simpa [Maps.size]using this
 rw[c];exact WideShapes.sorted_perm _
end
def Zt(m:Nat):AnyZ.SortsIn PP YP Fence.wide m:=
 ⟨λblk c a e W f b d=>callsIn_wide.2 (AnyM.slices_Sort_string YG blk c a e W f b d),
  λp a W=>callsIn_wide.2 (AnyM.slices_Sort_string_none YG p a W)⟩
def sortsI(m:Nat):AnyZI.SortsIn PP Yi Fence.wide m:=
 ⟨λblk c a e W f b d=>callsIn_wide.2 (AnyM.slices_Sort_int vT blk c a e W f b d),
  λp a W=>callsIn_wide.2 (AnyM.slices_Sort_int_none vT p a W)⟩
def keysS_spec(mb:oN)(w:Wq):CP 103 #[.map mb] w λe w'=>
  ∃q,e=Ej (.func (.func 160) #[] #[pq q])/\Hp [] w w' [.blk q [.map mb] 147]:=by
 refine Calls.mono (callsIn_wide.1 (AnyZ.keys_in vZ Fence.wide 5 trivial rfl mb w)) ?_;rintro e w' ⟨rfl,rfl⟩;exact⟨_,rfl,(Hp.start w).new ⟨rfl,rfl,rfl,rfl⟩ ⟨rfl,rfl⟩⟩
def sortedS_spec(q b:Nat)(al:List (BA×Value))(w:Wq)(G:Blk w q [.map (some b)] 147)(N:MapAt Gu w b al)(l:Lj)(B:l.Perm (al.map (·.1)))
  (J:l.Pairwise λx y=>x.data.toList<y.data.toList) (O:∀x∈l,x.size<=maxLen) (o:al.length*16<=140737488355328):
  CP 102 #[.func (.func 160) #[] #[pq q]] w λe w'=>
   ∃a c,e=Ej (.slice a l.length c)/\Hp [] w w' [.own 9 1 a l.length c (l.map .string)]:=by
 have C:(al.map (·.1)).Nodup:=B.nodup_iff.1 (J.imp λh e=>by subst e;exact kz _ h);have r:al.length<=maxLen:=by simp only[maxLen];omega
 obtain⟨D,n,i,t,rfl,R⟩:=Sr N C r (λs=>.string s.data.toList) (λx y h=>by injection h) (λp F=>WideMaps.keyOf_string_mk (by kernel_rfl) (O _ (B.mem_iff.2 (aU.2 ⟨p,F,rfl⟩))));have u:=G.lt
 have z:SeqGives Fence.wide 2 PP 160 #[pq q] encStr (λj=>j.Perm (strKeys (.map t))) (Maps.size (.map t)) w:=
  AnyZ.keys_gives (ρ:=uV) {vZ with} Fence.wide _ trivial rfl om q b al.length (.map t) w u (G.cell rfl) n
 have L:=AnyZ.sorted_in TQ Fence.wide 5 trivial trivial trivial trivial rfl om (Zt _) (enters_of Tryz.func130 (by kernel_rfl) rfl) 160 #[pq q] trivial (enters_of Tryz.func160 (by kernel_rfl) rfl) _ _ (by rw[i];exact r) (by rw[i];exact o) w z;change CallsIn _ _ PP 102 _ _ _ at L;refine Calls.mono (callsIn_wide.1 L) ?_;rintro e w' ⟨v,j,rfl,T,g,M,U⟩
 have f:j.Perm (l.map λx=>x.data.toList):=by
  refine T.trans ?_;have X:strKeys (.map t)=t.map λp=>strOf p.1:=rfl;rw[X];refine(R.map _).trans ?_;rw[dB];have Y:((λp:Lit×DataW Unit=>strOf p.1)∘λp:BA×Value=>(Lit.string p.1.data.toList,DataW.nil))=(λx:BA=>x.data.toList)∘(·.1):=rfl;rw[Y,<- dB];exact(B.symm.map _)
 have m:j.mergeSort (λx y=>decide (x<=y))=l.map λx=>x.data.toList:=by
  have Z:∀a b c:LU,decide (a<=b)=true->decide (b<=c)=true->decide (a<=c)=true:=λa b c n i=>by simp only[decide_eq_true_eq]at*;exact lq n i
  have to:∀a b:LU,(decide (a<=b)||decide (b<=a))=true:=λa b=>by simp;exact lu a b
  refine dh (le:=λa b=>decide (a<=b)=true) (λa b _ _ n i=>?_) (fV Z to j) (dD.2 (J.imp λh=>?_)) ((gW j _).trans f)
  ·simp at n i;exact lZ n i
  rw[decide_eq_true_eq];exact nS h
 have A:j.length=l.length:=by simpa using f.length_eq
 rw[m,A,dB]at g;obtain⟨a,c,rfl,H⟩:=Xx U g;refine⟨a,c,rfl,?_⟩
 have e3:(encStr∘λx:BA=>x.data.toList)=Value.string:=by
  funext x;obtain⟨d⟩:=x;simp[encStr]
 rw[e3]at H;exact H
def keysP_spec(mb:oN)(w:Wq):CP 107 #[.map mb] w λe w'=>
  ∃q,e=Ej (.func (.func 166) #[] #[pq q])/\Hp [] w w' [.blk q [.map mb] 83]:=by
 refine Calls.mono (callsIn_wide.1 (AnyZ.keys_in vV Fence.wide 5 trivial rfl mb w)) ?_;rintro e w' ⟨rfl,rfl⟩;exact⟨_,rfl,(Hp.start w).new ⟨rfl,rfl,rfl,rfl⟩ ⟨rfl,rfl⟩⟩
def sortedP_spec(q b:Nat)(al:List (BA×Value))(w:Wq)(G:Blk w q [.map (some b)] 83)(N:MapAt Gu w b al)(l:Lj)(B:l.Perm (al.map (·.1)))
  (J:l.Pairwise λx y=>x.data.toList<y.data.toList) (O:∀x∈l,x.size<=maxLen) (o:al.length*16<=140737488355328):
  CP 102 #[.func (.func 166) #[] #[pq q]] w λe w'=>
   ∃a c,e=Ej (.slice a l.length c)/\Hp [] w w' [.own 9 1 a l.length c (l.map .string)]:=by
 have C:(al.map (·.1)).Nodup:=B.nodup_iff.1 (J.imp λh e=>by subst e;exact kz _ h);have r:al.length<=maxLen:=by simp only[maxLen];omega
 obtain⟨D,n,i,t,rfl,R⟩:=Sr N C r (λs=>.string s.data.toList) (λx y h=>by injection h) (λp F=>WideMaps.keyOf_string_mk (by kernel_rfl) (O _ (B.mem_iff.2 (aU.2 ⟨p,F,rfl⟩))));have u:=G.lt
 have z:SeqGives Fence.wide 2 PP 166 #[pq q] encStr (λj=>j.Perm (strKeys (.map t))) (Maps.size (.map t)) w:=
  AnyZ.keys_gives (ρ:=wL) {vV with} Fence.wide _ trivial rfl om q b al.length (.map t) w u (G.cell rfl) n
 have L:=AnyZ.sorted_in TQ Fence.wide 5 trivial trivial trivial trivial rfl om (Zt _) (enters_of Tryz.func130 (by kernel_rfl) rfl) 166 #[pq q] trivial (enters_of Tryz.func166 (by kernel_rfl) rfl) _ _ (by rw[i];exact r) (by rw[i];exact o) w z;change CallsIn _ _ PP 102 _ _ _ at L;refine Calls.mono (callsIn_wide.1 L) ?_;rintro e w' ⟨v,j,rfl,T,g,M,U⟩
 have f:j.Perm (l.map λx=>x.data.toList):=by
  refine T.trans ?_;have X:strKeys (.map t)=t.map λp=>strOf p.1:=rfl;rw[X];refine(R.map _).trans ?_;rw[dB];have Y:((λp:Lit×DataW Unit=>strOf p.1)∘λp:BA×Value=>(Lit.string p.1.data.toList,DataW.nil))=(λx:BA=>x.data.toList)∘(·.1):=rfl;rw[Y,<- dB];exact(B.symm.map _)
 have m:j.mergeSort (λx y=>decide (x<=y))=l.map λx=>x.data.toList:=by
  have Z:∀a b c:LU,decide (a<=b)=true->decide (b<=c)=true->decide (a<=c)=true:=λa b c n i=>by simp only[decide_eq_true_eq]at*;exact lq n i
  have to:∀a b:LU,(decide (a<=b)||decide (b<=a))=true:=λa b=>by simp;exact lu a b
  refine dh (le:=λa b=>decide (a<=b)=true) (λa b _ _ n i=>?_) (fV Z to j) (dD.2 (J.imp λh=>?_)) ((gW j _).trans f)
  ·simp at n i;exact lZ n i
  rw[decide_eq_true_eq];exact nS h
 have A:j.length=l.length:=by simpa using f.length_eq
 rw[m,A,dB]at g;obtain⟨a,c,rfl,H⟩:=Xx U g;refine⟨a,c,rfl,?_⟩
 have e3:(encStr∘λx:BA=>x.data.toList)=Value.string:=by
  funext x;obtain⟨d⟩:=x;simp[encStr]
 rw[e3]at H;exact H
def keysR_spec(mb:oN)(w:Wq):CP 109 #[.map mb] w λe w'=>
  ∃q,e=Ej (.func (.func 168) #[] #[pq q])/\Hp [] w w' [.blk q [.map mb] 114]:=by
 refine Calls.mono (callsIn_wide.1 (AnyZ.keys_in vw Fence.wide 5 trivial rfl mb w)) ?_;rintro e w' ⟨rfl,rfl⟩;exact⟨_,rfl,(Hp.start w).new ⟨rfl,rfl,rfl,rfl⟩ ⟨rfl,rfl⟩⟩
def sortedR_spec(q b:Nat)(al:List (BA×Value))(w:Wq)(G:Blk w q [.map (some b)] 114)(N:MapAt Gu w b al)(l:Lj)(B:l.Perm (al.map (·.1)))
  (J:l.Pairwise λx y=>x.data.toList<y.data.toList) (O:∀x∈l,x.size<=maxLen) (o:al.length*16<=140737488355328):
  CP 102 #[.func (.func 168) #[] #[pq q]] w λe w'=>
   ∃a c,e=Ej (.slice a l.length c)/\Hp [] w w' [.own 9 1 a l.length c (l.map .string)]:=by
 have C:(al.map (·.1)).Nodup:=B.nodup_iff.1 (J.imp λh e=>by subst e;exact kz _ h);have r:al.length<=maxLen:=by simp only[maxLen];omega
 obtain⟨D,n,i,t,rfl,R⟩:=Sr N C r (λs=>.string s.data.toList) (λx y h=>by injection h) (λp F=>WideMaps.keyOf_string_mk (by kernel_rfl) (O _ (B.mem_iff.2 (aU.2 ⟨p,F,rfl⟩))));have u:=G.lt
 have z:SeqGives Fence.wide 2 PP 168 #[pq q] encStr (λj=>j.Perm (strKeys (.map t))) (Maps.size (.map t)) w:=
  AnyZ.keys_gives (ρ:=vz) {vw with} Fence.wide _ trivial rfl om q b al.length (.map t) w u (G.cell rfl) n
 have L:=AnyZ.sorted_in TQ Fence.wide 5 trivial trivial trivial trivial rfl om (Zt _) (enters_of Tryz.func130 (by kernel_rfl) rfl) 168 #[pq q] trivial (enters_of Tryz.func168 (by kernel_rfl) rfl) _ _ (by rw[i];exact r) (by rw[i];exact o) w z;change CallsIn _ _ PP 102 _ _ _ at L;refine Calls.mono (callsIn_wide.1 L) ?_;rintro e w' ⟨v,j,rfl,T,g,M,U⟩
 have f:j.Perm (l.map λx=>x.data.toList):=by
  refine T.trans ?_;have X:strKeys (.map t)=t.map λp=>strOf p.1:=rfl;rw[X];refine(R.map _).trans ?_;rw[dB];have Y:((λp:Lit×DataW Unit=>strOf p.1)∘λp:BA×Value=>(Lit.string p.1.data.toList,DataW.nil))=(λx:BA=>x.data.toList)∘(·.1):=rfl;rw[Y,<- dB];exact(B.symm.map _)
 have m:j.mergeSort (λx y=>decide (x<=y))=l.map λx=>x.data.toList:=by
  have Z:∀a b c:LU,decide (a<=b)=true->decide (b<=c)=true->decide (a<=c)=true:=λa b c n i=>by simp only[decide_eq_true_eq]at*;exact lq n i
  have to:∀a b:LU,(decide (a<=b)||decide (b<=a))=true:=λa b=>by simp;exact lu a b
  refine dh (le:=λa b=>decide (a<=b)=true) (λa b _ _ n i=>?_) (fV Z to j) (dD.2 (J.imp λh=>?_)) ((gW j _).trans f)
  ·simp at n i;exact lZ n i
  rw[decide_eq_true_eq];exact nS h
 have A:j.length=l.length:=by simpa using f.length_eq
 rw[m,A,dB]at g;obtain⟨a,c,rfl,H⟩:=Xx U g;refine⟨a,c,rfl,?_⟩
 have e3:(encStr∘λx:BA=>x.data.toList)=Value.string:=by
  funext x;obtain⟨d⟩:=x;simp[encStr]
 rw[e3]at H;exact H
def keysW_spec(mb:oN)(w:Wq):CP 129 #[.map mb] w λe w'=>
  ∃q,e=Ej (.func (.func 190) #[] #[pq q])/\Hp [] w w' [.blk q [.map mb] 125]:=by
 refine Calls.mono (callsIn_wide.1 (AnyZI.keys_in vO Fence.wide 5 trivial rfl mb w)) ?_;rintro e w' ⟨rfl,rfl⟩;exact⟨_,rfl,(Hp.start w).new ⟨rfl,rfl,rfl,rfl⟩ ⟨rfl,rfl⟩⟩
def sortedW_spec(q b:Nat)(al:List (Int×Value))(w:World)(F:Blk w q [.map (some b)] 125)(M:MapAt (Dn .i64) w b al)(l:List Int)(A:l.Perm (al.map (·.1)))
  (G:l.Pairwise λx y=>x<y) (N:∀x∈l,-9223372036854775808<=x/\x<=9223372036854775807) (j:al.length*8<=140737488355328):
  Calls Tryz.prog 128 #[.func (.func 190) #[] #[.pointer (some ⟨q,0,none⟩)]] w λe w'=>
   ∃a c,e=.returned (.slice a l.length c)/\Hp [] w w' [.own 3 1 a l.length c (l.map (.int .i64))]:=by
 have B:(al.map (·.1)).Nodup:=A.nodup_iff.1 (G.imp λh e=>by omega);have m:al.length<=maxLen:=by simp only[maxLen];omega
 obtain⟨D,z,n,o,rfl,O⟩:=Sr M B m (λs=>.int .i64 s) (λx y h=>by injection h) (λp C=>keyOf_int_mk (by kernel_rfl) (by
  have:=N _ (A.mem_iff.2 (aU.2 ⟨p,C,rfl⟩));simp only[Lit.wf,dM,decide_eq_true_eq];exact DT.2 this))
 have r:=F.lt
 have t:SeqGives Fence.wide 2 Tryz.prog 190 #[.pointer (some ⟨q,0,none⟩)] encZ (λg=>g.Perm (intKeys (.map o))) (Maps.size (.map o)) w:=
  AnyZI.keys_gives (ρ:=ut) {vO with} Fence.wide _ trivial rfl om q b al.length (.map o) w r (F.cell rfl) z
 have J:=AnyZI.sorted_in sortedIL Fence.wide 5 trivial trivial trivial trivial rfl om (sortsI _) (enters_of Tryz.func189 (by kernel_rfl) rfl) 190 #[.pointer (some ⟨q,0,none⟩)] trivial (enters_of Tryz.func190 (by kernel_rfl) rfl) _ _ (by rw[n];exact m) (by rw[n];exact j) w t;change CallsIn _ _ Tryz.prog 128 _ _ _ at J;refine Calls.mono (callsIn_wide.1 J) ?_;rintro e w' ⟨v,g,rfl,R,f,L,T⟩
 have d:g.Perm l:=by
  refine R.trans ?_;have U:intKeys (.map o)=o.map λp=>Go.intOf p.1:=rfl;rw[U];refine(O.map _).trans ?_;rw[dB];have X:((λp:Lit×DataW Unit=>Go.intOf p.1)∘λp:Int×Value=>(Lit.int IntKind.i64 p.1,DataW.nil))=(·.1):=rfl;rw[X];exact A.symm
 have i:g.mergeSort (λx y=>decide (x<=y))=l:=by
  have Y:∀a b c:Int,decide (a<=b)=true->decide (b<=c)=true->decide (a<=c)=true:=λa b c z n=>by simp only[decide_eq_true_eq]at*;omega
  have Z:∀a b:Int,(decide (a<=b)||decide (b<=a))=true:=λa b=>by simp;omega
  refine dh (le:=λa b=>decide (a<=b)=true) (λa b _ _ z n=>?_) (fV Y Z g) (G.imp λh=>?_) ((gW g _).trans d)
  ·simp at z n;omega
  rw[decide_eq_true_eq];omega
 have u:g.length=l.length:=d.length_eq;rw[i,u]at f;obtain⟨a,c,rfl,H⟩:=Xx T f;exact⟨a,c,rfl,H⟩
end Go.Proofs.YtljenkbpnioipaaGreat
namespace Go.Proofs.YtljenkbpnioipaaGreat.Sl
open Go Go.Vc
def yF:Scl PP 3:=BQ (by kernel_rfl)
def KEE:Scl PP 5:=BQ (by kernel_rfl)
def Ez:Scl PP 95:=BQ (by kernel_rfl)
def IM:Scl PP 59:=BQ (by kernel_rfl)
def uq:Agg PP 162 4098:=DN (by kernel_rfl)
structure Pg where
 st:LU
 hdr:Nat
 dir:List (Nat×Nat)
 data:LU
 many:Nat
 low:Nat
def zy(d:List (Nat×Nat)):LU:=d.flatMap λp=>be p.1 2++be p.2 2
def Pg.bs(g:Pg):LU:=g.st++(be g.hdr 2++(zy g.dir++g.data))
def Pg.cells(g:Pg):LV:=Ae g.bs++[I (g.many:Int),I (g.low:Int)]
structure Pg.Ok(g:Pg):Prop where
 st:g.st.length=8
 hdr:g.hdr<65536
 dir:g.dir.length=120
 data:g.data.length=3606
 many:g.many<=120
 ent:∀p∈g.dir,p.1<65536/\p.2<65536
 low:g.low<=4096
def pgA(b:Nat)(g:Pg):Asn:=.blk b g.cells 162
theorem KA(d:List (Nat×Nat)):(zy d).length=4*d.length:=by
 induction d with
 |nil=>rfl
 |cons p r a=>
  simp only[zy,bW,aF,AU,aK]at a⊢;omega
def MN(x y:List (Nat×Nat)):zy (x++y)=zy x++zy y:=by simp[zy]
def QN(p:Nat×Nat)(r:List (Nat×Nat)):zy (p::r)=be p.1 2++be p.2 2++zy r:=by simp[zy]
def XA{d:List (Nat×Nat)}{k:Nat}(h:k<d.length):d=d.take k++d[k]::d.drop (k+1):=by
 rw[<- bM h,bY]
def Pg.Ok.len{g:Pg}(h:g.Ok):g.bs.length=4096:=by
 simp only[Pg.bs,aF,AU,KA,h.st,h.dir,h.data]
def Pg.Ok.KBo{g:Pg}(h:g.Ok):g.cells.length=4098:=by
 simp only[Pg.cells,aF,Ah,h.len,aK,dK]
def Pg.Ok.byte{g:Pg}(h:g.Ok){i:Nat}(a:i<4096):g.cells[i]? =some (iU ((g.bs[i]'(by rw[h.len];exact a)).toNat:Int)):=by
 rw[Pg.cells,bQ (by rw[Ah,h.len];exact a)];simp[Ae,aB (show i<g.bs.length by rw[h.len];exact a)]
def Pg.Ok.manyC{g:Pg}(h:g.Ok):g.cells[4096]? =some (I (g.many:Int)):=by
 rw[Pg.cells,bg (by rw[Ah,h.len];exact aZ _),Ah,h.len];rfl
def Pg.Ok.lowC{g:Pg}(h:g.Ok):g.cells[4097]? =some (I (g.low:Int)):=by
 rw[Pg.cells,bg (by rw[Ah,h.len];omega),Ah,h.len];rfl
def Pg.Ok.entry{g:Pg}(h:g.Ok){k:Nat}(a:k<120):(g.bs.drop (10+4*k)).take 4=be (g.dir[k]'(by rw[h.dir];exact a)).1 2++be (g.dir[k]'(by rw[h.dir];exact a)).2 2:=by
 have b:k<g.dir.length:=by rw[h.dir];exact a
 have e:g.bs=(g.st++be g.hdr 2++zy (g.dir.take k))++((be g.dir[k].1 2++be g.dir[k].2 2)++(zy (g.dir.drop (k+1))++g.data)):=by
  conv=>lhs;rw[Pg.bs,XA b]
  rw[MN,QN];simp
 have c:(g.st++be g.hdr 2++zy (g.dir.take k)).length=10+4*k:=by
  simp only[aF,AU,KA,aJ,h.st];omega
 rw[e,drop_left _ _ _ c];exact take_left _ _ 4 (by simp[AU])
def take2{l:LU}{i:Nat}(h:i+1<l.length):(l.drop i).take 2=[l[i],l[i+1]]:=by
 rw[bM om,bM om];rfl
def valN_two(x y:UInt8):yM [x,y]=x.toNat*256+y.toNat:=by simp[yM]
def Pg.Ok.ent1{g:Pg}(h:g.Ok){k:Nat}(a:k<120):yM ((g.bs.drop (10+4*k)).take 2)=(g.dir[k]'(by rw[h.dir];exact a)).1:=by
 have e:=h.entry a;have b:=h.ent _ (eY (show k<g.dir.length by rw[h.dir];exact a));have:(g.bs.drop (10+4*k)).take 2=((g.bs.drop (10+4*k)).take 4).take 2:=by rw[jE];rfl
 rw[this,e,take_left _ _ 2 (AU _ _)];have:=Ec (n:=((g.dir[k]'(by rw[h.dir];exact a)).1:Int)) (k:=2) om om;omega
def Pg.Ok.ent2{g:Pg}(h:g.Ok){k:Nat}(a:k<120):yM ((g.bs.drop (10+4*k+2)).take 2)=(g.dir[k]'(by rw[h.dir];exact a)).2:=by
 have e:=h.entry a;have b:=h.ent _ (eY (show k<g.dir.length by rw[h.dir];exact a));have:(g.bs.drop (10+4*k+2)).take 2=((g.bs.drop (10+4*k)).take 4).drop 2:=by rw[gu,dS]
 rw[this,e,drop_left _ _ 2 (AU _ _)];have:=Ec (n:=((g.dir[k]'(by rw[h.dir];exact a)).2:Int)) (k:=2) om om;omega
def zf(w:Wq)(b:Nat)(g:Pg):Prop:=g.Ok/\Blk w b g.cells 162
def zf.chg{w w':Wq}{b:Nat}{g:Pg}{S:Nq}(h:zf w b g)(a:Chg S w w')(c:b∉S):zf w' b g:=⟨h.1,h.2.chg a c⟩
def zf.ldB{w:Wq}{b:Nat}{g:Pg}(h:zf w b g){i:Nat}(a:i<4096):Ld PP 5 w ⟨b,i,none⟩ (iU ((g.bs[i]'(by rw[h.1.len];exact a)).toNat:Int)):=h.2.ld KEE.agg (h.1.byte a)
def zf.JB{w:Wq}{b:Nat}{g:Pg}(h:zf w b g):Ld PP 3 w ⟨b,4096,none⟩ (I (g.many:Int)):=h.2.ld yF.agg h.1.manyC
def zf.SB{w:Wq}{b:Nat}{g:Pg}(h:zf w b g):Ld PP 3 w ⟨b,4097,none⟩ (I (g.low:Int)):=h.2.ld yF.agg h.1.lowC
def zW(b i:Nat):(⟨b,0,none⟩:Addr).add i=⟨b,i,none⟩:=by rw[add_lit,cZ]
def Vg(b:Nat)(g:Pg)(i:Nat)(l:i+1<4096)(w:Wq)(h:zf w b g):
  CP 146 #[pq b,I (i:Int)] w λe w'=>e=Ej (I (yM ((g.bs.drop i).take 2):Int))/\Hp [] w w' []:=by
 apply Je7;have H:=(Hp.start w).drew;have a:=h.chg H.chg (by simp);have m:=h.1.len;have c:Int.toNat (i:Int)*1=i:=om;have d:Int.toNat ((i:Int)+1)*1=i+1:=om;refine AA rfl ⟨⟨om,om⟩,_,by rw[c,zW];exact a.ldB om,om,?_⟩;have n:=(g.bs[i]' om).toNat_lt;have f:=(g.bs[i+1]' om).toNat_lt;rw[wrapByte];have j:(2:Int)^min (Int.toNat 8) (IntKind.bits .i64)=256:=by decide
 refine⟨DT.2 (by rw[j];omega),iR,AA rfl ⟨⟨om,om⟩,_,by rw[d,zW];exact a.ldB om,?_,H⟩⟩;rw[YM _ _ om f,take2 om,valN_two]
def Js(b:Nat)(g:Pg)(k:Int)(w:Wq)(h:zf w b g):
  CP 86 #[pq b,I k] w λe w'=>e=Ej (.tuple #[I (if 0<=k/\k<g.many then((g.dir.getD k.toNat (0,0)).1:Int)else 0),I (if 0<=k/\k<g.many then((g.dir.getD k.toNat (0,0)).2:Int)else 0)])/\Hp [] w w' []:=by
 apply Je3;have H:=Hp.start w;have m:=h.1.many;refine AB (λd=>?_) (λd=>AA rfl ⟨_,by rw[zW];exact h.JB,AB (λf=>?_) (λf=>?_)⟩)
 ·rw[if_neg om,if_neg om];exact⟨rfl,H⟩
 ·rw[if_neg om,if_neg om];exact⟨rfl,H⟩
 obtain⟨K,rfl⟩:∃K:Nat,k=K:=⟨k.toNat,om⟩;have c:K<120:=om;rw[if_pos om,if_pos om];have i:(10:Int)+4*(K:Int)=((10+4*K:Nat):Int):=om;have j:((10+4*K:Nat):Int)+2=((10+4*K+2:Nat):Int):=om;rw[i,j];refine⟨iR,iR,AC (Vg b g _ om _ h) ?_⟩
 (rintro _ _ ⟨rfl,a⟩;(first|replace H:=H.xN a|replace H:=H.drew.xN a|replace H:=H.drew.drew.xN a);clear a;refine⟨_,rfl,?_⟩)
 refine⟨iR,iR,iR,AC (Vg b g _ om _ (h.chg H.chg (by simp))) ?_⟩
 (rintro _ _ ⟨rfl,a⟩;(first|replace H:=H.xN a|replace H:=H.drew.xN a|replace H:=H.drew.drew.xN a);clear a;refine⟨_,rfl,?_⟩)
 have l:K<g.dir.length:=by rw[h.1.dir];exact c
 rw[h.1.ent1 c,h.1.ent2 c];simp only[aN,dH,aB l,fG];exact⟨trivial,H⟩
def Oh(l:LU)(i:Nat)(x:UInt8):(Ae l).set i (iU (x.toNat:Int))=Ae (l.set i x):=by simp[Ae,qE]
def Pg.cells_set{g:Pg}(h:g.Ok){i:Nat}(a:i<4096)(x:UInt8):g.cells.set i (iU (x.toNat:Int))=Ae (g.bs.set i x)++[I (g.many:Int),I (g.low:Int)]:=by
 rw[Pg.cells,jU,if_pos (by rw[Ah,h.len];exact a),Oh]
theorem set2(l:LU)(a x c:LU)(p q:UInt8)(b:x.length=2)(i:Nat)(d:i=a.length)(e:l=a++(x++c)):(l.set i p).set (i+1) q=a++([p,q]++c):=by
 subst e d
 match x,b with
 | [x1,x2],_=>
  rw[jU,if_neg om,iL];rw[jU,if_neg om,show a.length+1-a.length=1 by omega];rfl
def be2(n:Nat):be (n:Int) 2=[bt n 1,bt n 0]:=rfl
def lay_bytes(n:Nat):IntKind.u8.wrap (Int.fdiv (n:Int) (2^min (Int.toNat 8) (IntKind.bits .i64)))=((bt n 1).toNat:Int)/\IntKind.u8.wrap (n:Int)=((bt n 0).toNat:Int):=by
 have a:=PO (n:Int) 1 om 1 rfl;have b:=PO (n:Int) 0 om 0 rfl;refine⟨a,?_⟩;rw[<- b];simp
def Jy(b:Nat)(g d:Pg)(a x c:LU)(i n:Nat)(o:x.length=2)(p:a.length=i)(y:i+1<4096)(q:g.bs=a++(x++c))(f:d.bs=a++(be (n:Int) 2++c))(j:d.many=g.many)(l:d.low=g.low)(w:Wq)(h:zf w b g):
  CP 172 #[pq b,I (i:Int),I (n:Int)] w λe w'=>e=Ej (.tuple #[])/\Hp [b] w w' [pgA b d]:=by
 apply Jb3;have H:Hp [b] w w [pgA b g]:=Hp.II (a:=pgA b g) h.2;replace H:=H.drew;have m:=h.1.KBo;obtain⟨r,s⟩:=lay_bytes n;have t:Int.toNat (i:Int)*1=i:=om;have u:Int.toNat ((i:Int)+1)*1=i+1:=om;refine⟨iR,om,AA rfl ⟨⟨om,om⟩,AA rfl ?_⟩⟩;rw[t,u,zW,zW,r,s];refine Hp.st H EQ4 KEE rfl rfl (by rw[m];omega) rfl ?_;intro z H;rw[Pg.cells_set h.1 om]at H;refine⟨⟨om,om⟩,Hp.st H EQ4 KEE rfl rfl (by rw[aF,Ah,bU,h.1.len];simp;omega) rfl ?_⟩;intro A H;rw[jU,if_pos (by rw[Ah,bU,h.1.len];omega),Oh,set2 g.bs a x c _ _ o i p.symm q,<- be2,<- f,<- j,<- l,<- Pg.cells]at H;exact⟨rfl,H⟩
def Pg.uo{g:Pg}(h:g.Ok){k:Nat}(b:k<120)(p q:Nat):({g with dir:=g.dir.set k (p,q)}:Pg).bs=(g.st++be g.hdr 2++zy (g.dir.take k))++(be p 2++(be q 2++(zy (g.dir.drop (k+1))++g.data))):=by
 have a:k<g.dir.length:=by rw[h.dir];exact b
 have e:g.dir.set k (p,q)=g.dir.take k++(p,q)::g.dir.drop (k+1):=by
  rw[ku,if_pos a]
 simp only[Pg.bs,e,MN,QN,ax]
def KAB(g:Pg)(k at_ long:Nat):Pg:= {g with dir:=g.dir.set k (at_,long)}
def sW{g:Pg}(h:g.Ok){k at_ a:Nat}(c:at_<65536)(d:a<65536):(KAB g k at_ a).Ok:=
 ⟨h.st,h.hdr,by simp[KAB,h.dir],h.data,h.many,λp b=>by
  rcases gG b with b|rfl
  ·exact h.ent p b
  exact⟨c,d⟩,h.low⟩
def Oz(b:Nat)(g:Pg)(k at_ a:Nat)(l:k<120)(o:at_<65536)(r:a<65536)(w:Wq)(h:zf w b g):
  CP 171 #[pq b,I (k:Int),I (at_:Int),I (a:Int)] w λe w'=>e=Ej (.tuple #[])/\(KAB g k at_ a).Ok/\Hp [b] w w' [pgA b (KAB g k at_ a)]:=by
 apply Je2;have d:k<g.dir.length:=by rw[h.1.dir];exact l
 have s:(10:Int)+4*(k:Int)=((10+4*k:Nat):Int):=om;have t:((10+4*k:Nat):Int)+2=((10+4*k+2:Nat):Int):=om;rw[s,t]
 have p:(g.st++be g.hdr 2++zy (g.dir.take k)).length=10+4*k:=by
  simp only[aF,AU,KA,aJ,h.1.st];omega
 have c:g.bs=(g.st++be g.hdr 2++zy (g.dir.take k))++(be g.dir[k].1 2++(be g.dir[k].2 2++(zy (g.dir.drop (k+1))++g.data))):=by
  conv=>lhs;rw[Pg.bs,XA d]
  rw[MN,QN];simp
 have f:=h.1.ent _ (eY d);refine⟨iR,iR,AC (Jy b g (KAB g k at_ g.dir[k].2) _ _ _ _ at_ (AU _ 2) p om c (Pg.uo h.1 l _ _) rfl rfl w h) ?_⟩;rintro e q ⟨rfl,H⟩;have m:=sW (k:=k) h.1 o f.2;have u:zf q b (KAB g k at_ g.dir[k].2):=⟨m,H.ok _ (.head _)⟩;refine⟨rfl,iR,iR,iR,?_⟩;have n:(g.st++be g.hdr 2++zy (g.dir.take k)++be (at_:Int) 2).length=10+4*k+2:=by rw[aF,p,AU]
 have i:=Pg.uo h.1 l at_ g.dir[k].2
 have j:=Pg.uo h.1 l at_ a
 rw[<- ax]at i j;refine AC (Jy b _ (KAB g k at_ a) _ _ _ _ a (AU _ 2) n om i j rfl rfl q u) ?_;rintro e y ⟨rfl,x⟩;exact⟨rfl,rfl,sW h.1 o r,H.Bg x⟩
def yA(g:Pg)(k:Nat):Nat:=(g.dir.getD k (0,0)).1
def lenOf(g:Pg)(k:Nat):Nat:=(g.dir.getD k (0,0)).2
theorem Pg.Ok.atB{g:Pg}(h:g.Ok)(k:Nat):yA g k<65536/\lenOf g k<65536:=by
 simp only[yA,lenOf,dH];cases hk:g.dir[k]? with
 |none=>simp
 |some p=>exact h.ent p (aC hk)
def TI(b:Nat)(g:Pg)(k:Nat)(a:k<g.many)(w:Wq)(h:zf w b g):
  CP 86 #[pq b,I (k:Int)] w λe w'=>e=Ej (.tuple #[I (yA g k:Int),I (lenOf g k:Int)])/\Hp [] w w' []:=by
 refine Calls.mono (Js b g k w h) ?_;rintro e w' ⟨rfl,H⟩;rw[if_pos om,if_pos om];exact⟨rfl,H⟩
def each_spec(b:Nat)(q:Value)(N:Nat)(I:Nat->World->Prop)(J:World->Prop)(w:World)(r:I 0 w)(l:∃g,zf w b g/\g.many=N)
  (t:∀k w,k<N->I k w->∃g,zf w b g/\g.many=N/\∀w',Hp [] w w' []->(yA g k=0->I (k+1) w')/\(0<yA g k->zC Tryz.prog q [.int .i64 (k:Int)] w' λe d=>(e=.returned (.bool true)/\I (k+1) d)\/(e=.returned (.bool false)/\J d))):
  Calls Tryz.prog 85 #[.pointer (some ⟨b,0,none⟩),q] w λe w'=>e=.returned (.tuple #[])/\(I N w'\/J w'):=by
 apply Jaf;obtain⟨B,f,i⟩:=l;have C:N<=120:=by rw[<- i];exact f.1.many
 refine AA rfl ⟨_,by rw[zW];exact f.JB,?_⟩;rw[i];refine xI.mk (λm s w'=>∃k:Nat,m=N-k/\s=(k:Int)/\k<=N/\I k w') N ⟨0,rfl,rfl,bZ _,r⟩ ?_;rintro m s w' next ⟨k,rfl,rfl,D,j⟩ a
 refine AB (λh=>?_) (λh=>?_)
 ·obtain⟨g,u,x,c⟩:=t k w' om j;refine AC (TI b g k om _ u) ?_;rintro e y ⟨rfl,H⟩;obtain⟨n,o⟩:=c y H;refine⟨_,_,rfl,AB (λz=>?_) (λz=>?_)⟩
  ·refine uK (o om) ?_;rintro e F (⟨rfl,p⟩|⟨rfl,A⟩)
   ·exact⟨_,rfl,Es (λh=>by cases h) λ_=>⟨iR,a (N-(k+1)) _ _ om ⟨k+1,rfl,by simp,om,p⟩⟩⟩
   exact⟨_,rfl,Es (λ_=>⟨rfl,.inr A⟩) λh=>by cases h⟩
  exact⟨iR,a (N-(k+1)) _ _ om ⟨k+1,rfl,by simp,om,n om⟩⟩
 have:k=N:=om;subst this;exact⟨rfl,.inl j⟩
def F8{B:Nq}{w0 w:Wq}{L R:List Asn}{x:Asn}(H:Hp B w0 w (L++x::R)):Hp B w0 w (x::(L++R)):=H.perm bP
def front_mid{B:Nq}{w0 w:Wq}{L R:List Asn}{x:Asn}(H:Hp B w0 w (x::(L++R))):Hp B w0 w (L++x::R):=H.perm bP.symm
def VI{B:Nq}{w0 w:Wq}{L R:List Asn}{l:Nat}{o o':Obj}(H:Hp B w0 w (L++yE l o::R)):Hp B w0 (w.putObj l o') (L++yE l o'::R):=front_mid (F8 H).KBh
def KX{σ ρ:Type}{d:Int->Wq->(Wq->(Wq->Prop)->Prop)->(Wq->Prop)->(Wq->Prop)->(Nat->Wq->Prop)->Prop}{Z Qr:Nat->Wq->Prop}{Qx:Nat->Nat->Wq->Prop}{B:Nq}{w0 w:Wq}
  (b N:Nat) (G:Nat->σ->Pg) (Lk:Nat->σ->List Asn) (a:Nat->σ->Prop) (J:ρ->List Asn) (f:ρ->Prop) (o:σ) (t:a 0 o) (H:Hp B w0 w (Lk 0 o))
  (u:∀k x w' T,a k x->Hp B w0 w' (Lk k x++T)->zf w' b (G k x)/\(G k x).many=N)
  (j:∀k x,k<N->a k x->yA (G k x) k=0->∃x',a (k+1) x'/\Lk (k+1) x'=Lk k x)
  (i:∀k x,k<N->a k x->0<yA (G k x) k->∀(w':Wq)(T0 K:List Asn)(g:Wq->(Wq->Prop)->Prop)(kn kr:WP)(kx:Nat->Wq->Prop),Hp B w0 w' (Lk k x++T0)->
   (∀L:Wq->Prop,(∀p,Hp B w0 p (Lk k x++K)->L p)->g w' L)->(∀m x',a (k+1) x'->Hp B w0 m (Lk (k+1) x'++K)->kn m)->(∀m y,f y->Hp B w0 m (J y++K)->kr m)->d (k:Int) w' g kn kr kx)
  (z:∀x D w',a N x->Hp B w0 w' (Lk N x++[yE D (.deferred (some []))])->Z D w')
  (A:∀y D w',f y->Hp B w0 w' (J y++[yE D (.deferred (some []))])->Qr D w'):
  KAA PP 85 [pq b] [] (λs:Int=>[I s]) d w Z Qr Qx:=by
 refine⟨λD l wa M h hD hl hy=>?_⟩
 have H2:Hp B w0 M (Lk 0 o++[yE l (h .ready none),yE D (.deferred (some []))]):=by
  have h1:=H.KED ⟨rfl,rfl,rfl,rfl⟩ hD;have h2:=h1.KED ⟨rfl,rfl,rfl,rfl⟩ hl;refine h2.perm ?_;exact(dU (l₁:=[yE l (h .ready none),yE D (.deferred (some []))]) (l₂:=Lk 0 o))
 refine AC (each_spec b _ N (λk w'=>∃x,a k x/\Hp B w0 w' (Lk k x++[yE l (h .ready none),yE D (.deferred (some []))])) (λw'=>∃y,f y/\Hp B w0 w' (J y++[yE l (h .done (some .ret)),yE D (.deferred (some []))])) M ⟨o,t,H2⟩ ⟨_,u 0 o M _ t H2⟩ ?_) ?_
 ·rintro k w' hk ⟨x,C,q⟩;obtain⟨O,R⟩:=u k x w' _ C q;refine⟨_,O,R,λp Hw=>⟨λU=>?_,λU=>?_⟩⟩
  ·obtain⟨x',n,he⟩:=j k x hk C U;exact⟨x',n,by rw[he];exact q.xN Hw⟩
  have r:=q.xN Hw;have c:=(F8 r).obj (.head _);refine hy (k:Int) p _ (i k x hk C U p _ [yE l (h .busy none),yE D (.deferred (some []))] _ _ _ _ r ?_ ?_ ?_) c
  ·intro L X;exact⟨c,X _ (VI r)⟩
  ·intro m x' n F;exact⟨(F8 F).obj (.head _),.inl ⟨rfl,x',n,VI F⟩⟩
  intro m y Y F;exact⟨(F8 F).obj (.head _),.inr ⟨rfl,y,Y,VI F⟩⟩
 rintro e p ⟨rfl,⟨x,C,q⟩|⟨y,Y,r⟩⟩
 ·exact⟨_,rfl,.inl ⟨(F8 q).obj (.head _),z x D _ C (F8 q).KBh.drop⟩⟩
 exact⟨_,rfl,.inr (.inl ⟨(F8 r).obj (.head _),A y D _ Y (F8 r).KBh.drop⟩)⟩
def live(g:Pg)(k:Nat):Nq:=(List.range k).filter λj=>decide (0<yA g j)
def Jq(g:Pg)(k:Nat):live g (k+1)=if 0<yA g k then live g k++[k]else live g k:=by
 simp only[live,gQ,iC];split<;>rename_i h<;>simp[h]
def TT(g:Pg)(k:Nat):(live g k).length<=k:=by
 have:=jR (λj=>decide (0<yA g j)) (List.range k)
 rwa [fZ]at this
def KCb(l:Nq):LV:=l.map λ(k:Nat)=>I (k:Int)
def ry:Elt PP 59 3 1 8:=DU (by kernel_rfl)
def sU:PP.underlying 59=some (.slice 3):=by kernel_rfl
def slots_spec(b:Nat)(g:Pg)(w:Wq)(h:zf w b g):
  CP 47 #[pq b] w λe w'=>∃a c,e=Ej (.slice a (live g g.many).length c)/\Hp [] w w' [.own 3 1 a (live g g.many).length c (KCb (live g g.many))]:=by
 apply Je4;have H:=Hp.start w;have l:maxLen=9223372036854775807:=by simp[maxLen]
 have z:=h.1.many
 (intro _ _ d;replace H:=H.nw d;clear d)
 rename_i n _;refine⟨_,_,_,rfl,⟨_,_,Tryz.func85,rfl⟩,?_⟩
 refine KX b g.many (λ_ _=>g) (λk (x:OA×Nat)=>[.own 3 1 x.1 (live g k).length x.2 (KCb (live g k)),.blk n [.slice x.1 (live g k).length x.2] 59]) (λ_ _=>True) (λ_:Unit=>[]) (λ_=>False) (none,0) trivial (by simpa [live,KCb]using H.yS 3 1)
  (λk x w' T _ H=>⟨h.chg H.chg (by simp),rfl⟩) (λk x o _ m=>⟨x,trivial,by rw[Jq,if_neg om]⟩) ?_ ?_ (λy D w' p _=>p.elim)
 ·clear H;intro k x o _ m w' A B i C F G _ f j _;refine f _ λJ H=>?_;simp at H;have q:=TT g k
  (refine⟨_,_,_,H.lo IM,?_⟩;intro _ _ d;replace H:=H.nw d;clear d)
  refine Hp.app ry om H.AX EQ4 (Blk.src sU (H.blk (.head _)) rfl rfl) om om ?_;intro r s K H
  (refine H.BF.sx IM ?_;clear H;intro _ H;(try simp only[over,bz,bu]at H))
  have e:live g (k+1)=live g k++[k]:=by rw[Jq,if_pos m]
  refine j _ (r,s) trivial ?_;have t:(live g (k+1)).length=(live g k).length+1:=by rw[e];simp
  have u:KCb (live g (k+1))=KCb (live g k)++[I (k:Int)]:=by rw[e];simp[KCb]
  rw[t,u];exact H.KDJ.AX
 clear H;intro x D w' _ H;simp at H
 (refine⟨_,_,_,H.lo IM,?_⟩)
 refine Hp.shut H.BF λL H=>?_;exact⟨x.1,x.2,rfl,H.Nb⟩
def total(g:Pg)(k:Nat):Nat:=((live g k).map (lenOf g)).sum
def OD(g:Pg)(k:Nat):total g (k+1)=if 0<yA g k then total g k+lenOf g k else total g k:=by
 simp only[total,Jq];split<;>simp
theorem total_le{g:Pg}(h:g.Ok)(k:Nat):total g k<=65535*k:=by
 induction k with
 |zero=>exact jo rfl
 |succ k a=>
  rw[OD,Nat.mul_succ];have:=(h.atB k).2;generalize 65535*k=y at a⊢;split<;>omega
def room_spec(b:Nat)(g:Pg)(w:Wq)(h:zf w b g):
  CP 169 #[pq b] w λe w'=>e=Ej (I (3600-(total g g.many:Int)))/\Hp [] w w' []:=by
 apply Jec;have H:=Hp.start w;have p:=h.1.many
 (intro _ _ a;replace H:=H.nw a;clear a;intro _ _ a;replace H:=H.nw a;clear a;refine H.sx yF ?_;clear H;intro _ H;(try simp only[over,bz,bu]at H);refine⟨_,H.lo Ez,?_⟩)
 rename_i l _ m _ _;refine⟨_,_,_,rfl,⟨_,_,Tryz.func85,rfl⟩,?_⟩
 refine KX b g.many (λ_ _=>g) (λk (_:Unit)=>[.blk m [I (3600-(total g k:Int))] 3,.blk l [pq b] 95]) (λ_ _=>True) (λ_:Unit=>[]) (λ_=>False) () trivial (by simpa [total,live]using H)
  (λk x w' T _ H=>⟨h.chg H.chg (by simp),rfl⟩) (λk x i _ j=>⟨x,trivial,by rw[OD,if_neg om]⟩) ?_ ?_ (λy D w' n _=>n.elim)
 ·clear H;intro k x i _ j w' q r d s t u _ c f _;refine c _ λz H=>?_;simp at H;have A:=(h.1.atB k).2;have B:=total_le h.1 k
  (refine⟨_,H.lo Ez,?_⟩)
  refine AC (TI b g k i _ (h.chg H.chg (by simp))) ?_;rintro e C ⟨rfl,o⟩;replace H:=H.xN o;refine⟨_,_,rfl,?_⟩
  (refine⟨_,H.lo yF,?_⟩)
  refine⟨iR,?_⟩
  (refine H.sx yF ?_;clear H;intro _ H;(try simp only[over,bz,bu]at H))
  refine f _ () trivial ?_;have e:(3600:Int)-(total g (k+1):Int)=3600-(total g k:Int)-(lenOf g k:Int):=by rw[OD,if_pos j];omega
  rw[e];exact H
 clear H;intro x D w' _ H;simp at H
 (refine⟨_,H.lo yF,?_⟩)
 refine Hp.shut H.BF λF H=>?_;exact⟨rfl,H.done⟩
def ZJ:PP.underlying 159=some (.slice 5):=by kernel_rfl
def KEW:PP.underlying 5=some (.int .u8):=by kernel_rfl
def KCf:PP.underlying 9=some .string:=by kernel_rfl
def zf.cellsB{w:Wq}{b:Nat}{g:Pg}(h:zf w b g)(i:Nat)(n:Nat)(e:i+n<=4096):Cells w (slA (Pq b) 4096 i 1) (Ae ((g.bs.drop i).take n)):=by
 intro j v a;have f:=h.1.len
 have c:j<n:=by
  have:=(aA.1 a).1;rw[Ah,aJ,bf]at this;omega
 have d:v=iU ((g.bs[i+j]' om).toNat:Int):=by
  simp only[Ae,au,fO,dm,if_pos c,aB (show i+j<g.bs.length by omega),dG,Option.some.injEq]at a;exact a.symm
 subst d;unfold slA;rw[if_neg om];refine⟨_,rfl,?_⟩;rw[bV,add_add,zW];exact h.2.cell (h.1.byte om)
def KEn(g:Pg)(k:Nat):LU:=(g.bs.drop (yA g k)).take (lenOf g k)
def get_spec(b:Nat)(g:Pg)(k:Int)(w:Wq)(h:zf w b g)(a:∀j,j<g.many->yA g j+lenOf g j<=4096):
  CP 48 #[pq b,I k] w λe w'=>e=Ej (if 0<=k/\k<g.many/\0<yA g k.toNat then .tuple #[sv (KEn g k.toNat),.bool true]else .tuple #[sv [],.bool false])/\Hp [] w w' []:=by
 apply Jbj;have H:=Hp.start w;refine AC (Js b g k w h) ?_;rintro e f ⟨rfl,i⟩;replace H:=H.xN i;refine⟨_,_,rfl,?_⟩;by_cases c:0<=k/\k<g.many
 ·rw[if_pos c,if_pos c];obtain⟨K,rfl⟩:∃K:Nat,k=K:=⟨k.toNat,om⟩;have l:K<g.many:=om;have m:=a K l;rw[aN];show br (decide ((yA g K:Int)=0)) _ _;refine AB (λn=>?_) (λn=>AA rfl ?_)
  ·rw[if_neg om];exact⟨rfl,H⟩
  rw[if_pos ⟨om,om,om⟩];have o:Int.toNat (yA g K:Int)=yA g K:=om;have p:Int.toNat ((yA g K:Int)+(lenOf g K:Int))=yA g K+lenOf g K:=om;show gB ((yA g K:Int)+(lenOf g K:Int))/\_;refine⟨iR,⟨om,om,by show(yA g K:Int)+(lenOf g K:Int)<=4096;omega⟩,⟨(KEn g K).toArray⟩,?_,rfl,H⟩;show B2S PP 159 9 f (.slice (slA (Pq b) 4096 (Int.toNat (yA g K:Int)) 1) (Int.toNat ((yA g K:Int)+(lenOf g K:Int))-Int.toNat (yA g K:Int)) _) _;rw[o,p];have q:=h.1.len;exact b2s ZJ KEW KCf (by rw[DF];exact(h.chg H.chg (by simp)).cellsB _ _ m) (by simp[ByteArray.size,KEn];omega)
 rw[if_neg c,if_neg c,if_neg (λd=>c ⟨d.1,d.2.1⟩)];exact AB (λ_=>⟨rfl,H⟩) (λh=>absurd rfl h)
abbrev xR:=List (Nat×LU)
def tot(L:xR):Nat:=(L.map (·.2.length)).sum
def Laid(d:List (Nat×Nat)):Nat→xR→Prop
  |a,[]=>a=4096
  |a,(k,s)::r=>d[k]? =some (a,s.length)∧Laid d (a+s.length) r
structure Rep(g:Pg)(L:xR)(stamp:Nat):Prop where
  ok:g.Ok
  st:g.st=be (stamp:Int) 8
  stamp:stamp≤4611686018427387904
  hdr:g.hdr=g.many
  sorted:L.Pairwise λx y=>x.1<y.1
  below:∀p∈L,p.1<g.many
  last:g.many=0∨∃s,(g.many-1,s)∈L
  free:∀k,k<g.many→(∀s,(k,s)∉L)→g.dir.getD k (0,0)=(0,0)
  ord:∃ord:xR,ord.Perm L∧Laid g.dir g.low ord∧g.data.drop (g.low-490)=ord.flatMap (·.2)
  small:tot L≤3600
  low:g.low+tot L=4096
def Me{x y:xR}(h:x.Perm y):tot x=tot y:=(h.map _).sum_nat
def UV(x y:xR):tot (x++y)=tot x+tot y:=by simp[tot]
def Dk(p:Nat×LU)(y:xR):tot (p::y)=p.2.length+tot y:=by simp[tot]
theorem BZ(x:xR):(x.flatMap (·.2)).length=tot x:=by
  induction x with
  |nil=>rfl
  |cons p r a=>rw[bW,aF,a,Dk]
theorem Ol{d:List (Nat×Nat)}:∀(b:xR){a k:Nat}{s:LU}{c:xR},Laid d a (b++(k,s)::c)→d[k]? =some (a+tot b,s.length)∧Laid d (a+tot b+s.length) c
  | [],a,k,s,c,h=>by simpa [tot,Laid]using h
  |(j,t)::b,a,k,s,c,h=>by
    obtain⟨_,e⟩:=h;have:=Ol b e;rw[Dk,show a+(t.length+tot b)=a+t.length+tot b by omega];exact this
theorem Zp{d:List (Nat×Nat)}:∀(x:xR){a:Nat},Laid d a x→a+tot x=4096
  | [],a,h=>by simpa [tot,Laid]using h
  |(k,s)::r,a,h=>by
    have:=Zp r h.2;rw[Dk];simp only;omega
def sorted_nodup{L:xR}(h:L.Pairwise λx y=>x.1<y.1):(L.map (·.1)).Nodup:=by
  rw[List.nodup_iff_pairwise_ne,dD];exact h.imp λh=>by omega
theorem one_key{L:xR}(h:L.Pairwise λx y=>x.1<y.1){k:Nat}{s t:LU}(b:(k,s)∈L)(i:(k,t)∈L):s=t:=by
  induction L with
  |nil=>cases b
  |cons p r j=>
    obtain⟨c,l⟩:=bF.1 h;rcases aP.1 b with d|e<;>rcases aP.1 i with a|f
    · rw[← d]at a;exact(Prod.mk.inj a).2.symm
    · have:=c _ f;rw[← d]at this;simp at this
    · have:=c _ e;rw[← a]at this;simp at this
    exact j l e f
theorem WA:∀{x y:Nq},x.Pairwise (· < ·)→y.Pairwise (· < ·)→(∀k,k∈x↔k∈y)→x=y
  | [],[],_,_,_=>rfl
  | [],b::y,_,_,h=>by have:=(h b).2 (.head _);cases this
  |a::x,[],_,_,h=>by have:=(h a).1 (.head _);cases this
  |a::x,b::y,hx,hy,h=>by
    obtain⟨c,i⟩:=bF.1 hx;obtain⟨d,j⟩:=bF.1 hy
    have l:a=b:=by
      rcases aP.1 ((h a).1 (.head _))with e|m
      · exact e
      rcases aP.1 ((h b).2 (.head _))with e|n
      · exact e.symm
      have:=d a m;have:=c b n;omega
    subst l;congr 1;refine WA i j λk=>⟨λf=>?_,λf=>?_⟩
    · rcases aP.1 ((h k).1 (.tail _ f))with e|m
      · subst e;have:=c k f;omega
      exact m
    rcases aP.1 ((h k).2 (.tail _ f))with e|m
    · subst e;have:=d k f;omega
    exact m
section
variable {g : Pg} {L : xR} {stamp : Nat}
def Rep.entry(h:Rep g L stamp){k:Nat}{s:LU}(i:(k,s)∈L):∃b a:xR,(b++(k,s)::a).Perm L∧Laid g.dir g.low (b++(k,s)::a)∧g.data.drop (g.low-490)=(b++(k,s)::a).flatMap (·.2)∧g.dir[k]? =some (g.low+tot b,s.length)∧g.low+tot b+s.length+tot a=4096∧496≤g.low:=by
  obtain⟨j,c,d,l⟩:=h.ord;obtain⟨b,a,e⟩:=gI (c.mem_iff.2 i);subst e;have f:=Ol b d;have m:=Zp a f.2;have:=h.low;have:=h.small;exact⟨b,a,c,d,l,f.1,m,om⟩
def PV{d:List (Nat×Nat)}{k:Nat}{p:Nat×Nat}(h:d[k]? =some p):d.getD k (0,0)=p:=by rw[dH,h];rfl
def Rep.at_(h:Rep g L stamp){k:Nat}{s:LU}(f:(k,s)∈L):496≤yA g k∧lenOf g k=s.length∧yA g k+lenOf g k≤4096∧KEn g k=s:=by
  obtain⟨a,b,o,p,i,j,q,r⟩:=h.entry f;have e:=PV j;have l:yA g k=g.low+tot a:=by rw[yA,e]
  have c:lenOf g k=s.length:=by rw[lenOf,e]
  refine⟨om,c,om,?_⟩
  have m:g.bs.drop 490=g.data:=by
    have:g.bs=(g.st++(be g.hdr 2++zy g.dir))++g.data:=by simp[Pg.bs]
    rw[this];exact drop_left _ _ _ (by simp only[aF,AU,KA,h.ok.st,h.ok.dir])
  have d:=h.ok.low
  have:g.bs.drop (yA g k)=(g.data.drop (g.low-490)).drop (tot a):=by
    have n:yA g k=490+(g.low-490)+tot a:=by
      rw[l];omega
    rw[← m,dS,dS,n,jb]
  rw[KEn,this,i,c,dR,bW];rw[drop_left _ _ _ (BZ a)];exact take_left _ _ _ rfl
def Rep.Jz(h:Rep g L stamp){k:Nat}:(k<g.many∧0<yA g k)↔∃s,(k,s)∈L:=by
  constructor
  · rintro⟨c,b⟩
    refine az λd=>?_;have:=h.free k c λs a=>d ⟨s,a⟩;rw[yA,this]at b;simp at b
  rintro⟨s,a⟩;have:=h.at_ a;exact⟨h.below _ a,om⟩
def Rep.TC(h:Rep g L stamp):live g g.many=L.map (·.1):=by
  refine WA ?_ ?_ λk=>?_
  · exact jr.filter _
  · rw[dD];exact h.sorted
  simp only[live,dO,dW,decide_eq_true_eq,h.Jz,aU];constructor
  · rintro⟨s,a⟩;exact⟨_,a,rfl⟩
  rintro⟨⟨b,s⟩,a,rfl⟩;exact⟨s,a⟩
def Rep.total_eq(h:Rep g L stamp):total g g.many=tot L:=by
  rw[total,h.TC,tot,dB];congr 1;refine je λp a=>?_;exact(h.at_ (s:=p.2) a).2.1
def Rep.fit(h:Rep g L stamp)(j:Nat)(b:j<g.many):yA g j+lenOf g j≤4096:=by
  by_cases a:∃s,(j,s)∈L
  · obtain⟨s,a⟩:=a;exact(h.at_ a).2.2.1
  have:=h.free j b λs c=>a ⟨s,c⟩;rw[yA,lenOf,this];simp
end
def CE(d:List (Nat×Nat))(a n k:Nat):List (Nat×Nat):=d.mapIdx λj p=>if j<k∧0<p.1∧p.1≤a then(p.1+n,p.2)else p
def Cj(d:List (Nat×Nat))(a n k j:Nat):(CE d a n k)[j]? =d[j]?.map λp=>if j<k∧0<p.1∧p.1≤a then(p.1+n,p.2)else p:=by
  simp[CE]
def shiftD_zero(d:List (Nat×Nat))(a n:Nat):CE d a n 0=d:=by
  apply dN;intro j;rw[Cj];cases d[j]? <;>simp
def KG(d:List (Nat×Nat))(a n k:Nat):(CE d a n k).length=d.length:=by simp[CE]
def Wn(d:List (Nat×Nat))(a n k:Nat):(CE d a n k).getD k (0,0)=d.getD k (0,0):=by
  simp only[dH,Cj];cases d[k]? <;>simp
theorem Rt(d:List (Nat×Nat))(a n k:Nat):CE d a n (k+1)=if 0<(d.getD k (0,0)).1∧(d.getD k (0,0)).1≤a then(CE d a n k).set k ((d.getD k (0,0)).1+n,(d.getD k (0,0)).2)else CE d a n k:=by
  apply dN;intro j;by_cases h:j=k
  · subst h
    by_cases i:j<d.length
    · have e:d[j]? =some d[j]:=aB i
      have f:d.getD j (0,0)=d[j]:=PV e;rw[f];split
      · rename_i c
        rw[iZ (by rw[KG];exact i),Cj,e];simp[c.1,c.2]
      rename_i c;rw[Cj,Cj,e];simp only[dG];rw[if_neg (λl=>c l.2),if_neg om]
    have e:d[j]? =none:=bC om;have f:d.getD j (0,0)=(0,0):=by rw[dH,e];rfl
    rw[f,if_neg (by simp),Cj,Cj,e];rfl
  have m:(CE d a n (k+1))[j]? =(CE d a n k)[j]? :=by
    rw[Cj,Cj];cases d[j]? with
    |none=>rfl
    |some p=>
      simp;by_cases b:j<k
      · simp[b,show j<k+1 by omega]
      simp[b,show¬j<k+1 by omega]
  rw[m];split
  · rw[jG (Ne.symm h)]
  rfl
def trim(d:List (Nat×Nat)):Nat→Nat
  |0=>0
  |m+1=>if(d.getD m (0,0)).1=0 then trim d m else m+1
theorem PQ(d:List (Nat×Nat)):∀m,trim d m≤m
  |0=>aZ _
  |m+1=>by
    rw[trim];split
    · exact kH (PQ d m)
    exact aZ _
theorem Xe(d:List (Nat×Nat)):∀m,trim d m=0∨(d.getD (trim d m-1) (0,0)).1≠0
  |0=>.inl rfl
  |m+1=>by
    rw[trim];split
    · exact Xe d m
    right;simpa using ‹_›
theorem OI(d:List (Nat×Nat)):∀m k,trim d m≤k→k<m→(d.getD k (0,0)).1=0
  |0,k,_,h=>by omega
  |m+1,k,h1,h2=>by
    rw[trim]at h1;split at h1
    · by_cases a:k=m
      · subst a;assumption
      exact OI d m k h1 om
    omega
def ER (g : Pg) (k : Nat) : Pg :=
  let a := yA g k
  let n := lenOf g k
  let d := (CE g.dir a n g.many).set k (0,0)
  { g with dir := d,low := g.low + n,many := trim d g.many,hdr := trim d g.many
           data := g.data.take (g.low - 490) ++ (List.replicate n 0 ++ ((g.data.drop (g.low - 490)).take (a - g.low) ++ g.data.drop (a + n - 490))) }
theorem Rep.drop{g:Pg}{L:xR}{stamp:Nat}(h:Rep g L stamp){k:Nat}{s:LU}(hm:(k,s)∈L):Rep (ER g k) (L.filter λp=>p.1 !=k) stamp:=by
  obtain⟨pre,post,h1,h2,h3,h4,h5,h6⟩:=h.entry hm;have hat:=h.at_ hm;have hkm:=h.below _ hm;have e:=PV h4;have ea:yA g k=g.low+tot pre:=by rw[yA,e]
  have el:lenOf g k=s.length:=by rw[lenOf,e]
  have hok:=h.ok;have hdl:=hok.data;have hml:=hok.many;have hnd:((pre++(k,s)::post).map (·.1)).Nodup:=(h1.map _).nodup_iff.2 (sorted_nodup h.sorted)
  have hkpre:∀p∈pre,p.1≠k:=by
    intro p hp he;rw[ai,aj,bG]at hnd;exact hnd.2.2 _ (eG hp) _ (.head _) he
  have hkpost:∀p∈post,p.1≠k:=by
    intro p hp he;rw[ai,aj,bG]at hnd;exact(bH.1 hnd.2.1).1 (by show k∈post.map (·.1);rw[← he];exact eG hp)
  have hfilt:(pre++(k,s)::post).filter (λp=>p.1 !=k)=pre++post:=by
    rw[iC,dL];have a1:pre.filter (λp=>p.1 !=k)=pre:=gV.2 λp hp=>by simpa using hkpre p hp
    have a2:post.filter (λp=>p.1 !=k)=post:=gV.2 λp hp=>by simpa using hkpost p hp
    simp[a1,a2]
  have hperm:(pre++post).Perm (L.filter λp=>p.1 !=k):=by rw[← hfilt];exact h1.filter _
  have htot:tot (pre++(k,s)::post)=tot L:=Me h1;rw[UV,Dk]at htot;simp only at htot;have hlow:=h.low;have hsmall:=h.small
  have hd':∀j t a,(j,t)∈pre++post→g.dir[j]? =some (a,t.length)→(ER g k).dir[j]? =some (if 0<a∧a≤yA g k then a+s.length else a,t.length):=by
    intro j t a hj hd
    have hjk:j≠k:=by
      rcases aT.1 hj with hj|hj
      · exact hkpre _ hj
      exact hkpost _ hj
    have hjm:j<g.many:=h.below (j,t) (h1.mem_iff.1 (by simp at hj⊢;rcases hj with hj|hj<;>simp[hj]));show((CE g.dir (yA g k) (lenOf g k) g.many).set k (0,0))[j]? =_;rw[jG (Ne.symm hjk),Cj,hd];simp only[dG,hjm,true_and,el];split<;>simp
  have hfree:∀j,j<g.many→(∀t,(j,t)∉pre++post)→(ER g k).dir.getD j (0,0)=(0,0):=by
    intro j hj hn;show((CE g.dir (yA g k) (lenOf g k) g.many).set k (0,0)).getD j (0,0)=_;rw[dH];by_cases hjk:j=k
    · subst hjk
      rw[iZ (by rw[KG,hok.dir];omega)];rfl
    rw[jG (Ne.symm hjk),Cj]
    have:=h.free j hj λt ht=>by
      rcases aT.1 (h1.mem_iff.2 ht)with h7|h7
      · exact hn t (aS _ h7)
      rcases aP.1 h7 with h8|h8
      · exact hjk (Prod.mk.inj h8).1
      exact hn t (aI _ h8)
    rw[dH]at this;cases hd:g.dir[j]? with
    |none=>rfl
    |some p=>rw[hd]at this;simp at this;subst this;simp
  have hlaid:Laid (ER g k).dir (ER g k).low (pre++post):=by
    have hpo:=(Ol pre h2).2
    have hpre:∀(x:xR)(a:Nat)(y:xR),Laid g.dir a (x++(k,s)::y)→(∀p∈x,p∈pre++post)→0<a→a+tot x=yA g k→Laid (ER g k).dir (a+s.length+tot x) y→Laid (ER g k).dir (a+s.length) (x++y):=by
      intro x
      induction x with
      |nil=>intro a y _ _ _ _ hy;simpa [tot]using hy
      |cons p x ih=>
        intro a y hl hx h0 hle hy;obtain⟨j,t⟩:=p;obtain⟨hl1,hl2⟩:=hl;rw[Dk]at hle hy;simp only at hle hy;refine⟨?_,?_⟩
        · rw[hd' j t a (hx _ (.head _)) hl1,if_pos ⟨h0,om⟩]
        rw[show a+s.length+t.length=a+t.length+s.length by omega];refine ih (a+t.length) y hl2 (λq hq=>hx q (.tail _ hq)) om om ?_;rw[show a+t.length+s.length+tot x=a+s.length+(t.length+tot x) by omega];exact hy
    have hpost:∀(y:xR)(a:Nat),Laid g.dir a y→(∀p∈y,p∈pre++post)→yA g k+s.length≤a→Laid (ER g k).dir a y:=by
      intro y
      induction y with
      |nil=>intro a hl _ _;exact hl
      |cons p y ih=>
        intro a hl hy hle;obtain⟨j,t⟩:=p;obtain⟨hl1,hl2⟩:=hl;refine⟨?_,ih _ hl2 (λq hq=>hy q (.tail _ hq)) om⟩;rw[hd' j t a (hy _ (.head _)) hl1];split
        · rename_i hc
          have:s.length=0:=om;rw[this];rfl
        rfl
    have:=hpre pre g.low post h2 (λp hp=>aS _ hp) om om (by
      rw[show g.low+s.length+tot pre=g.low+tot pre+s.length by omega];exact hpost post _ hpo (λp hp=>aI _ hp) om)
    show Laid (ER g k).dir (g.low+lenOf g k) (pre++post);rw[el];exact this
  have hmany:(ER g k).many=trim (ER g k).dir g.many:=rfl
  have hin:∀j t,(j,t)∈pre++post→j<g.many∧0<((ER g k).dir.getD j (0,0)).1:=by
    intro j t hj;have hjm:(j,t)∈L:=h1.mem_iff.1 (by simp only[aT,aP]at hj⊢;rcases hj with hj|hj<;>simp[hj]);obtain⟨_,_,_,_,_,hj4,_,_⟩:=h.entry hjm;refine⟨h.below _ hjm,?_⟩;rw[PV (hd' j t _ hj hj4)];simp only;split<;>omega
  have hpt:tot (pre++post)+s.length=tot L:=by rw[UV];omega
  have hpt2:tot (L.filter λp=>p.1 !=k)=tot (pre++post):=(Me hperm).symm;refine⟨⟨hok.st,?_,?_,?_,?_,?_,?_⟩,h.st,h.stamp,rfl,h.sorted.filter _,?_,?_,?_,⟨pre++post,hperm,hlaid,?_⟩,om,?_⟩
  · have:=PQ (ER g k).dir g.many
    show trim (ER g k).dir g.many<65536;omega
  · show((CE g.dir (yA g k) (lenOf g k) g.many).set k (0,0)).length=120
    rw[bU,KG,hok.dir]
  · show(g.data.take (g.low-490)++(List.replicate (lenOf g k) 0++((g.data.drop (g.low-490)).take (yA g k-g.low)++g.data.drop (yA g k+lenOf g k-490)))).length=3606
    simp only[aF,aJ,dQ,bf,hdl];omega
  · have:=PQ (ER g k).dir g.many
    show trim (ER g k).dir g.many≤120;omega
  · intro p hp
    have hp':p∈(CE g.dir (yA g k) (lenOf g k) g.many).set k (0,0):=hp;rcases gG hp' with hp'|rfl
    · obtain⟨j,hj⟩:=bD hp'
      rw[Cj]at hj;cases hd:g.dir[j]? with
      |none=>rw[hd]at hj;cases hj
      |some q=>
        rw[hd]at hj;simp only[dG,Option.some.injEq]at hj;have:=hok.ent q (aC hd);rw[← hj];split
        · simp only;omega
        exact this
    simp
  · show g.low+lenOf g k≤4096
    omega
  · rintro⟨j,t⟩ hp
    obtain⟨hj1,hj2⟩:=hin j t (hperm.mem_iff.2 hp);rw[hmany];refine az λhn=>?_;have:=OI (ER g k).dir g.many j (by simp only at hn;omega) hj1;omega
  · rw[hmany]
    rcases Xe (ER g k).dir g.many with h0|h0
    · exact .inl h0
    refine .inr ?_;have htl:=PQ (ER g k).dir g.many;by_cases hz:trim (ER g k).dir g.many=0
    · exfalso
      apply h0;rw[hz];by_cases hmz:0<g.many
      · exact OI (ER g k).dir g.many 0 om hmz
      omega
    refine az λhn=>h0 ?_;rw[hfree _ om λt ht=>hn ⟨t,hperm.mem_iff.1 ht⟩]
  · intro j hj hn
    rw[hmany]at hj;have htl:=PQ (ER g k).dir g.many;exact hfree j om λt ht=>hn t (hperm.mem_iff.1 ht)
  · show(g.data.take (g.low-490)++(List.replicate (lenOf g k) 0++((g.data.drop (g.low-490)).take (yA g k-g.low)++g.data.drop (yA g k+lenOf g k-490)))).drop (g.low+lenOf g k-490)=_
    rw[← ax,drop_left _ _ _ (by simp only[aF,aJ,dQ,hdl];omega)]
    have e6:(g.data.drop (g.low-490)).take (yA g k-g.low)=pre.flatMap (·.2):=by
      rw[h3,dR];exact take_left _ _ _ (by rw[BZ];omega)
    have e7:g.data.drop (yA g k+lenOf g k-490)=post.flatMap (·.2):=by
      have:yA g k+lenOf g k-490=(g.low-490)+(tot pre+s.length):=om;rw[this,← dS,h3,dR,bW,← ax];exact drop_left _ _ _ (by rw[aF,BZ])
    rw[e6,e7,dR]
  show g.low+lenOf g k+_=4096;omega
def Pg.ZR{g:Pg}(h:g.Ok)(m:Nat):g.cells.set 4096 (I (m:Int))=({g with many:=m}:Pg).cells:=by
 rw[Pg.cells,jU,if_neg (by rw[Ah,h.len];omega),Ah,h.len];rfl
def Pg.qy{g:Pg}(h:g.Ok)(m:Nat):g.cells.set 4097 (I (m:Int))=({g with low:=m}:Pg).cells:=by
 rw[Pg.cells,jU,if_neg (by rw[Ah,h.len];omega),Ah,h.len];rfl
def sl(i:Nat):Nat:=if 4096=i then 0 else i
def UF(b i:Nat):slA (Pq b) 4096 i 1=some ⟨b,sl i,none⟩:=by
 unfold slA sl;split
 ·rfl
 rw[dG,bV,zW]
def X6(x:LV)(i:Nat)(cs:LV)(h:i+x.length<=4096):over x (sl i) cs=over x i cs:=by
 unfold sl;split
 ·have:x=[]:=ay om;subst this;rw[yQ,yQ]
 rfl
def ug(i:Nat):sl i<=i:=by unfold sl;split<;>omega
def He(g:Pg)(i:Nat)(x:LU):Pg:= {g with data:=g.data.take (i-490)++(x++g.data.drop (i-490+x.length))}
def Oq{g:Pg}(h:g.Ok){i:Nat}{x:LU}(a:490<=i)(b:i+x.length<=4096):(He g i x).Ok:=
 ⟨h.st,h.hdr,h.dir,by simp only[He,aF,aJ,bf,h.data];omega,h.many,h.ent,h.low⟩
def QJ{g:Pg}(h:g.Ok){i:Nat}{x:LU}(q:490<=i)(r:i+x.length<=4096):over (Ae x) i g.cells=(He g i x).cells:=by
 have f:=h.data
 have e:g.data=g.data.take (i-490)++((g.data.drop (i-490)).take x.length++g.data.drop (i-490+x.length)):=by
  rw[<- dS,bY,bY]
 obtain⟨p,j⟩:∃p,p=g.st++(be g.hdr 2++zy g.dir):=⟨_,rfl⟩;have c:p.length=490:=by rw[j];simp only[aF,AU,KA,h.st,h.dir]
 have l:∀d:LU,({g with data:=d}:Pg).bs=p++d:=λd=>by rw[j];simp[Pg.bs]
 have a:g.bs=p++g.data:=l g.data
 have m:g.cells=Ae (p++g.data.take (i-490))++(Ae ((g.data.drop (i-490)).take x.length)++(Ae (g.data.drop (i-490+x.length))++[I (g.many:Int),I (g.low:Int)])):=by
  conv=>lhs;rw[Pg.cells,a,e]
  simp only[DK,ax]
 have n:(He g i x).cells=Ae (p++g.data.take (i-490))++(Ae x++(Ae (g.data.drop (i-490+x.length))++[I (g.many:Int),I (g.low:Int)])):=by
  show Ae ({g with data:=g.data.take (i-490)++(x++g.data.drop (i-490+x.length))}:Pg).bs++_=_;rw[l];simp only[DK,ax];rfl
 have o:(Ae (p++g.data.take (i-490))).length=i:=by rw[Ah,aF,c,aJ,f];omega
 rw[m,n];have b:=FU (Ae x) (Ae (p++g.data.take (i-490))) (Ae ((g.data.drop (i-490)).take x.length)) (Ae (g.data.drop (i-490+x.length))++[I (g.many:Int),I (g.low:Int)]) (by rw[Ah,Ah,aJ,bf,f];omega);rw[o]at b;exact b
def SN(n:Nat):List.replicate n (iU 0)=Ae (List.replicate n 0):=by simp[Ae]
def zero5:zeroOf PP 5=some (iU 0):=by kernel_rfl
def zk{B:Nq}{w0 w w':Wq}{L:List Asn}{b:Nat}{g:Pg}(a:g.Ok)(H:Hp B w0 w L)(e:Eqw w w')(m:pgA b g∈L):zf w' b g:=⟨a,(H.go e).ok _ m⟩
def nodrop_spec(b:Nat)(g:Pg)(k:Int)(f:¬(0<=k/\k<g.many/\0<yA g k.toNat))(w:Wq)(h:zf w b g):
  CP 170 #[pq b,I k] w λe w'=>e=Ej (.tuple #[])/\Hp [] w w' []:=by
 apply Jae;have H:=Hp.start w
 (intro _ _ a;replace H:=H.nw a;clear a)
 (refine⟨_,H.lo Ez,?_⟩)
 refine AC (Js b g k _ (h.chg H.chg (by simp))) ?_;rintro e j ⟨rfl,i⟩;replace H:=H.xN i
 have c:(if 0<=k/\k<(g.many:Int)then((g.dir.getD k.toNat (0,0)).1:Int)else 0)=0:=by
  split
  ·rename_i d;have:¬0<yA g k.toNat:=λc=>f ⟨d.1,d.2,c⟩;have l:(g.dir.getD k.toNat (0,0)).1=yA g k.toNat:=rfl;omega
  rfl
 rw[c];refine⟨_,_,rfl,?_⟩
 (intro _ _ a;replace H:=H.nw a;clear a)
 (intro _ _ a;replace H:=H.nw a;clear a)
 (refine H.AX.sx yF ?_;clear H;intro _ H;(try simp only[over,bz,bu]at H))
 (refine H.AX.sx yF ?_;clear H;intro _ H;(try simp only[over,bz,bu]at H))
 (refine⟨_,H.lo yF,?_⟩)
 exact AB (λ_=>⟨rfl,H.done⟩) (λh=>absurd rfl h)
theorem drop_spec(b:Nat)(g:Pg)(L:xR)(stamp:Nat)(hR:Rep g L stamp)(K:Nat)(s:LU)(hK:(K,s)∈L)(w:Wq)(h:Blk w b g.cells 162):
  CP 170 #[pq b,I (K:Int)] w λe w'=>e=Ej (.tuple #[])/\Hp [b] w w' [pgA b (ER g K)]:=by
 apply Jae;have H:Hp [b] w w [pgA b g]:=Hp.II (a:=pgA b g) h;have hok:=hR.ok;have hml:=hok.many;have hdl:=hok.data;obtain⟨pre,post,p1,p2,p3,p4,p5,p6⟩:=hR.entry hK;obtain⟨q1,q2,q3,q4⟩:=hR.at_ hK;have hkm:=hR.below _ hK;have ea:yA g K=g.low+tot pre:=by rw[yA,PV p4]
 (intro _ _ hn;replace H:=H.nw hn;clear hn)
 (refine⟨_,H.lo Ez,?_⟩)
 refine AC (TI b g K hkm _ ⟨hok,H.ok _ m1⟩) ?_;rintro e w1 ⟨rfl,H'⟩;replace H:=H.xN H';refine⟨_,_,rfl,?_⟩
 (intro _ _ hn;replace H:=H.nw hn;clear hn)
 (intro _ _ hn;replace H:=H.nw hn;clear hn)
 (refine H.AX.sx yF ?_;clear H;intro _ H;(try simp only[over,bz,bu]at H))
 (refine H.AX.sx yF ?_;clear H;intro _ H;(try simp only[over,bz,bu]at H))
 (refine⟨_,H.lo yF,?_⟩)
 rename_i b0 _ b1 _ b2 _ _ _;generalize hat:yA g K=at_ at*
 generalize hln:lenOf g K=n at*;refine AB (λh0=>absurd h0 om) (λ_=>?_);replace H:=H.drew;have hpl:∀w',Hp [b] w w' [.blk b2 [I (n:Int)] 3,.blk b1 [I (at_:Int)] 3,.blk b0 [pq b] 95,pgA b g]->zf w' b g:=λw' H=>⟨hok,H.ok _ m3⟩
 (refine⟨_,H.lo Ez,?_⟩)
 refine AA rfl ?_
 (refine⟨_,H.lo Ez,?_⟩)
 refine AA rfl ⟨_,by rw[zW];exact(hpl _ H).SB,?_⟩
 (refine⟨_,H.lo yF,?_⟩)
 refine⟨iR,?_⟩
 (refine⟨_,H.lo yF,?_⟩)
 (refine⟨_,H.lo yF,?_⟩)
 have e1:Int.toNat ((g.low:Int)+(n:Int))=g.low+n:=om;have e2:Int.toNat ((at_:Int)+(n:Int))=at_+n:=om
 have e3:Int.toNat (g.low:Int)=g.low:=om;have e4:Int.toNat (at_:Int)=at_:=om
 dsimp only;rw[e1,e2];refine⟨iR,⟨om,om,om⟩,?_⟩
 (refine⟨_,H.lo Ez,?_⟩)
 refine AA rfl ?_
 (refine⟨_,H.lo Ez,?_⟩)
 refine AA rfl ⟨_,by rw[zW];exact(hpl _ H).SB,?_⟩
 (refine⟨_,H.lo yF,?_⟩)
 dsimp only;rw[e3,e4];refine⟨⟨om,om,om⟩,?_⟩;have hcell:=(hpl _ H).cellsB g.low (at_-g.low) om;rw[UF]at hcell;rw[UF,UF];have hbl:((g.bs.drop g.low).take (at_-g.low)).length=at_-g.low:=by rw[aJ,bf,hok.len];omega
 have hsl:=ug (g.low+n);refine Hp.cpy H.ET EQ4 ZJ KEE.size (Cells.src ZJ hcell (by rw[Ah,hbl,bV]) (OZ _) (λh=>by cases h)) om (by rw[hok.KBo];omega) ?_;intro w3 H
 have hd490:g.bs.drop 490=g.data:=by
  have:g.bs=(g.st++(be g.hdr 2++zy g.dir))++g.data:=by simp[Pg.bs]
  rw[this];exact drop_left _ _ _ (by simp only[aF,AU,KA,hok.st,hok.dir])
 have hmv:(g.bs.drop g.low).take (at_-g.low)=(g.data.drop (g.low-490)).take (at_-g.low):=by
  rw[<- hd490,dS,show 490+(g.low-490)=g.low by omega]
 rw[X6 _ _ _ (by rw[Ah,hbl];omega),QJ hok om (by rw[hbl];omega)]at H;have ok1:=Oq hok (i:=g.low+n) om (by rw[hbl];omega);obtain⟨g1,hg1⟩:∃g1,g1=He g (g.low+n) ((g.bs.drop g.low).take (at_-g.low)):=⟨_,rfl⟩;rw[<- hg1]at H ok1;have hdir1:g1.dir=g.dir:=by rw[hg1];rfl
 have hmany1:g1.many=g.many:=by rw[hg1];rfl
 have hlow1:g1.low=g.low:=by rw[hg1];rfl
 have okS:∀k,({g1 with dir:=CE g.dir at_ n k}:Pg).Ok:=λk=>⟨ok1.st,ok1.hdr,by rw[KG];exact hok.dir,ok1.data,ok1.many,λp hp=>by
  obtain⟨j,hj⟩:=bD hp;rw[Cj]at hj;cases hd:g.dir[j]? with
  |none=>rw[hd]at hj;cases hj
  |some q=>
   rw[hd]at hj;simp at hj;have:=hok.ent q (aC hd);rw[<- hj];split
   ·simp only;omega
   exact this,ok1.low⟩
 have hatS:∀k,yA {g1 with dir:=CE g.dir at_ n k} k=yA g k/\lenOf {g1 with dir:=CE g.dir at_ n k} k=lenOf g k:=λk=>by
  refine⟨?_,?_⟩
  ·show((CE g.dir at_ n k).getD k (0,0)).1=_;rw[Wn];rfl
  show((CE g.dir at_ n k).getD k (0,0)).2=_;rw[Wn];rfl
 have H:Hp [b] w w3 [pgA b {g1 with dir:=CE g.dir at_ n 0},.blk b2 [I (n:Int)] 3,.blk b1 [I (at_:Int)] 3,.blk b0 [pq b] 95]:=by
  rw[shiftD_zero,<- hdir1];exact H
 replace H:=H.ET
 (refine⟨_,H.lo Ez,?_⟩)
 refine⟨_,_,_,rfl,⟨_,_,Tryz.func85,rfl⟩,?_⟩
 refine KX b g.many (λk (_:Unit)=> {g1 with dir:=CE g.dir at_ n k}) (λk (_:Unit)=>[pgA b {g1 with dir:=CE g.dir at_ n k},.blk b2 [I (n:Int)] 3,.blk b1 [I (at_:Int)] 3,.blk b0 [pq b] 95]) (λ_ _=>True) (λ_:Unit=>[]) (λ_=>False) () trivial (by((try dsimp only[cons_append,nil_append]);(try dsimp only[cons_append,nil_append]at H);refine Hp.perm H ?_;(repeat(apply Jt;(focus first|exact Ph|exact O9|exact QF|exact perm_p3|exact perm_p4|exact perm_p5|exact perm_p6|exact perm_p7|exact perm_p8|exact perm_p9)));exact jh _))
  (λk x w' T _ H=>⟨⟨okS k,H.ok _ (.head _)⟩,hmany1⟩) (λk x hk _ h0=>⟨x,trivial,by
   rw[(hatS k).1]at h0;have h0':(g.dir.getD k (0,0)).1=0:=h0;rw[Rt,if_neg om]⟩) ?_ ?_ (λy D w' hs _=>hs.elim)
 ·clear H;intro k x hk _ h0 w' T0 T1 begin kn kr kx _ hbeg hkn _;refine hbeg _ λw2 H=>?_;simp at H;replace H:=H.ET
  (refine⟨_,H.lo Ez,?_⟩)
  replace H:=H.AX;have hA:=zk (okS k) H EQ4 (by repeat first|exact .head _|refine .tail _ ?_);refine AC (TI b _ k (by rw[hmany1];exact hk) _ hA) ?_;rintro e w4 ⟨rfl,H'⟩;replace H:=H.xN H';rw[(hatS k).1,(hatS k).2];rw[(hatS k).1]at h0;have hb:=hok.atB k;refine⟨_,_,rfl,?_⟩;replace H:=H.ET
  (refine⟨_,H.lo yF,?_⟩)
  have key:=Rt g.dir at_ n k
  refine AB (λhle=>?_) (λhle=>?_)
  ·(refine⟨_,H.lo Ez,?_⟩)
   (refine⟨_,H.lo yF,?_⟩)
   refine⟨iR,?_⟩;have e5:(yA g k:Int)+(n:Int)=((yA g k+n:Nat):Int):=om
   try dsimp only
   rw[e5];replace H:Hp [b] w w4 (pgA b {g1 with dir:=CE g.dir at_ n k}::.blk b2 [I (n:Int)] 3::.blk b1 [I (at_:Int)] 3::.blk b0 [pq b] 95::T1):=by((try dsimp only[cons_append,nil_append]);(try dsimp only[cons_append,nil_append]at H);refine Hp.perm H ?_;(repeat(apply Jt;(focus first|exact Ph|exact O9|exact QF|exact perm_p3|exact perm_p4|exact perm_p5|exact perm_p6|exact perm_p7|exact perm_p8|exact perm_p9)));exact jh _)
   refine AC (Oz b _ k (yA g k+n) (lenOf g k) om om om _ (zk (okS k) H EQ4 (by repeat first|exact .head _|refine .tail _ ?_))) ?_;rintro e w5 ⟨rfl,_,H'⟩;replace H:=Hp.Bg H H'
   have hs:KAB {g1 with dir:=CE g.dir at_ n k} k (yA g k+n) (lenOf g k)= {g1 with dir:=CE g.dir at_ n (k+1)}:=by
    rw[key,if_pos ⟨h0,by show yA g k<=at_;omega⟩];rfl
   rw[hs]at H;exact⟨rfl,hkn _ () trivial (by((try dsimp only[cons_append,nil_append]);(try dsimp only[cons_append,nil_append]at H);refine Hp.perm H ?_;(repeat(apply Jt;(focus first|exact Ph|exact O9|exact QF|exact perm_p3|exact perm_p4|exact perm_p5|exact perm_p6|exact perm_p7|exact perm_p8|exact perm_p9)));exact jh _))⟩
  refine hkn _ () trivial ?_;have hs:CE g.dir at_ n (k+1)=CE g.dir at_ n k:=by rw[key,if_neg (λhh=>hle (by have h9:yA g k<=at_:=hh.2;omega))]
  rw[hs]
  ((try dsimp only[cons_append,nil_append]);(try dsimp only[cons_append,nil_append]at H);refine Hp.perm H ?_;(repeat(apply Jt;(focus first|exact Ph|exact O9|exact QF|exact perm_p3|exact perm_p4|exact perm_p5|exact perm_p6|exact perm_p7|exact perm_p8|exact perm_p9)));exact jh _)
 clear H;intro x D w' _ H;simp only[aH,aO]at H;obtain⟨gS,hgS⟩:∃gS:Pg,gS= {g1 with dir:=CE g.dir at_ n g.many}:=⟨_,rfl⟩;have okg:gS.Ok:=by rw[hgS];exact okS _
 rw[<- hgS]at H;have hlowS:gS.low=g.low:=by rw[hgS];exact hlow1
 have hmanyS:gS.many=g.many:=by rw[hgS];exact hmany1
 (refine⟨_,H.lo Ez,?_⟩)
 refine AA rfl ?_
 (refine⟨_,H.lo Ez,?_⟩)
 refine AA rfl ⟨_,by rw[zW];exact(zk okg H EQ4 (by repeat first|exact .head _|refine .tail _ ?_)).SB,?_⟩
 (refine⟨_,H.lo Ez,?_⟩)
 refine AA rfl ⟨_,by rw[zW];exact(zk okg H EQ4 (by repeat first|exact .head _|refine .tail _ ?_)).SB,?_⟩
 (refine⟨_,H.lo yF,?_⟩)
 try dsimp only
 rw[hlowS,e1,e3];refine⟨iR,⟨om,om,om⟩,?_⟩;rw[UF,show g.low+n-g.low=n by omega];refine Hp.clr (e:=5) H EQ4 ZJ zero5 rfl rfl (by rw[okg.KBo];have:=ug g.low;omega) ?_;intro w4 H;rw[X6 _ _ _ (by rw[dQ];omega),SN,QJ okg om (by rw[dQ];omega)]at H;have okc:=Oq okg (i:=g.low) (x:=List.replicate n 0) om (by rw[dQ];omega);obtain⟨gC,hgC⟩:∃gC:Pg,gC=He gS g.low (List.replicate n 0):=⟨_,rfl⟩;rw[<- hgC]at H okc;have hlowC:gC.low=g.low:=by rw[hgC];exact hlowS
 have hmanyC:gC.many=g.many:=by rw[hgC];exact hmanyS
 replace H:Hp [b] w w4 [.blk b gC.cells 162,.blk b2 [I (n:Int)] 3,.blk b1 [I (at_:Int)] 3,.blk b0 [pq b] 95,yE D (.deferred (some []))]:=by((try dsimp only[cons_append,nil_append]);(try dsimp only[cons_append,nil_append]at H);refine Hp.perm H ?_;(repeat(apply Jt;(focus first|exact Ph|exact O9|exact QF|exact perm_p3|exact perm_p4|exact perm_p5|exact perm_p6|exact perm_p7|exact perm_p8|exact perm_p9)));exact jh _)
 (refine⟨_,H.lo Ez,?_⟩)
 refine AA rfl ⟨_,by rw[zW];exact(zk okc H EQ4 (.head _)).SB,?_⟩
 (refine⟨_,H.lo yF,?_⟩)
 rw[hlowC];refine⟨iR,AA rfl ?_⟩;have e6:(g.low:Int)+(n:Int)=((g.low+n:Nat):Int):=om;rw[zW,e6];refine Hp.st H EQ4 yF rfl rfl (by rw[okc.KBo];omega) (Pg.qy okc _) ?_;intro w5 H;have okl:({gC with low:=g.low+n}:Pg).Ok:=⟨okc.st,okc.hdr,okc.dir,okc.data,okc.many,okc.ent,by show g.low+n<=4096;omega⟩
 (refine⟨_,H.lo Ez,?_⟩)
 refine AC (Oz b _ K 0 0 om om om _ (zk okl H EQ4 (.head _))) ?_;rintro e w6 ⟨rfl,okk,H'⟩;replace H:=Hp.Bg (a:=pgA b _) H H';refine⟨rfl,?_⟩;obtain⟨gK,hgK⟩:∃gK:Pg,gK=KAB {gC with low:=g.low+n} K 0 0:=⟨_,rfl⟩;rw[<- hgK]at H okk;have hmanyK:gK.many=g.many:=by rw[hgK];exact hmanyC
 have okM:∀m,m<=g.many->({gK with many:=m}:Pg).Ok:=λm hm=>⟨okk.st,okk.hdr,okk.dir,okk.data,by show m<=120;omega,okk.ent,okk.low⟩
 have hfin: {gK with many:=trim gK.dir g.many,hdr:=trim gK.dir g.many}=ER g K:=by
  have hD:gK.dir=(CE g.dir at_ n g.many).set K (0,0):=by rw[hgK,hgC,hgS];rfl
  have hdat:gK.data=g.data.take (g.low-490)++(List.replicate n 0++((g.data.drop (g.low-490)).take (at_-g.low)++g.data.drop (at_+n-490))):=by
   have a1:gK.data=gS.data.take (g.low-490)++(List.replicate n 0++gS.data.drop (g.low-490+n)):=by rw[hgK,hgC];simp[KAB,He]
   have a2:gS.data=g.data.take (g.low+n-490)++((g.data.drop (g.low-490)).take (at_-g.low)++g.data.drop (at_+n-490)):=by
    rw[hgS,hg1,hmv];show g.data.take (g.low+n-490)++((g.data.drop (g.low-490)).take (at_-g.low)++g.data.drop (g.low+n-490+((g.data.drop (g.low-490)).take (at_-g.low)).length))=_;congr 3;rw[<- hmv,hbl];omega
   rw[a1,a2];congr 1
   ·rw[l9 (by rw[aJ,hdl];omega),jE];congr 1;omega
   congr 1;exact drop_left _ _ _ (by rw[aJ,hdl];omega)
  have hst:gK.st=g.st:=by rw[hgK,hgC,hgS,hg1];rfl
  have hlw:gK.low=g.low+n:=by rw[hgK];rfl
  unfold ER;simp only[hat,hln];rw[hD,hdat,hst,hlw]
 refine xI.mk (λmm s w'=>mm<=g.many/\trim gK.dir mm=trim gK.dir g.many/\Hp [b] w w' [.blk b ({gK with many:=mm}:Pg).cells 162,.blk b2 [I (n:Int)] 3,.blk b1 [I (at_:Int)] 3,.blk b0 [pq b] 95,yE D (.deferred (some []))]) g.many ⟨aZ _,rfl,by rw[<- hmanyK];exact H⟩ ?_;rintro m s w7 next ⟨hm,htr,H⟩ hnext
 have fin:∀w7,m<=g.many->trim gK.dir m=m->trim gK.dir m=trim gK.dir g.many->Hp [b] w w7 [.blk b ({gK with many:=m}:Pg).cells 162,.blk b2 [I (n:Int)] 3,.blk b1 [I (at_:Int)] 3,.blk b0 [pq b] 95,yE D (.deferred (some []))]->
   xk PP 172 [pq b,I 8,I (m:Int)] w7 λe w'=>e=Ej (.tuple #[])/\∃w1,zS w' D w1/\(λe w'=>e=Ending.returned (.tuple #[])/\Hp [b] w w' [pgA b (ER g K)]) (Ej (.tuple #[])) w1:=by
  intro w7 hm h1 h2 H;have hb:∀k,({gK with many:=m,hdr:=k}:Pg).bs=gK.st++(be (k:Int) 2++(zy gK.dir++gK.data)):=λk=>rfl;refine AC (Jy b {gK with many:=m} {gK with many:=m,hdr:=m} gK.st (be gK.hdr 2) (zy gK.dir++gK.data) 8 m (AU _ 2) okk.st om rfl (hb m) rfl rfl _ (zk (okM m hm) H EQ4 (.head _))) ?_;rintro e w8 ⟨rfl,H'⟩;replace H:=Hp.Bg (a:=pgA b _) H H';refine⟨rfl,Hp.shut H.JH λw9 H=>⟨rfl,?_⟩⟩;rw[<- hfin,<- h2,h1];exact H.Nb
 (refine⟨_,H.lo Ez,?_⟩)
 refine AA rfl ⟨_,by rw[zW];exact(zk (okM m hm) H EQ4 (.head _)).JB,?_⟩;refine AB (λh0=>?_) (λh0=>?_)
 ·obtain⟨m,rfl⟩:∃m',m=m'+1:=⟨m-1,by have:(0:Int)<((m:Nat):Int):=h0;omega⟩
  (refine⟨_,H.lo Ez,?_⟩)
  (refine⟨_,H.lo Ez,?_⟩)
  refine AA rfl ⟨_,by rw[zW];exact(zk (okM _ hm) H EQ4 (.head _)).JB,?_⟩;have e7:(((m+1:Nat):Int))-1=(m:Int):=om;have e8:(10:Int)+4*(m:Int)=((10+4*m:Nat):Int):=om;show gB (((m+1:Nat):Int)-1)/\gB (4*(((m+1:Nat):Int)-1))/\gB (10+4*(((m+1:Nat):Int)-1))/\xk PP 146 [_,I (10+4*(((m+1:Nat):Int)-1))] _ _
  try dsimp only
  rw[e7,e8];refine⟨iR,iR,iR,?_⟩;refine AC (Vg b _ _ om _ (zk (okM _ hm) H EQ4 (.head _))) ?_;rintro e w8 ⟨rfl,H'⟩;replace H:=H.drew.xN H';refine⟨_,rfl,?_⟩;have hmd:m<gK.dir.length:=by rw[okk.dir];omega
  rw[Pg.Ok.ent1 (okM _ hm) om];have hgd:gK.dir.getD m (0,0)=gK.dir[m]:=by rw[dH,aB hmd];rfl
  refine AB (λhz=>?_) (λhz=>?_)
  ·have hz':(gK.dir[m]).1=0:=by have:((gK.dir[m]).1:Int)=0:=hz;omega
   (refine⟨_,H.lo Ez,?_⟩)
   refine AA rfl ⟨_,by rw[zW];exact(zk (okM _ hm) H EQ4 (.head _)).JB,?_⟩;show gB (((m+1:Nat):Int)-1)/\onP _ λa=>∃w1,St PP 3 _ (Addr.add a 4096) (I (((m+1:Nat):Int)-1)) w1/\_
   try dsimp only
   rw[e7];refine⟨iR,AA rfl ?_⟩;rw[zW];refine Hp.st H EQ4 yF rfl rfl (by rw[(okM _ hm).KBo];omega) (Pg.ZR (okM _ hm) _) ?_;intro w9 H;refine hnext m _ _ om ⟨om,?_,H⟩;rw[<- htr,trim,hgd,if_pos hz']
  have hz':¬(gK.dir[m]).1=0:=λh=>hz (by rw[h];rfl)
  (refine⟨_,H.lo Ez,?_⟩)
  (refine⟨_,H.lo Ez,?_⟩)
  refine AA rfl ⟨_,by rw[zW];exact(zk (okM _ hm) H EQ4 (.head _)).JB,?_⟩;exact fin _ hm (by rw[trim,hgd,if_neg hz']) htr H.drew
 have hm0:m=0:=by have:¬(0:Int)<(m:Int):=h0;omega
 (refine⟨_,H.lo Ez,?_⟩)
 (refine⟨_,H.lo Ez,?_⟩)
 refine AA rfl ⟨_,by rw[zW];exact(zk (okM m hm) H EQ4 (.head _)).JB,?_⟩;exact fin _ hm (by rw[hm0];rfl) htr H.drew.drew
def KAE(x:Nat×LU):xR→xR
  | []=>[x]
  |p::r=>if x.1<p.1 then x::p::r else p::KAE x r
theorem Jw(x:Nat×LU):∀L:xR,(KAE x L).Perm (x::L)
  | []=>.refl _
  |p::r=>by
    rw[KAE];split
    · exact .refl _
    exact((Jw x r).cons p).trans (.swap x p r)
def JD(x y:Nat×LU)(L:xR):y∈KAE x L↔y=x∨y∈L:=by rw[(Jw x L).mem_iff,aP]
theorem LK(x:Nat×LU):∀L:xR,L.Pairwise (λa b=>a.1<b.1)→(∀p∈L,p.1≠x.1)→(KAE x L).Pairwise λa b=>a.1<b.1
  | [],_,_=>by simp[KAE]
  |p::r,h,hn=>by
    obtain⟨e,f⟩:=bF.1 h;rw[KAE];split
    · rename_i d
      refine bF.2 ⟨λq c=>?_,h⟩;rcases aP.1 c with rfl|c
      · exact d
      have:=e q c;omega
    rename_i d;refine bF.2 ⟨λq c=>?_,LK x r f λq c=>hn q (.tail _ c)⟩;rcases(JD _ _ _).1 c with rfl|c
    · have:=hn p (.head _);omega
    exact e q c
def wo(L:xR)(k:Nat):xR:=L.filter λp=>p.1 !=k
def Sm{L:xR}{k:Nat}(h:∀s,(k,s)∉L):wo L k=L:=by
  refine gV.2 λp a=>?_;have:p.1≠k:=λe=>h p.2 (by rw[← e];exact a);simpa using this
def Zv{L:xR}{k:Nat}{p:Nat×LU}:p∈wo L k↔p∈L∧p.1≠k:=by simp[wo]
theorem wo_tot{L:xR}(f:L.Pairwise λa b=>a.1<b.1){k:Nat}{s:LU}(h:(k,s)∈L):tot (wo L k)+s.length=tot L:=by
  induction L with
  |nil=>cases h
  |cons p r g=>
    obtain⟨d,i⟩:=bF.1 f;by_cases c:p.1=k
    · have j:p=(k,s):=by
        rcases aP.1 h with e|m
        · exact e.symm
        have:=d _ m;simp only at this;omega
      have l:wo r k=r:=Sm λt n=>by have:=d _ n;simp only at this;omega
      have e:wo (p::r) k=r:=by
        show List.filter _ (p::r)=r;rw[dL,if_neg (by simp[c])];exact l
      rw[e,Dk,j];simp only;omega
    have o:(k,s)∈r:=by
      rcases aP.1 h with e|m
      · exact absurd (by rw[← e]) c
      exact m
    have e:wo (p::r) k=p::wo r k:=by
      show List.filter _ (p::r)=_;rw[dL,if_pos (by simp[c])];rfl
    rw[e,Dk,Dk];have:=g i o;omega
def Y1(b:Nat)(g:Pg)(L:xR)(c:Nat)(f:Rep g L c)(K:Nat)(w:Wq)(h:Blk w b g.cells 162):
    CP 170 #[pq b,I (K:Int)] w λe w'=>e=Ej (.tuple #[])∧∃l,Rep l (wo L K) c∧Hp [b] w w' [pgA b l]:=by
  by_cases j:∃s,(K,s)∈L
  · obtain⟨s,i⟩:=j
    exact Calls.mono (drop_spec b g L c f K s i w h) λe w' d=>⟨d.1,_,f.drop i,d.2⟩
  refine Calls.mono (nodrop_spec b g (K:Int) (λd=>j (f.Jz.1 ⟨om,by have:=d.2.2;rwa [aN]at this⟩)) w ⟨f.ok,h⟩) λe w' d=>⟨d.1,g,?_,?_⟩
  · rw[Sm λs i=>j ⟨s,i⟩];exact f
  have H:Hp [b] w w [pgA b g]:=Hp.II (a:=pgA b g) h;exact H.xN d.2
def KBs(d:List (Nat×Nat))(a n:Nat):List (Nat×Nat):=d.mapIdx λj p=>if a≤j∧j<n then(0,0)else p
def Iw(d:List (Nat×Nat))(a n j:Nat):(KBs d a n)[j]? =d[j]?.map λp=>if a≤j∧j<n then(0,0)else p:=by
  simp[KBs]
def Lt(d:List (Nat×Nat))(a n:Nat):(KBs d a n).length=d.length:=by simp[KBs]
theorem extD_self(d:List (Nat×Nat))(a:Nat):KBs d a a=d:=by
  apply dN;intro j;rw[Iw];cases d[j]? with
  |none=>rfl
  |some p=>rw[dG,if_neg om]
theorem extD_succ (d : List (Nat × Nat)) (a m : Nat) (h : a ≤ m) : (KBs d a m).set m (0,0) = KBs d a (m + 1) := by
  apply dN;intro j;by_cases hj : m = j
  · subst hj
    rw [Iw];cases hd : d[m]? with
    | none => rw [bC]; · rfl
              rw [bU,Lt]; exact kP.1 hd
    | some p =>
      rw [iZ (by rw [Lt]; exact (aA.1 hd).1),dG,if_pos ⟨h,om⟩]
  rw [jG hj,Iw,Iw];cases d[j]? with
  | none => rfl
  | some p =>
    rw [dG,dG];congr 1;by_cases hc : a ≤ j ∧ j < m
    · rw [if_pos hc,if_pos ⟨hc.1,om⟩]
    rw [if_neg hc,if_neg om]
def KBt(g:Pg)(m:Nat):Pg:= {g with dir:=KBs g.dir g.many m,many:=m}
theorem uI{g:Pg}(h:g.Ok){m:Nat}(b:m≤120):(KBt g m).Ok:=⟨h.st,h.hdr,by show(KBs _ _ _).length=120;rw[Lt,h.dir],h.data,b,λp c=>by
    obtain⟨j,a⟩:=bD c;have a:(KBs g.dir g.many m)[j]? =some p:=a;rw[Iw]at a;cases hd:g.dir[j]? with
    |none=>rw[hd]at a;cases a
    |some q=>
      rw[hd]at a;simp at a;have:=h.ent q (aC hd);rw[← a];split
      · simp
      exact this,h.low⟩
def KCl (g : Pg) (k : Nat) (s : LU) : Pg :=
  let m := max g.many (k + 1)
  { g with dir := (KBs g.dir g.many m).set k (g.low - s.length,s.length),many := m,hdr := m,low := g.low - s.length
           data := g.data.take (g.low - s.length - 490) ++ (s ++ g.data.drop (g.low - s.length - 490 + s.length)) }
theorem Rep.put{g:Pg}{L:xR}{stamp:Nat}(h:Rep g L stamp){k:Nat}{s:LU}(hk:k<120)(hn:∀t,(k,t)∉L)(hs:tot L+s.length≤3600):Rep (KCl g k s) (KAE (k,s) L) stamp:=by
  obtain⟨ord,o1,o2,o3⟩:=h.ord;have hok:=h.ok;have hlow:=h.low;have hdl:=hok.data;have hml:=hok.many;have hp:=Jw (k,s) L;have htot:tot (KAE (k,s) L)=s.length+tot L:=by rw[Me hp,Dk]
  have hmax:g.many≤max g.many (k+1)∧k+1≤max g.many (k+1)∧(max g.many (k+1)=g.many∨max g.many (k+1)=k+1):=om;obtain⟨m,hm⟩:∃m,m=max g.many (k+1):=⟨_,rfl⟩;rw[← hm]at hmax;have em:(KCl g k s).many=m:=hm.symm;have ed:(KCl g k s).dir=(KBs g.dir g.many m).set k (g.low-s.length,s.length):=by rw[hm];rfl
  have hdk:(KCl g k s).dir[k]? =some (g.low-s.length,s.length):=by
    rw[ed,iZ (by rw[Lt,hok.dir];exact hk)]
  have hdj:∀j,j≠k→j<g.many→(KCl g k s).dir[j]? =g.dir[j]? :=by
    intro j hj hjm;rw[ed,jG (Ne.symm hj),Iw];cases g.dir[j]? with
    |none=>rfl
    |some p=>rw[dG,if_neg om]
  have okp:(KCl g k s).Ok:=by
    have e1:=uI hok (m:=m) om;have e2:=e1.ent;refine⟨hok.st,by show max g.many (k+1)<65536;omega,?_,?_,by rw[em];omega,?_,by show g.low-s.length≤4096;omega⟩
    · rw[ed,bU,Lt,hok.dir]
    · show(g.data.take (g.low-s.length-490)++(s++g.data.drop (g.low-s.length-490+s.length))).length=3606
      simp;omega
    intro p hp;rw[ed]at hp;rcases gG hp with hp|rfl
    · exact e2 p hp
    exact⟨by simp only;omega,by simp only;omega⟩
  refine⟨okp,h.st,h.stamp,rfl,LK _ _ h.sorted λp hp e=>hn p.2 (by have e':p.1=k:=e;rw[← e'];exact hp),?_,?_,?_,⟨(k,s)::ord,(o1.cons _).trans hp.symm,?_,?_⟩,om,?_⟩
  · intro p hp
    rw[em];rcases(JD _ _ _).1 hp with rfl|hp
    · simp only;omega
    have:=h.below _ hp;omega
  · rw[em]
    rcases hmax.2.2 with e|e
    · right
      rcases h.last with h0|⟨t,ht⟩
      · omega
      exact⟨t,by rw[e];exact(JD _ _ _).2 (.inr ht)⟩
    exact .inr ⟨s,by rw[e];exact(JD _ _ _).2 (.inl rfl)⟩
  · intro j hj hn'
    rw[em]at hj;have hjk:j≠k:=λe=>hn' s (by rw[e];exact(JD _ _ _).2 (.inl rfl));by_cases hjm:j<g.many
    · rw[dH,hdj j hjk hjm,← dH]
      exact h.free j hjm λt ht=>hn' t ((JD _ _ _).2 (.inr ht))
    rw[dH,ed,jG (Ne.symm hjk),Iw];cases g.dir[j]? with
    |none=>rfl
    |some p=>rw[dG,if_pos ⟨om,hj⟩];rfl
  · refine⟨hdk,?_⟩
    show Laid (KCl g k s).dir (g.low-s.length+s.length) ord;rw[show g.low-s.length+s.length=g.low by omega]
    have:∀(x:xR)(a:Nat),Laid g.dir a x→(∀p∈x,p∈L)→Laid (KCl g k s).dir a x:=by
      intro x
      induction x with
      |nil=>intro a h _;exact h
      |cons p x ih=>
        intro a hl hx;obtain⟨j,t⟩:=p;have hjL:=hx (j,t) (.head _);refine⟨?_,ih _ hl.2 λq hq=>hx q (.tail _ hq)⟩;rw[hdj j (λe=>hn t (by rw[← e];exact hjL)) (h.below _ hjL)];exact hl.1
    exact this ord g.low o2 λp hp=>o1.mem_iff.1 hp
  · show(g.data.take (g.low-s.length-490)++(s++g.data.drop (g.low-s.length-490+s.length))).drop (g.low-s.length-490)=_
    rw[drop_left _ _ _ (by rw[aJ,hdl];omega),bW];congr 1;rw[← o3];congr 1;omega
  show g.low-s.length+tot (KAE (k,s) L)=4096;omega
def xY(L:xR)(k:Int)(s:LU):xR×Int:=
  if k<0∨120≤k then(L,110)else if 3600<tot (wo L k.toNat)+s.length then(L,111)else(KAE (k.toNat,s) (wo L k.toNat),0)
def UW(b:Nat)(g:Pg)(L:xR)(stamp:Nat)(hR:Rep g L stamp)(k:Int)(s:LU)(w:Wq)(h:Blk w b g.cells 162):
    CP 110 #[pq b,I k,sv s] w λe w'=>e=Ej (I (xY L k s).2)∧∃g',Rep g' (xY L k s).1 stamp∧Hp [b] w w' [pgA b g']:=by
  apply Jdd;have H:Hp [b] w w [pgA b g]:=Hp.II (a:=pgA b g) h;have hmax:maxLen=9223372036854775807:=by simp[maxLen]
  refine AB (λh1=>?_) (λh1=>AB (λh2=>?_) (λh2=>?_))
  · rw[xY,if_pos (.inl h1)];exact⟨rfl,g,hR,H⟩
  · rw[xY,if_pos (.inr h2)];exact⟨rfl,g,hR,H⟩
  obtain⟨K,rfl⟩:∃K:Nat,k=K:=⟨k.toNat,om⟩;have hK:K<120:=om;have hsm:=hR.small;rw[xY,if_neg om,aN];refine AC (room_spec b g _ (zk hR.ok H EQ4 (by repeat first|exact .head _|refine .tail _ ?_))) ?_;rintro e w1 ⟨rfl,H'⟩;replace H:=H.xN H';refine⟨_,rfl,?_⟩;rw[hR.total_eq];refine AC (Js b g K _ (zk hR.ok H EQ4 (by repeat first|exact .head _|refine .tail _ ?_))) ?_;rintro e w2 ⟨rfl,H'⟩;replace H:=H.xN H';refine⟨_,_,rfl,?_⟩;rw[Gy]
  have hmem:(if 0≤(K:Int)∧(K:Int)<(g.many:Int)then((g.dir.getD (K:Int).toNat (0,0)).1:Int)else 0)=if K<g.many then(yA g K:Int)else 0:=by
    rw[aN];by_cases hc:K<g.many
    · rw[if_pos om,if_pos hc];rfl
    rw[if_neg om,if_neg hc]
  have hmem2:(if 0≤(K:Int)∧(K:Int)<(g.many:Int)then((g.dir.getD (K:Int).toNat (0,0)).2:Int)else 0)=if K<g.many then(lenOf g K:Int)else 0:=by
    rw[aN];by_cases hc:K<g.many
    · rw[if_pos om,if_pos hc];rfl
    rw[if_neg om,if_neg hc]
  rw[hmem,hmem2];have hlive:=hR.Jz (k:=K);refine xM.mk (λf w'=>f=3600-(tot (wo L K):Int)∧Hp [b] w w' [pgA b g]) ?_ ?_
  · clear H hmem hmem2
    rintro f w2 ⟨rfl,H⟩;refine AB (λhf=>?_) (λhf=>?_)
    · rw[if_pos om];exact⟨rfl,g,hR,H⟩
    rw[if_neg om];refine AC (Y1 b g L stamp hR K _ (H.ok _ (.head _))) ?_;rintro e w3 ⟨rfl,g',hR',H'⟩;replace H:=Hp.Bg H H';refine⟨rfl,?_⟩;have hno:∀t,(K,t)∉wo L K:=λt ht=>(Zv.1 ht).2 rfl;have hfin:=hR'.put hK hno (s:=s) om;have hgm:=hR'.ok.many;have hgl:=hR'.low;have hgd:=hR'.ok.data;refine xI.mk (λmm _ w'=>∃m,mm=121-m∧g'.many≤m∧m≤max g'.many (K+1)∧Hp [b] w w' [pgA b (KBt g' m)]) (121-g'.many) ⟨g'.many,rfl,aZ _,om,by unfold KBt;rw[extD_self];exact H⟩ ?_;rintro mm u w4 next ⟨m,rfl,hm1,hm2,H⟩ hnext
    have okm:=uI hR'.ok (m:=m) om;refine AA rfl ⟨_,by rw[zW];exact(zk okm H EQ4 (.head _)).JB,?_⟩;refine AB (λhle=>?_) (λhle=>?_)
    · have hle':m≤K:=by have h9:((m:Nat):Int)≤(K:Int):=hle;omega
      refine AA rfl ⟨_,by rw[zW];exact(zk okm H EQ4 (.head _)).JB,?_⟩;refine AC (Oz b _ m 0 0 om om om _ (zk okm H EQ4 (.head _))) ?_;rintro e w5 ⟨rfl,ok2,H'⟩;replace H:=Hp.Bg H H';refine⟨rfl,AA rfl ⟨_,by rw[zW];exact(zk ok2 H EQ4 (.head _)).JB,?_⟩⟩;show gB ((m:Int)+1)∧onP _ λa=>∃w1,St PP 3 _ (Addr.add a 4096) (I ((m:Int)+1)) w1∧_;refine⟨DT.2 om,AA rfl ?_⟩;rw[zW,show(m:Int)+1=((m+1:Nat):Int) by omega];refine Hp.st H EQ4 yF rfl rfl (by rw[ok2.KBo];omega) (Pg.ZR ok2 _) ?_;intro w6 H;refine hnext (121-(m+1)) _ _ om ⟨m+1,rfl,om,om,?_⟩
      have e:({KAB (KBt g' m) m 0 0 with many:=m+1}:Pg)=KBt g' (m+1):=by
        show({g' with dir:=(KBs g'.dir g'.many m).set m (0,0),many:=m+1}:Pg)=_;rw[extD_succ _ _ _ hm1];rfl
      rw[e]at H;exact H
    have hle':¬m≤K:=λh9=>hle (by show((m:Nat):Int)≤(K:Int);omega);have hmm:m=max g'.many (K+1):=om;have hb:∀k,({KBt g' m with hdr:=k}:Pg).bs=g'.st++(be (k:Int) 2++(zy (KBt g' m).dir++g'.data)):=λk=>rfl;refine AA rfl ⟨_,by rw[zW];exact(zk okm H EQ4 (.head _)).JB,?_⟩;refine AC (Jy b (KBt g' m) {KBt g' m with hdr:=m} g'.st (be g'.hdr 2) (zy (KBt g' m).dir++g'.data) 8 m (AU _ 2) hR'.ok.st om rfl (hb m) rfl rfl _ (zk okm H EQ4 (.head _))) ?_;rintro e w5 ⟨rfl,H'⟩;replace H:=Hp.Bg H H';have ok3:({KBt g' m with hdr:=m}:Pg).Ok:=⟨okm.st,by show m<65536;omega,okm.dir,okm.data,okm.many,okm.ent,okm.low⟩;refine⟨rfl,AA rfl ⟨_,by rw[zW];exact(zk ok3 H EQ4 (.head _)).SB,?_⟩⟩;show gB ((g'.low:Int)-(s.length:Int))∧onP _ λa=>∃w1,St PP 3 _ (Addr.add a 4097) (I ((g'.low:Int)-(s.length:Int))) w1∧_;have e1:(g'.low:Int)-(s.length:Int)=((g'.low-s.length:Nat):Int):=om;rw[e1];refine⟨DT.2 om,AA rfl ?_⟩;rw[zW];refine Hp.st H EQ4 yF rfl rfl (by rw[ok3.KBo];omega) (Pg.qy ok3 _) ?_;intro w6 H;obtain⟨g4,hg4⟩:∃g4:Pg,g4= {({KBt g' m with hdr:=m}:Pg)with low:=g'.low-s.length}:=⟨_,rfl⟩;have ok4:g4.Ok:=by rw[hg4];exact⟨ok3.st,ok3.hdr,ok3.dir,ok3.data,ok3.many,ok3.ent,by show g'.low-s.length≤4096;omega⟩
    rw[← hg4]at H;have hlow4:g4.low=g'.low-s.length:=by rw[hg4]
    refine AA rfl (AA rfl ⟨_,by rw[zW];exact(zk ok4 H EQ4 (.head _)).SB,?_⟩);dsimp only;rw[hlow4,aN,UF];refine⟨⟨om,om⟩,?_⟩;have hsl2:=ug (g'.low-s.length);refine Hp.cpy H EQ4 ZJ KEE.size (Src.ofString _ KCf ⟨s.toArray⟩) (by rw[Gy];omega) (by rw[Gy,ok4.KBo];omega) ?_;intro w7 H;rw[DF,X6 _ _ _ (by rw[Ah];omega),QJ ok4 om om]at H;have ok5:=Oq ok4 (i:=g'.low-s.length) (x:=s) om om;refine AA rfl ⟨_,by rw[zW];exact(zk ok5 H EQ4 (.head _)).SB,?_⟩;have hlow5:(He g4 (g'.low-s.length) s).low=g'.low-s.length:=hlow4;rw[hlow5];refine AC (Oz b _ K (g'.low-s.length) s.length hK om om _ (zk ok5 H EQ4 (.head _))) ?_;rintro e w8 ⟨rfl,_,H'⟩;replace H:=Hp.Bg (a:=pgA b _) H H';refine⟨rfl,rfl,_,hfin,?_⟩
    have e:KAB (He g4 (g'.low-s.length) s) K (g'.low-s.length) s.length=KCl g' K s:=by
      rw[hg4];unfold KCl KAB He KBt;simp only[← hmm]
    rw[e]at H;exact H
  intro J hJ;refine AB (λh0=>?_) (λh0=>?_)
  · have hkm:K<g.many:=by
      refine az λhn=>?_;rw[if_neg hn]at h0;omega
    rw[if_pos hkm]at h0⊢;obtain⟨t,ht⟩:=hR.Jz.1 ⟨hkm,om⟩;have hat:=hR.at_ ht;have hwt:=wo_tot hR.sorted ht;exact⟨DT.2 om,hJ _ _ ⟨om,H⟩⟩
  refine hJ _ _ ⟨?_,H⟩;rw[Sm];intro t ht;have hat:=hR.at_ ht;have:=hR.below _ ht;rw[if_pos this]at h0;omega
def lk(L:xR)(k:Int):Option (LU):=(L.find? λp=>decide ((p.1:Int)=k)).map (·.2)
def sQ{L:xR}{k:Int}(h:∀p∈L,(p.1:Int)≠k):lk L k=none:=by
 unfold lk;rw[mf.2 λp a=>by simpa using h p a];rfl
theorem rM{L:xR}(c:L.Pairwise λa b=>a.1<b.1){k:Nat}{s:LU}(h:(k,s)∈L):lk L (k:Int)=some s:=by
 unfold lk;cases hf:L.find? λp=>decide ((p.1:Int)=(k:Int))with
 |none=>have:=mf.1 hf _ h;simp at this
 |some p=>
  have d:=nG hf;have e:p.1=k:=by have:=List.find?_some hf;simp at this;omega
  have:(k,p.2)∈L:=by rw[<- e];exact d
  rw[dG,one_key c this h]
theorem LZ{L:xR}(k:Int):(lk L k=none/\∀p∈L,(p.1:Int)≠k)\/∃(K:Nat)(s:LU),k=K/\(K,s)∈L/\lk L k=some s:=by
 unfold lk;cases hf:L.find? λp=>decide ((p.1:Int)=k)with
 |none=>exact .inl ⟨rfl,λp c=>by have:=mf.1 hf p c;simpa using this⟩
 |some p=>
  have a:=List.find?_some hf;simp at a;exact .inr ⟨p.1,p.2,a.symm,nG hf,rfl⟩
section
variable{b:Nat}{g:Pg}{L:xR}{stamp:Nat}{w:World}
def get_any(a:Rep g L stamp)(h:Blk w b g.cells 162)(k:Int):
  CP 48 #[pq b,I k] w λe w'=>e=Ej (.tuple #[sv ((lk L k).getD []),.bool (lk L k).isSome])/\Hp [] w w' []:=by
 refine Calls.mono (get_spec b g k w ⟨a.ok,h⟩ a.fit) ?_;rintro e w' ⟨rfl,H⟩;refine⟨?_,H⟩;rcases LZ k with⟨i,c⟩|⟨K,s,rfl,c,f⟩
 ·rw[i,if_neg]
  ·rfl
  rintro⟨f,m,j⟩;obtain⟨s,l⟩:=a.Jz.1 ⟨om,j⟩;exact c _ l (by simp only;omega)
 have d:=a.at_ c;have:=a.below _ c;rw[f,if_pos ⟨om,by simp only at this;omega,by rw[aN];omega⟩,aN,d.2.2.2];rfl
def slots_any(d:Rep g L stamp)(h:Blk w b g.cells 162):
  CP 47 #[pq b] w λe w'=>∃a c,e=Ej (.slice a L.length c)/\Hp [] w w' [.own 3 1 a L.length c (KCb (L.map (·.1)))]:=by
 refine Calls.mono (slots_spec b g w ⟨d.ok,h⟩) ?_;rintro e w' ⟨a,c,rfl,H⟩;rw[d.TC,aQ]at H⊢;exact⟨a,c,rfl,H⟩
def zx(L:xR)(k:Int):xR×Int:=if(lk L k).isSome then(wo L k.toNat,0)else(L,110)
def delete_any(c:Rep g L stamp)(h:Blk w b g.cells 162)(k:Int):
  CP 167 #[pq b,I k] w λe w'=>e=Ej (I (zx L k).2)/\∃d,Rep d (zx L k).1 stamp/\Hp [b] w w' [pgA b d]:=by
 apply Jac;have H:Hp [b] w w [pgA b g]:=Hp.II (a:=pgA b g) h;refine AC (Js b g k _ (zk c.ok H EQ4 (by repeat first|exact .head _|refine .tail _ ?_))) ?_;rintro e t ⟨rfl,i⟩;replace H:=H.xN i;refine⟨_,_,rfl,?_⟩;unfold zx;rcases LZ k with⟨n,f⟩|⟨K,s,rfl,f,o⟩
 ·rw[n];refine AB (λ_=>⟨rfl,g,c,H⟩) (λj=>absurd ?_ j);split
  ·rename_i u;refine az λx=>?_;obtain⟨s,p⟩:=c.Jz.1 ⟨show k.toNat<g.many by omega,by show 0<(g.dir.getD k.toNat (0,0)).1;omega⟩;exact f _ p (by simp only;omega)
  rfl
 have q:=c.at_ f;have l:=c.below _ f;simp only at l
 have r:(if 0<=(K:Int)/\(K:Int)<(g.many:Int)then((g.dir.getD (K:Int).toNat (0,0)).1:Int)else 0)=(yA g K:Int):=by
  rw[if_pos om,aN];rfl
 rw[r,o];refine AB (λj=>absurd j om) (λ_=>?_);refine AC (Y1 b g L stamp c K _ (H.ok _ (.head _))) ?_;rintro e y ⟨rfl,d,m,i⟩;replace H:=Hp.Bg H i;refine⟨rfl,rfl,d,?_,H⟩;rw[aN];exact m
def ff:Nq->Nat->Nat
 | [],n=>n
 |k::r,n=>ff r (if k=n then n+1 else n)
theorem ff_snoc(l:Nq)(k:Nat):∀n,ff (l++[k]) n=if k=ff l n then ff l n+1 else ff l n:=by
 induction l with
 |nil=>intro n;rfl
 |cons x r a=>intro n;exact a _
theorem xA(l:Nq):∀n,ff l n<=n+l.length:=by
 induction l with
 |nil=>intro n;exact aZ _
 |cons x r a=>
  intro n;have:=a (if x=n then n+1 else n);rw[ff,aK];have c:(if x=n then n+1 else n)<=n+1:=by split<;>omega
  omega
def zJ(L:xR)(s:LU):xR×Int×Int:=
 let n:=ff (L.map (·.1)) 0
 if 120<=n then(L,0,111)else if(xY L n s).2=0 then((xY L n s).1,n,0)else(L,0,(xY L n s).2)
def ZQ{L:xR}{k:Int}{s:LU}(h:(xY L k s).2≠0):(xY L k s).1=L:=by
 unfold xY at h⊢;split
 ·rfl
 rename_i a;rw[if_neg a]at h;split
 ·rfl
 rename_i c;rw[if_neg c]at h;exact absurd rfl h
def insert_any(hR:Rep g L stamp)(h:Blk w b g.cells 162)(s:LU):
  CP 173 #[pq b,sv s] w λe w'=>e=Ej (.tuple #[I (zJ L s).2.1,I (zJ L s).2.2])/\∃g',Rep g' (zJ L s).1 stamp/\Hp [b] w w' [pgA b g']:=by
 first|apply Jbk|apply insert.ok
 have H:Hp [b] w w [pgA b g]:=Hp.II (a:=pgA b g) h;have hm:=hR.ok.many
 (intro _ _ hn;replace H:=H.nw hn;clear hn)
 (refine H.sx yF ?_;clear H;intro _ H;(try simp only[over,bz,bu]at H))
 rename_i b1 _ w1
 replace H:Hp [b] w w1 [pgA b g,.blk b1 [I ((ff (live g 0) 0:Nat):Int)] 3]:=by
  have H:Hp [b] w w1 [.blk b1 [I ((ff (live g 0) 0:Nat):Int)] 3,pgA b g]:=H;exact H.AX
 refine⟨_,_,_,rfl,⟨_,_,Tryz.func85,rfl⟩,?_⟩
 refine KX b g.many (λ_ _=>g) (λk (_:Unit)=>[pgA b g,.blk b1 [I ((ff (live g k) 0:Nat):Int)] 3]) (λ_ _=>True) (λ_:Unit=>[]) (λ_=>False) () trivial H
  (λk x w' T _ H=>⟨zk hR.ok H EQ4 (.head _),rfl⟩) (λk x hk _ h0=>⟨x,trivial,by rw[Jq,if_neg (by omega)]⟩) ?_ ?_ (λy D w' hs _=>hs.elim)
 ·clear H
  intro k x hk _ h0 w' T0 T1 begin kn kr kx _ hbeg hkn _;refine hbeg _ λw2 H=>?_;simp at H;have hfl:=xA (live g k) 0;have hll:=TT g k;have hsn:=ff_snoc (live g k) k 0;have hsu:=Jq g k;rw[if_pos h0]at hsu;rw[<- hsu]at hsn
  (refine⟨_,H.lo yF,?_⟩)
  refine AB (λhe=>?_) (λhe=>?_)
  ·have he':k=ff (live g k) 0:=by have h9:(k:Int)=((ff (live g k) 0:Nat):Int):=he;omega
   rw[if_pos he']at hsn
   (refine⟨_,H.lo yF,?_⟩)
   refine⟨iR,?_⟩;refine Hp.st H.AX EQ4 yF rfl rfl (by simp) rfl ?_;intro w3 H;refine hkn _ () trivial ?_;rw[hsn];exact H.AX
  have he':¬k=ff (live g k) 0:=λh9=>he (by omega)
  rw[if_neg he']at hsn;refine hkn _ () trivial ?_;rw[hsn];exact H
 clear H
 intro x D w' _ H;simp at H;rw[hR.TC]at H;unfold zJ;obtain⟨n,hn⟩:∃n,n=ff (L.map (·.1)) 0:=⟨_,rfl⟩;rw[<- hn]at H;simp only[<- hn]
 (refine⟨_,H.lo yF,?_⟩)
 refine AB (λh0=>?_) (λh0=>?_)
 ·rw[if_pos (by have h9:(120:Int)<=(n:Int):=h0;omega)]
  exact Hp.shut H.BF λw1 H=>⟨rfl,g,hR,H.Nb⟩
 rw[if_neg (by have h9:¬(120:Int)<=(n:Int):=h0;omega)]
 (refine⟨_,H.lo yF,?_⟩)
 refine AC (UW b g L stamp hR n s _ (H.ok _ (.head _))) ?_;rintro e w3 ⟨rfl,g',hR',H'⟩;replace H:=Hp.Bg H H';refine⟨_,rfl,AQ (λhz=>?_) (λhz=>?_)⟩
 ·rw[if_neg hz]
  refine Hp.shut H.BF λw1 H=>⟨rfl,g',?_,H.Nb⟩;rw[ZQ hz]at hR';exact hR'
 rw[if_pos hz]
 (refine⟨_,H.lo yF,?_⟩)
 exact Hp.shut H.BF λw1 H=>⟨rfl,g',hR',H.Nb⟩
end
theorem uU(n:Int):∀(m k:Nat),k<m->(be n m)[k]? =some (bt n (m-1-k))
 |0,k,h=>by omega
 |m+1,0,_=>rfl
 |m+1,k+1,h=>by
  rw[be,bI,uU n m k om];congr 2;omega
def rZ(n:Int):Prop:=0<=n/\n<=4611686018427387904
instance (n:Int):Decidable (rZ n):=by unfold rZ;infer_instance
def gZ(low:Nat):Pg:= {st:=List.replicate 8 0,hdr:=0,dir:=List.replicate 120 (0,0),data:=List.replicate 3606 0,many:=0,low:=low}
def vF{low:Nat}(h:low<=4096):(gZ low).Ok:=⟨dQ,by show 0<65536;omega,dQ,dQ,by show 0<=120;omega,λp a=>by rw[nR a];simp,h⟩
def zl54:zl PP 162=(gZ 0).cells:=by kernel_rfl
def new54:KEg PP 162 [(2,I 4096)]=(gZ 4096).cells:=by kernel_rfl
def wG:Rep (gZ 4096) [] 0:=⟨vF om,by decide,om,rfl,.nil,by simp,.inl rfl,λk a=>by have:k<0:=a;omega,⟨[],.refl _,rfl,by show(List.replicate 3606 (0:UInt8)).drop 3606=[];simp⟩,by simp[tot],by simp[tot,gZ]⟩
def new_any(w:Wq):CP 123 #[] w λe w'=>∃b,e=Ej (pq b)/\Hp [] w w' [pgA b (gZ 4096)]:=by
 apply Je5;have H:=Hp.start w;rw[new54]
 (intro _ _ a;replace H:=H.nw a;clear a)
 exact⟨_,rfl,H⟩
def over_full{l cs:LV}(h:l.length=cs.length):over l 0 cs=l:=by
 apply dN;intro k;rw[Ip _ _ _ om];by_cases a:k<l.length
 ·rw[if_pos om,kN]
 rw[if_neg om,bC om,bC om]
def cells_one(g:Pg):g.cells.all (·.oneCell')=true:=by
 rw[fQ];intro u a;rcases aT.1 a with h|h
 ·exact OZ _ u h
 rcases aP.1 h with rfl|h
 ·rfl
 rcases aP.1 h with rfl|h
 ·rfl
 cases h
def clone_any(b:Nat)(g:Pg)(w:Wq)(h:zf w b g):
  CP 53 #[pq b] w λe w'=>∃a,e=Ej (pq a)/\Hp [] w w' [pgA a g]:=by
 apply Jab;have H:=Hp.start w;refine AA rfl ⟨Ae g.bs,_,_,Blk.ldA (vs:=g.cells) h.2 uq.agg (by rw[h.1.KBo];exact uq.size) (by rw[fF];exact bJ),?_⟩;rw[zl54]
 (intro _ _ c;replace H:=H.nw c;clear c)
 refine Hp.stA (vs:=g.cells) H EQ4 uq h.1.KBo (cells_one g) (by rw[(vF om).KBo];omega) (over_full (by rw[h.1.KBo,(vF om).KBo])) ?_;intro d H;exact⟨_,rfl,H⟩
end Go.Proofs.YtljenkbpnioipaaGreat.Sl
