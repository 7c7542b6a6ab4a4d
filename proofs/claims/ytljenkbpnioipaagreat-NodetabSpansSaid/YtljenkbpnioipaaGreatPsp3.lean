/- Part 3 of 6 of the proof of nodetabSpans_holds: for every input, from every world that may be reached. -/
import Derived.Test.YtljenkbpnioipaaGreatPsp2
set_option linter.unusedVariables false
set_option linter.unusedSimpArgs false
set_option maxRecDepth 100000
set_option maxHeartbeats 4000000
open List(append_assoc append_nil append_of_mem cons_append drop_drop drop_one drop_succ_cons eq_nil_of_length_eq_zero filter_cons flatMap_append flatMap_cons getElem_cons_drop length_append length_cons length_drop length_map length_nil length_pos_iff length_take map_append map_cons map_drop map_map map_take mem_append mem_append_left mem_append_right mem_cons mem_filter mem_map mem_of_getElem? mem_of_mem_drop mem_singleton nil_append nodup_append nodup_cons pairwise_cons perm_append_comm perm_append_comm_assoc perm_middle size_toArray take_append_drop take_length take_of_length_le take_succ_cons take_succ_eq_append_getElem take_zero)
namespace Go.Vc
theorem Uf{P:Program}{g:FuncId}{fn:Func}{c:Code}{a b:Array Value}{args:List Value}{w:World}{R:Ending->World->Prop}(h:P.funcs[g]? =some fn)(d:fn.body=some c)(hc:BL P g (a.toList++args++b.toList) w R):Ee P (.func (.func g) a b) args w R:=by
 unfold Ee;simp only[h,d];exact hc
end Go.Vc
namespace Go.Proofs.YtljenkbpnioipaaGreat
open Go Go.Vc Go.Nod
def AllC(p:Int->Bool->Prop)(cs:List Int):Prop:=∀(j:Nat)(c:Int),cs[j]? =some c->p c (decide (j=0))
def EachR(p:Int->Bool->Prop)(l:List UInt8)(e:Ending):Prop:=
 (∃cs,Gl l cs/\AllC p cs/\e=.returned (.int .i64 (cs.length:Int)))\/((∀cs,Gl l cs->¬AllC p cs)/\e=.returned (.int .i64 (-1)))
theorem MO:∀(a:List Int){t:List UInt8}{cs:List Int},(∀c∈a,Bj c)->Gl (a.flatMap encP++t) cs->∃r,cs=a++r/\Gl t r
 | [],t,cs,_,h=>⟨cs,rfl,h⟩
 |c::a,t,cs,hp,h=>by
  rw[flatMap_cons,append_assoc]at h
  have b:=hp c (.head _)
  have f:encP c++(a.flatMap encP++t)≠[]:=fun e=>by
   have:=Jl b
   have j:=congrArg List.length e
   rw[length_append,length_nil]at j
   omega
  obtain⟨d,r,rfl,k,i⟩:=h.cons f
  have:d=c:=k.one ⟨b,List.prefix_append _ _⟩
  subst this
  rw[List.drop_left]at i
  obtain⟨l,rfl,g⟩:=MO a (fun c b=>hp c (.tail _ b)) i
  exact⟨l,rfl,g⟩
theorem UB(s:ByteArray)(hs:s.size<=maxLen)(p:Int->Bool->Prop)(fa:Option Addr)(n fc:Nat)(J:Value)(w:World)(hn:n<=1)
  (h0:n=0->∀c b,p c b) (h1:n=1->∃b T,fa=some ⟨b,0,none⟩/\Blk w b [J] T)
  (hc:n=1->∀c b w',Ee Tryz.prog J [.int .i32 c,.bool b] w' fun e K=>e=.returned (.bool (dec (p c b)))/\Hp [] w' K []):
  Calls Tryz.prog 184 #[.string s,.slice fa n fc] w fun e w'=>EachR p s.data.toList e/\Hp [] w w' []:=by
 apply yEach.ok;unfold yEach.vc
 obtain⟨l,L⟩:∃l,l=s.data.toList:=⟨_,rfl⟩
 have ac:l.length=s.size:=by rw[L];exact BF s
 rw[<- L]
 simp only[maxLen]at hs
 refine AP.mk (fun m st w'=>∃a:List Int,m=st.1.size/\(∀c∈a,Bj c)/\a.flatMap encP++st.1.data.toList=l/\AllC p a/\st.2=(a.length:Int)/\a.length+st.1.size<=s.size/\Hp [] w w' []) s.size ⟨[],rfl,by simp,by rw[L];rfl,fun j c h=>(by cases h),rfl,by simp,Hp.start w⟩ ?_
 rintro m ⟨t,aa⟩ K next ⟨a,rfl,F,f,q,rfl,ab,H⟩ x
 dsimp only at*
 refine AV (fun h=>?_) (fun h=>?_)
 ·refine AC (yNext_spec t (by simp only[maxLen];omega) K) ?_
  rintro e w3 ⟨⟨c,y,rfl⟩|⟨M,z,rfl⟩,G⟩
  ·replace H:=H.ext0 G
   have ad:=Jl y.1
   have N:=y.2.length_le
   rw[BF]at N
   refine⟨_,_,rfl,AB (fun h=>by omega) (fun _=>?_)⟩
   have hb:(decide ((a.length:Int)=0))=decide (a.length=0):=by
    rw[decide_eq_decide];omega
   have go:∀B,Hp [] w B []->p c (decide (a.length=0))->inR .i64 ((a.length:Int)+1)/\(0<=((encP c).length:Int)/\((encP c).length:Int)<=(t.size:Int))/\next (t.extract (Int.toNat ((encP c).length:Int)) t.size,(a.length:Int)+1) B:=by
    intro B H O
    refine⟨DD.2 (by omega),⟨by omega,by omega⟩,?_⟩
    rw[Int.toNat_natCast]
    have hx:(t.extract (encP c).length t.size).data.toList=t.data.toList.drop (encP c).length:=by
     rw[Jh,take_of_length_le (by rw[BF];exact Nat.le_refl _)]
    have C:(t.extract (encP c).length t.size).size=t.size-(encP c).length:=by rw[<- BF,hx,length_drop,BF]
    refine x (t.size-(encP c).length) _ _ (by omega) ⟨a++[c],C.symm,fun d g=>?_,?_,fun j d A=>?_,by simp,by simp only[C,length_append,length_cons,length_nil];omega,H⟩
    ·rcases mem_append.1 g with h|h
     ·exact F d h
     ·rw[mem_singleton.1 h];exact y.1
    ·show(a++[c]).flatMap encP++(t.extract (encP c).length t.size).data.toList=l
     rw[hx,<- f,flatMap_append,append_assoc]
     congr 1
     obtain⟨u,hu⟩:=y.2
     rw[<- hu,List.drop_left];simp
    ·by_cases e:j<a.length
     ·rw[List.getElem?_append_left e]at A;exact q j d A
     ·rw[List.getElem?_append_right (by omega)]at A
      have:j=a.length:=by
       have:=(List.getElem?_eq_some_iff.1 A).1
       simp at this;omega
      subst this
      rw[Nat.sub_self]at A;cases A
      exact O
   refine AP.mk (fun m st w'=>∃k:Nat,m=n-k/\k<=n/\st=(k:Int)/\Hp [] w w' []/\(k=1->p c (decide (a.length=0)))) n ⟨0,rfl,by omega,rfl,H,by omega⟩ ?_
   clear H
   rintro m st B R ⟨k,rfl,hk,rfl,H,U⟩ o
   refine AB (fun h4=>?_) (fun h4=>?_)
   ·have D:n=1:=by omega
    have X:k=0:=by omega
    subst X
    obtain⟨b,T,rfl,hB⟩:=h1 D
    refine AA rfl ⟨⟨by omega,h4⟩,J,(hB.chg H.chg (by simp)).ld yFn.agg rfl,?_⟩
    rw[hb]
    refine aG (hc D _ _ _) ?_
    rintro _ w5 ⟨rfl,G⟩
    replace H:=H.ext0 G
    refine⟨_,rfl,F5 (fun Y=>⟨.inr ⟨fun cs i ha=>Y ?_,rfl⟩,H⟩) (fun Y=>⟨DD.2 (by omega),o 0 _ _ (by omega) ⟨1,by omega,by omega,rfl,H,fun _=>Y⟩⟩)⟩
    rw[<- f]at i
    obtain⟨r,rfl,Z⟩:=MO a F i
    obtain⟨d,r2,rfl,g,_⟩:=Z.cons (fun e=>by
     have:=y.2;rw[e]at this
     exact XV ⟨y.1,this⟩)
    have:=g.one y
    subst this
    exact ha a.length d (by simp)
   ·refine go B H ?_
    rcases Nat.eq_zero_or_pos n with e|e
    ·exact h0 e _ _
    ·exact U (by omega)
  ·refine⟨_,_,rfl,AB (fun _=>⟨.inr ⟨fun cs i _=>?_,rfl⟩,H.ext0 G⟩) (fun h=>(h rfl).elim)⟩
   rw[<- f]at i
   obtain⟨r,rfl,Z⟩:=MO a F i
   obtain⟨d,r2,rfl,g,_⟩:=Z.cons (fun e=>h (Em.2 e))
   exact M d g
 ·have h:=Em.1 h
  rw[h,append_nil]at f
  exact⟨.inl ⟨a,⟨F,f⟩,q,rfl⟩,H⟩
theorem Qd(s:ByteArray)(c:s.size<=maxLen)(w:World):Calls Tryz.prog 217 #[.string s] w fun e w'=>(∃z,e=.returned (.int .i64 z)/\(z<0↔¬VT s))/\Hp [] w w' []:=by
 apply yCount.ok;unfold yCount.vc;refine AC (UB s c (fun _ _=>True) none 0 0 (.bool true) w (by omega) (fun _ _ _=>trivial) (by omega) (by omega)) ?_;rintro e f ⟨⟨a,b,_,rfl⟩|⟨b,rfl⟩,H⟩
 ·exact⟨_,rfl,⟨_,rfl,by omega,fun h=>(h ⟨a,b⟩).elim⟩,H⟩
 ·exact⟨_,rfl,⟨_,rfl,fun _ ⟨a,d⟩=>b a d fun _ _ _=>trivial,fun _=>by omega⟩,H⟩
theorem yName1_spec(c:Int)(first:Bool)(w:World):Calls Tryz.prog 185 #[.int .i32 c,.bool first] w fun e w'=>e=.returned (.bool (dec (GZ c/\(first=true->Dc c))))/\Hp [] w w' []:=by
 apply yName1.ok;unfold yName1.vc;refine AC (yPart_spec c w) ?_;rintro _ d ⟨rfl,H⟩;refine⟨_,rfl,br_d (fun h=>?_) (fun h=>⟨congrArg (fun b=>Ending.returned (Value.bool b)) (Bf fun a=>h a.1),H⟩)⟩
 cases first with
 |false=>exact⟨congrArg (fun b=>Ending.returned (Value.bool b)) (CZ ⟨h,fun h=>by cases h⟩),H⟩
 |true=>
  refine AC (QT c d) ?_;rintro _ g ⟨rfl,f⟩;refine⟨_,rfl,?_,H.ext0 f⟩;rw[Ending.returned.injEq,Value.bool.injEq,Bool.eq_iff_iff,EJ,EJ];exact⟨fun a=>⟨h,fun _=>a⟩,fun a=>a.2 rfl⟩
theorem IE(s:ByteArray)(w:World):Calls Tryz.prog 127 #[.string s] w fun e w'=>e=.returned (.bool (dec (Cb s)))/\Hp [] w w' []:=by
 apply yName.ok;unfold yName.vc;refine AV (fun h=>AB (fun p=>?_) (fun p=>⟨by rw[Bf fun i:Cb s=>p (by have:=i.2.1;omega)],Hp.start w⟩)) (fun h=>⟨by rw[Bf fun i:Cb s=>by rw[h]at i;exact absurd i.1 (by decide)],Hp.start w⟩);intro b t u;have H:=(Hp.start w).nw u
 have y:s.size<=maxLen:=by simp only[maxLen];omega
 refine AC (UB s y (fun c f=>GZ c/\(f=true->Dc c)) (some ⟨b,0,none⟩) 1 1 _ t (by omega) (by omega) (fun _=>⟨b,_,rfl,H.blk (.head _)⟩) fun _ c f w'=>?_) ?_
 ·refine Uf Tryz.func185 rfl ⟨yName1_spec c f w'⟩
 have a:s.data.toList≠[]:=fun e=>h (Em.2 e)
 have d:1<=s.size:=by
  rw[<- BF];exact length_pos_iff.2 a
 rintro e D ⟨⟨k,g,q,rfl⟩|⟨g,rfl⟩,r⟩
 ·refine⟨_,rfl,?_,(H.ext0 r).drop⟩
  have n:k≠[]:=fun e=>a (by rw[e]at g;exact g.2.symm);have F:=length_pos_iff.2 n
  have o:Cb s:=by
   refine⟨d,by omega,k,g,fun c l=>?_,fun c l=>?_⟩
   ·obtain⟨j,m⟩:=List.getElem?_of_mem l
    exact(q j c m).1
   ·rw[List.head?_eq_getElem?]at l
    exact(q 0 c l).2 rfl
  rw[<- CZ o];exact congrArg (fun x=>Ending.returned (Value.bool x)) (decide_eq_true (by omega))
 ·refine⟨_,rfl,?_,(H.ext0 r).drop⟩
  have o:¬Cb s:=fun⟨_,_,k,z,A,B⟩=>g k z fun j c m=>⟨A c (mem_of_getElem? m),fun C=>B c (by
   have:j=0:=by simpa using C
   subst this
   rw[List.head?_eq_getElem?];exact m)⟩
  rw[<- Bf o];rfl
theorem iSAt:Scl Tryz.prog 69:=BK (by kernel_rfl)
theorem Gs:Agg Tryz.prog 142 2:=Ci (by kernel_rfl)
theorem DZ:Agg Tryz.prog 123 5:=Ci (by kernel_rfl)
theorem ieltAt:Elt Tryz.prog 69 142 2 32:=CW (by kernel_rfl)
theorem dY:Elt Tryz.prog 34 123 5 72:=CW (by kernel_rfl)
theorem iundAt:Tryz.prog.underlying 69=some (.slice 142):=by kernel_rfl
theorem dh:Tryz.prog.underlying 34=some (.slice 123):=by kernel_rfl
abbrev Sl3:=Option Addr×Nat×Nat
def atC(l:List At):List Value:=l.flatMap fun p=>[.string p.1,.string p.2]
theorem Lt(l:List At):(atC l).length=l.length*2:=by
 induction l with
 |nil=>rfl
 |cons p r a=>simp only[atC,flatMap_cons,length_append,length_cons,length_nil]at a⊢;omega
theorem II(a b:List At):atC (a++b)=atC a++atC b:=by simp[atC]
theorem MF(l:List At):∀u∈atC l,u.oneCell'=true:=by
 intro u b;obtain⟨p,_,a⟩:=List.mem_flatMap.1 b;simp at a;rcases a with rfl|rfl<;>rfl
theorem J3:∀{l:List At}{k:Nat}{p:At},l[k]? =some p->((atC l).drop (k*2)).take 2=[.string p.1,.string p.2]
 |q::r,0,p,h=>by cases h;rfl
 |q::r,k+1,p,h=>by
  rw[show(k+1)*2=2+k*2 by omega,<- drop_drop];exact J3 (l:=r) (by simpa using h)
theorem Xx(l:List At)(k:Nat):(atC l).drop (k*2)=atC (l.drop k):=by
 induction l generalizing k with
 |nil=>simp[atC]
 |cons p r a=>
  cases k with
  |zero=>rfl
  |succ k=>
   rw[show(k+1)*2=2+k*2 by omega,<- drop_drop,drop_succ_cons,<- a];rfl
structure AtR(w:World)(a:Option Addr)(n:Nat)(l:List At):Prop where
 len:n=l.length
 cells:Cells w a (atC l)
theorem AtR.chg{w w':World}{a:Option Addr}{n:Nat}{l:List At}{B:List Nat}(h:AtR w a n l)(hc:Chg B w w')(b:∀k∈blks a,k∉B):AtR w' a n l:=⟨h.len,h.cells.chg hc b⟩
theorem AtR.go{w w':World}{a:Option Addr}{n:Nat}{l:List At}{L:List Asn}(h:AtR w a n l)(H:Hp [] w w' L):AtR w' a n l:=h.chg H.chg (by simp)
def itC(x:It)(s:Sl3):List Value:=[.int .i64 x.level,.int .i64 x.x.kind,.string x.x.name,.string x.x.text,.slice s.1 s.2.1 s.2.2]
def itsC(l:List It)(ss:List Sl3):List Value:=(List.zipWith itC l ss).flatten
theorem XH:∀{l:List It}{ss:List Sl3}{k:Nat}{x:It}{s:Sl3},l[k]? =some x->ss[k]? =some s->((itsC l ss).drop (k*5)).take 5=itC x s
 |y::l,t::ss,0,x,s,h,h'=>by cases h;cases h';rfl
 |y::l,t::ss,k+1,x,s,h,h'=>by
  rw[show(k+1)*5=5+k*5 by omega,<- drop_drop];exact XH (l:=l) (ss:=ss) (by simpa using h) (by simpa using h')
 | [],_,k,x,s,h,h'=>by simp at h
 |_::_,[],k,x,s,h,h'=>by simp at h'
theorem itsC_one{l:List It}{ss:List Sl3}{k j:Nat}{x:It}{s:Sl3}{v:Value}(h:l[k]? =some x)(b:ss[k]? =some s)(a:(itC x s)[j]? =some v):(itsC l ss)[k*5+j]? =some v:=by
 have c:=XH h b
 have d:j<5:=by
  have:=(List.getElem?_eq_some_iff.1 a).1;simpa [itC]using this
 rw[<- c,List.getElem?_take_of_lt d,List.getElem?_drop]at a;exact a
structure ItR(w:World)(a:Option Addr)(n:Nat)(l:List It)(ss:List Sl3):Prop where
 len:n=l.length
 ssl:ss.length=l.length
 cells:Cells w a (itsC l ss)
 attrs:∀(k:Nat)(x:It)(s:Sl3),l[k]? =some x->ss[k]? =some s->AtR w s.1 s.2.1 x.x.attrs
theorem ItR.go{w w':World}{a:Option Addr}{n:Nat}{l:List It}{ss:List Sl3}{L:List Asn}(h:ItR w a n l ss)(H:Hp [] w w' L):ItR w' a n l ss:=
 ⟨h.len,h.ssl,h.cells.chg H.chg (by simp),fun k x s b c=>(h.attrs k x s b c).go H⟩
theorem ItR.at_{w:World}{a:Option Addr}{n:Nat}{l:List It}{ss:List Sl3}(h:ItR w a n l ss){k:Nat}(d:k<n):∃x s,l[k]? =some x/\ss[k]? =some s/\AtR w s.1 s.2.1 x.x.attrs:=by
 have e:=h.len;have f:=h.ssl;have b:l[k]? =some (l[k]'(by omega)):=List.getElem?_eq_getElem (by omega);have c:ss[k]? =some (ss[k]'(by omega)):=List.getElem?_eq_getElem (by omega);exact⟨_,_,b,c,h.attrs k _ _ b c⟩
theorem ItR.some{w:World}{a:Option Addr}{n:Nat}{l:List It}{ss:List Sl3}(h:ItR w a n l ss){k:Nat}{x:It}{s:Sl3}(f:l[k]? =some x)(g:ss[k]? =some s):∃b,a=Option.some b/\Ld Tryz.prog 123 w (b.add (k*5)) (.agg (itC x s).toArray):=by
 have c:=XH f g;obtain⟨b,d⟩:=h.cells.some (fun e=>by rw[e]at c;simp[itC]at c);exact⟨b,d,h.cells.ldA DZ d c rfl⟩
theorem ItR.ld{w:World}{a:Option Addr}{n:Nat}{l:List It}{ss:List Sl3}(h:ItR w a n l ss){k:Nat}{x:It}{s:Sl3}(c:l[k]? =Option.some x)(d:ss[k]? =Option.some s){b:Addr}(e:a=Option.some b){t:TypeId}(S:Scl Tryz.prog t){j:Nat}{v:Value}(f:(itC x s)[j]? =Option.some v):Ld Tryz.prog t w (b.add (k*5+j)) v:=
 h.cells.ld S e (itsC_one c d f)
theorem QR(s:ByteArray)(d:s.size<=maxLen)(w:World):Calls Tryz.prog 179 #[.string s] w fun e w'=>e=.returned (.int .i64 (BJ s))/\Hp [] w w' []:=by
 apply pChars.ok;unfold pChars.vc;refine AC (Qd s d w) ?_;rintro _ f ⟨⟨z,rfl,b⟩,H⟩;refine⟨_,rfl,AB (fun h=>⟨?_,H⟩) (fun h=>?_)⟩
 ·rw[BJ,if_pos (b.1 h)]
 ·have c:¬¬VT s:=fun a=>h (b.2 a)
  refine AB (fun a=>⟨?_,H⟩) (fun a=>⟨?_,H⟩)
  ·rw[BJ,if_neg c,if_pos (by omega)]
  ·rw[BJ,if_neg c,if_neg (by omega)]
theorem RD{a b:ByteArray}:(Op.bytesLess a.data.toList b.data.toList||decide (a=b))=true↔¬ltB b a:=by
 rw[Go.Proofs.bytesLess_eq,Bool.or_eq_true,decide_eq_true_eq,decide_eq_true_eq];constructor
 ·rintro(h|rfl)
  ·exact fun c=>VP h c
  ·exact EQ _
 ·intro h
  rcases OI a b with c|c|c
  ·exact .inl c
  ·exact .inr c
  ·exact(h c).elim
def TG(x:NX):Prop:=x.name.size<=maxLen/\x.text.size<=maxLen/\∀a∈x.attrs,a.1.size<=maxLen/\a.2.size<=maxLen
theorem name_ne{s:ByteArray}(h:Cb s):ltB ⟨#[]⟩ s:=by
 have a:s.data.toList≠[]:=fun e=>by
  have:=h.1;rw[<- BF,e]at this;simp at this
 obtain⟨x,t,b⟩:=List.exists_cons_of_ne_nil a;show([]:List UInt8)<s.data.toList;rw[b];exact List.nil_lt_cons _ _
theorem OW{l:List At}{k:Nat}{p:At}(f:l[k]? =some p)(h:Rs (l.take k))(i:∀q,(l.take k).getLast? =some q->ltB q.1 p.1):Rs (l.take (k+1)):=by
 have j:=(List.getElem?_eq_some_iff.1 f).1
 have e:l.take (k+1)=l.take k++[p]:=by
  rw[take_succ_eq_append_getElem j,(List.getElem?_eq_some_iff.1 f).2]
 rw[e];refine List.pairwise_append.2 ⟨h,by simp,fun a c b m=>?_⟩;rw[mem_singleton.1 m]
 cases hlast:(l.take k).getLast? with
 |none=>rw[List.getLast?_eq_none_iff.1 hlast]at c;cases c
 |some q=>
  have g:=i q hlast;obtain⟨n,d⟩:=List.getLast?_eq_some_iff.1 hlast;rw[d]at c;rcases mem_append.1 c with c|c
  ·rw[d,Rs,List.pairwise_append]at h
   exact FU (h.2.2 a c q (by simp)) g
  ·rw[mem_singleton.1 c];exact g
theorem Zo{l:List At}{k:Nat}{p q:At}(h:Rs l)(c:l[k]? =some p)(d:(l.take k).getLast? =some q):ltB q.1 p.1:=by
 have e:=(List.getElem?_eq_some_iff.1 c).1;have f:=List.mem_of_getLast? d;obtain⟨j,a⟩:=List.getElem?_of_mem f;have b:=(List.getElem?_eq_some_iff.1 a).1;rw[length_take]at b;rw[List.getElem?_take_of_lt (by omega)]at a;have:=List.pairwise_iff_getElem.1 h j k (by omega) e (by omega);rw[(List.getElem?_eq_some_iff.1 a).2,(List.getElem?_eq_some_iff.1 c).2]at this;exact this
theorem pNames_spec(G:Int)(x:NX)(a:Option Addr)(n c:Nat)(w:World)(O:AtR w a n x.attrs)(hn:n<=maxLen):Calls Tryz.prog 180 #[.agg (itC ⟨G,x⟩ (a,n,c)).toArray] w fun e w'=>e=.returned (.int .i64 (Bh x))/\Hp [] w w' []:=by
 apply pNames.ok;unfold pNames.vc;simp only[maxLen]at hn;have R:=O.len;intro b Z J;have H:=(Hp.start w).new (cs:=itC ⟨G,x⟩ (a,n,c)) EQ4 J;refine⟨x.name,H.lo yStr,AC (IE x.name Z) ?_⟩;rintro _ w2 ⟨rfl,K⟩;replace H:=H.ext0 K;refine⟨_,rfl,F5 (fun h=>⟨?_,H.drop⟩) (fun h=>?_)⟩
 ·rw[Bh,if_pos h]
 refine⟨a,n,c,H.lo iSAt,?_⟩;have j:¬¬Cb x.name:=fun L=>L h;have y:∀w',¬Mc x.attrs->Hp [] w w' []->Ending.returned (.int .i64 63)=.returned (.int .i64 (Bh x))/\Hp [] w w' []:=fun w' g H=>⟨by rw[Bh,if_neg j,if_pos g],H⟩;refine AP.mk (fun m s w'=>∃k:Nat,m=n-k/\k<=n/\s.2=(k:Int)/\(∀p∈x.attrs.take k,Cb p.1)/\Rs (x.attrs.take k)/\s.1=(((x.attrs.take k).getLast?).map (·.1)).getD ⟨#[]⟩/\Hp [] w w' [.blk b (itC ⟨G,x⟩ (a,n,c)) 123]) n ⟨0,rfl,by omega,rfl,by simp,by simp[Rs],rfl,H⟩ ?_;clear H
 rintro m ⟨z,i⟩ w3 next ⟨k,rfl,hk,T,l,o,d,H⟩ r
 dsimp only at T d⊢;subst T;refine AB (fun U=>?_) (fun U=>?_)
 ·have A:k<x.attrs.length:=by omega
  obtain⟨p,B⟩:∃p,x.attrs[k]? =some p:=⟨_,List.getElem?_eq_getElem A⟩;have t:=J3 B;have C:=O.chg H.chg (by simp);obtain⟨ad,X⟩:=C.cells.some (fun e=>by rw[e]at t;simp at t);refine AA X ⟨⟨by omega,U⟩,p.1,p.2,?_,?_⟩
  ·rw[Int.toNat_natCast];exact C.cells.ldA Gs X t rfl
  intro b2 w4 M;replace H:=H.nw M;refine Hp.sA H Gs (cs':=[.string p.1,.string p.2]) fun w5 H=>?_;refine⟨p.1,H.lo yStr,AC (IE p.1 w5) ?_⟩;rintro _ w6 ⟨rfl,K⟩;replace H:=H.ext0 K;refine⟨_,rfl,F5 (fun u=>y _ (fun g=>u (g.1 p (mem_of_getElem? B))) H.drop.drop) (fun u=>?_)⟩;refine⟨p.1,H.lo yStr,F6 (fun F=>?_) (fun F=>?_)⟩
  ·refine y _ (fun g=>RD.1 F ?_) H.drop.drop
   rw[d]
   cases f:(x.attrs.take k).getLast? with
   |none=>exact name_ne u
   |some q=>exact Zo g.2 B f
  ·have Y:ltB z p.1:=Classical.byContradiction fun h7=>by rw[RD.2 h7]at F;cases F
   have D:x.attrs.take (k+1)=x.attrs.take k++[p]:=by
    rw[take_succ_eq_append_getElem A,(List.getElem?_eq_some_iff.1 B).2]
   refine⟨p.1,H.lo yStr,iR,r (n-(k+1)) _ _ (by omega) ⟨k+1,rfl,by omega,by simp,fun q f=>?_,OW B o (fun q f=>?_),?_,H.drop⟩⟩
   ·rw[D]at f
    rcases mem_append.1 f with f|f
    ·exact l q f
    ·rw[mem_singleton.1 f];exact u
   ·rw[d,f]at Y;exact Y
   ·rw[D,List.getLast?_append];rfl
 ·have N:x.attrs.take k=x.attrs:=take_of_length_le (by omega)
  rw[N]at l o;have g:¬¬Mc x.attrs:=fun L=>L ⟨l,o⟩;refine⟨a,n,c,H.lo iSAt,AB (fun u=>⟨?_,H.drop⟩) (fun u=>⟨?_,H.drop⟩)⟩
  ·rw[Bh,if_neg j,if_neg g,if_pos (by omega)]
  ·rw[Bh,if_neg j,if_neg g,if_neg (by omega)]
noncomputable section
theorem KR:∀(a b:List At),valsE (a++b)=if valsE a=0 then valsE b else valsE a
 | [],b=>by simp[valsE]
 |x::a,b=>by
  rw[cons_append,valsE,valsE,KR a b];by_cases h:BJ x.2=0
  ·simp only[if_pos h]
  ·simp only[if_neg h]
theorem PH{l:List At}{k:Nat}{p:At}(a:l[k]? =some p):valsE (l.take (k+1))=if valsE (l.take k)=0 then BJ p.2 else valsE (l.take k):=by
 have b:=(List.getElem?_eq_some_iff.1 a).1;rw[take_succ_eq_append_getElem b,(List.getElem?_eq_some_iff.1 a).2,KR]
 have:valsE [p]=BJ p.2:=by
  rw[valsE,valsE];by_cases h:BJ p.2=0
  ·rw[if_pos h,h]
  ·rw[if_neg h]
 rw[this]
def Kw(x:NX)(k:Nat):Int:=if Bh x=0 then valsE (x.attrs.take k)else Bh x
theorem pParts_spec(o:Int)(x:NX)(a:Option Addr)(n c:Nat)(w:World)(B:AtR w a n x.attrs)(hn:n<=maxLen)(L:TG x):Calls Tryz.prog 121 #[.agg (itC ⟨o,x⟩ (a,n,c)).toArray] w fun e w'=>e=.returned (.int .i64 (Ap x))/\Hp [] w w' []:=by
 apply pParts.ok;unfold pParts.vc;have C:=hn;simp only[maxLen]at hn;have t:=B.len;intro b U D;have H:=(Hp.start w).new (cs:=itC ⟨o,x⟩ (a,n,c)) EQ4 D;refine Am.mk (fun s w'=>s=dec (x.kind=2/\x.name=⟨#[]⟩/\x.attrs=[])/\Hp [] w w' [.blk b (itC ⟨o,x⟩ (a,n,c)) 123]) ?_ ?_
 ·rintro s M ⟨rfl,H⟩
  refine br_d (fun h=>⟨x.text,H.lo yStr,AC (QR x.text L.2.1 M) ?_⟩) (fun h=>⟨x.kind,H.lo yInt,AV (fun q=>⟨?_,H.drop⟩) (fun q=>?_)⟩)
  ·rintro _ O ⟨rfl,u⟩
   exact⟨_,rfl,by rw[Ap,if_pos h.1,if_pos h.2],H.drop.ext0 u⟩
  ·rw[Ap]
   by_cases d:x.kind=2
   ·rw[if_pos d,if_neg fun f=>h ⟨d,f⟩]
   ·rw[if_neg d,if_neg fun f=>q f.1]
  have y:¬x.kind=2:=by omega
  refine⟨x.text,H.lo yStr,AV (fun d=>⟨by rw[Ap,if_neg y,if_neg fun f=>d f.2],H.drop⟩) (fun d=>?_)⟩;refine⟨o,x.kind,x.name,x.text,a,n,c,H.ldA (vs:=itC ⟨o,x⟩ (a,n,c)) EQ4 DZ (.head _) rfl rfl,AC (pNames_spec o x a n c M (B.go H) C) ?_⟩;rintro _ O ⟨rfl,u⟩;replace H:=H.ext0 u;refine⟨_,rfl,a,n,c,H.lo iSAt,?_⟩;refine AP.mk (fun m s w'=>∃k:Nat,m=n-k/\k<=n/\s=(Kw x k,(k:Int))/\Hp [] w w' []) n ⟨0,rfl,by omega,?_,H.drop⟩ ?_
  ·rw[Kw,take_zero,valsE]
   by_cases f:Bh x=0
   ·rw[if_pos f,f];rfl
   ·rw[if_neg f];rfl
  clear H
  rintro m s X next ⟨k,rfl,Y,rfl,H⟩ i
  dsimp only;refine AB (fun f=>?_) (fun f=>⟨?_,H⟩)
  ·have F:k<x.attrs.length:=by omega
   obtain⟨p,A⟩:∃p,x.attrs[k]? =some p:=⟨_,List.getElem?_eq_getElem F⟩;have j:=J3 A;have z:=B.go H;obtain⟨Z,N⟩:=z.cells.some (fun e=>by rw[e]at j;simp at j);refine Am.mk (fun s w'=>s=Kw x (k+1)/\Hp [] w w' []) ?_ ?_
   ·rintro s R ⟨rfl,H⟩
    exact⟨iR,i (n-(k+1)) _ _ (by omega) ⟨k+1,rfl,by omega,rfl,H⟩⟩
   ·intro J r
    refine AA N ⟨⟨by omega,f⟩,p.1,p.2,?_,?_⟩
    ·rw[Int.toNat_natCast];exact z.cells.ldA Gs N j rfl
    intro b2 R G;replace H:=H.nw G;refine Hp.sA H Gs (cs':=[.string p.1,.string p.2]) fun T H=>?_;refine AB (fun g=>⟨p.2,H.lo yStr,AC (QR p.2 (L.2.2 p (mem_of_getElem? A)).2 T) ?_⟩) (fun g=>r _ _ ⟨?_,H.drop⟩)
    ·rintro _ w7 ⟨rfl,u⟩
     refine⟨_,rfl,r _ _ ⟨?_,(H.ext0 u).drop⟩⟩;rw[Kw]at g⊢;split at g
     ·rename_i l;rw[if_pos l,PH A,if_pos g]
     ·exact absurd g (by assumption)
    ·rw[Kw]at g
     rw[Kw,Kw];split at g
     ·rename_i l;rw[if_pos l,if_pos l,PH A,if_neg g]
     ·rename_i l;rw[if_neg l,if_neg l]
  ·have K:x.attrs.take k=x.attrs:=take_of_length_le (by omega)
   have e:Ap x=if Bh x=0 then valsE x.attrs else Bh x:=by rw[Ap,if_neg y,if_pos ⟨by omega,d⟩]
   rw[Kw,K,e]
 ·intro J r
  refine⟨x.kind,H.lo yInt,AB (fun h=>⟨x.name,H.lo yStr,AB (fun q=>⟨a,n,c,H.lo iSAt,r _ _ ⟨?_,H⟩⟩) (fun q=>r _ _ ⟨?_,H⟩)⟩) (fun h=>r _ _ ⟨?_,H⟩)⟩
  ·refine KC ⟨fun d=>⟨h,q,eq_nil_of_length_eq_zero (by omega)⟩,fun d=>?_⟩
   rw[t,d.2.2];rfl
  ·exact Bf fun d=>q d.2.1
  ·exact Bf fun d=>h d.1
theorem pPlace_spec(a:Option Addr)(n c:Nat)(l:List It)(ss:List Sl3)(k:Nat)(x:It)(N:l[k]? =some x)(w:World)(A:ItR w a n l ss)(hn:n<=maxLen)
  (B:∀y,0<k->l[k-1]? =some y->0<=y.level/\y.level<1000000):Calls Tryz.prog 120 #[.slice a n c,.int .i64 (k:Int)] w fun e w'=>e=.returned (.int .i64 (BV l k x))/\Hp [] w w' []:=by
 apply pPlace.ok;unfold pPlace.vc;simp only[maxLen]at hn;have X:=A.len;have aa:=(List.getElem?_eq_some_iff.1 N).1;obtain⟨x',s,C,hs,ab⟩:=A.at_ (k:=k) (by omega);rw[N]at C;cases C;obtain⟨Y,u,O⟩:=A.some N hs;refine AA u ⟨⟨by omega,by omega⟩,_,_,_,_,_,_,_,by rw[Int.toNat_natCast];exact O,?_⟩;intro b w1 R;have H:=(Hp.start w).nw R;refine Hp.sA H DZ (cs':=itC x s) fun w2 H=>?_
 have D:0<k->∃y M,l[k-1]? =some y/\ss[k-1]? =some M/\0<=y.level/\y.level<1000000/\Int.toNat ((k:Int)-1)=k-1:=fun h=>by
  obtain⟨y,M,g,m,_⟩:=A.at_ (k:=k-1) (by omega);exact⟨y,M,g,m,(B y h g).1,(B y h g).2,by omega⟩
 refine Am.mk (fun T w'=>T=dec (k=0/\(x.level≠0\/x.x.kind≠1))/\Hp [] w w' [.blk b (itC x s) 123]) ?_ ?_
 ·clear H
  rintro _ Z ⟨rfl,H⟩;refine br_d (fun h=>⟨by rw[BV,if_pos h],H.drop⟩) (fun h=>?_);refine Am.mk (fun T w'=>T=dec (0<k/\(x.level<1\/∃y,l[k-1]? =some y/\(y.level+1<x.level\/(y.level<x.level/\y.x.kind=2))))/\Hp [] w w' [.blk b (itC x s) 123]) ?_ ?_
  ·clear H
   rintro _ w4 ⟨rfl,H⟩;refine br_d (fun o=>⟨by rw[BV,if_neg h,if_pos o],H.drop⟩) (fun o=>?_);refine⟨_,H.lo yInt,AB (fun d=>⟨by rw[BV,if_neg h,if_neg o,if_pos d],H.drop⟩) (fun d=>AB (fun i=>⟨?_,H.drop⟩) (fun i=>⟨?_,H.drop⟩))⟩
   ·rw[BV,if_neg h,if_neg o,if_neg d,if_pos (by omega)]
   ·rw[BV,if_neg h,if_neg o,if_neg d,if_neg (by omega)]
  ·intro J p
   refine AB (fun o=>?_) (fun o=>p _ _ ⟨Bf fun d=>by omega,H.drew⟩)
   have q:0<k:=by omega
   obtain⟨y,M,g,m,ac,ae,t⟩:=D q;have F:=(A.go H.drop.drew);have G:Ld Tryz.prog 3 Z.drew (Y.add ((k-1)*5)) (.int .i64 y.level):=F.ld g m u yInt (j:=0) rfl
   have U:Ld Tryz.prog 3 Z.drew ((Y.add ((k-1)*5)).add 1) (.int .i64 y.x.kind):=by rw[add_add];exact F.ld g m u yInt (j:=1) rfl
   refine⟨_,H.lo yInt,AB (fun d=>p _ _ ⟨CZ ⟨q,.inl d⟩,H.drew⟩) (fun d=>?_)⟩;refine⟨_,H.lo yInt,iR,AA u ⟨⟨by omega,by omega⟩,y.level,by rw[t];exact G,iR,AB (fun i=>p _ _ ⟨CZ ⟨q,.inr ⟨y,g,.inl i⟩⟩,H.drew⟩) (fun i=>?_)⟩⟩;refine⟨_,H.lo yInt,iR,AA u ⟨⟨by omega,by omega⟩,y.level,by rw[t];exact G,AB (fun K=>?_) (fun K=>p _ _ ⟨Bf ?_,H.drew⟩)⟩⟩
   ·refine⟨iR,AA u ⟨⟨by omega,by omega⟩,y.x.kind,by rw[t];exact U,p _ _ ⟨KC ⟨fun f=>⟨q,.inr ⟨y,g,.inr ⟨K,f⟩⟩⟩,?_⟩,H.drew⟩⟩⟩
    rintro⟨_,f|⟨z,r,f|f⟩⟩
    ·exact(d f).elim
    ·rw[g]at r;cases r;exact(i f).elim
    ·rw[g]at r;cases r;exact f.2
   ·rintro⟨_,f|⟨z,r,f|f⟩⟩
    ·exact(d f).elim
    ·rw[g]at r;cases r;exact(i f).elim
    ·rw[g]at r;cases r;exact(K f.1).elim
 ·intro J p
  refine AB (fun o=>?_) (fun o=>p _ _ ⟨Bf fun d=>by omega,H⟩)
  have L:k=0:=by omega
  refine⟨_,H.lo yInt,AV (fun d=>p _ _ ⟨CZ ⟨L,.inl d⟩,H⟩) (fun d=>⟨_,H.lo yInt,p _ _ ⟨not_dec_of ⟨fun i=>⟨L,.inr i⟩,fun i=>i.2.resolve_left (fun K=>K d)⟩,H⟩⟩)⟩
theorem Ia(a:Option Addr)(n c:Nat)(l:List It)(ss:List Sl3)(w:World)(z:ItR w a n l ss)(hn:n<=maxLen)(B:∀s∈ss,s.2.1<=maxLen)(C:∀x∈l,TG x.x):
  Calls Tryz.prog 62 #[.slice a n c] w fun e w'=>e=.returned (.tuple #[.int .i64 ((DC l).1:Int),.int .i64 (DC l).2])/\Hp [] w w' []:=by
 apply pCheck.ok;unfold pCheck.vc;have D:=hn;simp only[maxLen]at hn;have q:=z.len;refine AB (fun h=>⟨?_,Hp.start w⟩) (fun h=>?_)
 ·have:l=[]:=eq_nil_of_length_eq_zero (by omega)
  rw[DC,if_pos this];rfl
 have F:l≠[]:=fun e=>h (by rw[q,e];rfl);rw[DC,if_neg F];refine AP.mk (fun m s w'=>∃k:Nat,m=n-k/\k<=n/\s=(k:Int)/\EF l k (l.drop k)=EF l 0 l/\(∀y,0<k->l[k-1]? =some y->0<=y.level/\y.level<1000000)/\Hp [] w w' []) n ⟨0,rfl,by omega,rfl,rfl,by omega,Hp.start w⟩ ?_
 rintro m s w1 next ⟨k,rfl,R,rfl,d,G,H⟩ f
 refine AB (fun T=>?_) (fun T=>⟨?_,H⟩)
 ·have J:k<n:=by omega
  have r:=z.go H;obtain⟨x,s,i,K,_⟩:=r.at_ (k:=k) J;obtain⟨ad,X,L⟩:=r.some i K;have M:=(List.getElem?_eq_some_iff.1 i).1
  have N:l.drop k=x::l.drop (k+1):=by rw[List.drop_eq_getElem_cons M,(List.getElem?_eq_some_iff.1 i).2]
  rw[N,EF]at d;refine AA X ⟨⟨by omega,T⟩,_,_,_,_,_,_,_,by rw[Int.toNat_natCast];exact L,?_⟩;intro b w2 t;replace H:=H.nw t;refine Hp.sA H DZ (cs':=itC x s) fun Y H=>?_;refine AC (pPlace_spec a n c l ss k x i Y (z.go H) D G) ?_;rintro _ Z ⟨rfl,O⟩;replace H:=H.ext0 O
  have on:∀w',Hp [] w w' []->oneE l k x=0->inR .i64 ((k:Int)+1)/\next ((k:Int)+1) w':=fun w' H p=>by
   rw[if_pos p]at d;refine⟨iR,f (n-(k+1)) _ _ (by omega) ⟨k+1,rfl,by omega,by simp,d,fun y _ U=>?_,H⟩⟩;rw[Nat.add_sub_cancel,i]at U;cases U;rw[oneE]at p;split at p
   ·rename_i j
    rw[BV]at j;split at j
    ·cases j
    split at j
    ·cases j
    split at j
    ·cases j
    rename_i g1 g2 g3;refine⟨?_,by omega⟩;rcases Nat.eq_zero_or_pos k with e|e
    ·exact Classical.byContradiction fun g=>g1 ⟨e,.inl (by omega)⟩
    ·exact Classical.byContradiction fun g=>g2 ⟨e,.inl (by omega)⟩
   ·exact absurd p (by assumption)
  have u:∀w',Hp [] w w' []->oneE l k x≠0->Ending.returned (.tuple #[.int .i64 (k:Int),.int .i64 (oneE l k x)])=.returned (.tuple #[.int .i64 ((EF l 0 l).1:Int),.int .i64 (EF l 0 l).2])/\Hp [] w w' []:=fun w' H p=>by
   rw[if_neg p]at d;rw[<- d];exact⟨rfl,H⟩
  refine⟨_,rfl,AB (fun A=>?_) (fun A=>?_)⟩
  ·refine⟨_,_,_,_,_,_,_,H.ldA (vs:=itC x s) EQ4 DZ (.head _) rfl rfl,AC (pParts_spec x.level x.x s.1 s.2.1 s.2.2 Z ((z.go H).attrs k x s i K) (B s (mem_of_getElem? K)) (C x (mem_of_getElem? i))) ?_⟩
   rintro _ w5 ⟨rfl,O⟩;replace H:=H.ext0 O
   have e:oneE l k x=Ap x.x:=by rw[oneE,if_pos A]
   rw[<- e];exact⟨_,rfl,AV (fun o=>u _ H.drop o) (fun o=>on _ H.drop o)⟩
  ·have e:oneE l k x=BV l k x:=by rw[oneE,if_neg A]
   rw[<- e];exact AV (fun o=>u _ H.drop o) (fun o=>(A (by rw[<- e];exact o)).elim)
 ·have R:l.drop k=[]:=List.drop_eq_nil_of_le (by omega)
  rw[R,EF]at d;rw[<- d];rfl
end
end Go.Proofs.YtljenkbpnioipaaGreat
namespace Go.Vc
open Go
section
variable{P:Program}{w:World}{e:TypeId}{sz n c:Nat}{a:Option Addr}{xs:List Value}
theorem Own.keep(h:Own w 0 e sz a n c xs){F:Nat}(d:F<=n):Own w 0 e sz a F c (xs.take (F*sz)):=by
 have f:F*sz<=n*sz:=Nat.mul_le_mul_right _ d;refine⟨by rw[length_take,h.1];omega,?_⟩
 rcases h.2 with⟨rfl,rfl,rfl⟩|⟨g,b,i,rfl,j,k,l,q,m,o,p⟩
 ·exact .inl ⟨rfl,by omega,rfl⟩
 ·exact .inr ⟨g,b,i,rfl,j,k,l,by omega,m,o,by rw[<- p,List.take_take,Nat.min_eq_left f]⟩
theorem Own.full(h:Own w 0 e sz a n c xs)(d:a≠none):∃ys,ys.length=(c-n)*sz/\Own w 0 e sz a c c (xs++ys):=by
 rcases h.2 with⟨rfl,_⟩|⟨g,b,f,rfl,i,j,k,l,m,o,p⟩
 ·exact(d rfl).elim
 ·have q:n*sz<=c*sz:=Nat.mul_le_mul_right _ l
  have r:b.toList.length=b.size:=Array.length_toList;refine⟨(b.toList.take (c*sz)).drop (n*sz),?_,?_,.inr ⟨g,b,f,rfl,i,j,k,Nat.le_refl _,m,o,?_⟩⟩
  ·rw[length_drop,length_take,Nat.sub_mul];omega
  ·rw[length_append,h.1,length_drop,length_take];omega
  ·rw[<- p]
   have:b.toList.take (n*sz)=(b.toList.take (c*sz)).take (n*sz):=by rw[List.take_take,Nat.min_eq_left q]
   rw[this,take_append_drop]
theorem Own.CV(h:Own w 0 e sz a n c xs)(hn:0<n):∃g,a=some ⟨g,0,none⟩:=by
 rcases h.2 with⟨_,d,_⟩|⟨g,b,f,rfl,_⟩
 ·omega
 ·exact⟨g,rfl⟩
structure Frm(P:Program)(sz:Nat)(x:Value)(lx k:Nat)(news:List Value)(w:World):Prop where
 len:∀w':World,(Builtin.lenOf x).run P w'=.ok lx w'
 cells:(Builtin.firstCells sz k x).run P w=.ok news.toArray w
 newsLen:news.length=k*sz
 one:∀u∈news,u.oneCell'=true
theorem Frm.of{b:Option Addr}{f g k:Nat}{d:List Value}(h:Cells w b d)(i:d.length=k*sz)(h1:∀u∈d,u.oneCell'=true):Frm P sz (.slice b f g) f k d w:=by
 refine⟨fun t=>rfl,?_,i,h1⟩
 cases b with
 |none=>
  have:d=[]:=by
   cases hn:d with
   |nil=>rfl
   |cons v r=>obtain⟨_,l,_⟩:=h 0 v (by rw[hn];rfl);cases l
  subst this;exact run_firstCells_none w sz k f g
 |some m=>
  refine run_firstCells_some w sz k m f g d i fun j v o=>?_;obtain⟨p,q,s⟩:=h j v o;cases q;exact s
theorem Own.cpy{dT tx ty:TypeId}{x:Value}{A i N c' k:Nat}{d:List Value}(h:Own w 0 e sz a n c xs)(J:P.underlying dT=some (.slice e))(U:Dt P e=some sz)(p:Frm P sz x A k d w)(X:k=min A N)(q:i+k<=n):
  ∃w1,Cpy P #[dT,tx] ty w (.slice (slA a c i sz) N c') x (.int .i64 (k:Int)) w1/\Own w1 0 e sz a n c (over d (i*sz) xs)/\Chg (blks a) w w1:=by
 have K:(sizeOf e).run P w=.ok sz w:=Bl U w;have L:=p.cells;have l:Nat.min A N=k:=X.symm;have r:=h.1;have B:=p.newsLen;by_cases o:d=[]
 ·subst o
  refine⟨w,?_,by rw[CX];exact h,Chg.refl _ _⟩;simp only[Cpy,Builtin.copy_];cases s:slA a c i sz<;>simp[Ad J,p.len w,l,K,L,storeCells,goInt]
 ·have t:0<k*sz:=by rw[<- B];exact length_pos_iff.2 o
  have Y:0<k:=Nat.pos_of_mul_pos_right t
  rcases h.2 with⟨rfl,h0,_⟩|⟨g,f,C,rfl,Z,M,O,u,D,F,ht⟩
  ·omega
  have G:¬c=i:=by omega
  have R:i*sz+k*sz<=n*sz:=by rw[<- Nat.add_mul];exact Nat.mul_le_mul_right _ q
  have H:n*sz<=c*sz:=Nat.mul_le_mul_right _ u;have y:f.toList.length=f.size:=Array.length_toList
  have z:w.heap[g]? =some (.cells f.toList.toArray e C):=by simpa using M
  have m:=CP (P:=P) (b:=g) (T:=e) (fz:=C) d w f.toList ⟨g,i*sz,none⟩ (i*sz) 0 rfl (fun j=>by simp[add_lit]) z (by omega) (fun k' h1 h2=>O k' (by omega)) p.one;rw[if_neg o]at m
  have s:slA (some ⟨g,0,none⟩) c i sz=some ⟨g,i*sz,none⟩:=by
   unfold slA;rw[if_neg G,Option.map_some,add_lit,Nat.zero_add]
  refine⟨_,?_,⟨by rw[Cc _ _ _ (by omega)];exact r,.inr ⟨g,(over d (i*sz) f.toList).toArray,C,rfl,Z,DT (Array.getElem?_eq_some_iff.1 M).1,?_,u,D,?_,?_⟩⟩,DV _ _ _⟩
  ·simp only[Cpy,Builtin.copy_,s]
   simp[Ad J,p.len w,l,K,L,m,goInt]
  ·rw[size_toArray,Cc _ _ _ (by omega),y];exact O
  ·rw[size_toArray,Cc _ _ _ (by omega),y];exact F
  ·show(over d (i*sz) f.toList).take (n*sz)=_
   rw[Oy _ _ _ _ (by omega) (by omega),ht]
theorem Own.fG{t tx ty:TypeId}{s m:Nat}{x:Value}{b:List Value}(T:Elt P t e sz s)(h:Own w 0 e sz a n c xs)(F:a≠none)(r:Src P sz tx x m b w)(d:n+m<=c):
  ∃w1,App P #[t,tx] ty w (.slice a n c) x (.slice a (n+m) c) w1/\Own w1 0 e sz a (n+m) c (xs++b)/\Chg (blks a) w w1:=by
 obtain⟨G,i,z,H,U,rfl,rfl,J⟩:=T
 rcases h.2 with⟨rfl,_⟩|⟨g,f,u,rfl,y,A,C,K,B,o,k⟩
 ·exact(F rfl).elim
 have D:n*i.size+b.length<=f.size:=by rw[r.newsLen,<- Nat.add_mul];exact Nat.le_trans (Nat.mul_le_mul_right _ d) o
 have l:∀j,j<b.length->(w.cell? ⟨g,0+n*i.size+j,none⟩).isSome=true:=by
  intro j L
  have:0+n*i.size+j<f.size:=by omega
  simp[World.cell?,A];omega
 have M:=run_append_room_src (P:=P) w t tx ty e i G H g 0 n c x m b r d l (fun j L=>by
  have:=C (0+n*i.size+j) (by omega);obtain⟨X,Y⟩:=u
  simpa [World.frozen?,A]using this)
 have p:w.heap[g]? =some (.cells f.toList.toArray e u):=by simpa using A
 have q:f.toList.length=f.size:=Array.length_toList;obtain⟨N,O⟩:=I4 b w f.toList (0+n*i.size) p (by omega);refine⟨_,M,⟨by rw[length_append,h.1,r.newsLen,Nat.add_mul],.inr ⟨g,_,u,rfl,y,N,?_,d,B,?_,?_⟩⟩,O⟩
 ·rw[size_toArray,Cc _ _ _ (by omega),q];exact C
 ·rw[size_toArray,Cc _ _ _ (by omega),q];exact o
 ·rw[Nat.zero_add,List.toList_toArray]at*
  have R:=Vw b (n*i.size) f.toList (by omega);rw[Nat.add_mul,<- r.newsLen,R,k]
theorem Own.WY{dT ty:TypeId}{z:Value}{N c':Nat}(h:Own w 0 e sz a n c xs)(K:P.underlying dT=some (.slice e))(U:zeroOf P e=some z)(t:z.cells.size=sz)(i:∀u∈z.cells.toList,u.oneCell'=true)(X:n+N<=c):
  ∃w1,Clr P #[dT] ty w (.slice (slA a c n sz) N c') w1/\Own w1 0 e sz a n c xs/\Chg (blks a) w w1:=by
 have x:(zeroValue e).run P w=.ok z w:=Gf U w;by_cases y:N=0
 ·subst y
  refine⟨w,?_,h,Chg.refl _ _⟩;simp only[Clr,Builtin.clear_];cases l:slA a c n sz<;>simp[Ad K]
 ·rcases h.2 with⟨rfl,h0,rfl⟩|⟨g,d,s,rfl,Y,L,M,A,B,C,Z⟩
  ·omega
  have D:¬c=n:=by omega
  have l:slA (some ⟨g,0,none⟩) c n sz=some ⟨g,n*sz,none⟩:=by
   unfold slA;rw[if_neg D,Option.map_some,add_lit,Nat.zero_add]
  have m:d.toList.length=d.size:=Array.length_toList
  have aa:(Builtin.zeroCells z.cells N).toList.length=N*sz:=by rw[Array.length_toList,size_zeroCells,t]
  have O:n*sz+N*sz<=c*sz:=by rw[<- Nat.add_mul];exact Nat.mul_le_mul_right _ X
  have o:w.heap[g]? =some (.cells d.toList.toArray e s):=by simpa using L
  have p:=CP (P:=P) (b:=g) (T:=e) (fz:=s) (Builtin.zeroCells z.cells N).toList w d.toList ⟨g,n*sz,none⟩ (n*sz) 0 rfl (fun j=>by simp[add_lit]) o (by omega) (fun k' h1 h2=>M k' (by omega)) (fun u R=>by
   have F:∃q∈z.cells.toList,u=q:=by
    simp only[Builtin.zeroCells,Array.toList_map,mem_map]at R;obtain⟨k,G,rfl⟩:=R;have G:=List.mem_range.1 (by simpa using G);refine⟨_,?_,rfl⟩
    have H:0<z.cells.size:=by
     rcases Nat.eq_zero_or_pos z.cells.size with J|J
     ·rw[J,Nat.mul_zero]at G;omega
     ·exact J
    have r:=Nat.mod_lt k H;rw[getElem!_pos z.cells _ r];exact Array.getElem_mem_toList r
   obtain⟨q,hq,rfl⟩:=F
   exact i _ hq)
  obtain⟨w1,f⟩:∃w1,(storeCells ⟨g,n*sz,none⟩ (Builtin.zeroCells z.cells N).toList).run P w=.ok () w1/\(w1=w\/w1=setB w g (.cells (over (Builtin.zeroCells z.cells N).toList (n*sz) d.toList).toArray e s)):=by
   refine⟨_,p,?_⟩;split
   ·exact .inl rfl
   ·exact .inr rfl
  refine⟨w1,?_,?_,?_⟩
  ·simp only[Clr,Builtin.clear_,l]
   have:N=(N-1)+1:=by omega
   rw[this]at f⊢;simp[Ad K,x,f.1]
  ·rcases f.2 with rfl|rfl
   ·exact h
   ·refine⟨h.1,.inr ⟨g,_,s,rfl,Y,DT (Array.getElem?_eq_some_iff.1 L).1,?_,A,B,?_,?_⟩⟩
    ·rw[size_toArray,Cc _ _ _ (by omega),m];exact M
    ·rw[size_toArray,Cc _ _ _ (by omega),m];exact C
    ·rw[<- Z]
     apply List.ext_getElem?;intro k;rw[List.getElem?_take,List.getElem?_take];split
     ·rw[List.toList_toArray,IM _ _ _ (by omega),if_neg (by omega)]
     ·rfl
  ·rcases f.2 with rfl|rfl
   ·exact Chg.refl _ _
   ·exact DV _ _ _
theorem Own.appZ{t tn ty:TypeId}{d m:Nat}{kn kq:IntKind}{z:Value}(T:Elt P t e sz d)(s:0<sz)(h:Own w 0 e sz a n c xs)(u:P.underlying tn=some (.int kn))(A:zeroOf P e=some z)(D:0<m)(B:c<n+m)(f:n+m<=maxLen)(x:(n+m)*d<=140737488355328):
  ∃a' c' ys w1,App P #[t,tn] ty w (.slice a n c) (.int kq (m:Int)) (.slice a' (n+m) c') w1/\ys.length=m*sz/\Own w1 0 e sz a' (n+m) c' (xs++ys)/\Chg [] w w1/\∀k∈blks a',w.heap.size<=k:=by
 obtain⟨F,i,q,C,l,rfl,rfl,o⟩:=T
 have y:q=z:=by simp only[zeroOf,C,l,Option.some.injEq]at A;exact A
 subst y
 have p:(Builtin.firstCells i.size n (.slice a n c)).run P w.drew=.ok xs.toArray w.drew:=by
  cases a with
  |none=>
   rcases h.2 with⟨_,rfl,rfl⟩|⟨g,_,_,G,_⟩
   ·have:xs=[]:=eq_nil_of_length_eq_zero (by simpa using h.1)
    subst this;exact run_firstCells_none _ _ _ _ _
   ·cases G
  |some H=>
   refine run_firstCells_some w.drew i.size n H n c xs h.1 fun j v J=>?_;obtain⟨K,L,M⟩:=h.cells j v J;cases L;exact M
 have N:=Go.Lib.run_append_grow_zeros (P:=P) w t tn ty e i q kq kn F u C l a n c xs p m D s B (by simp only[maxLen]at f;omega) (by
  have:m*i.bytes<=(n+m)*i.bytes:=Nat.mul_le_mul_right _ (by omega)
  omega) (growslice_fits B x)
 have b:(Builtin.zeroCells q.cells m).toList.length=m*i.size:=by rw[Array.length_toList,size_zeroCells,o]
 refine⟨_,_,(Builtin.zeroCells q.cells m).toList,_,N,b,⟨by rw[length_append,h.1,b,Nat.add_mul],.inr ⟨w.heap.size,_,_,rfl,Nat.zero_le _,FO w.drew _,Thaw.zero _,grownCap_ge _ _ _ _,grownCap_le_maxLen _ _ _ _ f,?_,?_⟩⟩,⟨rfl,rfl,rfl,by simp,fun k r _=>alloc_old w.drew _ k r⟩,fun k r=>by simp[blks]at r;subst r;exact Nat.le_refl _⟩
 ·have O:=grownCap_ge w (n+m) c e
  simp only[Array.size_append,size_toArray,size_zeroCells,o,h.1,<- Nat.add_mul];refine Nat.mul_le_mul_right _ ?_;omega
 ·rw[Array.toList_append,Array.toList_append,List.toList_toArray]
  exact List.take_left' (by rw[length_append,h.1,b,Nat.add_mul])
end
theorem Cells.slAz{w:World}{a:Option Addr}{xs:List Value}(h:Cells w a xs){c i d n:Nat}(hn:xs.length=n*d)(hc:n<=c):Cells w (Go.Vc.slA a c i d) (xs.drop (i*d)):=by
 intro j v f;rw[List.getElem?_drop]at f;obtain⟨k,rfl,b⟩:=h _ v f;have g:=(List.getElem?_eq_some_iff.1 f).1;unfold Go.Vc.slA;by_cases e:c=i
 ·subst e
  have:n*d<=c*d:=Nat.mul_le_mul_right _ hc;omega
 ·rw[if_neg e]
  exact⟨_,rfl,by rw[add_add];exact b⟩
theorem Wn(A D V ys:List Value)(h:ys.length=V.length+D.length):over D (A.length+V.length) (over V A.length (A++ys))=A++(V++D):=by
 have a:ys=ys.take V.length++ys.drop V.length:=(take_append_drop _ _).symm
 have b:over V A.length (A++ys)=A++(V++ys.drop V.length):=by
  rw[a];have:=Fb V A (ys.take V.length) (ys.drop V.length) (by rw[length_take];omega);rw[this,take_append_drop]
 rw[b];have:=Fb D (A++V) (ys.drop V.length) [] (by rw[length_drop];omega);rw[append_nil,append_nil,length_append,append_assoc,append_assoc]at this;exact this
theorem Wy(A D V ys:List Value)(h:V.length<=ys.length):(over V A.length (over D (A.length+V.length) ((A++D)++ys))).take (A.length+V.length+D.length)=A++(V++D):=by
 obtain⟨b,c,a,f,d,g⟩:∃b c a:List Value,D++ys=b++(c++a)/\b.length=V.length/\c.length=D.length:=by
  refine⟨(D++ys).take V.length,((D++ys).drop V.length).take D.length,((D++ys).drop V.length).drop D.length,by rw[take_append_drop,take_append_drop],?_,?_⟩
  ·rw[length_take,length_append];omega
  ·rw[length_take,length_drop,length_append];omega
 rw[append_assoc,f];have e:=Fb D (A++b) c a g.symm;rw[length_append,d,append_assoc]at e;rw[e,append_assoc];have i:=Fb V A b (D++a) d.symm;rw[i]
 have j:A++(V++(D++a))=(A++(V++D))++a:=by simp
 rw[j];exact List.take_left' (by simp;omega)
theorem Hp.QL{w w':World}{B:List Nat}{e:TypeId}{d n c:Nat}{a:Option Addr}{xs:List Value}(h:Own w' 0 e d a n c xs)(hc:Chg B w w')(f:∀k∈blks a,k∈B\/w.heap.size<=k):Hp B w w' [.own e d a n c xs]:=
 ⟨hc,fun q b=>by rw[mem_singleton]at b;subst b;exact h,fun q b k g=>by rw[mem_singleton]at b;subst b;exact f k g,by simp⟩
end Go.Vc
namespace Go.Proofs.YtljenkbpnioipaaGreat
open Go Go.Vc Go.Nod
theorem GN(a:Option Addr)(n c:Nat)(xs:List Value)(w:World)(h:Cells w a xs)(m:xs.length=n*2)(h1:∀u∈xs,u.oneCell'=true)(i:a=none->n=0)(hn:n*32<=140737488355328):
  Calls Tryz.prog 70 #[.slice a n c] w fun e w'=>∃a' c',e=.returned (.slice a' n c')/\Hp [] w w' [.own 142 2 a' n c' xs]:=by
 apply lCloneAt.ok;unfold lCloneAt.vc
 have d:Tryz.prog.underlying 69=some (.slice 142):=by kernel_rfl
 have f:Elt Tryz.prog 69 142 2 32:=CW (by kernel_rfl);refine⟨_,Rj d,F6 (fun j=>?_) (fun j=>?_)⟩
 ·have o:a=none:=by cases a with
   |none=>rfl
   |some _=>cases j
  have:=i o;subst this;have:xs=[]:=eq_nil_of_length_eq_zero (by omega);subst this;exact⟨none,0,rfl,(Hp.start w).nilS 142 2⟩
 ·intro b l g
  have H:=(Hp.start w).nw g;have p:Hp [] w l [.own 142 2 (some ⟨b,0,none⟩) 0 0 []]:=H.set (Chg.refl _ _) ⟨rfl,.inr ⟨b,#[],(0,0),rfl,Nat.zero_le _,H.blk (.head _),Thaw.zero _,Nat.le_refl _,Nat.zero_le _,by simp,rfl⟩⟩ (fun k q=>.inl q);have r:Cells l a xs:=h.chg H.chg (by simp);refine Hp.app f (by omega) p ⟨rfl,rfl,rfl,rfl⟩ (Cells.src d r m h1 i) (by simp only[maxLen];omega) (by omega) ?_;intro a' c' s H;rw[Nat.zero_add]at H⊢;exact⟨a',c',rfl,H⟩
theorem lCloneI_spec(a:Option Addr)(n c:Nat)(xs:List Value)(w:World)(h:Cells w a xs)(m:xs.length=n*1)(h1:∀u∈xs,u.oneCell'=true)(i:a=none->n=0)(hn:n*8<=140737488355328):
  Calls Tryz.prog 87 #[.slice a n c] w fun e w'=>∃a' c',e=.returned (.slice a' n c')/\Hp [] w w' [.own 3 1 a' n c' xs]:=by
 apply lCloneI.ok;unfold lCloneI.vc
 have d:Tryz.prog.underlying 59=some (.slice 3):=by kernel_rfl
 have f:Elt Tryz.prog 59 3 1 8:=CW (by kernel_rfl);refine⟨_,Rj d,F6 (fun j=>?_) (fun j=>?_)⟩
 ·have o:a=none:=by cases a with
   |none=>rfl
   |some _=>cases j
  have:=i o;subst this;have:xs=[]:=eq_nil_of_length_eq_zero (by omega);subst this;exact⟨none,0,rfl,(Hp.start w).nilS 3 1⟩
 ·intro b l g
  have H:=(Hp.start w).nw g;have p:Hp [] w l [.own 3 1 (some ⟨b,0,none⟩) 0 0 []]:=H.set (Chg.refl _ _) ⟨rfl,.inr ⟨b,#[],(0,0),rfl,Nat.zero_le _,H.blk (.head _),Thaw.zero _,Nat.le_refl _,Nat.zero_le _,by simp,rfl⟩⟩ (fun k q=>.inl q);have r:Cells l a xs:=h.chg H.chg (by simp);refine Hp.app f (by omega) p ⟨rfl,rfl,rfl,rfl⟩ (Cells.src d r m h1 i) (by simp only[maxLen];omega) (by omega) ?_;intro a' c' s H;rw[Nat.zero_add]at H⊢;exact⟨a',c',rfl,H⟩
theorem lCloneW_spec(a:Option Addr)(n c:Nat)(xs:List Value)(w:World)(h:Cells w a xs)(m:xs.length=n*2)(h1:∀u∈xs,u.oneCell'=true)(i:a=none->n=0)(hn:n*24<=140737488355328):
  Calls Tryz.prog 89 #[.slice a n c] w fun e w'=>∃a' c',e=.returned (.slice a' n c')/\Hp [] w w' [.own 167 2 a' n c' xs]:=by
 apply lCloneW.ok;unfold lCloneW.vc
 have d:Tryz.prog.underlying 148=some (.slice 167):=by kernel_rfl
 have f:Elt Tryz.prog 148 167 2 24:=CW (by kernel_rfl);refine⟨_,Rj d,F6 (fun j=>?_) (fun j=>?_)⟩
 ·have o:a=none:=by cases a with
   |none=>rfl
   |some _=>cases j
  have:=i o;subst this;have:xs=[]:=eq_nil_of_length_eq_zero (by omega);subst this;exact⟨none,0,rfl,(Hp.start w).nilS 167 2⟩
 ·intro b l g
  have H:=(Hp.start w).nw g;have p:Hp [] w l [.own 167 2 (some ⟨b,0,none⟩) 0 0 []]:=H.set (Chg.refl _ _) ⟨rfl,.inr ⟨b,#[],(0,0),rfl,Nat.zero_le _,H.blk (.head _),Thaw.zero _,Nat.le_refl _,Nat.zero_le _,by simp,rfl⟩⟩ (fun k q=>.inl q);have r:Cells l a xs:=h.chg H.chg (by simp);refine Hp.app f (by omega) p ⟨rfl,rfl,rfl,rfl⟩ (Cells.src d r m h1 i) (by simp only[maxLen];omega) (by omega) ?_;intro a' c' s H;rw[Nat.zero_add]at H⊢;exact⟨a',c',rfl,H⟩
theorem UC(a:Option Addr)(n c i b:Nat)(xs vs:List Value)(T:TypeId)(w:World)(h:Own w 0 3 1 a n c xs)(h1:∀u∈xs,u.oneCell'=true)(hi:i<=n)(M:Blk w b vs T)(q:vs.length=1)(O:∀u∈vs,u.oneCell'=true)(hb:b∉blks a)(hn:(n+1)*8<=140737488355328):
  Calls Tryz.prog 122 #[.slice a n c,.int .i64 (i:Int),.slice (some ⟨b,0,none⟩) 1 1] w fun e w'=>∃a' c',e=.returned (.slice a' (n+1) c')/\Hp (blks a) w w' [.own 3 1 a' (n+1) c' (xs.take (i*1)++(vs++xs.drop (i*1)))]:=by
 apply lInsI.ok;unfold lInsI.vc
 have d:Tryz.prog.underlying 59=some (.slice 3):=by kernel_rfl
 have l:Dt Tryz.prog 3=some 1:=by kernel_rfl
 have y:Elt Tryz.prog 59 3 1 8:=CW (by kernel_rfl);have R:=h.1;have U:=h.le
 have X:n+1<=maxLen:=by simp only[maxLen];omega
 have Y:(xs.take (i*1)).length=i*1:=by rw[length_take];omega
 have r:(xs.drop (i*1)).length=(n-i)*1:=by rw[length_drop,Nat.sub_mul];omega
 have z:∀w',w'.heap[b]? =w.heap[b]? ->Frm Tryz.prog 1 (.slice (some ⟨b,0,none⟩) 1 1) 1 1 vs w':=fun w' hw=>Frm.of (Blk.cells (T:=T) (hw.trans M)) (by omega) O;have Z:∀u∈xs.drop (i*1),u.oneCell'=true:=fun u hu=>h1 u (mem_of_mem_drop hu);refine⟨⟨by omega,by omega⟩,AB (fun e=>by omega) (fun _=>AB (fun e=>?_) (fun e=>⟨iR,AB (fun hg=>?_) (fun hg=>?_)⟩))⟩
 ·have ab:i=n:=by omega
  subst ab;obtain⟨a',c',o,r1,r2,r3,r4⟩:=XT (P:=Tryz.prog) (ty:=59) y (by omega) h (Cells.src (n:=1) (c:=1) d M.cells (by omega) O (fun e=>by cases e)) X (by omega) (Nat.zero_le _);refine⟨a',_,c',o,r1,a',c',rfl,?_⟩;rw[take_of_length_le (by omega),List.drop_eq_nil_of_le (by omega),append_nil];exact Hp.QL r2 r3 r4
 ·have hK:=h.keep (F:=i) (by omega)
  have hz:zeroOf Tryz.prog 3=some (.int .i64 0):=by kernel_rfl
  have em:((n:Int)+((1:Nat):Int)-(i:Int))=((n+1-i:Nat):Int):=by omega
  obtain⟨a',c',L,o,r1,r2,r3,r4,r5⟩:=Own.appZ (P:=Tryz.prog) (t:=59) (tn:=3) (ty:=59) (kn:=.i64) (kq:=.i64) (m:=n+1-i) y (by omega) hK (by kernel_rfl) hz (by omega) (by omega) (by simp only[maxLen];omega) (by omega)
  have en:i+(n+1-i)=n+1:=by omega
  rw[en]at r1 r3;refine⟨⟨by omega,by omega⟩,iR,iR,a',n+1,c',o,?_,⟨by omega,by omega⟩,?_⟩
  ·rw[em,Int.toNat_natCast];exact r1
  have ei:Int.toNat (i:Int)=i:=Int.toNat_natCast i
  have s:Int.toNat ((i:Int)+((1:Nat):Int))=i+1:=by omega
  rw[ei,s];have ac:=M.lt;obtain⟨A,q1,q2,q3⟩:=Own.cpy (tx:=59) (ty:=3) (N:=n+1-i) (c':=c'-i) (i:=i) r3 d l (z o (r4.2.2.2.2 b ac (by simp))) (by omega) (by omega);refine⟨_,A,q1,iR,⟨by omega,by omega⟩,⟨by omega,by omega⟩,?_⟩
  have ae:∀k,k<w.heap.size->k∉blks a':=fun k j hm=>by have:=r5 k hm;omega
  have af:Cells A.drew (slA a c i 1) (xs.drop (i*1)):=by
   have h9:Cells o a xs:=h.cells.chg r4 (by simp);have ag:Cells A a xs:=h9.chg q3 (fun k j hm=>ae k (h.mem k j).2 hm);have D:Cells A.drew a xs:=ag;exact D.slAz R U.1
  obtain⟨w3,p1,p2,p3⟩:=Own.cpy (w:=A.drew) (tx:=59) (ty:=3) (N:=n+1-(i+1)) (c':=c'-(i+1)) (i:=i+1) (x:=.slice (slA a c i 1) (n-i) (c-i)) q2 d l (Frm.of (k:=n-i) af r Z) (by omega) (by omega);refine⟨_,w3,p1,a',c',rfl,?_⟩
  have G:Chg (blks a) w w3:=by
   have ah:Chg (blks a) w o:=r4.more (by simp);have ak:=ah.trans q3 (fun k j=>j) (fun k j=>.inr (r5 k j));have al:Chg (blks a) w A.drew:=ak;exact al.trans p3 (fun k j=>j) (fun k j=>.inr (r5 k j))
  have f:over (xs.drop (i*1)) ((i+1)*1) (over vs (i*1) (xs.take (i*1)++L))=xs.take (i*1)++(vs++xs.drop (i*1)):=by
   have:=Wn (xs.take (i*1)) (xs.drop (i*1)) vs L (by rw[r2,r,q];omega);rw[Y,q,show i*1+1=(i+1)*1 by omega]at this;exact this
  rw[f]at p2;exact Hp.QL p2 G (fun k j=>.inr (r5 k j))
 ·have am:n+1<=c:=by omega
  have ha:a≠none:=fun e=>by
   obtain⟨g,hg⟩:=h.CV (by omega);rw[e]at hg;cases hg
  obtain⟨L,an,hF⟩:=h.full ha;have ei:Int.toNat (i:Int)=i:=Int.toNat_natCast i
  have s:Int.toNat ((i:Int)+((1:Nat):Int))=i+1:=by omega
  have aa:Int.toNat ((n:Int)+((1:Nat):Int))=n+1:=by omega
  refine⟨iR,⟨by omega,by omega⟩,iR,⟨by omega,by omega⟩,⟨.bool false,w,?_,?_⟩⟩
  ·rw[run_callFunc_extern Tryz.func181 (by kernel_rfl) (by kernel_rfl) (by kernel_rfl) (e:=Extern.SlicesOverlaps.overlaps #[59,59] #[4]) (by kernel_rfl)]
   have ao:∀(B:Addr) lb cb,slA a c (i+1) 1=some B->(Extern.SlicesOverlaps.overlaps #[59,59] #[4] #[.slice (some ⟨b,0,none⟩) 1 1,.slice (some B) lb cb]).run Tryz.prog w=.ok (.bool false) w:=by
    intro B lb cb p
    rcases h.2 with⟨rfl,_⟩|⟨g,H,fz,rfl,a2,J,hf,a3,a4,a5,ht⟩
    ·exact(ha rfl).elim
    have C:B.block=g:=by
     unfold Vc.slA at p;split at p
     ·cases p;rfl
     ·rw[Option.map_some,add_lit]at p;cases p;rfl
    have K:w.heap[b]? =some (.cells vs.toArray T (0,0)):=M
    have ap:0<H.size:=by
     have:0<c*1:=by omega
     omega
    have aq:b≠g:=fun e=>hb (by simp[blks,e])
    have ar:w.shape? B.block=some (3,H.size):=by rw[C];simp[World.shape?,J]
    have av:w.shape? b=some (T,vs.length):=by simp[World.shape?,K]
    refine Go.Lib.run_overlaps_apart (P:=Tryz.prog) w 59 4 3 d 1 (fun w=>Bl l w) ⟨b,0,none⟩ B 1 1 lb cb (by rw[C];exact aq) T 3 vs.length H.size av ar (by omega) ?_ ?_
    ·simp[World.frozen?,K]
    ·simp[World.frozen?,K]
   rw[s,aa]
   cases hs:slA a c (i+1) 1 with
   |none=>
    exfalso;obtain⟨g,J⟩:=h.CV (by omega);rw[J]at hs;unfold Vc.slA at hs;split at hs<;>cases hs
   |some B=>
    have:=ao B (n+1-(i+1)) (c-(i+1)) hs;rw[this];rfl
  refine⟨false,rfl,CU ⟨iR,⟨by omega,by omega⟩,⟨by omega,by omega⟩,?_⟩⟩;rw[ei,s,aa]
  have aw:Cells w.drew (slA a c i 1) (xs.drop (i*1)):=by
   have D:Cells w.drew a xs:=h.cells;exact D.slAz R U.1
  have a0:Own w.drew 0 3 1 a c c (xs++L):=hF;obtain⟨o,q1,q2,q3⟩:=Own.cpy (w:=w.drew) (tx:=59) (ty:=3) (N:=n+1-(i+1)) (c':=c-(i+1)) (i:=i+1) (x:=.slice (slA a c i 1) (n+1-i) (c-i)) a0 d l (Frm.of (k:=n-i) aw r Z) (by omega) (by omega);refine⟨_,o,q1,⟨by omega,by omega⟩,?_⟩;have a1:o.heap[b]? =w.heap[b]? :=q3.2.2.2.2 b M.lt hb;obtain⟨A,p1,p2,p3⟩:=Own.cpy (tx:=59) (ty:=3) (N:=n+1-i) (c':=c-i) (i:=i) q2 d l (z o a1) (by omega) (by omega);refine⟨_,A,p1,a,c,rfl,?_⟩;have p4:=p2.keep (F:=n+1) (by omega)
  have f:(over vs (i*1) (over (xs.drop (i*1)) ((i+1)*1) (xs++L))).take ((n+1)*1)=xs.take (i*1)++(vs++xs.drop (i*1)):=by
   have:=Wy (xs.take (i*1)) (xs.drop (i*1)) vs L (by rw[an,q];omega);rw[Y,q,r,take_append_drop,show i*1+1=(i+1)*1 by omega,show(i+1)*1+(n-i)*1=(n+1)*1 by omega]at this;exact this
  rw[f]at p4;have G:Chg (blks a) w o:=q3;exact Hp.QL p4 (G.trans p3 (fun k j=>j) (fun k j=>.inl j)) (fun k j=>.inl j)
theorem lInsAt_spec(a:Option Addr)(n c i b:Nat)(xs vs:List Value)(T:TypeId)(w:World)(h:Own w 0 142 2 a n c xs)(h1:∀u∈xs,u.oneCell'=true)(hi:i<=n)(M:Blk w b vs T)(q:vs.length=2)(O:∀u∈vs,u.oneCell'=true)(hb:b∉blks a)(hn:(n+1)*32<=140737488355328):
  Calls Tryz.prog 153 #[.slice a n c,.int .i64 (i:Int),.slice (some ⟨b,0,none⟩) 1 1] w fun e w'=>∃a' c',e=.returned (.slice a' (n+1) c')/\Hp (blks a) w w' [.own 142 2 a' (n+1) c' (xs.take (i*2)++(vs++xs.drop (i*2)))]:=by
 apply lInsAt.ok;unfold lInsAt.vc
 have d:Tryz.prog.underlying 69=some (.slice 142):=by kernel_rfl
 have l:Dt Tryz.prog 142=some 2:=by kernel_rfl
 have y:Elt Tryz.prog 69 142 2 32:=CW (by kernel_rfl);have R:=h.1;have U:=h.le
 have X:n+1<=maxLen:=by simp only[maxLen];omega
 have Y:(xs.take (i*2)).length=i*2:=by rw[length_take];omega
 have r:(xs.drop (i*2)).length=(n-i)*2:=by rw[length_drop,Nat.sub_mul];omega
 have z:∀w',w'.heap[b]? =w.heap[b]? ->Frm Tryz.prog 2 (.slice (some ⟨b,0,none⟩) 1 1) 1 1 vs w':=fun w' hw=>Frm.of (Blk.cells (T:=T) (hw.trans M)) (by omega) O;have Z:∀u∈xs.drop (i*2),u.oneCell'=true:=fun u hu=>h1 u (mem_of_mem_drop hu);refine⟨⟨by omega,by omega⟩,AB (fun e=>by omega) (fun _=>AB (fun e=>?_) (fun e=>⟨iR,AB (fun hg=>?_) (fun hg=>?_)⟩))⟩
 ·have ab:i=n:=by omega
  subst ab;obtain⟨a',c',o,r1,r2,r3,r4⟩:=XT (P:=Tryz.prog) (ty:=69) y (by omega) h (Cells.src (n:=1) (c:=1) d M.cells (by omega) O (fun e=>by cases e)) X (by omega) (Nat.zero_le _);refine⟨a',_,c',o,r1,a',c',rfl,?_⟩;rw[take_of_length_le (by omega),List.drop_eq_nil_of_le (by omega),append_nil];exact Hp.QL r2 r3 r4
 ·have hK:=h.keep (F:=i) (by omega)
  have hz:zeroOf Tryz.prog 142=some (.agg #[.string ⟨#[]⟩,.string ⟨#[]⟩]):=by kernel_rfl
  have em:((n:Int)+((1:Nat):Int)-(i:Int))=((n+1-i:Nat):Int):=by omega
  obtain⟨a',c',L,o,r1,r2,r3,r4,r5⟩:=Own.appZ (P:=Tryz.prog) (t:=69) (tn:=3) (ty:=69) (kn:=.i64) (kq:=.i64) (m:=n+1-i) y (by omega) hK (by kernel_rfl) hz (by omega) (by omega) (by simp only[maxLen];omega) (by omega)
  have en:i+(n+1-i)=n+1:=by omega
  rw[en]at r1 r3;refine⟨⟨by omega,by omega⟩,iR,iR,a',n+1,c',o,?_,⟨by omega,by omega⟩,?_⟩
  ·rw[em,Int.toNat_natCast];exact r1
  have ei:Int.toNat (i:Int)=i:=Int.toNat_natCast i
  have s:Int.toNat ((i:Int)+((1:Nat):Int))=i+1:=by omega
  rw[ei,s];have ac:=M.lt;obtain⟨A,q1,q2,q3⟩:=Own.cpy (tx:=69) (ty:=3) (N:=n+1-i) (c':=c'-i) (i:=i) r3 d l (z o (r4.2.2.2.2 b ac (by simp))) (by omega) (by omega);refine⟨_,A,q1,iR,⟨by omega,by omega⟩,⟨by omega,by omega⟩,?_⟩
  have ae:∀k,k<w.heap.size->k∉blks a':=fun k j hm=>by have:=r5 k hm;omega
  have af:Cells A.drew (slA a c i 2) (xs.drop (i*2)):=by
   have h9:Cells o a xs:=h.cells.chg r4 (by simp);have ag:Cells A a xs:=h9.chg q3 (fun k j hm=>ae k (h.mem k j).2 hm);have D:Cells A.drew a xs:=ag;exact D.slAz R U.1
  obtain⟨w3,p1,p2,p3⟩:=Own.cpy (w:=A.drew) (tx:=69) (ty:=3) (N:=n+1-(i+1)) (c':=c'-(i+1)) (i:=i+1) (x:=.slice (slA a c i 2) (n-i) (c-i)) q2 d l (Frm.of (k:=n-i) af r Z) (by omega) (by omega);refine⟨_,w3,p1,a',c',rfl,?_⟩
  have G:Chg (blks a) w w3:=by
   have ah:Chg (blks a) w o:=r4.more (by simp);have ak:=ah.trans q3 (fun k j=>j) (fun k j=>.inr (r5 k j));have al:Chg (blks a) w A.drew:=ak;exact al.trans p3 (fun k j=>j) (fun k j=>.inr (r5 k j))
  have f:over (xs.drop (i*2)) ((i+1)*2) (over vs (i*2) (xs.take (i*2)++L))=xs.take (i*2)++(vs++xs.drop (i*2)):=by
   have:=Wn (xs.take (i*2)) (xs.drop (i*2)) vs L (by rw[r2,r,q];omega);rw[Y,q,show i*2+2=(i+1)*2 by omega]at this;exact this
  rw[f]at p2;exact Hp.QL p2 G (fun k j=>.inr (r5 k j))
 ·have am:n+1<=c:=by omega
  have ha:a≠none:=fun e=>by
   obtain⟨g,hg⟩:=h.CV (by omega);rw[e]at hg;cases hg
  obtain⟨L,an,hF⟩:=h.full ha;have ei:Int.toNat (i:Int)=i:=Int.toNat_natCast i
  have s:Int.toNat ((i:Int)+((1:Nat):Int))=i+1:=by omega
  have aa:Int.toNat ((n:Int)+((1:Nat):Int))=n+1:=by omega
  refine⟨iR,⟨by omega,by omega⟩,iR,⟨by omega,by omega⟩,⟨.bool false,w,?_,?_⟩⟩
  ·rw[run_callFunc_extern Tryz.func220 (by kernel_rfl) (by kernel_rfl) (by kernel_rfl) (e:=Extern.SlicesOverlaps.overlaps #[69,69] #[4]) (by kernel_rfl)]
   have ao:∀(B:Addr) lb cb,slA a c (i+1) 2=some B->(Extern.SlicesOverlaps.overlaps #[69,69] #[4] #[.slice (some ⟨b,0,none⟩) 1 1,.slice (some B) lb cb]).run Tryz.prog w=.ok (.bool false) w:=by
    intro B lb cb p
    rcases h.2 with⟨rfl,_⟩|⟨g,H,fz,rfl,a2,J,hf,a3,a4,a5,ht⟩
    ·exact(ha rfl).elim
    have C:B.block=g:=by
     unfold Vc.slA at p;split at p
     ·cases p;rfl
     ·rw[Option.map_some,add_lit]at p;cases p;rfl
    have K:w.heap[b]? =some (.cells vs.toArray T (0,0)):=M
    have ap:0<H.size:=by
     have:0<c*2:=by omega
     omega
    have aq:b≠g:=fun e=>hb (by simp[blks,e])
    have ar:w.shape? B.block=some (142,H.size):=by rw[C];simp[World.shape?,J]
    have av:w.shape? b=some (T,vs.length):=by simp[World.shape?,K]
    refine Go.Lib.run_overlaps_apart (P:=Tryz.prog) w 69 4 142 d 2 (fun w=>Bl l w) ⟨b,0,none⟩ B 1 1 lb cb (by rw[C];exact aq) T 142 vs.length H.size av ar (by omega) ?_ ?_
    ·simp[World.frozen?,K]
    ·simp[World.frozen?,K]
   rw[s,aa]
   cases hs:slA a c (i+1) 2 with
   |none=>
    exfalso;obtain⟨g,J⟩:=h.CV (by omega);rw[J]at hs;unfold Vc.slA at hs;split at hs<;>cases hs
   |some B=>
    have:=ao B (n+1-(i+1)) (c-(i+1)) hs;rw[this];rfl
  refine⟨false,rfl,CU ⟨iR,⟨by omega,by omega⟩,⟨by omega,by omega⟩,?_⟩⟩;rw[ei,s,aa]
  have aw:Cells w.drew (slA a c i 2) (xs.drop (i*2)):=by
   have D:Cells w.drew a xs:=h.cells;exact D.slAz R U.1
  have a0:Own w.drew 0 142 2 a c c (xs++L):=hF;obtain⟨o,q1,q2,q3⟩:=Own.cpy (w:=w.drew) (tx:=69) (ty:=3) (N:=n+1-(i+1)) (c':=c-(i+1)) (i:=i+1) (x:=.slice (slA a c i 2) (n+1-i) (c-i)) a0 d l (Frm.of (k:=n-i) aw r Z) (by omega) (by omega);refine⟨_,o,q1,⟨by omega,by omega⟩,?_⟩;have a1:o.heap[b]? =w.heap[b]? :=q3.2.2.2.2 b M.lt hb;obtain⟨A,p1,p2,p3⟩:=Own.cpy (tx:=69) (ty:=3) (N:=n+1-i) (c':=c-i) (i:=i) q2 d l (z o a1) (by omega) (by omega);refine⟨_,A,p1,a,c,rfl,?_⟩;have p4:=p2.keep (F:=n+1) (by omega)
  have f:(over vs (i*2) (over (xs.drop (i*2)) ((i+1)*2) (xs++L))).take ((n+1)*2)=xs.take (i*2)++(vs++xs.drop (i*2)):=by
   have:=Wy (xs.take (i*2)) (xs.drop (i*2)) vs L (by rw[an,q];omega);rw[Y,q,r,take_append_drop,show i*2+2=(i+1)*2 by omega,show(i+1)*2+(n-i)*2=(n+1)*2 by omega]at this;exact this
  rw[f]at p4;have G:Chg (blks a) w o:=q3;exact Hp.QL p4 (G.trans p3 (fun k j=>j) (fun k j=>.inl j)) (fun k j=>.inl j)
theorem lDelI_spec(a:Option Addr)(n c i:Nat)(xs:List Value)(w:World)(h:Own w 0 3 1 a n c xs)(h1:∀u∈xs,u.oneCell'=true)(M:i<n):
  Calls Tryz.prog 216 #[.slice a n c,.int .i64 (i:Int),.int .i64 ((i:Int)+1)] w fun e w'=>e=.returned (.slice a (n-1) c)/\Hp (blks a) w w' [.own 3 1 a (n-1) c (xs.take (i*1)++xs.drop ((i+1)*1))]:=by
 apply lDelI.ok;unfold lDelI.vc
 have b:Tryz.prog.underlying 59=some (.slice 3):=by kernel_rfl
 have d:Elt Tryz.prog 59 3 1 8:=CW (by kernel_rfl);have j:=h.1;have l:=h.le;obtain⟨g,r⟩:=h.CV (by omega);refine⟨⟨by omega,by omega,by omega,by omega⟩,AB (fun e=>by omega) (fun _=>⟨⟨by omega,by omega⟩,⟨by omega,by omega⟩,?_⟩)⟩;have y:Int.toNat (i:Int)=i:=Int.toNat_natCast i
 have m:Int.toNat ((i:Int)+1)=i+1:=by omega
 rw[y,m];have A:Own w.drew 0 3 1 a i c (xs.take (i*1)):=h.keep (F:=i) (by omega)
 have B:Cells w.drew (slA a c (i+1) 1) (xs.drop ((i+1)*1)):=by
  have o:Cells w.drew a xs:=h.cells;exact o.slAz j l.1
 have p:(xs.drop ((i+1)*1)).length=(n-(i+1))*1:=by rw[length_drop,Nat.sub_mul];omega
 obtain⟨s,t,x,C⟩:=Own.fG (ty:=59) d A (by rw[r];simp) (Cells.src (P:=Tryz.prog) (c:=c-(i+1)) b B p (fun u D=>h1 u (mem_of_mem_drop D)) (fun e=>by
  rw[r]at e;unfold Vc.slA at e
  split at e<;>cases e)) (by omega)
 have G:i+(n-(i+1))=n-1:=by omega
 rw[G]at t x;refine⟨a,n-1,c,s,t,⟨by omega,by omega,by omega⟩,?_⟩;rw[Int.toNat_natCast,Int.toNat_natCast];obtain⟨H,J,K,L⟩:=Own.WY (P:=Tryz.prog) (dT:=59) (ty:=0) (N:=n-(n-1)) (c':=c-(n-1)) (z:=.int .i64 0) x b (by kernel_rfl) (by rfl) (by decide) (by omega);refine⟨H,J,rfl,?_⟩;have q:Chg (blks a) w s:=C;exact Hp.QL K (q.trans L (fun k f=>f) (fun k f=>.inl f)) (fun k f=>.inl f)
theorem lDelAt_spec(a:Option Addr)(n c i:Nat)(xs:List Value)(w:World)(h:Own w 0 142 2 a n c xs)(h1:∀u∈xs,u.oneCell'=true)(M:i<n):
  Calls Tryz.prog 154 #[.slice a n c,.int .i64 (i:Int),.int .i64 ((i:Int)+1)] w fun e w'=>e=.returned (.slice a (n-1) c)/\Hp (blks a) w w' [.own 142 2 a (n-1) c (xs.take (i*2)++xs.drop ((i+1)*2))]:=by
 apply lDelAt.ok;unfold lDelAt.vc
 have b:Tryz.prog.underlying 69=some (.slice 142):=by kernel_rfl
 have d:Elt Tryz.prog 69 142 2 32:=CW (by kernel_rfl);have j:=h.1;have l:=h.le;obtain⟨g,r⟩:=h.CV (by omega);refine⟨⟨by omega,by omega,by omega,by omega⟩,AB (fun e=>by omega) (fun _=>⟨⟨by omega,by omega⟩,⟨by omega,by omega⟩,?_⟩)⟩;have y:Int.toNat (i:Int)=i:=Int.toNat_natCast i
 have m:Int.toNat ((i:Int)+1)=i+1:=by omega
 rw[y,m];have A:Own w.drew 0 142 2 a i c (xs.take (i*2)):=h.keep (F:=i) (by omega)
 have B:Cells w.drew (slA a c (i+1) 2) (xs.drop ((i+1)*2)):=by
  have o:Cells w.drew a xs:=h.cells;exact o.slAz j l.1
 have p:(xs.drop ((i+1)*2)).length=(n-(i+1))*2:=by rw[length_drop,Nat.sub_mul];omega
 obtain⟨s,t,x,C⟩:=Own.fG (ty:=69) d A (by rw[r];simp) (Cells.src (P:=Tryz.prog) (c:=c-(i+1)) b B p (fun u D=>h1 u (mem_of_mem_drop D)) (fun e=>by
  rw[r]at e;unfold Vc.slA at e
  split at e<;>cases e)) (by omega)
 have G:i+(n-(i+1))=n-1:=by omega
 rw[G]at t x;refine⟨a,n-1,c,s,t,⟨by omega,by omega,by omega⟩,?_⟩;rw[Int.toNat_natCast,Int.toNat_natCast];obtain⟨H,J,K,L⟩:=Own.WY (P:=Tryz.prog) (dT:=69) (ty:=0) (N:=n-(n-1)) (c':=c-(n-1)) (z:=.agg #[.string ⟨#[]⟩,.string ⟨#[]⟩]) x b (by kernel_rfl) (by rfl) (by decide) (by omega);refine⟨H,J,rfl,?_⟩;have q:Chg (blks a) w s:=C;exact Hp.QL K (q.trans L (fun k f=>f) (fun k f=>.inl f)) (fun k f=>.inl f)
theorem Qu{v:Int}:∀(a:List Int)(k:Nat),a[k]? =some v->(∀j,j<k->a[j]? ≠some v)->a.idxOf v=k
 | [],k,h,_=>by simp at h
 |x::r,0,h,_=>by cases h;exact List.idxOf_cons_self
 |x::r,k+1,h,hno=>by
  have b:x≠v:=fun e=>hno 0 (by omega) (by rw[e];rfl)
  have e:(x==v)=false:=by simpa using b
  rw[List.idxOf_cons,e,cond_false,Qu r k (by simpa using h) fun j c=>by simpa using hno (j+1) (by omega)]
theorem lIdxI_spec(a:Option Addr)(n c:Nat)(b:List Int)(v:Int)(w:World)(h:Cells w a (b.map (.int .i64)))(hn:n=b.length)(u:n<=maxLen):
  Calls Tryz.prog 215 #[.slice a n c,.int .i64 v] w fun e w'=>e=.returned (.int .i64 (if v∈b then(b.idxOf v:Int)else-1))/\w'=w:=by
 apply lIdxI.ok;unfold lIdxI.vc;simp only[maxLen]at u;refine AP.mk (fun m s w'=>∃k:Nat,m=n-k/\k<=n/\s=(k:Int)/\w'=w/\∀j,j<k->b[j]? ≠some v) n ⟨0,rfl,by omega,rfl,rfl,by omega⟩ ?_
 rintro m s x next ⟨k,rfl,y,rfl,rfl,f⟩ g
 refine AB (fun r=>?_) (fun r=>⟨?_,rfl⟩)
 ·have d:k<b.length:=by omega
  have i:(b.map (Value.int IntKind.i64))[k]? =some (.int .i64 b[k]):=by simp[d]
  obtain⟨z,t,_⟩:=h k _ i;refine AA t ⟨⟨by omega,r⟩,b[k],?_,AB (fun o=>⟨?_,rfl⟩) (fun o=>⟨iR,g (n-(k+1)) _ _ (by omega) ⟨k+1,rfl,by omega,by simp,rfl,fun j p=>?_⟩⟩)⟩
  ·rw[Int.toNat_natCast,Nat.mul_one];exact h.ld yInt t i
  ·have q:v∈b:=o▸List.getElem_mem d
   have l:b.idxOf v=k:=Qu b k (by rw[List.getElem?_eq_getElem d,<- o]) f;rw[if_pos q,l]
  ·by_cases e:j=k
   ·subst e
    rw[List.getElem?_eq_getElem d];exact fun e=>o (Option.some.inj e).symm
   ·exact f j (by omega)
 ·rw[if_neg]
  intro q;obtain⟨j,p⟩:=List.getElem?_of_mem q;exact f j (by have:=(List.getElem?_eq_some_iff.1 p).1;omega) p
theorem Kq{K:Type}[DecidableEq K]{f:KeyT K}(b:Nat)(al:List (K×Value))(w:World)(h:MapAt f w b al):
  Calls Tryz.prog 50 #[.map (some b)] w fun e w'=>∃d,e=.returned (.map (some d))/\d=w.heap.size/\MapAt f w' d al/\Chg [] w w':=by
 apply lMCloneSp.ok;unfold lMCloneSp.vc;obtain⟨g,a,i,j⟩:=h
 have c:Tryz.prog.underlying 80=some (.map 3 62):=by kernel_rfl
 refine⟨false,?_,BA (x:=_) ⟨⟨.iface 80 (.map (some w.heap.size)),w.alloc (.map g a),?_,?_⟩⟩⟩
 ·have:=run_eql_map_nil_sl (P:=Tryz.prog) w 80 _ _ (some b) c
  simp only[Eqv,Sem.run_bind,eqGuard];simp[this]
 ·rw[run_callFunc_extern Tryz.func88 (by kernel_rfl) (by kernel_rfl) (by kernel_rfl) (e:=Extern.MapsClone.clone) (by kernel_rfl),run_maps_clone_sl w 80 i]
  rfl
 ·refine⟨_,rfl,some w.heap.size,run_typeAssert_map_sl _ 80 20 _ _ _ c,w.heap.size,rfl,rfl,⟨g,a,FO w _,j⟩,⟨rfl,rfl,rfl,by simp,fun k l _=>alloc_old w _ k l⟩⟩
theorem lMClonePl_spec{K:Type}[DecidableEq K]{f:KeyT K}(b:Nat)(al:List (K×Value))(w:World)(h:MapAt f w b al):
  Calls Tryz.prog 52 #[.map (some b)] w fun e w'=>∃d,e=.returned (.map (some d))/\d=w.heap.size/\MapAt f w' d al/\Chg [] w w':=by
 apply lMClonePl.ok;unfold lMClonePl.vc;obtain⟨g,a,i,j⟩:=h
 have c:Tryz.prog.underlying 83=some (.map 9 101):=by kernel_rfl
 refine⟨false,?_,BA (x:=_) ⟨⟨.iface 83 (.map (some w.heap.size)),w.alloc (.map g a),?_,?_⟩⟩⟩
 ·have:=run_eql_map_nil_sl (P:=Tryz.prog) w 83 _ _ (some b) c
  simp only[Eqv,Sem.run_bind,eqGuard];simp[this]
 ·rw[run_callFunc_extern Tryz.func88 (by kernel_rfl) (by kernel_rfl) (by kernel_rfl) (e:=Extern.MapsClone.clone) (by kernel_rfl),run_maps_clone_sl w 83 i]
  rfl
 ·refine⟨_,rfl,some w.heap.size,run_typeAssert_map_sl _ 83 20 _ _ _ c,w.heap.size,rfl,rfl,⟨g,a,FO w _,j⟩,⟨rfl,rfl,rfl,by simp,fun k l _=>alloc_old w _ k l⟩⟩
theorem lMCloneSI_spec{K:Type}[DecidableEq K]{f:KeyT K}(b:Nat)(al:List (K×Value))(w:World)(h:MapAt f w b al):
  Calls Tryz.prog 90 #[.map (some b)] w fun e w'=>∃d,e=.returned (.map (some d))/\d=w.heap.size/\MapAt f w' d al/\Chg [] w w':=by
 apply lMCloneSI.ok;unfold lMCloneSI.vc;obtain⟨g,a,i,j⟩:=h
 have c:Tryz.prog.underlying 147=some (.map 9 3):=by kernel_rfl
 refine⟨false,?_,BA (x:=_) ⟨⟨.iface 147 (.map (some w.heap.size)),w.alloc (.map g a),?_,?_⟩⟩⟩
 ·have:=run_eql_map_nil_sl (P:=Tryz.prog) w 147 _ _ (some b) c
  simp only[Eqv,Sem.run_bind,eqGuard];simp[this]
 ·rw[run_callFunc_extern Tryz.func88 (by kernel_rfl) (by kernel_rfl) (by kernel_rfl) (e:=Extern.MapsClone.clone) (by kernel_rfl),run_maps_clone_sl w 147 i]
  rfl
 ·refine⟨_,rfl,some w.heap.size,run_typeAssert_map_sl _ 147 20 _ _ _ c,w.heap.size,rfl,rfl,⟨g,a,FO w _,j⟩,⟨rfl,rfl,rfl,by simp,fun k l _=>alloc_old w _ k l⟩⟩
noncomputable section
theorem nPT:Scl Tryz.prog 49:=BK (by kernel_rfl)
theorem nMN:Scl Tryz.prog 117:=BK (by kernel_rfl)
theorem nSI:Scl Tryz.prog 59:=BK (by kernel_rfl)
theorem nSIt:Scl Tryz.prog 34:=BK (by kernel_rfl)
theorem fC:Scl Tryz.prog 104:=BK (by kernel_rfl)
theorem KE:Agg Tryz.prog 71 7:=Ci (by kernel_rfl)
theorem dW:Agg Tryz.prog 139 8:=Ci (by kernel_rfl)
theorem MP:Elt Tryz.prog 59 3 1 8:=CW (by kernel_rfl)
theorem NF:Tryz.prog.underlying 59=some (.slice 3):=by kernel_rfl
theorem D7:MapT Tryz.prog (DF .i64) 117 3 136 (.pointer none):=⟨by kernel_rfl,by kernel_rfl,by kernel_rfl⟩
structure NW where
 b:Nat
 aa:Option Addr
 ac:Nat
 ka:Option Addr
 kc:Nat
def AO(l:List Int):List Value:=l.map (.int .i64)
def nodC(y:NW)(e:En):List Value:=[.int .i64 e.id,.int .i64 e.par,.int .i64 e.x.kind,.int .i64 0,.string e.x.name,.string e.x.text,.slice y.aa e.x.attrs.length y.ac,.slice y.ka e.kids.length y.kc]
def nodL(p:NW×En):List Asn:=[.blk p.1.b (nodC p.1 p.2) 139,.own 142 2 p.1.aa p.2.x.attrs.length p.1.ac (atC p.2.x.attrs),.own 3 1 p.1.ka p.2.kids.length p.1.kc (AO p.2.kids)]
def BX(ws:List (NW×En)):List Asn:=ws.flatMap nodL
def nodM(ws:List (NW×En)):List (Int×Value):=ws.map fun p=>(p.2.id,.pointer (some ⟨p.1.b,0,none⟩))
def treC(mb:Nat)(root next:Int):List Value:=[.map (some mb),.int .i64 root,.int .i64 next]
def treL(b mb:Nat)(root next:Int)(ws:List (NW×En)):List Asn:=.blk b (treC mb root next) 119::.imap mb .i64 (nodM ws)::BX ws
def Ac:Fo->Int
 |.nil=>0
 |.cons i _ _ _=>i
def DK(F:Fo)(ws:List (NW×En)):Prop:=(ws.map (·.2)).Perm (ents F 0)
def treeF(b:Nat)(F:Fo)(next:Int)(L:List Asn):Prop:=∃mb ws,DK F ws/\L=treL b mb (Ac F) next ws
def KH(b:Nat)(T:Tr)(L:List Asn):Prop:=∃F,BN F T/\treeF b F T.next L
def AU(f:List Nat)(b:Nat)(T:Tr):Asn:=pkA f (KH b T)
theorem ZL{F:Fo}{p i q:Int}{x:NX}{k:Fo}(hn:(ids F).Nodup)(h:AZ F p i=some (q,x,k)):(⟨i,q,x,tops k⟩:En)∈ents F p:=by
 obtain⟨R,a,_⟩:=Dw F p i hn h;exact a.mem_iff.2 (.head _)
section
variable{F:Fo}{ws:List (NW×En)}
theorem DK.ids(h:DK F ws):((nodM ws).map (·.1)).Perm (Nod.ids F):=by
 have:=h.map (·.id);rw[Bz,map_map]at this;rw[nodM,map_map];exact this
theorem DK.apart(h:DK F ws)(hn:(Nod.ids F).Nodup):Ef (nodM ws):=h.ids.nodup_iff.2 hn
theorem DK.at_(h:DK F ws)(hn:(Nod.ids F).Nodup){i q:Int}{x:NX}{k:Fo}(g:AZ F 0 i=some (q,x,k)):
  ∃A y B,ws=A++(y,⟨i,q,x,tops k⟩)::B/\aget (nodM ws) i=some (.pointer (some ⟨y.b,0,none⟩)):=by
 have j:=h.mem_iff.2 (ZL hn g);obtain⟨⟨y,e⟩,c,d⟩:=mem_map.1 j;dsimp only at d;subst d;obtain⟨A,B,a⟩:=append_of_mem c;exact⟨A,y,B,a,(Ei (h.apart hn)).2 (mem_map.2 ⟨_,c,rfl⟩)⟩
theorem DK.none(h:DK F ws){i:Int}(a:AZ F 0 i=none):aget (nodM ws) i=none:=by
 rw[JE];intro c;exact(Au F 0 i).2 (h.ids.mem_iff.1 c) a
structure O1(F:Fo)(ws:List (NW×En)):Prop where
 at_:∀{i q:Int}{x:NX}{k:Fo},AZ F 0 i=some (q,x,k)->∃A y q' B,ws=A++(y,(⟨i,q',x,tops k⟩:En))::B/\aget (nodM ws) i=some (.pointer (some ⟨y.b,0,none⟩))
 none:∀{i:Int},AZ F 0 i=none->aget (nodM ws) i=none
def LH(e:En):En:= {e with par:=0}
theorem O1.of(hn:(Nod.ids F).Nodup)(h:(ws.map fun p=>LH p.2).Perm ((ents F 0).map LH)):O1 F ws:=by
 have m:((nodM ws).map (·.1)).Perm (Nod.ids F):=by
  have a:=h.map (·.id);rw[map_map,map_map]at a
  have o:(ents F 0).map ((fun x=>x.id)∘LH)=Nod.ids F:=by rw[<- Bz F 0];rfl
  rw[o]at a;rw[nodM,map_map];exact a
 have c:Ef (nodM ws):=m.nodup_iff.2 hn;refine⟨fun{i q x k} d=>?_,fun{i} d=>?_⟩
 ·have g:=h.mem_iff.2 (mem_map.2 ⟨_,ZL hn d,rfl⟩)
  obtain⟨⟨y,e⟩,n,j⟩:=mem_map.1 g;dsimp only at j;obtain⟨s,r,t,u⟩:=e;simp only[LH,En.mk.injEq]at j;obtain⟨rfl,_,rfl,rfl⟩:=j;obtain⟨A,B,l⟩:=append_of_mem n;exact⟨A,y,r,B,l,(Ei c).2 (mem_map.2 ⟨_,n,rfl⟩)⟩
 ·rw[JE]
  intro g;exact(Au F 0 i).2 (m.mem_iff.1 g) d
theorem DK.v(h:DK F ws)(hn:(Nod.ids F).Nodup):O1 F ws:=O1.of hn (by
 have:=h.map LH
 rwa [map_map]at this)
theorem nods_split(A:List (NW×En))(p:NW×En)(B:List (NW×En)):(BX (A++p::B)).Perm (nodL p++BX (A++B)):=by
 rw[BX,BX,flatMap_append,flatMap_cons,flatMap_append,<- append_assoc,<- append_assoc];exact List.perm_append_comm.append_right _
theorem Xq{p:NW×En}(h:p∈ws):∀a∈nodL p,a∈BX ws:=fun a c=>List.mem_flatMap.2 ⟨p,h,c⟩
theorem Dv{b mb:Nat}{root next:Int}{p:NW×En}(h:p∈ws){a:Asn}(c:a∈nodL p):a∈treL b mb root next ws:=.tail _ (.tail _ (Xq h a c))
theorem DK.len(h:DK F ws):ws.length=(Nod.ids F).length:=by
 have:=h.length_eq;rw[length_map]at this;rw[this,<- Bz F 0,length_map]
end
theorem MI(l:List Int):∀u∈AO l,u.oneCell'=true:=by
 intro u a;obtain⟨_,_,rfl⟩:=mem_map.1 a;rfl
theorem VI(l:List Int):(AO l).length=l.length:=length_map _
theorem aP{F:Fo}{T:Tr}(G:BN F T):Ac F=(T.L.head?.map (·.id)).getD 0:=by
 rw[<- G.fl]
 cases F with
 |nil=>rfl
 |cons i x k s=>rfl
def dI(T:Tr):Int:=(T.L.head?.map (·.id)).getD 0
section
variable{b mb:Nat}{root next:Int}{F:Fo}{ws:List (NW×En)}{w:World}
theorem gRoot_w(h:Blk w b (treC mb root next) 119):Calls Tryz.prog 33 #[.pointer (some ⟨b,0,none⟩)] w fun e w'=>e=.returned (.int .i64 root)/\w'=w:=by
 apply gRoot.ok;unfold gRoot.vc;exact AA rfl ⟨root,h.ld (o:=1) yInt.agg rfl,rfl,rfl⟩
theorem gNext_w(h:Blk w b (treC mb root next) 119):Calls Tryz.prog 39 #[.pointer (some ⟨b,0,none⟩)] w fun e w'=>e=.returned (.int .i64 next)/\w'=w:=by
 apply gNext.ok;unfold gNext.vc;exact AA rfl ⟨next,h.ld (o:=2) yInt.agg rfl,rfl,rfl⟩
end
theorem run_len_map{P:Program}{w:World}{t c d ty:TypeId}{K:Type}[DecidableEq K]{e:KeyT K}{b:Nat}{al:List (K×Value)}(g:P.underlying t=some (.map c d))(h:MapAt e w b al):LenM P #[t] ty w (.map (some b)) (.int .i64 (al.length:Int)):=by
 obtain⟨i,a,j,k,_⟩:=h
 have l:i.size=al.length:=by
  have:=congrArg List.length k;simpa using this
 simp[LenM,Builtin.len_,Builtin.lenOf,Go.Vc.run_getObj_map j,Ad g,goInt,l]
section
variable{f:List Nat}{b:Nat}{T:Tr}{w:World}
theorem FQ(h:(AU f b T).ok w):∃F mb ws,BN F T/\DK F ws/\Std w (treL b mb (Ac F) T.next ws)/\∀k∈feet (treL b mb (Ac F) T.next ws),k∈f:=by
 obtain⟨L,⟨F,a,mb,ws,c,rfl⟩,d,e⟩:=EP h;exact⟨F,mb,ws,a,c,d,e⟩
theorem Jw(h:(AU f b T).ok w):Calls Tryz.prog 33 #[.pointer (some ⟨b,0,none⟩)] w fun e w'=>e=.returned (.int .i64 (dI T))/\w'=w:=by
 obtain⟨F,mb,ws,a,d,c,_⟩:=FQ h;have:=gRoot_w (c.ok _ (.head _));rw[aP a]at this;exact this
theorem UX(h:(AU f b T).ok w):Calls Tryz.prog 39 #[.pointer (some ⟨b,0,none⟩)] w fun e w'=>e=.returned (.int .i64 T.next)/\w'=w:=by
 obtain⟨F,mb,ws,c,d,a,_⟩:=FQ h;exact gNext_w (a.ok _ (.head _))
theorem PM(h:(AU f b T).ok w):Calls Tryz.prog 30 #[.pointer (some ⟨b,0,none⟩)] w fun e w'=>e=.returned (.int .i64 (T.L.length:Int))/\w'=w:=by
 obtain⟨F,mb,ws,c,d,a,_⟩:=FQ h;apply gLen.ok;unfold gLen.vc;have g:MapAt (DF .i64) w mb (nodM ws):=a.ok _ m1;have i:Blk w b (treC mb (Ac F) T.next) 119:=a.ok _ (.head _);refine AA rfl ⟨some mb,i.ld (o:=0) nMN.agg rfl,_,run_len_map D7.und g,?_,rfl⟩
 have e:(nodM ws).length=T.L.length:=by rw[nodM,length_map,d.len,BR c]
 rw[e]
end
section
variable{b mb:Nat}{root next:Int}{F:Fo}{ws:List (NW×En)}{w:World}
theorem row_one:∀(L:List Rw),(L.map (·.id)).Nodup->∀a∈L,∀c∈L,a.id=c.id->a=c:=by
 intro L
 induction L with
 |nil=>intro _ a i;cases i
 |cons r t m=>
  intro h a i b k e;rw[map_cons,nodup_cons]at h;rcases mem_cons.1 i with l|g
  ·rcases mem_cons.1 k with j|d
   ·rw[l,j]
   ·exact(h.1 (mem_map.2 ⟨b,d,by rw[<- e,l]⟩)).elim
  ·rcases mem_cons.1 k with j|d
   ·exact(h.1 (mem_map.2 ⟨a,g,by rw[e,j]⟩)).elim
   ·exact m h.2 a g b d e
theorem NK(hn:(ids F).Nodup)(d:DK F ws)(g:Std w (treL b mb root next ws))(i:Int):
  Calls Tryz.prog 147 #[.pointer (some ⟨b,0,none⟩),.int .i64 i] w fun e w'=>w'=w/\
   ((AZ F 0 i=none/\e=.returned (.tuple #[.pointer none,.int .i64 60]))\/
    (∃q x k,AZ F 0 i=some (q,x,k)/\x.kind≠1/\e=.returned (.tuple #[.pointer none,.int .i64 68]))\/
    (∃q x k A y B,AZ F 0 i=some (q,x,k)/\x.kind=1/\ws=A++(y,⟨i,q,x,tops k⟩)::B/\e=.returned (.tuple #[.pointer (some ⟨y.b,0,none⟩),.int .i64 0]))):=by
 apply gElement.ok;unfold gElement.vc;have H:=Hp.CE g;refine AA rfl ⟨some mb,H.lo nMN,?_⟩
 cases hl:AZ F 0 i with
 |none=>
  have a:=d.none hl;exact⟨none,false,H.NC D7 EQ4 m1 (by rw[a];rfl) (by rw[a];rfl),CU (x:=_) ⟨rfl,.inl ⟨rfl,rfl⟩⟩⟩
 |some z=>
  obtain⟨q,x,k⟩:=z;obtain⟨A,y,B,c,a⟩:=d.at_ hn hl
  have j:Asn.blk y.b (nodC y ⟨i,q,x,tops k⟩) 139∈treL b mb root next ws:=Dv (p:=(y,⟨i,q,x,tops k⟩)) (by rw[c];simp) (.head _)
  refine⟨some ⟨y.b,0,none⟩,true,H.NC D7 EQ4 m1 (by rw[a];rfl) (by rw[a];rfl),BA (x:=_) (AA rfl ⟨x.kind,H.ld (o:=2) (cs:=nodC y ⟨i,q,x,tops k⟩) EQ4 yInt j rfl,AV (fun h=>⟨rfl,.inr (.inl ⟨q,x,k,rfl,h,rfl⟩)⟩) (fun h=>⟨rfl,.inr (.inr ⟨q,x,k,A,y,B,rfl,h,c,rfl⟩)⟩)⟩)⟩
theorem Y9(hn:(ids F).Nodup)(m:∀j∈ids F,j≠0)(ab:∃j z kk,F=.cons j z kk .nil)(hw:DK F ws)(hs:Std w (treL b mb root next ws)){i q:Int}{x:NX}{k:Fo}{A B:List Rw}{v:Int}(hl:AZ F 0 i=some (q,x,k))(hm:Mid F 0 i 0 q x k A B v)(hv:v<=1000000):
  Calls Tryz.prog 149 #[.pointer (some ⟨b,0,none⟩),.int .i64 i] w fun e w'=>e=.returned (.int .i64 v)/\w'=w:=by
 apply gLevel.ok;unfold gLevel.vc;have H:=Hp.CE hs;have M:=hm.le;refine AP.mk (fun n s w'=>∃q x k A B u,n=u.toNat/\w'=w/\AZ F 0 s.1=some (q,x,k)/\Mid F 0 s.1 0 q x k A B u/\s.2=v-u/\0<=u/\u<=v) v.toNat ⟨q,x,k,A,B,v,rfl,rfl,hl,hm,(Int.sub_self v).symm,M,Int.le_refl _⟩ ?_;rintro n ⟨j,c⟩ N nx ⟨a,O,R,A1,B1,u,rfl,rfl,t,d,hc,ac,ad⟩ U;dsimp only at t d hc⊢;obtain⟨A2,y,B2,X,ha⟩:=hw.at_ hn t
 have C:Asn.blk y.b (nodC y ⟨j,a,O,tops R⟩) 139∈treL b mb root next ws:=Dv (p:=(y,⟨j,a,O,tops R⟩)) (by rw[X];simp) (.head _)
 have D:Ld Tryz.prog 117 N ⟨b,0,none⟩ (.map (some mb)):=H.lo nMN;have G:Lk Tryz.prog 117 false N (.map (some mb)) (.int .i64 j) (.pointer (some ⟨y.b,0,none⟩)):=H.lkI D7 EQ4 m1 (by rw[ha];rfl);have J:Ld Tryz.prog 3 N ⟨y.b,1,none⟩ (.int .i64 a):=H.ld (o:=1) (cs:=nodC y ⟨j,a,O,tops R⟩) EQ4 yInt C rfl;refine AA rfl ⟨_,D,_,G,AA rfl ⟨a,by rw[add_lit];exact J,AV (fun h=>AA rfl ⟨_,D,_,G,AA rfl ⟨a,by rw[add_lit];exact J,iR,?_⟩⟩) (fun h=>⟨?_,rfl⟩)⟩⟩
 ·rcases d.up with⟨K,_⟩|⟨K,A3,z,A4,Y,_⟩
  ·exact(h K).elim
  ·have g:(⟨a,u-1,z⟩:Rw)∈flat F 0:=by rw[d.fl,Y];simp
   have Z:a∈ids F:=by rw[<- BH F 0];exact mem_map.2 ⟨_,g,rfl⟩
   have aa:=(Au F 0 a).2 Z
   cases hlq:AZ F 0 a with
   |none=>exact(aa hlq).elim
   |some r=>
    obtain⟨q2,x2,k2⟩:=r;obtain⟨A5,B5,u2,l⟩:=Bo F 0 a 0 hn hlq;have L:=l.level;have:=row_one (flat F 0) (by rw[BH];exact hn) _ g _ L rfl
    injection this with _ e2 _
    have ae:u2=u-1:=e2.symm;have:=l.le;refine U u2.toNat _ _ (by omega) ⟨q2,x2,k2,A5,B5,u2,rfl,rfl,hlq,l,by dsimp only;omega,by omega,by omega⟩
 ·rcases d.up with⟨_,K⟩|⟨K,A3,z,A4,Y,_⟩
  ·rw[hc,K,Int.sub_zero]
  ·have g:(⟨a,u-1,z⟩:Rw)∈flat F 0:=by rw[d.fl,Y];simp
   have Z:a∈ids F:=by rw[<- BH F 0];exact mem_map.2 ⟨_,g,rfl⟩
   exact(m a Z h).elim
end
end
end Go.Proofs.YtljenkbpnioipaaGreat
namespace Go.Nod
theorem Lm:∀(F G:Fo),ids (app F G)=ids F++ids G
 |.nil,G=>rfl
 |.cons i x k s,G=>by rw[app,ids,ids,Lm s G];simp
theorem Wj:∀(F G H:Fo),app (app F G) H=app F (app G H)
 |.nil,G,H=>rfl
 |.cons i x k s,G,H=>by rw[app,app,app,Wj s G H]
theorem Ja:∀(F:Fo),(tops F).length<=(ids F).length
 |.nil=>Nat.le_refl _
 |.cons i x k s=>by
  have:=Ja s;rw[tops,ids,length_cons,length_cons,length_append];omega
theorem look_in:∀(F:Fo)(p i c:Int){q:Int}{x:NX}{k:Fo}{r:Int×NX×Fo},(ids F).Nodup->AZ F p i=some (q,x,k)->AZ k i c=some r->AZ F p c=some r
 |.nil,p,i,c,q,x,k,r,_,h,_=>by cases h
 |.cons j y kk s,p,i,c,q,x,k,r,hn,h,hc=>by
  rw[ids,nodup_cons,nodup_append]at hn;obtain⟨d,l,m,n⟩:=hn;rw[AZ]at h⊢;split at h
  ·rename_i e
   cases h;subst e;have f:c∈ids kk:=(Au kk j c).1 (by rw[hc];simp);have a:¬j=c:=fun e=>d (mem_append_left _ (e▸f));rw[if_neg a,hc]
  ·rename_i e
   split at h
   ·rename_i u o
    cases h;have g:=look_in kk j i c l o hc;have f:c∈ids kk:=(Au kk j c).1 (by rw[g];simp);have a:¬j=c:=fun e=>d (mem_append_left _ (e▸f));rw[if_neg a,g]
   ·rename_i o
    have g:=look_in s p i c m h hc;have f:c∈ids s:=(Au s p c).1 (by rw[g];simp);have a:¬j=c:=fun e=>d (mem_append_right _ (e▸f))
    have t:AZ kk j c=none:=by
     cases h9:AZ kk j c with
     |none=>rfl
     |some w=>exact(n c ((Au kk j c).1 (by rw[h9];simp)) c f rfl).elim
    rw[if_neg a,t];exact g
theorem Yn:∀(K:Fo)(i c:Int)(y:NX)(d s:Fo),(ids (app K (.cons c y d s))).Nodup->AZ (app K (.cons c y d s)) i c=some (i,y,d)
 |.nil,i,c,y,d,s,_=>by rw[app,AZ,if_pos rfl]
 |.cons j z a t,i,c,y,d,s,h=>by
  rw[app,ids,nodup_cons,nodup_append]at h
  have g:c∈ids (app t (.cons c y d s)):=by rw[Lm,ids];simp
  have f:¬j=c:=fun e=>h.1 (mem_append_right _ (e▸g))
  have k:AZ a j c=none:=by
   cases h9:AZ a j c with
   |none=>rfl
   |some l=>exact(h.2.2.2 c ((Au a j c).1 (by rw[h9];simp)) c g rfl).elim
  rw[app,AZ,if_neg f,k];exact Yn t i c y d s h.2.2.1
theorem row_in{i c:Int}{x y:NX}{K d s:Fo}{a:Int}{j:Nat}{r:Rw}(h:(flat (.cons c y d .nil) (a+1))[j]? =some r):(flat (.cons i x (app K (.cons c y d s)) .nil) a)[1+(ids K).length+j]? =some r:=by
 have e:flat (.cons i x (app K (.cons c y d s)) .nil) a=(⟨i,a,x⟩::flat K (a+1))++(flat (.cons c y d .nil) (a+1)++flat s (a+1)):=by
  simp[flat,TL]
 have f:(⟨i,a,x⟩::flat K (a+1):List Rw).length=1+(ids K).length:=by rw[length_cons,BM];omega
 have g:=(List.getElem?_eq_some_iff.1 h).1;rw[e,List.getElem?_append_right (by omega),f,Nat.add_sub_cancel_left,List.getElem?_append_left g];exact h
end Go.Nod
namespace Go.Proofs.YtljenkbpnioipaaGreat
noncomputable section
open Go Go.Vc Go.Nod
def dA(D:Nat):Asn:=objA D (.deferred (some []))
theorem shutAll{B:List Nat}{w0:World}:∀(a:List Nat)(w:World)(L:List Asn),Hp B w0 w (a.map dA++L)->∃w1,HY a w w1/\Hp B w0 w1 L
 | [],w,L,H=>⟨w,rfl,H⟩
 |D::a,w,L,H=>by
  have H:Hp B w0 w (dA D::(a.map dA++L)):=H;obtain⟨w1,c,d⟩:=shutAll a _ L ((H.putO (o':=.deferred none)).drop);exact⟨w1,⟨_,⟨H.obj (.head _),rfl⟩,c⟩,d⟩
theorem Gj(b:Nat)(i a:Int)(w:World):Calls Tryz.prog 69 #[.pointer (some ⟨b,0,none⟩),.int .i64 i,.int .i64 a] w fun e w'=>
  ∃c d f,e=.returned (.func (.func 137) #[] #[.pointer (some ⟨c,0,none⟩),.pointer (some ⟨d,0,none⟩),.pointer (some ⟨f,0,none⟩)])/\
   Hp [] w w' [.blk f [.int .i64 a] 3,.blk d [.int .i64 i] 3,.blk c [.pointer (some ⟨b,0,none⟩)] 49]:=by
 apply gBelow.ok;unfold gBelow.vc;intro c k g;have H:=(Hp.start w).nw g;intro d l h;replace H:=H.nw h;intro f m j;replace H:=H.nw j;exact⟨c,d,f,rfl,H⟩
theorem fJ{B:List Nat}{w0 w:World}{L R:List Asn}{x:Asn}(H:Hp B w0 w (x::(L++R))):Hp B w0 w (L++x::R):=H.perm List.perm_middle.symm
theorem NZ{B:List Nat}{w0 w:World}{L R:List Asn}{x:Asn}(H:Hp B w0 w (L++x::R)):Hp B w0 w (x::(L++R)):=H.perm perm_middle
def Yld(B:List Nat)(w0:World)(G' J:List Asn->Prop)(Fr:List Asn)(e:Ending)(w':World):Prop:=
 (e=.returned (.bool true)/\∃L',G' L'/\Hp B w0 w' (L'++Fr))\/(e=.returned (.bool false)/\∃L',J L'/\Hp B w0 w' (L'++Fr))
section
variable{B:List Nat}{w0:World}(b mb:Nat)(root next:Int)(ws:List (NW×En))(F:Fo)
theorem below1(ae:(ids F).Nodup)(hw:O1 F ws):∀(n:Nat)(i q:Int)(x:NX)(k:Fo)(d:Int)(m l:Nat)(G:Nat->List Asn->Prop)(J:List Asn->Prop)(f0 f1 f2:Nat)(Fr L:List Asn)(w:World),
  (ids k).length<n->AZ F 0 i=some (q,x,k)->0<=d->d+(ids k).length<=1000000->
  (∀j L,G j L->∀a∈treL b mb root next ws,a∈L)->
  (∀(j:Nat)(r:Rw),(flat (.cons i x k .nil) d)[j]? =some r->∀(Fr L:List Asn)(w:World),G (m+j) L->Hp B w0 w (L++Fr)->
   Ee Tryz.prog (.func (.yield l) #[] #[]) [.int .i64 r.id,.int .i64 r.level] w fun e w'=>Yld B w0 (G (m+j+1)) J Fr e w')->
  Asn.blk f0 [.pointer (some ⟨b,0,none⟩)] 49∈Fr->Asn.blk f1 [.int .i64 i] 3∈Fr->Asn.blk f2 [.int .i64 d] 3∈Fr->
  G m L->Hp B w0 w (L++Fr)->
  Calls Tryz.prog 137 #[.func (.yield l) #[] #[],.pointer (some ⟨f0,0,none⟩),.pointer (some ⟨f1,0,none⟩),.pointer (some ⟨f2,0,none⟩)] w fun e w'=>
   e=.returned (.tuple #[])/\((∃L',G (m+1+(ids k).length) L'/\Hp B w0 w' (L'++Fr))\/∃L',J L'/\Hp B w0 w' (L'++Fr)):=by
 intro n
 induction n with
 |zero=>intro i q x k d m l G J f0 f1 f2 Fr L w hn;omega
 |succ n ih=>
 intro i q x k d m l G J f0 f1 f2 Fr L w hn af a2 a3 hT hy m0 m1 m2 hG H
 apply gBelow1.ok;unfold gBelow1.vc
 intro C w1 al
 have M:=fJ (H.nw al)
 clear H al
 obtain⟨A,y,q',Bw,aq,ha⟩:=hw.at_ af
 have ab:∀a∈nodL (y,⟨i,q',x,tops k⟩),a∈treL b mb root next ws:=fun a ha=>Dv (p:=(y,⟨i,q',x,tops k⟩)) (by rw[aq];simp) ha
 have N:∀{a:Asn}{L Fr:List Asn},a∈Fr->a∈L++Fr:=fun h=>mem_append_right _ h
 have Z:∀{a:Asn}{j:Nat}{L Fr:List Asn},G j L->a∈treL b mb root next ws->a∈L++Fr:=fun hg h=>mem_append_left _ (hT _ _ hg _ h)
 refine⟨_,AA rfl (M.ld (o:=0) (cs:=[.pointer (some ⟨b,0,none⟩)]) EQ4 nPT (N (.tail _ m0)) rfl),AA rfl ⟨some mb,M.ld (o:=0) (cs:=treC mb root next) EQ4 nMN (Z hG (.head _)) rfl,i,AA rfl (M.ld (o:=0) (cs:=[.int .i64 i]) EQ4 yInt (N (.tail _ m1)) rfl),?_⟩⟩
 refine⟨some ⟨y.b,0,none⟩,true,M.NC D7 EQ4 (Z hG (.tail _ (.head _))) (by rw[ha];rfl) (by rw[ha];rfl),BA (x:=_) ?_⟩
 refine⟨.func (.yield l) #[] #[],M.ld (o:=0) (cs:=[.func (.yield l) #[] #[]]) EQ4 fC (N (.head _)) rfl,i,AA rfl (M.ld (o:=0) (cs:=[.int .i64 i]) EQ4 yInt (N (.tail _ m1)) rfl),d,AA rfl (M.ld (o:=0) (cs:=[.int .i64 d]) EQ4 yInt (N (.tail _ m2)) rfl),?_⟩
 refine aG (hy 0 ⟨i,d,x⟩ rfl (.blk C [.func (.yield l) #[] #[]] 104::Fr) L w1.drew hG (M.go EQ4)) ?_
 clear M
 rintro e w2 (⟨rfl,L1,ag,M⟩|⟨rfl,L1,hJ,M⟩)
 rotate_left
 ·exact⟨false,rfl,CU (x:=_) ⟨w2,rfl,rfl,.inr ⟨L1,hJ,(NZ M).drop⟩⟩⟩
 refine⟨true,rfl,BA (x:=_) (AA rfl ⟨y.ka,(tops k).length,y.kc,by rw[add_lit];exact M.ld (o:=7) (cs:=nodC y ⟨i,q',x,tops k⟩) EQ4 nSI (Z ag (ab _ (.head _))) rfl,?_⟩)⟩
 clear hG
 obtain⟨Aq,Bq,vq,am⟩:=Bo F 0 i 0 ae af
 have an:(ids k).Nodup:=by
  have:=ae
  rw[am.ids,nodup_append,nodup_cons,nodup_append]at this
  exact this.2.1.2.1
 refine AP.mk (fun m' s w'=>∃(f K:Fo)(L:List Asn),k=app f K/\m'=(tops K).length/\s.1=((tops f).length:Int)/\G (m+1+(ids f).length) L/\Hp B w0 w' (L++(s.2.map dA++(.blk C [.func (.yield l) #[] #[]] 104::Fr)))) (tops k).length ⟨.nil,k,L1,rfl,rfl,rfl,ag,M⟩ ?_
 clear ag M
 rintro m' ⟨s,t⟩ w3 nx ⟨f,K,L2,rfl,rfl,hs,ah,H2⟩ ar
 dsimp only at hs⊢
 subst hs
 have ao:∀(t:List Nat)(w4:World)(L4:List Asn),Hp B w0 w4 (L4++(t.map dA++(.blk C [.func (.yield l) #[] #[]] 104::Fr)))->∃X,HY t w4 X/\Hp B w0 X (L4++Fr):=fun t w4 L4 h=>by
  have h1:=h.perm (perm_append_comm_assoc _ _ _)
  obtain⟨X,h2,h3⟩:=shutAll t w4 _ h1
  exact⟨X,h2,(NZ h3).drop⟩
 refine AB (fun h3=>?_) (fun h3=>?_)
 rotate_left
 ·have hK:K=.nil:=by
   cases K with
   |nil=>rfl
   |cons c z R s=>
    exfalso
    rw[IV,tops,length_append,length_cons]at h3
    omega
  subst hK
  obtain⟨X,h4,h5⟩:=ao t w3 L2 H2
  refine⟨X,h4,rfl,.inl ⟨L2,?_,h5⟩⟩
  rw[Lm,ids,append_nil];exact ah
 cases K with
 |nil=>rw[IV,tops,append_nil]at h3;omega
 |cons c z R s=>
 have a4:=Ja (app f (.cons c z R s))
 have a5:(tops f).length<(tops (app f (.cons c z R s))).length:=by rw[IV,tops,length_append,length_cons];omega
 have av:(AO (tops (app f (.cons c z R s))))[(tops f).length]? =some (.int .i64 c):=by
  rw[AO,List.getElem?_map,IV,List.getElem?_append_right (Nat.le_refl _),Nat.sub_self];rfl
 obtain⟨ad,aw,a0⟩:=H2.ldO (w':=w3) (o:=(tops f).length) EQ4 yInt (Z ah (ab _ (.tail _ (.tail _ (.head _))))) av
 have a1:AZ F 0 c=some (i,z,R):=look_in F 0 i c ae af (Yn f i c z R s an)
 have a6:(ids R).length+1+(ids f).length<=(ids (app f (.cons c z R s))).length:=by
  rw[Lm,ids,length_append,length_cons,length_append];omega
 refine AA aw ⟨⟨by omega,h3⟩,c,by rw[Int.toNat_natCast,Nat.mul_one];exact a0,_,AA rfl (H2.ld (o:=0) (cs:=[.pointer (some ⟨b,0,none⟩)]) EQ4 nPT (N (mem_append_right _ (.tail _ m0))) rfl),d,AA rfl (H2.ld (o:=0) (cs:=[.int .i64 d]) EQ4 yInt (N (mem_append_right _ (.tail _ m2))) rfl),DD.2 (by omega),?_⟩
 refine AC (Gj b c (d+1) w3) ?_
 rintro _ w4 ⟨g0,g1,g2,rfl,Hb⟩
 replace H2:=H2.ext Hb
 refine⟨_,rfl,137,#[],_,rfl,⟨_,_,Tryz.func137,rfl⟩,⟨fun D Y wa wb g hD hl aa=>?_⟩⟩
 have H3:=(H2.newO EQ4 hD).newO EQ4 hl
 clear H2 hD hl
 have H4:Hp B w0 wb ((objA Y (g .ready none)::.blk C [.func (.yield l) #[] #[]] 104::L2)++(.blk g2 [.int .i64 (d+1)] 3::.blk g1 [.int .i64 c] 3::.blk g0 [.pointer (some ⟨b,0,none⟩)] 49::dA D::(t.map dA++Fr))):=by
  refine H3.perm ?_
  refine List.Perm.cons _ ?_
  have e1:(L2++(t.map dA++.blk C [.func (.yield l) #[] #[]] 104::Fr)).Perm (.blk C [.func (.yield l) #[] #[]] 104::(L2++(t.map dA++Fr))):=by
   refine((perm_middle (l₁:=t.map dA)).append_left L2).trans ?_
   exact perm_middle
  refine(e1.append_left [dA D,.blk g2 [.int .i64 (d+1)] 3,.blk g1 [.int .i64 c] 3,.blk g0 [.pointer (some ⟨b,0,none⟩)] 49]).trans ?_
  refine(perm_middle (l₁:=[dA D,.blk g2 [.int .i64 (d+1)] 3,.blk g1 [.int .i64 c] 3,.blk g0 [.pointer (some ⟨b,0,none⟩)] 49])).trans ?_
  refine List.Perm.cons _ ?_
  refine(perm_append_comm_assoc _ _ _).trans ?_
  refine List.Perm.append_left L2 ?_
  exact(perm_middle (l₁:=[.blk g2 [.int .i64 (d+1)] 3,.blk g1 [.int .i64 c] 3,.blk g0 [.pointer (some ⟨b,0,none⟩)] 49]) (l₂:=t.map dA++Fr)).symm
 clear H3
 refine AC (ih c i z R (d+1) (m+1+(ids f).length) Y (fun j L=>∃T,G j T/\L=objA Y (g .ready none)::.blk C [.func (.yield l) #[] #[]] 104::T) (fun L=>∃T,J T/\L=objA Y (g .done (some .ret))::.blk C [.func (.yield l) #[] #[]] 104::T) g0 g1 g2 _ _ wb (by omega) a1 (by omega) (by omega) ?_ ?_ (.tail _ (.tail _ (.head _))) (.tail _ (.head _)) (.head _) ⟨L2,ah,rfl⟩ H4) ?_
 ·rintro j _ ⟨T,h0,rfl⟩ a ha
  exact .tail _ (.tail _ (hT j T h0 a ha))
 ·rintro j r hr ap _ X ⟨T,h0,rfl⟩ H5
  have O:X.heap[Y]? =some (g .ready none):=H5.obj (.head _)
  refine aa (r.id,r.level) X _ ⟨O,?_⟩ O
  have H6:=H5.putO (o':=g .busy none)
  refine⟨.func (.yield l) #[] #[],H6.ld (o:=0) (cs:=[.func (.yield l) #[] #[]]) EQ4 fC (.tail _ (.head _)) rfl,?_⟩
  have H7:Hp B w0 (X.putObj Y (g .busy none)) (T++(objA Y (g .busy none)::.blk C [.func (.yield l) #[] #[]] 104::ap)):=by
   refine H6.perm ?_
   exact perm_append_comm_assoc [objA Y (g .busy none),.blk C [.func (.yield l) #[] #[]] 104] T ap
  refine aG (hy (1+(ids f).length+j) r (row_in hr) _ T _ ?_ H7) ?_
  ·rw[show m+(1+(ids f).length+j)=m+1+(ids f).length+j by omega];exact h0
  rintro e w6 (⟨rfl,u,h8,U⟩|⟨rfl,u,h8,U⟩)
  ·have H9:=NZ U
   refine⟨true,rfl,BA (x:=_) ⟨H9.obj (.head _),.inl ⟨rfl,_,⟨u,?_,rfl⟩,?_⟩⟩⟩
   ·rw[show m+1+(ids f).length+j+1=m+(1+(ids f).length+j)+1 by omega];exact h8
   ·have ak:=H9.putO (o':=g .ready none)
    exact ak.perm (List.Perm.cons _ perm_middle)
  ·have H9:=NZ U
   refine⟨false,rfl,CU (x:=_) ⟨H9.obj (.head _),.inr ⟨rfl,_,⟨u,h8,rfl⟩,?_⟩⟩⟩
   have ak:=H9.putO (o':=g .done (some .ret))
   exact ak.perm (List.Perm.cons _ perm_middle)
 ·--behind the inner range
  have ac:∀{o:Obj}{w6:World}{u:List Asn}(o':Obj),Hp B w0 w6 ((objA Y o::.blk C [.func (.yield l) #[] #[]] 104::u)++(.blk g2 [.int .i64 (d+1)] 3::.blk g1 [.int .i64 c] 3::.blk g0 [.pointer (some ⟨b,0,none⟩)] 49::dA D::(t.map dA++Fr)))->
    Hp B w0 (w6.putObj Y o') (u++((D::t).map dA++(.blk C [.func (.yield l) #[] #[]] 104::Fr))):=by
   intro o w6 u o' U
   have H9:=(U.putO (o':=o')).drop
   have e2:((.blk C [.func (.yield l) #[] #[]] 104::u)++(.blk g2 [.int .i64 (d+1)] 3::.blk g1 [.int .i64 c] 3::.blk g0 [.pointer (some ⟨b,0,none⟩)] 49::dA D::(t.map dA++Fr)):List Asn).Perm ([.blk g2 [.int .i64 (d+1)] 3,.blk g1 [.int .i64 c] 3,.blk g0 [.pointer (some ⟨b,0,none⟩)] 49]++(u++((D::t).map dA++(.blk C [.func (.yield l) #[] #[]] 104::Fr)))):=by
    refine(perm_append_comm_assoc (.blk C [.func (.yield l) #[] #[]] 104::u) [.blk g2 [.int .i64 (d+1)] 3,.blk g1 [.int .i64 c] 3,.blk g0 [.pointer (some ⟨b,0,none⟩)] 49] (dA D::(t.map dA++Fr))).trans ?_
    refine List.Perm.append_left _ ?_
    have e3:(u++((D::t).map dA++(.blk C [.func (.yield l) #[] #[]] 104::Fr))).Perm (.blk C [.func (.yield l) #[] #[]] 104::(u++((D::t).map dA++Fr))):=by
     refine((perm_middle (l₁:=(D::t).map dA)).append_left u).trans ?_
     exact perm_middle
    exact e3.symm
   exact(H9.perm e2).drop.drop.drop
  rintro e w6 ⟨rfl,⟨_,⟨u,h8,rfl⟩,U⟩|⟨_,⟨u,h8,rfl⟩,U⟩⟩
  ·refine⟨_,rfl,.inl ⟨U.obj (.head _),DD.2 (by omega),?_⟩⟩
   refine ar (tops s).length _ _ (by rw[tops,length_cons];omega) ⟨app f (.cons c z R .nil),s,u,?_,rfl,?_,?_,ac _ U⟩
   ·rw[Wj];rfl
   ·show((tops f).length:Int)+1=_
    rw[IV,length_append];rfl
   ·rw[Lm,length_append,ids,ids,append_nil,length_cons]
    rw[show m+1+((ids f).length+((ids R).length+1))=m+1+(ids f).length+1+(ids R).length by omega]
    exact h8
  ·refine⟨_,rfl,.inr (.inl ⟨U.obj (.head _),?_⟩)⟩
   obtain⟨w7,h7,H7⟩:=ao (D::t) _ u (ac (g .exhausted (some .ret)) U)
   exact⟨w7,h7,rfl,.inr ⟨u,h8,H7⟩⟩
end
end
noncomputable section
open Go Go.Vc Go.Nod
def BO(F:Fo)(i:Int):List Rw:=match AZ F 0 i with
 |some (_,x,k)=>flat (.cons i x k .nil) 0
 |none=>[]
section
variable{B:List Nat}{w0:World}(b mb:Nat)(root next:Int)(ws:List (NW×En))(F:Fo)
theorem below1_none(p:O1 F ws)(i q:Int)(l k m r:Nat)(Fr L:List Asn)(w:World)(g:AZ F 0 i=none)
  (s:∀a∈treL b mb root next ws,a∈L) (t:Asn.blk k [.pointer (some ⟨b,0,none⟩)] 49∈Fr) (u:Asn.blk m [.int .i64 i] 3∈Fr) (H:Hp B w0 w (L++Fr)):
  Calls Tryz.prog 137 #[.func (.yield l) #[] #[],.pointer (some ⟨k,0,none⟩),.pointer (some ⟨m,0,none⟩),.pointer (some ⟨r,0,none⟩)] w fun e w'=>e=.returned (.tuple #[])/\Hp B w0 w' (L++Fr):=by
 apply gBelow1.ok;unfold gBelow1.vc
 intro y z j
 have c:=fJ (H.nw j)
 have n:=p.none g
 have d:∀{a:Asn}{L Fr:List Asn},a∈Fr->a∈L++Fr:=fun h=>mem_append_right _ h
 have f:∀{a:Asn}{Fr:List Asn},a∈treL b mb root next ws->a∈L++Fr:=fun h=>mem_append_left _ (s _ h)
 refine⟨_,AA rfl (c.ld (o:=0) (cs:=[.pointer (some ⟨b,0,none⟩)]) EQ4 nPT (d (.tail _ t)) rfl),AA rfl ⟨some mb,c.ld (o:=0) (cs:=treC mb root next) EQ4 nMN (f (.head _)) rfl,i,AA rfl (c.ld (o:=0) (cs:=[.int .i64 i]) EQ4 yInt (d (.tail _ u)) rfl),?_⟩⟩
 refine⟨none,false,c.NC D7 EQ4 (f (.tail _ (.head _))) (by rw[n];rfl) (by rw[n];rfl),CU (x:=_) ⟨_,rfl,rfl,?_⟩⟩
 exact(NZ c).drop.go EQ4
theorem Iu{g:Int×Int->World->(World->(World->Prop)->Prop)->(World->Prop)->(World->Prop)->(Nat->World->Prop)->Prop}{Qn Qr:Nat->World->Prop}{Qx:Nat->Nat->World->Prop}
  (O:(ids F).Nodup) (hw:O1 F ws) (ad:(ids F).length<=1000) (i:Int) (X Y Z:Nat) (G:Nat->List Asn->Prop) (J:List Asn->Prop) (d Fr:List Asn) (w:World)
  (hT:∀j L,G j L->∀a∈treL b mb root next ws,a∈L)
  (m0:Asn.blk X [.pointer (some ⟨b,0,none⟩)] 49∈Fr) (m1:Asn.blk Y [.int .i64 i] 3∈Fr) (m2:Asn.blk Z [.int .i64 0] 3∈Fr)
  (hG:G 0 d) (H:Hp B w0 w (d++Fr))
  (p:∀(j:Nat)(r:Rw),(BO F i)[j]? =some r->∀(w':World)(T0 T1 L:List Asn)(m:World->(World->Prop)->Prop)(kn kr:World->Prop)(kx:Nat->World->Prop),G j L->Hp B w0 w' (L++T0)->
   (∀k0:World->Prop,(∀w2,Hp B w0 w2 (L++T1)->k0 w2)->m w' k0)->(∀A t,G (j+1) t->Hp B w0 A (t++T1)->kn A)->(∀A t,J t->Hp B w0 A (t++T1)->kr A)->g (r.id,r.level) w' m kn kr kx)
  (y:∀D w' L,G (BO F i).length L->Hp B w0 w' (dA D::(L++Fr))->Qn D w')
  (R:∀D w' L,J L->Hp B w0 w' (dA D::(L++Fr))->Qr D w'):
  E5 Tryz.prog 137 [] [.pointer (some ⟨X,0,none⟩),.pointer (some ⟨Y,0,none⟩),.pointer (some ⟨Z,0,none⟩)] (fun s:Int×Int=>[.int .i64 s.1,.int .i64 s.2]) g w Qn Qr Qx:=by
 refine⟨fun D l wa wb f hD hl aa=>?_⟩;have H2:=(H.newO EQ4 hD).newO EQ4 hl
 have H3:Hp B w0 wb ((objA l (f .ready none)::d)++(dA D::Fr)):=by
  refine H2.perm (List.Perm.cons _ ?_);exact List.perm_middle.symm
 have out:∀{o:Obj}{w6:World}{C:List Asn}(o':Obj),Hp B w0 w6 ((objA l o::C)++(dA D::Fr))->Hp B w0 (w6.putObj l o') (dA D::(C++Fr)):=by
  intro o w6 C o' n;have K:=(n.putO (o':=o')).drop;exact K.perm perm_middle
 cases hlk:AZ F 0 i with
 |none=>
  have u:BO F i=[]:=by rw[BO,hlk]
  refine AC (below1_none b mb root next ws F hw i 0 l X Y Z (dA D::Fr) (objA l (f .ready none)::d) wb hlk (fun a ha=>.tail _ (hT 0 d hG a ha)) (.tail _ m0) (.tail _ m1) H3) ?_;rintro e w2 ⟨rfl,H4⟩;exact⟨_,rfl,.inl ⟨H4.obj (.head _),y D _ d (by rw[u];exact hG) (out _ H4)⟩⟩
 |some z=>
  obtain⟨q,x,k⟩:=z
  have u:BO F i=flat (.cons i x k .nil) 0:=by rw[BO,hlk]
  have ab:(BO F i).length=0+1+(ids k).length:=by rw[u,flat,flat,append_nil,length_cons,BM];omega
  obtain⟨Aq,Bq,vq,T⟩:=Bo F 0 i 0 O hlk
  have ae:(ids k).length<=(ids F).length:=by rw[T.ids];simp;omega
  refine AC (below1 b mb root next ws F O hw ((ids k).length+1) i q x k 0 0 l (fun j L=>∃d,G j d/\L=objA l (f .ready none)::d) (fun L=>∃d,J d/\L=objA l (f .done (some .ret))::d) X Y Z (dA D::Fr) _ wb (by omega) hlk (by omega) (by omega) ?_ ?_ (.tail _ m0) (.tail _ m1) (.tail _ m2) ⟨d,hG,rfl⟩ H3) ?_
  ·rintro j _ ⟨L1,h1,rfl⟩ a ha
   exact .tail _ (hT j L1 h1 a ha)
  ·rintro j r hr M _ w5 ⟨L1,h1,rfl⟩ H5
   rw[Nat.zero_add]at h1⊢;have c:w5.heap[l]? =some (f .ready none):=H5.obj (.head _);refine aa (r.id,r.level) w5 _ ?_ c;have U:∀{o:Obj}{W:World}{L:List Asn},Hp B w0 W ((objA l o::L)++M)->Hp B w0 W (L++(objA l o::M)):=fun h=>h.perm List.perm_middle.symm;refine p j r (by rw[u];exact hr) w5 _ (objA l (f .busy none)::M) L1 _ _ _ _ h1 (U H5) ?_ ?_ ?_
   ·intro k0 ac
    exact⟨c,ac _ (U H5.putO)⟩
   ·intro A t N n
    have K:=NZ n;exact⟨K.obj (.head _),.inl ⟨rfl,_,⟨t,N,rfl⟩,K.putO⟩⟩
   ·intro A t N n
    have K:=NZ n;exact⟨K.obj (.head _),.inr ⟨rfl,_,⟨t,N,rfl⟩,K.putO⟩⟩
  ·rintro e w6 ⟨rfl,⟨_,⟨C,N,rfl⟩,n⟩|⟨_,⟨C,N,rfl⟩,n⟩⟩
   ·exact⟨_,rfl,.inl ⟨n.obj (.head _),y D _ C (by rw[ab];exact N) (out _ n)⟩⟩
   ·exact⟨_,rfl,.inr (.inl ⟨n.obj (.head _),R D _ C N (out _ n)⟩)⟩
end
theorem WA{F:Fo}{T:Tr}(G:BN F T):BO F (Ac F)=T.L:=by
 rw[<- G.fl];rcases G.one with rfl|⟨i,x,k,rfl,_⟩
 ·rfl
 ·rw[Ac,BO,AZ,if_pos rfl]
section
variable{b mb:Nat}{root next:Int}{F:Fo}{ws:List (NW×En)}{w:World}
theorem gOrder_w(d:(ids F).Nodup)(f:(ids F).length<=1000)(N:DK F ws)(O:Std w (treL b mb root next ws)):
  Calls Tryz.prog 28 #[.pointer (some ⟨b,0,none⟩)] w fun e w'=>∃a c,e=.returned (.slice a (BO F root).length c)/\Hp (feet (treL b mb root next ws)) w w' (.own 3 1 a (BO F root).length c (AO ((BO F root).map (·.id)))::treL b mb root next ws):=by
 apply gOrder.ok;unfold gOrder.vc;intro l R m;have H:=(Hp.CE O).nw m;refine AA rfl ⟨root,by rw[add_lit];exact H.lo yInt,AC (Gj b root 0 R) ?_⟩;rintro _ T ⟨n,o,p,rfl,U⟩;replace H:=H.ext U;refine⟨_,rfl,137,#[],_,rfl,⟨_,_,Tryz.func137,rfl⟩,?_⟩
 refine Iu (B:=feet (treL b mb root next ws)) (w0:=w) b mb root next ws F d (N.v d) f root n o p
  (fun j L=>∃a c,L=.blk l [.slice a j c] 59::.own 3 1 a j c (AO (((BO F root).take j).map (·.id)))::treL b mb root next ws) (fun _=>False)
  (.blk l [.slice none 0 0] 59::.own 3 1 none 0 0 []::treL b mb root next ws) [.blk p [.int .i64 0] 3,.blk o [.int .i64 root] 3,.blk n [.pointer (some ⟨b,0,none⟩)] 49] T
  ?_ m2 m1 (.head _) ⟨none,0,rfl⟩ ?_ ?_ ?_ (fun _ _ _ h=>h.elim)
 ·rintro j _ ⟨a,c,rfl⟩ x X
  exact .tail _ (.tail _ X)
 ·have Y:=H.nilS 3 1
  refine Y.perm ?_;refine List.Perm.trans ?_ perm_append_comm;exact(perm_middle (l₁:=[Asn.blk p [.int .i64 0] 3,Asn.blk o [.int .i64 root] 3,Asn.blk n [.pointer (some ⟨b,0,none⟩)] 49,Asn.blk l [.slice none 0 0] 59])).symm
 ·rintro j r G Z T0 T1 _ s kn kr kx ⟨a,c,rfl⟩ t hb u _
  refine hb _ fun w4 g=>?_;have y:=(List.getElem?_eq_some_iff.1 G).1
  have z:(BO F root).length<=1000:=by
   have:((BO F root).map (·.id)).length<=(ids F).length:=by
    rw[BO];split
    ·rename_i q x k A
     obtain⟨Aq,Bq,vq,i⟩:=Bo F 0 root 0 d A;rw[BH,i.ids,ids,ids];simp;omega
    ·simp
   rw[length_map]at this;omega
  refine⟨a,j,c,g.lo nSI,?_⟩;intro b2 w5 C;have J:=g.nw C;have H6:=J.BD;refine Hp.app MP (by omega) H6 EQ4 (Blk.src (P:=Tryz.prog) NF (J.blk (.head _)) rfl rfl) (by simp only[maxLen];omega) (by omega) ?_;intro K M w6 H7;have H8:=H7.BD;refine Hp.s1 H8 nSI (cs':=[.slice K (j+1) M]) fun w7 H9=>?_;refine u w7 _ ⟨K,M,rfl⟩ ?_
  have e:AO (((BO F root).take (j+1)).map (·.id))=AO (((BO F root).take j).map (·.id))++[.int .i64 r.id]:=by
   rw[take_succ_eq_append_getElem y,(List.getElem?_eq_some_iff.1 G).2];simp[AO]
  rw[e];exact H9.del2
 ·rintro D Z _ ⟨a,c,rfl⟩ t
  refine⟨a,_,c,t.lo nSI,t.shut fun w4 g=>⟨a,c,rfl,?_⟩⟩;rw[take_length]at g;exact g.drop.BP
end
end
end Go.Proofs.YtljenkbpnioipaaGreat
namespace Go.Nod
theorem UD:∀(F:Fo)(p l:Int)(r:Rw),(ids F).Nodup->r∈flat F l->∃q k,AZ F p r.id=some (q,r.x,k)
 |.nil,p,l,r,_,h=>by cases h
 |.cons j y kk s,p,l,r,hn,h=>by
  rw[ids,nodup_cons,nodup_append]at hn;obtain⟨c,f,g,i⟩:=hn;rw[flat]at h;rw[AZ];rcases mem_cons.1 h with rfl|h
  ·exact⟨p,kk,by rw[if_pos rfl]⟩
  ·rcases mem_append.1 h with h|h
   ·obtain⟨q,k,m⟩:=UD kk j (l+1) r f h
    have d:r.id∈ids kk:=by rw[<- BH kk (l+1)];exact mem_map.2 ⟨r,h,rfl⟩
    have a:¬j=r.id:=fun e=>c (mem_append_left _ (e▸d));exact⟨q,k,by rw[if_neg a,m]⟩
   ·obtain⟨q,k,m⟩:=UD s p l r g h
    have d:r.id∈ids s:=by rw[<- BH s l];exact mem_map.2 ⟨r,h,rfl⟩
    have a:¬j=r.id:=fun e=>c (mem_append_right _ (e▸d))
    have n:AZ kk j r.id=none:=by
     cases h9:AZ kk j r.id with
     |none=>rfl
     |some o=>exact(i _ ((Au kk j r.id).1 (by rw[h9];simp)) _ d rfl).elim
    exact⟨q,k,by rw[if_neg a,n];exact m⟩
end Go.Nod
namespace Go.Proofs.YtljenkbpnioipaaGreat
noncomputable section
open Go Go.Vc Go.Nod
def BQ(l:List It)(ss:List Sl3):List Asn:=List.zipWith (fun x s=>Asn.own 142 2 s.1 x.x.attrs.length s.2.2 (atC x.x.attrs)) l ss
structure SlOk(l:List It)(ss:List Sl3):Prop where
 len:ss.length=l.length
 att:∀(k:Nat)(x:It)(s:Sl3),l[k]? =some x->ss[k]? =some s->s.2.1=x.x.attrs.length
theorem SlOk.snoc{l:List It}{ss:List Sl3}(h:SlOk l ss){x:It}{s:Sl3}(g:s.2.1=x.x.attrs.length):SlOk (l++[x]) (ss++[s]):=by
 have d:=h.len;refine⟨by simp[d],fun k y t a c=>?_⟩;by_cases e:k<l.length
 ·rw[List.getElem?_append_left e]at a
  rw[List.getElem?_append_left (by omega)]at c;exact h.att k y t a c
 ·rw[List.getElem?_append_right (by omega)]at a c
  have f:k-l.length=0:=by
   have:=(List.getElem?_eq_some_iff.1 a).1;simp at this;omega
  rw[f]at a;rw[d,f]at c;cases a;cases c;exact g
theorem WW{l:List It}{ss:List Sl3}(h:ss.length=l.length)(x:It)(s:Sl3):itsC (l++[x]) (ss++[s])=itsC l ss++itC x s:=by
 rw[itsC,itsC,List.zipWith_append h.symm];simp
theorem Sm{l:List It}{ss:List Sl3}(h:ss.length=l.length)(x:It)(s:Sl3):BQ (l++[x]) (ss++[s])=BQ l ss++[.own 142 2 s.1 x.x.attrs.length s.2.2 (atC x.x.attrs)]:=by
 rw[BQ,BQ,List.zipWith_append h.symm];rfl
theorem dZ{w:World}{a:Option Addr}{n c:Nat}{l:List It}{ss:List Sl3}(ho:Own w 0 123 5 a n c (itsC l ss))(d:SlOk l ss)(hn:n=l.length)(g:∀x∈BQ l ss,x.ok w):ItR w a n l ss:=by
 refine⟨hn,d.len,ho.cells,fun k x s e f=>⟨d.att k x s e f,?_⟩⟩
 have h:Asn.own 142 2 s.1 x.x.attrs.length s.2.2 (atC x.x.attrs)∈BQ l ss:=by
  refine mem_of_getElem? (i:=k) ?_;rw[BQ,List.getElem?_zipWith,e,f]
 exact Own.cells (show Own w 0 _ _ _ _ _ _ from g _ h)
section
variable{b mb:Nat}{root next:Int}{F:Fo}{ws:List (NW×En)}{w:World}
theorem PP(c:(ids F).Nodup)(i:Int):(BO F i).length<=(ids F).length:=by
 have:((BO F i).map (·.id)).length<=(ids F).length:=by
  rw[BO];split
  ·rename_i q x k d
   obtain⟨e,f,g,a⟩:=Bo F 0 i 0 c d;rw[BH,a.ids,ids,ids];simp;omega
  ·simp
 rwa [length_map]at this
theorem rowsB_look(a:(ids F).Nodup)(i:Int){r:Rw}(c:r∈BO F i):∃q k,AZ F 0 r.id=some (q,r.x,k):=by
 rw[BO]at c;split at c
 ·rename_i q x k d
  rw[flat,flat,append_nil]at c;rcases mem_cons.1 c with rfl|c
  ·exact⟨q,k,d⟩
  ·obtain⟨l,m,n,e⟩:=Bo F 0 i 0 a d
   have f:(ids k).Nodup:=by
    have:=a;rw[e.ids,nodup_append,nodup_cons,nodup_append]at this;exact this.2.1.2.1
   obtain⟨g,h,j⟩:=UD k i 1 r f c;exact⟨g,h,look_in F 0 i r.id a d j⟩
 ·cases c
def AY(r:Rw):It:=⟨r.level,r.x⟩
theorem gItems_w(f:(ids F).Nodup)(K:(ids F).length<=1000)(M:∀p∈ws,p.2.x.attrs.length<=1000)(hw:DK F ws)(i:Int)(hs:Std w (treL b mb root next ws)):
  Calls Tryz.prog 32 #[.pointer (some ⟨b,0,none⟩),.int .i64 i] w fun e w'=>∃a c ss,e=.returned (.slice a (BO F i).length c)/\SlOk ((BO F i).map AY) ss/\
   Hp (feet (treL b mb root next ws)) w w' (.own 123 5 a (BO F i).length c (itsC ((BO F i).map AY) ss)::(BQ ((BO F i).map AY) ss++treL b mb root next ws)):=by
 apply gItems.ok;unfold gItems.vc;intro tb an N;have H0:=(Hp.CE hs).nw N;intro Y w1 O;have H:=H0.nw O;clear H0 N O;refine⟨_,H.lo nPT,AC (Gj b i 0 w1) ?_⟩;rintro _ w2 ⟨f0,f1,f2,rfl,Hb⟩;replace H:=H.ext Hb;have ao:=PP f i;refine⟨_,rfl,137,#[],_,rfl,⟨_,_,Tryz.func137,rfl⟩,?_⟩
 refine Iu (B:=feet (treL b mb root next ws)) (w0:=w) b mb root next ws F f (hw.v f) K i f0 f1 f2
  (fun j L=>∃a c ss,SlOk (((BO F i).map AY).take j) ss/\L=.blk Y [.slice a j c] 34::.own 123 5 a j c (itsC (((BO F i).map AY).take j) ss)::.blk tb [.pointer (some ⟨b,0,none⟩)] 49::(BQ (((BO F i).map AY).take j) ss++treL b mb root next ws)) (fun _=>False)
  (.blk Y [.slice none 0 0] 34::.own 123 5 none 0 0 []::.blk tb [.pointer (some ⟨b,0,none⟩)] 49::treL b mb root next ws) [.blk f2 [.int .i64 0] 3,.blk f1 [.int .i64 i] 3,.blk f0 [.pointer (some ⟨b,0,none⟩)] 49] w2
  ?_ m2 m1 (.head _) ⟨none,0,[],⟨rfl,by simp⟩,rfl⟩ ?_ ?_ ?_ (fun _ _ _ h=>h.elim)
 ·rintro j _ ⟨a,c,ss,_,rfl⟩ x hx
  exact .tail _ (.tail _ (.tail _ (mem_append_right _ hx)))
 ·have H2:=H.nilS 123 5
  refine H2.perm ?_;refine List.Perm.trans ?_ perm_append_comm;exact(perm_middle (l₁:=[Asn.blk f2 [.int .i64 0] 3,Asn.blk f1 [.int .i64 i] 3,Asn.blk f0 [.pointer (some ⟨b,0,none⟩)] 49,Asn.blk Y [.slice none 0 0] 34])).symm
 ·rintro j r hr w3 T0 T1 _ ab kn kr kx ⟨a,c,ss,d,rfl⟩ Z hb ad _
  refine hb _ fun R u=>?_;have ae:=(List.getElem?_eq_some_iff.1 hr).1;obtain⟨q,k,af⟩:=rowsB_look f i (mem_of_getElem? hr);obtain⟨A,y,Bw,ag,ha⟩:=hw.at_ f af
  have T:(y,(⟨r.id,q,r.x,tops k⟩:En))∈ws:=by rw[ag];simp
  have ah:=M _ T
  have l:∀{x:Asn},x∈treL b mb root next ws->x∈(Asn.blk Y [.slice a j c] 34::.own 123 5 a j c (itsC (((BO F i).map AY).take j) ss)::.blk tb [.pointer (some ⟨b,0,none⟩)] 49::(BQ (((BO F i).map AY).take j) ss++treL b mb root next ws))++T1:=fun h=>mem_append_left _ (.tail _ (.tail _ (.tail _ (mem_append_right _ h))))
  have m:∀x∈nodL (y,(⟨r.id,q,r.x,tops k⟩:En)),x∈treL b mb root next ws:=fun x hx=>Dv T hx
  have z:∀{W:World}{o:Nat}{v:Value}{t:TypeId},Eqw R W->Scl Tryz.prog t->(nodC y ⟨r.id,q,r.x,tops k⟩)[o]? =some v->Ld Tryz.prog t W ⟨y.b,o,none⟩ v:=fun he S hv=>u.ld (cs:=nodC y ⟨r.id,q,r.x,tops k⟩) he S (l (m _ (.head _))) hv;refine⟨_,u.lo nPT,AA rfl ⟨some mb,u.ld (o:=0) (cs:=treC mb root next) EQ4 nMN (l (.head _)) rfl,some ⟨y.b,0,none⟩,u.lkI D7 EQ4 (l m1) (by rw[ha];rfl),a,j,c,u.lo nSIt,?_⟩⟩;refine AA rfl ⟨r.x.kind,by rw[add_lit];exact z EQ4 yInt rfl,AA rfl ⟨r.x.name,by rw[add_lit];exact z EQ4 yStr rfl,AA rfl ⟨r.x.text,by rw[add_lit];exact z EQ4 yStr rfl,AA rfl ⟨y.aa,r.x.attrs.length,y.ac,by rw[add_lit];exact z EQ4 iSAt rfl,?_⟩⟩⟩⟩;have G:=u.ownA (a:=y.aa) (n:=r.x.attrs.length) (c:=y.ac) (xs:=atC r.x.attrs) (l (m _ m1));have J:Cells R.drew y.aa (atC r.x.attrs):=G.cells
  refine AC (GN y.aa r.x.attrs.length y.ac (atC r.x.attrs) R.drew J (Lt _) (MF _) (fun e=>by
   rcases G.2 with⟨_,h0,_⟩|⟨g,_,_,hg,_⟩
   ·exact h0
   ·rw[e]at hg;cases hg) (by dsimp only at ah;omega)) ?_
  rintro _ w5 ⟨U,X,rfl,Hc⟩;have H5:=(u.go (w':=R.drew) EQ4).ext1 Hc;have s:∀{o:Nat}{v:Value}{t:TypeId},Scl Tryz.prog t->(nodC y ⟨r.id,q,r.x,tops k⟩)[o]? =some v->Ld Tryz.prog t w5 ⟨y.b,o,none⟩ v:=fun S hv=>H5.ld (cs:=nodC y ⟨r.id,q,r.x,tops k⟩) EQ4 S (.tail _ (l (m _ (.head _)))) hv;refine⟨U,_,X,rfl,by rw[add_lit];exact s yStr rfl,by rw[add_lit];exact s yStr rfl,by rw[add_lit];exact s yInt rfl,H5.lo nSIt,?_⟩;intro b2 w6 ak;have H6:=H5.new (cs:=itC (AY r) (U,r.x.attrs.length,X)) EQ4 ak;refine⟨H6.lo nSIt,?_⟩
  have al:(((BO F i).map AY).take j).length=j:=by rw[length_take,length_map];omega
  have H7:=H6.D8;refine Hp.app dY (by omega) H7 EQ4 (Blk.src (P:=Tryz.prog) dh (H6.blk (.head _)) rfl rfl) (by simp only[maxLen];omega) (by omega) ?_;intro a2 c2 w7 H8;have H9:=H8.D8;refine Hp.s1 H9 nSIt (cs':=[.slice a2 (j+1) c2]) fun w8 am=>?_
  have C:((BO F i).map AY).take (j+1)=((BO F i).map AY).take j++[AY r]:=by
   rw[take_succ_eq_append_getElem (by rw[length_map];exact ae),List.getElem_map,(List.getElem?_eq_some_iff.1 hr).2]
  refine ad w8 _ ⟨a2,c2,ss++[(U,r.x.attrs.length,X)],?_,rfl⟩ ?_
  ·rw[C];exact d.snoc rfl
  ·rw[C,WW d.len,Sm d.len]
   refine am.del2.perm (List.Perm.cons _ (List.Perm.cons _ ?_));refine(List.Perm.swap _ _ _).trans (List.Perm.cons _ ?_);show(Asn.own 142 2 U r.x.attrs.length X (atC r.x.attrs)::((BQ (((BO F i).map AY).take j) ss++treL b mb root next ws)++T1)).Perm (((BQ (((BO F i).map AY).take j) ss++[Asn.own 142 2 U r.x.attrs.length X (atC r.x.attrs)])++treL b mb root next ws)++T1);rw[append_assoc,append_assoc,append_assoc];exact List.perm_middle.symm
 ·rintro D w3 _ ⟨a,c,ss,d,rfl⟩ Z
  have C:((BO F i).map AY).take (BO F i).length=(BO F i).map AY:=take_of_length_le (by rw[length_map];exact Nat.le_refl _);rw[C]at d Z;refine⟨a,_,c,Z.lo nSIt,Z.shut fun R u=>⟨a,c,ss,rfl,d,?_⟩⟩;exact(u.BP).drop.drop1
end
end
end Go.Proofs.YtljenkbpnioipaaGreat
namespace Go.Nod
def Af:Fo->List Int
 |.nil=>[]
 |.cons i _ k .nil=>i::Af k
 |.cons _ _ _ (.cons j y k s)=>Af (.cons j y k s)
def snoc:Nat->Int->NX->Fo->Fo
 |_,i,x,.nil=>.cons i x .nil .nil
 |0,i,x,.cons j y k .nil=>.cons j y k (.cons i x .nil .nil)
 |d+1,i,x,.cons j y k .nil=>.cons j y (snoc d i x k) .nil
 |d,i,x,.cons j y k (.cons j2 y2 k2 s2)=>.cons j y k (snoc d i x (.cons j2 y2 k2 s2))
theorem Lj:∀(d:Nat)(i:Int)(x:NX)(F:Fo)(l:Int),d<=(Af F).length->flat (snoc d i x F) l=flat F l++[⟨i,l+d,x⟩]
 |d,i,x,.nil,l,h=>by
  have:d=0:=by simpa [Af]using h
  subst this;simp[snoc,flat]
 |0,i,x,.cons j y k .nil,l,h=>by simp[snoc,flat]
 |d+1,i,x,.cons j y k .nil,l,h=>by
  have a:=Lj d i x k (l+1) (by simpa [Af]using h)
  have:l+1+(d:Int)=l+((d+1:Nat):Int):=by omega
  rw[this]at a
  have c:∀(b:Fo),flat (.cons j y b .nil) l=⟨j,l,y⟩::flat b (l+1):=fun b=>by simp[flat]
  rw[snoc,c,c,a];rfl
 |0,i,x,.cons j y k (.cons j2 y2 k2 s2),l,h=>by
  have a:=Lj 0 i x (.cons j2 y2 k2 s2) l (Nat.zero_le _);rw[snoc];show(⟨j,l,y⟩::flat k (l+1))++flat (snoc 0 i x (.cons j2 y2 k2 s2)) l=((⟨j,l,y⟩::flat k (l+1))++flat (.cons j2 y2 k2 s2) l)++_;rw[a,append_assoc]
 |d+1,i,x,.cons j y k (.cons j2 y2 k2 s2),l,h=>by
  have a:=Lj (d+1) i x (.cons j2 y2 k2 s2) l (by simpa [Af]using h);rw[snoc];show(⟨j,l,y⟩::flat k (l+1))++flat (snoc (d+1) i x (.cons j2 y2 k2 s2)) l=((⟨j,l,y⟩::flat k (l+1))++flat (.cons j2 y2 k2 s2) l)++_;rw[a,append_assoc]
theorem aK(d:Nat)(i:Int)(x:NX)(F:Fo):∃j y k s,snoc d i x F=.cons j y k s:=by
 cases F with
 |nil=>exact⟨_,_,_,_,by rw[snoc]⟩
 |cons j y k s=>
  cases s with
  |nil=>cases d with
   |zero=>exact⟨_,_,_,_,by rw[snoc]⟩
   |succ d=>exact⟨_,_,_,_,by rw[snoc]⟩
  |cons a b c e=>cases d with
   |zero=>exact⟨_,_,_,_,by rw[snoc]⟩
   |succ d=>exact⟨_,_,_,_,by rw[snoc]⟩
theorem QW{j:Int}{y:NX}{k s:Fo}(h:∃j y k t,s=.cons j y k t):Af (.cons j y k s)=Af s:=by
 obtain⟨_,_,_,_,rfl⟩:=h;rw[Af]
theorem Ew:∀(d:Nat)(i:Int)(x:NX)(F:Fo),d<=(Af F).length->Af (snoc d i x F)=(Af F).take d++[i]
 |d,i,x,.nil,h=>by
  have:d=0:=by simpa [Af]using h
  subst this;simp[snoc,Af]
 |0,i,x,.cons j y k .nil,h=>by simp[snoc,Af]
 |d+1,i,x,.cons j y k .nil,h=>by
  have a:=Ew d i x k (by simpa [Af]using h);rw[snoc,Af,a,Af,take_succ_cons,cons_append]
 |0,i,x,.cons j y k (.cons j2 y2 k2 s2),h=>by
  have a:=Ew 0 i x (.cons j2 y2 k2 s2) (Nat.zero_le _);rw[snoc,QW (aK ..),a,Af]
 |d+1,i,x,.cons j y k (.cons j2 y2 k2 s2),h=>by
  have a:=Ew (d+1) i x (.cons j2 y2 k2 s2) (by simpa [Af]using h);rw[snoc,QW (aK ..),a,Af]
theorem Jz:∀(i:Int)(x:NX)(F:Fo),tops (snoc 0 i x F)=tops F++[i]
 |i,x,.nil=>by simp[snoc,tops]
 |i,x,.cons j y k .nil=>by simp[snoc,tops]
 |i,x,.cons j y k (.cons j2 y2 k2 s2)=>by
  have a:=Jz i x (.cons j2 y2 k2 s2);rw[snoc,tops,a,tops];rfl
theorem Jm:∀(d:Nat)(i:Int)(x:NX)(F:Fo),d+1<=(Af F).length->tops (snoc (d+1) i x F)=tops F
 |d,i,x,.nil,h=>by simp[Af]at h
 |d,i,x,.cons j y k .nil,h=>by simp[snoc,tops]
 |d,i,x,.cons j y k (.cons j2 y2 k2 s2),h=>by
  have a:=Jm d i x (.cons j2 y2 k2 s2) (by simpa [Af]using h);rw[snoc,tops,a];simp[tops]
theorem NV:∀(i:Int)(x:NX)(F:Fo)(p:Int),(ents (snoc 0 i x F) p).Perm (⟨i,p,x,[]⟩::ents F p)
 |i,x,.nil,p=>by simp[snoc,ents,tops]
 |i,x,.cons j y k .nil,p=>by
  have a:ents (snoc 0 i x (.cons j y k .nil)) p=(⟨j,p,y,tops k⟩::ents k j)++[⟨i,p,x,[]⟩]:=by simp[snoc,ents,tops]
  have b:ents (.cons j y k .nil) p=(⟨j,p,y,tops k⟩::ents k j):=by simp[ents]
  rw[a,b];exact perm_append_comm
 |i,x,.cons j y k (.cons j2 y2 k2 s2),p=>by
  have c:=NV i x (.cons j2 y2 k2 s2) p
  have a:ents (snoc 0 i x (.cons j y k (.cons j2 y2 k2 s2))) p=(⟨j,p,y,tops k⟩::ents k j)++ents (snoc 0 i x (.cons j2 y2 k2 s2)) p:=by rw[snoc,ents];rfl
  have b:ents (.cons j y k (.cons j2 y2 k2 s2)) p=(⟨j,p,y,tops k⟩::ents k j)++ents (.cons j2 y2 k2 s2) p:=by rw[ents];rfl
  rw[a,b];exact(c.append_left _).trans perm_middle
theorem NI:∀(d:Nat)(i:Int)(x:NX)(F:Fo)(p:Int),d+1<=(Af F).length->
  ∃(e:En)(R:List En),(Af F)[d]? =some e.id/\(ents F p).Perm (e::R)/\(ents (snoc (d+1) i x F) p).Perm (⟨i,e.id,x,[]⟩:: {e with kids:=e.kids++[i]}::R)
 |d,i,x,.nil,p,h=>by simp[Af]at h
 |0,i,x,.cons j y k .nil,p,h=>by
  refine⟨⟨j,p,y,tops k⟩,ents k j,by simp[Af],by simp[ents],?_⟩
  have a:ents (snoc (0+1) i x (.cons j y k .nil)) p=⟨j,p,y,tops k++[i]⟩::ents (snoc 0 i x k) j:=by
   rw[snoc,ents,Jz,ents,append_nil]
  rw[a];exact((NV i x k j).cons _).trans (.swap _ _ _)
 |d+1,i,x,.cons j y k .nil,p,h=>by
  obtain⟨e,R,b,c,f⟩:=NI d i x k j (by simpa [Af]using h);refine⟨e,⟨j,p,y,tops k⟩::R,by simpa [Af]using b,?_,?_⟩
  ·have g:ents (.cons j y k .nil) p=⟨j,p,y,tops k⟩::ents k j:=by rw[ents,ents,append_nil]
   rw[g];exact(c.cons _).trans (.swap _ _ _)
  ·have a:ents (snoc (d+1+1) i x (.cons j y k .nil)) p=⟨j,p,y,tops k⟩::ents (snoc (d+1) i x k) j:=by
    rw[snoc,ents,Jm d i x k (by simpa [Af]using h),ents,append_nil]
   rw[a];refine(f.cons _).trans ((List.Perm.swap _ _ _).trans (List.Perm.cons _ (.swap _ _ _)))
 |d,i,x,.cons j y k (.cons j2 y2 k2 s2),p,h=>by
  obtain⟨e,R,b,c,f⟩:=NI d i x (.cons j2 y2 k2 s2) p (by simpa [Af]using h);refine⟨e,(⟨j,p,y,tops k⟩::ents k j)++R,by simpa [Af]using b,?_,?_⟩
  ·have g:ents (.cons j y k (.cons j2 y2 k2 s2)) p=(⟨j,p,y,tops k⟩::ents k j)++ents (.cons j2 y2 k2 s2) p:=by rw[ents];rfl
   rw[g];exact(c.append_left _).trans perm_middle
  ·have a:ents (snoc (d+1) i x (.cons j y k (.cons j2 y2 k2 s2))) p=(⟨j,p,y,tops k⟩::ents k j)++ents (snoc (d+1) i x (.cons j2 y2 k2 s2)) p:=by rw[snoc,ents];rfl
   rw[a];refine(f.append_left _).trans ?_;refine List.perm_middle.trans (List.Perm.cons _ perm_middle)
def KF(zs:List Int)(l:List It):List Rw:=List.zipWith (fun z x=>⟨z,x.level,x.x⟩) zs l
theorem rowsZ_snoc{a:List Int}{l:List It}{k:Nat}{z:Int}{x:It}(b:a[k]? =some z)(c:l[k]? =some x):KF (a.take (k+1)) (l.take (k+1))=KF (a.take k) (l.take k)++[⟨z,x.level,x.x⟩]:=by
 have d:=(List.getElem?_eq_some_iff.1 b).1;have e:=(List.getElem?_eq_some_iff.1 c).1;rw[take_succ_eq_append_getElem d,take_succ_eq_append_getElem e,(List.getElem?_eq_some_iff.1 b).2,(List.getElem?_eq_some_iff.1 c).2,KF,KF,List.zipWith_append (by rw[length_take,length_take];omega)];rfl
theorem Vh{a:List Int}{l:List It}(h:a.length=l.length):(KF a l).map (·.id)=a:=by
 induction a generalizing l with
 |nil=>rfl
 |cons z a b=>
  cases l with
  |nil=>cases h
  |cons x l=>
   have:=b (l:=l) (by simpa using h);simp only[KF,List.zipWith_cons_cons,map_cons]at this⊢;rw[this]
theorem named_rowsZ(n:Int):∀(l:List It)(m:Int),Ar m 0 l=KF ((List.range l.length).map fun(k:Nat)=>m+(k:Int)) l:=by
 intro l m;apply List.ext_getElem?;intro k;rw[EX,KF,List.getElem?_zipWith,List.getElem?_map];by_cases h:k<l.length
 ·rw[List.getElem?_range h,List.getElem?_eq_getElem h]
  simp
 ·rw[List.getElem?_eq_none (by omega:l.length<=k),List.getElem?_eq_none (by rw[List.length_range];omega)]
  rfl
def WT(l:List It):Prop:=∀(k:Nat)(x:It),l[k]? =some x->0<=x.level/\(k=0->x.level=0)/\∀y,0<k->l[k-1]? =some y->x.level<=y.level+1
theorem WT.le{l:List It}(h:WT l):∀(k:Nat)(x:It),l[k]? =some x->x.level<=k:=by
 intro k
 induction k with
 |zero=>
  intro x a;have:=(h 0 x a).2.1 rfl;omega
 |succ k b=>
  intro x a;have d:=(List.getElem?_eq_some_iff.1 a).1;have c:=(h (k+1) x a).2.2 _ (by omega) (List.getElem?_eq_getElem (by omega:k+1-1<l.length));have e:=b _ (List.getElem?_eq_getElem (by omega));simp only[Nat.add_sub_cancel]at c;omega
def EC(ks:List Int)(n:Nat)(ts:List Int):List Int:=ks.take n++(ts++ks.drop n)
theorem insAt_nil(a:List Int)(n:Nat):EC a n []=a:=by rw[EC,nil_append,take_append_drop]
theorem PL(a:List Int)(n:Nat)(b:List Int):(EC a n b).length=a.length+b.length:=by
 rw[EC,length_append,length_append,length_take,length_drop];omega
theorem insAt_snoc(a:List Int)(n:Nat)(b:List Int)(z:Int)(hn:n<=a.length):(EC a n b).take (n+b.length)++([z]++(EC a n b).drop (n+b.length))=EC a n (b++[z]):=by
 have c:(a.take n).length=n:=by rw[length_take];omega
 have e:EC a n b=(a.take n++b)++a.drop n:=by rw[EC];simp
 have d:(a.take n++b).length=n+b.length:=by rw[length_append,c]
 rw[e,<- d,List.take_left,List.drop_left,EC];simp
theorem UO{n:Nat}{N k:Fo}(h:n<=(tops k).length):tops (putAt n N k)=EC (tops k) n (tops N):=by
 rw[YH n N k h,EC];simp
end Go.Nod
namespace Go.Proofs.YtljenkbpnioipaaGreat
noncomputable section
open Go Go.Vc Go.Nod
theorem WS(w:World):Calls Tryz.prog 37 #[] w fun e w'=>∃b f,e=.returned (.pointer (some ⟨b,0,none⟩))/\Hp [] w w' [AU f b ⟨[],1⟩]:=by
 apply gNew.ok;unfold gNew.vc;intro mb i a;have H:=(Hp.start w).newI EQ4 .i64 a;intro b c d;replace H:=H.new (cs:=treC mb 0 1) EQ4 d;have g:Hp [] w c (treL b mb 0 1 []++[]):=H;obtain⟨f,h⟩:=g.DJ (Q:=KH b ⟨[],1⟩) ⟨.nil,good_new,mb,[],List.Perm.refl _,rfl⟩;exact⟨b,f,rfl,h⟩
theorem LC{K:Type}[DecidableEq K]:∀(al:List (K×Value))(k:K)(v:Value),k∉al.map (·.1)->aput al k v=al++[(k,v)]
 | [],k,v,_=>rfl
 |(x,u)::r,k,v,h=>by
  rw[map_cons,mem_cons,not_or]at h;rw[aput,if_neg h.1,LC r k v h.2];rfl
section
variable{b mb:Nat}{root next:Int}{ws:List (NW×En)}{w:World}
theorem YF(l:Std w (treL b mb root next ws))(n:Nat)(hn:n<=2000)(u:0<=next)(h1:next+n<=2147483647):
  Calls Tryz.prog 64 #[.pointer (some ⟨b,0,none⟩),.int .i64 (n:Int)] w fun e w'=>∃a c,e=.returned (.slice a n c)/\
   Hp (feet (treL b mb root next ws)) w w' (.own 3 1 a n c (AO ((List.range n).map fun(k:Nat)=>next+(k:Int)))::treL b mb root (next+n) ws):=by
 apply gGiven.ok;unfold gGiven.vc;refine AP.mk (fun m s w'=>∃(k:Nat)(a:Option Addr)(c:Nat),m=n-k/\k<=n/\s=((a,k,c),(k:Int))/\Hp (feet (treL b mb root next ws)) w w' (.own 3 1 a k c (AO ((List.range k).map fun(j:Nat)=>next+(j:Int)))::treL b mb root (next+k) ws)) n ⟨0,none,0,rfl,by omega,rfl,?_⟩ ?_
 ·have H:=(Hp.CE l).nilS 3 1
  rw[show next+((0:Nat):Int)=next by omega];exact H
 rintro m s x y ⟨k,a,c,rfl,z,rfl,H⟩ d;dsimp only;refine AB (fun h=>?_) (fun h=>?_)
 ·refine AA rfl ⟨next+k,by rw[add_lit];exact H.lo yInt,?_⟩
  intro A B f;have g:=H.nw f;refine Hp.app MP (by omega) g.Ae EQ4 (Blk.src (P:=Tryz.prog) NF (g.blk (.head _)) rfl rfl) (by simp only[maxLen];omega) (by omega) ?_;intro p q C r;have i:=r.BD;refine AA rfl ⟨next+k,by rw[add_lit];exact i.lo yInt,iR,AA rfl ?_⟩;rw[add_lit];refine Hp.st (o:=2) i EQ4 yInt rfl rfl (by simp[treC]) (cs':=treC mb root (next+k+1)) rfl fun D t=>⟨iR,?_⟩;refine d (n-(k+1)) _ _ (by omega) ⟨k+1,p,q,rfl,by omega,rfl,?_⟩
  have e:AO ((List.range (k+1)).map fun(j:Nat)=>next+(j:Int))=AO ((List.range k).map fun(j:Nat)=>next+(j:Int))++[.int .i64 (next+(k:Int))]:=by
   rw[List.range_succ];simp[AO]
  rw[e,show next+((k+1:Nat):Int)=next+(k:Int)+1 by omega];exact(t.del2).Ae
 ·have:k=n:=by omega
  subst this;exact⟨a,c,rfl,H⟩
end
theorem Y4{A Bw:List (NW×En)}{y y' yn:NW}{e e' en:En}{R:List En}(h:((A++(y,e)::Bw).map (·.2)).Perm (e::R)):
  ((A++(y',e')::(Bw++[(yn,en)])).map (·.2)).Perm (en::e'::R):=by
 rw[map_append,map_cons]at h;have a:(A.map (·.2)++Bw.map (·.2)).Perm R:=(List.perm_middle.symm.trans h).cons_inv;rw[map_append,map_cons,map_append];refine List.perm_middle.trans ?_;refine(List.Perm.cons e' ?_).trans (.swap _ _ _);rw[<- append_assoc];refine List.perm_append_comm.trans ?_;exact List.Perm.cons en a
theorem JW(b mb:Nat)(root next:Int)(A:List (NW×En))(p:NW×En)(Bw:List (NW×En)):(treL b mb root next (A++p::Bw)).Perm (nodL p++(.blk b (treC mb root next) 119::.imap mb .i64 (nodM (A++p::Bw))::BX (A++Bw))):=by
 refine(List.Perm.cons _ (List.Perm.cons _ (nods_split A p Bw))).trans ?_;exact(perm_append_comm_assoc [_,_] (nodL p) (BX (A++Bw)))
theorem QB:∀(F:Fo),∀i∈Af F,i∈ids F
 |.nil,i,h=>by simp[Af]at h
 |.cons j y k .nil,i,h=>by
  rw[Af]at h;rw[ids];rcases mem_cons.1 h with rfl|h
  ·exact .head _
  ·exact .tail _ (mem_append_left _ (QB k i h))
 |.cons j y k (.cons j2 y2 k2 s2),i,h=>by
  rw[Af]at h;rw[ids];exact .tail _ (mem_append_right _ (QB _ i h))
def V9(parent at0 root0:Int)(e0:En)(R0:List En)(N:Fo)(E:List En)(root:Int):Prop:=
 (parent=0/\E.Perm (ents N parent)/\root=Ac N)\/
 (parent≠0/\e0.id=parent/\root=root0/\E.Perm (ents N parent++ {e0 with kids:=EC e0.kids at0.toNat (tops N)}::R0))
def Ii(parent:Int)(e0:En)(R0:List En):List Int:=if parent=0 then []else e0.id::R0.map (·.id)
theorem V9.ids{parent c a:Int}{f:En}{g:List En}{N:Fo}{E:List En}{root:Int}(h:V9 parent c a f g N E root):(E.map (·.id)).Perm (Nod.ids N++Ii parent f g):=by
 rcases h with⟨d,e,_⟩|⟨d,_,_,e⟩
 ·rw[Ii,if_pos d,append_nil]
  have:=e.map (·.id)
  rwa [Bz]at this
 ·rw[Ii,if_neg d]
  have:=e.map (·.id);rw[map_append,Bz,map_cons]at this;exact this
structure Yv(parent at0 root0:Int)(e0:En)(R0:List En)(zs:List Int)(l:List It)(k:Nat)(at':Int)(N:Fo)(E:List En)(root:Int):Prop where
 fl:flat N 0=KF (zs.take k) (l.take k)
 nil:k=0->N=.nil
 deep:∀y,0<k->l[k-1]? =some y->((Af N).length:Int)=y.level+1
 at_:at'=at0+(if parent=0 then 0 else((tops N).length:Int))
 ents:V9 parent at0 root0 e0 R0 N E root
end
noncomputable section
open Go Go.Vc Go.Nod
theorem Ou(A B:List (NW×En)):BX (A++B)=BX A++BX B:=by rw[BX,flatMap_append];rfl
theorem nodM_append(A B:List (NW×En)):nodM (A++B)=nodM A++nodM B:=by rw[nodM,map_append];rfl
theorem KT{A Bw:List (NW×En)}{y y':NW}{e e':En}(a:y'.b=y.b)(c:e'.id=e.id):nodM (A++(y',e')::Bw)=nodM (A++(y,e)::Bw):=by
 simp[nodM,a,c]
theorem grow_step{parent c a:Int}{g:En}{i:List En}{j:List Int}{l:List It}{k:Nat}{m:Int}{N:Fo}{E:List En}{root:Int}(h:Yv parent c a g i j l k m N E root)
  {z:Int} {x:It} {d:Nat} (r:j[k]? =some z) (n:l[k]? =some x) (o:x.level=d) (e:d<=(Af N).length) {f:Int} {p:List En} {b:Int}
  (s:f=c+(if parent=0 then 0 else((tops (snoc d z x.x N)).length:Int))) (t:V9 parent c a g i (snoc d z x.x N) p b):Yv parent c a g i j l (k+1) f (snoc d z x.x N) p b:=by
 refine⟨?_,by omega,fun y _ q=>?_,s,t⟩
 ·rw[Lj d z x.x N 0 e,h.fl,rowsZ_snoc r n,o,Int.zero_add]
 ·rw[Nat.add_sub_cancel,n]at q;cases q
  rw[Ew d z x.x N e,length_append,length_take,o,Nat.min_eq_left e]
  simp
theorem Hr:∀(F:Fo)(p:Int),∀e∈ents F p,e.kids.length<=(ids F).length
 |.nil,p,e,h=>by cases h
 |.cons i x k s,p,e,h=>by
  rw[ents]at h;rw[ids,length_cons,length_append];rcases mem_cons.1 h with rfl|h
  ·have:=Ja k
   show(tops k).length<=_;omega
  ·rcases mem_append.1 h with h|h
   ·have:=Hr k i e h;omega
   ·have:=Hr s p e h;omega
theorem Xb{b mb:Nat}{i next:Int}{ar:List (NW×En)}{w:World}(hs:Std w (treL b mb i next ar))(parent L:Int)(la:Option Addr)(n lc:Nat)(l:List It)(ss:List Sl3)(za:Option Addr)(zc:Nat)(zs:List Int)
  (a8:∀W,Chg (feet (treL b mb i next ar)) w W->ItR W la n l ss) (cm:∀W,Chg (feet (treL b mb i next ar)) w W->Cells W za (AO zs)) (d8:zs.length=l.length) (db:l≠[]) (hn:n<=2000) (dc:∀s∈ss,s.2.1<=1000)
  (a9:WT l) (cn:parent=0->∀(k:Nat)(x:It),0<k->l[k]? =some x->1<=x.level) (e0:En) (R0:List En)
  (hB:V9 parent L i e0 R0 .nil (ar.map (·.2)) i) (O:(zs++Ii parent e0 R0).Nodup) (dd:∀z∈zs,z≠0) (d9:0<=L/\L<=e0.kids.length) (ea:e0.kids.length<=2000):
  Calls Tryz.prog 63 #[.pointer (some ⟨b,0,none⟩),.int .i64 parent,.int .i64 L,.slice la n lc,.slice za n zc] w fun e w'=>
   ∃K N root ba,e=.returned (.int .i64 (zs.headD 0))/\Yv parent L i e0 R0 zs l n ba N (K.map (·.2)) root/\Hp (feet (treL b mb i next ar)) w w' (treL b mb root next K):=by
 apply gGrow.ok;unfold gGrow.vc
 generalize de:feet (treL b mb i next ar)=BB at*
 have co:Hp BB w w (treL b mb i next ar):=de▸Hp.CE hs
 have eb:n=l.length:=(a8 w (Chg.refl _ _)).len
 have d4:ss.length=l.length:=(a8 w (Chg.refl _ _)).ssl
 have cp:zs.length=n:=by omega
 have ec:0<l.length:=length_pos_iff.2 db
 intro pb w1 cq
 have H:=(co.nw cq).eY 1 1 rfl (by simp[maxLen])
 refine AP.mk (fun m s w'=>∃(k:Nat)(oa:Option Addr)(oc:Nat)(K:List (NW×En))(N:Fo)(root:Int),m=n-k/\k<=n/\s.2.1=(oa,(Af N).length+1,oc)/\s.2.2=(k:Int)/\Yv parent L i e0 R0 zs l k s.1 N (K.map (·.2)) root/\
  Hp BB w w' (.own 3 1 oa ((Af N).length+1) oc (AO (parent::Af N))::treL b mb root next K)) n ⟨0,some ⟨pb,0,none⟩,1,ar,.nil,i,rfl,by omega,rfl,rfl,⟨rfl,fun _=>rfl,by omega,?_,hB⟩,H⟩ ?_
 ·dsimp only;split<;>simp[tops]
 clear H co cq
 rintro m ⟨ba,⟨oa,on,oc⟩,k'⟩ w2 nx ⟨k,ed,ee,K,N,root,rfl,ef,ho,hk,hI,H⟩ dg
 dsimp only at ho hk hI⊢
 cases ho;subst hk
 refine AB (fun h=>?_) (fun h=>?_)
 rotate_left
 ·have cr:k=n:=by omega
  subst cr
  have bb:=cm w2 H.chg
  obtain⟨z,zr,ct⟩:=List.exists_cons_of_ne_nil (l:=zs) (fun e=>by rw[e]at cp;simp at cp;omega)
  have h0:(AO zs)[0]? =some (.int .i64 z):=by rw[ct];rfl
  obtain⟨ad,b0,_⟩:=bb 0 _ h0
  have b1:=bb.ld yInt b0 h0
  rw[addr0]at b1
  refine AA b0 ⟨⟨by omega,by omega⟩,z,b1,K,N,root,ba,by rw[ct];rfl,hI,H.drop⟩
 have hk:k<n:=by omega
 obtain⟨x,s,hx,b9,_⟩:=(a8 w2 H.chg).at_ (k:=k) hk
 obtain⟨z,hz⟩:∃z,zs[k]? =some z:=⟨_,List.getElem?_eq_getElem (by omega)⟩
 have cu:=a9 k x hx
 have eg:=a9.le k x hx
 obtain⟨d,hd⟩:∃d:Nat,x.level=d:=⟨x.level.toNat,by omega⟩
 have ae:d<=(Af N).length:=by
  rcases Nat.eq_zero_or_pos k with e|e
  ·have:=cu.2.1 e;omega
  ·have hy:l[k-1]? =some (l[k-1]'(by omega)):=List.getElem?_eq_getElem (by omega)
   have T:=hI.deep _ e hy
   have h2:=cu.2.2 _ e hy
   omega
 have d5:(Af N).length<=k:=by
  rcases Nat.eq_zero_or_pos k with e|e
  ·rw[hI.nil e];simp[Af]
  ·have hy:l[k-1]? =some (l[k-1]'(by omega)):=List.getElem?_eq_getElem (by omega)
   have T:=hI.deep _ e hy
   have h2:=a9.le _ _ hy
   omega
 refine Am.mk (fun s1 w'=>∃(oa:Option Addr)(oc:Nat)(K:List (NW×En))(N:Fo)(root:Int),s1.2=(oa,(Af N).length+1,oc)/\Yv parent L i e0 R0 zs l (k+1) s1.1 N (K.map (·.2)) root/\
  Hp BB w w' (.own 3 1 oa ((Af N).length+1) oc (AO (parent::Af N))::treL b mb root next K)) ?_ ?_
 ·rintro⟨eh,D,ei,G⟩ w' ⟨ej,ek,dj,N3,ca,T,h2,h3⟩
  dsimp only at T h2⊢
  cases T
  exact⟨DD.2 (by omega),dg (n-(k+1)) _ _ (by omega) ⟨k+1,D,G,dj,N3,ca,rfl,by omega,rfl,rfl,h2,h3⟩⟩
 intro J hJ
 have dk:=a8 w2 H.chg
 obtain⟨ad,b0,b1⟩:=dk.some hx b9
 refine AA b0 ⟨⟨by omega,h⟩,_,_,_,_,_,_,_,by rw[Int.toNat_natCast];exact b1,?_⟩
 intro xb w3 cv
 have H3:=H.nw cv
 refine Hp.sA H3 DZ (cs':=itC x s) fun w4 H4=>?_
 clear H3 cv H
 have bb:=cm w4 H4.chg
 have b5:(AO zs)[k]? =some (.int .i64 z):=by rw[AO,List.getElem?_map,hz];rfl
 obtain⟨el,b6,_⟩:=bb k _ b5
 have bc:=H4.ownA (a:=oa) (n:=(Af N).length+1) (c:=oc) (xs:=AO (parent::Af N)) (.tail _ (.head _))
 have em:=bc.le
 have dl:Int.toNat (x.level+1)=d+1:=by omega
 refine AA b6 ⟨⟨by omega,by omega⟩,z,by rw[Int.toNat_natCast,Nat.mul_one];exact bb.ld yInt b6 b5,x.level,H4.lo yInt,DD.2 (by omega),x.level,H4.lo yInt,DD.2 (by omega),⟨by omega,by omega,by omega⟩,?_⟩
 intro bi w5 cw
 have H5:=H4.nw cw
 rw[dl]
 have H6:=(H5.BD).front (F:=d+1) (by omega)
 have bd:Src Tryz.prog 1 59 (.slice (some ⟨bi,0,none⟩) 1 1) 1 [.int .i64 z] w5:=Blk.src (P:=Tryz.prog) NF (H5.blk (.head _)) rfl rfl
 refine Hp.app MP (by omega) H6 EQ4 bd (by simp only[maxLen];omega) (by omega) ?_
 intro D G w6 H7
 clear H6 H5 cw bc
 have dn:(AO (parent::Af N)).take ((d+1)*1)++[.int .i64 z]=AO (parent::Af (snoc d z x.x N)):=by
  rw[Ew d z x.x N ae,Nat.mul_one]
  simp[AO,map_take]
 have ag:(Af (snoc d z x.x N)).length+1=d+1+1:=by
  rw[Ew d z x.x N ae,length_append,length_take,Nat.min_eq_left ae];rfl
 rw[dn]at H7
 have H8:=H7.del1
 clear H7
 obtain⟨q,hq⟩:∃q,(parent::Af N)[d]? =some q:=⟨_,List.getElem?_eq_getElem (by rw[length_cons];omega)⟩
 have dp:(AO (parent::Af (snoc d z x.x N)))[d]? =some (.int .i64 q):=by
  rw[AO,List.getElem?_map,Ew d z x.x N ae]
  have:(parent::((Af N).take d++[z]))[d]? =some q:=by
   rw[<- cons_append,<- take_succ_cons,List.getElem?_append_left (by rw[length_take,length_cons];omega),List.getElem?_take_of_lt (by omega)]
   exact hq
  rw[this];rfl
 obtain⟨eo,cx,b7⟩:=H8.ldO (w':=w6) (o:=d) EQ4 yInt (.head _) dp
 refine⟨x.level,H8.ld (o:=0) (cs:=itC x s) EQ4 yInt (.tail _ (.head _)) rfl,AA cx ⟨⟨by omega,by omega⟩,q,?_,?_⟩⟩
 ·have:Int.toNat x.level*1=d:=by omega
  rw[this];exact b7
 have bh:=((a8 w6.drew (H8.drew).chg).attrs k x s hx b9)
 have d6:=dc s (mem_of_getElem? b9)
 have a1:=bh.len
 refine AA rfl ⟨some mb,H8.ld (o:=0) (cs:=treC mb root next) EQ4 nMN (.tail _ (.tail _ (.head _))) rfl,x.x.kind,H8.ld (o:=1) (cs:=itC x s) EQ4 yInt (.tail _ (.head _)) rfl,x.x.name,H8.ld (o:=2) (cs:=itC x s) EQ4 yStr (.tail _ (.head _)) rfl,x.x.text,H8.ld (o:=3) (cs:=itC x s) EQ4 yStr (.tail _ (.head _)) rfl,s.1,s.2.1,s.2.2,H8.ld (o:=4) (cs:=itC x s) EQ4 iSAt (.tail _ (.head _)) rfl,?_⟩
 refine AC (GN s.1 s.2.1 s.2.2 (atC x.x.attrs) w6.drew bh.cells (by rw[Lt,a1]) (MF _) (fun e=>by
  rw[a1]
  cases hatt:x.x.attrs with
  |nil=>rfl
  |cons p r=>
   have hc:=bh.cells
   rw[hatt,e]at hc
   obtain⟨_,h9,_⟩:=hc 0 (.string p.1) rfl
   cases h9) (by omega)) ?_
 rintro _ w7 ⟨a5,c5,rfl,Hc⟩
 have H9:=(H8.drew).ext1 Hc
 clear H8 Hc b7
 refine⟨a5,s.2.1,c5,rfl,H9.ld (o:=3) (cs:=itC x s) EQ4 yStr (.tail _ (.tail _ (.head _))) rfl,H9.ld (o:=2) (cs:=itC x s) EQ4 yStr (.tail _ (.tail _ (.head _))) rfl,H9.ld (o:=1) (cs:=itC x s) EQ4 yInt (.tail _ (.tail _ (.head _))) rfl,H9.ld (o:=0) (cs:=treC mb root next) EQ4 nMN (.tail _ (.tail _ (.tail _ (.head _)))) rfl,?_⟩
 intro nb w8 cb
 obtain⟨B,a7⟩:∃B:En,B=⟨z,q,x.x,[]⟩:=⟨_,rfl⟩
 obtain⟨C,cc⟩:∃C:NW,C=⟨nb,a5,c5,none,0⟩:=⟨_,rfl⟩
 have dq:nodC C B=[.int .i64 z,.int .i64 q,.int .i64 x.x.kind,.int .i64 0,.string x.x.name,.string x.x.text,.slice a5 s.2.1 c5,.slice none 0 0]:=by
  rw[cc,a7,a1];rfl
 rw[<- dq]at cb
 have cd:=(H9.new (cs:=nodC C B) EQ4 cb).nilS 3 1
 clear H9 cb
 have b8:=hI.ents.ids
 have ah:ids N=zs.take k:=by
  rw[<- BH N 0,hI.fl,Vh (by rw[length_take,length_take];omega)]
 rw[ah]at b8
 have bj:((nodM K).map (·.1)).Perm (zs.take k++Ii parent e0 R0):=by
  have e:(nodM K).map (·.1)=(K.map (·.2)).map (·.id):=by rw[nodM,map_map,map_map];rfl
  rw[e];exact b8
 have cy:zs=zs.take k++z::zs.drop (k+1):=by
  have T:=(List.getElem?_eq_some_iff.1 hz)
  rw[<- T.2,<- List.drop_eq_getElem_cons T.1,take_append_drop]
 have bk:z∉(nodM K).map (·.1):=fun hm=>by
  have hm:=bj.mem_iff.1 hm
  rw[cy,append_assoc,nodup_append]at O
  rcases mem_append.1 hm with hm|hm
  ·exact O.2.2 z hm z (.head _) rfl
  ·have h3:=O.2.1
   rw[cons_append,nodup_cons]at h3
   exact h3.1 (mem_append_right _ hm)
 have a6:Ef (nodM K++[(z,Value.pointer (some ⟨nb,0,none⟩))]):=by
  rw[Ef,map_append,nodup_append]
  refine⟨?_,by simp,fun a ha c hc e=>bk ?_⟩
  ·refine bj.nodup_iff.2 ?_
   rw[cy,append_assoc,nodup_append]at O
   obtain⟨g1,g2,g3⟩:=O
   rw[cons_append,nodup_cons,nodup_append]at g2
   exact nodup_append.2 ⟨g1,g2.2.2.1,fun a ha c hc=>g3 a ha c (.tail _ (mem_append_right _ hc))⟩
  ·simp at hc;rw[<- hc,<- e];exact ha
 refine⟨cd.ld (o:=0) (cs:=treC mb root next) EQ4 nMN (.tail _ (.tail _ (.tail _ (.tail _ (.tail _ (.head _)))))) rfl,?_⟩
 have cz:=cd.perm (GM [_,_,_,_,_,_] _ _)
 clear cd
 refine Hp.mupI D7 cz EQ4 ?_
 intro w9 b2
 clear cz
 rw[LC _ _ _ bk]at b2
 have ds:nodM K++[(z,Value.pointer (some ⟨nb,0,none⟩))]=nodM (K++[(C,B)]):=by rw[nodM_append,cc,a7];rfl
 rw[ds]at b2 a6
 have U:Hp BB w w9 (.own 3 1 D (d+1+1) G (AO (parent::Af (snoc d z x.x N)))::.blk xb (itC x s) 123::treL b mb root next (K++[(C,B)])):=by
  have e1:nodL (C,B)=[.blk nb (nodC C B) 139,.own 142 2 a5 s.2.1 c5 (atC x.x.attrs),.own 3 1 none 0 0 []]:=by
   rw[a1];subst cc;subst a7;rfl
  have e2:treL b mb root next (K++[(C,B)])=.blk b (treC mb root next) 119::.imap mb .i64 (nodM (K++[(C,B)]))::(BX K++nodL (C,B)):=by
   rw[treL,Ou];simp[BX]
  rw[e2,e1]
  refine b2.perm ?_
  refine AL fun ff gg h0 hc ha ak=>?_
  simp only[ha,hc,h0];omega
 clear b2
 have al:(d=0/\q=parent)\/(0<d/\(Af N)[d-1]? =some q/\q≠0):=by
  cases d with
  |zero=>exact .inl ⟨rfl,by simpa using hq.symm⟩
  |succ d=>
   rw[List.getElem?_cons_succ]at hq
   refine .inr ⟨by omega,by simpa using hq,?_⟩
   have hm:q∈zs.take k:=by rw[<- ah];exact QB N q (mem_of_getElem? hq)
   exact dd q (List.mem_of_mem_take hm)
 have dt:((K++[(C,B)]).map (·.2)).Perm (B::K.map (·.2)):=by
  rw[map_append]
  exact perm_append_comm
 refine AB (fun bl=>?_) (fun bl=>⟨x.level,U.ld (o:=0) (cs:=itC x s) EQ4 yInt (.tail _ (.head _)) rfl,?_⟩)
 ·--the root
  obtain⟨b4,a2⟩:d=0/\q=parent:=by
   rcases al with T|⟨_,_,T⟩
   ·exact T
   ·exact(T bl).elim
  have am:parent=0:=by rw[<- a2];exact bl
  have c0:k=0:=by
   rcases Nat.eq_zero_or_pos k with e|e
   ·exact e
   ·have:=cn am k x e hx;omega
  have hN:=hI.nil c0
  subst hN
  subst b4
  refine AA rfl ?_
  rw[add_lit]
  refine Hp.st (o:=1) U.BD EQ4 yInt rfl rfl (by simp[treC]) (cs':=treC mb z next) rfl fun af Z=>hJ _ _ ⟨D,G,K++[(C,B)],snoc 0 z x.x .nil,z,?_,grow_step hI hz hx hd ae ?_ ?_,?_⟩
  ·show(D,0+1+1,G)=_
   rw[<- ag]
  ·have:=hI.at_
   rw[if_pos am]at this⊢
   exact this
  ·rcases hI.ents with⟨T,h2,h3⟩|⟨T,_⟩
   ·refine .inl ⟨T,?_,rfl⟩
    rw[ents]at h2
    refine dt.trans ?_
    rw[h2.eq_nil,a7,bl,snoc,ents,ents,ents,am]
    exact .refl _
   ·exact(T am).elim
  ·refine Hp.drop (a:=.blk xb (itC x s) 123) (Z.perm (M:=.blk xb (itC x s) 123::.own 3 1 D ((Af (snoc 0 z x.x .nil)).length+1) G (AO (parent::Af (snoc 0 z x.x .nil)))::treL b mb z next (K++[(C,B)])) ?_)
   rw[ag]
   refine AL fun ff gg h0 hc ha ak=>?_
   simp only[treL,ha,hc,h0];omega
 ·--below a node that is there
  have c1:∀{e:En}{R:List En},(K.map (·.2)).Perm (e::R)->e.id=q->∃A f Bw,K=A++(f,e)::Bw/\aget (nodM (K++[(C,B)])) q=some (.pointer (some ⟨f.b,0,none⟩)):=by
   intro e R hp hi
   have hm:=hp.mem_iff.2 (.head _)
   obtain⟨⟨f,g⟩,c2,he⟩:=mem_map.1 hm
   dsimp only at he;subst he
   obtain⟨A,Bw,du⟩:=append_of_mem c2
   refine⟨A,f,Bw,du,(Ei a6).2 (mem_map.2 ⟨(f,g),mem_append_left _ c2,?_⟩)⟩
   rw[hi]
  refine AB (fun dv=>?_) (fun dv=>?_)
  ·--at a place among its kids
   obtain⟨b4,a2⟩:d=0/\q=parent:=by
    rcases al with T|⟨T,_⟩
    ·exact T
    ·omega
   subst b4
   have am:parent≠0:=by rw[<- a2];exact bl
   rcases hI.ents with⟨T,_⟩|⟨_,c3,ce,hE⟩
   ·exact(am T).elim
   obtain⟨g,a3⟩:∃g:En,g= {e0 with kids:=EC e0.kids L.toNat (tops N)}:=⟨_,rfl⟩
   rw[<- a3]at hE
   have a4:(K.map (·.2)).Perm (g::(ents N parent++R0)):=hE.trans perm_middle
   obtain⟨A,f,Bw,bm,an⟩:=c1 a4 (by rw[a3,a2];exact c3)
   have bo:K++[(C,B)]=A++(f,g)::(Bw++[(C,B)]):=by rw[bm];simp
   rw[bo]at U an
   have bp:∀{W:World},Eqw w9 W->Ld Tryz.prog 117 W ⟨b,0,none⟩ (.map (some mb)):=fun he=>U.ld (o:=0) (cs:=treC mb root next) he nMN (.tail _ (.tail _ (.head _))) rfl
   have bq:∀{W:World},Eqw w9 W->Lk Tryz.prog 117 false W (.map (some mb)) (.int .i64 q) (.pointer (some ⟨f.b,0,none⟩)):=fun he=>U.lkI D7 he (.tail _ (.tail _ (.tail _ (.head _)))) (by rw[an];rfl)
   have av:∀a∈nodL (f,g),a∈(Asn.own 3 1 D (0+1+1) G (AO (parent::Af (snoc 0 z x.x N))))::.blk xb (itC x s) 123::treL b mb root next (A++(f,g)::(Bw++[(C,B)])):=fun a ha=>.tail _ (.tail _ (Dv (p:=(f,g)) (by simp) ha))
   have cf:∀{W:World},Eqw w9 W->Ld Tryz.prog 59 W ⟨f.b,7,none⟩ (.slice f.ka g.kids.length f.kc):=fun he=>U.ld (o:=7) (cs:=nodC f g) he nSI (av _ (.head _)) rfl
   refine AA rfl ⟨_,bp EQ4,_,bq EQ4,AA rfl ⟨_,bp EQ4,_,bq EQ4,AA rfl ⟨_,_,_,by rw[add_lit];exact cf EQ4,?_⟩⟩⟩
   intro b3 af bv
   have Z:=U.nw bv
   have aw:Ld Tryz.prog 117 af ⟨b,0,none⟩ (.map (some mb)):=Z.ld (o:=0) (cs:=treC mb root next) EQ4 nMN (.tail _ (.tail _ (.tail _ (.head _)))) rfl
   have a0:Lk Tryz.prog 117 false af (.map (some mb)) (.int .i64 q) (.pointer (some ⟨f.b,0,none⟩)):=Z.lkI D7 EQ4 (.tail _ (.tail _ (.tail _ (.tail _ (.head _))))) (by rw[an];rfl)
   have bw:Ld Tryz.prog 59 af ⟨f.b,7,none⟩ (.slice f.ka g.kids.length f.kc):=Z.ld (o:=7) (cs:=nodC f g) EQ4 nSI (.tail _ (av _ (.head _))) rfl
   refine⟨by rw[add_lit];exact bw,a0,aw,a0,aw,?_⟩
   have ao:=Z.perm (M:=.own 3 1 f.ka g.kids.length f.kc (AO g.kids)::.blk f.b (nodC f g) 139::.own 142 2 f.aa g.x.attrs.length f.ac (atC g.x.attrs)::.blk b3 [.int .i64 z] 3::.own 3 1 D (0+1+1) G (AO (parent::Af (snoc 0 z x.x N)))::.blk xb (itC x s) 123::.blk b (treC mb root next) 119::.imap mb .i64 (nodM (A++(f,g)::(Bw++[(C,B)])))::BX (A++(Bw++[(C,B)]))) (by
    have e1:=JW b mb root next A (f,g) (Bw++[(C,B)])
    refine AL fun ff gg h0 hc ha ak=>?_
    have:=ak _ _ e1
    simp only[nodL,ha,hc,h0]at this⊢
    omega)
   clear Z U
   have cg:Own af 0 3 1 f.ka g.kids.length f.kc (AO g.kids):=ao.ownA (.head _)
   have dx:b3∉blks f.ka:=fun hm=>(pairwise_cons.1 ao.sep).1 (.blk b3 [.int .i64 z] 3) (.tail _ (.tail _ (.head _))) b3 hm (.head _)
   have c4:g.kids.length=e0.kids.length+(tops N).length:=by rw[a3];exact PL _ _ _
   have ep:=Ja N
   have d7:(ids N).length<=2000:=by rw[ah,length_take];omega
   have c6:=hI.at_
   rw[if_neg am]at c6
   obtain⟨ix,dy⟩:∃ix:Nat,ix=L.toNat+(tops N).length:=⟨_,rfl⟩
   have c7:ba=(ix:Int):=by omega
   rw[c7]
   refine AC (UC f.ka g.kids.length f.kc ix b3 (AO g.kids) [.int .i64 z] 3 af cg (MI _) (by omega) (ao.blk (.tail _ (.tail _ (.tail _ (.head _))))) rfl (by intro u hu;rw[mem_singleton.1 hu];rfl) dx (by omega)) ?_
   rintro _ dz ⟨X,Y,rfl,ap⟩
   replace ap:=ao.Ba ap
   clear ao
   have ch:(AO g.kids).take (ix*1)++([Value.int .i64 z]++(AO g.kids).drop (ix*1))=AO (EC e0.kids L.toNat (tops N++[z])):=by
    have h9:=insAt_snoc e0.kids L.toNat (tops N) z (by omega)
    rw[<- h9,dy,a3,Nat.mul_one]
    simp[AO,map_take,map_drop]
   rw[ch]at ap
   have aq:=ap.Ae
   clear ap
   obtain⟨e2,ab⟩:∃e2:En,e2= {e0 with kids:=EC e0.kids L.toNat (tops N++[z])}:=⟨_,rfl⟩
   have bx:g.kids.length+1=e2.kids.length:=by rw[c4,ab];show _=(EC _ _ _).length;rw[PL,length_append];rfl
   refine⟨X,g.kids.length+1,Y,rfl,aq.lkI D7 EQ4 (.tail _ (.tail _ (.tail _ (.tail _ (.tail _ (.tail _ (.tail _ (.head _)))))))) (by rw[an];rfl),aq.ld (o:=0) (cs:=treC mb root next) EQ4 nMN (.tail _ (.tail _ (.tail _ (.tail _ (.tail _ (.tail _ (.head _))))))) rfl,AA rfl ?_⟩
   rw[add_lit]
   refine Hp.st (o:=7) aq EQ4 nSI rfl rfl (by simp[nodC]) (cs':=nodC {f with ka:=X,kc:=Y} e2) (by rw[bx,ab,a3];rfl) fun d0 ci=>⟨DD.2 (by omega),?_⟩
   clear aq
   refine hJ _ _ ⟨D,G,A++({f with ka:=X,kc:=Y},e2)::(Bw++[(C,B)]),snoc 0 z x.x N,root,?_,grow_step hI hz hx hd ae ?_ ?_,?_⟩
   ·show(D,0+1+1,G)=_
    rw[<- ag]
   ·show(ix:Int)+1=_
    rw[if_neg am,Jz,length_append,List.length_singleton]
    omega
   ·refine .inr ⟨am,c3,ce,?_⟩
    rw[bm]at a4
    have h9:=Y4 (y':= {f with ka:=X,kc:=Y}) (yn:=C) (e':=e2) (en:=B) a4
    refine h9.trans ?_
    rw[Jz,<- ab]
    have c8:=NV z x.x N parent
    rw[<- a2]at c8
    rw[a7]
    refine List.Perm.trans ?_ ((c8.symm.append_right _).trans (by rw[<- a2]))
    rw[cons_append]
    refine List.Perm.cons _ ?_
    rw[a2]
    exact List.perm_middle.symm
   ·have e1:=JW b mb root next A ({f with ka:=X,kc:=Y},e2) (Bw++[(C,B)])
    have hM:nodM (A++(({f with ka:=X,kc:=Y}:NW),e2)::(Bw++[(C,B)]))=nodM (A++(f,g)::(Bw++[(C,B)])):=KT rfl (by rw[ab,a3])
    rw[hM]at e1
    have cj:e2.x=g.x:=by rw[ab,a3]
    refine Hp.drop (Hp.drop (a:=.blk b3 [.int .i64 z] 3) (ci.perm (M:=.blk b3 [.int .i64 z] 3::.blk xb (itC x s) 123::.own 3 1 D ((Af (snoc 0 z x.x N)).length+1) G (AO (parent::Af (snoc 0 z x.x N)))::treL b mb root next (A++({f with ka:=X,kc:=Y},e2)::(Bw++[(C,B)]))) ?_))
    rw[ag]
    refine AL fun ff gg h0 hc ha ak=>?_
    have:=ak _ _ e1
    simp only[nodL,ha,hc,h0,cj,<- bx]at this⊢
    have ck:EC e0.kids L.toNat (tops N++[z])=e2.kids:=by rw[ab]
    rw[ck]
    omega
  ·--behind its kids
   obtain⟨b4,c9,eq⟩:0<d/\(Af N)[d-1]? =some q/\q≠0:=by
    rcases al with⟨T,_⟩|T
    ·omega
    ·exact T
   obtain⟨d',rfl⟩:∃d',d=d'+1:=⟨d-1,by omega⟩
   obtain⟨g,R,d1,cl,d2⟩:=NI d' z x.x N parent ae
   rw[Nat.add_sub_cancel,d1]at c9
   have da:g.id=q:=Option.some.inj c9
   obtain⟨R2,a4,d3⟩:∃R2,(K.map (·.2)).Perm (g::R2)/\∀(E2:List En),E2.Perm (B:: {g with kids:=g.kids++[z]}::R2)->V9 parent L i e0 R0 (snoc (d'+1) z x.x N) E2 root:=by
    have a1:(ents (snoc (d'+1) z x.x N) parent).Perm (B:: {g with kids:=g.kids++[z]}::R):=by
     have:B=⟨z,g.id,x.x,[]⟩:=by rw[a7,da]
     rw[this];exact d2
    rcases hI.ents with⟨T,h2,h3⟩|⟨T,h2,h3,h4⟩
    ·refine⟨R,h2.trans cl,fun E2 h5=>.inl ⟨T,h5.trans a1.symm,?_⟩⟩
     rw[h3]
     cases N with
     |nil=>simp[Af]at ae
     |cons j y kk t=>
      cases t with
      |nil=>rfl
      |cons _ _ _ _=>rfl
    ·refine⟨R++({e0 with kids:=EC e0.kids L.toNat (tops N)}::R0),?_,fun E2 h5=>.inr ⟨T,h2,h3,?_⟩⟩
     ·exact h4.trans (cl.append_right _)
     ·rw[Jm d' z x.x N ae]
      exact h5.trans (a1.append_right _).symm
   obtain⟨A,f,Bw,bm,an⟩:=c1 a4 da
   have bo:K++[(C,B)]=A++(f,g)::(Bw++[(C,B)]):=by rw[bm];simp
   rw[bo]at U an
   have bp:∀{W:World},Eqw w9 W->Ld Tryz.prog 117 W ⟨b,0,none⟩ (.map (some mb)):=fun he=>U.ld (o:=0) (cs:=treC mb root next) he nMN (.tail _ (.tail _ (.head _))) rfl
   have bq:∀{W:World},Eqw w9 W->Lk Tryz.prog 117 false W (.map (some mb)) (.int .i64 q) (.pointer (some ⟨f.b,0,none⟩)):=fun he=>U.lkI D7 he (.tail _ (.tail _ (.tail _ (.head _)))) (by rw[an];rfl)
   have av:∀a∈nodL (f,g),a∈(Asn.own 3 1 D (d'+1+1+1) G (AO (parent::Af (snoc (d'+1) z x.x N))))::.blk xb (itC x s) 123::treL b mb root next (A++(f,g)::(Bw++[(C,B)])):=fun a ha=>.tail _ (.tail _ (Dv (p:=(f,g)) (by simp) ha))
   have cf:∀{W:World},Eqw w9 W->Ld Tryz.prog 59 W ⟨f.b,7,none⟩ (.slice f.ka g.kids.length f.kc):=fun he=>U.ld (o:=7) (cs:=nodC f g) he nSI (av _ (.head _)) rfl
   refine AA rfl ⟨_,bp EQ4,_,bq EQ4,AA rfl ⟨_,bp EQ4,_,bq EQ4,AA rfl ⟨_,_,_,by rw[add_lit];exact cf EQ4,?_⟩⟩⟩
   intro b3 af bv
   have Z:=U.nw bv
   have aw:Ld Tryz.prog 117 af ⟨b,0,none⟩ (.map (some mb)):=Z.ld (o:=0) (cs:=treC mb root next) EQ4 nMN (.tail _ (.tail _ (.tail _ (.head _)))) rfl
   have a0:Lk Tryz.prog 117 false af (.map (some mb)) (.int .i64 q) (.pointer (some ⟨f.b,0,none⟩)):=Z.lkI D7 EQ4 (.tail _ (.tail _ (.tail _ (.tail _ (.head _))))) (by rw[an];rfl)
   have bw:Ld Tryz.prog 59 af ⟨f.b,7,none⟩ (.slice f.ka g.kids.length f.kc):=Z.ld (o:=7) (cs:=nodC f g) EQ4 nSI (.tail _ (av _ (.head _))) rfl
   refine⟨by rw[add_lit];exact bw,a0,aw,a0,aw,?_⟩
   have ao:=Z.perm (M:=.own 3 1 f.ka g.kids.length f.kc (AO g.kids)::.blk f.b (nodC f g) 139::.own 142 2 f.aa g.x.attrs.length f.ac (atC g.x.attrs)::.blk b3 [.int .i64 z] 3::.own 3 1 D (d'+1+1+1) G (AO (parent::Af (snoc (d'+1) z x.x N)))::.blk xb (itC x s) 123::.blk b (treC mb root next) 119::.imap mb .i64 (nodM (A++(f,g)::(Bw++[(C,B)])))::BX (A++(Bw++[(C,B)]))) (by
    have e1:=JW b mb root next A (f,g) (Bw++[(C,B)])
    refine AL fun ff gg h0 hc ha ak=>?_
    have:=ak _ _ e1
    simp only[nodL,ha,hc,h0]at this⊢
    omega)
   clear Z U
   have c4:g.kids.length<=10000:=by
    have T:=Hr N parent g (cl.mem_iff.2 (.head _))
    rw[ah,length_take]at T
    omega
   have bd:Src Tryz.prog 1 59 (.slice (some ⟨b3,0,none⟩) 1 1) 1 [.int .i64 z] af:=Blk.src (P:=Tryz.prog) NF (ao.blk (.tail _ (.tail _ (.tail _ (.head _))))) rfl rfl
   refine Hp.app MP (by omega) ao EQ4 bd (by simp only[maxLen];omega) (by omega) ?_
   intro X Y dz ap
   clear ao
   have ch:AO g.kids++[Value.int .i64 z]=AO (g.kids++[z]):=by simp[AO]
   rw[ch]at ap
   have aq:=ap.Ae
   clear ap
   obtain⟨e2,ab⟩:∃e2:En,e2= {g with kids:=g.kids++[z]}:=⟨_,rfl⟩
   have bx:g.kids.length+1=e2.kids.length:=by rw[ab];simp
   refine⟨aq.lkI D7 EQ4 (.tail _ (.tail _ (.tail _ (.tail _ (.tail _ (.tail _ (.tail _ (.head _)))))))) (by rw[an];rfl),aq.ld (o:=0) (cs:=treC mb root next) EQ4 nMN (.tail _ (.tail _ (.tail _ (.tail _ (.tail _ (.tail _ (.head _))))))) rfl,AA rfl ?_⟩
   rw[add_lit]
   refine Hp.st (o:=7) aq EQ4 nSI rfl rfl (by simp[nodC]) (cs':=nodC {f with ka:=X,kc:=Y} e2) (by rw[bx,ab];rfl) fun d0 ci=>?_
   clear aq
   refine hJ _ _ ⟨D,G,A++({f with ka:=X,kc:=Y},e2)::(Bw++[(C,B)]),snoc (d'+1) z x.x N,root,?_,grow_step hI hz hx hd ae ?_ ?_,?_⟩
   ·show(D,d'+1+1+1,G)=_
    rw[<- ag]
   ·show ba=_
    rw[Jm d' z x.x N ae];exact hI.at_
   ·rw[bm]at a4
    have h9:=Y4 (y':= {f with ka:=X,kc:=Y}) (yn:=C) (e':=e2) (en:=B) a4
    rw[ab]at h9⊢
    exact d3 _ h9
   ·have e1:=JW b mb root next A ({f with ka:=X,kc:=Y},e2) (Bw++[(C,B)])
    have hM:nodM (A++(({f with ka:=X,kc:=Y}:NW),e2)::(Bw++[(C,B)]))=nodM (A++(f,g)::(Bw++[(C,B)])):=KT rfl (by rw[ab])
    rw[hM]at e1
    have cj:e2.x=g.x:=by rw[ab]
    refine Hp.drop (Hp.drop (a:=.blk b3 [.int .i64 z] 3) (ci.perm (M:=.blk b3 [.int .i64 z] 3::.blk xb (itC x s) 123::.own 3 1 D ((Af (snoc (d'+1) z x.x N)).length+1) G (AO (parent::Af (snoc (d'+1) z x.x N)))::treL b mb root next (A++({f with ka:=X,kc:=Y},e2)::(Bw++[(C,B)]))) ?_))
    rw[ag]
    refine AL fun ff gg h0 hc ha ak=>?_
    have:=ak _ _ e1
    simp only[nodL,ha,hc,h0,cj,<- bx]at this⊢
    have ck:g.kids++[z]=e2.kids:=by rw[ab]
    rw[ck]
    omega
end
end Go.Proofs.YtljenkbpnioipaaGreat
namespace Go.Nod
theorem O9{l:Int}:∀(X Y:List Rw),(∀r∈X,l<r.level)->(∀r,Y.head? =some r->r.level<=l)->(X++Y).takeWhile (fun r=>decide (l<r.level))=X
 | [],[],_,_=>rfl
 | [],y::Y,_,h=>by
  have:=h y rfl
  have:¬l<y.level:=by omega
  rw[nil_append,List.takeWhile_cons,decide_eq_false this];rfl
 |x::X,Y,h,h'=>by
  have:=h x (.head _);rw[cons_append,List.takeWhile_cons,decide_eq_true this];simp only[if_true];rw[O9 X Y (fun r a=>h r (.tail _ a)) h']
theorem KW:∀(F G:Fo)(l:Int),flat F l=flat G l->F=G
 |.nil,.nil,_,_=>rfl
 |.nil,.cons i x k s,l,h=>by rw[flat,flat]at h;cases h
 |.cons i x k s,.nil,l,h=>by rw[flat,flat]at h;cases h
 |.cons i x k s,.cons i' x' k' s',l,h=>by
  rw[flat,flat,List.cons.injEq]at h;obtain⟨d,b⟩:=h;have e:=O9 (l:=l) (flat k (l+1)) (flat s l) (fun r a=>by have:=CO k _ r a;omega) (fun r a=>Int.le_of_eq (FP s l r a));have f:=O9 (l:=l) (flat k' (l+1)) (flat s' l) (fun r a=>by have:=CO k' _ r a;omega) (fun r a=>Int.le_of_eq (FP s' l r a))
  have c:flat k (l+1)=flat k' (l+1):=by rw[<- e,<- f,b]
  have g:flat s l=flat s' l:=by rw[c]at b;exact List.append_cancel_left b
  have j:=KW k k' (l+1) c;have m:=KW s s' l g
  injection d with a1 a2 a3
  rw[j,m,a1,a3]
theorem RG:∀(L:List Rw)(k:Nat)(p r:Rw),Adj L->L[k]? =some p->L[k+1]? =some r->Nxt1 p r
 | [],k,p,r,_,h,_=>by simp at h
 | [x],k,p,r,_,_,h=>by simp at h
 |x::y::t,0,p,r,h,h1,h2=>by cases h1;cases h2;exact h.1
 |x::y::t,k+1,p,r,h,h1,h2=>RG (y::t) k p r h.2 (by simpa using h1) (by simpa using h2)
theorem Yw{F:Fo}{l:List It}{n b:Int}(h:flat F b=Ar n b l)(f:FOk F):WT l:=by
 intro k x c
 have a:∀{k:Nat}{x:It},l[k]? =some x->(flat F b)[k]? =some ⟨n+k,x.level+b,x.x⟩:=fun c=>by rw[h,EX,c];rfl
 refine⟨?_,fun e=>?_,fun y m g=>?_⟩
 ·have:=CO F b _ (mem_of_getElem? (a c))
  dsimp only at this;omega
 ·subst e
  have:=FP F b _ (by rw[List.head?_eq_getElem?];exact a c);dsimp only at this;omega
 ·have i:=a g
  have j:=a c;obtain⟨d,rfl⟩:∃d,k=d+1:=⟨k-1,by omega⟩;have:=(RG _ d _ _ (KO F b f) i j).1;dsimp only at this;omega
theorem one_lev{F:Fo}{i:Int}{x:NX}{k:Fo}(e:F=.cons i x k .nil){l:List It}{n:Int}(h:flat F 0=Ar n 0 l):∀(k:Nat)(x:It),0<k->l[k]? =some x->1<=x.level:=by
 intro j y d c
 have a:(flat F 0)[j]? =some ⟨n+j,y.level+0,y.x⟩:=by rw[h,EX,c];rfl
 rw[e,flat,flat,append_nil]at a;obtain⟨b,rfl⟩:∃b,j=b+1:=⟨j-1,by omega⟩;rw[List.getElem?_cons_succ]at a;have:=CO k (0+1) _ (mem_of_getElem? a);dsimp only at this;omega
theorem FK{x:NX}(h:Ap x=0):x.attrs.length<=20/\(x.kind=1->Cb x.name/\Mc x.attrs/\x.text=⟨#[]⟩/\valsE x.attrs=0)/\(x.kind=2->x.attrs=[]/\BJ x.text=0/\x.name=⟨#[]⟩):=by
 rw[Ap]at h;split at h
 ·rename_i c
  split at h
  ·rename_i b
   exact⟨by rw[b.2];simp,fun e=>by omega,fun _=>⟨b.2,h,b.1⟩⟩
  ·cases h
 ·rename_i c
  split at h
  ·rename_i b
   split at h
   ·rename_i a
    rw[Bh]at a;split at a
    ·cases a
    rename_i d;split at a
    ·cases a
    rename_i f;split at a
    ·cases a
    rename_i g;exact⟨by omega,fun _=>⟨Classical.not_not.1 d,Classical.not_not.1 f,b.2,h⟩,fun e=>(c e).elim⟩
   ·rename_i a;exact(a h).elim
  ·cases h
end Go.Nod
namespace Go.Vc
theorem Hp.stays{B:List Nat}{w0 w W:World}{L1:List Asn}{a:Asn}(H:Hp B w0 w (a::L1))(h:Chg (feet L1) w W):a.ok W:=by
 have b:=H.ok a (.head _);refine Asn.X9 b fun k d=>h.2.2.2.2 k (Asn.WQ b k d) fun e=>?_;obtain⟨x,f,c⟩:=Dl.1 e;exact(pairwise_cons.1 H.sep).1 x f k d c
theorem Hp.chgT{B:List Nat}{w0 w W:World}{L:List Asn}(H:Hp B w0 w L)(h:Chg (feet L) w W):Chg B w0 W:=
 H.chg.trans h (fun k a=>a) fun k a=>by
  obtain⟨x,c,b⟩:=Dl.1 a;exact H.own x c k b
end Go.Vc
namespace Go.Proofs.YtljenkbpnioipaaGreat
noncomputable section
open Go Go.Vc Go.Nod
structure Df(S:List Nat)(w:World)(a:Option Addr)(n:Nat)(l:List It)(ss:List Sl3):Prop where
 rd:∀W,Chg S w W->ItR W a n l ss
 len:n<=maxLen
 sls:∀s∈ss,s.2.1<=maxLen
 small:∀x∈l,TG x.x
theorem Df.now{S:List Nat}{w:World}{a:Option Addr}{n:Nat}{l:List It}{ss:List Sl3}(h:Df S w a n l ss):ItR w a n l ss:=h.rd w (Chg.refl _ _)
theorem Df.att{S:List Nat}{w:World}{a:Option Addr}{n:Nat}{l:List It}{ss:List Sl3}(h:Df S w a n l ss)(f:∀x∈l,Ap x.x=0):∀s∈ss,s.2.1<=1000:=by
 intro s g;obtain⟨k,c⟩:=List.getElem?_of_mem g;have d:=h.now;have b:=(List.getElem?_eq_some_iff.1 c).1;have e:l[k]? =some (l[k]'(by rw[<- d.ssl];exact b)):=List.getElem?_eq_getElem _;have i:=(d.attrs k _ s e c).len;have j:=(FK (f _ (mem_of_getElem? e))).1;omega
theorem Xz(n:Int)(l:List It)(a:List Int)(h:a=(List.range l.length).map fun(k:Nat)=>n+(k:Int)):KF (a.take l.length) (l.take l.length)=Ar n 0 l:=by
 have b:a.length=l.length:=by rw[h];simp
 rw[take_of_length_le (by omega),take_of_length_le (Nat.le_refl _),h,<- named_rowsZ 0]
theorem RZ(n:Int)(m:Nat):((List.range m).map fun(k:Nat)=>n+(k:Int)).Nodup:=by
 refine List.pairwise_map.2 (List.nodup_range.imp fun h e=>h ?_);omega
theorem gLoad_spec{f:List Nat}{b:Nat}{T:Tr}{w:World}(h:(AU f b T).ok w)(J:Option Addr)(n O:Nat)(l:List It)(ss:List Sl3)(j:Df f w J n l ss):
  Calls Tryz.prog 23 #[.pointer (some ⟨b,0,none⟩),.slice J n O] w fun e w'=>∃R,e=.returned (.tuple #[.int .i64 (T.load l).2.1,.int .i64 (T.load l).2.2])/\Hp f w w' [AU R b (T.load l).1]:=by
 apply gLoad.ok;unfold gLoad.vc;have A:Hp f w w [AU f b T]:=Be h;have d:=j.now.len;refine AC (Ia J n O l ss w j.now j.len j.sls j.small) ?_;rintro _ w1 ⟨rfl,H'⟩;replace A:=A.ext0 H';refine⟨_,_,rfl,AV (fun m=>⟨f,by rw[Tr.load,if_pos m],by rw[Tr.load,if_pos m];exact A⟩) (fun m=>?_)⟩;have p:¬(DC l).2≠0:=fun q=>q m;obtain⟨M,⟨F,hG,U,K,hw,rfl⟩,H,hf⟩:=A.unpack;have X:=hG.next;refine AA rfl ⟨T.next,by rw[add_lit];exact H.lo yInt,iR,AB (fun q=>?_) (fun q=>?_)⟩
 ·have:2147483647<T.next+l.length:=by omega
  refine⟨f,by rw[Tr.load,if_neg p,if_pos this],by rw[Tr.load,if_neg p,if_pos this];exact A⟩
 have s:¬2147483647<T.next+l.length:=by omega
 obtain⟨L,a,Y⟩:=Ri m X.1 (by omega)
 have ah:l.length<=1000:=by
  have:=a.len;dsimp only at this;rw[MG]at this;exact this
 have B:l≠[]:=fun e=>by rw[DC,if_pos e]at m;cases m
 intro c w2 Z;have H2:=H.newI EQ4 .i64 Z
 have H3:Hp f w w2 (.blk b (treC U (Ac F) T.next) 119::.imap c .i64 []::(.imap U .i64 (nodM K)::BX K)):=H2.perm (by
  refine AL fun ff gg h0 hc ha ak=>?_
  simp only[treL,ha,hc,h0];omega)
 refine AA rfl (Hp.st (o:=0) H3 EQ4 nMN rfl rfl (by simp[treC]) (cs':=treC c (Ac F) T.next) rfl fun w3 H4=>AA rfl ?_);rw[add_lit];refine Hp.st (o:=1) H4 EQ4 yInt rfl rfl (by simp[treC]) (cs':=treC c 0 T.next) rfl fun w4 H5=>?_
 have H6:Hp f w w4 (treL b c 0 T.next []):=by
  have:Hp f w w4 (treL b c 0 T.next []++(.imap U .i64 (nodM K)::BX K)):=H5;exact this.BP
 clear H2 H3 H4 H5 H A;refine AC (YF H6.std n (by omega) (by omega) (by omega)) ?_;rintro _ w5 ⟨za,zc,rfl,H7⟩;have C:=H6.Xm H7;refine⟨za,n,zc,rfl,?_⟩;obtain⟨t,g⟩:∃t:List Int,t=(List.range n).map fun(k:Nat)=>T.next+(k:Int):=⟨_,rfl⟩;rw[<- g]at C
 have aa:t.length=l.length:=by rw[g];simp;omega
 have i:∀x∈l,Ap x.x=0:=fun x hx=>by
  obtain⟨k,hk⟩:=List.getElem?_of_mem hx
  have h9:(flat L 0)[k]? =some ⟨T.next+k,x.level+0,x.x⟩:=by rw[a.fl];dsimp only;rw[EX,hk];rfl
  exact IW L 0 a.ok _ (mem_of_getElem? h9)
 obtain⟨i1,x1,k1,ab,_⟩:=a.one.resolve_left Y;refine AC (Xb (w:=w5) (C.drop).std 0 0 J n O l ss za zc t (fun W hW=>j.rd W ((C.drop).chgT hW)) (fun W hW=>?_) aa B (by omega) (j.att i) (Yw a.fl a.ok) (fun _=>one_lev ab a.fl) ⟨0,0,⟨0,⟨#[]⟩,⟨#[]⟩,[]⟩,[]⟩ [] ?_ ?_ (fun z hz=>?_) ⟨by omega,by simp⟩ (by simp)) ?_
 ·exact Own.cells (show Own W 0 3 1 za n zc (AO t)from Hp.stays C hW)
 ·exact .inl ⟨rfl,.refl _,rfl⟩
 ·rw[Ii,if_pos rfl,append_nil,g];exact RZ _ _
 ·rw[g]at hz
  obtain⟨k,_,rfl⟩:=mem_map.1 hz;omega
 rintro _ w6 ⟨u,N,D,al,rfl,hI,H9⟩;have G:=(C.drop).Xm H9
 have ac:flat N 0=Ar T.next 0 l:=by
  rw[hI.fl,d];exact Xz T.next l t (by rw[g,d])
 have ad:N=L:=KW N L 0 (by rw[ac];exact a.fl.symm);subst ad
 have ae:T.load l=(⟨Ar T.next 0 l,T.next+l.length⟩,T.next,0):=by rw[Tr.load,if_neg p,if_neg s]
 rw[ae]
 obtain⟨hE,y⟩:(u.map (·.2)).Perm (ents N 0)/\D=Ac N:=by
  rcases hI.ents with⟨_,q,h3⟩|⟨q,_⟩
  ·exact⟨q,h3⟩
  ·exact(q rfl).elim
 rw[y,d]at G
 have af:Hp f w w6 (treL b c (Ac N) (T.next+l.length) u++[]):=by rw[append_nil];exact G
 obtain⟨R,ag⟩:=af.DJ (Q:=KH b ⟨Ar T.next 0 l,T.next+l.length⟩) ⟨N,a,c,u,hE,rfl⟩;refine⟨_,rfl,R,?_,ag⟩
 have:t.headD 0=T.next:=by
  obtain⟨x,r,e⟩:=List.exists_cons_of_ne_nil B;rw[g,d,e,length_cons,List.range_succ_eq_map];simp
 rw[this]
end
end Go.Proofs.YtljenkbpnioipaaGreat
namespace Go.Nod
theorem Ud:∀(l:List It)(d:Int)(x:It),KQ d (l++[x])=max (KQ d l) x.level
 | [],d,x=>rfl
 |y::l,d,x=>by rw[cons_append,KQ,Ud l,KQ]
def xName:ByteArray:=⟨#[120]⟩
theorem xName_ok:Cb xName:=by
 refine⟨by decide,by decide,[120],⟨fun c a=>?_,by decide⟩,fun c a=>?_,fun c a=>?_⟩
 ·rw[mem_singleton.1 a];decide
 ·rw[mem_singleton.1 a];decide
 ·cases a;decide
def xIt:It:=⟨0,⟨1,xName,⟨#[]⟩,[]⟩⟩
theorem xIt_parts:Ap xIt.x=0:=by
 have a:¬¬Cb xIt.x.name:=fun h=>h xName_ok;have b:¬¬Mc xIt.x.attrs:=fun h=>h ⟨by simp[xIt],by simp[xIt,Rs]⟩
 have c:Bh xIt.x=0:=by rw[Bh,if_neg a,if_neg b,if_neg (by simp[xIt])]
 rw[Ap,if_neg (by decide),if_pos ⟨rfl,rfl⟩,if_pos c];rfl
theorem check_two(x:NX):(DC [xIt,⟨1,x⟩]).2=Ap x:=by
 have c:oneE [xIt,⟨1,x⟩] 0 xIt=0:=by
  have:BV [xIt,⟨1,x⟩] 0 xIt=0:=by
   rw[BV,if_neg,if_neg,if_neg,if_neg]
   ·omega
   ·show¬(40:Int)<=0;omega
   ·rintro⟨h,_⟩;omega
   ·rintro⟨_,h|h⟩
    ·exact h rfl
    ·exact h rfl
  rw[oneE,if_pos this,xIt_parts]
 have a:BV [xIt,⟨1,x⟩] 1 ⟨1,x⟩=0:=by
  rw[BV,if_neg,if_neg,if_neg,if_neg]
  ·omega
  ·show¬(40:Int)<=1;omega
  ·rintro⟨_,h|⟨y,b,h|h⟩⟩
   ·exact absurd h (by show¬(1:Int)<1;omega)
   ·cases b;exact absurd h (by show¬(0:Int)+1<1;omega)
   ·cases b;exact absurd h.2 (by decide)
  ·rintro⟨h,_⟩;omega
 rw[DC,if_neg (by simp),EF,if_pos c,EF];by_cases h:Ap x=0
 ·have:oneE [xIt,⟨1,x⟩] (0+1) ⟨1,x⟩=0:=by rw[oneE,if_pos a];exact h
  rw[if_pos this,EF,h]
 ·have:oneE [xIt,⟨1,x⟩] (0+1) ⟨1,x⟩=Ap x:=by rw[oneE,if_pos a]
  rw[this,if_neg h]
end Go.Nod
namespace Go.Proofs.YtljenkbpnioipaaGreat
noncomputable section
open Go Go.Vc Go.Nod
theorem OM:∀(l:List It)(p:Option It)(m:Int),Ea p l=0->Ic p<=m->∀x∈l,0<=x.level/\x.level<=m+l.length
 | [],p,m,_,_,x,a=>by cases a
 |y::r,p,m,h,hm,x,a=>by
  rw[Ea]at h;split at h
  ·cases h
  rename_i b;have f:0<=y.level/\y.level<=Ic p:=⟨Int.not_lt.1 fun e=>b (.inl e),Int.not_lt.1 fun e=>b (.inr e)⟩;split at h
  ·rw[length_cons]
   rcases mem_cons.1 a with rfl|a
   ·omega
   ·have c:Ic (some y)<=m+1:=by
     show(if y.x.kind=2 then y.level else y.level+1)<=m+1;split<;>omega
    have:=OM r (some y) (m+1) h c x a;omega
  ·rename_i d;exact(d h).elim
theorem gForest_spec(a:Option Addr)(n c:Nat)(l:List It)(ss:List Sl3)(w:World)(C:Df [] w a n l ss)(hn:n<=140737488355328):
  Calls Tryz.prog 148 #[.slice a n c] w fun e w'=>(∃d,e=.returned (.tuple #[.int .i64 d,.int .i64 (EI l)])/\(EI l=0->d=deepest l))/\Hp [] w w' []:=by
 apply gForest.ok;unfold gForest.vc;have N:=C.now.len;refine AB (fun h=>⟨⟨0,?_,fun g=>?_⟩,Hp.start w⟩) (fun h=>?_)
 ·have:l=[]:=eq_nil_of_length_eq_zero (by omega)
  rw[EI,if_pos this]
 ·have:l=[]:=eq_nil_of_length_eq_zero (by omega)
  rw[EI,if_pos this]at g;cases g
 have aa:l≠[]:=fun e=>h (by rw[N,e];rfl);rw[EI,if_neg aa]
 refine AP.mk (fun m s w'=>∃k:Nat,m=n-k/\k<=n/\s=(deepest (l.take k),(k:Int))/\(∃p,Ea p (l.drop k)=Ea none l/\(k=0->p=none)/\(0<k->p=l[k-1]?))/\(∀(j:Nat)(y:It),j<k->l[j]? =some y->0<=y.level/\y.level<=j)/\Hp [] w w' []) n
  ⟨0,rfl,by omega,rfl,⟨none,rfl,fun _=>rfl,by omega⟩,by omega,Hp.start w⟩ ?_
 rintro m s w1 next ⟨k,rfl,hk,rfl,⟨p,q,ab,O⟩,i,H⟩ D
 dsimp only;refine AB (fun h1=>?_) (fun h1=>?_);rotate_left
 ·have r:k=l.length:=by omega
  rw[r,List.drop_length,Ea]at q;rw[r,take_length,<- q];exact⟨⟨_,rfl,fun _=>rfl⟩,H⟩
 have r:k<n:=by omega
 have F:=C.now.go H;obtain⟨x,s,u,hs,_⟩:=F.at_ (k:=k) r;obtain⟨ad,G,ac⟩:=F.some u hs;have R:=(List.getElem?_eq_some_iff.1 u).1
 have ae:l.drop k=x::l.drop (k+1):=by rw[List.drop_eq_getElem_cons R,(List.getElem?_eq_some_iff.1 u).2]
 rw[ae,Ea]at q;refine AA G ⟨⟨by omega,h1⟩,_,_,_,_,_,_,_,by rw[Int.toNat_natCast];exact ac,?_⟩;intro xb w2 af;replace H:=H.nw af;refine Hp.sA H DZ (cs':=itC x s) fun w3 H=>?_;refine Am.mk (fun t w'=>((k=0/\t=(0,false))\/∃y,0<k/\l[k-1]? =some y/\t=(y.level+1,decide (y.x.kind=2)))/\Hp [] w w' [.blk xb (itC x s) 123]) ?_ ?_
 ·rintro⟨T,U⟩ w4 ⟨z,X⟩
  dsimp only;clear H
  have f:(k=0/\p=none/\T=0/\U=false)\/∃y,0<k/\p=some y/\T=y.level+1/\U=decide (y.x.kind=2):=by
   rcases z with⟨g,K⟩|⟨y,g,K,A⟩
   ·cases K;exact .inl ⟨g,ab g,rfl,rfl⟩
   ·cases A;exact .inr ⟨y,g,by rw[O g,K],rfl,rfl⟩
  have L:(x.level<0\/Ic p<x.level)->(∃d,Ending.returned (.tuple #[.int .i64 0,.int .i64 69])=.returned (.tuple #[.int .i64 d,.int .i64 (Ea none l)])/\(Ea none l=0->d=deepest l))/\Hp [] w w4 []:=fun hb=>by
   rw[if_pos hb]at q;exact⟨⟨0,by rw[<- q],fun h9=>by omega⟩,X.drop⟩
  refine⟨x.level,X.lo yInt,AB (fun g=>L (.inl g)) (fun g=>⟨x.level,X.lo yInt,AB (fun K=>L (.inr ?_)) (fun K=>?_)⟩)⟩
  ·rcases f with⟨_,rfl,rfl,_⟩|⟨y,_,rfl,rfl,_⟩
   ·exact K
   ·show(if y.x.kind=2 then y.level else y.level+1)<x.level
    split<;>omega
  refine(fun(kk:¬(x.level<0\/Ic p<x.level)->_)=>F6 (fun A=>⟨x.level,X.lo yInt,AB (fun h5=>L (.inr ?b1)) (fun h5=>kk (?c1:¬(x.level<0\/Ic p<x.level)))⟩) (fun A=>kk (?c2:¬(x.level<0\/Ic p<x.level)))) ?_
  case b1=>
   rcases f with⟨_,_,_,rfl⟩|⟨y,_,rfl,rfl,rfl⟩
   ·cases A
   ·have:=of_decide_eq_true A
    show(if y.x.kind=2 then y.level else y.level+1)<x.level;rw[if_pos this];omega
  case c1=>
   rintro(B|B)
   ·exact g B
   ·rcases f with⟨_,_,_,rfl⟩|⟨y,_,rfl,rfl,rfl⟩
    ·cases A
    ·have:=of_decide_eq_true A
     have h7:(if y.x.kind=2 then y.level else y.level+1)<x.level:=B;rw[if_pos this]at h7;omega
  case c2=>
   rintro(B|B)
   ·exact g B
   ·rcases f with⟨_,rfl,rfl,_⟩|⟨y,_,rfl,rfl,rfl⟩
    ·exact K B
    ·have:=of_decide_eq_false A
     have h7:(if y.x.kind=2 then y.level else y.level+1)<x.level:=B;rw[if_neg this]at h7;omega
  intro M;rw[if_neg M]at q;have ag:0<=x.level:=Int.not_lt.1 fun e=>M (.inl e);have ah:x.level<=Ic p:=Int.not_lt.1 fun e=>M (.inr e)
  have ak:x.level<=k:=by
   rcases f with⟨_,rfl,_⟩|⟨y,h0,rfl,_⟩
   ·have:Ic none=0:=rfl
    omega
   ·have b:l[k-1]? =some y:=by rw[<- O h0]
    have h8:=(i (k-1) y (by omega) b).2;have h9:x.level<=(if y.x.kind=2 then y.level else y.level+1):=ah;split at h9<;>omega
  refine Hp.st (o:=0) X EQ4 yInt rfl rfl (by simp[itC]) (cs':=itC ⟨1,x.x⟩ s) rfl fun w5 H5=>?_;refine⟨_,_,_,_,_,_,_,H5.ldA (vs:=itC ⟨1,x.x⟩ s) EQ4 DZ (.head _) rfl rfl,?_⟩;intro b2 w6 al;have H6:=H5.new (cs:=itsC [xIt,⟨1,x.x⟩] [(none,0,0),s]) EQ4 al;have am:=((C.now.go H6.drop.drop).attrs k x s u hs)
  have an:ItR w6 (some ⟨b2,0,none⟩) 2 [xIt,⟨1,x.x⟩] [(none,0,0),s]:=⟨rfl,rfl,(H6.blk (.head _)).cells,fun j y t b z=>by
   cases j with
   |zero=>cases b;cases z;exact⟨rfl,fun j v hv=>by simp[xIt,atC]at hv⟩
   |succ j=>cases j with
    |zero=>cases b;cases z;exact am
    |succ j=>simp at b⟩
  refine AC (Ia _ 2 2 _ _ w6 an (by simp[maxLen]) (fun t z=>?_) (fun y b=>?_)) ?_
  ·rcases mem_cons.1 z with rfl|z
   ·exact Nat.zero_le _
   ·rw[mem_singleton.1 z];exact C.sls s (mem_of_getElem? hs)
  ·rcases mem_cons.1 b with rfl|b
   ·exact⟨by simp[xIt,xName,maxLen,ByteArray.size],by simp[xIt,maxLen,ByteArray.size],by simp[xIt]⟩
   ·rw[mem_singleton.1 b];exact C.small x (mem_of_getElem? u)
  rintro _ w7 ⟨rfl,H'⟩;have H7:=H6.ext0 H';rw[check_two];refine⟨_,_,rfl,AV (fun h8=>?_) (fun h8=>?_)⟩
  ·rw[if_neg h8]at q
   exact⟨⟨0,by rw[<- q],fun h9=>by omega⟩,H7.drop.drop⟩
  ·rw[if_pos h8]at q
   have ao:=C.now.go H7.drop.drop;refine AA G ⟨⟨by omega,h1⟩,x.level,?_,iR,D (n-(k+1)) _ _ (by omega) ⟨k+1,rfl,by omega,?_,⟨some x,q,by omega,fun _=>by rw[Nat.add_sub_cancel];exact u.symm⟩,fun j y hj b=>?_,H7.drop.drop⟩⟩
   ·have:=ao.ld u hs G yInt (j:=0) rfl
    rw[Int.toNat_natCast];exact this
   ·have e:l.take (k+1)=l.take k++[x]:=by rw[take_succ_eq_append_getElem R,(List.getElem?_eq_some_iff.1 u).2]
    have e2:deepest (l.take k++[x])=max (KQ 0 (l.take k)) x.level:=Ud _ 0 x;rw[e,e2];rfl
   ·by_cases e:j=k
    ·subst e;rw[u]at b;cases b;exact⟨ag,ak⟩
    ·exact i j y (by omega) b
 ·intro J hJ
  refine AB (fun g=>?_) (fun g=>hJ _ _ ⟨.inl ⟨by omega,rfl⟩,H⟩)
  have ap:0<k:=by omega
  obtain⟨y,sy,b,Y,_⟩:=F.at_ (k:=k-1) (by omega);have Z:=C.now.go H.drop.drew
  have ek:Int.toNat ((k:Int)-1)=k-1:=by omega
  have aq:=i (k-1) y (by omega) b;refine⟨iR,AA G ⟨⟨by omega,by omega⟩,y.level,?_,iR,iR,AA G ⟨⟨by omega,by omega⟩,y.x.kind,?_,hJ _ _ ⟨.inr ⟨y,ap,b,rfl⟩,H.drew⟩⟩⟩⟩
  ·rw[ek];exact Z.ld b Y G yInt (j:=0) rfl
  ·rw[ek,add_add];exact Z.ld b Y G yInt (j:=1) rfl
end
end Go.Proofs.YtljenkbpnioipaaGreat
namespace Go.Nod
theorem named_shift(l:List It)(b:Int):∀(n:Int),LD (Ar n b l) b=Ar n 0 l:=by
 induction l with
 |nil=>intro n;rfl
 |cons x l a=>
  intro n;have:=a (n+1);rw[LD]at this⊢;rw[Ar,Ar,map_cons,this];congr 2;show x.level+b-b=x.level+0;omega
section
variable{F:Fo}{p i l q:Int}{x:NX}{k:Fo}{A B:List Rw}{v:Int}
theorem Mid.Zp(h:Mid F p i l q x k A B v):(MX (flat F l) A.length).length=(tops k).length:=by rw[h.kids,TB]
end
theorem BN.rows{F:Fo}{T:Tr}(G:BN F T){i q:Int}{x:NX}{k:Fo}(h:AZ F 0 i=some (q,x,k)):∃A B v,Mid F 0 i 0 q x k A B v/\Fp T.L i=some A.length/\atR T.L i=some (A.length,⟨i,v,x⟩)/\v<40/\0<=v:=by
 rcases G.at_ i with⟨a,_⟩|⟨e,f,g,A,B,v,a,b,c,d⟩
 ·rw[h]at a;cases a
 ·rw[h]at a;cases a
  refine⟨A,B,v,b,c,d,?_,b.le⟩;have:=b.level;rw[G.fl]at this;exact G.deep _ this
theorem BN.noRow{F:Fo}{T:Tr}(G:BN F T){i:Int}(h:AZ F 0 i=none):Fp T.L i=none/\atR T.L i=none:=by
 rcases G.at_ i with⟨_,b,c⟩|⟨d,e,f,A,B,v,a,_⟩
 ·exact⟨c,b⟩
 ·rw[h]at a;cases a
end Go.Nod
namespace Go.Proofs.YtljenkbpnioipaaGreat
noncomputable section
open Go Go.Vc Go.Nod
theorem F8(F:Fo):Ac F=(tops F).headD 0:=by cases F<;>rfl
theorem Rq(i:Int)(f:Fo->Fo)(F:Fo):Ac (under i f F)=Ac F:=by rw[F8,F8,NS]
theorem gInsert_spec{f:List Nat}{b:Nat}{T:Tr}{w:World}(h:(AU f b T).ok w)(id at_:Int)(la:Option Addr)(n lc:Nat)(l:List It)(ss:List Sl3)(hA:Df f w la n l ss)(av:n<=140737488355328):
  Calls Tryz.prog 91 #[.pointer (some ⟨b,0,none⟩),.int .i64 id,.int .i64 at_,.slice la n lc] w fun e w'=>∃f',e=.returned (.tuple #[.int .i64 (T.insert id at_ l).2.1,.int .i64 (T.insert id at_ l).2.2])/\Hp f w w' [AU f' b (T.insert id at_ l).1]:=by
 apply gInsert.ok;unfold gInsert.vc;have H0:Hp f w w [AU f b T]:=Be h;have X:=hA.now.len;obtain⟨M,⟨F,D,mb,ws,hw,rfl⟩,H,hf⟩:=H0.unpack;have bw:=D.next
 have s:∀(w':World)(c:Int),Hp f w w' [AU f b T]->T.insert id at_ l=(T,0,c)->∃f',Ending.returned (.tuple #[.int .i64 0,.int .i64 c])=.returned (.tuple #[.int .i64 (T.insert id at_ l).2.1,.int .i64 (T.insert id at_ l).2.2])/\Hp f w w' [AU f' b (T.insert id at_ l).1]:=fun w' c H9 e=>⟨f,by rw[e],by rw[e];exact H9⟩
 refine AC (NK D.nodup hw H.std1 id) ?_;rintro e w1 ⟨rfl,⟨t,rfl⟩|⟨q,x,k,t,ac,rfl⟩|⟨q,x,k,Aw,y,Bw,t,ac,ba,rfl⟩⟩
 ·refine⟨_,_,rfl,AV (fun _=>s _ _ H0 (by rw[Tr.insert,(D.noRow t).2])) (fun e=>by omega)⟩
 ·obtain⟨A,B,v,hm,bb,u,hv,bc⟩:=D.rows t
  refine⟨_,_,rfl,AV (fun _=>s _ _ H0 (by rw[Tr.insert,u];dsimp only;rw[if_pos ac])) (fun e=>by omega)⟩
 obtain⟨A,B,v,hm,bb,u,hv,bc⟩:=D.rows t;have K:¬x.kind≠1:=fun h=>h ac
 have aw:(MX T.L A.length).length=(tops k).length:=by rw[<- D.fl];exact hm.Zp
 refine⟨_,_,rfl,AV (fun e=>by omega) (fun _=>AB (fun h1=>?_) (fun h1=>?_))⟩
 ·refine s _ _ H0 ?_
  rw[Tr.insert,u];dsimp only;rw[if_neg K,if_pos (.inl h1)]
 have a0:Asn.blk y.b (nodC y ⟨id,q,x,tops k⟩) 139∈treL b mb (Ac F) T.next ws++[]:=mem_append_left _ (Dv (p:=(y,⟨id,q,x,tops k⟩)) (by rw[ba];simp) (.head _));refine AA rfl ⟨_,_,_,by rw[add_lit];exact H.ld (o:=7) (cs:=nodC y ⟨id,q,x,tops k⟩) EQ4 nSI a0 rfl,AB (fun h2=>?_) (fun h2=>?_)⟩
 ·refine s _ _ H0 ?_
  have:((tops k).length:Int)<at_:=h2
  rw[Tr.insert,u];dsimp only;rw[if_neg K,if_pos (.inr (by rw[aw];exact this))]
 have bx:at_<=((tops k).length:Int):=Int.not_lt.1 h2
 have g:¬(at_<0\/((MX T.L A.length).length:Int)<at_):=by rw[aw];omega
 refine AC (gForest_spec la n lc l ss w1 ⟨fun W hW=>hA.rd W (hW.more (by simp)),hA.len,hA.sls,hA.small⟩ av) ?_;rintro _ w2 ⟨⟨d,rfl,hd⟩,Hf⟩;have ad:=H0.ext0 Hf;have H':=H.ext0 Hf;refine⟨_,_,rfl,AV (fun h3=>s _ _ ad ?_) (fun h3=>?_)⟩
 ·rw[Tr.insert,u];dsimp only;rw[if_neg K,if_neg g,if_pos h3]
 have O:EI l=0:=h3;have ae:¬EI l≠0:=fun h=>h O;have hd:=hd O;subst hd;obtain⟨N,af,al,b0,bd⟩:=forest_good O (v+1) T.next
 have am:l≠[]:=fun e=>by rw[EI,if_pos e]at O;cases O
 obtain⟨i1,x1,k1,bh⟩:∃i1 x1 k1,F=.cons i1 x1 k1 .nil:=by
  rcases D.one with e|⟨i1,x1,k1,e,_⟩
  ·rw[e]at t;cases t
  ·exact⟨i1,x1,k1,e⟩
 have G:∀j∈ids F,j≠0:=fun j hj=>by have:=D.pos j hj;omega
 have C:id∈ids F:=(Au F 0 id).1 (by rw[t];simp);refine AC (Y9 D.nodup G ⟨i1,x1,k1,bh⟩ hw H'.std1 t hm (by omega)) ?_;rintro _ w3 ⟨rfl,rfl⟩
 have b1:0<=deepest l/\deepest l<=l.length:=by
  refine⟨(UK l 0).1,?_⟩
  have a1:∀x∈l,x.level<=l.length:=fun x hx=>by
   have h9:Ea none l=0:=by rw[EI,if_neg am]at O;exact O
   have:=OM l none 0 h9 (Int.le_refl _) x hx;omega
  have bi:∀(l':List It)(d m:Int),d<=m->(∀x∈l',x.level<=m)->KQ d l'<=m:=by
   intro l'
   induction l' with
   |nil=>intro d m hd _;exact hd
   |cons y r ih=>
    intro d m hd hx;have:=hx y (.head _);exact ih (max d y.level) m (by omega) fun x bj=>hx x (.tail _ bj)
  exact bi l 0 _ (by omega) a1
 refine⟨_,rfl,iR,iR,AB (fun h4=>s _ _ ad ?_) (fun h4=>?_)⟩
 ·rw[Tr.insert,u];dsimp only;rw[if_neg K,if_neg g,if_neg ae,if_pos h4]
 have a2:MapAt (DF .i64) w3 mb (nodM ws):=H'.ok _ m1
 have ao:(nodM ws).length=T.L.length:=by rw[nodM,length_map,hw.len,BR D]
 have b2:=D.len;refine AA rfl ⟨some mb,H'.lo nMN,_,run_len_map D7.und a2,DD.2 (by rw[ao];omega),AB (fun h5=>s _ _ ad ?_) (fun h5=>?_)⟩
 ·rw[ao]at h5
  rw[Tr.insert,u];dsimp only;rw[if_neg K,if_neg g,if_neg ae,if_neg h4,if_pos (.inl (by omega))]
 rw[ao]at h5;refine AA rfl ⟨T.next,by rw[add_lit];exact H'.lo yInt,iR,AB (fun h6=>s _ _ ad ?_) (fun h6=>?_)⟩
 ·rw[Tr.insert,u];dsimp only;rw[if_neg K,if_neg g,if_neg ae,if_neg h4,if_pos (.inr (by omega))]
 have ap:¬(1000<T.L.length+l.length\/2147483647<T.next+l.length):=by omega
 refine AC (YF H'.std1 n (by omega) (by omega) (by omega)) ?_;rintro _ w5 ⟨za,zc,rfl,H7⟩;have H8:=H'.useL H7;rw[append_nil]at H8;refine⟨za,n,zc,rfl,?_⟩;obtain⟨zs,U⟩:∃zs:List Int,zs=(List.range n).map fun(k:Nat)=>T.next+(k:Int):=⟨_,rfl⟩;rw[<- U]at H8
 have a3:zs.length=l.length:=by rw[U];simp;omega
 have ag:∀z∈zs,T.next<=z/\z<T.next+n:=fun z hz=>by
  rw[U]at hz;obtain⟨k,hk,rfl⟩:=mem_map.1 hz;have:=List.mem_range.1 hk;omega
 have ah:∀x∈l,Ap x.x=0:=fun x hx=>by
  obtain⟨k,hk⟩:=List.getElem?_of_mem hx
  have h9:(flat N (v+1))[k]? =some ⟨T.next+k,x.level+(v+1),x.x⟩:=by rw[af,EX,hk];rfl
  exact IW N _ al _ (mem_of_getElem? h9)
 obtain⟨R,a4,bk,_⟩:=Dw F 0 id D.nodup t
 obtain⟨an,a5⟩:∃an:Nat,at_=an:=⟨at_.toNat,by omega⟩
 have Y:an<=(tops k).length:=by omega
 have a6:(ents F 0).map (·.id)=ids F:=Bz F 0
 have aa:(ids F).Perm (id::(ents k id++R).map (·.id)):=by
  have:=a4.map (·.id)
  rwa [a6]at this
 have b3:=Ja k
 have b4:(ids k).length<=(ids F).length:=by rw[hm.ids];simp;omega
 have b5:=BR D;refine AC (Xb (w:=w5) (H8.drop).std id at_ la n lc l ss za zc zs (fun W hW=>hA.rd W ((H8.drop).chgT hW)) (fun W hW=>?_) a3 am (by omega) (hA.att ah) (Yw af al) (fun e=>(G id C e).elim) ⟨id,q,x,tops k⟩ (ents k id++R) ?_ ?_ (fun z hz=>by have:=ag z hz;omega) ⟨by omega,by dsimp only;omega⟩ (by dsimp only;omega)) ?_
 ·exact Own.cells (show Own W 0 3 1 za n zc (AO zs)from Hp.stays H8 hW)
 ·refine .inr ⟨G id C,rfl,rfl,?_⟩
  rw[tops,insAt_nil,ents,nil_append];exact hw.trans a4
 ·rw[Ii,if_neg (G id C)]
  refine nodup_append.2 ⟨by rw[U];exact RZ _ _,aa.nodup_iff.1 D.nodup,fun a ha c hc e=>?_⟩;have h1:=ag a ha;have h2:=D.pos c (aa.mem_iff.2 hc);omega
 rintro _ w6 ⟨ak,J,a7,b6,rfl,hI,H9⟩;have a8:=(H8.drop).Xm H9
 have bl:flat J 0=Ar T.next 0 l:=by
  rw[hI.fl,X];exact Xz T.next l zs (by rw[U,X])
 have bm:J=N:=KW J N 0 (by
  have:=F9 N (v+1) (v+1);rw[af,named_shift,Int.sub_self]at this
  rw[bl,this])
 subst bm
 have Z:ids J=zs:=by
  rw[<- BH J 0,hI.fl,Vh (by rw[length_take,length_take];omega),take_of_length_le (by omega)]
 obtain⟨hE,aq⟩:(ak.map (·.2)).Perm (ents J id++ {(⟨id,q,x,tops k⟩:En)with kids:=EC (tops k) at_.toNat (tops J)}::(ents k id++R))/\a7=Ac F:=by
  rcases hI.ents with⟨h2,_⟩|⟨_,_,h3,h4⟩
  ·exact(G id C h2).elim
  ·exact⟨h4,h3⟩
 have ar:=D.put (n:=an) (N:=J) (next:=T.next+l.length) t hm ac Y al (by rw[Z,U];exact RZ _ _) (fun j hj bo=>by
  have h1:=ag j (by rw[<- Z];exact hj);have h2:=D.pos j bo
  omega) (fun r hr=>by have:=bd r hr;omega) (by rw[Z,a3];omega) (fun j hj=>by
  have:=ag j (by rw[<- Z];exact hj)
  omega) (by omega)
 have ab:=hm.laid Y J;rw[af,D.fl]at ab
 have a9:T.insert id at_ l=(⟨flat (under id (putAt an J) F) 0,T.next+l.length⟩,T.next,0):=by
  rw[Tr.insert,u];dsimp only;rw[if_neg K,if_neg g,if_neg ae,if_neg h4,if_neg ap,<- ab,a5,Int.toNat_natCast]
 have bp:DK (under id (putAt an J) F) ak:=by
  refine hE.trans (List.Perm.trans ?_ (bk (putAt an J)).symm);rw[UO Y,a5,Int.toNat_natCast];have h7:=OZ an J k id Y;refine List.Perm.trans ?_ ((h7.append_right R).cons _).symm;rw[append_assoc];exact perm_middle
 rw[a9];rw[aq,X,<- Rq id (putAt an J) F]at a8
 have bq:Hp f w1 w6 (treL b mb (Ac (under id (putAt an J) F)) (T.next+l.length) ak++[]):=by rw[append_nil];exact a8
 obtain⟨f',bv⟩:=bq.DJ (Q:=KH b ⟨flat (under id (putAt an J) F) 0,T.next+l.length⟩) ⟨_,ar,mb,ak,bp,rfl⟩;refine⟨_,rfl,f',?_,bv⟩
 have:zs.headD 0=T.next:=by
  obtain⟨x,r,e⟩:=List.exists_cons_of_ne_nil am;rw[U,X,e,length_cons,List.range_succ_eq_map];simp
 rw[this]
end
end Go.Proofs.YtljenkbpnioipaaGreat
namespace Go.Vc
theorem Hp.delI{P:Program}{B:List Nat}{w0 w w':World}{L:List Asn}{t d f:TypeId}{z:Value}{b:Nat}{k:IntKind}{al:List (Int×Value)}(T:MapT P (DF k) t d f z){c:Array TypeId}{ty:TypeId}(a:c[0]? =some t)(H:Hp B w0 w (.imap b k al::L))(e:Eqw w w'){x:Int}{G:World->Prop}
  (g:∀w1,Hp B w0 w1 (.imap b k (adel al x)::L)->G w1):∃w1,Del P c ty w' (.map (some b)) (.int k x) w1/\G w1:=by
 obtain⟨w1,h,i,j⟩:=Zy (ty:=ty) T a ((H.go e).ok _ (.head _)) x;exact⟨w1,h,g w1 ((H.go e).set j i fun k l=>.inl l)⟩
end Go.Vc
namespace Go.Nod
theorem VH:∀(l:List Int)(v:Int),v∈l->l.erase v=l.take (l.idxOf v)++l.drop (l.idxOf v+1)
 | [],v,h=>by cases h
 |x::r,v,h=>by
  by_cases e:x=v
  ·subst e;simp
  ·have a:(x==v)=false:=by simpa using e
   have c:v∈r:=(mem_cons.1 h).resolve_left fun h=>e h.symm;rw[List.erase_cons,a,List.idxOf_cons,a,cond_false,take_succ_cons,drop_succ_cons,if_neg (by simp),VH r v c];rfl
theorem WJ:∀(F G:Fo)(p i:Int),i∉ids F->AZ (app F G) p i=AZ G p i
 |.nil,G,p,i,_=>rfl
 |.cons j x k s,G,p,i,h=>by
  rw[ids,mem_cons,mem_append,not_or,not_or]at h
  have a:AZ k j i=none:=by
   cases h9:AZ k j i with
   |none=>rfl
   |some c=>exact(h.2.1 ((Au k j i).1 (by rw[h9];simp))).elim
  rw[app,AZ,if_neg (fun e=>h.1 e.symm),a];exact WJ s G p i h.2.2
end Go.Nod
namespace Go.Proofs.YtljenkbpnioipaaGreat
noncomputable section
open Go Go.Vc Go.Nod
theorem Xl{ws:List (NW×En)}{e:En}{R:List En}(c:(ws.map (·.2)).Perm (e::R)):∃A y Bw,ws=A++(y,e)::Bw:=by
 obtain⟨⟨y,f⟩,d,a⟩:=mem_map.1 (c.mem_iff.2 (.head _));dsimp only at a;subst a;obtain⟨A,B,h⟩:=append_of_mem d;exact⟨A,y,B,h⟩
theorem Ls{A Bw:List (NW×En)}{y y':NW}{e e':En}{R:List En}(h:((A++(y,e)::Bw).map (·.2)).Perm (e::R)):((A++(y',e')::Bw).map (·.2)).Perm (e'::R):=by
 rw[map_append,map_cons]at h⊢;exact List.perm_middle.trans (List.Perm.cons e' (List.perm_middle.symm.trans h).cons_inv)
theorem IK{B:List Nat}{w0 w:World}{b mb:Nat}{root next:Int}{A Bw:List (NW×En)}{p:NW×En}{X:List Asn}(H:Hp B w0 w (treL b mb root next (A++p::Bw)++X)):
  Hp B w0 w (nodL p++(.blk b (treC mb root next) 119::.imap mb .i64 (nodM (A++p::Bw))::(BX (A++Bw)++X))):=by
 have:=H.perm ((JW b mb root next A p Bw).append_right X);rw[append_assoc]at this;exact this
theorem Jn{B:List Nat}{w0 w:World}{b mb:Nat}{root next:Int}{A Bw:List (NW×En)}{y y':NW}{e e':En}{X:List Asn}(c:y'.b=y.b)(d:e'.id=e.id)
  (H:Hp B w0 w (nodL (y',e')++(.blk b (treC mb root next) 119::.imap mb .i64 (nodM (A++(y,e)::Bw))::(BX (A++Bw)++X)))):Hp B w0 w (treL b mb root next (A++(y',e')::Bw)++X):=by
 have a:=(JW b mb root next A (y',e') Bw).append_right X;rw[KT c d,append_assoc]at a;exact H.perm a.symm
section
variable{b mb:Nat}{root next:Int}{F:Fo}{ws:List (NW×En)}{w:World}
theorem dP(hn:(ids F).Nodup)(B:DK F ws)(Z:Std w (treL b mb root next ws)){i q:Int}{x:NX}{k:Fo}(C:AZ F 0 i=some (q,x,k)){r:En}{R:List En}(hr:r.id=q)(s:i∈r.kids)(hE:(ents F 0).Perm (⟨i,q,x,tops k⟩::(ents k i++r::R)))(ab:r.kids.length<=100000):
  Calls Tryz.prog 150 #[.pointer (some ⟨b,0,none⟩),.int .i64 i] w fun e w'=>∃ws',e=.returned (.tuple #[])/\(ws'.map (·.2)).Perm (⟨i,q,x,tops k⟩::(ents k i++ {r with kids:=r.kids.erase i}::R))/\nodM ws'=nodM ws/\Hp (feet (treL b mb root next ws)) w w' (treL b mb root next ws'):=by
 apply gCut.ok;unfold gCut.vc
 have H:Hp (feet (treL b mb root next ws)) w w.drew (treL b mb root next ws):=(Hp.CE Z).drew
 generalize feet (treL b mb root next ws)=BB at*
 have f:(ws.map (·.2)).Perm (r::(⟨i,q,x,tops k⟩::(ents k i++R))):=by
  refine(B.trans hE).trans ?_
  have:(⟨i,q,x,tops k⟩::(ents k i++r::R):List En)=(⟨i,q,x,tops k⟩::ents k i)++r::R:=rfl
  rw[this]
  exact perm_middle
 obtain⟨A1,t,B1,g,D⟩:=B.at_ hn C
 obtain⟨A,y,u,d⟩:=Xl f
 have j:aget (nodM ws) q=some (.pointer (some ⟨y.b,0,none⟩)):=(Ei (B.apart hn)).2 (mem_map.2 ⟨(y,r),by rw[d];simp,by rw[hr]⟩)
 have m1:Asn.blk t.b (nodC t ⟨i,q,x,tops k⟩) 139∈treL b mb root next ws:=Dv (p:=(t,⟨i,q,x,tops k⟩)) (by rw[g];simp) (.head _)
 have G:∀a∈nodL (y,r),a∈treL b mb root next ws:=fun a h=>Dv (p:=(y,r)) (by rw[d];simp) h
 refine AA rfl ⟨some mb,H.ld (o:=0) (cs:=treC mb root next) EQ4 nMN (.head _) rfl,AA rfl ⟨some mb,H.ld (o:=0) (cs:=treC mb root next) EQ4 nMN (.head _) rfl,_,H.lkI D7 EQ4 (.tail _ (.head _)) (by rw[D];rfl),AA rfl ⟨q,by rw[add_lit];exact H.ld (o:=1) (cs:=nodC t ⟨i,q,x,tops k⟩) EQ4 yInt m1 rfl,_,H.lkI D7 EQ4 (.tail _ (.head _)) (by rw[j];rfl),?_⟩⟩⟩
 have l:=H.ownA (a:=y.ka) (n:=r.kids.length) (c:=y.kc) (xs:=AO r.kids) (G _ (.tail _ (.tail _ (.head _))))
 have ad:(AO r.kids).length=r.kids.length:=VI _
 refine AA rfl ⟨_,_,_,by rw[add_lit];exact H.ld (o:=7) (cs:=nodC y r) EQ4 nSI (G _ (.head _)) rfl,?_⟩
 refine AC (lIdxI_spec y.ka r.kids.length y.kc r.kids i w.drew l.cells rfl (by simp only[maxLen];omega)) ?_
 rintro _ w2 ⟨rfl,rfl⟩
 rw[if_pos s]
 have J:r.kids.idxOf i<r.kids.length:=List.idxOf_lt_length_of_mem s
 refine⟨_,rfl,AA rfl ⟨_,_,_,by rw[add_lit];exact H.ld (o:=7) (cs:=nodC y r) EQ4 nSI (G _ (.head _)) rfl,DD.2 (by omega),?_⟩⟩
 rw[d]at H
 have H1:=IK (X:=[]) (by rw[append_nil];exact H)
 have T:=H1.perm (M:=.own 3 1 y.ka r.kids.length y.kc (AO r.kids)::.blk y.b (nodC y r) 139::.own 142 2 y.aa r.x.attrs.length y.ac (atC r.x.attrs)::(.blk b (treC mb root next) 119::.imap mb .i64 (nodM (A++(y,r)::u))::(BX (A++u)++[]))) (by
  refine AL fun ff gg K L j N=>?_
  simp only[nodL,j,L,K];omega)
 refine AC (lDelI_spec y.ka r.kids.length y.kc (r.kids.idxOf i) (AO r.kids) _ (T.ownA (.head _)) (MI _) J) ?_
 rintro _ w3 ⟨rfl,z⟩
 replace z:=T.Ba z
 have O:(AO r.kids).take (r.kids.idxOf i*1)++(AO r.kids).drop ((r.kids.idxOf i+1)*1)=AO (r.kids.erase i):=by
  rw[VH _ _ s,Nat.mul_one,Nat.mul_one]
  simp[AO,map_take,map_drop]
 have m:r.kids.length-1=(r.kids.erase i).length:=by rw[List.length_erase_of_mem s]
 rw[O]at z
 refine⟨_,_,_,rfl,AA rfl ?_⟩
 rw[add_lit]
 refine Hp.st (o:=7) z.Ae EQ4 nSI rfl rfl (by simp[nodC]) (cs':=nodC y {r with kids:=r.kids.erase i}) (by rw[m];rfl) fun w4 U=>?_
 refine⟨A++(y,{r with kids:=r.kids.erase i})::u,rfl,?_,?_,?_⟩
 ·rw[d]at f
  refine(Ls (y':=y) f).trans ?_
  have:(⟨i,q,x,tops k⟩::(ents k i++ {r with kids:=r.kids.erase i}::R):List En)=(⟨i,q,x,tops k⟩::ents k i)++ {r with kids:=r.kids.erase i}::R:=rfl
  rw[this]
  exact(perm_middle (l₁:=(⟨i,q,x,tops k⟩:En)::ents k i)).symm
 ·rw[d];exact KT rfl rfl
 ·rw[m]at U
  have Y:=Jn (b:=b) (mb:=mb) (root:=root) (next:=next) (A:=A) (Bw:=u) (y:=y) (e:=r) (y':=y) (e':= {r with kids:=r.kids.erase i}) (X:=[]) rfl rfl (U.perm (by
   refine AL fun ff gg K L j N=>?_
   simp only[nodL,j,L,K];omega))
  rw[append_nil]at Y
  exact Y
end
end
noncomputable section
open Go Go.Vc Go.Nod
theorem Hm{F:Fo}{T:Tr}(G:BN F T){i q:Int}{x:NX}{k:Fo}{A B:List Rw}{v:Int}(a:AZ F 0 i=some (q,x,k))(m:Mid F 0 i 0 q x k A B v):i=Ac F↔A.length=0:=by
 rw[G.top0 m a];rcases G.one with e|⟨j,y,b,e,_⟩
 ·rw[e]at a;cases a
 ·rw[e,Ac,tops,tops,mem_singleton]
def Fq(ws:List (NW×En))(zs:List Int):List (NW×En):=ws.filter fun p=> !decide (p.2.id∈zs)
theorem leftW_nil(a:List (NW×En)):Fq a []=a:=by simp[Fq]
theorem leftW_snoc(a:List (NW×En))(b:List Int)(z:Int):nodM (Fq a (b++[z]))=acut (nodM (Fq a b)) z:=by
 have e:Fq a (b++[z])=(Fq a b).filter fun p=> !decide (p.2.id=z):=by
  rw[Fq,Fq,List.filter_filter];congr 1;funext p;rw[Bool.eq_iff_iff];simp only[mem_append,mem_singleton,Bool.not_eq_true',Bool.and_eq_true,decide_eq_false_iff_not,not_or];exact⟨fun h=>⟨h.2,h.1⟩,fun h=>⟨h.2,h.1⟩⟩
 rw[e,nodM,nodM,acut,List.filter_map];rfl
theorem leftW_apart{a:List (NW×En)}(h:Ef (nodM a))(b:List Int):Ef (nodM (Fq a b)):=by
 have:(nodM (Fq a b)).Sublist (nodM a):=by
  rw[nodM,nodM];exact List.filter_sublist.map _
 exact h.sublist (this.map _)
theorem leftW_nods(a:List (NW×En))(b:List Int):∃X,(BX a).Perm (BX (Fq a b)++X):=by
 refine⟨BX (a.filter fun p=> !(!decide (p.2.id∈b))),?_⟩;rw[<- Ou];exact(List.filter_append_perm (fun p:NW×En=> !decide (p.2.id∈b)) a).symm.flatMap_right _
theorem gDelete_spec{f:List Nat}{b:Nat}{T:Tr}{w:World}(h:(AU f b T).ok w)(id:Int):
  Calls Tryz.prog 92 #[.pointer (some ⟨b,0,none⟩),.int .i64 id] w fun e w'=>∃f',e=.returned (.int .i64 (T.delete id).2)/\Hp f w w' [AU f' b (T.delete id).1]:=by
 apply gDelete.ok;unfold gDelete.vc;have H0:Hp f w w [AU f b T]:=Be h;obtain⟨M,⟨F,l,n,ws,hw,rfl⟩,H,hf⟩:=H0.unpack;have Y:∀(c:Int),T.delete id=(T,c)->∃f',Ending.returned (.int .i64 c)=.returned (.int .i64 (T.delete id).2)/\Hp f w w [AU f' b (T.delete id).1]:=fun c e=>⟨f,by rw[e],by rw[e];exact H0⟩;refine AA rfl ⟨some n,H.lo nMN,?_⟩
 cases i:AZ F 0 id with
 |none=>
  have p:=hw.none i;exact⟨none,false,H.NC D7 EQ4 m1 (by rw[p];rfl) (by rw[p];rfl),CU (x:=_) (Y _ (by rw[Tr.delete,(l.noRow i).2]))⟩
 |some z=>
 obtain⟨q,x,k⟩:=z;obtain⟨Aw,y,Bw,bd,p⟩:=hw.at_ l.nodup i;obtain⟨A,B,v,N,bh,am,hv,bi⟩:=l.rows i;refine⟨some ⟨y.b,0,none⟩,true,H.NC D7 EQ4 m1 (by rw[p];rfl) (by rw[p];rfl),BA (x:=_) (AA rfl ⟨Ac F,by rw[add_lit];exact H.lo yInt,AB (fun h1=>Y _ ?_) (fun h1=>?_)⟩)⟩
 ·rw[Tr.delete,am];dsimp only;rw[if_pos ((Hm l i N).1 h1)]
 have an:¬A.length=0:=fun e=>h1 ((Hm l i N).2 e);have t:id∉tops F:=fun hh=>an ((l.top0 N i).2 hh)
 have Z:T.delete id=(⟨flat (cutF id F) 0,T.next⟩,0):=by
  rw[Tr.delete,am];dsimp only;rw[if_neg an,<- N.cutE,l.fl]
 rcases Oq F 0 id l.nodup i with⟨ht,_⟩|⟨_,r,R,ar,av,hE,ab⟩
 ·exact(t ht).elim
 have bj:=BR l;have bc:=l.len;have bk:r.kids.length<=(ids F).length:=Hr F 0 r (hE.mem_iff.2 (.tail _ (mem_append_right _ (.head _))));refine AC (dP l.nodup hw H.std1 i ar av hE (by omega)) ?_;rintro _ w1 ⟨g,rfl,aa,hM,H1⟩;have H2:=H.useL H1;rw[append_nil]at H2;clear H1;refine⟨rfl,fun lb w2 aw=>?_⟩;have H3:=H2.nw aw;refine AC (Gj b id 0 w2) ?_;rintro _ w3 ⟨f0,f1,f2,rfl,Hb⟩;have H4:=H3.ext Hb;obtain⟨K,ac⟩:∃K,K=app (cutF id F) (.cons id x k .nil):=⟨_,rfl⟩
 have C:(ids K).Perm (ids F):=by
  rw[ac,Lm,N.XO,N.ids,ids,ids,append_nil];refine List.Perm.trans ?_ (perm_middle (l₁:=A.map (·.id))).symm;refine(perm_append_comm).trans (List.Perm.cons _ ?_);rw[<- append_assoc];have:(Nod.ids k++(A.map (·.id)++B.map (·.id))).Perm (A.map (·.id)++(Nod.ids k++B.map (·.id))):=perm_append_comm_assoc _ _ _;rw[append_assoc];exact this
 have G:(ids K).Nodup:=C.nodup_iff.2 l.nodup
 have hV:O1 K g:=by
  refine O1.of G ?_;have h7:=aa.map LH;rw[map_map]at h7;refine h7.trans ?_;rw[ac,UZ,map_append,ents,ents,append_nil];have h8:=ab.map LH
  have e1:((⟨id,q,x,tops k⟩::(ents k id++ {r with kids:=r.kids.erase id}::R):List En).map LH)=((⟨id,0,x,tops k⟩::ents k id:List En).map LH)++(({r with kids:=r.kids.erase id}::R:List En).map LH):=by simp[LH]
  rw[e1];exact(h8.symm.append_left _).trans perm_append_comm
 have ao:id∉ids (cutF id F):=fun hh=>((N.Ui l.nodup id).1 hh).2.1 rfl
 have ae:BO K id=flat (.cons id x k .nil) 0:=by
  rw[BO,ac,WJ _ _ _ _ ao,AZ,if_pos rfl]
 obtain⟨d,af⟩:∃d,d=(BO K id).map (·.id):=⟨_,rfl⟩
 have J:d=id::ids k:=by rw[af,ae,BH,ids,ids,append_nil]
 have a0:d.length=(BO K id).length:=by rw[af,length_map]
 have bl:=PP G id
 have a1:(ids K).length<=1000:=by rw[C.length_eq];omega
 refine⟨_,rfl,137,#[],_,rfl,⟨_,_,Tryz.func137,rfl⟩,?_⟩
 refine Iu (B:=f) (w0:=w) b n (Ac F) T.next g K G hV a1 id f0 f1 f2
  (fun j L=>∃a c,L=.blk lb [.slice a j c] 59::.own 3 1 a j c (AO (d.take j))::treL b n (Ac F) T.next g) (fun _=>False)
  (.blk lb [.slice none 0 0] 59::.own 3 1 none 0 0 []::treL b n (Ac F) T.next g) [.blk f2 [.int .i64 0] 3,.blk f1 [.int .i64 id] 3,.blk f0 [.pointer (some ⟨b,0,none⟩)] 49] w3
  ?_ m2 m1 (.head _) ⟨none,0,rfl⟩ ?_ ?_ ?_ (fun _ _ _ h=>h.elim)
 ·rintro j _ ⟨a,c,rfl⟩ u hu
  exact .tail _ (.tail _ hu)
 ·have H5:=H4.nilS 3 1
  refine H5.perm ?_;refine AL fun ff gg h0 hc p ag=>?_;simp only[p,hc,h0];omega
 ·rintro j r0 ap w4 T0 T1 _ a2 kn kr kx ⟨a,c,rfl⟩ H5 hb a3 _
  refine hb _ fun w5 H6=>?_;have ah:=(List.getElem?_eq_some_iff.1 ap).1;refine⟨a,j,c,H6.lo nSI,?_⟩;intro b2 w6 a4;have H7:=H6.nw a4;refine Hp.app MP (by omega) H7.BD EQ4 (Blk.src (P:=Tryz.prog) NF (H7.blk (.head _)) rfl rfl) (by simp only[maxLen];omega) (by omega) ?_;intro a' c' w7 H8;refine Hp.s1 H8.BD nSI (cs':=[.slice a' (j+1) c']) fun w8 H9=>?_;refine a3 w8 _ ⟨a',c',rfl⟩ ?_
  have O:d[j]? =some r0.id:=by rw[af,List.getElem?_map,ap];rfl
  have e:AO (d.take (j+1))=AO (d.take j)++[.int .i64 r0.id]:=by
   rw[take_succ_eq_append_getElem (List.getElem?_eq_some_iff.1 O).1,(List.getElem?_eq_some_iff.1 O).2];simp[AO]
  rw[e];exact H9.del2
 ·rintro D w4 _ ⟨a,c,rfl⟩ H5
  rw[<- a0,take_length]at H5;refine⟨a,d.length,c,H5.lo nSI,?_⟩
  have H6:Hp f w w4 (.imap n .i64 (nodM (Fq g (d.take 0)))::.own 3 1 a d.length c (AO d)::dA D::.blk b (treC n (Ac F) T.next) 119::BX g):=by
   rw[take_zero,leftW_nil];refine Hp.BP (R:=[.blk lb [.slice a d.length c] 59,.blk f2 [.int .i64 0] 3,.blk f1 [.int .i64 id] 3,.blk f0 [.pointer (some ⟨b,0,none⟩)] 49]) (H5.perm ?_);refine AL fun ff gg h0 hc p ag=>?_;simp only[treL,p,hc,h0];omega
  have a5:Ef (nodM g):=by rw[hM];exact hw.apart l.nodup
  refine AP.mk (fun m s w'=>∃j:Nat,m=d.length-j/\j<=d.length/\s=(j:Int)/\Hp f w w' (.imap n .i64 (nodM (Fq g (d.take j)))::.own 3 1 a d.length c (AO d)::dA D::.blk b (treC n (Ac F) T.next) 119::BX g)) d.length ⟨0,rfl,by omega,rfl,H6⟩ ?_;clear H5 H6;rintro m s w5 nx ⟨j,rfl,hj,rfl,H7⟩ a6;refine AB (fun h2=>?_) (fun h2=>?_)
  ·have ah:j<d.length:=by omega
   have O:(AO d)[j]? =some (.int .i64 d[j]):=by simp[AO,ah]
   obtain⟨ad,a7,a8⟩:=H7.ldO (w':=w5) (o:=j) EQ4 yInt m1 O;refine AA a7 ⟨⟨by omega,h2⟩,d[j],by rw[Int.toNat_natCast,Nat.mul_one];exact a8,AA rfl ⟨some n,H7.lo nMN,?_⟩⟩;refine Hp.delI D7 rfl H7 EQ4 fun w6 H8=>⟨iR,a6 (d.length-(j+1)) _ _ (by omega) ⟨j+1,rfl,by omega,rfl,?_⟩⟩;rw[UN (leftW_apart a5 _),<- leftW_snoc,<- take_succ_eq_append_getElem ah]at H8;exact H8
  ·have a9:j=d.length:=by omega
   subst a9;rw[take_length]at H7;have H8:=H7.BD;refine Hp.shut H8 fun w6 H9=>?_;obtain⟨X,hX⟩:=leftW_nods g d
   have aq:Hp f w w6 (treL b n (Ac F) T.next (Fq g d)++[]):=by
    rw[append_nil];refine Hp.BP (R:=.own 3 1 a d.length c (AO d)::X) (H9.perm ?_);refine AL fun ff gg h0 hc p ag=>?_;have:=ag _ _ hX;simp only[treL,p,hc,h0]at this⊢;omega
   have ak:Ac F=Ac (cutF id F):=by
    rcases l.one with e|⟨j,yy,kk,e,_⟩
    ·rw[e]at i;cases i
    ·rw[e]at t⊢
     rw[tops,tops,mem_singleton]at t;rw[cutF,if_neg (fun e=>t e.symm)];rfl
   rw[ak]at aq
   have ba:DK (cutF id F) (Fq g d):=by
    have e1:(Fq g d).map (·.2)=(g.map (·.2)).filter fun e=> !decide (e.id∈d):=by rw[Fq,List.filter_map];rfl
    have h7:=aa.filter fun e=> !decide (e.id∈d);show((Fq g d).map (·.2)).Perm _;rw[e1];refine h7.trans (List.Perm.trans (List.Perm.of_eq ?_) ab.symm)
    have U:∀e∈({r with kids:=r.kids.erase id}::R:List En),e.id∈ids (cutF id F):=fun e he=>by
     rw[<- Bz (cutF id F) 0];exact mem_map.2 ⟨e,ab.mem_iff.2 he,rfl⟩
    rw[filter_cons,if_neg (by rw[J];simp),List.filter_append]
    have h8:(ents k id).filter (fun e=> !decide (e.id∈d))=[]:=by
     rw[List.filter_eq_nil_iff];intro e he
     have:e.id∈ids k:=by rw[<- Bz k id];exact mem_map.2 ⟨e,he,rfl⟩
     rw[J];simp[this]
    rw[h8,nil_append,List.filter_eq_self];intro e he;have h9:=(N.Ui l.nodup e.id).1 (U e he);rw[J];simp[h9.2.1,h9.2.2]
   have al:=l.cut i N t;obtain⟨f',bb⟩:=aq.DJ (Q:=KH b ⟨flat (cutF id F) 0,T.next⟩) ⟨_,al,n,_,ba,rfl⟩;exact⟨f',by rw[Z],by rw[Z];exact bb⟩
end
end Go.Proofs.YtljenkbpnioipaaGreat
namespace Go.Nod
theorem Ro:∀(F:Fo)(p i j:Int){q t:Int}{x u:NX}{k f:Fo},(ids F).Nodup->AZ F p i=some (q,x,k)->AZ F p j=some (t,u,f)->j≠i->j∉ids k->AZ (cutF i F) p j=some (t,u,cutF i f)
 |.nil,p,i,j,q,t,x,u,k,f,_,h,_,_,_=>by cases h
 |.cons a y kk s,p,i,j,q,t,x,u,k,f,hn,h,hj,hji,hjk=>by
  rw[ids,nodup_cons,nodup_append]at hn;obtain⟨w,g,m,z⟩:=hn;rw[AZ]at h;rw[cutF];split at h
  ·rename_i e
   cases h;rw[if_pos e];subst e;rw[AZ,if_neg (fun e=>hji e.symm)]at hj
   have H:AZ kk a j=none:=by
    cases h9:AZ kk a j with
    |none=>rfl
    |some J=>exact(hjk ((Au kk a j).1 (by rw[h9];simp))).elim
   rw[H]at hj;dsimp only at hj;have C:j∈ids s:=(Au s p j).1 (by rw[hj];simp)
   have c:a∉ids f:=fun l=>by
    obtain⟨A,B,v,b⟩:=Bo s p j 0 m hj
    have:a∈ids s:=by rw[b.ids];simp[l]
    exact w (mem_append_right _ this)
   rw[hj,Fa f c]
  ·rename_i e
   rw[if_neg e];rw[AZ]at hj⊢;split at hj
   ·rename_i D
    cases hj;rw[if_pos D]
   ·rename_i D
    rw[if_neg D];split at h
    ·rename_i M o
     cases h;have K:i∈ids kk:=(Au kk a i).1 (by rw[o];simp);split at hj
     ·rename_i L d
      cases hj;rw[Ro kk a i j g o d hji hjk]
     ·rename_i d
      have G:AZ (cutF i kk) a j=none:=by
       cases h9:AZ (cutF i kk) a j with
       |none=>rfl
       |some J=>
        obtain⟨A,B,v,b⟩:=Bo kk a i 0 g o;have:=(b.Ui g j).1 ((Au (cutF i kk) a j).1 (by rw[h9];simp));exact((Au kk a j).2 this.1 d).elim
      have C:j∈ids s:=(Au s p j).1 (by rw[hj];simp);have r:i∉ids s:=fun l=>z i K i l rfl
      have c:i∉ids f:=fun l=>by
       obtain⟨A,B,v,b⟩:=Bo s p j 0 m hj;exact r (by rw[b.ids];simp[l])
      rw[G,Fa s r,hj,Fa f c]
    ·rename_i o
     have n:i∉ids kk:=fun l=>(Au kk a i).2 l o;split at hj
     ·rename_i L d
      cases hj
      have c:i∉ids f:=fun l=>by
       obtain⟨A,B,v,b⟩:=Bo kk a j 0 g d;exact n (by rw[b.ids];simp[l])
      rw[Fa kk n,d,Fa f c]
     ·rename_i d
      rw[Fa kk n,d];exact Ro s p i j m h hj hji hjk
theorem Y6:∀(F:Fo)(p i:Int),(ids F).Nodup->i∈tops F->∃x k,AZ F p i=some (p,x,k)
 |.cons j y k s,p,i,hn,h=>by
  rw[ids,nodup_cons,nodup_append]at hn;rw[tops]at h;rw[AZ];by_cases e:j=i
  ·exact⟨y,k,by rw[if_pos e]⟩
  ·have a:=(mem_cons.1 h).resolve_left fun b=>e b.symm
   have c:AZ k j i=none:=by
    cases h9:AZ k j i with
    |none=>rfl
    |some d=>exact(hn.2.2.2 i ((Au k j i).1 (by rw[h9];simp)) i (Ru s i a) rfl).elim
   rw[if_neg e,c];exact Y6 s p i hn.2.2.1 a
theorem kid_par{F:Fo}{p i j q e:Int}{x f:NX}{k b:Fo}(hn:(ids F).Nodup)(g:AZ F p i=some (q,x,k))(d:AZ F p j=some (e,f,b))(h:i∈tops b):q=j:=by
 obtain⟨A,B,v,a⟩:=Bo F p j 0 hn d
 have c:(ids b).Nodup:=by
  have:=hn;rw[a.ids,nodup_append,nodup_cons,nodup_append]at this;exact this.2.1.2.1
 obtain⟨m,n,l⟩:=Y6 b j i c h;have:=look_in F p j i hn d l;rw[g]at this;cases this;rfl
theorem seg_mem{A S B:List Rw}{p:Nat}{r:Rw}(hn:((A++(S++B)).map (·.id)).Nodup)(h:(A++(S++B))[p]? =some r):(A.length<=p/\p<A.length+S.length)↔r.id∈S.map (·.id):=by
 constructor
 ·rintro⟨c,f⟩
  rw[List.getElem?_append_right c,List.getElem?_append_left (by omega)]at h;exact mem_map.2 ⟨r,mem_of_getElem? h,rfl⟩
 ·intro a
  rw[map_append,map_append,nodup_append,nodup_append]at hn;obtain⟨_,⟨_,_,d⟩,e⟩:=hn;refine⟨Nat.not_lt.1 fun b=>?_,Nat.not_le.1 fun b=>?_⟩
  ·rw[List.getElem?_append_left b]at h
   exact e r.id (mem_map.2 ⟨r,mem_of_getElem? h,rfl⟩) r.id (mem_append_left _ a) rfl
  ·rw[List.getElem?_append_right (by omega),List.getElem?_append_right (by omega)]at h
   exact d r.id a r.id (mem_map.2 ⟨r,mem_of_getElem? h,rfl⟩) rfl
def DY(d:Int)(l:List Rw):Int:=l.foldl (fun d r=>max d r.level) d
theorem topLev_snoc(l:List Rw)(d:Int)(r:Rw):DY d (l++[r])=max (DY d l) r.level:=by simp[DY]
theorem PD:∀(l:List Rw)(d m:Int),m<=DY d l↔m<=d\/∃r∈l,m<=r.level
 | [],d,m=>by simp[DY]
 |x::l,d,m=>by
  have a:=PD l (max d x.level) m;have e:DY d (x::l)=DY (max d x.level) l:=rfl;rw[e,a];simp only[mem_cons,exists_eq_or_imp];constructor
  ·rintro(h|h)
   ·by_cases b:m<=d
    ·exact .inl b
    ·exact .inr (.inl (by omega))
   ·exact .inr (.inr h)
  ·rintro(h|h|h)
   ·exact .inl (by omega)
   ·exact .inl (by omega)
   ·exact .inr h
theorem flat_up(F:Fo)(d:Int):flat F d=(flat F 0).map fun r=> {r with level:=r.level+d}:=by
 have:=F9 F 0 (-d);rw[show(0:Int)- -d=d by omega]at this;rw[<- this,LD];refine List.map_congr_left fun r _=>?_;rw[show r.level- -d=r.level+d by omega]
theorem YG(i:Int)(x:NX)(k s:Fo)(d m:Int):(∃r∈flat (.cons i x k s) d,m<=r.level)↔m<=d+DY 0 (flat (.cons i x k s) 0):=by
 have h:=PD (flat (.cons i x k s) 0) 0 (m-d);rw[flat_up _ d];constructor
 ·rintro⟨r,e,c⟩
  obtain⟨a,b,rfl⟩:=mem_map.1 e;dsimp only at c;have:=h.2 (.inr ⟨a,b,by omega⟩);omega
 ·intro c
  rcases h.1 (by omega)with f|⟨a,b,f⟩
  ·exact⟨_,mem_map.2 ⟨⟨i,0,x⟩,by rw[flat];exact .head _,rfl⟩,by dsimp only;omega⟩
  ·exact⟨_,mem_map.2 ⟨a,b,rfl⟩,by dsimp only;omega⟩
end Go.Nod
namespace Go.Proofs.YtljenkbpnioipaaGreat
noncomputable section
open Go Go.Vc Go.Nod
theorem nErr:Scl Tryz.prog 41:=BK (by kernel_rfl)
theorem Za{f:List Nat}{b mb:Nat}{F:Fo}{T:Tr}{a:List (NW×En)}{w w':World}{X:List Asn}(c:BN F T)(d:DK F a)(H:Hp f w w' (treL b mb (Ac F) T.next a++X)):∃e,Hp f w w' [AU e b T]:=by
 have g:Hp f w w' (treL b mb (Ac F) T.next a++[]):=by rw[append_nil];exact H.BP
 exact g.DJ (Q:=KH b T) ⟨F,c,mb,a,d,rfl⟩
theorem Xc{F:Fo}{a:List (NW×En)}(hn:(ids F).Nodup)(d:DK F a)(i:Int):∃e:Option Addr,(aget (nodM a) i).getD (.pointer none)=.pointer e/\((aget (nodM a) i).isSome=true↔AZ F 0 i≠none)/\
  ∀{q:Int}{x:NX}{k:Fo},AZ F 0 i=some (q,x,k)->∃A y B,a=A++(y,⟨i,q,x,tops k⟩)::B/\e=some ⟨y.b,0,none⟩/\aget (nodM a) i=some (.pointer (some ⟨y.b,0,none⟩)):=by
 cases hl:AZ F 0 i with
 |none=>
  have:=d.none hl;exact⟨none,by rw[this];rfl,by rw[this];simp,fun h=>by cases h⟩
 |some z=>
  obtain⟨q,x,k⟩:=z;obtain⟨A,y,B,f,c⟩:=d.at_ hn hl;refine⟨some ⟨y.b,0,none⟩,by rw[c];rfl,by rw[c];simp,fun h=>?_⟩;cases h;exact⟨A,y,B,f,rfl,c⟩
theorem ents_same{F:Fo}(hn:(ids F).Nodup){a c:En}(d:a∈ents F 0)(hc:c∈ents F 0)(e:a.id=c.id):a=c:=by
 have h:((ents F 0).map (·.id)).Nodup:=by rw[Bz];exact hn
 obtain⟨A,B,b⟩:=append_of_mem d;rw[b,map_append,map_cons,nodup_append,nodup_cons]at h;rw[b]at hc;rcases mem_append.1 hc with hc|hc
 ·exact(h.2.2 _ (mem_map.2 ⟨c,hc,rfl⟩) _ (.head _) e.symm).elim
 ·rcases mem_cons.1 hc with hc|hc
  ·exact hc.symm
  ·exact(h.2.1.1 (mem_map.2 ⟨c,hc,e.symm⟩)).elim
theorem eP{T:Tr}{id to at_:Int}(h:atR T.L id=none\/atR T.L to=none):T.move id to at_=(T,60):=by
 unfold Tr.move;split
 ·rename_i a b
  rcases h with h|h
  ·rw[h]at a;cases a
  ·rw[h]at b;cases b
 ·rfl
theorem gMove_spec{f:List Nat}{b:Nat}{T:Tr}{w:World}(h:(AU f b T).ok w)(id to at_:Int):
  Calls Tryz.prog 93 #[.pointer (some ⟨b,0,none⟩),.int .i64 id,.int .i64 to,.int .i64 at_] w fun e w'=>∃f',e=.returned (.int .i64 (T.move id to at_).2)/\Hp f w w' [AU f' b (T.move id to at_).1]:=by
 apply gMove.ok;unfold gMove.vc;have H0:Hp f w w [AU f b T]:=Be h;obtain⟨M,⟨F,l,C,ws,hw,rfl⟩,H,hf⟩:=H0.unpack;rw[append_nil]at H;have U:=l.nodup;intro pb w1 b1;have H1:=H.nw b1;intro Y w2 b2;have H2:=H1.nw b2;clear H H1 b1 b2 H0
 have bi:∀{T':Tr}{F':Fo}{Z:List (NW×En)}{X:List Asn}{w':World}{c c0:Int}{G:World->Prop},BN F' T'->DK F' Z->T.move id to at_=(T',c)->Hp f w w' (.blk Y [.int .i64 c0] 41::(X++treL b C (Ac F') T'.next Z))->
   (∀w3,Hp f w w3 (.blk Y [.int .i64 c] 41::(X++treL b C (Ac F') T'.next Z))->G w3)->∃w3,St Tryz.prog 41 w' ⟨Y,0,none⟩ (.int .i64 c) w3/\G w3:=fun _ _ _ H3 kk=>Hp.st (o:=0) H3 EQ4 nErr rfl rfl (by simp) rfl kk
 have al:∀{T':Tr}{F':Fo}{Z:List (NW×En)}{X:List Asn}{w':World}{c:Int},BN F' T'->DK F' Z->T.move id to at_=(T',c)->Hp f w w' (.blk Y [.int .i64 c] 41::(X++treL b C (Ac F') T'.next Z))->
   ∃i,Ld Tryz.prog 41 w' ⟨Y,0,none⟩ (.int .i64 i)/\∃f',Ending.returned (.int .i64 i)=.returned (.int .i64 (T.move id to at_).2)/\Hp f w w' [AU f' b (T.move id to at_).1]:=fun{T' F' Z X w' c} dc dd e H3=>by
  refine⟨c,H3.lo nErr,?_⟩;obtain⟨f',H4⟩:=Za (X:=X) dc dd (H3.drop.perm perm_append_comm);exact⟨f',by rw[e],by rw[e];exact H4⟩
 obtain⟨pv,de,b3,dg⟩:=Xc U hw id;obtain⟨qv,dj,b4,dk⟩:=Xc U hw to;have bj:∀{W:World},Eqw w2 W->Ld Tryz.prog 117 W ⟨b,0,none⟩ (.map (some C)):=fun he=>H2.ld (o:=0) (cs:=treC C (Ac F) T.next) he nMN m2 rfl;refine AA rfl ⟨_,bj EQ4,pv,(aget (nodM ws) id).isSome,H2.NC D7 EQ4 m3 de rfl,AA rfl ⟨_,bj EQ4,to,H2.lo yInt,qv,(aget (nodM ws) to).isSome,H2.NC D7 EQ4 m3 dj rfl,?_⟩⟩;refine Am.mk (fun s w'=>s=dec (AZ F 0 id=none\/AZ F 0 to=none)/\Hp f w w' (.blk Y [.int .i64 0] 41::([.blk pb [.int .i64 to] 3]++treL b C (Ac F) T.next ws))) ?_ ?_;rotate_left
 ·intro J hJ
  refine Gp (fun h1=>hJ _ _ ⟨CZ (.inl ?_),H2.drew⟩) (fun h1=>hJ _ _ ⟨?_,H2.drew⟩)
  ·exact Classical.byContradiction fun h2=>by rw[b3.2 h2]at h1;cases h1
  ·have h2:=b3.1 h1
   cases hq:(aget (nodM ws) to).isSome with
   |true=>exact Bf fun h3=>h3.elim h2 (b4.1 hq)
   |false=>exact CZ (.inr (Classical.byContradiction fun h3=>by rw[b4.2 h3]at hq;cases hq))
 clear H2 bj;rintro _ w3 ⟨rfl,H3⟩;refine br_d (fun h1=>bi l hw ?_ H3 fun w4 H4=>al l hw ?_ H4) (fun h1=>?_)
 ·exact eP (h1.imp (fun h=>(l.noRow h).2) fun h=>(l.noRow h).2)
 ·exact eP (h1.imp (fun h=>(l.noRow h).2) fun h=>(l.noRow h).2)
 obtain⟨⟨q,x,k⟩,t⟩:∃z,AZ F 0 id=some z:=Option.ne_none_iff_exists'.1 fun e=>h1 (.inl e);obtain⟨⟨q2,N,k2⟩,O⟩:∃z,AZ F 0 to=some z:=Option.ne_none_iff_exists'.1 fun e=>h1 (.inr e);obtain⟨Aw,y,Bw,dl,rfl,dn⟩:=dg t;obtain⟨ep,y2,eq,b6,rfl,b7⟩:=dk O;obtain⟨A,B,v,hm,er,dp,hv,es⟩:=l.rows t;obtain⟨A2,B2,v2,ao,ei,b8,et,ej⟩:=l.rows O;have my:∀a∈nodL (y,(⟨id,q,x,tops k⟩:En)),a∈treL b C (Ac F) T.next ws:=fun a ha=>Dv (p:=(y,⟨id,q,x,tops k⟩)) (by rw[dl];simp) ha;have bk:∀a∈nodL (y2,(⟨to,q2,N,tops k2⟩:En)),a∈treL b C (Ac F) T.next ws:=fun a ha=>Dv (p:=(y2,⟨to,q2,N,tops k2⟩)) (by rw[b6];simp) ha;have mt:∀{a:Asn},a∈treL b C (Ac F) T.next ws->a∈(Asn.blk Y [.int .i64 0] 41::([.blk pb [.int .i64 to] 3]++treL b C (Ac F) T.next ws)):=fun h=>.tail _ (.tail _ h)
 have g:T.move id to at_=if A.length=0 then((T,62):Tr×Int)else if N.kind≠1 then(T,68)else if A.length<=A2.length/\A2.length<endR T.L A.length then(T,61)
  else match Fp (CY T.L A.length) to with
   |none=>(T,60)
   |some p'=>
    if at_<0\/((MX (CY T.L A.length) p').length:Int)<at_ then(T,69)
    else if∃x∈LD (segR T.L A.length) (v-v2-1),40<=x.level then(T,65)
    else(⟨VG (CY T.L A.length) (TZ (CY T.L A.length) p' at_.toNat) (LD (segR T.L A.length) (v-v2-1)),T.next⟩,0):=by
  simp only[Tr.move,dp,b8];rfl
 refine AA rfl ⟨Ac F,by rw[add_lit];exact H3.ld (o:=1) (cs:=treC C (Ac F) T.next) EQ4 yInt (mt (.head _)) rfl,AB (fun h2=>?_) (fun h2=>?_)⟩
 ·have hA:=(Hm l t hm).1 h2
  rw[if_pos hA]at g;exact bi l hw g H3 fun w4 H4=>al l hw g H4
 have b9:¬A.length=0:=fun e=>h2 ((Hm l t hm).2 e);rw[if_neg b9]at g;refine AA rfl ⟨N.kind,by rw[add_lit];exact H3.ld (o:=2) (cs:=nodC y2 ⟨to,q2,N,tops k2⟩) EQ4 yInt (mt (bk _ (.head _))) rfl,AV (fun h3=>?_) (fun h3=>?_)⟩
 ·rw[if_pos h3]at g
  exact bi l hw g H3 fun w4 H4=>al l hw g H4
 have dq:¬N.kind≠1:=fun h=>h h3;rw[if_neg dq]at g;have bl:id∉tops F:=fun hh=>b9 ((l.top0 hm t).2 hh);have ds:=BR l;have ca:=l.len;obtain⟨rows,ae⟩:∃rows,rows=BO F id:=⟨_,rfl⟩
 have ab:rows=flat (.cons id x k .nil) 0:=by rw[ae,BO,t]
 have bb:rows.map (·.id)=id::ids k:=by rw[ab,BH,ids,ids,append_nil]
 have bc:(A.length<=A2.length/\A2.length<endR T.L A.length)↔to∈rows.map (·.id):=by
  have e1:T.L=A++(flat (.cons id x k .nil) v++B):=by rw[<- l.fl,hm.fl,flat,flat,append_nil,cons_append]
  have dt:((A++(flat (.cons id x k .nil) v++B)).map (·.id)).Nodup:=by rw[<- e1,<- l.fl,BH];exact U
  have cb:(A++(flat (.cons id x k .nil) v++B))[A2.length]? =some ⟨to,v2,N⟩:=by rw[<- e1,<- l.fl];exact ao.here
  have cc:endR T.L A.length=A.length+(flat (.cons id x k .nil) v).length:=by
   rw[<- l.fl,hm.endN,BM,ids,ids,append_nil,length_cons];omega
  rw[cc,seg_mem dt cb,BH,ab,BH]
 intro db w4 cd;have H4:=H3.nw cd;refine Hp.s1 H4 yInt (cs':=[.int .i64 0]) fun w5 H5=>?_;clear H3 H4 cd;refine AC (Gj b id 0 w5) ?_;rintro _ w6 ⟨f0,f1,f2,rfl,Hb⟩;replace H5:=H5.ext Hb;have ew:=PP U id;refine⟨_,rfl,137,#[],_,rfl,⟨_,_,Tryz.func137,rfl⟩,?_⟩
 refine Iu (B:=f) (w0:=w) b C (Ac F) T.next ws F U (hw.v U) (by omega) id f0 f1 f2
  (fun j L=>(∀r∈rows.take j,r.id≠to)/\L=.blk db [.int .i64 (DY 0 (rows.take j))] 3::.blk Y [.int .i64 0] 41::.blk pb [.int .i64 to] 3::treL b C (Ac F) T.next ws)
  (fun L=>to∈rows.map (·.id)/\∃d,L=.blk db [.int .i64 d] 3::.blk Y [.int .i64 61] 41::.blk pb [.int .i64 to] 3::treL b C (Ac F) T.next ws)
  (.blk db [.int .i64 0] 3::.blk Y [.int .i64 0] 41::.blk pb [.int .i64 to] 3::treL b C (Ac F) T.next ws) [.blk f2 [.int .i64 0] 3,.blk f1 [.int .i64 id] 3,.blk f0 [.pointer (some ⟨b,0,none⟩)] 49] w6
  ?_ m2 m1 (.head _) ⟨by simp,rfl⟩ ?_ ?_ ?_ ?_
 ·rintro j _ ⟨_,rfl⟩ u hu
  exact .tail _ (.tail _ (.tail _ hu))
 ·exact H5.perm perm_append_comm
 ·rintro j r hr w7 T0 T1 _ du kn kr kx ⟨a5,rfl⟩ H6 hb dv dx
  rw[<- ae]at hr;have ce:=(List.getElem?_eq_some_iff.1 hr).1;refine hb _ fun w8 H7=>⟨to,H7.lo yInt,AB (fun h4=>?_) (fun h4=>?_)⟩
  ·refine Hp.s1 H7.Ae nErr (cs':=[.int .i64 61]) fun w9 H8=>dx w9 _ ⟨mem_map.2 ⟨r,mem_of_getElem? hr,h4⟩,_,rfl⟩ H8.Ae
  ·refine⟨_,H7.lo yInt,Hp.st (o:=0) H7 EQ4 yInt rfl rfl (by simp) (cs':=[.int .i64 (DY 0 (rows.take (j+1)))]) ?_ fun w9 H8=>dv w9 _ ⟨fun r2 af=>?_,rfl⟩ H8⟩
   ·rw[take_succ_eq_append_getElem ce,(List.getElem?_eq_some_iff.1 hr).2,topLev_snoc];rfl
   ·rw[take_succ_eq_append_getElem ce,(List.getElem?_eq_some_iff.1 hr).2]at af
    rcases mem_append.1 af with af|af
    ·exact a5 r2 af
    ·rw[mem_singleton.1 af];exact h4
 rotate_left
 ·rintro D w7 _ ⟨dy,d,rfl⟩ H6
  rw[if_pos (bc.2 dy)]at g;refine Hp.shut H6 fun w8 H7=>?_
  have H8:Hp f w w8 (.blk Y [.int .i64 61] 41::(([.blk db [.int .i64 d] 3,.blk pb [.int .i64 to] 3,.blk f2 [.int .i64 0] 3,.blk f1 [.int .i64 id] 3,.blk f0 [.pointer (some ⟨b,0,none⟩)] 49]:List Asn)++treL b C (Ac F) T.next ws)):=H7.perm (by
   refine AL fun ff gg h0 hc ha ap=>?_
   simp only[ha,hc,h0];omega)
  exact al l hw g H8
 ·rintro D w7 _ ⟨a5,rfl⟩ H6
  have dz:(BO F id).length=rows.length:=by rw[ae]
  rw[dz,take_length]at a5 H6
  have aq:to∉rows.map (·.id):=fun hh=>by
   obtain⟨r,hr,e⟩:=mem_map.1 hh;exact a5 r hr e
  rw[if_neg (fun h=>aq (bc.1 h))]at g;have d0:to≠id:=fun e=>aq (by rw[bb,e];exact .head _);have d1:to∉Nod.ids k:=fun e=>aq (by rw[bb];exact .tail _ e);have ag:=Ro F 0 id to U t O d0 d1;have bm:=l.cut t hm bl;obtain⟨A3,B3,v3,ar,cf,ek,ex,el⟩:=bm.rows ag;obtain⟨rfl,_⟩:=hm.ZH U ao ar
  have cg:CY T.L A.length=flat (cutF id F) 0:=by rw[<- l.fl];exact hm.cutE
  have bo:Fp (CY T.L A.length) to=some A3.length:=by rw[cg];exact cf
  rw[bo]at g;dsimp only at g;obtain⟨n,ch⟩:∃n,n=cutF id k2:=⟨_,rfl⟩;rw[<- ch]at ag ar
  have bp:tops n=(tops k2).erase id:=by rw[ch,Ku]
  have ci:(MX (CY T.L A.length) A3.length).length=(tops n).length:=by rw[cg];exact ar.Zp
  rw[ci]at g
  rcases Oq F 0 id U t with⟨ht,_⟩|⟨_,r,R,cj,bq,hE,d2⟩
  ·exact(bl ht).elim
  have ey:r.kids.length<=(Nod.ids F).length:=Hr F 0 r (hE.mem_iff.2 (.tail _ (mem_append_right _ (.head _))))
  have em:(tops k2).length<=(Nod.ids F).length:=by
   have h1:=Ja k2
   have h2:(Nod.ids k2).length<=(Nod.ids F).length:=by rw[ao.ids];simp;omega
   omega
  have bd:q=to↔id∈tops k2:=by
   constructor
   ·intro e
    obtain⟨R2,d3,_⟩:=Dw F 0 to U O;have m1:r∈ents F 0:=hE.mem_iff.2 (.tail _ (mem_append_right _ (.head _)));have m2:(⟨to,q2,N,tops k2⟩:En)∈ents F 0:=d3.mem_iff.2 (.head _);have:=ents_same U m1 m2 (by rw[cj,e]);rw[this]at bq;exact bq
   ·exact kid_par U t O
  have H7:=H6.perm (M:=treL b C (Ac F) T.next ws++[dA D,.blk db [.int .i64 (DY 0 rows)] 3,.blk Y [.int .i64 0] 41,.blk pb [.int .i64 to] 3,.blk f2 [.int .i64 0] 3,.blk f1 [.int .i64 id] 3,.blk f0 [.pointer (some ⟨b,0,none⟩)] 49]) (by
   refine AL fun ff gg h0 hc ha ap=>?_
   simp only[ha,hc,h0];omega)
  clear H6;have ck:∀{W:World},Eqw w7 W->Ld Tryz.prog 59 W ⟨y2.b,7,none⟩ (.slice y2.ka (tops k2).length y2.kc):=fun he=>H7.ld (o:=7) (cs:=nodC y2 ⟨to,q2,N,tops k2⟩) he nSI (mem_append_left _ (bk _ (.head _))) rfl;refine AA rfl ⟨_,_,_,by rw[add_lit];exact ck EQ4,?_⟩
  have av:∀{c:Int}{w8:World},T.move id to at_=(T,c)->Hp f w w8 (treL b C (Ac F) T.next ws++[dA D,.blk db [.int .i64 (DY 0 rows)] 3,.blk Y [.int .i64 0] 41,.blk pb [.int .i64 to] 3,.blk f2 [.int .i64 0] 3,.blk f1 [.int .i64 id] 3,.blk f0 [.pointer (some ⟨b,0,none⟩)] 49])->
    ∃w9,St Tryz.prog 41 w8 ⟨Y,0,none⟩ (.int .i64 c) w9/\∃aw,FZ w9 D aw/\∃i,Ld Tryz.prog 41 aw ⟨Y,0,none⟩ (.int .i64 i)/\∃f',Ending.returned (.int .i64 i)=.returned (.int .i64 (T.move id to at_).2)/\Hp f w aw [AU f' b (T.move id to at_).1]:=fun{c w8} e H8=>by
   have H9:Hp f w w8 (.blk Y [.int .i64 0] 41::(dA D::([.blk db [.int .i64 (DY 0 rows)] 3,.blk pb [.int .i64 to] 3,.blk f2 [.int .i64 0] 3,.blk f1 [.int .i64 id] 3,.blk f0 [.pointer (some ⟨b,0,none⟩)] 49]++treL b C (Ac F) T.next ws))):=H8.perm (by
    refine AL fun ff gg h0 hc ha ap=>?_
    simp only[ha,hc,h0];omega)
   refine Hp.s1 H9 nErr (cs':=[.int .i64 c]) fun w9 a6=>?_;refine Hp.shut a6.Ae fun aw a7=>?_;exact al l hw e a7
  refine Am.mk (fun s w'=>s=((tops n).length:Int)/\w'=w7.drew) ?_ ?_;rotate_left
  ·intro J hJ
   refine AA rfl ⟨q,by rw[add_lit];exact H7.ld (o:=1) (cs:=nodC y ⟨id,q,x,tops k⟩) EQ4 yInt (mem_append_left _ (my _ (.head _))) rfl,to,H7.ld (o:=0) (cs:=[.int .i64 to]) EQ4 yInt (mem_append_right _ m3) rfl,AB (fun h4=>?_) (fun h4=>?_)⟩
   ·have ah:=bd.1 h4
    have:0<(tops k2).length:=List.length_pos_of_mem ah;refine⟨iR,hJ _ _ ⟨?_,rfl⟩⟩;rw[bp,List.length_erase_of_mem ah];omega
   ·have ah:id∉tops k2:=fun h=>h4 (bd.2 h)
    refine hJ _ _ ⟨?_,rfl⟩;rw[bp,List.erase_of_not_mem ah]
  rintro _ w8 ⟨rfl,rfl⟩;refine Am.mk (fun s w'=>s=dec (at_<0\/((tops n).length:Int)<at_)/\w'=w7.drew) ?_ ?_;rotate_left
  ·intro J hJ
   refine AB (fun h4=>hJ _ _ ⟨CZ (.inl h4),rfl⟩) (fun h4=>hJ _ _ ⟨?_,rfl⟩)
   by_cases h5:((tops n).length:Int)<at_
   ·exact(decide_eq_true h5).trans (CZ (.inr h5))
   ·exact(decide_eq_false h5).trans (Bf (fun h=>h.elim h4 h5))
  rintro _ w8 ⟨rfl,rfl⟩;refine br_d (fun h4=>?_) (fun h4=>?_)
  ·rw[if_pos h4]at g
   exact av g H7.drew
  rw[if_neg h4]at g;have H8:=H7.drew.drew;refine⟨to,H8.ld (o:=0) (cs:=[.int .i64 to]) EQ4 yInt (mem_append_right _ m3) rfl,DY 0 rows,H8.ld (o:=0) (cs:=[.int .i64 (DY 0 rows)]) EQ4 yInt (mem_append_right _ m1) rfl,?_⟩
  have cl:∀j∈Nod.ids F,j≠0:=fun j hj=>by have:=l.pos j hj;omega
  have cm:∃i1 x1 k1,F=.cons i1 x1 k1 .nil:=by
   rcases l.one with e|⟨i1,x1,k1,e,_⟩
   ·rw[e]at t;cases t
   ·exact⟨i1,x1,k1,e⟩
  refine AC (Y9 U cl cm hw H8.std1 O ao (by omega)) ?_;rintro _ w9 ⟨rfl,rfl⟩
  have d4:segR T.L A.length=flat (.cons id x k .nil) v:=by rw[<- l.fl];exact hm.seg
  have cn:∀r∈flat (.cons id x k .nil) v,r.level<40:=fun r hr=>by
   refine l.deep r ?_;rw[<- l.fl,hm.fl];rw[flat,flat,append_nil]at hr;refine mem_append_right _ ?_;rcases mem_cons.1 hr with rfl|hr
   ·exact .head _
   ·exact .tail _ (mem_append_left _ hr)
  have en:0<=DY 0 rows/\DY 0 rows<40:=by
   refine⟨(PD _ 0 0).2 (.inl (by omega)),?_⟩;have m:=(YG id x k .nil v 40).2;rw[<- ab]at m;refine Int.not_le.1 fun h8=>?_;obtain⟨r,hr,af⟩:=m (by omega);have:=cn r hr;omega
  have co:LD (segR T.L A.length) (v-v3-1)=flat (.cons id x k .nil) (v3+1):=by
   rw[d4,F9];congr 1;omega
  have a8:=YG id x k .nil (v3+1) 40;rw[<- ab,<- co]at a8;refine⟨_,rfl,H8.ld (o:=0) (cs:=[.int .i64 (DY 0 rows)]) EQ4 yInt (mem_append_right _ m1) rfl,iR,iR,AB (fun h5=>?_) (fun h5=>?_)⟩
  ·rw[if_pos (a8.2 h5)]at g
   exact av g H8
  rw[if_neg (fun h=>h5 (a8.1 h))]at g;refine AC (dP U hw H8.std1 t cj bq hE (by omega)) ?_;rintro _ aw ⟨Z,rfl,cp,hM,H9⟩;have a6:=H8.useL H9;clear H9 H8 H7 av ck my bk;refine⟨rfl,?_⟩;obtain⟨R3,d5,cq,_⟩:=Dw (cutF id F) 0 to bm.nodup ag
  have cr:(Z.map (·.2)).Perm (⟨to,q2,N,tops n⟩::⟨id,q,x,tops k⟩::(ents k id++(ents n to++R3))):=by
   refine cp.trans (List.Perm.trans (List.Perm.cons _ ?_) (.swap _ _ _));refine((d2.symm.trans d5).append_left (ents k id)).trans ?_;exact perm_middle
  obtain⟨A4,K,B4,rfl⟩:=Xl cr
  have ct:Ef (nodM (A4++(K,(⟨to,q2,N,tops n⟩:En))::B4)):=by rw[hM];exact hw.apart U
  have d6:y2.b=K.b:=by
   have m:aget (nodM (A4++(K,(⟨to,q2,N,tops n⟩:En))::B4)) to=some (.pointer (some ⟨K.b,0,none⟩)):=(Ei ct).2 (mem_map.2 ⟨(K,(⟨to,q2,N,tops n⟩:En)),by simp,rfl⟩);rw[hM,b7]at m
   injection m with m;injection m with m;injection m with m;injection m
  rw[d6];have a7:=IK a6
  have bv:=a7.perm (M:=.own 3 1 K.ka (tops n).length K.kc (AO (tops n))::.blk K.b (nodC K ⟨to,q2,N,tops n⟩) 139::.own 142 2 K.aa N.attrs.length K.ac (atC N.attrs)::(.blk b (treC C (Ac F) T.next) 119::.imap C .i64 (nodM (A4++(K,(⟨to,q2,N,tops n⟩:En))::B4))::(BX (A4++B4)++[dA D,.blk db [.int .i64 (DY 0 rows)] 3,.blk Y [.int .i64 0] 41,.blk pb [.int .i64 to] 3,.blk f2 [.int .i64 0] 3,.blk f1 [.int .i64 id] 3,.blk f0 [.pointer (some ⟨b,0,none⟩)] 49]))) (by
   refine AL fun ff gg h0 hc ha ap=>?_
   simp only[nodL,ha,hc,h0];omega)
  clear a6 a7;refine AA rfl ⟨_,_,_,by rw[add_lit];exact bv.lo nSI,fun b5 d7 d8=>?_⟩;have a0:=bv.nw d8;clear bv
  obtain⟨an,cu⟩:∃an:Nat,at_=an:=⟨at_.toNat,by omega⟩
  have ad:an<=(tops n).length:=by omega
  have d9:b5∉blks K.ka:=fun hh=>(pairwise_cons.1 a0.sep).1 _ (.head _) b5 (.head _) hh
  have eo:(tops n).length<=(tops k2).length:=by rw[bp];exact List.length_erase_le
  have ds:=BR l;have ca:=l.len;rw[cu];refine AC (UC K.ka (tops n).length K.kc an b5 (AO (tops n)) [.int .i64 id] 3 d7 (a0.ownA m1) (MI _) ad (a0.blk (.head _)) rfl (by intro u hu;rw[mem_singleton.1 hu];rfl) d9 (by omega)) ?_;rintro _ ez ⟨a1,a2,rfl,a3⟩;replace a3:=a0.Ae.Ba a3;clear a0
  have ea:(AO (tops n)).take (an*1)++([Value.int .i64 id]++(AO (tops n)).drop (an*1))=AO (EC (tops n) an [id]):=by
   rw[EC,Nat.mul_one];simp[AO,map_take,map_drop]
  have cv:(tops n).length+1=(EC (tops n) an [id]).length:=by rw[PL];rfl
  rw[ea]at a3;obtain⟨e5,am⟩:∃e5:En,e5=⟨to,q2,N,EC (tops n) an [id]⟩:=⟨_,rfl⟩;refine⟨_,_,_,rfl,AA rfl ?_⟩;rw[add_lit];refine Hp.st (o:=7) a3.BD EQ4 nSI rfl rfl (by simp[nodC]) (cs':=nodC {K with ka:=a1,kc:=a2} e5) (by rw[am,cv];rfl) fun ec cw=>?_;clear a3
  have a9:=Jn (b:=b) (mb:=C) (root:=Ac F) (next:=T.next) (A:=A4) (Bw:=B4) (y:=K) (e:=⟨to,q2,N,tops n⟩) (y':= {K with ka:=a1,kc:=a2}) (e':=e5) (X:=.blk b5 [.int .i64 id] 3::[dA D,.blk db [.int .i64 (DY 0 rows)] 3,.blk Y [.int .i64 0] 41,.blk pb [.int .i64 to] 3,.blk f2 [.int .i64 0] 3,.blk f1 [.int .i64 id] 3,.blk f0 [.pointer (some ⟨b,0,none⟩)] 49]) (B:=f) (w0:=w) (w:=ec) rfl (by rw[am]) (cw.perm (by
   have e9:e5.kids=EC (tops n) an [id]:=by rw[am]
   have e8:e5.x=N:=by rw[am]
   refine AL fun ff gg h0 hc ha ap=>?_
   simp only[nodL,ha,hc,h0,e8,e9,cv];omega))
  clear cw;refine⟨to,a9.ld (o:=0) (cs:=[.int .i64 to]) EQ4 yInt (mem_append_right _ m4) rfl,?_⟩;have bw:((A4++({K with ka:=a1,kc:=a2},e5)::B4).map (·.2)).Perm (⟨id,q,x,tops k⟩::e5::(ents k id++(ents n to++R3))):=(Ls cr).trans (.swap _ _ _)
  have bx:nodM (A4++({K with ka:=a1,kc:=a2},e5)::B4)=nodM ws:=by rw[<- hM];exact KT rfl (by rw[am])
  obtain⟨cx,cy⟩:∃cx,cx=A4++({K with ka:=a1,kc:=a2},e5)::B4:=⟨_,rfl⟩;rw[<- cy]at bw bx a9;obtain⟨A6,y6,B6,rfl⟩:=Xl bw
  have ed:y.b=y6.b:=by
   have m:aget (nodM (A6++(y6,(⟨id,q,x,tops k⟩:En))::B6)) id=some (.pointer (some ⟨y6.b,0,none⟩)):=(Ei (by rw[bx];exact hw.apart U)).2 (mem_map.2 ⟨(y6,(⟨id,q,x,tops k⟩:En)),by simp,rfl⟩);rw[bx,dn]at m
   injection m with m;injection m with m;injection m with m;injection m
  rw[ed];have cz:=IK a9;clear a9;refine AA rfl ?_;rw[add_lit];refine Hp.st (o:=1) cz EQ4 yInt rfl rfl (by simp[nodC]) (cs':=nodC y6 ⟨id,to,x,tops k⟩) rfl fun c1 c2=>?_;clear cz;have c3:=Jn (b:=b) (mb:=C) (root:=Ac F) (next:=T.next) (A:=A6) (Bw:=B6) (y:=y6) (e:=⟨id,q,x,tops k⟩) (y':=y6) (e':=⟨id,to,x,tops k⟩) (B:=f) (w0:=w) (w:=c1) rfl rfl c2;clear c2;have ee:=Ls (y':=y6) (e':=(⟨id,to,x,tops k⟩:En)) bw
  have c4:Hp f w c1 (.blk Y [.int .i64 0] 41::(dA D::([.blk b5 [.int .i64 id] 3,.blk db [.int .i64 (DY 0 rows)] 3,.blk pb [.int .i64 to] 3,.blk f2 [.int .i64 0] 3,.blk f1 [.int .i64 id] 3,.blk f0 [.pointer (some ⟨b,0,none⟩)] 49]++treL b C (Ac F) T.next (A6++(y6,(⟨id,to,x,tops k⟩:En))::B6)))):=c3.perm (by
   refine AL fun ff gg h0 hc ha ap=>?_
   simp only[ha,hc,h0];omega)
  clear c3;refine Hp.s1 c4 nErr (cs':=[.int .i64 0]) fun e0 c5=>?_;refine Hp.shut c5.Ae fun e2 c6=>?_;clear c4 c5;obtain⟨F',ba⟩:∃F',F'=under to (putAt an (.cons id x k .nil)) (cutF id F):=⟨_,rfl⟩;have bh:=hm.move U ao ar ad;rw[l.fl]at bh
  have c7:at_.toNat=an:=by omega
  rw[c7,bh,<- ba]at g;have a4:=Kv F 0 id l.ok t
  have ak:(Nod.ids (.cons id x k .nil))=id::Nod.ids k:=by rw[Nod.ids,Nod.ids,append_nil]
  have c8:(id::Nod.ids k).Nodup:=by
   have m:=U;rw[hm.ids,nodup_append,nodup_cons,nodup_append]at m;exact nodup_cons.2 ⟨fun hh=>m.2.1.1 (mem_append_left _ hh),m.2.1.2.1⟩
  have c9:∀j∈id::Nod.ids k,j∈Nod.ids F:=fun j hj=>by
   rw[hm.ids];rcases mem_cons.1 hj with rfl|hj
   ·simp
   ·simp[hj]
  have ef:BN F' ⟨flat F' 0,T.next⟩:=by
   rw[ba];refine bm.put ag ar h3 ad (show FOk (.cons id x k .nil)from⟨a4.1,a4.2.1,a4.2.2,trivial⟩) (by rw[ak];exact c8) (fun j hj eg=>?_) (fun r hr=>?_) ?_ (fun j hj=>?_) ⟨Int.le_refl _,l.next.2⟩
   ·have m:=(hm.Ui U j).1 eg
    rw[ak]at hj;rcases mem_cons.1 hj with e|hj
    ·exact m.2.1 e
    ·exact m.2.2 hj
   ·refine Int.not_le.1 fun m=>h5 (a8.1 ⟨r,?_,m⟩)
    rw[co];exact hr
   ·show(Nod.ids (.cons id x k .nil)).length+(flat (cutF id F) 0).length<=1000
    rw[BM,hm.XO,ak];have m:=hm.ids;have h8:=congrArg List.length m;simp only[length_append,length_cons,length_map]at h8⊢;omega
   ·rw[ak]at hj
    exact l.pos j (c9 j hj)
  have eh:DK F' (A6++(y6,(⟨id,to,x,tops k⟩:En))::B6):=by
   have da:=cq (putAt an (.cons id x k .nil));rw[<- ba,UO ad,tops,tops]at da;refine ee.trans (List.Perm.trans ?_ da.symm);have h7:=OZ an (.cons id x k .nil) n to ad
   have h8:ents (.cons id x k .nil) to=⟨id,to,x,tops k⟩::ents k id:=by rw[ents,ents,append_nil]
   rw[h8]at h7;refine List.Perm.trans ?_ ((h7.append_right R3).cons _).symm;rw[am];refine(List.Perm.swap _ _ _).trans (List.Perm.cons _ ?_);rw[cons_append,cons_append,append_assoc]
  have b0:Ac F'=Ac F:=by
   rw[ba,Rq,F8,F8,Ku,List.erase_of_not_mem bl]
  rw[<- b0]at c6;rw[<- cu];exact al ef eh g c6
end
end Go.Proofs.YtljenkbpnioipaaGreat
namespace Go.Nod
noncomputable section
open Classical
def cutA:List At->ByteArray->Nat
 | [],_=>0
 |x::r,n=>if ltB x.1 n then cutA r n+1 else 0
theorem MC:∀(l:List At)(n:ByteArray),cutA l n<=l.length
 | [],_=>Nat.le_refl _
 |x::r,n=>by
  have:=MC r n;rw[cutA];split<;>simp<;>omega
theorem rs_lt{l:List At}(h:Rs l){j k:Nat}{p q:At}(d:l[j]? =some p)(e:l[k]? =some q)(a:j<k):ltB p.1 q.1:=by
 have b:=(List.getElem?_eq_some_iff.1 d).1;have c:=(List.getElem?_eq_some_iff.1 e).1;have:=List.pairwise_iff_getElem.1 h j k b c a;rw[(List.getElem?_eq_some_iff.1 d).2,(List.getElem?_eq_some_iff.1 e).2]at this;exact this
theorem OA:∀(l:List At)(n:ByteArray),Rs l->∀(j:Nat)(p:At),l[j]? =some p->(ltB p.1 n↔j<cutA l n)
 | [],n,_,j,p,h=>by simp at h
 |x::r,n,hR,j,p,h=>by
  have a:Rs r:=(pairwise_cons.1 hR).2
  cases j with
  |zero=>
   rw[List.getElem?_cons_zero]at h;cases h;rw[cutA];by_cases e:ltB x.1 n
   ·rw[if_pos e];exact⟨fun _=>by omega,fun _=>e⟩
   ·rw[if_neg e];exact⟨fun h=>(e h).elim,fun h=>by omega⟩
  |succ j=>
   rw[List.getElem?_cons_succ]at h;have b:=OA r n a j p h;rw[cutA];by_cases e:ltB x.1 n
   ·rw[if_pos e,b];omega
   ·rw[if_neg e]
    refine⟨fun c=>(e ?_).elim,fun h=>by omega⟩;exact FU (rs_lt (l:=x::r) hR (j:=0) (k:=j+1) rfl (by rw[List.getElem?_cons_succ];exact h) (by omega)) c
def hasA(l:List At)(n:ByteArray):Prop:=∃v,l[cutA l n]? =some (n,v)
theorem Pj{a b:ByteArray}(h:¬ltB a b)(d:a≠b):ltB b a:=by
 rcases OI a b with c|c|c
 ·exact(h c).elim
 ·exact(d c).elim
 ·exact c
theorem filter_all{l:List At}{n:ByteArray}(h:∀x∈l,ltB n x.1):(l.filter fun y=> !decide (y.1=n))=l:=by
 rw[List.filter_eq_self];intro x a;have:x.1≠n:=fun e=>EQ n (by have:=h x a;rwa [e]at this);simp[this]
theorem YU:∀(l:List At)(a:At),Rs l->EL l a=l.take (cutA l a.1)++a::(if hasA l a.1 then l.drop (cutA l a.1+1)else l.drop (cutA l a.1))
 | [],a,_=>by
  have:¬hasA [] a.1:=fun⟨v,h⟩=>by simp at h
  rw[if_neg this];rfl
 |x::r,a,hR=>by
  have j:Rs r:=(pairwise_cons.1 hR).2;rw[EL];by_cases e:ltB x.1 a.1
  ·have c:cutA (x::r) a.1=cutA r a.1+1:=by rw[cutA,if_pos e]
   have k:hasA (x::r) a.1↔hasA r a.1:=by rw[hasA,hasA,c,List.getElem?_cons_succ]
   rw[if_pos e,YU r a j,c,take_succ_cons,drop_succ_cons,drop_succ_cons];by_cases i:hasA r a.1
   ·rw[if_pos i,if_pos (k.2 i)];rfl
   ·rw[if_neg i,if_neg (fun h=>i (k.1 h))];rfl
  ·have c:cutA (x::r) a.1=0:=by rw[cutA,if_neg e]
   rw[if_neg e,c,take_zero,List.drop_zero,nil_append,Nat.zero_add,drop_one,List.tail_cons];congr 1;have b:=pairwise_cons.1 hR;by_cases d:x.1=a.1
   ·rw[if_pos ⟨x.2,by rw[c,<- d];rfl⟩,filter_cons,if_neg (by simp[d])]
    exact filter_all fun y f=>by rw[<- d];exact b.1 y f
   ·have m:¬hasA (x::r) a.1:=fun⟨v,h⟩=>by rw[c,List.getElem?_cons_zero]at h;cases h;exact d rfl
    rw[if_neg m];have g:=Pj e d
    exact filter_all fun y f=>by
     rcases mem_cons.1 f with rfl|f
     ·exact g
     ·exact FU g (b.1 y f)
theorem ZK:∀(l:List At)(n:ByteArray),Rs l->Ik l n=(if hasA l n then l.take (cutA l n)++l.drop (cutA l n+1)else l)
 | [],n,_=>by
  have:¬hasA [] n:=fun⟨v,h⟩=>by simp at h
  rw[if_neg this];rfl
 |x::r,n,hR=>by
  have a:=pairwise_cons.1 hR;have j:=ZK r n a.2;rw[Ik]at j;rw[Ik];by_cases e:ltB x.1 n
  ·have b:cutA (x::r) n=cutA r n+1:=by rw[cutA,if_pos e]
   have k:hasA (x::r) n↔hasA r n:=by rw[hasA,hasA,b,List.getElem?_cons_succ]
   have i:x.1≠n:=fun h=>EQ n (by rwa [h]at e);rw[filter_cons,if_pos (by simp[i]),j,b,take_succ_cons,drop_succ_cons];by_cases g:hasA r n
   ·rw[if_pos g,if_pos (k.2 g)];rfl
   ·rw[if_neg g,if_neg (fun h=>g (k.1 h))]
  ·have b:cutA (x::r) n=0:=by rw[cutA,if_neg e]
   rw[b,take_zero,nil_append,Nat.zero_add,drop_one,List.tail_cons];by_cases c:x.1=n
   ·rw[if_pos ⟨x.2,by rw[b,<- c];rfl⟩,filter_cons,if_neg (by simp[c])]
    exact filter_all fun y d=>by rw[<- c];exact a.1 y d
   ·have m:¬hasA (x::r) n:=fun⟨v,h⟩=>by rw[b,List.getElem?_cons_zero]at h;cases h;exact c rfl
    rw[if_neg m];have f:=Pj e c
    exact filter_all fun y d=>by
     rcases mem_cons.1 d with rfl|d
     ·exact f
     ·exact FU f (a.1 y d)
end
end Go.Nod
namespace Go.Proofs.YtljenkbpnioipaaGreat
noncomputable section
open Go Go.Vc Go.Nod
theorem Jq(s:ByteArray)(d:s.size<=maxLen)(w:World):Calls Tryz.prog 151 #[.string s] w fun e w'=>e=.returned (.int .i64 (BJ s))/\Hp [] w w' []:=by
 apply gText.ok;unfold gText.vc;refine AC (Qd s d w) ?_;rintro _ f ⟨⟨z,rfl,b⟩,H⟩;refine⟨_,rfl,AB (fun h=>⟨?_,H⟩) (fun h=>?_)⟩
 ·rw[BJ,if_pos (b.1 h)]
 ·have c:¬¬VT s:=fun a=>h (b.2 a)
  refine AB (fun a=>⟨?_,H⟩) (fun a=>⟨?_,H⟩)
  ·rw[BJ,if_neg c,if_pos (by omega)]
  ·rw[BJ,if_neg c,if_neg (by omega)]
theorem inRu64{z:Int}:inR .u64 z↔0<=z/\z<=18446744073709551615:=by
 simp[inR,IntKind.min,IntKind.max,IntKind.signed,IntKind.bits]
theorem aQ(i j n:Nat)(hn:i+j<2^62):IntKind.i64.wrap (Int.fdiv (IntKind.u64.wrap ((i:Int)+j)) (2^min (Int.toNat 1) (IntKind.bits .u64)))=(((i+j)/2:Nat):Int):=by
 have a:IntKind.u64.wrap ((i:Int)+j)=((i+j:Nat):Int):=by
  have:=LM (k:=.u64) (z:=((i+j:Nat):Int)) (inRu64.2 (by omega));rw[<- Int.natCast_add];exact this
 have b:min (Int.toNat 1) (IntKind.bits .u64)=1:=by decide
 rw[a,b,Int.fdiv_eq_ediv_of_nonneg _ (by omega)]
 have c:((i+j:Nat):Int)/2^1=(((i+j)/2:Nat):Int):=by omega
 rw[c];exact LM (iR)
theorem ltD(a b:ByteArray):Op.bytesLess a.data.toList b.data.toList=dec (ltB a b):=by
 rw[Go.Proofs.bytesLess_eq];by_cases h:ltB a b
 ·rw[<- CZ h];exact decide_eq_true h
 ·rw[<- Bf h];exact decide_eq_false h
def cmpB(a b:ByteArray)(z:Int):Prop:=(z<0↔ltB a b)/\(z=0↔a=b)
theorem Qe(p:At)(n:ByteArray)(w:World):Calls Tryz.prog 219 #[.agg #[.string p.1,.string p.2],.string n] w fun e w'=>∃z,e=.returned (.int .i64 z)/\cmpB p.1 n z/\Hp [] w w' []:=by
 apply gFind1.ok;unfold gFind1.vc;intro b d f;have H:=(Hp.start w).nw f;have ld:Ld Tryz.prog 9 d ⟨b,0,none⟩ (.string p.1):=H.lo yStr;refine⟨p.1,ld,?_⟩;dsimp only;rw[ltD];refine br_d (fun h=>⟨-1,rfl,⟨⟨fun _=>h,fun _=>by omega⟩,⟨fun c=>by omega,fun c=>by rw[c]at h;exact(EQ _ h).elim⟩⟩,H.drop⟩) (fun h=>⟨p.1,ld,?_⟩);dsimp only;rw[ltD];rw[<- Bf h,Bool.false_or];refine AV (fun c=>⟨1,rfl,⟨⟨fun a=>by omega,fun a=>(h a).elim⟩,⟨fun a=>by omega,fun a=>(c a).elim⟩⟩,H.drop⟩) (fun c=>⟨0,rfl,⟨⟨fun a=>by omega,fun a=>(h a).elim⟩,⟨fun _=>c,fun _=>rfl⟩⟩,H.drop⟩)
theorem lBSrAt_spec(a:Option Addr)(n c:Nat)(l:List At)(t:ByteArray)(w:World)(G:AtR w a n l)(L:Rs l)(hn:n<=1000000):
  Calls Tryz.prog 218 #[.slice a n c,.string t,.func (.func 219) #[] #[]] w fun e w'=>e=.returned (.tuple #[.int .i64 (cutA l t),.bool (dec (hasA l t))])/\Hp [] w w' []:=by
 apply lBSrAt.ok;unfold lBSrAt.vc;have J:=G.len;have M:=MC l t;refine AP.mk (fun m s w'=>∃i j:Nat,m=j-i/\s=((i:Int),(j:Int))/\i<=cutA l t/\cutA l t<=j/\j<=n/\Hp [] w w' []) n ⟨0,n,rfl,rfl,by omega,by omega,Nat.le_refl _,Hp.start w⟩ ?_;rintro m s A Z ⟨i,j,rfl,rfl,N,O,B,H⟩ r;dsimp only;have f:AtR A a n l:=G.go H;refine AB (fun h=>?_) (fun h=>?_)
 ·rw[aQ i j n (by omega)]
  obtain⟨d,R⟩:∃d,d=(i+j)/2:=⟨_,rfl⟩;rw[<- R]
  have g:d<l.length:=by omega
  have p:l[d]? =some l[d]:=List.getElem?_eq_getElem g;have b:=J3 p;obtain⟨T,u⟩:=f.cells.some (fun e=>by rw[e]at b;simp at b);refine⟨iR,by omega,AA u ⟨⟨by omega,by omega⟩,l[d].1,l[d].2,by rw[Int.toNat_natCast];exact f.cells.ldA Gs u b rfl,Uf Tryz.func219 rfl (AC (Qe l[d] t A) ?_)⟩⟩;rintro _ U ⟨z,rfl,⟨k,o⟩,C⟩;have K:=H.ext0 C;have x:=OA l t L d _ p;refine⟨z,rfl,AB (fun D=>⟨iR,?_⟩) (fun D=>?_)⟩
  ·have:=x.1 (k.1 D)
   exact r (j-(d+1)) _ _ (by omega) ⟨d+1,j,rfl,by simp,by omega,O,B,K⟩
  ·have:¬d<cutA l t:=fun X=>D (k.2 (x.2 X))
   exact r (d-i) _ _ (by omega) ⟨i,d,rfl,rfl,N,by omega,by omega,K⟩
 ·have F:i=cutA l t:=by omega
  subst F;refine AB (fun Y=>?_) (fun Y=>?_)
  ·have g:cutA l t<l.length:=by omega
   have p:l[cutA l t]? =some l[cutA l t]:=List.getElem?_eq_getElem g;have b:=J3 p;obtain⟨T,u⟩:=f.cells.some (fun e=>by rw[e]at b;simp at b);refine AA u ⟨⟨by omega,by omega⟩,l[cutA l t].1,l[cutA l t].2,by rw[Int.toNat_natCast];exact f.cells.ldA Gs u b rfl,Uf Tryz.func219 rfl (AC (Qe l[cutA l t] t A) ?_)⟩;rintro _ U ⟨z,rfl,⟨k,o⟩,C⟩;refine⟨z,rfl,?_,H.ext0 C⟩
   have:(decide (z=0))=dec (hasA l t):=by
    by_cases y:z=0
    ·rw[<- CZ (show hasA l t from⟨l[cutA l t].2,p.trans (congrArg some (Prod.ext (o.1 y) rfl))⟩)];exact decide_eq_true y
    ·rw[<- Bf (show¬hasA l t from fun⟨v,q⟩=>y (o.2 (by rw[p]at q;injection q with q;rw[q])))];exact decide_eq_false y
   rw[this]
  ·have:¬hasA l t:=fun⟨v,q⟩=>by
    have:=(List.getElem?_eq_some_iff.1 q).1;omega
   exact⟨by rw[<- Bf this],H⟩
end
end Go.Proofs.YtljenkbpnioipaaGreat
namespace Go.Nod
noncomputable section
open Classical
theorem Ll:∀(l:List At),valsE l=0↔∀a∈l,BJ a.2=0
 | []=>by simp[valsE]
 |a::r=>by
  rw[valsE];split
  ·rename_i h
   rw[Ll r];exact⟨fun b x c=>by rcases mem_cons.1 c with rfl|c;exact h;exact b x c,fun b x c=>b x (.tail _ c)⟩
  ·rename_i h
   exact⟨fun b=>(h b).elim,fun b=>(h (b a (.head _))).elim⟩
theorem MB:∀(l:List At)(a:At),∀y∈EL l a,y=a\/y∈l
 | [],a,y,h=>.inl (mem_singleton.1 h)
 |x::r,a,y,h=>by
  rw[EL]at h;split at h
  ·rcases mem_cons.1 h with rfl|h
   ·exact .inr (.head _)
   ·exact(MB r a y h).imp_right (.tail _)
  ·rcases mem_cons.1 h with rfl|h
   ·exact .inl rfl
   ·exact .inr (mem_filter.1 h).1
theorem Ya:∀(l:List At)(a:At),Rs l->Rs (EL l a)
 | [],a,_=>List.pairwise_singleton _ _
 |x::r,a,h=>by
  have f:=pairwise_cons.1 h;rw[EL];split
  ·rename_i e
   refine pairwise_cons.2 ⟨fun y b=>?_,Ya r a f.2⟩;rcases MB r a y b with rfl|b
   ·exact e
   ·exact f.1 y b
  ·rename_i e
   refine pairwise_cons.2 ⟨fun y b=>?_,h.filter _⟩;obtain⟨b,c⟩:=mem_filter.1 b
   have c:¬y.1=a.1:=by simpa using c
   rcases mem_cons.1 b with rfl|b
   ·exact Pj e c
   ·rcases OI a.1 y.1 with d|d|d
    ·exact d
    ·exact(c d.symm).elim
    ·exact(e (FU (f.1 y b) d)).elim
theorem lessA_rs{l:List At}(h:Rs l)(n:ByteArray):Rs (Ik l n):=h.filter _
theorem UY{x:NX}(h:Ap x=0)(f:x.kind=1):x.text=⟨#[]⟩/\Cb x.name/\Mc x.attrs/\x.attrs.length<=20/\∀a∈x.attrs,BJ a.2=0:=by
 rw[Ap,if_neg (by omega)]at h;split at h
 ·rename_i e
  split at h
  ·rename_i d
   rw[Bh]at d;split at d
   ·cases d
   ·split at d
    ·cases d
    ·split at d
     ·cases d
     ·rename_i a b c
      exact⟨e.2,Classical.not_not.1 a,Classical.not_not.1 b,by omega,(Ll _).1 h⟩
  ·rename_i d
   exact(d h).elim
 ·cases h
theorem Rx{x:NX}(b:x.kind=1)(h1:x.text=⟨#[]⟩)(c:Cb x.name)(d:Mc x.attrs)(g:x.attrs.length<=20)(f:∀a∈x.attrs,BJ a.2=0):Ap x=0:=by
 have e:Bh x=0:=by rw[Bh,if_neg (fun h=>h c),if_neg (fun h=>h d),if_neg (by omega)]
 rw[Ap,if_neg (by omega),if_pos ⟨b,h1⟩,if_pos e];exact(Ll _).2 f
theorem parts_text{x:NX}(h:Ap x=0)(a:x.kind=2):x.name=⟨#[]⟩/\x.attrs=[]:=by
 rw[Ap,if_pos a]at h;split at h
 ·assumption
 ·cases h
theorem text_parts{x:NX}(a:x.kind=2)(h:x.name=⟨#[]⟩/\x.attrs=[]):Ap x=BJ x.text:=by rw[Ap,if_pos a,if_pos h]
theorem setAttr_eq{T:Tr}{id v:Int}{x:NX}{n:Nat}{a:At}(c:atR T.L id=some (n,⟨id,v,x⟩))(f:x.kind=1):
  (¬Cb a.1->T.Du id a=(T,63))/\(Cb a.1->BJ a.2≠0->T.Du id a=(T,BJ a.2))/\
  (Cb a.1->BJ a.2=0->T.Du id a=if 20<(EL x.attrs a).length then((T,67):Tr×Int)else(⟨setR T.L n ⟨id,v,x⟩ {x with attrs:=EL x.attrs a},T.next⟩,0)):=by
 have d:¬x.kind≠1:=fun h=>h f;rw[Tr.Du,c];dsimp only;rw[if_neg d];exact⟨fun h=>by rw[if_pos h],fun h e=>by rw[if_neg (fun b=>b h),if_pos e],fun h e=>by rw[if_neg (fun b=>b h),if_neg (fun b=>b e)]⟩
end
end Go.Nod
namespace Go.Proofs.YtljenkbpnioipaaGreat
noncomputable section
open Go Go.Vc Go.Nod
theorem OT{f:List Nat}{b mb:Nat}{F:Fo}{T:Tr}{w w':World}{X:List Asn}(c:BN F T){id q v:Int}{x x':NX}{k:Fo}{A B:List Rw}(a:AZ F 0 id=some (q,x,k))(g:Mid F 0 id 0 q x k A B v)
  {h Bw:List (NW×En)} {y y':NW} (i:DK F (h++(y,⟨id,q,x,tops k⟩)::Bw)) (j:x'.kind=x.kind) (l:Ap x'=0) (H:Hp f w w' (treL b mb (Ac F) T.next (h++(y',⟨id,q,x',tops k⟩)::Bw)++X)):
  ∃m,Hp f w w' [AU m b ⟨setR T.L A.length ⟨id,v,x⟩ x',T.next⟩]:=by
 obtain⟨R,n,_,o⟩:=Dw F 0 id c.nodup a;have d:=c.turn a g (f:=fun _=>x') j l
 have e:setR T.L A.length ⟨id,v,x⟩ x'=flat (D9 id (fun _=>x') F) 0:=by rw[<- c.fl];exact g.setR fun _=>x'
 have p:Ac F=Ac (D9 id (fun _=>x') F):=by rw[F8,F8,P8]
 rw[p]at H;rw[e];refine Za d ?_ H;exact(Ls (i.trans n)).trans (o fun _=>x').symm
theorem aY{y:NW}{e:En}{L:List Asn}{w:World}(f:Std w L)(d:∀a∈nodL (y,e),a∈L)(g:Rs e.x.attrs)(hn:e.x.attrs.length<=1000000)(t:ByteArray):
  Calls Tryz.prog 152 #[.pointer (some ⟨y.b,0,none⟩),.string t] w fun en w'=>en=.returned (.tuple #[.int .i64 (cutA e.x.attrs t),.bool (dec (hasA e.x.attrs t))])/\Hp [] w w' []:=by
 apply gFind.ok;unfold gFind.vc;have H:=Hp.CE f;have c:Own w 0 142 2 y.aa e.x.attrs.length y.ac (atC e.x.attrs):=H.ownA (d _ m1);refine AA rfl ⟨y.aa,e.x.attrs.length,y.ac,by rw[add_lit];exact H.ld (o:=6) (cs:=nodC y e) EQ4 iSAt (d _ (.head _)) rfl,?_⟩;refine AC (lBSrAt_spec y.aa e.x.attrs.length y.ac e.x.attrs t w ⟨rfl,c.cells⟩ g hn) ?_;rintro _ i ⟨rfl,h⟩;exact⟨_,_,rfl,rfl,h⟩
theorem Yu(l:List At)(k:Nat):(atC l).take (k*2)=atC (l.take k):=by
 induction l generalizing k with
 |nil=>simp[atC]
 |cons p r a=>
  cases k with
  |zero=>simp[atC]
  |succ k=>
   have e:atC (p::r)=Value.string p.1::.string p.2::atC r:=rfl;rw[e,Nat.succ_mul,take_succ_cons,take_succ_cons,a k];rfl
theorem RQ{F:Fo}{T:Tr}{id q:Int}{x:NX}{k:Fo}(b:BN F T)(a:AZ F 0 id=some (q,x,k)):Ap x=0:=(Kv F 0 id b.ok a).1
theorem gSetAttr_spec{f:List Nat}{b:Nat}{T:Tr}{w:World}(h:(AU f b T).ok w)(id:Int)(name d:ByteArray)(hv:d.size<=maxLen):
  Calls Tryz.prog 94 #[.pointer (some ⟨b,0,none⟩),.int .i64 id,.string name,.string d] w fun e w'=>∃G,e=.returned (.int .i64 (T.Du id (name,d)).2)/\Hp f w w' [AU G b (T.Du id (name,d)).1]:=by
 apply gSetAttr.ok;unfold gSetAttr.vc;have s:Hp f w w [AU f b T]:=Be h;obtain⟨M,⟨F,J,K,ws,hw,rfl⟩,H,hf⟩:=s.unpack;have j:∀(w':World)(c:Int),Hp f w w' [AU f b T]->T.Du id (name,d)=(T,c)->∃G,Ending.returned (.int .i64 c)=.returned (.int .i64 (T.Du id (name,d)).2)/\Hp f w w' [AU G b (T.Du id (name,d)).1]:=fun w' c H9 e=>⟨f,by rw[e],by rw[e];exact H9⟩;refine AC (NK J.nodup hw H.std1 id) ?_;rintro e w1 ⟨rfl,⟨l,rfl⟩|⟨q,x,k,l,r,rfl⟩|⟨q,x,k,Aw,y,Bw,l,r,ab,rfl⟩⟩
 ·refine⟨_,_,rfl,AV (fun _=>j _ _ s (by rw[Tr.Du,(J.noRow l).2])) (fun e=>by omega)⟩
 ·obtain⟨A,B,v,hm,al,L,_⟩:=J.rows l
  refine⟨_,_,rfl,AV (fun _=>j _ _ s (by rw[Tr.Du,L];dsimp only;rw[if_pos r])) (fun e=>by omega)⟩
 obtain⟨A,B,v,hm,al,L,_⟩:=J.rows l;have a2:¬x.kind≠1:=fun h=>h r;obtain⟨am,an,g⟩:=setAttr_eq (a:=(name,d)) L r;obtain⟨ao,ap,C,aq,ar⟩:=UY (RQ J l) r;refine⟨_,_,rfl,AV (fun e=>by omega) (fun _=>?_)⟩;refine AC (IE name w1) ?_;rintro _ w2 ⟨rfl,z⟩;replace s:=s.ext0 z;replace H:=H.ext0 z;refine⟨_,rfl,F5 (fun h1=>j _ _ s (am h1)) (fun h1=>?_)⟩;refine AC (Jq d hv w2) ?_;rintro _ w3 ⟨rfl,z⟩;replace s:=s.ext0 z;replace H:=H.ext0 z;refine⟨_,rfl,AV (fun h2=>?_) (fun h2=>?_)⟩
 ·refine AC (Jq d hv w3) ?_
  rintro _ w4 ⟨rfl,z⟩;exact⟨_,rfl,j _ _ (s.ext0 z) (an h1 h2)⟩
 replace g:=g h1 h2;have hL:∀a∈nodL (y,(⟨id,q,x,tops k⟩:En)),a∈treL b K (Ac F) T.next ws++[]:=fun a m=>mem_append_left _ (Dv (p:=(y,⟨id,q,x,tops k⟩)) (by rw[ab];simp) m);refine AC (aY H.std hL C.2 (by dsimp only;omega) name) ?_;rintro _ w4 ⟨rfl,z⟩;replace s:=s.ext0 z;replace H:=H.ext0 z;dsimp only;have N:=YU x.attrs (name,d) C.2;dsimp only at N;have ae:Own w4 0 142 2 y.aa x.attrs.length y.ac (atC x.attrs):=H.ownA (hL _ m1);have av:=MC x.attrs name
 have t:∀{n:Nat},(EL x.attrs (name,d)).length=n->n<=20->Ap {x with attrs:=EL x.attrs (name,d)}=0:=fun e hn=>Rx r ao ap ⟨fun a m=>by
  rcases MB _ _ a m with rfl|m
  ·exact h1
  ·exact C.1 a m,Ya _ _ C.2⟩ (by show(EL x.attrs (name,d)).length<=20;omega) (fun a m=>by
  rcases MB _ _ a m with rfl|m
  ·exact h2
  ·exact ar a m)
 have O:Ld Tryz.prog 69 w4 ⟨y.b,6,none⟩ (.slice y.aa x.attrs.length y.ac):=H.ld (o:=6) (cs:=nodC y ⟨id,q,x,tops k⟩) EQ4 iSAt (hL _ (.head _)) rfl;subst ab;refine⟨_,_,rfl,br_d (fun h3=>?_) (fun h3=>?_)⟩
 ·rw[if_pos h3]at N
  obtain⟨v0,R⟩:=h3;have a3:=(List.getElem?_eq_some_iff.1 R).1
  have i:(EL x.attrs (name,d)).length=x.attrs.length:=by rw[N];simp;omega
  rw[if_neg (by omega)]at g
  have af:atC (EL x.attrs (name,d))=over [.string d] (cutA x.attrs name*2+1) (atC x.attrs):=by
   have e1:atC x.attrs=atC (x.attrs.take (cutA x.attrs name))++([.string name]++([.string v0]++atC (x.attrs.drop (cutA x.attrs name+1)))):=by
    have e2:x.attrs=x.attrs.take (cutA x.attrs name)++(name,v0)::x.attrs.drop (cutA x.attrs name+1):=by
     have:=(List.getElem?_eq_some_iff.1 R).2;rw[<- this,getElem_cons_drop,take_append_drop]
    conv=>lhs;rw[e2]
    rw[II];rfl
   rw[N,II,e1]
   have hl:cutA x.attrs name*2+1=(atC (x.attrs.take (cutA x.attrs name))++[Value.string name]).length:=by rw[length_append,Lt,length_take];simp;omega
   rw[hl,<- append_assoc,Fb [.string d] _ [.string v0] _ rfl,append_assoc];rfl
  have H1:=IK H
  have H2:=H1.perm (M:=.own 142 2 y.aa x.attrs.length y.ac (atC x.attrs)::.blk y.b (nodC y ⟨id,q,x,tops k⟩) 139::.own 3 1 y.ka (tops k).length y.kc (AO (tops k))::(.blk b (treC K (Ac F) T.next) 119::.imap K .i64 (nodM (Aw++(y,(⟨id,q,x,tops k⟩:En))::Bw))::(BX (Aw++Bw)++[]))) (by
   refine AL fun ff gg U Y m Z=>?_
   simp only[nodL,m,Y,U];omega)
  have D:=J3 R;obtain⟨ad,ag⟩:=ae.cells.some (fun e=>by rw[e]at D;simp at D);refine AA rfl ⟨y.aa,x.attrs.length,y.ac,by rw[add_lit];exact O,AA ag ⟨⟨by omega,by omega⟩,?_⟩⟩;rw[Int.toNat_natCast,add_add];refine Hp.stO H2 (v:=.string d) (o:=cutA x.attrs name*2+1) EQ4 ag rfl rfl (by rw[Lt];simp[Value.cells];omega) af.symm fun w5 H3=>?_
  have H4:=Jn (b:=b) (mb:=K) (root:=Ac F) (next:=T.next) (A:=Aw) (Bw:=Bw) (y:=y) (e:=⟨id,q,x,tops k⟩) (y':=y) (e':=⟨id,q,{x with attrs:=EL x.attrs (name,d)},tops k⟩) (X:=[]) (B:=f) (w0:=_) (w:=w5) rfl rfl (H3.perm (by
   refine AL fun ff gg U Y m Z=>?_
   simp only[nodL,nodC,m,Y,U,i];omega))
  obtain⟨G,H5⟩:=OT J l hm hw (x':= {x with attrs:=EL x.attrs (name,d)}) rfl (t i aq) H4;exact⟨G,by rw[g],by rw[g];exact H5⟩
 ·rw[if_neg h3]at N
  have i:(EL x.attrs (name,d)).length=x.attrs.length+1:=by rw[N];simp;omega
  refine AA rfl ⟨y.aa,x.attrs.length,y.ac,by rw[add_lit];exact O,AB (fun h4=>j _ _ s ?_) (fun h4=>?_)⟩
  ·rw[g,if_pos (by omega)]
  rw[if_neg (by omega)]at g;refine AA rfl ⟨y.aa,x.attrs.length,y.ac,by rw[add_lit];exact O,fun b5 w5 aw=>?_⟩;have H1:=IK H
  have H2:=H1.perm (M:=.own 142 2 y.aa x.attrs.length y.ac (atC x.attrs)::.blk y.b (nodC y ⟨id,q,x,tops k⟩) 139::.own 3 1 y.ka (tops k).length y.kc (AO (tops k))::(.blk b (treC K (Ac F) T.next) 119::.imap K .i64 (nodM (Aw++(y,(⟨id,q,x,tops k⟩:En))::Bw))::(BX (Aw++Bw)++[]))) (by
   refine AL fun ff gg U Y m Z=>?_
   simp only[nodL,m,Y,U];omega)
  have H3:=H2.nw aw;have a0:b5∉blks y.aa:=fun hh=>(pairwise_cons.1 H3.sep).1 _ (.head _) b5 (.head _) hh;refine AC (lInsAt_spec y.aa x.attrs.length y.ac (cutA x.attrs name) b5 (atC x.attrs) [.string name,.string d] 142 w5 (H3.ownA m1) (MF _) av (H3.blk (.head _)) rfl (by intro u hu;simp at hu;rcases hu with rfl|rfl<;>rfl) a0 (by omega)) ?_;rintro _ w6 ⟨ah,ak,rfl,H4⟩;replace H4:=H3.Ae.Ba H4
  have a1:(atC x.attrs).take (cutA x.attrs name*2)++([Value.string name,.string d]++(atC x.attrs).drop (cutA x.attrs name*2))=atC (EL x.attrs (name,d)):=by
   rw[N,II,Yu,Xx];rfl
  rw[a1]at H4;refine⟨_,_,_,rfl,AA rfl ?_⟩;rw[add_lit];refine Hp.st (o:=6) H4.BD EQ4 iSAt rfl rfl (by simp[nodC]) (cs':=nodC {y with aa:=ah,ac:=ak} ⟨id,q,{x with attrs:=EL x.attrs (name,d)},tops k⟩) (by rw[<- i];rfl) fun w7 H5=>?_
  have H6:=Jn (b:=b) (mb:=K) (root:=Ac F) (next:=T.next) (A:=Aw) (Bw:=Bw) (y:=y) (e:=⟨id,q,x,tops k⟩) (y':= {y with aa:=ah,ac:=ak}) (e':=⟨id,q,{x with attrs:=EL x.attrs (name,d)},tops k⟩) (X:=[.blk b5 [.string name,.string d] 142]) (B:=f) (w0:=_) (w:=w7) rfl rfl (H5.perm (by
   refine AL fun ff gg U Y m Z=>?_
   simp only[nodL,m,Y,U,i];omega))
  obtain⟨G,H7⟩:=OT J l hm hw (x':= {x with attrs:=EL x.attrs (name,d)}) rfl (t i (by omega)) H6;exact⟨G,by rw[g],by rw[g];exact H7⟩
theorem gDelAttr_spec{f:List Nat}{b:Nat}{T:Tr}{w:World}(h:(AU f b T).ok w)(id:Int)(name:ByteArray):
  Calls Tryz.prog 95 #[.pointer (some ⟨b,0,none⟩),.int .i64 id,.string name] w fun e w'=>∃u,e=.returned (.int .i64 (T.Ed id name).2)/\Hp f w w' [AU u b (T.Ed id name).1]:=by
 apply gDelAttr.ok;unfold gDelAttr.vc;have s:Hp f w w [AU f b T]:=Be h;obtain⟨M,⟨F,t,C,ws,hw,rfl⟩,H,hf⟩:=s.unpack;have i:∀(w':World)(c:Int),Hp f w w' [AU f b T]->T.Ed id name=(T,c)->∃u,Ending.returned (.int .i64 c)=.returned (.int .i64 (T.Ed id name).2)/\Hp f w w' [AU u b (T.Ed id name).1]:=fun w' c H9 e=>⟨f,by rw[e],by rw[e];exact H9⟩;refine AC (NK t.nodup hw H.std1 id) ?_;rintro e w1 ⟨rfl,⟨d,rfl⟩|⟨q,x,k,d,j,rfl⟩|⟨q,x,k,K,y,N,d,j,z,rfl⟩⟩
 ·refine⟨_,_,rfl,AV (fun _=>i _ _ s (by rw[Tr.Ed,(t.noRow d).2])) (fun e=>by omega)⟩
 ·obtain⟨A,B,v,hm,O,r,_⟩:=t.rows d
  refine⟨_,_,rfl,AV (fun _=>i _ _ s (by rw[Tr.Ed,r];dsimp only;rw[if_pos j])) (fun e=>by omega)⟩
 obtain⟨A,B,v,hm,O,r,_⟩:=t.rows d;have R:¬x.kind≠1:=fun h=>h j
 have g:T.Ed id name=if(Ik x.attrs name).length=x.attrs.length then((T,63):Tr×Int)else(⟨setR T.L A.length ⟨id,v,x⟩ {x with attrs:=Ik x.attrs name},T.next⟩,0):=by
  rw[Tr.Ed,r];dsimp only;rw[if_neg R]
 obtain⟨U,Y,l,ah,Z⟩:=UY (RQ t d) j;refine⟨_,_,rfl,AV (fun e=>by omega) (fun _=>?_)⟩;have hL:∀a∈nodL (y,(⟨id,q,x,tops k⟩:En)),a∈treL b C (Ac F) T.next ws++[]:=fun a m=>mem_append_left _ (Dv (p:=(y,⟨id,q,x,tops k⟩)) (by rw[z];simp) m);refine AC (aY H.std hL l.2 (by dsimp only;omega) name) ?_;rintro _ w4 ⟨rfl,Hn⟩;replace s:=s.ext0 Hn;replace H:=H.ext0 Hn;dsimp only;have D:=ZK x.attrs name l.2;have ak:=MC x.attrs name;have ab:Ld Tryz.prog 69 w4 ⟨y.b,6,none⟩ (.slice y.aa x.attrs.length y.ac):=H.ld (o:=6) (cs:=nodC y ⟨id,q,x,tops k⟩) EQ4 iSAt (hL _ (.head _)) rfl;subst z;refine⟨_,_,rfl,F5 (fun G=>i _ _ s ?_) (fun G=>?_)⟩
 ·rw[g,D,if_neg G,if_pos rfl]
 rw[if_pos G]at D;obtain⟨v0,ad⟩:=G;have ae:=(List.getElem?_eq_some_iff.1 ad).1
 have n:(Ik x.attrs name).length=x.attrs.length-1:=by rw[D];simp;omega
 rw[if_neg (by omega)]at g;have H1:=IK H
 have H2:=H1.perm (M:=.own 142 2 y.aa x.attrs.length y.ac (atC x.attrs)::.blk y.b (nodC y ⟨id,q,x,tops k⟩) 139::.own 3 1 y.ka (tops k).length y.kc (AO (tops k))::(.blk b (treC C (Ac F) T.next) 119::.imap C .i64 (nodM (K++(y,(⟨id,q,x,tops k⟩:En))::N))::(BX (K++N)++[]))) (by
  refine AL fun ff gg h0 hc m af=>?_
  simp only[nodL,m,hc,h0];omega)
 refine AA rfl ⟨y.aa,x.attrs.length,y.ac,by rw[add_lit];exact ab,iR,?_⟩;refine AC (lDelAt_spec y.aa x.attrs.length y.ac (cutA x.attrs name) (atC x.attrs) w4 (H2.ownA (.head _)) (MF _) ae) ?_;rintro _ w5 ⟨rfl,J⟩;replace J:=H2.Ba J
 have ag:(atC x.attrs).take (cutA x.attrs name*2)++(atC x.attrs).drop ((cutA x.attrs name+1)*2)=atC (Ik x.attrs name):=by
  rw[D,II,Yu,Xx]
 rw[ag]at J;refine⟨_,_,_,rfl,AA rfl ?_⟩;rw[add_lit];refine Hp.st (o:=6) J.Ae EQ4 iSAt rfl rfl (by simp[nodC]) (cs':=nodC y ⟨id,q,{x with attrs:=Ik x.attrs name},tops k⟩) (by rw[<- n];rfl) fun w7 H5=>?_
 have H6:=Jn (b:=b) (mb:=C) (root:=Ac F) (next:=T.next) (A:=K) (Bw:=N) (y:=y) (e:=⟨id,q,x,tops k⟩) (y':=y) (e':=⟨id,q,{x with attrs:=Ik x.attrs name},tops k⟩) (X:=[]) (B:=f) (w0:=_) (w:=w7) rfl rfl (H5.perm (by
  refine AL fun ff gg h0 hc m af=>?_
  simp only[nodL,m,hc,h0,n];omega))
 obtain⟨u,H7⟩:=OT t d hm hw (x':= {x with attrs:=Ik x.attrs name}) rfl (Rx j U Y ⟨fun a m=>l.1 a (mem_filter.1 m).1,lessA_rs l.2 _⟩ (by show(Ik x.attrs name).length<=20;omega) fun a m=>Z a (mem_filter.1 m).1) H6;exact⟨u,by rw[g],by rw[g];exact H7⟩
theorem gSetText_spec{f:List Nat}{b:Nat}{T:Tr}{w:World}(h:(AU f b T).ok w)(id:Int)(s:ByteArray)(N:s.size<=maxLen):
  Calls Tryz.prog 96 #[.pointer (some ⟨b,0,none⟩),.int .i64 id,.string s] w fun e w'=>∃m,e=.returned (.int .i64 (T.Eu id s).2)/\Hp f w w' [AU m b (T.Eu id s).1]:=by
 apply gSetText.ok;unfold gSetText.vc;have l:Hp f w w [AU f b T]:=Be h;obtain⟨M,⟨F,n,O,R,U,rfl⟩,H,hf⟩:=l.unpack;have i:∀(w':World)(c:Int),Hp f w w' [AU f b T]->T.Eu id s=(T,c)->∃m,Ending.returned (.int .i64 c)=.returned (.int .i64 (T.Eu id s).2)/\Hp f w w' [AU m b (T.Eu id s).1]:=fun w' c Y e=>⟨f,by rw[e],by rw[e];exact Y⟩;obtain⟨Z,G,r,J⟩:=Xc n.nodup U id;refine AA rfl ⟨_,H.lo nMN,Z,(aget (nodM R) id).isSome,H.NC D7 EQ4 m1 G rfl,Gp (fun u=>?_) (fun u=>?_)⟩
 ·refine i _ _ l ?_
  have g:AZ F 0 id=none:=Classical.byContradiction fun j=>by rw[r.2 j]at u;cases u
  rw[Tr.Eu,(n.noRow g).2]
 obtain⟨⟨q,x,k⟩,g⟩:∃z,AZ F 0 id=some z:=Option.ne_none_iff_exists'.1 (r.1 u);obtain⟨Aw,y,Bw,t,rfl,aa⟩:=J g;obtain⟨A,B,v,hm,ab,K,_⟩:=n.rows g
 have d:T.Eu id s=if x.kind≠2 then((T,68):Tr×Int)else if BJ s≠0 then(T,BJ s)else(⟨setR T.L A.length ⟨id,v,x⟩ {x with text:=s},T.next⟩,0):=by
  rw[Tr.Eu,K]
 have hL:∀a∈nodL (y,(⟨id,q,x,tops k⟩:En)),a∈treL b O (Ac F) T.next R++[]:=fun a ha=>mem_append_left _ (Dv (p:=(y,⟨id,q,x,tops k⟩)) (by rw[t];simp) ha);refine AA rfl ⟨x.kind,by rw[add_lit];exact H.ld (o:=2) (cs:=nodC y ⟨id,q,x,tops k⟩) EQ4 yInt (hL _ (.head _)) rfl,AV (fun j=>i _ _ l (by rw[d,if_pos j])) (fun j=>?_)⟩;rw[if_neg (fun h=>h j)]at d;refine AC (Jq s N w) ?_;rintro _ w3 ⟨rfl,C⟩;replace l:=l.ext0 C;replace H:=H.ext0 C;refine⟨_,rfl,AV (fun D=>?_) (fun D=>?_)⟩
 ·refine AC (Jq s N w3) ?_
  rintro _ w4 ⟨rfl,C⟩;exact⟨_,rfl,i _ _ (l.ext0 C) (by rw[d,if_pos D])⟩
 rw[if_neg (fun h=>h D)]at d;subst t;have H1:=IK H;refine AA rfl ?_;rw[add_lit];refine Hp.st (o:=5) H1 EQ4 yStr rfl rfl (by simp[nodC]) (cs':=nodC y ⟨id,q,{x with text:=s},tops k⟩) rfl fun w7 H5=>?_;have H6:=Jn (b:=b) (mb:=O) (root:=Ac F) (next:=T.next) (A:=Aw) (Bw:=Bw) (y:=y) (e:=⟨id,q,x,tops k⟩) (y':=y) (e':=⟨id,q,{x with text:=s},tops k⟩) (X:=[]) (B:=f) (w0:=_) (w:=w7) rfl rfl H5;have ht:=parts_text (RQ n g) j;obtain⟨m,H7⟩:=OT n g hm U (x':= {x with text:=s}) rfl ((text_parts (x:= {x with text:=s}) j ht).trans D) H6;exact⟨m,by rw[d],by rw[d];exact H7⟩
end
end Go.Proofs.YtljenkbpnioipaaGreat
namespace Go.Vc
open Go
theorem rest_step{α:Type}{kv:α->Value×Value}{d:Array MapEntry}{c:Array Nat}{e:MapEntry}{l:List α}(i:((EH d c).map fun e=>(e.key,e.val)).Perm (l.map kv))(m:(EH d c).Perm (e::EH d (c.push e.born))):
  ∃g r h,l=g++r::h/\(e.key,e.val)=kv r/\((EH d (c.push e.born)).map fun e=>(e.key,e.val)).Perm ((g++h).map kv)/\(EH d (c.push e.born)).length<(EH d c).length:=by
 have j:(e.key,e.val)∈l.map kv:=i.mem_iff.1 (mem_map.2 ⟨e,m.mem_iff.2 (.head _),rfl⟩);obtain⟨r,n,k⟩:=mem_map.1 j;obtain⟨g,h,rfl⟩:=append_of_mem n;refine⟨g,r,h,rfl,k.symm,?_,by have:=m.length_eq;simp only[length_cons]at this;omega⟩
 have o:((e.key,e.val)::(EH d (c.push e.born)).map fun e=>(e.key,e.val)).Perm ((e.key,e.val)::((g++h).map kv)):=by
  refine((m.map fun e=>(e.key,e.val)).symm.trans i).trans ?_;rw[<- k];exact(perm_middle (a:=r) (l₁:=g) (l₂:=h)).map _
 exact(List.perm_cons _).1 o
theorem Xy{α:Type}{kv:α->Value×Value}{l:List MapEntry}{c:List α}(a:(l.map fun e=>(e.key,e.val)).Perm (c.map kv))(h:l=[]):c=[]:=by
 subst h;have:=a.length_eq;simp at this;exact eq_nil_of_length_eq_zero this.symm
end Go.Vc
namespace Go.Nod
theorem SI:∀(F:Fo)(p:Int),FOk F->∀e∈ents F p,Ap e.x=0
 |.nil,_,_,e,h=>by rw[ents]at h;cases h
 |.cons i x k s,p,h,e,a=>by
  rw[ents,mem_cons,mem_append]at a;rcases a with rfl|a|a
  ·exact h.1
  ·exact SI k i h.2.2.1 e a
  ·exact SI s p h.2.2.2 e a
theorem Mid.parent{F:Fo}{i q:Int}{x:NX}{k:Fo}{A B:List Rw}{v:Int}(m:Mid F 0 i 0 q x k A B v):BG (flat F 0) A.length=q:=by
 rcases m.up with⟨a,c⟩|⟨_,A1,y,h,d,e⟩
 ·rw[BG,m.here]
  dsimp only;rw[m.fl,List.take_left,a];refine Jp A 0 fun z g=>?_;rw[c];exact CO F 0 z (by rw[m.fl];exact mem_append_left _ g)
 ·rw[m.fl]
  subst d;exact parent_mid rfl e
end Go.Nod
namespace Go.Proofs.YtljenkbpnioipaaGreat
noncomputable section
open Go Go.Vc Go.Nod
theorem Q5{w:World}{d:Nat}{e:TypeId}{j:Nat}{a:Option Addr}{n c:Nat}{xs:List Value}(h:Own w d e j a n c xs):a=none->n=0:=fun e=>by
 rcases h.2 with⟨_,k,_⟩|⟨g,_,_,i,_⟩
 ·exact k
 ·rw[e]at i;cases i
theorem dK{F:Fo}{T:Tr}(c:BN F T){a:List (NW×En)}(d:DK F a):∀p∈a,p.2.x.attrs.length<=1000:=fun p e=>by
 have:=(FK (SI F 0 c.ok p.2 (d.mem_iff.1 (mem_map.2 ⟨p,e,rfl⟩)))).1;omega
section
variable{f:List Nat}{b:Nat}{T:Tr}{w:World}
theorem Ip(h:(AU f b T).ok w):Calls Tryz.prog 28 #[.pointer (some ⟨b,0,none⟩)] w fun e w'=>∃g a c,e=.returned (.slice a T.L.length c)/\Hp f w w' [AU g b T,.own 3 1 a T.L.length c (AO (T.L.map (·.id)))]:=by
 have n:Hp f w w [AU f b T]:=Be h;obtain⟨M,⟨F,d,i,j,k,rfl⟩,H,x⟩:=n.unpack;have o:=WA d;have y:=BR d;have l:=d.len;refine Calls.mono (gOrder_w d.nodup (by omega) k H.std1) ?_;rintro _ z ⟨a,c,rfl,p⟩;have m:=H.useL p;rw[o]at m⊢
 obtain⟨g,q⟩:=(m.perm (M:=treL b i (Ac F) T.next j++[.own 3 1 a T.L.length c (AO (T.L.map (·.id)))]) (by
  refine AL fun ff A r s t u=>?_
  simp only[t,s,r];omega)).DJ (Q:=KH b T) ⟨F,d,i,j,k,rfl⟩
 exact⟨g,a,c,rfl,q⟩
theorem Ie(h:(AU f b T).ok w):Calls Tryz.prog 32 #[.pointer (some ⟨b,0,none⟩),.int .i64 (dI T)] w fun e w'=>∃i a c ss,e=.returned (.slice a T.L.length c)/\SlOk (T.L.map AY) ss/\
  Hp f w w' (AU i b T::.own 123 5 a T.L.length c (itsC (T.L.map AY) ss)::BQ (T.L.map AY) ss):=by
 have q:Hp f w w [AU f b T]:=Be h;obtain⟨M,⟨F,d,l,j,k,rfl⟩,H,B⟩:=q.unpack;have r:=WA d;have C:=BR d;have m:=d.len;have g:∀p∈j,p.2.x.attrs.length<=1000:=dK d k;have:=gItems_w d.nodup (by omega) g k (Ac F) H.std1;rw[show dI T=Ac F from(aP d).symm];refine Calls.mono this ?_;rintro _ D ⟨a,c,ss,rfl,n,s⟩;have o:=H.useL s;rw[r]at o n⊢
 obtain⟨i,t⟩:=(o.perm (M:=treL b l (Ac F) T.next j++(.own 123 5 a T.L.length c (itsC (T.L.map AY) ss)::BQ (T.L.map AY) ss)) (by
  refine AL fun ff G u y z A=>?_
  simp only[z,y,u];omega)).DJ (Q:=KH b T) ⟨F,d,l,j,k,rfl⟩
 exact⟨i,a,c,ss,rfl,n,t⟩
theorem Lu(h:(AU f b T).ok w)(id:Int):Calls Tryz.prog 29 #[.pointer (some ⟨b,0,none⟩),.int .i64 id] w fun e w'=>∃s,
  (atR T.L id=none/\e=.returned (.tuple #[.agg #[.int .i64 0,.int .i64 0,.int .i64 0,.int .i64 0,.string ⟨#[]⟩,.string ⟨#[]⟩,.slice none 0 0],.bool false])/\Hp f w w' [AU s b T])\/
  ∃n r a c kd,atR T.L id=some (n,r)/\e=.returned (.tuple #[.agg #[.int .i64 id,.int .i64 (BG T.L n),.int .i64 r.x.kind,.int .i64 kd,.string r.x.name,.string r.x.text,.slice a r.x.attrs.length c],.bool true])/\r.x.attrs.length<=20/\
   Hp f w w' [AU s b T,.own 142 2 a r.x.attrs.length c (atC r.x.attrs)]:=by
 apply gGet.ok;unfold gGet.vc;have H0:Hp f w w [AU f b T]:=Be h;obtain⟨M,⟨F,l,U,N,Y,rfl⟩,H,hf⟩:=H0.unpack;rw[append_nil]at H;intro zb w1 u;have t:=H.nw u;clear H u;obtain⟨pv,Z,C,ab⟩:=Xc l.nodup Y id;refine AA rfl ⟨_,t.lo nMN,pv,(aget (nodM N) id).isSome,t.NC D7 EQ4 m2 Z rfl,Gp (fun O=>?_) (fun O=>?_)⟩
 ·have d:AZ F 0 id=none:=Classical.byContradiction fun h2=>by rw[C.2 h2]at O;cases O
  refine Hp.sA t KE (cs':=[.int .i64 0,.int .i64 0,.int .i64 0,.int .i64 0,.string ⟨#[]⟩,.string ⟨#[]⟩,.slice none 0 0]) fun w2 D=>?_;refine⟨0,0,0,0,⟨#[]⟩,⟨#[]⟩,none,0,0,D.loA KE,?_⟩;obtain⟨s,m⟩:=Za (X:=[]) l Y (by rw[append_nil];exact D.drop);exact⟨s,.inl ⟨(l.noRow d).2,rfl,m⟩⟩
 obtain⟨⟨q,x,k⟩,d⟩:∃z,AZ F 0 id=some z:=Option.ne_none_iff_exists'.1 (C.1 O);obtain⟨Aw,y,Bw,ad,rfl,ag⟩:=ab d;obtain⟨A,B,v,hm,ah,ae,_⟩:=l.rows d;have G:∀a∈nodL (y,(⟨id,q,x,tops k⟩:En)),a∈treL b U (Ac F) T.next N:=fun a ha=>Dv (p:=(y,⟨id,q,x,tops k⟩)) (by rw[ad];simp) ha;have af:=(FK (RQ l d)).1;refine AA rfl ⟨id,q,x.kind,0,x.name,x.text,y.aa,x.attrs.length,y.ac,t.ldA (o:=0) (cs:=nodC y ⟨id,q,x,tops k⟩) EQ4 KE (.tail _ (G _ (.head _))) rfl rfl,?_⟩;intro b2 w2 J;have D:=t.nw J;clear t J;refine Hp.sA D KE (cs':=[.int .i64 id,.int .i64 q,.int .i64 x.kind,.int .i64 0,.string x.name,.string x.text,.slice y.aa x.attrs.length y.ac]) fun w3 m=>?_;clear D;have j:Own w3.drew 0 142 2 y.aa x.attrs.length y.ac (atC x.attrs):=(m.drew).ownA (.tail _ (.tail _ (G _ m1)));refine AA rfl ⟨y.ka,(tops k).length,y.kc,by rw[add_lit];exact m.ld (o:=7) (cs:=nodC y ⟨id,q,x,tops k⟩) EQ4 nSI (.tail _ (.tail _ (G _ (.head _)))) rfl,AA rfl ⟨y.aa,x.attrs.length,y.ac,by rw[add_lit];exact m.ld (o:=6) (cs:=nodC y ⟨id,q,x,tops k⟩) EQ4 iSAt (.tail _ (.tail _ (G _ (.head _)))) rfl,?_⟩⟩;refine AC (GN y.aa x.attrs.length y.ac (atC x.attrs) w3.drew j.cells (Lt _) (MF _) (Q5 j) (by omega)) ?_;rintro _ w4 ⟨g,i,rfl,Hc⟩;have H4:=m.drew.ext1 Hc;clear m;refine⟨g,_,i,rfl,by rw[add_lit];exact H4.ld (o:=7) (cs:=nodC y ⟨id,q,x,tops k⟩) EQ4 nSI (.tail _ (.tail _ (.tail _ (G _ (.head _))))) rfl,?_⟩;refine Hp.s1 H4.Ae yInt (cs':=[.int .i64 id,.int .i64 q,.int .i64 x.kind,.int .i64 ((tops k).length:Int),.string x.name,.string x.text,.slice y.aa x.attrs.length y.ac]) fun w5 H5=>?_;refine Hp.s1 H5 iSAt (cs':=[.int .i64 id,.int .i64 q,.int .i64 x.kind,.int .i64 ((tops k).length:Int),.string x.name,.string x.text,.slice g x.attrs.length i]) fun w6 H6=>?_;refine⟨id,q,x.kind,((tops k).length:Int),x.name,x.text,g,x.attrs.length,i,H6.loA KE,?_⟩;refine Hp.sA H6.BD KE (cs':=[.int .i64 id,.int .i64 q,.int .i64 x.kind,.int .i64 ((tops k).length:Int),.string x.name,.string x.text,.slice g x.attrs.length i]) fun w7 H7=>?_;refine⟨id,q,x.kind,((tops k).length:Int),x.name,x.text,g,x.attrs.length,i,H7.loA KE,?_⟩
 have H8:Hp f w w7 (treL b U (Ac F) T.next N++[.own 142 2 g x.attrs.length i (atC x.attrs)]):=Hp.BP (R:=[.blk zb [.int .i64 id,.int .i64 q,.int .i64 x.kind,.int .i64 ((tops k).length:Int),.string x.name,.string x.text,.slice g x.attrs.length i] 71,.blk b2 [.int .i64 id,.int .i64 q,.int .i64 x.kind,.int .i64 ((tops k).length:Int),.string x.name,.string x.text,.slice g x.attrs.length i] 71]) (H7.perm (by
  refine AL fun ff gg h0 hc ha ak=>?_
  simp only[ha,hc,h0];omega))
 obtain⟨s,H9⟩:=H8.DJ (Q:=KH b T) ⟨F,l,U,N,Y,rfl⟩
 have K:BG T.L A.length=q:=by rw[<- l.fl];exact hm.parent
 exact⟨s,.inr ⟨A.length,⟨id,v,x⟩,g,i,((tops k).length:Int),ae,by rw[K],af,H9⟩⟩
end
end
noncomputable section
open Go Go.Vc Go.Nod
theorem nundMN:Tryz.prog.underlying 117=some (.map 3 136):=by kernel_rfl
theorem nodM_app(a b:List (NW×En)):nodM (a++b)=nodM a++nodM b:=by simp[nodM]
theorem nodsL_app(a b:List (NW×En)):BX (a++b)=BX a++BX b:=by simp[BX]
theorem QN{f:List Nat}{b:Nat}{T:Tr}{w:World}(h:(AU f b T).ok w):
  Calls Tryz.prog 49 #[.pointer (some ⟨b,0,none⟩)] w fun e w'=>∃f1 f2 b',e=.returned (.pointer (some ⟨b',0,none⟩))/\Hp f w w' [AU f1 b T,AU f2 b' T]:=by
 apply gClone.ok;unfold gClone.vc;have H0:Hp f w w [AU f b T]:=Be h;obtain⟨M,⟨F,hG,j,l,hw,rfl⟩,H,hf⟩:=H0.unpack;rw[append_nil]at H;have af:=dK hG hw;have hn:=hG.nodup;have a5:=hG.len;have a6:=BR hG
 have ag:∀p∈l,p.2.kids.length<=1000:=fun p hp=>by
  have:=Hr F 0 p.2 (hw.mem_iff.1 (mem_map.2 ⟨p,hp,rfl⟩));omega
 refine AA rfl ⟨Ac F,by rw[add_lit];exact H.lo yInt,AA rfl ⟨T.next,by rw[add_lit];exact H.lo yInt,?_⟩⟩;intro r w1 ah;have H1:=H.newI EQ4 .i64 ah;refine⟨by rw[add_lit];exact H1.lo yInt,by rw[add_lit];exact H1.lo yInt,?_⟩;intro C w2 ak;have N:=H1.new (cs:=treC r (Ac F) T.next) EQ4 ak;clear H H1 H0 ah ak;refine AA rfl ⟨some j,N.lo nMN,?_⟩
 replace N:=N.perm (M:=.imap j .i64 (nodM l)::(.blk C (treC r (Ac F) T.next) 119::.imap r .i64 []::.blk b (treC j (Ac F) T.next) 119::BX l)) (by
  refine AL fun ff gg t D u G=>?_
  simp only[treL,u,D,t];omega)
 obtain⟨J,d,hb,hr,al,ho⟩:MapAt (DF .i64) w2 j (nodM l):=N.ok _ (.head _);replace N:Hp f w w2 (objA j (.map J d)::(.blk C (treC r (Ac F) T.next) 119::.imap r .i64 []::.blk b (treC j (Ac F) T.next) 119::BX l)):=N.set (Chg.refl _ _) (RS hb) (fun k hk=>.inl hk);refine N.rng EQ4 nundMN hb ?_;intro it w3 H3;clear N hb
 refine AP.mk (fun(m:Nat)(s:PUnit)(w':World)=>∃(g:Array Nat)(R rs n:List (NW×En)),m=(EH J g).length/\(R++rs).Perm l/\n.map (·.2)=R.map (·.2)/\
  ((EH J g).map fun e=>(e.key,e.val)).Perm (rs.map fun p=>(Value.int .i64 p.2.id,Value.pointer (some ⟨p.1.b,0,none⟩)))/\
  Hp f w w' (objA it (.mapIter (some j) d g d)::objA j (.map J d)::.blk b (treC j (Ac F) T.next) 119::(BX l++treL C r (Ac F) T.next n))) (EH J #[]).length
  ⟨#[],[],l,[],rfl,.refl _,rfl,?_,H3.perm ?_⟩ ?_
 ·rw[QO]
  have ar:J.toList.map (fun e=>(e.key,e.val))=(nodM l).map fun q=>((DF .i64).enc q.1,q.2):=hr;rw[ar,nodM,map_map];exact .refl _
 ·refine AL fun ff gg t D u G=>?_
  simp only[treL,nodM,BX,List.map_nil,List.flatMap_nil,u,D,t];omega
 clear H3
 rintro m s w4 next ⟨g,R,rs,n,rfl,i,U,am,H4⟩ X
 refine H4.nxt EQ4 (H4.obj m1) ho al ?_ ?_
 ·intro t
  have av:=Xy am t;subst av;rw[append_nil]at i
  have aw:DK F n:=by
   show(n.map (·.2)).Perm _;rw[U];exact(i.map _).trans hw
  have O:=H4.drop;replace O:Hp f w w4 (.imap j .i64 (nodM l)::(.blk b (treC j (Ac F) T.next) 119::(BX l++treL C r (Ac F) T.next n))):=O.set (Chg.refl _ _) ⟨J,d,O.obj (.head _),hr,al,ho⟩ (fun k hk=>.inl hk)
  have H6:Hp f w w4 (treL b j (Ac F) T.next l++(treL C r (Ac F) T.next n++[])):=O.perm (by
   refine AL fun ff gg t D u G=>?_
   simp only[treL,u,D,t];omega)
  obtain⟨f1,Y⟩:=H6.DJ (Q:=KH b T) ⟨F,hG,j,l,hw,rfl⟩;obtain⟨f2,H8⟩:=(Y.perm List.perm_middle.symm:Hp f w w4 (treL C r (Ac F) T.next n++[AU f1 b T])).DJ (Q:=KH C T) ⟨F,hG,r,n,aw,rfl⟩;exact⟨f1,f2,C,rfl,H8.Ae⟩
 ·intro e w5 he hp O A
  clear H4;obtain⟨l1,⟨y,c⟩,l2,rfl,a0,Z,a1⟩:=rest_step am hp
  injection a0 with hk1 hk2
  rw[hk1,hk2]at A;have ab:(y,c)∈l:=i.mem_iff.1 (mem_append_right _ (by simp));have a2:=af _ ab;have a3:=ag _ ab;dsimp only at a2 a3 A;have hL:∀a∈nodL (y,c),a∈BX l:=Xq ab;refine⟨c.id,some ⟨y.b,0,none⟩,_,A,?_⟩;refine AA rfl ⟨c.id,c.par,c.x.kind,0,c.x.name,c.x.text,y.aa,c.x.attrs.length,y.ac,y.ka,c.kids.length,y.kc,O.ldA (o:=0) (cs:=nodC y c) EQ4 dW (.tail _ (.tail _ (.tail _ (mem_append_left _ (hL _ (.head _)))))) rfl rfl,?_⟩;intro xb w6 an;have H6:=O.nw an;clear O an;refine Hp.sA H6 dW (cs':=nodC y c) fun w7 Y=>?_;clear H6;have B:∀{a:Asn},a∈nodL (y,c)->a∈(Asn.blk xb (nodC y c) 139::objA it (.mapIter (some j) d (g.push e.born) d)::objA j (.map J d)::.blk b (treC j (Ac F) T.next) 119::(BX l++treL C r (Ac F) T.next n)):=fun u=>.tail _ (.tail _ (.tail _ (.tail _ (mem_append_left _ (hL _ u)))));refine AA rfl ⟨y.ka,c.kids.length,y.kc,by rw[add_lit];exact Y.ld (o:=7) (cs:=nodC y c) EQ4 nSI (B (.head _)) rfl,AA rfl ⟨y.aa,c.x.attrs.length,y.ac,by rw[add_lit];exact Y.ld (o:=6) (cs:=nodC y c) EQ4 iSAt (B (.head _)) rfl,?_⟩⟩;have ad:Own w7.drew 0 3 1 y.ka c.kids.length y.kc (AO c.kids):=(Y.drew).ownA (B m2);refine AC (lCloneI_spec y.ka c.kids.length y.kc (AO c.kids) w7.drew ad.cells (by rw[VI,Nat.mul_one]) (MI _) (Q5 ad) (by omega)) ?_;rintro _ w8 ⟨ka,kc,rfl,Hk⟩;have H8:=Y.drew.ext1 Hk;clear Y Hk ad;refine⟨ka,_,kc,rfl,by rw[add_lit];exact H8.ld (o:=6) (cs:=nodC y c) EQ4 iSAt (.tail _ (B (.head _))) rfl,?_⟩;have ae:Own w8 0 142 2 y.aa c.x.attrs.length y.ac (atC c.x.attrs):=H8.ownA (.tail _ (B m1));refine AC (GN y.aa c.x.attrs.length y.ac (atC c.x.attrs) w8 ae.cells (Lt _) (MF _) (Q5 ae) (by omega)) ?_;rintro _ w9 ⟨aa,ac,rfl,Ha⟩;have H9:=H8.ext1 Ha;clear H8 Ha ae;refine⟨aa,_,ac,rfl,?_⟩;refine Hp.st (o:=7) H9.BD EQ4 nSI rfl rfl (by simp[nodC]) (cs':=nodC {y with ka:=ka,kc:=kc} c) rfl fun a7 ao=>?_;clear H9;rw[add_lit];refine Hp.st (o:=6) ao EQ4 iSAt rfl rfl (by simp[nodC]) (cs':=nodC {y with ka:=ka,kc:=kc,aa:=aa,ac:=ac} c) rfl fun a8 K=>?_;clear ao;obtain⟨z,hz⟩:∃z:NW,z=⟨xb,aa,ac,ka,kc⟩:=⟨_,rfl⟩
  have a4:nodC {y with ka:=ka,kc:=kc,aa:=aa,ac:=ac} c=nodC z c:=by rw[hz];rfl
  rw[a4]at K;refine⟨some r,K.ld (o:=0) (cs:=treC r (Ac F) T.next) EQ4 nMN (.tail _ (.tail _ (.tail _ (.tail _ (.tail _ (.tail _ (mem_append_right _ (.head _)))))))) rfl,?_⟩
  have ap:=K.perm (M:=.imap r .i64 (nodM n)::(.blk C (treC r (Ac F) T.next) 119::.blk xb (nodC z c) 139::.own 142 2 aa c.x.attrs.length ac (atC c.x.attrs)::.own 3 1 ka c.kids.length kc (AO c.kids)::objA it (.mapIter (some j) d (g.push e.born) d)::objA j (.map J d)::.blk b (treC j (Ac F) T.next) 119::(BX l++BX n))) (by
   refine AL fun ff gg t D u G=>?_
   simp only[treL,u,D,t];omega)
  clear K;refine Hp.mupI D7 ap EQ4 fun a9 aq=>?_;clear ap
  have L:c.id∉(nodM n).map (·.1):=by
   have h1:((R++(l1++(y,c)::l2)).map fun p=>p.2.id).Nodup:=by
    have h2:=hw.apart hn;rw[Ef,nodM,map_map]at h2;exact((i.map fun p=>p.2.id).nodup_iff).2 h2
   have e1:(nodM n).map (·.1)=R.map fun p=>p.2.id:=by
    have:=congrArg (List.map En.id) U;rw[map_map,map_map]at this;rw[nodM,map_map];exact this
   rw[e1];rw[map_append,nodup_append]at h1;intro hm;exact h1.2.2 c.id hm c.id (mem_map.2 ⟨(y,c),by simp,rfl⟩) rfl
  rw[LC _ _ _ L]at aq;refine X _ _ _ a1 ⟨g.push e.born,R++[(y,c)],l1++l2,n++[(z,c)],rfl,?_,?_,Z,aq.perm ?_⟩
  ·refine List.Perm.trans ?_ i
   rw[append_assoc];exact(perm_middle (a:=(y,c)) (l₁:=l1) (l₂:=l2)).symm.append_left R
  ·rw[map_append,map_append,U];rfl
  ·have e1:nodM (n++[(z,c)])=nodM n++[(c.id,.pointer (some ⟨xb,0,none⟩))]:=by rw[nodM_app,hz];rfl
   refine AL fun ff gg t D u G=>?_
   have e2:BX [(z,c)]=[.blk xb (nodC z c) 139,.own 142 2 aa c.x.attrs.length ac (atC c.x.attrs),.own 3 1 ka c.kids.length kc (AO c.kids)]:=by rw[hz];rfl
   simp only[Q,treL,e1,e2,nodsL_app,u,D,t];omega
end
end Go.Proofs.YtljenkbpnioipaaGreat
namespace Go.Nod
noncomputable section
open Classical
def rowI(r:Rw):It:=⟨r.level,r.x⟩
theorem rows_row{L:List Rw}{k:Nat}{x:It}(h:(L.map rowI)[k]? =some x):∃i,L[k]? =some ⟨i,x.level,x.x⟩:=by
 rw[List.getElem?_map]at h
 cases hr:L[k]? with
 |none=>rw[hr]at h;cases h
 |some r=>rw[hr]at h;cases h;exact⟨r.id,rfl⟩
theorem UA:∀(L:List Rw),KF (L.map (·.id)) (L.map rowI)=L
 | []=>rfl
 |r::L=>by
  have:=UA L;rw[KF]at this⊢;rw[map_cons,map_cons,List.zipWith_cons_cons,this];rfl
theorem O8{F:Fo}{b:Int}(f:FOk F){L:List Rw}(h:flat F 0=L):WT (L.map rowI):=by
 intro k x g;obtain⟨i,a⟩:=rows_row g;rw[<- h]at a;refine⟨?_,fun e=>?_,fun y l j=>?_⟩
 ·have:=CO F 0 _ (mem_of_getElem? a)
  dsimp only at this;omega
 ·subst e
  have:=FP F 0 _ (by rw[List.head?_eq_getElem?];exact a);exact this
 ·obtain⟨m,d⟩:=rows_row j
  rw[<- h]at d;obtain⟨c,rfl⟩:∃c,k=c+1:=⟨k-1,by omega⟩;have:=(RG _ c _ _ (KO F 0 f) d a).1;dsimp only at this;omega
theorem YT{F:Fo}{T:Tr}(b:BN F T):∀(k:Nat)(x:It),0<k->(T.L.map rowI)[k]? =some x->1<=x.level:=by
 intro j y g d;obtain⟨i,a⟩:=rows_row d;rw[<- b.fl]at a;rcases b.one with e|⟨h,l,f,e,_⟩
 ·rw[e]at a;simp[flat]at a
 ·rw[e,flat,flat,append_nil]at a
  obtain⟨c,rfl⟩:∃c,j=c+1:=⟨j-1,by omega⟩;rw[List.getElem?_cons_succ]at a;have:=CO f (0+1) _ (mem_of_getElem? a);dsimp only at this;omega
theorem Nv{F:Fo}{T:Tr}(a:BN F T)(f:T.L≠[]):(DC (T.L.map rowI)).2=0:=by
 rw[DC,if_neg (by simpa using f),MH];intro k x g;rw[Nat.zero_add];obtain⟨i,d⟩:=rows_row g;have c:=O8 (b:=0) a.ok a.fl k x g;have n:=a.deep _ (mem_of_getElem? d);have s:=(List.getElem?_eq_some_iff.1 d).1;have o:=a.len;have t:Ap x.x=0:=IW F 0 a.ok ⟨i,x.level,x.x⟩ (by rw[a.fl];exact mem_of_getElem? d)
 have j:BV (T.L.map rowI) k x=0:=by
  rw[BV];by_cases u:k=0
  ·subst u
   have w:x.x.kind=1:=by
    rcases a.one with e|⟨D,z,G,e,p⟩
    ·exact(f (by rw[<- a.fl,e];rfl)).elim
    ·rw[<- a.fl,e,flat,List.getElem?_cons_zero]at d
     have A:z=x.x:=congrArg Rw.x (Option.some.inj d);rw[<- A];exact p
   have H:=c.2.1 rfl;rw[if_neg (by omega),if_neg (by omega),if_neg (by dsimp only at n;omega),if_neg (by omega)]
  ·have p:=YT a k x (by omega) g
   have B:¬∃y,(T.L.map rowI)[k-1]? =some y/\(y.level+1<x.level\/(y.level<x.level/\y.x.kind=2)):=by
    rintro⟨y,q,l⟩;have J:=c.2.2 y (by omega) q;obtain⟨K,C⟩:=rows_row q;obtain⟨m,rfl⟩:∃m,k=m+1:=⟨k-1,by omega⟩;have r:=(RG T.L m _ _ (by rw[<- a.fl];exact KO F 0 a.ok) C d).2;dsimp only at r;rcases l with l|⟨l,M⟩
    ·omega
    ·have:=r (by omega);omega
   rw[if_neg (by omega),if_neg (fun h=>h.2.elim (by omega) B),if_neg (by dsimp only at n;omega),if_neg (by omega)]
 rw[oneE,if_pos j,t]
end
end Go.Nod
namespace Go.Proofs.YtljenkbpnioipaaGreat
noncomputable section
open Go Go.Vc Go.Nod
theorem ZP:MapT Tryz.prog (DF .i64) 281 3 3 (.int .i64 0):=⟨by kernel_rfl,by kernel_rfl,by kernel_rfl⟩
theorem Lh(l:List (Int×Value))(k x:Int)(v:Value):aget (aput l k v) x=if x=k then some v else aget l x:=by
 induction l with
 |nil=>simp[aput,aget]
 |cons p r b=>
  obtain⟨y,u⟩:=p;simp only[aput];by_cases h:k=y
  ·subst h
   simp only[if_true,aget];by_cases a:x=k<;>simp[a]
  ·simp only[if_neg h,aget,b]
   by_cases a:x=y
   ·subst a;simp[Ne.symm h]
   ·simp[a]
theorem gRestore_spec{F:Fo}{T:Tr}(hG:BN F T)(la:Option Addr)(n lc:Nat)(ss:List Sl3)(za:Option Addr)(zn zc:Nat)(w:World)(hA:Df [] w la n (T.L.map rowI) ss)(hz:Cells w za (AO (T.L.map (·.id))))(hzn:zn=T.L.length):
  Calls Tryz.prog 136 #[.slice la n lc,.slice za zn zc,.int .i64 T.next] w fun e w'=>∃f b,e=.returned (.tuple #[.pointer (some ⟨b,0,none⟩),.int .i64 0])/\Hp [] w w' [AU f b T]:=by
 apply gRestore.ok;unfold gRestore.vc;have hlen:=hA.now.len;rw[length_map]at hlen
 obtain rfl:zn=n:=by omega
 have hlen2:=hG.len;have hnx:=hG.next;obtain⟨zs,hzs⟩:∃zs,zs=T.L.map (·.id):=⟨_,rfl⟩;rw[<- hzs]at hz
 have hzi:zs=Nod.ids F:=by rw[hzs,<- hG.fl,BH]
 have hzl:zs.length=T.L.length:=by rw[hzs,length_map]
 have hpos:∀z∈zs,1<=z/\z<T.next:=fun z h=>hG.pos z (by rw[<- hzi];exact h)
 have hznd:zs.Nodup:=by rw[hzi];exact hG.nodup
 refine AV (fun h=>by omega) (fun _=>AB (fun h=>by omega) (fun _=>AB (fun h=>by omega) (fun _=>?_)));refine AC (WS w) ?_;rintro _ w1 ⟨b,f,rfl,H1⟩;obtain⟨M,⟨F0,hG0,mb,ws,hw,rfl⟩,H2,_⟩:=H1.unpack
 have hF0:F0=.nil:=by
  have:=BR hG0
  cases F0 with
  |nil=>rfl
  |cons i x k s=>simp[Nod.ids]at this
 subst hF0
 have hws:ws=[]:=by
  have:=hw.len;exact eq_nil_of_length_eq_zero this
 subst hws;refine⟨_,rfl,AA rfl ?_⟩;rw[add_lit];refine Hp.st (o:=2) H2 EQ4 yInt rfl rfl (by simp[treC]) (cs':=treC mb 0 T.next) rfl fun w2 H3=>?_;have H3':Hp [] w w2 (treL b mb 0 T.next []):=H3;clear H1 H2 H3;intro ub w3 hn3;have H4:=H3'.newI EQ4 .i64 hn3;clear H3';refine AP.mk (fun m s w'=>∃(j:Nat)(al:List (Int×Value)),m=zn-j/\j<=zn/\s=(j:Int)/\(∀z∈zs.drop j,aget al z=none)/\Hp [] w w' (.imap ub .i64 al::treL b mb 0 T.next [])) zn ⟨0,[],rfl,by omega,rfl,fun z _=>rfl,H4⟩ ?_;clear H4;rintro m s w4 nx ⟨j,al,rfl,hj,rfl,hal,H5⟩ hnx2;refine AB (fun h=>?_) (fun h=>?_)
 ·have hjl:j<zs.length:=by omega
  have hzj:(AO zs)[j]? =some (.int .i64 zs[j]):=by simp[AO,hjl]
  have hzc:Cells w4 za (AO zs):=hz.chg H5.chg (by simp);obtain⟨ad,had,_⟩:=hzc j _ hzj;have hp:=hpos zs[j] (List.getElem_mem hjl);have hno:aget al zs[j]=none:=hal _ (by rw[<- getElem_cons_drop hjl];exact .head _);refine AA had ⟨⟨by omega,h⟩,zs[j],by rw[Int.toNat_natCast,Nat.mul_one];exact hzc.ld yInt had hzj,AB (fun h2=>by omega) (fun _=>AB (fun h2=>by omega) (fun _=>?_))⟩;refine⟨0,H5.lkI ZP EQ4 (.head _) (by rw[hno];rfl),AB (fun h2=>by omega) (fun _=>⟨0,H5.lkI ZP EQ4 (.head _) (by rw[hno];rfl),iR,?_⟩)⟩;refine Hp.mupI ZP H5 EQ4 fun w5 H6=>⟨iR,hnx2 (zn-(j+1)) _ _ (by omega) ⟨j+1,_,rfl,by omega,by simp,fun z hzz=>?_,H6⟩⟩;have hd:(zs.drop j).Nodup:=hznd.sublist (List.drop_sublist _ _);rw[<- getElem_cons_drop hjl,nodup_cons]at hd;have hne:z≠zs[j]:=fun e=>hd.1 (by rw[<- e];exact hzz);rw[Lh,if_neg hne];exact hal z (by rw[<- getElem_cons_drop hjl];exact .tail _ hzz)
 have hres:∀{ws':List (NW×En)}{w':World}{X:List Asn},DK F ws'->Hp [] w w' (treL b mb (Ac F) T.next ws'++X)->∃f b',Ending.returned (.tuple #[.pointer (some ⟨b,0,none⟩),.int .i64 0])=.returned (.tuple #[.pointer (some ⟨b',0,none⟩),.int .i64 0])/\Hp [] w w' [AU f b' T]:=fun{ws' w' X} hw' H=>by
  have H2:Hp [] w w' (treL b mb (Ac F) T.next ws'++[]):=by rw[append_nil];exact H.BP
  obtain⟨f',H3⟩:=H2.DJ (Q:=KH b T) ⟨F,hG,mb,ws',hw',rfl⟩;exact⟨f',b,rfl,H3⟩
 refine AB (fun h2=>?_) (fun h2=>?_)
 ·have hT:T.L=[]:=eq_nil_of_length_eq_zero (by omega)
  have hF:F=.nil:=by
   have:=BR hG;rw[hT]at this
   cases F with
   |nil=>rfl
   |cons i x k s=>simp[Nod.ids]at this
  subst hF;exact hres (ws':=[]) (X:=[]) (List.Perm.refl _) (by rw[append_nil];exact H5.drop)
 have hne:T.L≠[]:=fun e=>h2 (by rw[hlen,e];rfl);refine AC (Ia la _ lc (T.L.map rowI) ss w4 (hA.now.go H5) hA.len hA.sls hA.small) ?_;rintro _ w6 ⟨rfl,H'⟩;have H6:=H5.ext0 H';clear H5 H';rw[Nv hG hne];refine⟨_,_,rfl,AV (fun h3=>by omega) (fun _=>?_)⟩;have H7:=H6.drop
 have hparts:∀x∈T.L.map rowI,Ap x.x=0:=fun x hx=>by
  obtain⟨r,hr,rfl⟩:=mem_map.1 hx;exact IW F 0 hG.ok r (by rw[hG.fl];exact hr)
 refine AC (Xb (w:=w6) H7.std 0 0 la _ lc (T.L.map rowI) ss za zc zs (fun W hW=>hA.rd W (H7.chgT hW)) (fun W hW=>hz.chg (H7.chgT hW) (by simp)) (by rw[hzl,length_map]) (by simpa using hne) (by omega) (hA.att hparts) (O8 (b:=0) hG.ok hG.fl) (fun _=>YT hG) ⟨0,0,⟨0,⟨#[]⟩,⟨#[]⟩,[]⟩,[]⟩ [] ?_ ?_ (fun z hz=>by have:=hpos z hz;omega) ⟨by omega,by simp⟩ (by simp)) ?_
 ·exact .inl ⟨rfl,.refl _,rfl⟩
 ·rw[Ii,if_pos rfl,append_nil];exact hznd
 rintro _ w7 ⟨ws',N,root,at',rfl,hI,H9⟩;have H10:=H7.Xm H9
 have hfl:flat N 0=flat F 0:=by
  rw[hI.fl,hG.fl,take_of_length_le (by omega),take_of_length_le (by rw[length_map];omega),hzs,UA]
 have hNF:N=F:=KW N F 0 hfl;subst hNF
 obtain⟨hE,hroot⟩:(ws'.map (·.2)).Perm (ents N 0)/\root=Ac N:=by
  rcases hI.ents with⟨_,h2,h3⟩|⟨h2,_⟩
  ·exact⟨h2,h3⟩
  ·exact(h2 rfl).elim
 rw[hroot]at H10;refine⟨_,rfl,hres (X:=[]) hE (by rw[append_nil];exact H10)⟩
end
end Go.Proofs.YtljenkbpnioipaaGreat
