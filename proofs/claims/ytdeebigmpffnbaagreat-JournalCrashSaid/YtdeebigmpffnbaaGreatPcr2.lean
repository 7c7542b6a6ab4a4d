/- Part 2 of 6 of the proof of journalCrash_holds: for every input, from every world that may be reached. -/
import Derived.WalkKit
import Derived.RangeFuncSeq
import Derived.KernelRfl
import Derived.RangeFuncLeaves
import Derived.Test.YtdeebigmpffnbaaGreatChecked
import Derived.Deep.AppendSrc
import Derived.Laws.MakeOwn
import Derived.Laws.BytesArg
import Derived.Laws.BytesString
import Derived.Laws.IdiomStrings
import Derived.Maps.RangeRun
import Derived.Shelf.SlIter.Nil
import Derived.Shelf.SlIterI.Nil
import Derived.Shelf.SortM.Plain
import Derived.Shelf.SortM.SortNone
import Derived.Shelf.SlMaps.Clone
import Derived.StringKeys
import Derived.Laws.Pointers
import Derived.Sort.Walk0
import Derived.Lib.SliceRun
import Derived.Test.YtdeebigmpffnbaaGreatRows
import Derived.ProofKit
import Derived.Laws.StructEq
import Derived.ChangeKeysEq
import Derived.WideKeyRuns
import Derived.Test.YtdeebigmpffnbaaGreatPcr1
set_option linter.unusedVariables false
set_option linter.unusedSimpArgs false
set_option maxRecDepth 100000
set_option maxHeartbeats 4000000
open List(all_eq_true ext_getElem? filter_cons length_cons length_take map_cons map_map mem_append mem_cons mem_filter mem_map mem_singleton nodup_cons pairwise_cons size_toArray)
namespace Go.Proofs.YtdeebigmpffnbaaGreat
open Go Go.Vc
theorem noNum:LD Tryz.prog:=by
 have h : Tryz.prog.funcs.toList.all (fun fn => !(fn.name == "runtime.NumGoroutine")) = true := by kernel_rfl
 intro f fn hf
 have:=all_eq_true.1 h fn (by have:=Array.mem_of_getElem? hf;simpa using this)
 simpa using this
theorem cok(an:An){f:FuncId}{fn:Func}{args:List Value}{w:World}{R:Ending->World->Prop}{V:Prop}(hf:Tryz.prog.funcs[f]? =some fn)(h0:decide (args.length<=fn.ntmps)=true)(e:aW Tryz.prog an fn args w R=V)(h:V):Calls Tryz.prog f args.toArray w R:=calls_of_bodyV noNum hf h0 (e▸h)
section
variable(P:Program)(I:Int->Value)(Q:Option Addr->Value)(S:Option Addr->Nat->Nat->Value)(E:Value->Ending)(w:World)(R:Ending->World->Prop){u:World}{U:Ending->World->Prop}
def new.an:An:=⟨[],[],[],[]⟩
def new.vc(f:Int):Prop:=∀b a,New w (.map #[] 0) b a->∀c e,New a (.map #[] 0) c e->∀d a,New e (.cells #[I (min (max f 0) 65536),S none 0 0,
 .map (some b),.map (some c),S none 0 0,I 0,I 0,.bool false] 71) d a->R (E (Q (some (.mk d 0
 none)))) a
theorem new.ok(f:Int)(Z0:new.vc (.int .i64) .pointer .slice .returned u U f):Calls Tryz.prog 7 #[.int .i64 f] u U:=cok new.an Tryz.func7 (by kernel_rfl) (by kernel_rfl) Z0
def create.an:An:=⟨[],[],[],[]⟩
def create.vc(c:Option Addr)(A:ByteArray):Prop:=∀g a,New w (.cells #[.string A] 9) g a->onP c fun b=>∃l,Ld P 4 a (b.add 7) (.bool l)/\br l (R (E (I 93)) a) (∃
 t,Ld P 9 a (.mk g 0 none) (.string t)/\AB P 30 [.string t] a fun i e=>∃m,i=E (.bool m)/\br (!m) (R
 (E (I 92)) e) (onP c fun b=>∃y d f,Ld P 68 e (b.add 1) (S y d f)/\∀h a,New e (.cells #[I 0] 3)
 h a->∃j,St P 3 a (.mk h 0 none) (I (↑d:Int)) j/\onP c fun b=>∃k d f,Ld P 68 j (b.add 1) (S k d f)/\
 ∀n a,New j (.map #[] 0) n a->∀o v,New a (.cells #[S none 0 0,S none 0 0,.map (some n)] 80) o v->∀p a,New v (.cells
 #[Q (some (.mk o 0 none))] 76) p a->∃b s r x,App P #[68,68] 68 a (S k d f) (S (some (.mk p 0 none)) 1 1) (S b s r)
 x/\onP c fun z=>∃a,St P 68 x (z.add 1) (S b s r) a/\AB P 31 [Q c,Value.func (.func 32) #[] #[Q (some
 (.mk h 0 none)),Q (some (.mk g 0 none))]] a fun i e=>∃q,i=E (I q)/\R (E (I q)) e))
theorem create.ok(c:Option Addr)(A:ByteArray)(Z0:create.vc Tryz.prog (.int .i64) .pointer .slice .returned u U c A):Calls Tryz.prog 9 #[.pointer c,.string A] u U:=cok create.an Tryz.func9 (by kernel_rfl) (by kernel_rfl) Z0
def write.an:An:=⟨[],[],[],[]⟩
def write.vc(p:Option Addr)(L:ByteArray)(j:Int)(D:Option Addr)(B:Nat)(F:Nat):Prop:=AB P 33 [Q p,.string L] w fun h d=>∃l,h=E (Q l)/\onP p fun a=>∃f,Ld P 4 d (a.add 7) (.bool f)/\
 br f (R (E (I 93)) d) (∃f,Eqv P .eql 76 (.tmp 20) (.const (Q none)) d (Q l) (Q none) f/\
 br f (R (E (I 90)) d) (br (decide (j<0)) (R (E (I 91)) d) (onP l fun a=>∃H c g,Ld P 78 d a
 (S H c g)/\br (decide ((↑c:Int)<j)) (R (E (I 91)) d) (br (decide (512<(↑B:Int))) (R (E (I 91)) d)
 (onP l fun a=>∃K c g,Ld P 78 d.drew a (S K c g)/\br (decide (j=(↑c:Int))) (onP p fun a=>∃e,Ld P 3 d.drew a (I e)/\AB P 34 [Q p] d.drew fun h d=>∃G,h=E (I G)/\Ld P 3 d a (I
 e)/\br (decide (e<=G)) (R (E (I 94)) d) (AB P 35 [Q p] d fun h d=>∃f,h=E (.bool f)/\br f (R
 (E (I 95)) d) (∀f b,New d (.cells (List.toArray (zl P 85)) 85) f b->∃C k,Cpy P #[29,29] 3 b (S (some
 (.mk f 0 none)) 512 512) (S D B F) (I C) k/\onP l fun a=>∃z c g,Ld P 78 k a (S z c g)/\br (decide (j=(↑c:Int)))
 (onP l fun a=>∃n c g,Ld P 78 k.drew a (S n c g)/\∃(m:List Value),Ld P 85 k.drew (.mk f 0 none) (.agg
 (List.toArray m))/\∃(h:TypeId),∃(t:List Value),JH P 78 1 [(0,.agg (List.toArray m))] h t/\∀s b,New k.drew (.cells (List.toArray t) h)
 s b->Ld P 78 b a (S n c g)/\∃a v i o,App P #[78,78] 78 b (S n c g) (S (some (.mk s 0 none)) 1 1) (S a
 v i) o/\onP l fun A=>∃b,St P 78 o A (S a v i) b/\onP l fun a=>∃r c g,Ld P 78 b.drew a (S r c g)/\onP l fun a
 =>∃i,Ld P 77 b.drew (a.add 2) (.map i)/\∃(m:List Value),Ld P 85 b.drew (.mk f 0 none) (.agg (List.toArray m))/\onP r
 fun a=>(0<=j/\j<(↑c:Int))/\∃x,St P 85 b.drew (a.add (j.toNat*512)) (.agg (List.toArray m)) x/\∃q e b,MEn P 77
 x (.map i) (I j) (.tuple #[q,I e]) b/\∃y,ESt P 77 b (.map i) (I e) (.bool true) y/\
 AB P 36 [Q p] y fun(h:Ending)(d:World)=>∃e,h=E (I e)/\R (E (I e)) d) (onP l fun a=>
 ∃n c g,Ld P 78 k.drew a (S n c g)/\onP l fun a=>∃i,Ld P 77 k.drew (a.add 2) (.map i)/\∃(m:List Value),Ld
 P 85 k.drew (.mk f 0 none) (.agg (List.toArray m))/\onP n fun a=>(0<=j/\j<(↑c:Int))/\∃b,St P 85 k.drew (Addr.add
 a (j.toNat*512)) (.agg (List.toArray m)) b/\∃q e o,MEn P 77 b (.map i) (I j) (.tuple #[q,I e]) o/\∃b,ESt
 P 77 o (.map i) (I e) (.bool true) b/\AB P 36 [Q p] b fun h d=>∃e,h=E (I e)
 /\R (E (I e)) d)))) (AB P 35 [Q p] d.drew fun h d=>∃f,h=E (.bool f)/\br f (R (E
 (I 95)) d) (∀f b,New d (.cells (List.toArray (zl P 85)) 85) f b->∃C k,Cpy P #[29,29] 3 b (S (some (.mk f 0 none))
 512 512) (S D B F) (I C) k/\onP l fun a=>∃z c g,Ld P 78 k a (S z c g)/\br (decide (j=(↑c:Int))) (onP l fun a=>∃n c
 g,Ld P 78 k.drew a (S n c g)/\∃(m:List Value),Ld P 85 k.drew (.mk f 0 none) (.agg (List.toArray m))/\∃(h:
 TypeId),∃(t:List Value),JH P 78 1 [(0,.agg (List.toArray m))] h t/\∀s b,New k.drew (.cells (List.toArray t) h) s b->Ld P
 78 b a (S n c g)/\∃a v i o,App P #[78,78] 78 b (S n c g) (S (some (.mk s 0 none)) 1 1) (S a v i) o/\onP l fun A=>
 ∃b,St P 78 o A (S a v i) b/\onP l fun a=>∃r c g,Ld P 78 b.drew a (S r c g)/\onP l fun a=>∃i,Ld P
 77 b.drew (a.add 2) (.map i)/\∃(m:List Value),Ld P 85 b.drew (.mk f 0 none) (.agg (List.toArray m))/\onP r fun a=>(0<=j/\j<
 (↑c:Int))/\∃x,St P 85 b.drew (a.add (j.toNat*512)) (.agg (List.toArray m)) x/\∃q e b,MEn P 77 x (.map i) (I j) (.tuple #[q,I e]) b/\∃y,ESt P 77 b (.map i) (I e) (.bool true) y/\AB P 36
 [Q p] y fun h d=>∃e,h=E (I e)/\R (E (I e)) d) (onP l fun a=>∃n c g,Ld P 78 (World.drew
 k) a (S n c g)/\onP l fun a=>∃i,Ld P 77 k.drew (a.add 2) (.map i)/\∃(m:List Value),Ld P 85 k.drew (.mk f
 0 none) (.agg (List.toArray m))/\onP n fun a=>(0<=j/\j<(↑c:Int))/\∃b,St P 85 k.drew (a.add (j.toNat*512)) (.agg (List.toArray
 m)) b/\∃q e o,MEn P 77 b (.map i) (I j) (.tuple #[q,I e]) o/\∃b,ESt P 77 o (.map i)
 (I e) (.bool true) b/\AB P 36 [Q p] b fun h d=>∃e,h=E (I e)/\R (E (I e)) d))))))))
theorem write.ok(p:Option Addr)(L:ByteArray)(j:Int)(D:Option Addr)(B:Nat)(F:Nat)(Z0:write.vc Tryz.prog (.int .i64) .pointer .slice .returned u U p L j D B F):Calls Tryz.prog 10 #[.pointer p,.string L,.int .i64 j,.slice D B F] u U:=cok write.an Tryz.func10 (by kernel_rfl) (by kernel_rfl) Z0
def open_.an:An:=⟨[],[],[],[]⟩
def open_.vc(f:Option Addr)(e:ByteArray):Prop:=∀d i,New w (.cells #[Q f,.string e,.int .u64 0,S none 0 0,I 0,I 0,S none 0 0,I 0] 129) d i->AB P 66 [Q f] i fun c a=>∃g,c=E (.bool g)/\br g (R (E (.tuple #[Q none,
 I 93])) a) (br (decide (e=.mk #[])) (R (E (.tuple #[Q none,I 92])) a) (br (decide (56<
 (↑(e.size):Int))) (R (E (.tuple #[Q none,I 92])) a) (AB P 67 [Q f,.string e] a fun c a=>
 ∃b,c=E (I b)/\br (decide (2<=b)) (AB P 68 [Q (some (.mk d 0 none))] a fun c a=>∃h b,c=E
 (.tuple #[Q h,I b])/\R (E (.tuple #[Q h,I b])) a) (AB P 69 [Q (some (Addr.mk
 d 0 none)),S none 0 0] a fun c a=>∃b,c=E (I b)/\br (!decide (b=0)) (R (E (.tuple #[Q none,I b])) a) (R (E (.tuple #[Q (some (.mk d 0 none)),I 0])) a)))))
theorem open_.ok(f:Option Addr)(e:ByteArray)(Z0:open_.vc Tryz.prog (.int .i64) .pointer .slice .returned u U f e):Calls Tryz.prog 37 #[.pointer f,.string e] u U:=cok open_.an Tryz.func37 (by kernel_rfl) (by kernel_rfl) Z0
def lfirm.an:An:=⟨[],[],[],[]⟩
def lfirm.vc(c:Option Addr):Prop:=onP c fun b=>∃a,Ld P 3 w (b.add 5) (I a)/\R (E (I a)) w
theorem lfirm.ok(c:Option Addr)(Z0:lfirm.vc Tryz.prog (.int .i64) .returned u U c):Calls Tryz.prog 70 #[.pointer c] u U:=cok lfirm.an Tryz.func70 (by kernel_rfl) (by kernel_rfl) Z0
def lstuck.an:An:=⟨[],[],[],[]⟩
def lstuck.vc(c:Option Addr):Prop:=onP c fun b=>∃a,Ld P 27 w (b.add 7) (I a)/\R (E (I a)) w
theorem lstuck.ok(c:Option Addr)(Z0:lstuck.vc Tryz.prog (.int .i64) .returned u U c):Calls Tryz.prog 46 #[.pointer c] u U:=cok lstuck.an Tryz.func46 (by kernel_rfl) (by kernel_rfl) Z0
def arm.an:An:=⟨[],[],[],[]⟩
def arm.vc(c:Option Addr)(d:Int):Prop:=onP c fun b=>∃a,St P 3 w (b.add 5) (I (max d 0)) a/\R (E (.tuple #[])) a
theorem arm.ok(c:Option Addr)(d:Int)(Z0:arm.vc Tryz.prog (.int .i64) .returned u U c d):Calls Tryz.prog 25 #[.pointer c,.int .i64 d] u U:=cok arm.an Tryz.func25 (by kernel_rfl) (by kernel_rfl) Z0
def deny.an:An:=⟨[],[],[],[]⟩
def deny.vc(c:Option Addr)(d:Int):Prop:=onP c fun b=>∃a,St P 3 w (b.add 6) (I (max d 0)) a/\R (E (.tuple #[])) a
theorem deny.ok(c:Option Addr)(d:Int)(Z0:deny.vc Tryz.prog (.int .i64) .returned u U c d):Calls Tryz.prog 26 #[.pointer c,.int .i64 d] u U:=cok deny.an Tryz.func26 (by kernel_rfl) (by kernel_rfl) Z0
def bV.an:An:=⟨[],[(4,[(24,.inl .i64)]),(10,[(63,.inl .i64)])],[],[]⟩
def bV.vc(l:Option Addr)(m:Int)(A:Option Addr)(C:Nat)(B:Nat):Prop:=∀k c,New w (.cells #[S A C B] 30) k c->onP l fun a=>∃p,Ld P 3 c a (I p)/\AB P 7 [I p]
 c fun h b=>∃i,h=E (Q i)/\onP l fun a=>∃o e g,Ld P 68 b (a.add 1) (S o e g)/\Ae (fun(f:Int)(b:World)(n:Int->
 World->Prop)=>br (decide (f<(↑e:Int))) (onP o fun a=>(0<=f/\f<(↑e:Int))/\∃r,Ld P 76 b (a.add (f.toNat*1)) (Q r)/\onP i fun a=>∃
 j e g,Ld P 68 b.drew (a.add 1) (S j e g)/\AB P 63 [Q r,Value.func (.func 62) #[] #[Q (some (.mk k 0
 none))]] b.drew fun h b=>∃s,h=E (Q s)/\Ld P 68 b (a.add 1) (S j e g)/\∀k c,New b (.cells #[Q s]
 76) k c->Ld P 68 c (a.add 1) (S j e g)/\∃a q d v,App P #[68,68] 68 c (S j e g) (S (some (.mk k 0 none)) 1 1)
 (S a q d) v/\onP i fun y=>∃c,St P 68 v (y.add 1) (S a q d) c/\inR .i64 (f+1)/\n (f+1) c) (onP l fun a=>∃d,
 Ld P 67 b (a.add 3) (.map d)/\AB P 64 [.map d] b fun h b=>∃d,h=E (.map d)/\onP i fun a=>∃c,St P 67
 b (a.add 2) (.map d) c/\onP l fun a=>∃j e g,Ld P 69 c.drew (a.add 4) (S j e g)/\onP l fun a=>∃x e z,Ld P 69
 c.drew (a.add 4) (S x e z)/\(0<=min (max m 0) (↑e:Int)/\min (max m 0) (↑e:Int)<=(↑g:Int))/\Ae (fun(f:Int)(b:World)
 (n:Int->World->Prop)=>br (decide (f<(↑(Int.toNat (min (max m 0) (↑e:Int))):Int))) (onP j fun a=>(0<=f/\f<(↑(Int.toNat (min (max m 0) (↑e:Int))):
 Int))/\∃t,Ld P 125 b (a.add (f.toNat*1)) t/\onP i fun a=>∃d,Ld P 67 b (a.add 2) (.map d)/\Du P t [.map d] b
 fun h b=>h=E (.tuple #[])/\inR .i64 (f+1)/\n (f+1) b) (onP i fun a=>∃d,Ld P 67 b (a.add 2) (.map d)/\AB
 P 64 [.map d] b fun h b=>∃d,h=E (.map d)/\onP i fun a=>∃c,St P 67 b (a.add 3) (.map d) c/\R (E
 (Q i)) c)) 0 c.drew)) 0 b
theorem bV.ok(l:Option Addr)(m:Int)(A:Option Addr)(C:Nat)(B:Nat)(Z0:bV.vc Tryz.prog (.int .i64) .pointer .slice .returned u U l m A C B):Calls Tryz.prog 29 #[.pointer l,.int .i64 m,.slice A C B] u U:=cok bV.an Tryz.func29 (by kernel_rfl) (by kernel_rfl) Z0
def lall.an:An:=⟨[],[],[],[]⟩
def lall.vc(a:Option Addr):Prop:=onP a fun c=>∃d a b,Ld P 26 w (c.add 6) (S d a b)/\AB P 111 [S d a b] w fun e f=>∃c a b,e=E (S c a
 b)/\R (E (S c a b)) f
theorem lall.ok(a:Option Addr)(Z0:lall.vc Tryz.prog .slice .returned u U a):Calls Tryz.prog 71 #[.pointer a] u U:=cok lall.an Tryz.func71 (by kernel_rfl) (by kernel_rfl) Z0
def lappend.an:An:=⟨[],[],[],[]⟩
def lappend.vc(d:Option Addr)(o:ByteArray):Prop:=br (decide (65536<(↑(o.size):Int))) (R (E (.tuple #[I 0,I 101])) w) ((onP d fun a=>∃i j c,Ld P
 29 w.drew (a.add 3) (S i j c)/\onP d fun a=>∃g f e,Ld P 26 w.drew (a.add 6) (S g f e)/\AB P 101
 [S i j c,.string o] w.drew fun v p=>∃h l c,v=E (S h l c)/\Ld P 26 p (a.add 6) (S g f e)/\∀k
 b,New p (.cells #[.string o] 9) k b->Ld P 26 b (a.add 6) (S g f e)/\∃a n m q,App P #[26,26] 26 b (S g f e)
 (S (some (.mk k 0 none)) 1 1) (S a n m) q/\onP d fun r=>∃b,St P 29 q (r.add 3) (S h l c) b/\onP d fun s=>∃x,St
 P 26 b (s.add 6) (S a n m) x/\onP d fun a=>∃t d c,Ld P 26 x (a.add 6) (S t d c)/\R (E (.tuple
 #[I (↑d:Int),I 0])) x)/\onP d fun a=>∃i j c,Ld P 29 w.drew (a.add 3) (S i j c)/\onP d fun g=>∃h
 f e,Ld P 26 w.drew (g.add 6) (S h f e)/\∀k b,New w.drew (.cells #[.string o] 9) k b->Ld P 26 b (Addr.add
 g 6) (S h f e)/\Ld P 29 b (a.add 3) (S i j c)/\AB P 101 [S i j c,.string o] b fun v p=>∃a l c,v
 =E (S a l c)/\Ld P 26 p (g.add 6) (S h f e)/\∃r n m b,App P #[26,26] 26 p (S h f e)
 (S (some (.mk k 0 none)) 1 1) (S r n m) b/\onP d fun s=>∃q,St P 29 b (s.add 3) (S a l c) q/\onP d fun a=>∃b,St
 P 26 q (a.add 6) (S r n m) b/\onP d fun a=>∃t d c,Ld P 26 b (a.add 6) (S t d c)/\R (E (.tuple
 #[I (↑d:Int),I 0])) b)
theorem lappend.ok(d:Option Addr)(o:ByteArray)(Z0:lappend.vc Tryz.prog (.int .i64) .slice .returned u U d o):Calls Tryz.prog 56 #[.pointer d,.string o] u U:=cok lappend.an Tryz.func56 (by kernel_rfl) (by kernel_rfl) Z0
def lflush.an:An:=⟨[],[],[],[]⟩
def lflush.vc(c:Option Addr):Prop:=onP c fun a=>∃b,Ld P 27 w (a.add 7) (I b)/\br (!decide (b=0)) (onP c fun a=>∃b,Ld P 27 w (a.add 7) (I b)/\R (E (I b)) w) (onP c fun a=>∃j,Ld P 9 w.drew (a.add 1) (.string j)/\onP c fun a=>∃n o f,Ld
 P 29 w.drew (a.add 3) (S n o f)/\onP c fun a=>∃b,Ld P 3 w.drew (a.add 4) (I b)/\AB
 P 81 [Q c,.string j,S n o f,I b] w.drew fun g d=>∃b,g=E (I b)/\br (decide (b=
 0)) (onP c fun a=>∃j,Ld P 9 d.drew (a.add 1) (.string j)/\onP c fun a=>∃b,Ld P 127 d.drew (a.add 2) (.int
 .u64 b)/\inR .u64 (b+1)/\onP c fun a=>∃l h f,Ld P 29 d.drew (a.add 3) (S l h f)/\AB P 82
 [Q c,.string j,.int .u64 (b+1),I (↑h:Int)] d.drew fun g d=>∃b,g=E (I b)/\br (!decide
 (b=0)) (AB P 83 [Q c,I b] d fun g d=>∃b,g=E (I b)/\R (E (I
 b)) d) (onP c fun a=>∃b,Ld P 127 d (a.add 2) (.int .u64 b)/\inR .u64 (b+1)/\onP c fun a=>∃e,St P 127 d (a.add 2)
 (.int .u64 (b+1)) e/\onP c fun a=>∃m i f,Ld P 29 e.drew (a.add 3) (S m i f)/\onP c fun a=>∃q p f,Ld
 P 26 e.drew (a.add 6) (S q p f)/\onP c fun a=>∃k,St P 3 e.drew (a.add 4) (I (↑i:Int)) k/\
 onP c fun a=>∃e,St P 3 k (a.add 5) (I (↑p:Int)) e/\R (E (I 0)) e)) (br (!decide (b=0)) (AB
 P 83 [Q c,I b] d fun g d=>∃b,g=E (I b)/\R (E (I b)) d) (onP c fun a=>∃
 b,Ld P 127 d (a.add 2) (.int .u64 b)/\inR .u64 (b+1)/\onP c fun a=>∃e,St P 127 d (a.add 2) (.int .u64 (b+
 1)) e/\onP c fun a=>∃l h f,Ld P 29 e.drew (a.add 3) (S l h f)/\onP c fun a=>∃m i f,Ld P 26 e.drew
 (a.add 6) (S m i f)/\onP c fun a=>∃k,St P 3 e.drew (a.add 4) (I (↑h:Int)) k/\onP c fun a=>∃e,St
 P 3 k (a.add 5) (I (↑i:Int)) e/\R (E (I 0)) e)))
theorem lflush.ok(c:Option Addr)(Z0:lflush.vc Tryz.prog (.int .i64) .pointer .slice .returned u U c):Calls Tryz.prog 47 #[.pointer c] u U:=cok lflush.an Tryz.func47 (by kernel_rfl) (by kernel_rfl) Z0
def right.an:An:=⟨[],[],[],[]⟩
def right.vc(a:ByteArray):Prop:=br (!decide (a=.mk #[])) (R (E (.bool (decide ((↑(a.size):Int)<=60)))) w) (R (E (.bool false)) w)
theorem right.ok(a:ByteArray)(Z0:right.vc .returned u U a):Calls Tryz.prog 30 #[.string a] u U:=cok right.an Tryz.func30 (by kernel_rfl) (by kernel_rfl) Z0
def drenameC.an:An:=⟨[],[],[],[]⟩
def drenameC.vc(d:Option Addr)(n:Option Addr)(o:Option Addr):Prop:=onP d fun a=>∃b,Ld P 67 w (a.add 2) (.map b)/\AB P 32 [.map b,Q n,Q o] w fun f e=>f=E (.tuple
 #[])/\onP d fun a=>∃g k i,Ld P 69 e (a.add 4) (S g k i)/\∀h c,New e (.cells #[Value.func (.func 32) #[] #[Q n,Q o]] 125) h
 c->∃a l b m,App P #[69,69] 69 c (S g k i) (S (some (.mk h 0 none)) 1 1) (S a l b) m/\onP d fun p=>∃c,St P 69
 m (p.add 4) (S a l b) c/\AB P 36 [Q d] c fun f e=>∃j,f=E (I j)/\R (E (I j)) e
theorem drenameC.ok(d:Option Addr)(n:Option Addr)(o:Option Addr)(Z0:drenameC.vc Tryz.prog (.int .i64) .pointer .slice .returned u U d n o):Calls Tryz.prog 31 #[.pointer d,(.func (.func 32) #[] #[.pointer n,.pointer o])] u U:=cok drenameC.an Tryz.func31 (by kernel_rfl) (by kernel_rfl) Z0
def drenameR.an:An:=⟨[],[],[],[]⟩
def drenameR.vc(d:Option Addr)(n:Option Addr)(o:Option Addr)(p:Option Addr):Prop:=onP d fun a=>∃b,Ld P 67 w (a.add 2) (.map b)/\AB P 136 [.map b,Q n,Q o,Q p] w fun f e=>f=
 E (.tuple #[])/\onP d fun a=>∃g k i,Ld P 69 e (a.add 4) (S g k i)/\∀h c,New e (.cells #[Value.func (.func 136) #[] #[Q
 n,Q o,Q p]] 125) h c->∃a l b m,App P #[69,69] 69 c (S g k i) (S (some (.mk h 0 none)) 1 1) (S a l b) m/\onP
 d fun q=>∃c,St P 69 m (q.add 4) (S a l b) c/\AB P 36 [Q d] c fun f e=>∃j,f=E (I j)
 /\R (E (I j)) e
theorem drenameR.ok(d:Option Addr)(n:Option Addr)(o:Option Addr)(p:Option Addr)(Z0:drenameR.vc Tryz.prog (.int .i64) .pointer .slice .returned u U d n o p):Calls Tryz.prog 31 #[.pointer d,(.func (.func 136) #[] #[.pointer n,.pointer o,.pointer p])] u U:=cok drenameR.an Tryz.func31 (by kernel_rfl) (by kernel_rfl) Z0
def createC.an:An:=⟨[],[],[],[]⟩
def createC.vc(g:Option Nat)(e:Option Addr)(f:Option Addr):Prop:=∃c,(onP f fun a=>Ld P 9 w a (.string c))/\∃b,(onP e fun a=>Ld P 3 w a (I b))/\∃d,MUp P 67 w (.map
 g) (.string c) (I b) d/\R (E (.tuple #[])) d
theorem createC.ok(g:Option Nat)(e:Option Addr)(f:Option Addr)(Z0:createC.vc Tryz.prog (.int .i64) .returned u U g e f):Calls Tryz.prog 32 #[.map g,(.pointer e),(.pointer f)] u U:=cok createC.an Tryz.func32 (by kernel_rfl) (by kernel_rfl) Z0
def find.an:An:=⟨[],[],[],[]⟩
def find.vc(e:Option Addr)(j:ByteArray):Prop:=onP e fun a=>∃g,Ld P 67 w (a.add 2) (.map g)/\∃b d,Lk P 67 true w (.map g) (.string j) (.tuple #[I b,.bool
 d])/\br (!d) (R (E (Q none)) w) (onP e fun a=>∃c f i,Ld P 68 w (a.add 1) (S c f i)/\onP c fun a=>(0<=b/\b<(↑f:Int))
 /\∃h,Ld P 76 w (a.add (b.toNat*1)) (Q h)/\R (E (Q h)) w)
theorem find.ok(e:Option Addr)(j:ByteArray)(Z0:find.vc Tryz.prog (.int .i64) .pointer .slice .returned u U e j):Calls Tryz.prog 33 #[.pointer e,.string j] u U:=cok find.an Tryz.func33 (by kernel_rfl) (by kernel_rfl) Z0
def used.an:An:=⟨[],[(3,[(3,.inl .i64)])],[],[]⟩
def used.vc(k:Option Addr):Prop:=onP k fun b=>∃l,Ld P 67 w (b.add 2) (.map l)/\∃c a,Rng P 67 w (.map l) (Q c) a/\Ae (fun(h:Int)(m:World)(p:Int->
 World->Prop)=>(∃a,Nxt P false 0 m (Q c) (.tuple #[.bool false]) a/\R (E (I h)) a)\/∃o i a,Nxt P
 false 0 m (Q c) (.tuple #[.bool true,o,i]) a/\∃i f e,Etr P a (Q c) (.tuple #[i,I f]) e/\onP k fun b=>∃j
 d g,Ld P 68 e (b.add 1) (S j d g)/\onP j fun b=>(0<=f/\f<(↑d:Int))/\∃c,Ld P 76 e (b.add (f.toNat*1))
 (Q c)/\onP c fun b=>∃n d g,Ld P 78 e b (S n d g)/\inR .i64 (h+(↑d:Int))/\p (h+(↑d:Int)) e) 0 a
theorem used.ok(k:Option Addr)(Z0:used.vc Tryz.prog (.int .i64) .pointer .slice .returned u U k):Calls Tryz.prog 34 #[.pointer k] u U:=cok used.an Tryz.func34 (by kernel_rfl) (by kernel_rfl) Z0
def denies.an:An:=⟨[],[],[],[]⟩
def denies.vc(c:Option Addr):Prop:=onP c fun b=>∃a,Ld P 3 w (b.add 6) (I a)/\br (decide (a=0)) (R (E (.bool false)) w) (onP c fun b=>∃a,Ld P
 3 w (b.add 6) (I a)/\inR .i64 (a-1)/\onP c fun b=>∃d,St P 3 w (b.add 6) (I (a-1)) d/\onP c fun b=>
 ∃a,Ld P 3 d (b.add 6) (I a)/\R (E (.bool (decide (a=0)))) d)
theorem denies.ok(c:Option Addr)(Z0:denies.vc Tryz.prog (.int .i64) .returned u U c):Calls Tryz.prog 35 #[.pointer c] u U:=cok denies.an Tryz.func35 (by kernel_rfl) (by kernel_rfl) Z0
def done.an:An:=⟨[],[],[],[]⟩
def done.vc(c:Option Addr):Prop:=AB P 65 [Q c] w fun d b=>∃a,d=E (.bool a)/\br a (R (E (I 93)) b) (R (E (I
 0)) b)
theorem done.ok(c:Option Addr)(Z0:done.vc Tryz.prog (.int .i64) .pointer .returned u U c):Calls Tryz.prog 36 #[.pointer c] u U:=cok done.an Tryz.func36 (by kernel_rfl) (by kernel_rfl) Z0
def dead.an:An:=⟨[],[],[],[]⟩
def dead.vc(c:Option Addr):Prop:=onP c fun b=>∃a,Ld P 4 w (b.add 7) (.bool a)/\R (E (.bool a)) w
theorem dead.ok(c:Option Addr)(Z0:dead.vc Tryz.prog .returned u U c):Calls Tryz.prog 66 #[.pointer c] u U:=cok dead.an Tryz.func66 (by kernel_rfl) (by kernel_rfl) Z0
def size.an:An:=⟨[],[],[],[]⟩
def size.vc(h:Option Addr)(j:ByteArray):Prop:=AB P 33 [Q h,.string j] w fun i a=>∃b,i=E (Q b)/\∃c,Eqv P .eql 76 (.tmp 9) (.const
 (Q none)) a (Q b) (Q none) c/\br c (R (E (I (-1:Int))) a) (onP b fun e=>∃f d g,Ld P 78 a e
 (S f d g)/\R (E (I (↑d:Int))) a)
theorem size.ok(h:Option Addr)(j:ByteArray)(Z0:size.vc Tryz.prog (.int .i64) .pointer .slice .returned u U h j):Calls Tryz.prog 67 #[.pointer h,.string j] u U:=cok size.an Tryz.func67 (by kernel_rfl) (by kernel_rfl) Z0
def lfind.an:An:=⟨[],[(3,[(4,.inl .u64),(14,.inl .i64)]),(12,[(9,.inl .i64)])],[],[]⟩
def lfind.vc(d:Option Addr):Prop:=Ae (fun(c:Int×Int)(b:World)(l:Int×Int->World->Prop)=>br (decide (c.2<2)) (AB P 106 [Q d,I c.2] b
 fun h b=>∃g v j,h=E (.tuple #[.int .u64 g,.int .u64 v,.bool j])/\br j (onP d fun a=>∃x,Ld P 127 b (a.add 2)
 (.int .u64 x)/\br (decide (x<g)) (onP d fun a=>∃e,St P 127 b (a.add 2) (.int .u64 g) e/\inR .i64 (c.2+1)/\l
 (v,c.2+1) e) (inR .i64 (c.2+1)/\l (c.1,c.2+1) b)) (inR .i64 (c.2+1)/\l (c.1,c.2+
 1) b)) (onP d fun a=>∃m,Ld P 23 b.drew a (Q m)/\onP d fun a=>∃C,Ld P 9 b.drew (a.add 1) (.string C)/\
 AB P 67 [Q m,.string C] b.drew fun h b=>∃g,h=E (I g)/\inR .i64 (g-2)/\inR .i64 ((g-
 2)*512)/\br (decide (IntKind.wrap .u64 ((g-2)*512)<c.1)) (R (E (.tuple #[Q none,I 100])) b)
 (Ae (fun(t:Int)(b:World)(l:Int->World->Prop)=>onP d fun a=>∃D y f,Ld P 29 b (a.add 3) (S D y f)/\br (decide ((↑y:Int)<
 IntKind.wrap .i64 c.1)) (onP d fun a=>∃m,Ld P 23 b.drew a (Q m)/\onP d fun a=>∃c,Ld P 9 b.drew (a.add 1)
 (.string c)/\AB P 107 [Q m,.string c,I t] b.drew fun h b=>∃a r f g,h=E (.tuple #[S a
 r f,I g])/\br (!decide (g=0)) (R (E (.tuple #[Q none,I g])) b) (onP d fun o=>∃i k q,Ld
 P 29 b (o.add 3) (S i k q)/\∃p B A e,App P #[29,29] 29 b (S i k q) (S a r f) (S p B A) e/\
 onP d fun a=>∃n,St P 29 e (a.add 3) (S p B A) n/\inR .i64 (t+1)/\l (t+1) n)) (onP d fun a=>∃o r f,Ld
 P 29 b (a.add 3) (S o r f)/\(0<=c.1/\c.1<=c.1/\c.1<=(↑f:Int))/\onP d fun a=>∃e,St P 29 b
 (a.add 3) (S o (c.1.toNat) (c.1.toNat)) e/\onP d fun a=>∃i k f,Ld P 29 e (a.add 3) (S i k f)/\AB
 P 108 [S i k f] e fun h b=>∃a s f j,h=E (.tuple #[S a s f,.bool j])/\br (!j) (R (E (.tuple
 #[Q none,I 100])) b) (onP d fun p=>∃F z q,Ld P 29 b (p.add 3) (S F z q)/\onP d fun G=>∃e,St
 P 26 b (G.add 6) (S a s f) e/\onP d fun a=>∃n,St P 3 e (a.add 4) (I (↑z:Int)) n/\onP d fun a=>∃e,St
 P 3 n (a.add 5) (I (↑s:Int)) e/\R (E (.tuple #[Q d,I 0])) e))) 2 b))) (0,(0:
 Int)) w
theorem lfind.ok(d:Option Addr)(Z0:lfind.vc Tryz.prog (.int .i64) .pointer .slice .returned u U d):Calls Tryz.prog 68 #[.pointer d] u U:=cok lfind.an Tryz.func68 (by kernel_rfl) (by kernel_rfl) Z0
def lrenew.an:An:=⟨[],[(3,[(5,.inr 3),(11,.inl .i64)])],[],[]⟩
def lrenew.vc(d:Option Addr)(p:Option Addr)(l:Nat)(q:Nat):Prop:=Ae (fun(e:(Option Addr×Nat×Nat)×Int)(c:World)(t:(Option Addr×Nat×Nat)×Int->World->Prop)=>br (decide (e.2<(↑l:Int))) (onP p fun a=>(0<=Prod.snd
 e/\e.2<(↑l:Int))/\∃o,Ld P 9 c (a.add (e.2.toNat*1)) (.string o)/\AB P 101 [S e.1.1
 e.1.2.1 e.1.2.2,.string o] c fun g c=>∃a d h,g=E (S a d h)/\inR .i64 (e.2+1)/\
 t ((a,d,h),e.2+1) c) (onP d fun a=>∃o,Ld P 9 c (a.add 1) (.string o)/\(↑(o.size+ByteArray.size (ByteArray.mk #[(46:UInt8),
 (110:UInt8),(101:UInt8),(119:UInt8)])):Int)<=9223372036854775807/\AB P 109 [Q d,.string (o++ByteArray.mk #[(46:UInt8),(110:UInt8),
 (101:UInt8),(119:UInt8)]),S e.1.1 e.1.2.1 e.1.2.2] c fun g c=>∃f,g=E (I
 f)/\br (decide (f=0)) (onP d fun a=>∃m,Ld P 23 c.drew a (Q m)/\onP d fun a=>∃r,Ld P 9 c.drew (a.add 1)
 (.string r)/\(↑(r.size+ByteArray.size (ByteArray.mk #[(46:UInt8),(110:UInt8),(101:UInt8),(119:UInt8)])):Int)<=9223372036854775807/\onP d fun a=>∃s,Ld
 P 9 c.drew (a.add 1) (.string s)/\AB P 110 [Q m,.string (r++ByteArray.mk #[(46:UInt8),(110:UInt8),(101:UInt8),
 (119:UInt8)]),.string s] c.drew fun g c=>∃f,g=E (I f)/\br (decide (f=0)) (onP d fun a=>∃m,Ld P 23 c a
 (Q m)/\AB P 52 [Q m] c fun g c=>∃f,g=E (I f)/\br (!decide (f=0)) (R (E (I f)) c) (onP d fun a=>∃b,St P 127 c (a.add 2) (.int .u64 1) b/\onP d fun a=>∃j,St P 29 b (a.add 3) (S
 e.1.1 e.1.2.1 e.1.2.2) j/\onP d fun a=>∃b,St P 3 j (a.add 4) (I (↑(Prod.fst
 e.1.2):Int)) b/\AB P 111 [S p l q] b fun g c=>∃a i h,g=E (S a i h)/\onP d fun n=>∃b,St
 P 26 c (n.add 6) (S a i h) b/\onP d fun a=>∃k,St P 3 b (a.add 5) (I (↑l:Int)) k/\R (E
 (I 0)) k)) (br (!decide (f=0)) (R (E (I f)) c) (onP d fun a=>∃b,St P 127 c (a.add 2) (.int
 .u64 1) b/\onP d fun a=>∃j,St P 29 b (a.add 3) (S e.1.1 e.1.2.1 e.1.2.2) j/\
 onP d fun a=>∃b,St P 3 j (a.add 4) (I (↑e.1.2.1:Int)) b/\AB P 111 [S p l q] b
 fun g c=>∃a i h,g=E (S a i h)/\onP d fun n=>∃b,St P 26 c (n.add 6) (S a i h) b/\onP d fun a=>∃k,St
 P 3 b (a.add 5) (I (↑l:Int)) k/\R (E (I 0)) k))) (br (decide (f=0)) (onP d fun a=>∃m,Ld
 P 23 c a (Q m)/\AB P 52 [Q m] c fun g c=>∃f,g=E (I f)/\br (!decide (f=0)) (R
 (E (I f)) c) (onP d fun a=>∃b,St P 127 c (a.add 2) (.int .u64 1) b/\onP d fun a=>∃j,St P 29 b
 (a.add 3) (S e.1.1 e.1.2.1 e.1.2.2) j/\onP d fun a=>∃b,St P 3 j (a.add 4)
 (I (↑e.1.2.1:Int)) b/\AB P 111 [S p l q] b fun g c=>∃a i h,g=E (S a i h)/\
 onP d fun n=>∃b,St P 26 c (n.add 6) (S a i h) b/\onP d fun a=>∃k,St P 3 b (a.add 5) (I (↑l:Int)) k
 /\R (E (I 0)) k)) (br (!decide (f=0)) (R (E (I f)) c) (onP d fun a=>∃b,St P 127 c (a.add 2)
 (.int .u64 1) b/\onP d fun a=>∃j,St P 29 b (a.add 3) (S e.1.1 e.1.2.1 (Prod.snd (Prod.snd (Prod.fst
 e)))) j/\onP d fun a=>∃b,St P 3 j (a.add 4) (I (↑e.1.2.1:Int)) b/\AB P 111 [S p
 l q] b fun g c=>∃a i h,g=E (S a i h)/\onP d fun n=>∃b,St P 26 c (n.add 6) (S a i h) b/\onP d fun a=>∃k,St
 P 3 b (a.add 5) (I (↑l:Int)) k/\R (E (I 0)) k))))) ((none,0,0),0) w
theorem lrenew.ok(d:Option Addr)(p:Option Addr)(l:Nat)(q:Nat)(Z0:lrenew.vc Tryz.prog (.int .i64) .pointer .slice .returned u U d p l q):Calls Tryz.prog 69 #[.pointer d,.slice p l q] u U:=cok lrenew.an Tryz.func69 (by kernel_rfl) (by kernel_rfl) Z0
def crashC.an:An:=⟨[],[],[],[]⟩
def crashC.vc(e:Option Addr):Prop:=∃a b d,(onP e fun c=>Ld P 30 w c (S a b d))/\br (decide ((↑b:Int)=(0:Int))) (R (E (I 0)) w) (∃a b d,(onP e fun c=>
 Ld P 30 w c (S a b d))/\onP a fun a=>((0:Int)<=(0:Int)/\(0:Int)<(↑b:Int))/\∃f,Ld P 3 w a (I f)/\∃a b d,(onP e
 fun c=>Ld P 30 w c (S a b d))/\((0:Int)<=(1:Int)/\(1:Int)<=(↑b:Int))/\onP e fun c=>∃g,St P 30 w c (S (slA a d
 (Int.toNat (1:Int)) 1) (b-Int.toNat (1:Int)) (d-Int.toNat (1:Int))) g/\R (E (I f)) g)
theorem crashC.ok(e:Option Addr)(Z0:crashC.vc Tryz.prog (.int .i64) .slice .returned u U e):Calls Tryz.prog 62 #[(.pointer e)] u U:=cok crashC.an Tryz.func62 (by kernel_rfl) (by kernel_rfl) Z0
def found.an:An:=⟨[],[(3,[(5,.inr 3),(21,.inl .i64)]),(7,[(5,.inr 3)])],[],[]⟩
def found.vc(o:Option Addr)(q:Value):Prop:=onP o fun c=>∃r d f,Ld P 78 w (c.add 1) (S r d f)/\AB P 103 [S r d f] w fun e b=>∃c d f,e=E (S c d
 f)/\onP o fun z=>∃l,Ld P 77 b (z.add 2) (.map l)/\AB P 104 [.map l] b fun e b=>∃y,e=E y/\AB P 48
 [y] b fun e b=>∃s p C,e=E (S s p C)/\Ae (fun(a:(Option Addr×Nat×Nat)×Int)(b:World)(x:(Option Addr×Nat×Nat)×Int->World->Prop)
 =>br (decide (a.2<(↑p:Int))) (onP s fun c=>(0<=a.2/\a.2<(↑p:Int))/\∃h,Ld P 3 b (c.add (a.2.toNat*1)) (I h)/\Du P q [] b fun e b=>∃k,e=E (I k)/\br (decide (min (max k 0) 512=0)) (inR .i64
 (a.2+1)/\x ((a.1.1,a.1.2.1,a.1.2.2),a.2+1) b) (Ae (fun(g:Option Addr×Nat×Nat)
 (b:World) (q:Option Addr×Nat×Nat->World->Prop)=>br (decide ((↑g.2.1:Int)<=h)) (∃(e:TypeId),∃(d:List Value),JH P 78 1 [(0,.agg
 (List.toArray (bigL P 85 [])))] e d/\∀j i,New b (.cells (List.toArray d) e) j i->∃c n l m,App P #[78,78] 78 i (S g.1 (Prod.fst
 g.2) g.2.2) (S (some (.mk j 0 none)) 1 1) (S c n l) m/\q (c,n,l) m) (onP g.1 fun c=>(0<=h/\h<(↑(Prod.fst
 g.2):Int))/\(0<=min (max k 0) 512/\min (max k 0) 512<=(↑(512:Nat):Int))/\onP o fun A=>∃t d f,Ld P 78
 b.drew A (S t d f)/\onP t fun B=>(0<=h/\h<(↑d:Int))/\∃n i,Cpy P #[29,29] 3 b.drew (S (some (c.add (h.toNat
 *512))) (Int.toNat (min (max k 0) 512)) 512) (S (some (B.add (h.toNat*512))) 512 512) (I n) i/\inR .i64 (a.2+1)
 /\x ((g.1,g.2.1,g.2.2),a.2+1) i)) (a.1.1,a.1.2.1,a.1.2.2)
 b)) (AB P 103 [S a.1.1 a.1.2.1 a.1.2.2] b fun e b=>∃c d f,e=E (S c
 d f)/\∀j i,New b (.map #[] 0) j i->∀v m,New i (.cells #[S c d f,S a.1.1 a.1.2.1 (Prod.snd (Prod.snd (Prod.fst
 a))),.map (some j)] 80) v m->R (E (Q (some (.mk v 0 none)))) m)) ((c,d,f),0) b
theorem found.ok(o:Option Addr)(q:Value)(Z0:found.vc Tryz.prog (.int .i64) .pointer .slice .returned u U o q):Calls Tryz.prog 63 #[.pointer o,q] u U:=cok found.an Tryz.func63 (by kernel_rfl) (by kernel_rfl) Z0
def lreset.an:An:=⟨[],[],[],[]⟩
def lreset.vc(d:Option Addr)(f:Option Addr)(h:Nat)(g:Nat):Prop:=AB P 95 [S f h g,Value.func (.func 96) #[] #[]] w fun c b=>∃i,c=E (.bool i)/\br i (R (E (I 101))
 b) (onP d fun e=>∃a,Ld P 27 b (e.add 7) (I a)/\br (!decide (a=0)) (onP d fun e=>∃a,Ld P 27 b (e.add 7) (I a)/\R (E (I a)) b) (AB P 69 [Q d,S f h g] b fun c b=>∃a,c=E (I a)/\br (!decide (a=0)) (AB P 83 [Q d,I a] b fun c b=>∃a,c=E (I a)/\R
 (E (I a)) b) (R (E (I 0)) b)))
theorem lreset.ok(d:Option Addr)(f:Option Addr)(h:Nat)(g:Nat)(Z0:lreset.vc Tryz.prog (.int .i64) .pointer .slice .returned u U d f h g):Calls Tryz.prog 53 #[.pointer d,.slice f h g] u U:=cok lreset.an Tryz.func53 (by kernel_rfl) (by kernel_rfl) Z0
def cloneT.an:An:=⟨[],[],[],[]⟩
def cloneT.vc(e:Option Addr)(g:Nat)(f:Nat):Prop:=∃a,Eqv P .eql 26 (.tmp 3) (.const (S none 0 0)) w (S e g f) (S none 0 0) a/\br a (R (E (S none 0 0)) w)
 (∀a h,New w (.cells #[] 9) a h->∃b d c i,App P #[26,26] 26 h (S (some (.mk a 0 none)) 0 0) (S e g f) (S b d c) i/\R
 (E (S b d c)) i)
theorem cloneT.ok(e:Option Addr)(g:Nat)(f:Nat)(Z0:cloneT.vc Tryz.prog .slice .returned u U e g f):Calls Tryz.prog 111 #[.slice e g f] u U:=cok cloneT.an Tryz.func111 (by kernel_rfl) (by kernel_rfl) Z0
def bT.an:An:=⟨[],[],[],[]⟩
def bT.vc(k:Option Addr)(m:Nat)(l:Nat)(i:ByteArray):Prop:=∀b a,New w (.cells #[.int .u8 0,.int .u8 0,.int .u8 0,.int .u8 0] 202) b a->AB P 133 [S (some (.mk b 0
 none)) 4 4,.int .u32 (IntKind.wrap .u32 (↑(i.size):Int))] a fun n o=>n=E (.tuple #[])/\∃c g e a,App P #[29,29] 29 o
 (S k m l) (S (some (.mk b 0 none)) 4 4) (S c g e) a/\∃d h f j,App P #[29,9] 29 a (S c g e) (.string i) (S
 d h f) j/\R (E (S d h f)) j
theorem bT.ok(k:Option Addr)(m:Nat)(l:Nat)(i:ByteArray)(Z0:bT.vc Tryz.prog .slice .returned u U k m l i):Calls Tryz.prog 101 #[.slice k m l,.string i] u U:=cok bT.an Tryz.func101 (by kernel_rfl) (by kernel_rfl) Z0
def lwrite.an:An:=⟨[],[(2,[(9,.inl .i64)])],[],[]⟩
def lwrite.vc(k:Option Addr)(l:ByteArray)(h:Option Addr)(b:Nat)(i:Nat)(d:Int):Prop:=(512:Int)≠(0:Int)/\inR .i64 (Int.tdiv d (512:Int))/\inR .i64 (Int.tdiv d (512:Int)*(512:Int))/\Ae (fun(a:Int)(c:World)(m:Int->World->Prop)=>br
 (decide (a<(↑b:Int))) (inR .i64 (a+(512:Int))/\onP k fun g=>∃f,Ld P 23 c.drew g (Q f)/\(512:Int)≠(0:Int)/\inR .i64 (Int.tdiv a
 (512:Int))/\inR .i64 ((2:Int)+Int.tdiv a (512:Int))/\((0:Int)<=a/\a<=min (a+(512:Int)) (↑b:Int)/\min (a+(512:Int)) (↑b:Int)<=min (a+(512:Int)) (↑b:Int)/\
 min (a+(512:Int)) (↑b:Int)<=(↑i:Int))/\AB P 10 [Q f,.string l,I ((2:Int)+Int.tdiv a (512:Int)),S (slA h
 (Int.toNat (min (a+(512:Int)) (↑b:Int))) (a.toNat) 1) (Int.toNat (min (a+(512:Int)) (↑b:Int))-a.toNat) (Int.toNat (min (a+(512:Int)) (↑b:Int))-a.toNat)]
 c.drew fun j c=>∃e,j=E (I e)/\br (!decide (e=(0:Int))) (R (E (I e)) c) (inR .i64 (a+(512:Int))/\
 m (a+(512:Int)) c)) (R (E (I 0)) c)) (Int.tdiv d (512:Int)*(512:Int)) w
theorem lwrite.ok(k:Option Addr)(l:ByteArray)(h:Option Addr)(b:Nat)(i:Nat)(d:Int)(Z0:lwrite.vc Tryz.prog (.int .i64) .pointer .slice .returned u U k l h b i d):Calls Tryz.prog 81 #[.pointer k,.string l,.slice h b i,.int .i64 d] u U:=cok lwrite.an Tryz.func81 (by kernel_rfl) (by kernel_rfl) Z0
def lseal.an:An:=⟨[],[],[],[]⟩
def lseal.vc(g:Option Addr)(h:ByteArray)(i:Int)(k:Int):Prop:=∀f j,New w (.cells (List.toArray (zl P 84)) 84) f j->((0:Int)<=(8:Int)/\(8:Int)<=(↑(512:Nat):Int))/\AB P 120 [S (some (.mk f 0
 none)) 8 512,.int .u64 i] j fun c a=>c=E (.tuple #[])/\((0:Int)<=(8:Int)/\(8:Int)<=(16:Int)/\(16:Int)<=(↑(512:Nat):Int))/\AB
 P 120 [S (some (.mk f 8 none)) 8 504,.int .u64 (IntKind.wrap .u64 k)] a fun c a=>c=E (.tuple #[])/\((0:Int)<=(504:
 Int)/\(504:Int)<=(↑(512:Nat):Int))/\AB P 120 [S (some (.mk f 504 none)) 8 8,.int .u64 i] a fun c a=>c=E (.tuple #[])
 /\onP g fun e=>∃d,Ld P 23 a e (Q d)/\AB P 94 [Q d,.string h] a fun c a=>∃b,c=E (I b)
 /\br (decide (b=(0:Int))) (onP g fun e=>∃d,Ld P 23 a.drew e (Q d)/\(2:Int)≠(0:Int)/\AB P 10 [Q d,.string
 h,I (IntKind.wrap .i64 (Int.tmod i (2:Int))),S (some (.mk f 0 none)) 512 512] a.drew fun c a=>∃b,c=E (I b)/\br (decide (b=(0:Int))) (onP g fun e=>∃d,Ld P 23 a e (Q d)/\AB P 94 [Q d,.string h] a fun c a=>∃b,c
 =E (I b)/\R (E (I b)) a) (R (E (I b)) a)) (br (decide (b=(0:Int))) (onP g fun e=>∃d,Ld
 P 23 a e (Q d)/\AB P 94 [Q d,.string h] a fun c a=>∃b,c=E (I b)/\R (E
 (I b)) a) (R (E (I b)) a))
theorem lseal.ok(g:Option Addr)(h:ByteArray)(i:Int)(k:Int)(Z0:lseal.vc Tryz.prog (.int .i64) .pointer .slice .returned u U g h i k):Calls Tryz.prog 82 #[.pointer g,.string h,.int .u64 i,.int .i64 k] u U:=cok lseal.an Tryz.func82 (by kernel_rfl) (by kernel_rfl) Z0
def stuck.an:An:=⟨[],[],[],[]⟩
def stuck.vc(c:Option Addr)(e:Int):Prop:=onP c fun b=>∃a,Ld P 27 w (b.add 7) (I a)/\br (decide (a=0)) (onP c fun b=>∃d,St P 27 w (b.add 7) (I e) d/\onP c fun b=>∃a,Ld P 27 d (b.add 7) (I a)/\R (E (I a)) d) (onP c fun b=>∃a,Ld
 P 27 w (b.add 7) (I a)/\R (E (I a)) w)
theorem stuck.ok(c:Option Addr)(e:Int)(Z0:stuck.vc Tryz.prog (.int .i64) .returned u U c e):Calls Tryz.prog 83 #[.pointer c,.int .i64 e] u U:=cok stuck.an Tryz.func83 (by kernel_rfl) (by kernel_rfl) Z0
def dies.an:An:=⟨[],[],[],[]⟩
def dies.vc(c:Option Addr):Prop:=onP c fun a=>∃b,Ld P 3 w (a.add 5) (I b)/\br (decide (0<b)) (onP c fun a=>∃b,Ld P 3 w (a.add 5) (I
 b)/\inR .i64 (b-1)/\onP c fun a=>∃e,St P 3 w (a.add 5) (I (b-1)) e/\onP c fun a=>∃b,Ld P 3 e (Addr.add
 a 5) (I b)/\onP c fun a=>∃f,St P 4 e (a.add 7) (.bool (decide (b=0))) f/\onP c fun a=>∃d,Ld P 4 f (Addr.add
 a 7) (.bool d)/\R (E (.bool d)) f) (onP c fun a=>∃d,Ld P 4 w (a.add 7) (.bool d)/\R (E (.bool d)) w)
theorem dies.ok(c:Option Addr)(Z0:dies.vc Tryz.prog (.int .i64) .returned u U c):Calls Tryz.prog 65 #[.pointer c] u U:=cok dies.an Tryz.func65 (by kernel_rfl) (by kernel_rfl) Z0
def look.an:An:=⟨[],[],[],[]⟩
def look.vc(d:Option Addr)(m:Int):Prop:=onP d fun a=>∃k,Ld P 23 w.drew a (Q k)/\onP d fun a=>∃l,Ld P 9 w.drew (a.add 1) (.string l)/\AB P 107
 [Q k,.string l,I m] w.drew fun e b=>∃a d c f,e=E (.tuple #[S a d c,I f])/\br (!decide (f=(0:
 Int))) (R (E (.tuple #[.int .u64 0,.int .u64 0,.bool false])) b.drew) (((0:Int)<=(8:Int)/\(8:Int)<=(↑c:Int))/\8<=Int.toNat (8:
 Int)/\∃(h:List Value),(onP a fun a=>Ld P 206 b.drew a (.agg (List.toArray h)))/\((0:Int)<=(504:Int)/\(504:Int)<=(↑d:Int))/\8<=d-Int.toNat (504:
 Int)/\∃(i:List Value),(onP (slA a c (Int.toNat (504:Int)) 1) fun a=>Ld P 206 b.drew a (.agg (List.toArray i)))/\∃g,Eqv P .neq 206
 (.tmp 28) (.tmp 32) b.drew (.agg (List.toArray h)) (.agg (List.toArray i)) g/\br g (R (E (.tuple #[.int .u64 0,.int
 .u64 0,.bool false])) b.drew) (((0:Int)<=(8:Int)/\(8:Int)<=(↑c:Int))/\((0:Int)<=(8:Int)/\(8:Int)<=(16:Int)/\(16:Int)<=(↑c:Int))/\AB
 P 135 [S a 8 c] b.drew.drew fun e b=>∃f,e=E (.int .u64 f)/\AB P 135 [S (slA a c (Int.toNat (8
 :Int)) 1) 8 (c-Int.toNat (8:Int))] b fun e b=>∃j,e=E (.int .u64 j)/\R (E (.tuple #[.int .u64 f,.int .u64 j,
 .bool true])) b))
theorem look.ok(d:Option Addr)(m:Int)(Z0:look.vc Tryz.prog (.int .i64) .pointer .slice .returned u U d m):Calls Tryz.prog 106 #[.pointer d,.int .i64 m] u U:=cok look.an Tryz.func106 (by kernel_rfl) (by kernel_rfl) Z0
def read.an:An:=⟨[],[],[],[]⟩
def read.vc(j:Option Addr)(o:ByteArray)(e:Int):Prop:=AB P 33 [Q j,.string o] w fun n a=>∃f,n=E (Q f)/\onP j fun c=>∃b,Ld P 4 a (c.add 7) (.bool b)/\
 br b (R (E (.tuple #[S none 0 0,I 93])) a) (∃b,Eqv P .eql 76 (.tmp 19) (.const (Q none)) a
 (Q f) (Q none) b/\br b (R (E (.tuple #[S none 0 0,I 90])) a) (br (decide (e<0)) (R (E (.tuple
 #[S none 0 0,I 91])) a) (onP f fun c=>∃m d g,Ld P 78 a c (S m d g)/\br (decide ((↑d:Int)<=e)) (R (E (.tuple
 #[S none 0 0,I 91])) a) (onP f fun c=>∃h d g,Ld P 78 a c (S h d g)/\onP h fun c=>(0<=e/\e<(↑d:Int))/\∃(i:List
 Value),Ld P 85 a (c.add (e.toNat*512)) (.agg (List.toArray i))/\∀b k,New a (.cells (List.toArray (zl P 85)) 85) b k->∃l,St
 P 85 k (.mk b 0 none) (.agg (List.toArray i)) l/\R (E (.tuple #[S (some (.mk b 0 none)) 512 512,I 0])) l))))
theorem read.ok(j:Option Addr)(o:ByteArray)(e:Int)(Z0:read.vc Tryz.prog (.int .i64) .pointer .slice .returned u U j o e):Calls Tryz.prog 107 #[.pointer j,.string o,.int .i64 e] u U:=cok read.an Tryz.func107 (by kernel_rfl) (by kernel_rfl) Z0
def records.an:An:=⟨[],[(2,[(0,.inr 3),(4,.inr 3)])],[],[]⟩
def records.vc(k:Option Addr)(m:Nat)(l:Nat):Prop:=Ae (fun(a:(Option Addr×Nat×Nat)×Option Addr×Nat×Nat)(c:World)(o:(Option Addr×Nat×Nat)×Option Addr×Nat×Nat->World->Prop)=>br (decide ((0:Int)<(↑(Prod.fst
 a.1.2):Int))) (br (decide ((↑a.1.2.1:Int)<(4:Int))) (R (E (.tuple #[S none 0 0,.bool false])) c) (((0:Int)<=
 (4:Int)/\(4:Int)<=(↑a.1.2.2:Int))/\AB P 135 [S a.1.1 4 a.1.2.2] c fun n c=>∃b,n=
 E (.int .u64 b)/\br (decide ((65536:Int)<IntKind.wrap .i64 b)) (R (E (.tuple #[S none 0 0,.bool false])) c) (inR .i64
 ((↑a.1.2.1:Int)-(4:Int))/\br (decide ((↑a.1.2.1:Int)-(4:Int)<IntKind.wrap .i64 b)) (R (E (.tuple
 #[S none 0 0,.bool false])) c) (inR .i64 ((4:Int)+IntKind.wrap .i64 b)/\((0:Int)<=(4:Int)/\(4:Int)<=(4:Int)+IntKind.wrap .i64 b/\(4:Int)+
 IntKind.wrap .i64 b<=(↑a.1.2.2:Int))/\∃h,B2S P 29 9 c (S (slA a.1.1 a.1.2.2
 (Int.toNat (4:Int)) 1) (Int.toNat ((4:Int)+IntKind.wrap .i64 b)-Int.toNat (4:Int)) (a.1.2.2-Int.toNat (4:Int))) (.string h)/\∀e i,New c
 (.cells #[.string h] 9) e i->∃d g f j,App P #[26,26] 26 i (S a.2.1 a.2.2.1 (Prod.snd (Prod.snd (Prod.snd
 a)))) (S (some (.mk e 0 none)) 1 1) (S d g f) j/\inR .i64 ((4:Int)+IntKind.wrap .i64 b)/\((0:Int)<=(4:Int)+IntKind.wrap .i64 b/\(4:Int)
 +IntKind.wrap .i64 b<=(↑a.1.2.1:Int))/\o ((slA a.1.1 a.1.2.2 (Int.toNat ((4:Int)+IntKind.wrap .i64 b))
 1,a.1.2.1-Int.toNat ((4:Int)+IntKind.wrap .i64 b),a.1.2.2-Int.toNat ((4:Int)+IntKind.wrap .i64 b)),d,g,f) j)))) (R
 (E (.tuple #[S a.2.1 a.2.2.1 a.2.2.2,.bool true])) c)) ((k,m,l),none,0,0) w
theorem records.ok(k:Option Addr)(m:Nat)(l:Nat)(Z0:records.vc Tryz.prog .slice .returned u U k m l):Calls Tryz.prog 108 #[.slice k m l] u U:=cok records.an Tryz.func108 (by kernel_rfl) (by kernel_rfl) Z0
def lfill.an:An:=⟨[],[(3,[(7,.inl .i64),(8,.inl .i64)])],[],[]⟩
def lfill.vc(e:Option Addr)(f:ByteArray)(j:Option Addr)(g:Nat)(k:Nat):Prop:=onP e fun i=>∃h,Ld P 23 w i (Q h)/\AB P 9 [Q h,.string f] w fun c a=>∃b,c=E (I b)/\
 Ae (fun(d:Int×Int)(a:World)(l:Int×Int->World->Prop)=>br (decide (d.2<2)) (br (decide (d.1=0)) (onP e fun i=>∃h,Ld P 23 a i
 (Q h)/\AB P 10 [Q h,.string f,I d.2,S none 0 0] a fun c a=>∃b,c=E (I b)/\inR .i64 (d.2+1)/\l (b,d.2+1) a) (br (decide (d.1=0)) (AB P 81 [Q e,.string f,
 S j g k,I 0] a fun c a=>∃b,c=E (I b)/\br (decide (b=0)) (AB P 82 [Q e,
 .string f,.int .u64 1,I (↑g:Int)] a fun c a=>∃b,c=E (I b)/\R (E (I b)) a) (R
 (E (I b)) a)) (br (decide (d.1=0)) (AB P 82 [Q e,.string f,.int .u64 1,I
 (↑g:Int)] a fun c a=>∃b,c=E (I b)/\R (E (I b)) a) (R (E (I d.1)) a)))) (br
 (decide (d.1=0)) (AB P 81 [Q e,.string f,S j g k,I 0] a fun c a=>∃b,c=E (I b)/\br (decide (b=0)) (AB P 82 [Q e,.string f,.int .u64 1,I (↑g:Int)] a fun c a=>∃b,c=
 E (I b)/\R (E (I b)) a) (R (E (I b)) a)) (br (decide (d.1=0)) (AB
 P 82 [Q e,.string f,.int .u64 1,I (↑g:Int)] a fun c a=>∃b,c=E (I b)/\R
 (E (I b)) a) (R (E (I d.1)) a)))) (b,0) a
theorem lfill.ok(e:Option Addr)(f:ByteArray)(j:Option Addr)(g:Nat)(k:Nat)(Z0:lfill.vc Tryz.prog (.int .i64) .pointer .slice .returned u U e f j g k):Calls Tryz.prog 109 #[.pointer e,.string f,.slice j g k] u U:=cok lfill.an Tryz.func109 (by kernel_rfl) (by kernel_rfl) Z0
def rename.an:An:=⟨[],[],[],[]⟩
def rename.vc(m:Option Addr)(r:ByteArray)(s:ByteArray):Prop:=∀f b,New w (.cells #[.string r] 9) f b->∀i g,New b (.cells #[.string s] 9) i g->onP m fun h=>∃j,Ld P 67 g.drew (h.add 2)
 (.map j)/\∃a,Ld P 9 g.drew (.mk f 0 none) (.string a)/\∃d k,Lk P 67 true g.drew (.map j) (.string a)
 (.tuple #[I d,.bool k])/\∀l b,New g.drew (.cells #[I 0] 3) l b->Lk P 67 true b (.map j)
 (.string a) (.tuple #[I d,.bool k])/\Ld P 9 b (.mk f 0 none) (.string a)/\Ld P 67 b (h.add 2) (.map j)/\
 ∃e,St P 3 b (.mk l 0 none) (I d) e/\onP m fun h=>∃o,Ld P 4 e (h.add 7) (.bool o)/\br o (R (E
 (I 93)) e) (br (!k) (R (E (I 90)) e) (∃a,Ld P 9 e (.mk i 0 none) (.string a)/\AB P
 30 [.string a] e fun n c=>∃p,n=E (.bool p)/\br (!p) (R (E (I 92)) c) (∃a,Ld P 9 c (.mk f 0 none)
 (.string a)/\∃q,Ld P 9 c (.mk i 0 none) (.string q)/\br (decide (a=q)) (R (E (I 0)) c) (AB P 31
 [Q m,Value.func (.func 136) #[] #[Q (some (.mk f 0 none)),Q (some (.mk l 0 none)),Q (some (.mk i 0 none))]] c fun n c=>∃d,n=
 E (I d)/\R (E (I d)) c))))
theorem rename.ok(m:Option Addr)(r:ByteArray)(s:ByteArray)(Z0:rename.vc Tryz.prog (.int .i64) .pointer .returned u U m r s):Calls Tryz.prog 110 #[.pointer m,.string r,.string s] u U:=cok rename.an Tryz.func110 (by kernel_rfl) (by kernel_rfl) Z0
def Ad.an:An:=⟨[],[],[],[]⟩
def Ad.vc(c:Option Addr):Prop:=onP c fun a=>∃b,Ld P 4 w (a.add 7) (.bool b)/\br b (R (E (I 93)) w) (AB P 65 [Q c] w fun f e=>∃b,f=
 E (.bool b)/\br b (R (E (I 93)) e) (onP c fun a=>∃d,Ld P 67 e (a.add 2) (.map d)/\AB P 64
 [.map d] e fun f e=>∃d,f=E (.map d)/\onP c fun a=>∃g,St P 67 e (a.add 3) (.map d) g/\onP c fun a=>∃h,St P 69 g
 (a.add 4) (S none 0 0) h/\R (E (I 0)) h))
theorem Ad.ok(c:Option Addr)(Z0:Ad.vc Tryz.prog (.int .i64) .pointer .slice .returned u U c):Calls Tryz.prog 52 #[.pointer c] u U:=cok Ad.an Tryz.func52 (by kernel_rfl) (by kernel_rfl) Z0
def cloneS.an:An:=⟨[],[],[],[]⟩
def cloneS.vc(g:Option Addr)(i:Nat)(h:Nat):Prop:=∃a,Eqv P .eql 78 (.tmp 3) (.const (S none 0 0)) w (S g i h) (S none 0 0) a/\br a (R (E (S none 0 0)) w)
 (∃(c:TypeId),∃(d:List Value),JH P 78 0 [] c d/\∀a j,New w (.cells (List.toArray d) c) a j->∃b f e k,App P #[78,78] 78 j (S (some
 (.mk a 0 none)) 0 0) (S g i h) (S b f e) k/\R (E (S b f e)) k)
theorem cloneS.ok(g:Option Addr)(i:Nat)(h:Nat)(Z0:cloneS.vc Tryz.prog .slice .returned u U g i h):Calls Tryz.prog 103 #[.slice g i h] u U:=cok cloneS.an Tryz.func103 (by kernel_rfl) (by kernel_rfl) Z0
def containsT.an:An:=⟨[],[],[],[]⟩
def containsT.vc(d:Option Addr)(f:Nat)(e:Nat)(c:Value):Prop:=AB P 128 [S d f e,c] w fun b g=>∃a,b=E (I a)/\R (E (.bool (decide (0<=a)))) g
theorem containsT.ok(d:Option Addr)(f:Nat)(e:Nat)(c:Value)(Z0:containsT.vc Tryz.prog (.int .i64) .slice .returned u U d f e c):Calls Tryz.prog 95 #[.slice d f e,c] u U:=cok containsT.an Tryz.func95 (by kernel_rfl) (by kernel_rfl) Z0
def resetC.an:An:=⟨[],[],[],[]⟩
def resetC.vc(a:ByteArray):Prop:=R (E (.bool (decide (65536<(↑(a.size):Int))))) w
theorem resetC.ok(a:ByteArray)(Z0:resetC.vc .returned u U a):Calls Tryz.prog 96 #[.string a] u U:=cok resetC.an Tryz.func96 (by kernel_rfl) (by kernel_rfl) Z0
def lay32.an:An:=⟨[],[(1,[(7,.inl .i64)])],[],[]⟩
def lay32.vc(f:Option Addr)(b:Nat)(i:Nat)(g:Int):Prop:=Ae (fun(a:Int)(c:World)(h:Int->World->Prop)=>br (decide (a<(↑b:Int))) (inR .i64 ((↑b:Int)-1)/\inR .i64 ((↑b:Int)-1-a)/\inR
 .i64 (8*a)/\0<=8*a/\onP f fun e=>(0<=(↑b:Int)-1-a/\(↑b:Int)-1-a<(↑b:Int))/\∃d,St P 5 c
 (e.add (Int.toNat ((↑b:Int)-1-a)*1)) (.int .u8 (IntKind.wrap .u8 (Int.fdiv g (2^min (Int.toNat (8*a)) (IntKind.bits .u32))))) d/\
 inR .i64 (a+1)/\h (a+1) d) (R (E (.tuple #[])) c)) 0 w
theorem lay32.ok(f:Option Addr)(b:Nat)(i:Nat)(g:Int)(Z0:lay32.vc Tryz.prog .returned u U f b i g):Calls Tryz.prog 133 #[.slice f b i,.int .u32 g] u U:=cok lay32.an Tryz.func133 (by kernel_rfl) (by kernel_rfl) Z0
def lay64.an:An:=⟨[],[(1,[(7,.inl .i64)])],[],[]⟩
def lay64.vc(f:Option Addr)(b:Nat)(i:Nat)(g:Int):Prop:=Ae (fun(a:Int)(c:World)(h:Int->World->Prop)=>br (decide (a<(↑b:Int))) (inR .i64 ((↑b:Int)-1)/\inR .i64 ((↑b:Int)-1-a)/\inR
 .i64 (8*a)/\0<=8*a/\onP f fun e=>(0<=(↑b:Int)-1-a/\(↑b:Int)-1-a<(↑b:Int))/\∃d,St P 5 c
 (e.add (Int.toNat ((↑b:Int)-1-a)*1)) (.int .u8 (IntKind.wrap .u8 (Int.fdiv g (2^min (Int.toNat (8*a)) (IntKind.bits .u64))))) d/\
 inR .i64 (a+1)/\h (a+1) d) (R (E (.tuple #[])) c)) 0 w
theorem lay64.ok(f:Option Addr)(b:Nat)(i:Nat)(g:Int)(Z0:lay64.vc Tryz.prog .returned u U f b i g):Calls Tryz.prog 120 #[.slice f b i,.int .u64 g] u U:=cok lay64.an Tryz.func120 (by kernel_rfl) (by kernel_rfl) Z0
def sync.an:An:=⟨[],[],[],[]⟩
def sync.vc(h:Option Addr)(n:ByteArray):Prop:=AB P 33 [Q h,.string n] w fun d a=>∃g,d=E (Q g)/\onP h fun c=>∃b,Ld P 4 a (c.add 7) (.bool b)/\
 br b (R (E (I 93)) a) (∃b,Eqv P .eql 76 (.tmp 15) (.const (Q none)) a (Q g) (Q none) b/\
 br b (R (E (I 90)) a) (AB P 35 [Q h] a fun d a=>∃b,d=E (.bool b)/\br b (R (E (I 95)) a) (AB P 65 [Q h] a fun d a=>∃b,d=E (.bool b)/\br b (R (E (I 93)) a) (onP g fun c=>∃
 j f e,Ld P 78 a c (S j f e)/\AB P 103 [S j f e] a fun d a=>∃c f e,d=E (S c f e)/\onP g fun m=>∃i,
 St P 78 a (m.add 1) (S c f e) i/\onP g fun c=>∃k,Ld P 77 i (c.add 2) (.map k)/\∃l,Clr P #[77] 0 i (.map
 k) l/\R (E (I 0)) l))))
theorem sync.ok(h:Option Addr)(n:ByteArray)(Z0:sync.vc Tryz.prog (.int .i64) .pointer .slice .returned u U h n):Calls Tryz.prog 94 #[.pointer h,.string n] u U:=cok sync.an Tryz.func94 (by kernel_rfl) (by kernel_rfl) Z0
def take.an:An:=⟨[],[(3,[(3,.inl .u64),(8,.inl .i64)])],[],[]⟩
def take.vc(f:Option Addr)(c:Nat)(h:Nat):Prop:=Ae (fun(a:Int×Int)(b:World)(g:Int×Int->World->Prop)=>br (decide (a.2<(↑c:Int))) (onP f fun e=>((0:Int)<=a.2/\a.2<(↑c:Int))/\∃d,Ld
 P 5 b (e.add (a.2.toNat*1)) (.int .u8 d)/\(0:Int)<=(8:Int)/\inR .u64 (a.1*(2:Int)^min (Int.toNat (8:Int)) (IntKind.bits
 .u64))/\inR .i64 (a.2+(1:Int))/\g (Vc.bits .or .u64 (a.1*(2:Int)^min (Int.toNat (8:Int)) (IntKind.bits .u64)) (IntKind.wrap .u64
 d),a.2+(1:Int)) b) (R (E (.int .u64 a.1)) b)) ((0:Int),(0:Int)) w
theorem take.ok(f:Option Addr)(c:Nat)(h:Nat)(Z0:take.vc Tryz.prog .returned u U f c h):Calls Tryz.prog 135 #[.slice f c h] u U:=cok take.an Tryz.func135 (by kernel_rfl) (by kernel_rfl) Z0
def renameC.an:An:=⟨[],[],[],[]⟩
def renameC.vc(e:Option Nat)(g:Option Addr)(h:Option Addr)(i:Option Addr):Prop:=∃b,(onP g fun a=>Ld P 9 w a (.string b))/\∃c,Del P #[67,9] 0 w (.map e) (.string b) c/\∃b,(onP i fun a=>Ld P 9
 c a (.string b))/\∃d,(onP h fun a=>Ld P 3 c a (I d))/\∃f,MUp P 67 c (.map e) (.string b) (I d) f/\R (E (.tuple #[])) f
theorem renameC.ok(e:Option Nat)(g:Option Addr)(h:Option Addr)(i:Option Addr)(Z0:renameC.vc Tryz.prog (.int .i64) .returned u U e g h i):Calls Tryz.prog 136 #[.map e,(.pointer g),(.pointer h),(.pointer i)] u U:=cok renameC.an Tryz.func136 (by kernel_rfl) (by kernel_rfl) Z0
def indexT.an:An:=⟨[],[(2,[(8,.inl .i64)])],[],[]⟩
def indexT.vc(j:Option Addr)(e:Nat)(k:Nat)(h:Value):Prop:=Ae (fun(a:Int)(b:World)(i:Int->World->Prop)=>br (decide (a<(↑e:Int))) (onP j fun f=>(0<=a/\a<(↑e:Int))/\∃d,Ld P 9 b (Addr.add f
 (a.toNat*1)) (.string d)/\Du P h [.string d] b fun g b=>∃c,g=E (.bool c)/\br c (R (E (I a)) b)
 (inR .i64 (a+1)/\i (a+1) b)) (R (E (I (-1:Int))) b)) 0 w
theorem indexT.ok(j:Option Addr)(e:Nat)(k:Nat)(h:Value)(Z0:indexT.vc Tryz.prog (.int .i64) .returned u U j e k h):Calls Tryz.prog 128 #[.slice j e k,h] u U:=cok indexT.an Tryz.func128 (by kernel_rfl) (by kernel_rfl) Z0
def snew.an:An:=⟨[],[],[],[]⟩
def snew.vc:Prop:=∀a b,New w (.cells (List.toArray (bigL P 144 [(2,I 4096)])) 144) a b->R (E (Q (some (.mk a 0 none)))) b
theorem snew.ok(Z0:snew.vc Tryz.prog (.int .i64) .pointer .returned u U):Calls Tryz.prog 98 #[] u U:=cok snew.an Tryz.func98 (by kernel_rfl) (by kernel_rfl) Z0
def two.an:An:=⟨[],[],[],[]⟩
def two.vc(e:Option Addr)(a:Int):Prop:=onP e fun b=>((0:Int)<=a/\a<(↑(4096:Nat):Int))/\∃c,Ld P 5 w.drew (b.add (a.toNat*1)) (.int .u8 c)/\(0:Int)<=(8:Int)/\inR
 .i64 (IntKind.wrap .i64 c*(2:Int)^min (Int.toNat (8:Int)) (IntKind.bits .i64))/\inR .i64 (a+(1:Int))/\onP e fun b=>((0:Int)<=a+(1:Int)/\a+(1
 :Int)<(↑(4096:Nat):Int))/\∃d,Ld P 5 w.drew (b.add (Int.toNat (a+(1:Int))*1)) (.int .u8 d)/\R (E (I
 (Vc.bits .or .i64 (IntKind.wrap .i64 c*(2:Int)^min (Int.toNat (8:Int)) (IntKind.bits .i64)) (IntKind.wrap .i64 d)))) w.drew
theorem two.ok(e:Option Addr)(a:Int)(Z0:two.vc Tryz.prog (.int .i64) .returned u U e a):Calls Tryz.prog 117 #[.pointer e,.int .i64 a] u U:=cok two.an Tryz.func117 (by kernel_rfl) (by kernel_rfl) Z0
def lay.an:An:=⟨[],[],[],[]⟩
def lay.vc(c:Option Addr)(a:Int)(b:Int):Prop:=inR .i64 (a+(1:Int))/\(0:Int)<=(8:Int)/\onP c fun f=>((0:Int)<=a/\a<(↑(4096:Nat):Int))/\onP c fun g=>∃d,St P 5 w.drew (Addr.add f
 (a.toNat*1)) (.int .u8 (IntKind.wrap .u8 (Int.fdiv b ((2:Int)^min (Int.toNat (8:Int)) (IntKind.bits .i64))))) d/\((0:Int)<=a+(1:Int)/\a+(1:
 Int)<(↑(4096:Nat):Int))/\∃e,St P 5 d (g.add (Int.toNat (a+(1:Int))*1)) (.int .u8 (IntKind.wrap .u8 b)) e/\R (E
 (.tuple #[])) e
theorem lay.ok(c:Option Addr)(a:Int)(b:Int)(Z0:lay.vc Tryz.prog .returned u U c a b):Calls Tryz.prog 132 #[.pointer c,.int .i64 a,.int .i64 b] u U:=cok lay.an Tryz.func132 (by kernel_rfl) (by kernel_rfl) Z0
def slot.an:An:=⟨[],[],[],[]⟩
def slot.vc(d:Option Addr)(a:Int):Prop:=br (decide (a<0)) (R (E (.tuple #[I 0,I 0])) w) (onP d fun g=>∃b,Ld P 3 w (g.add 4096) (I b)/\br (decide (b<=a)) (R (E (.tuple #[I 0,I 0])) w) (inR .i64 (4*a)/\inR .i64 (10+(4:
 Int)*a)/\AB P 117 [Q d,I (10+4*a)] w fun c e=>∃b,c=E (I b)/\inR .i64 ((4:
 Int)*a)/\inR .i64 (10+4*a)/\inR .i64 (10+4*a+2)/\AB P 117 [Q d,I (10+
 4*a+2)] e fun c e=>∃f,c=E (I f)/\R (E (.tuple #[I b,I f])) e))
theorem slot.ok(d:Option Addr)(a:Int)(Z0:slot.vc Tryz.prog (.int .i64) .pointer .returned u U d a):Calls Tryz.prog 77 #[.pointer d,.int .i64 a] u U:=cok slot.an Tryz.func77 (by kernel_rfl) (by kernel_rfl) Z0
def set.an:An:=⟨[],[],[],[]⟩
def set.vc(d:Option Addr)(a:Int)(e:Int)(f:Int):Prop:=inR .i64 (4*a)/\inR .i64 (10+4*a)/\AB P 132 [Q d,I (10+4*a),I
 e] w fun b c=>b=E (.tuple #[])/\inR .i64 (4*a)/\inR .i64 (10+4*a)/\inR .i64 (10+4*a+2)/\
 AB P 132 [Q d,I (10+4*a+2),I f] c fun b c=>b=E (.tuple #[])/\R
 (E (.tuple #[])) c
theorem set.ok(d:Option Addr)(a:Int)(e:Int)(f:Int)(Z0:set.vc Tryz.prog (.int .i64) .pointer .returned u U d a e f):Calls Tryz.prog 131 #[.pointer d,.int .i64 a,.int .i64 e,.int .i64 f] u U:=cok set.an Tryz.func131 (by kernel_rfl) (by kernel_rfl) Z0
def each.an:An:=⟨[],[(1,[(11,.inl .i64)])],[],[]⟩
def each.vc(g:Option Addr)(j:Value):Prop:=onP g fun h=>∃c,Ld P 3 w (h.add 4096) (I c)/\Ae (fun(b:Int)(a:World)(f:Int->World->Prop)=>br (decide (b<c)) (AB P
 77 [Q g,I b] a fun d a=>∃c i,d=E (.tuple #[I c,I i])/\br (decide (0<c)) (Du
 P j [I b] a fun d a=>∃e,d=E (.bool e)/\br (!e) (R (E (.tuple #[])) a) (inR .i64 (b+1)/\f (b
 +1) a)) (inR .i64 (b+1)/\f (b+1) a)) (R (E (.tuple #[])) a)) 0 w
theorem each.ok(g:Option Addr)(j:Value)(Z0:each.vc Tryz.prog (.int .i64) .pointer .returned u U g j):Calls Tryz.prog 76 #[.pointer g,j] u U:=cok each.an Tryz.func76 (by kernel_rfl) (by kernel_rfl) Z0
def slots.an:An:=⟨[],[],[],[(4,[(7,.inl .i64)])]⟩
def slots.vc(s:Option Addr):Prop:=∀f a,New w (.cells #[S none 0 0] 30) f a->∃(g:FuncId),∃(l:Array Value),∃(k:Array Value),Value.func (.func 76) #[Q s] #[]=Value.func (.func g) l k/\
 MZ P g/\JO P g (Array.toList l) (Array.toList k) (fun h=>[I h]) (fun(h:Int)(b:World)(q:World->(World->Prop)->Prop)
 (r v:World->Prop) (x:Nat->World->Prop)=>q b fun p=>∃c e d,Ld P 30 p (.mk f 0 none) (S c e d)/\∀j a,New p (.cells #[I
 h] 3) j a->∃i n m o,App P #[30,30] 30 a (S c e d) (S (some (.mk j 0 none)) 1 1) (S i n m) o/\∃a,St P 30 o
 (.mk f 0 none) (S i n m) a/\r a) a (fun D b=>∃c e d,Ld P 30 b (.mk f 0 none) (S c e d)/\∃a,N8 b D a/\R (E (S
 c e d)) a) (fun D b=>False) fun(t D:Nat)(b:World)=>False
theorem slots.ok(s:Option Addr)(Z0:slots.vc Tryz.prog (.int .i64) .pointer .slice .returned u U s):Calls Tryz.prog 42 #[.pointer s] u U:=cok slots.an Tryz.func42 (by kernel_rfl) (by kernel_rfl) Z0
def room.an:An:=⟨[],[],[],[(4,[(9,.inl .i64)])]⟩
def room.vc(d:Option Addr):Prop:=∀f a,New w (.cells #[Q d] 99) f a->∀e l,New a (.cells #[I 0] 3) e l->∃a,St P 3 l (.mk e 0 none) (I 3600) a/\∃d,Ld P 99 a (.mk f 0 none) (Q d)/\∃(g:FuncId),∃(k:Array Value),∃(j:Array Value),Value.func (.func 76) #[Q d]
 #[]=Value.func (.func g) k j/\MZ P g/\JO P g (Array.toList k) (Array.toList j) (fun i=>[I i]) (fun(i:Int)(b:World)
 (n:World->(World->Prop)->Prop) (p r:World->Prop) (s:Nat->World->Prop)=>n b fun m=>∃d,Ld P 99 m (.mk f 0 none) (Q d)/\AB
 P 77 [Q d,I i] m fun o b=>∃c h,o=E (.tuple #[I c,I h])/\∃c,Ld
 P 3 b (.mk e 0 none) (I c)/\inR .i64 (c-h)/\∃a,St P 3 b (.mk e 0 none) (I (c-h)) a/\p a)
 a (fun D b=>∃c,Ld P 3 b (.mk e 0 none) (I c)/\∃a,N8 b D a/\R (E (I c)) a) (fun D b=>False) fun(q D:
 Nat) (b:World)=>False
theorem room.ok(d:Option Addr)(Z0:room.vc Tryz.prog (.int .i64) .pointer .returned u U d):Calls Tryz.prog 130 #[.pointer d] u U:=cok room.an Tryz.func130 (by kernel_rfl) (by kernel_rfl) Z0
def get.an:An:=⟨[],[],[],[]⟩
def get.vc(d:Option Addr)(h:Int):Prop:=AB P 77 [Q d,I h] w fun g c=>∃a b,g=E (.tuple #[I a,I b])/\br (decide (a=
 0)) (R (E (.tuple #[.string (.mk #[]),.bool false])) c) (onP d fun f=>inR .i64 (a+b)/\(0<=a/\a<=a+b/\a+b<=(↑(4096:
 Nat):Int))/\∃e,B2S P 29 9 c (S (slA (some f) 4096 (a.toNat) 1) (Int.toNat (a+b)-a.toNat) (4096-a.toNat)) (.string e)/\R (E
 (.tuple #[.string e,.bool true])) c)
theorem get.ok(d:Option Addr)(h:Int)(Z0:get.vc Tryz.prog (.int .i64) .pointer .slice .returned u U d h):Calls Tryz.prog 43 #[.pointer d,.int .i64 h] u U:=cok get.an Tryz.func43 (by kernel_rfl) (by kernel_rfl) Z0
def drop.an:An:=⟨[],[(12,[])],[],[(6,[(42,.inl .i64)])]⟩
def drop.vc(a:Option Addr)(F:Int):Prop:=∀e d,New w (.cells #[Q a] 99) e d->∃a,Ld P 99 d (.mk e 0 none) (Q a)/\AB P 77 [Q a,I F]
 d fun h c=>∃b A,h=E (.tuple #[I b,I A])/\∀n d,New c (.cells #[I 0] 3) n d->∀k G,New d
 (.cells #[I 0] 3) k G->∃d,St P 3 G (.mk n 0 none) (I b) d/\∃g,St P 3 d (.mk k 0 none)
 (I A) g/\∃b,Ld P 3 g (.mk n 0 none) (I b)/\br (decide (b=0)) (R (E (.tuple #[])) g) (∃a,Ld
 P 99 g.drew (.mk e 0 none) (Q a)/\onP a fun f=>∃a,Ld P 99 g.drew (.mk e 0 none) (Q a)/\onP a fun K=>∃b,
 Ld P 3 g.drew (K.add 4097) (I b)/\∃l,Ld P 3 g.drew (.mk k 0 none) (I l)/\inR
 .i64 (b+l)/\∃p,Ld P 3 g.drew (.mk n 0 none) (I p)/\∃q,Ld P 3 g.drew (.mk k 0 none)
 (I q)/\inR .i64 (p+q)/\(0<=b+l/\b+l<=p+q/\p+q<=(↑(4096:Nat):Int))/\∃a,Ld P 99 g.drew (.mk e
 0 none) (Q a)/\onP a fun L=>∃a,Ld P 99 g.drew (.mk e 0 none) (Q a)/\onP a fun M=>∃o,Ld P 3 g.drew
 (M.add 4097) (I o)/\∃t,Ld P 3 g.drew (.mk n 0 none) (I t)/\(0<=o/\o<=t/\t<=(↑(4096:
 Nat):Int))/\∃V d,Cpy P #[29,29] 3 g.drew (S (slA (some f) 4096 (Int.toNat (b+l)) 1) (Int.toNat (p+q)-Int.toNat (b+l)) (4096-Int.toNat (b
 +l))) (S (slA (some L) 4096 (o.toNat) 1) (t.toNat-o.toNat) (4096-o.toNat)) (I V) d/\∃a,Ld P 99 d (.mk e 0 none)
 (Q a)/\∃(v:FuncId),∃(z:Array Value),∃(y:Array Value),Value.func (.func 76) #[Q a] #[]=Value.func (.func v) z y/\MZ P v/\JO
 P v (Array.toList z) (Array.toList y) (fun s=>[I s]) (fun(s:Int)(c:World)(T:World->(World->Prop)->Prop)(B Y:World->Prop)(Z:Nat->
 World->Prop)=>T c fun H=>∃a,Ld P 99 H (.mk e 0 none) (Q a)/\AB P 77 [Q a,I s] H fun h c=>∃b i,
 h=E (.tuple #[I b,I i])/\∃j,Ld P 3 c (.mk n 0 none) (I j)/\br (decide (b<=j)) (∃
 a,Ld P 99 c (.mk e 0 none) (Q a)/\∃m,Ld P 3 c (.mk k 0 none) (I m)/\inR .i64 (b+m)/\AB
 P 131 [Q a,I s,I (b+m),I i] c fun h c=>h=E (.tuple #[])/\B c) (B c)) d
 (fun D c=>∃a,Ld P 99 c.drew (.mk e 0 none) (Q a)/\onP a fun f=>∃a,Ld P 99 c.drew (.mk e 0 none) (Q a)/\onP
 a fun N=>∃b,Ld P 3 c.drew (N.add 4097) (I b)/\∃a,Ld P 99 c.drew (.mk e 0 none) (Q a)/\onP a fun
 O=>∃i,Ld P 3 c.drew (O.add 4097) (I i)/\∃j,Ld P 3 c.drew (.mk k 0 none) (I j)/\
 inR .i64 (i+j)/\(0<=b/\b<=i+j/\i+j<=(↑(4096:Nat):Int))/\∃d,Clr P #[29] 0 c.drew (S (slA (some f) 4096 (b.toNat)
 1) (Int.toNat (i+j)-b.toNat) (4096-b.toNat)) d/\∃a,Ld P 99 d.drew (.mk e 0 none) (Q a)/\onP a fun f=>∃b,Ld P 3
 d.drew (f.add 4097) (I b)/\∃m,Ld P 3 d.drew (.mk k 0 none) (I m)/\inR .i64 (b+m)/\onP a fun f
 =>∃x,St P 3 d.drew (f.add 4097) (I (b+m)) x/\∃a,Ld P 99 x (.mk e 0 none) (Q a)/\AB
 P 131 [Q a,I F,I 0,I 0] x fun(h:Ending)(c:World)=>h=E (.tuple #[])/\
 Ae (fun(s:PUnit)(c:World)(W:PUnit->World->Prop)=>∃(a:Option Addr),Ld P 99 c.drew (.mk e 0 none) (Q a)/\onP a fun(f:Addr)=>∃(b:
 Int),Ld P 3 c.drew (f.add 4096) (I b)/\br (decide (0<b)) (∃(a:Option Addr),Ld P 99 c.drew (.mk e 0
 none) (Q a)/\∃(r:Option Addr),Ld P 99 c.drew (.mk e 0 none) (Q r)/\onP r fun(f:Addr)=>∃(b:Int),Ld P 3
 c.drew (f.add 4096) (I b)/\inR .i64 (b-1)/\inR .i64 (4*(b-1))/\inR .i64 (10+4*(b-(1:
 Int)))/\AB P 117 [Q a,I (10+4*(b-1))] c.drew fun(h:Ending)(c:World)=>∃(b:Int),h=
 E (I b)/\br (decide (b=0)) (∃(a:Option Addr),Ld P 99 c (.mk e 0 none) (Q a)/\onP a fun(f:Addr)=>∃(b:Int),Ld
 P 3 c (f.add 4096) (I b)/\inR .i64 (b-1)/\onP a fun(f:Addr)=>∃(d:World),St P 3 c (f.add 4096) (I (b-1)) d/\W () d) (∃(a:Option Addr),Ld P 99 c.drew (.mk e 0 none) (Q a)/\∃(C:Option Addr),Ld P 99
 c.drew (.mk e 0 none) (Q C)/\onP C fun(f:Addr)=>∃(b:Int),Ld P 3 c.drew (f.add 4096) (I b)/\AB
 P 132 [Q a,I 8,I b] c.drew fun(h:Ending)(c:World)=>h=E (.tuple #[])/\∃(d:World),N8
 c D d/\R (E (.tuple #[])) d)) (∃(a:Option Addr),Ld P 99 c.drew.drew (.mk e 0 none) (Q a)/\∃(r:Option Addr),Ld
 P 99 c.drew.drew (.mk e 0 none) (Q r)/\onP r fun(f:Addr)=>∃(b:Int),Ld P 3 c.drew.drew (f.add 4096)
 (I b)/\AB P 132 [Q a,I 8,I b] c.drew.drew fun(h:Ending)(c:World)=>h=
 E (.tuple #[])/\∃(d:World),N8 c D d/\R (E (.tuple #[])) d)) () c) (fun D c=>False) fun(X D:Nat)(c:World)=>False)
theorem drop.ok(a:Option Addr)(F:Int)(Z0:drop.vc Tryz.prog (.int .i64) .pointer .slice .returned u U a F):Calls Tryz.prog 129 #[.pointer a,.int .i64 F] u U:=cok drop.an Tryz.func129 (by kernel_rfl) (by kernel_rfl) Z0
def put.an:An:=⟨[],[(10,[])],[(7,[(7,.inl .i64)])],[]⟩
def put.vc(d:Option Addr)(f:Int)(h:ByteArray):Prop:=br (decide (f<0)) (R (E (I 110)) w) (br (decide (120<=f)) (R (E (I 110)) w) (AB P 130
 [Q d] w fun e b=>∃a,e=E (I a)/\AB P 77 [Q d,I f] b fun e b=>∃k i,e=
 E (.tuple #[I k,I i])/\F8 (fun o b=>br (decide (o<(↑(h.size):Int))) (R (E (I
 111)) b) (AB P 129 [Q d,I f] b fun e b=>e=E (.tuple #[])/\Ae (fun(p:PUnit)(b:World)(n:PUnit->World
 ->Prop)=>onP d fun c=>∃a,Ld P 3 b (c.add 4096) (I a)/\br (decide (a<=f)) (onP d fun c=>∃a,Ld P 3 b (c.add 4096) (I a)/\AB P 131 [Q d,I a,I 0,I 0] b fun e b=>e=E (.tuple #[])/\onP d
 fun c=>∃a,Ld P 3 b (c.add 4096) (I a)/\inR .i64 (a+1)/\onP d fun c=>∃g,St P 3 b (c.add 4096) (I (a+1)) g/\n () g) (onP d fun c=>∃a,Ld P 3 b (c.add 4096) (I a)/\AB P 132 [Q d,I 8,I a] b fun e b=>e=E (.tuple #[])/\onP d fun c=>∃a,Ld P 3 b (c.add 4097) (I a)/\inR
 .i64 (a-(↑(h.size):Int))/\onP d fun c=>∃g,St P 3 b (c.add 4097) (I (a-(↑(h.size):Int))) g/\onP d fun c=>onP d fun
 l=>∃a,Ld P 3 g.drew (l.add 4097) (I a)/\(0<=a/\a<=(↑(4096:Nat):Int))/\∃m j,Cpy P #[29,9] 3 (World.drew
 g) (S (slA (some c) 4096 (a.toNat) 1) (4096-a.toNat) (4096-a.toNat)) (.string h) (I m) j/\onP d fun c=>∃a,Ld P 3 j
 (c.add 4097) (I a)/\AB P 131 [Q d,I f,I a,I (↑(h.size):Int)]
 j fun e b=>e=E (.tuple #[])/\R (E (I 0)) b)) () b)) fun(J:Int->World->Prop)=>br (decide (0<k)) (inR .i64 (a+
 i)/\J (a+i) b) (J a b)))
theorem put.ok(d:Option Addr)(f:Int)(h:ByteArray)(Z0:put.vc Tryz.prog (.int .i64) .pointer .slice .returned u U d f h):Calls Tryz.prog 100 #[.pointer d,.int .i64 f,.string h] u U:=cok put.an Tryz.func100 (by kernel_rfl) (by kernel_rfl) Z0
def delete.an:An:=⟨[],[],[],[]⟩
def delete.vc(d:Option Addr)(e:Int):Prop:=AB P 77 [Q d,I e] w fun b a=>∃c f,b=E (.tuple #[I c,I f])/\br (decide (c=
 0)) (R (E (I 110)) a) (AB P 129 [Q d,I e] a fun b a=>b=E (.tuple #[])/\R
 (E (I 0)) a)
theorem delete.ok(d:Option Addr)(e:Int)(Z0:delete.vc Tryz.prog (.int .i64) .pointer .returned u U d e):Calls Tryz.prog 99 #[.pointer d,.int .i64 e] u U:=cok delete.an Tryz.func99 (by kernel_rfl) (by kernel_rfl) Z0
def stamp.an:An:=⟨[0,1,2,3,4,5,6,7,8],[(3,[(3,.inl .i64),(11,.inl .i64)])],[],[]⟩
def stamp.vc(f:Option Addr):Prop:=onP f fun d=>((0:Int)<=(8:Int)/\(8:Int)<=(↑(4096:Nat):Int))/\Ae (fun(a:Int×Int)(b:World)(e:Int×Int->World->Prop)=>br (decide (a.2<(↑(Int.toNat (8:Int))
 :Int))) (((0:Int)<=a.2/\a.2<(↑(Int.toNat (8:Int)):Int))/\∃c,Ld P 5 b (d.add (a.2.toNat*1)) (.int .u8 c)/\(0:Int)<=(8:
 Int)/\e (Vc.bits .or .i64 (IntKind.wrap .i64 (a.1*(2:Int)^min (Int.toNat (8:Int)) (IntKind.bits .i64))) (IntKind.wrap .i64 c),IntKind.wrap
 .i64 (a.2+(1:Int))) b) (R (E (I a.1)) b)) ((0:Int),(0:Int)) w
theorem stamp.ok(f:Option Addr)(Z0:stamp.vc Tryz.prog (.int .i64) .returned u U f):Calls Tryz.prog 126 #[.pointer f] u U:=cok stamp.an Tryz.func126 (by kernel_rfl) (by kernel_rfl) Z0
def setStamp.an:An:=⟨[],[(4,[(12,.inl .i64)])],[],[]⟩
def setStamp.vc(g:Option Addr)(b:Int):Prop:=br (decide (b<0)) (R (E (.bool false)) w) (br (decide (4611686018427387904<b)) (R (E (.bool false)) w) (Ae (fun(a:Int)(c:World)(f
 :Int->World->Prop)=>br (decide (a<8)) (inR .i64 (8*a)/\inR .i64 (56-8*a)/\0<=56-8*a/\onP g fun e=>(0
 <=a/\a<(↑(4096:Nat):Int))/\∃d,St P 5 c.drew (e.add (a.toNat*1)) (.int .u8 (IntKind.wrap .u8 (Int.fdiv b (2^min (Int.toNat
 (56-8*a)) (IntKind.bits .i64))))) d/\inR .i64 (a+1)/\f (a+1) d) (R (E (.bool true)) c)) 0 w))
theorem setStamp.ok(g:Option Addr)(b:Int)(Z0:setStamp.vc Tryz.prog .returned u U g b):Calls Tryz.prog 102 #[.pointer g,.int .i64 b] u U:=cok setStamp.an Tryz.func102 (by kernel_rfl) (by kernel_rfl) Z0
def bytes.an:An:=⟨[],[],[],[]⟩
def bytes.vc(f:Option Addr):Prop:=onP f fun e=>∃(b:List Value),Ld P 142 w e (.agg (List.toArray b))/\∀a c,New w (.cells (List.toArray (zl P 142)) 142) a c->∃d,St
 P 142 c (.mk a 0 none) (.agg (List.toArray b)) d/\R (E (S (some (.mk a 0 none)) 4096 4096)) d
theorem bytes.ok(f:Option Addr)(Z0:bytes.vc Tryz.prog .slice .returned u U f):Calls Tryz.prog 59 #[.pointer f] u U:=cok bytes.an Tryz.func59 (by kernel_rfl) (by kernel_rfl) Z0
def clone.an:An:=⟨[],[],[],[]⟩
def clone.vc(h:Option Addr):Prop:=onP h fun g=>∃(b:List Value),∃c d,Ld P 144 w g (.agg (List.toArray (b++([I c]++([I d]++[])))))/\∀a e,New w
 (.cells (List.toArray (zl P 144)) 144) a e->∃f,St P 144 e (.mk a 0 none) (.agg (List.toArray (b++([I c]++([I d]++[]))))) f/\R (E (Q (some (.mk a 0 none)))) f
theorem clone.ok(h:Option Addr)(Z0:clone.vc Tryz.prog (.int .i64) .pointer .returned u U h):Calls Tryz.prog 89 #[.pointer h] u U:=cok clone.an Tryz.func89 (by kernel_rfl) (by kernel_rfl) Z0
def load.an:An:=⟨[],[],[],[(11,[(29,.inl .i64)])]⟩
def load.vc(B:Option Addr)(G:Nat)(C:Nat):Prop:=∀q a,New w (.cells #[S B G C] 29) q a->∀f A,New a (.cells #[Q none] 99) f A->∀g a,New A (.cells #[I 0] 27) g a->∃k
 l i,Ld P 29 a (.mk q 0 none) (S k l i)/\br (!decide ((↑l:Int)=4096)) (∃o,St P 99 a (.mk f 0 none) (Q none) o/\
 ∃a,St P 27 o (.mk g 0 none) (I 112) a/\∃c,Ld P 99 a (.mk f 0 none) (Q c)/\∃b,Ld P 27 a
 (.mk g 0 none) (I b)/\R (E (.tuple #[Q c,I b])) a) (∀j o,New a (.cells (List.toArray (zl P
 144)) 144) j o->∃k l i,Ld P 29 o.drew (.mk q 0 none) (S k l i)/\∃K a,Cpy P #[29,29] 3 o.drew (S (some
 (.mk j 0 none)) 4096 4096) (S k l i) (I K) a/\AB P 117 [Q (some (.mk j 0 none)),I 8] a fun h d=>∃b,
 h=E (I b)/\∃a,St P 3 d (.mk j 4096 none) (I b) a/\AB P 98 [] a fun h d=>∃c,h=
 E (Q c)/\∀m a,New d (.cells #[Q none] 99) m a->∃p,St P 99 a (.mk m 0 none) (Q c) p/\∃b,Ld
 P 3 p.drew (.mk j 4096 none) (I b)/\br (decide (120<b)) (∃a,St P 99 p.drew (.mk f 0 none)
 (Q none) a/\∃e,St P 27 a (.mk g 0 none) (I 112) e/\∃c,Ld P 99 e (.mk f 0 none) (Q c)/\∃b,
 Ld P 27 e (.mk g 0 none) (I b)/\R (E (.tuple #[Q c,I b])) e) (∃c,Ld P 99
 p.drew (.mk m 0 none) (Q c)/\AB P 126 [Q (some (.mk j 0 none))] p.drew fun h d=>∃b,h=E (I b)/\Ld P 99 d (.mk m 0 none) (Q c)/\AB P 102 [Q c,I b] d fun h d=>∃v,h=E
 (.bool v)/\br (!v) (∃a,St P 99 d (.mk f 0 none) (Q none) a/\∃e,St P 27 a (.mk g 0 none) (I 112) e
 /\∃c,Ld P 99 e (.mk f 0 none) (Q c)/\∃b,Ld P 27 e (.mk g 0 none) (I b)/\R (E (.tuple
 #[Q c,I b])) e) (∃(s:FuncId),∃(y:Array Value),∃(x:Array Value),Value.func (.func 76) #[Q (some (.mk j 0 none))] #[]=Value.func
 (.func s) y x/\MZ P s/\JO P s (Array.toList y) (Array.toList x) (fun r=>[I r]) (fun(r:Int)(d:World)(F:World->
 (World->Prop)->Prop) (H t:World->Prop) (N:Nat->World->Prop)=>F d fun L=>AB P 77 [Q (some (.mk j 0 none)),I r] L fun h d
 =>∃b n,h=E (.tuple #[I b,I n])/\br (decide (b<10)) (∃a,St P 99 d.drew (.mk f 0 none)
 (Q none) a/\∃e,St P 27 a (.mk g 0 none) (I 112) e/\t e) (inR .i64 (4096-b)/\br (decide (4096-b<
 n)) (∃a,St P 99 d.drew (.mk f 0 none) (Q none) a/\∃e,St P 27 a (.mk g 0 none) (I 112) e/\t
 e) (∃c,Ld P 99 d.drew (.mk m 0 none) (Q c)/\∃k l i,Ld P 29 d.drew (.mk q 0 none) (S k l i)/\inR .i64
 (b+n)/\(0<=b/\b<=b+n/\b+n<=(↑i:Int))/\∃z,B2S P 29 9 d.drew (S (slA k i (b.toNat) 1) (Int.toNat (b+n)-b.toNat) (i-
 b.toNat)) (.string z)/\AB P 100 [Q c,I r,.string z] d.drew fun h d=>∃b,h=E (I
 b)/\br (!decide (b=0)) (∃a,St P 99 d (.mk f 0 none) (Q none) a/\∃e,St P 27 a (.mk g 0 none) (I 112)
 e/\t e) (H d)))) d (fun D d=>∃c,Ld P 99 d (.mk m 0 none) (Q c)/\∃a,St P 99 d (.mk f 0 none) (Q c) a/\∃
 e,St P 27 a (.mk g 0 none) (I 0) e/\∃a,N8 e D a/\∃c,Ld P 99 a (.mk f 0 none) (Q c)/\∃b,Ld
 P 27 a (.mk g 0 none) (I b)/\R (E (.tuple #[Q c,I b])) a) (fun D d=>∃a,N8 d D a/\∃c,Ld
 P 99 a (.mk f 0 none) (Q c)/\∃b,Ld P 27 a (.mk g 0 none) (I b)/\R (E (.tuple #[Q c,
 I b])) a) fun(M D:Nat)(d:World)=>False)))
theorem load.ok(B:Option Addr)(G:Nat)(C:Nat)(Z0:load.vc Tryz.prog (.int .i64) .pointer .slice .returned u U B G C):Calls Tryz.prog 116 #[.slice B G C] u U:=cok load.an Tryz.func116 (by kernel_rfl) (by kernel_rfl) Z0
def ffind.an:An:=⟨[],[(2,[(12,.inl .i64)])],[],[]⟩
def ffind.vc(c:Option Addr)(i:Int):Prop:=onP c fun b=>∃f e h,Ld P 132 w (b.add 4) (S f e h)/\Ae (fun(a:Int)(d:World)(j:Int->World->Prop)=>br (decide (a<(↑e:Int))) (onP f fun b=>
 (0<=a/\a<(↑e:Int))/\∃c,Ld P 153 d (b.add (a.toNat*1)) (Q c)/\onP c fun b=>∃g,Ld P 3 d b (I g)/\br
 (decide (g=i)) (R (E (Q c)) d) (inR .i64 (a+1)/\j (a+1) d)) (R (E (Q none)) d)) 0 w
theorem ffind.ok(c:Option Addr)(i:Int)(Z0:ffind.vc Tryz.prog (.int .i64) .pointer .slice .returned u U c i):Calls Tryz.prog 87 #[.pointer c,.int .i64 i] u U:=cok ffind.an Tryz.func87 (by kernel_rfl) (by kernel_rfl) Z0
def numbers.an:An:=⟨[],[(3,[(5,.inr 3),(13,.inl .i64)])],[],[]⟩
def numbers.vc(e:Option Addr)(p:Value):Prop:=onP e fun c=>∃h g o,Ld P 132 w (c.add 4) (S h g o)/\Ae (fun(a:(Option Addr×Nat×Nat)×Int)(b:World)(l:(Option Addr×Nat×Nat)×Int->World
 ->Prop)=>br (decide (a.2<(↑g:Int))) (onP h fun c=>(0<=a.2/\a.2<(↑g:Int))/\∃e,Ld P 153 b (c.add (a.2.toNat*1))
 (Q e)/\Du P p [Q e] b fun f b=>∃d,f=E (.bool d)/\br d (onP e fun c=>∃i,Ld P 3 b c (I
 i)/\∀d m,New b (.cells #[I i] 3) d m->∃c k j n,App P #[30,30] 30 m (S a.1.1 a.1.2.1
 a.1.2.2) (S (some (.mk d 0 none)) 1 1) (S c k j) n/\inR .i64 (a.2+1)/\l ((c,k,j),a.2+1) n)
 (inR .i64 (a.2+1)/\l ((a.1.1,a.1.2.1,a.1.2.2),a.2+1) b)) (AB P 85
 [S a.1.1 a.1.2.1 a.1.2.2] b fun f b=>f=E (.tuple #[])/\R (E (S
 a.1.1 a.1.2.1 a.1.2.2)) b)) ((none,0,0),0) w
theorem numbers.ok(e:Option Addr)(p:Value)(Z0:numbers.vc Tryz.prog (.int .i64) .pointer .slice .returned u U e p):Calls Tryz.prog 90 #[.pointer e,p] u U:=cok numbers.an Tryz.func90 (by kernel_rfl) (by kernel_rfl) Z0
def dirty.an:An:=⟨[],[],[],[]⟩
def dirty.vc(e:Option Addr):Prop:=AB P 90 [Q e,Value.func (.func 125) #[] #[]] w fun d f=>∃a c b,d=E (S a c b)/\R (E (S a c b)) f
theorem dirty.ok(e:Option Addr)(Z0:dirty.vc Tryz.prog .pointer .slice .returned u U e):Calls Tryz.prog 92 #[.pointer e] u U:=cok dirty.an Tryz.func92 (by kernel_rfl) (by kernel_rfl) Z0
def dirtyC.an:An:=⟨[],[],[],[]⟩
def dirtyC.vc(c:Option Addr):Prop:=onP c fun b=>∃a,Ld P 4 w (b.add 3) (.bool a)/\R (E (.bool a)) w
theorem dirtyC.ok(c:Option Addr)(Z0:dirtyC.vc Tryz.prog .returned u U c):Calls Tryz.prog 125 #[.pointer c] u U:=cok dirtyC.an Tryz.func125 (by kernel_rfl) (by kernel_rfl) Z0
def fwrite.an:An:=⟨[],[(4,[(7,.inl .i64)]),(9,[(47,.inl .i64)])],[(2,[(5,.inr 2)])],[]⟩
def fwrite.vc(e:Option Addr)(n:Option Addr):Prop:=∀g c,New w (.cells #[Q e] 88) g c->F8 (fun o a=>∃e,Ld P 88 a.drew (.mk g 0 none) (Q e)/\onP e fun d=>∃e,Ld P 23
 a.drew d (Q e)/\∃j,Ld P 88 a.drew (.mk g 0 none) (Q j)/\onP j fun d=>∃s,Ld P 9 a.drew (Addr.add
 d 1) (.string s)/\AB P 67 [Q e,.string s] a.drew fun f a=>∃b,f=E (I b)/\Ae (fun(q:Int)(a:
 World) (r:Int->World->Prop)=>onP n fun d=>∃b,Ld P 3 a d (I b)/\inR .i64 (b*8)/\br (decide (q<b*8)) (AB
 P 127 [I q,S none 0 0,Q o,Q (some (.mk g 0 none))] a fun f a=>f=E (.tuple #[])/\inR .i64
 (q+1)/\r (q+1) a) (onP n fun d=>∃e,Ld P 99 a (d.add 1) (Q e)/\AB P 59 [Q e] a fun f a=>∃d t p,f
 =E (S d t p)/\Ae (fun(h:Int)(a:World)(r:Int->World->Prop)=>br (decide (h<8)) (onP n fun k=>∃b,Ld P 3 a.drew
 k (I b)/\inR .i64 (b*8)/\inR .i64 (b*8+h)/\inR .i64 (h*512)/\inR .i64 (h+1)/\inR .i64
 ((h+1)*512)/\(0<=h*512/\h*512<=(h+1)*512/\(h+1)*512<=(↑p:Int))/\AB P 127
 [I (b*8+h),S (slA d p (Int.toNat (h*512)) 1) (Int.toNat ((h+1)*512)-Int.toNat (h*512)) (p-Int.toNat (h
 *512)),Q o,Q (some (.mk g 0 none))] a.drew fun f a=>f=E (.tuple #[])/\inR .i64 (h+1)/\r (h+1)
 a) (∃b,(onP o fun d=>Ld P 27 a d (I b))/\br (decide (b=0)) (onP n fun d=>∃c,St P 4 a (d.add 3) (.bool false) c/\∃
 b,(onP o fun d=>Ld P 27 c d (I b))/\R (E (I b)) c) (∃b,(onP o fun d=>Ld P 27 a d (I
 b))/\R (E (I b)) a))) 0 a)) b a) fun(J:Option Addr->World->Prop)=>(∃e,Ld P 88 c.drew (.mk g 0 none) (Q
 e)/\onP e fun d=>∃i,Ld P 96 c.drew (d.add 3) i/\onP n fun k=>∃j,Ld P 99 c.drew (k.add 1) (Q j)/\AB
 P 126 [Q j] c.drew fun f a=>∃b,f=E (I b)/\Ld P 96 a (d.add 3) i/\Ld P 88 a
 (.mk g 0 none) (Q e)/\Du P i [I b] a fun f a=>∃b,f=E (I b)/\∀g c,New a (.cells #[I 0] 27) g c->∃l,St P 27 c (.mk g 0 none) (I b) l/\J (some (.mk g 0 none)) l)/\(∃e,Ld P 88 c.drew
 (.mk g 0 none) (Q e)/\onP e fun d=>∃i,Ld P 96 c.drew (d.add 3) i/\onP n fun k=>∃j,Ld P 99 c.drew (k.add 1)
 (Q j)/\AB P 126 [Q j] c.drew fun f a=>∃b,f=E (I b)/\Ld P 96 a (d.add 3) i/\Ld
 P 88 a (.mk g 0 none) (Q e)/\∀m c,New a (.cells #[I 0] 27) m c->Ld P 96 c (d.add 3) i/\Ld P
 88 c (.mk g 0 none) (Q e)/\Du P i [I b] c fun f a=>∃b,f=E (I b)/\∃c,St P 27 a
 (.mk m 0 none) (I b) c/\J (some (.mk m 0 none)) c)/\∃e,Ld P 88 c.drew (.mk g 0 none) (Q e)/\onP e fun d=>∃i,Ld
 P 96 c.drew (d.add 3) i/\onP n fun k=>∃j,Ld P 99 c.drew (k.add 1) (Q j)/\∀m l,New c.drew
 (.cells #[I 0] 27) m l->Ld P 99 l (k.add 1) (Q j)/\Ld P 96 l (d.add 3) i/\Ld P 88 l
 (.mk g 0 none) (Q e)/\AB P 126 [Q j] l fun f a=>∃b,f=E (I b)/\Ld P 96 a (d.add 3)
 i/\Ld P 88 a (.mk g 0 none) (Q e)/\Du P i [I b] a fun f a=>∃b,f=E (I b)/\∃c,St
 P 27 a (.mk m 0 none) (I b) c/\J (some (.mk m 0 none)) c
theorem fwrite.ok(e:Option Addr)(n:Option Addr)(Z0:fwrite.vc Tryz.prog (.int .i64) .pointer .slice .returned u U e n):Calls Tryz.prog 93 #[.pointer e,.pointer n] u U:=cok fwrite.an Tryz.func93 (by kernel_rfl) (by kernel_rfl) Z0
def fwriteC.an:An:=⟨[],[],[],[]⟩
def fwriteC.vc(m:Int)(i:Option Addr)(k:Nat)(j:Nat)(d:Option Addr)(e:Option Addr):Prop:=∃b,(onP d fun a=>Ld P 27 w a (I b))/\br (decide (b=0)) (∃c,(onP e fun a=>Ld P 88 w.drew a (Q c))/\onP
 c fun a=>∃c,Ld P 23 w.drew a (Q c)/\∃f,(onP e fun a=>Ld P 88 w.drew a (Q f))/\onP f fun a=>∃g,Ld
 P 9 w.drew (a.add 1) (.string g)/\AB P 10 [Q c,.string g,I m,S i k j] w.drew fun l
 n=>∃b,l=E (I b)/\onP d fun a=>∃h,St P 27 n a (I b) h/\R (E (.tuple #[])) h) (R
 (E (.tuple #[])) w)
theorem fwriteC.ok(m:Int)(i:Option Addr)(k:Nat)(j:Nat)(d:Option Addr)(e:Option Addr)(Z0:fwriteC.vc Tryz.prog (.int .i64) .pointer .slice .returned u U m i k j d e):Calls Tryz.prog 127 #[.int .i64 m,.slice i k j,(.pointer d),(.pointer e)] u U:=cok fwriteC.an Tryz.func127 (by kernel_rfl) (by kernel_rfl) Z0
def free.an:An:=⟨[],[(6,[(4,.inl .i64),(41,.inl .i64)])],[],[]⟩
def free.vc(g:Option Addr):Prop:=onP g fun a=>∃D b e,Ld P 132 w.drew (a.add 4) (S D b e)/\onP g fun a=>∃c,Ld P 3 w.drew (a.add 2) (I
 c)/\br (decide ((↑b:Int)<c)) (onP g fun a=>∃o b e,Ld P 132 w.drew (a.add 4) (S o b e)/\∀i f,New w.drew (.cells #[I (-1:Int),Q none,I 0,.bool false,.bool false] 156) i f->∀x n,New f (.cells #[Q (some (.mk i 0 none))] 153) x
 n->∃a A z f,App P #[132,132] 132 n (S o b e) (S (some (.mk x 0 none)) 1 1) (S a A z) f/\onP g fun j=>∃s,St
 P 132 f (j.add 4) (S a A z) s/\onP g fun a=>∃l b e,Ld P 132 s (a.add 4) (S l b e)/\inR .i64 ((↑b:Int)-(1:
 Int))/\R (E (.tuple #[I ((↑b:Int)-1),I 0])) s) (onP g fun a=>∃o b e,Ld P 132 w.drew (Addr.add
 a 4) (S o b e)/\inR .i64 (2*(↑b:Int))/\Ae (fun(h:Int×Int)(d:World)(B:Int×Int->World->Prop)=>br (decide (h.2<2*(↑b:Int)))
 (onP g fun a=>∃j b e,Ld P 132 d.drew (a.add 4) (S j b e)/\onP g fun a=>∃c,Ld P 3 d.drew (a.add 5) (I c)/\onP j fun a=>(0<=c/\c<(↑b:Int))/\∃k,Ld P 153 d.drew (a.add (c.toNat*1)) (Q k)/\onP g fun a=>∃c,Ld
 P 3 d.drew (a.add 5) (I c)/\onP g fun a=>∃q,Ld P 3 d.drew.drew (a.add 5) (I q)/\
 inR .i64 (q+1)/\onP g fun a=>∃l b e,Ld P 132 d.drew.drew (a.add 4) (S l b e)/\(↑b:Int)≠0/\onP g fun a=>∃f,
 St P 3 d.drew.drew (a.add 5) (I (Int.tmod (q+1) (↑b:Int))) f/\onP k fun a=>∃y,Ld P 3 f (Addr.add a
 2) (I y)/\br (decide (0<y)) (inR .i64 (h.2+1)/\B (h.1,h.2+1) f) (onP k fun a=>∃i,Ld P 4
 f (a.add 4) (.bool i)/\br i (onP k fun a=>∃n,St P 4 f (a.add 4) (.bool false) n/\inR .i64 (h.2+1)/\B (h.1,
 h.2+1) n) (br (decide (c<0)) (R (E (.tuple #[I 0,I 120])) f) (onP g fun a=>∃t b e,Ld P
 132 f (a.add 4) (S t b e)/\onP t fun a=>(0<=c/\c<(↑b:Int))/\∃m,Ld P 153 f (a.add (c.toNat*1)) (Q m)/\onP m fun a
 =>∃i,Ld P 4 f (a.add 3) (.bool i)/\br i (onP g fun a=>∃v b e,Ld P 132 f (a.add 4) (S v b e)/\onP v fun a=>(0<=c/\c
 <(↑b:Int))/\∃C,Ld P 153 f (a.add (c.toNat*1)) (Q C)/\AB P 93 [Q g,Q C] f fun p d=>∃r,p=
 E (I r)/\br (!decide (r=0)) (R (E (.tuple #[I 0,I r])) d) (R (E
 (.tuple #[I c,I 0])) d)) (R (E (.tuple #[I c,I 0])) f))))) (br (decide (h.1<(0:
 Int))) (R (E (.tuple #[I 0,I 120])) d) (onP g fun a=>∃j b e,Ld P 132 d (a.add 4) (S j b e)/\onP
 j fun a=>(0<=h.1/\h.1<(↑b:Int))/\∃k,Ld P 153 d (a.add (h.1.toNat*1)) (Q k)/\onP k fun a=>∃i,Ld
 P 4 d (a.add 3) (.bool i)/\br i (onP g fun a=>∃l b e,Ld P 132 d (a.add 4) (S l b e)/\onP l fun a=>(0<=h.1/\
 h.1<(↑b:Int))/\∃m,Ld P 153 d (a.add (h.1.toNat*1)) (Q m)/\AB P 93 [Q g,Q m] d fun p
 d=>∃c,p=E (I c)/\br (!decide (c=0)) (R (E (.tuple #[I 0,I c])) d) (R (E
 (.tuple #[I h.1,I 0])) d)) (R (E (.tuple #[I h.1,I 0])) d)))) ((-1:Int),
 0) w.drew)
theorem free.ok(g:Option Addr)(Z0:free.vc Tryz.prog (.int .i64) .pointer .slice .returned u U g):Calls Tryz.prog 124 #[.pointer g] u U:=cok free.an Tryz.func124 (by kernel_rfl) (by kernel_rfl) Z0
def fread.an:An:=⟨[],[(3,[(6,.inr 3),(10,.inl .i64)])],[],[]⟩
def fread.vc(g:Option Addr)(d:Int):Prop:=Ae (fun(a:(Option Addr×Nat×Nat)×Int)(b:World)(m:(Option Addr×Nat×Nat)×Int->World->Prop)=>br (decide (a.2<8)) (onP g fun c=>∃n,Ld P
 23 b.drew c (Q n)/\onP g fun c=>∃o,Ld P 9 b.drew (c.add 1) (.string o)/\inR .i64 (d*8)/\inR .i64 (d*(8:
 Int)+a.2)/\AB P 107 [Q n,.string o,I (d*8+a.2)] b.drew fun i b=>∃c l k e,i=E
 (.tuple #[S c l k,I e])/\br (decide (e=0)) (∃j d f h,App P #[29,29] 29 b (S a.1.1 (Prod.fst (Prod.snd
 a.1)) a.1.2.2) (S c l k) (S j d f) h/\inR .i64 (a.2+1)/\m ((j,d,f),a.2+1) h) (br (decide
 (e=91)) (∃c d f h,App P #[29,3] 29 b (S a.1.1 a.1.2.1 a.1.2.2) (I
 512) (S c d f) h/\inR .i64 (a.2+1)/\m ((c,d,f),a.2+1) h) (R (E (.tuple #[Q none,I e]))
 b))) (AB P 116 [S a.1.1 a.1.2.1 a.1.2.2] b fun i b=>∃g e,i=E (.tuple
 #[Q g,I e])/\R (E (.tuple #[Q g,I e])) b)) ((none,0,0),0) w
theorem fread.ok(g:Option Addr)(d:Int)(Z0:fread.vc Tryz.prog (.int .i64) .pointer .slice .returned u U g d):Calls Tryz.prog 137 #[.pointer g,.int .i64 d] u U:=cok fread.an Tryz.func137 (by kernel_rfl) (by kernel_rfl) Z0
def hold.an:An:=⟨[],[],[],[]⟩
def hold.vc(b:Option Addr)(h:Int)(p:Option Addr):Prop:=AB P 124 [Q b] w fun o i=>∃c g,o=E (.tuple #[I c,I g])/\br (!decide (g=0)) (R
 (E (.tuple #[Q none,I g])) i) (onP b fun a=>∃k e f,Ld P 132 i (a.add 4) (S k e f)/\∀m d,New i
 (.cells #[I h,Q p,I 0,.bool false,.bool true] 156) m d->onP k fun a=>(0<=c/\c<(↑e:Int))/\∃j,St
 P 153 d (a.add (c.toNat*1)) (Q (some (.mk m 0 none))) j/\onP b fun a=>∃n,Ld P 3 j (a.add 6) (I n)/\
 inR .i64 (h+1)/\onP b fun a=>∃d,St P 3 j (a.add 6) (I (max n (h+1))) d/\onP b fun a=>∃l e f,Ld P
 132 d (a.add 4) (S l e f)/\onP l fun a=>(0<=c/\c<(↑e:Int))/\∃b,Ld P 153 d (a.add (c.toNat*1)) (Q b)/\R (E
 (.tuple #[Q b,I 0])) d)
theorem hold.ok(b:Option Addr)(h:Int)(p:Option Addr)(Z0:hold.vc Tryz.prog (.int .i64) .pointer .slice .returned u U b h p):Calls Tryz.prog 88 #[.pointer b,.int .i64 h,.pointer p] u U:=cok hold.an Tryz.func88 (by kernel_rfl) (by kernel_rfl) Z0
def fget.an:An:=⟨[],[],[],[]⟩
def fget.vc(c:Option Addr)(h:Int):Prop:=br (decide (h<0)) (R (E (.tuple #[Q none,I 121])) w) (br (decide (4096<=h)) (R (E (.tuple #[Q none,
 I 121])) w) (AB P 87 [Q c,I h] w fun g d=>∃f,g=E (Q f)/\∃j,Eqv P
 .eql 153 (.tmp 18) (.const (Q none)) d (Q f) (Q none) j/\br j (AB P 137 [Q c,I h] d fun
 g d=>∃k b,g=E (.tuple #[Q k,I b])/\br (!decide (b=0)) (R (E (.tuple #[Q none,I b])) d) (AB P 88 [Q c,I h,Q k] d fun g d=>∃c b,g=E (.tuple #[Q c,I b])/\br (!decide (b=0)) (R (E (.tuple #[Q none,I b])) d) (onP c fun a=>∃b,Ld P 3 d (a.add 2)
 (I b)/\inR .i64 (b+1)/\onP c fun a=>∃i,St P 3 d (a.add 2) (I (b+1)) i/\onP c fun a=>∃e,St
 P 4 i (a.add 4) (.bool true) e/\onP c fun a=>∃c,Ld P 99 e (a.add 1) (Q c)/\R (E (.tuple #[Q c,
 I 0])) e))) (onP f fun a=>∃b,Ld P 3 d (a.add 2) (I b)/\inR .i64 (b+1)/\onP f fun a=>∃i,St
 P 3 d (a.add 2) (I (b+1)) i/\onP f fun a=>∃e,St P 4 i (a.add 4) (.bool true) e/\onP f fun a=>∃c,Ld
 P 99 e (a.add 1) (Q c)/\R (E (.tuple #[Q c,I 0])) e)))
theorem fget.ok(c:Option Addr)(h:Int)(Z0:fget.vc Tryz.prog (.int .i64) .pointer .returned u U c h):Calls Tryz.prog 114 #[.pointer c,.int .i64 h] u U:=cok fget.an Tryz.func114 (by kernel_rfl) (by kernel_rfl) Z0
def fdone.an:An:=⟨[],[],[],[]⟩
def fdone.vc(b:Option Addr)(h:Int)(i:Bool):Prop:=AB P 87 [Q b,I h] w fun j c=>∃b,j=E (Q b)/\br (decide (h<0)) (R (E (.bool false)) c)
 (∃e,Eqv P .eql 153 (.tmp 14) (.const (Q none)) c (Q b) (Q none) e/\br e (R (E (.bool false)) c) (onP b
 fun a=>∃d,Ld P 3 c (a.add 2) (I d)/\br (decide (d=0)) (R (E (.bool false)) c) (onP b fun a=>∃d,Ld P 3
 c (a.add 2) (I d)/\inR .i64 (d-1)/\onP b fun a=>∃g,St P 3 c (a.add 2) (I (d-1)) g/\onP b fun a=>
 ∃e,Ld P 4 g (a.add 3) (.bool e)/\br e (onP b fun a=>∃f,St P 4 g (a.add 3) (.bool true) f/\R (E (.bool true))
 f) (onP b fun a=>∃f,St P 4 g (a.add 3) (.bool i) f/\R (E (.bool true)) f))))
theorem fdone.ok(b:Option Addr)(h:Int)(i:Bool)(Z0:fdone.vc Tryz.prog (.int .i64) .pointer .returned u U b h i):Calls Tryz.prog 115 #[.pointer b,.int .i64 h,.bool i] u U:=cok fdone.an Tryz.func115 (by kernel_rfl) (by kernel_rfl) Z0
def fset.an:An:=⟨[],[],[],[]⟩
def fset.vc(d:Option Addr)(j:Int)(l:Option Addr):Prop:=AB P 87 [Q d,I j] w fun e b=>∃f,e=E (Q f)/\br (decide (j<0)) (R (E (I 121)) b) (br (decide (4096<=j)) (R (E (I 121)) b) (∃i,Eqv P .neq 153 (.tmp 21) (.const (Q
 none)) b (Q f) (Q none) i/\br i (onP f fun a=>∃h,Ld P 3 b (a.add 2) (I h)/\br (decide (0<h)) (R (E
 (I 120)) b) (∃i,Eqv P .eql 153 (.tmp 31) (.const (Q none)) b (Q f) (Q none) i/\br i (AB
 P 88 [Q d,I j,Q none] b fun e b=>∃d h,e=E (.tuple #[Q d,I h])/\br (!decide (h
 =0)) (R (E (I h)) b) (AB P 89 [Q l] b fun e b=>∃k,e=E (Q k)/\onP d fun a=>∃c,St
 P 99 b (a.add 1) (Q k) c/\onP d fun a=>∃g,St P 4 c (a.add 3) (.bool true) g/\onP d fun a=>∃c,St P 4
 g (a.add 4) (.bool true) c/\R (E (I 0)) c)) (AB P 89 [Q l] b fun e b=>∃d,e=E (Q d)
 /\onP f fun a=>∃c,St P 99 b (a.add 1) (Q d) c/\onP f fun a=>∃g,St P 4 c (a.add 3) (.bool true) g/\onP f fun a=>∃
 c,St P 4 g (a.add 4) (.bool true) c/\R (E (I 0)) c))) (∃i,Eqv P .eql 153 (.tmp 31) (.const
 (Q none)) b (Q f) (Q none) i/\br i (AB P 88 [Q d,I j,Q none] b fun e b=>∃d h,e=
 E (.tuple #[Q d,I h])/\br (!decide (h=0)) (R (E (I h)) b) (AB P 89 [Q
 l] b fun e b=>∃k,e=E (Q k)/\onP d fun a=>∃c,St P 99 b (a.add 1) (Q k) c/\onP d fun a=>∃g,St P
 4 c (a.add 3) (.bool true) g/\onP d fun a=>∃c,St P 4 g (a.add 4) (.bool true) c/\R (E (I 0)) c)) (AB
 P 89 [Q l] b fun e b=>∃d,e=E (Q d)/\onP f fun a=>∃c,St P 99 b (a.add 1) (Q d) c/\onP f
 fun a=>∃g,St P 4 c (a.add 3) (.bool true) g/\onP f fun a=>∃c,St P 4 g (a.add 4) (.bool true) c/\R (E
 (I 0)) c))))
theorem fset.ok(d:Option Addr)(j:Int)(l:Option Addr)(Z0:fset.vc Tryz.prog (.int .i64) .pointer .returned u U d j l):Calls Tryz.prog 50 #[.pointer d,.int .i64 j,.pointer l] u U:=cok fset.an Tryz.func50 (by kernel_rfl) (by kernel_rfl) Z0
def fflush.an:An:=⟨[],[(4,[(13,.inl .i64)])],[],[]⟩
def fflush.vc(g:Option Addr):Prop:=AB P 90 [Q g,Value.func (.func 91) #[] #[]] w fun c a=>∃b f i,c=E (S b f i)/\br (decide (0<(↑f:Int))) (R (E
 (I 120)) a) (AB P 92 [Q g] a fun c a=>∃b f i,c=E (S b f i)/\Ae (fun(e:Int)(a:World)(j:Int->World->
 Prop)=>br (decide (e<(↑f:Int))) (onP b fun b=>(0<=e/\e<(↑f:Int))/\∃d,Ld P 3 a (b.add (e.toNat*1)) (I d)/\AB
 P 87 [Q g,I d] a fun c a=>∃h,c=E (Q h)/\AB P 93 [Q g,Q h] a fun
 c a=>∃d,c=E (I d)/\br (!decide (d=0)) (R (E (I d)) a) (inR .i64 (e+1)/\j (e+1) a))
 (onP g fun b=>∃h,Ld P 23 a.drew b (Q h)/\onP g fun b=>∃e,Ld P 9 a.drew (b.add 1) (.string e)/\AB
 P 94 [Q h,.string e] a.drew fun c a=>∃d,c=E (I d)/\R (E (I d)) a)) 0
 a)
theorem fflush.ok(g:Option Addr)(Z0:fflush.vc Tryz.prog (.int .i64) .pointer .slice .returned u U g):Calls Tryz.prog 51 #[.pointer g] u U:=cok fflush.an Tryz.func51 (by kernel_rfl) (by kernel_rfl) Z0
def fflushC.an:An:=⟨[],[],[],[]⟩
def fflushC.vc(c:Option Addr):Prop:=onP c fun b=>∃a,Ld P 3 w (b.add 2) (I a)/\R (E (.bool (decide (0<a)))) w
theorem fflushC.ok(c:Option Addr)(Z0:fflushC.vc Tryz.prog (.int .i64) .returned u U c):Calls Tryz.prog 91 #[.pointer c] u U:=cok fflushC.an Tryz.func91 (by kernel_rfl) (by kernel_rfl) Z0
def fpages.an:An:=⟨[],[],[],[]⟩
def fpages.vc(c:Option Addr):Prop:=onP c fun b=>∃a,Ld P 3 w (b.add 6) (I a)/\R (E (I a)) w
theorem fpages.ok(c:Option Addr)(Z0:fpages.vc Tryz.prog (.int .i64) .returned u U c):Calls Tryz.prog 113 #[.pointer c] u U:=cok fpages.an Tryz.func113 (by kernel_rfl) (by kernel_rfl) Z0
def jnum.an:An:=⟨[],[(3,[(11,.inl .i64)])],[],[]⟩
def jnum.vc(h:Int)(b:Int):Prop:=∃c e g d,MkS P 29 w (I b) (I b) (S c e g) d/\Ae (fun(a:Int)(f:World)(i:Int->World->Prop)=>br (decide
 (a<(↑e:Int))) (inR .i64 (b-1)/\inR .i64 (b-1-a)/\inR .i64 (8*(b-1-a))/\0<=8*(b-1-a)
 /\onP c fun c=>(0<=a/\a<(↑e:Int))/\∃d,St P 5 f (c.add (a.toNat*1)) (.int .u8 (IntKind.wrap .u8 (Int.fdiv h (2^min
 (Int.toNat (8*(b-1-a))) (IntKind.bits .i64))))) d/\inR .i64 (a+1)/\i (a+1) d) (∃a,B2S P 29 9 f (S c e
 g) (.string a)/\R (E (.string a)) f)) 0 d
theorem jnum.ok(h:Int)(b:Int)(Z0:jnum.vc Tryz.prog (.int .i64) .slice .returned u U h b):Calls Tryz.prog 57 #[.int .i64 h,.int .i64 b] u U:=cok jnum.an Tryz.func57 (by kernel_rfl) (by kernel_rfl) Z0
def jval.an:An:=⟨[],[(3,[(3,.inl .i64),(9,.inl .i64)])],[],[]⟩
def jval.vc(a:ByteArray):Prop:=∃b c g f,S2B P 9 29 w (.string a) (S b c g) f/\Ae (fun(a:Int×Int)(d:World)(h:Int×Int->World->Prop)=>br (decide (a.2<(↑c:Int)))
 (onP b fun b=>((0:Int)<=a.2/\a.2<(↑c:Int))/\∃e,Ld P 5 d (b.add (a.2.toNat*1)) (.int .u8 e)/\(0:Int)<=(8:Int)/\inR
 .i64 (a.1*(2:Int)^min (Int.toNat (8:Int)) (IntKind.bits .i64))/\inR .i64 (a.2+(1:Int))/\h (Vc.bits .or .i64 (a.1*(2:Int)^
 min (Int.toNat (8:Int)) (IntKind.bits .i64)) (IntKind.wrap .i64 e),a.2+(1:Int)) d) (R (E (I a.1)) d)) ((0:Int),(0:Int))
 f
theorem jval.ok(a:ByteArray)(Z0:jval.vc Tryz.prog (.int .i64) .slice .returned u U a):Calls Tryz.prog 112 #[.string a] u U:=cok jval.an Tryz.func112 (by kernel_rfl) (by kernel_rfl) Z0
def jlaid.an:An:=⟨[],[],[],[]⟩
def jlaid.vc(o:Int)(q:Int)(p:ByteArray)(n:Bool):Prop:=∀b i,New w (.cells #[I o,I q,.string p,.bool n] 73) b i->∃m,Ld P 4 i (.mk b 3 none) (.bool
 m)/\br m (∃k,St P 9 i (.mk b 2 none) (.string (.mk #[])) k/\∃l,Ld P 3 k.drew (.mk b 0 none) (I
 l)/\∃j,Ld P 3 k.drew (.mk b 1 none) (I j)/\∃c,Ld P 9 k.drew (.mk b 2 none) (.string c)/\∃e,Ld
 P 9 k.drew (.mk b 2 none) (.string e)/\AB P 57 [I l,I 2] k.drew fun d a=>∃f,d=
 E (.string f)/\Ld P 9 a (.mk b 2 none) (.string e)/\Ld P 9 a (.mk b 2 none) (.string c)/\Ld P 3 a
 (.mk b 1 none) (I j)/\AB P 57 [I j,I 1] a fun d a=>∃g,d=E (.string g)/\Ld
 P 9 a (.mk b 2 none) (.string e)/\Ld P 9 a (.mk b 2 none) (.string c)/\(↑(f.size+g.size):Int)<=
 9223372036854775807/\AB P 57 [I 1,I 1] a fun d a=>∃h,d=E (.string h)/\Ld P 9 a
 (.mk b 2 none) (.string e)/\Ld P 9 a (.mk b 2 none) (.string c)/\(↑(ByteArray.size (f++g)+h.size):Int)<=9223372036854775807/\
 AB P 57 [I (↑(c.size):Int),I 2] a fun d a=>∃c,d=E (.string c)/\Ld P 9 a (.mk b
 2 none) (.string e)/\(↑(ByteArray.size (f++g++h)+c.size):Int)<=9223372036854775807/\(↑(ByteArray.size (f++g++h++c)+e.size):Int)<=
 9223372036854775807/\R (E (.string (f++g++h++c++e))) a) (∃l,Ld P 3 i.drew (.mk b 0 none) (I l)/\∃j,
 Ld P 3 i.drew (.mk b 1 none) (I j)/\∃c,Ld P 9 i.drew (.mk b 2 none) (.string c)/\∃e,Ld P
 9 i.drew (.mk b 2 none) (.string e)/\AB P 57 [I l,I 2] i.drew fun d a=>∃f,d=E
 (.string f)/\Ld P 9 a (.mk b 2 none) (.string e)/\Ld P 9 a (.mk b 2 none) (.string c)/\Ld P 3 a (.mk b 1 none)
 (I j)/\AB P 57 [I j,I 1] a fun d a=>∃g,d=E (.string g)/\Ld P 9 a
 (.mk b 2 none) (.string e)/\Ld P 9 a (.mk b 2 none) (.string c)/\(↑(f.size+g.size):Int)<=9223372036854775807/\AB
 P 57 [I 0,I 1] a fun d a=>∃h,d=E (.string h)/\Ld P 9 a (.mk b 2 none) (.string e)
 /\Ld P 9 a (.mk b 2 none) (.string c)/\(↑(ByteArray.size (f++g)+h.size):Int)<=9223372036854775807/\AB P 57 [I (↑(c.size):Int),I 2] a fun d a=>∃c,d=E (.string c)/\Ld P 9 a (.mk b 2 none) (.string e)/\
 (↑(ByteArray.size (f++g++h)+c.size):Int)<=9223372036854775807/\(↑(ByteArray.size (f++g++h++c)+e.size):Int)<=9223372036854775807/\
 R (E (.string (f++g++h++c++e))) a)
theorem jlaid.ok(o:Int)(q:Int)(p:ByteArray)(n:Bool)(Z0:jlaid.vc Tryz.prog (.int .i64) .returned u U o q p n):Calls Tryz.prog 60 #[.agg #[.int .i64 o,.int .i64 q,.string p,.bool n]] u U:=cok jlaid.an Tryz.func60 (by kernel_rfl) (by kernel_rfl) Z0
def jtaken.an:An:=⟨[],[(2,[(0,.inr 1),(4,.inr 3)])],[],[]⟩
def jtaken.vc(a:ByteArray):Prop:=Ae (fun(a:ByteArray×Option Addr×Nat×Nat)(b:World)(m:ByteArray×Option Addr×Nat×Nat->World->Prop)=>br (!decide (a.1=.mk #[])) (br (decide
 ((↑(ByteArray.size a.1):Int)<(6:Int))) (R (E (.tuple #[S none 0 0,.bool false])) b) (inR .i64 ((↑(ByteArray.size a.1):Int)-(6:
 Int))/\((0:Int)<=(4:Int)/\(4:Int)<=(6:Int)/\(6:Int)<=(↑(ByteArray.size a.1):Int))/\AB P 112 [.string (ByteArray.extract a.1 (Int.toNat (4
 :Int)) (Int.toNat (6:Int)))] b fun d b=>∃c,d=E (I c)/\br (decide ((↑(ByteArray.size a.1):Int)-(6:Int)<c)) (R (E (.tuple
 #[S none 0 0,.bool false])) b) (((0:Int)<=(4:Int)/\(4:Int)<=(6:Int)/\(6:Int)<=(↑(ByteArray.size a.1):Int))/\AB P 112 [.string
 (ByteArray.extract a.1 (Int.toNat (4:Int)) (Int.toNat (6:Int)))] b fun d b=>∃c,d=E (I c)/\inR .i64 ((6:Int)+c)/\((0:Int)<=(2:
 Int)/\(2:Int)<=(↑(ByteArray.size a.1):Int))/\((0:Int)<=(2:Int)/\(2:Int)<=(3:Int)/\(3:Int)<=(↑(ByteArray.size a.1):Int))/\((0:Int)<=(3:Int)/\(3:Int)<
 (↑(ByteArray.size a.1):Int))/\((0:Int)<=(6:Int)/\(6:Int)<=(6:Int)+c/\(6:Int)+c<=(↑(ByteArray.size a.1):Int))/\AB P 112 [.string
 (ByteArray.extract a.1 0 (Int.toNat (2:Int)))] b.drew fun d b=>∃g,d=E (I g)/\AB P 112 [.string
 (ByteArray.extract a.1 (Int.toNat (2:Int)) (Int.toNat (3:Int)))] b fun d b=>∃h,d=E (I h)/\∀f k,New b (.cells #[I
 g,I h,.string (ByteArray.extract a.1 (Int.toNat (6:Int)) (Int.toNat ((6:Int)+c))),.bool (decide (sb a.1 (3:Int)=(1:Int)))] 73) f k->
 ∃e j i l,App P #[40,40] 40 k (S a.2.1 a.2.2.1 a.2.2.2) (S (some (.mk f 0 none))
 1 1) (S e j i) l/\((0:Int)<=(6:Int)+c/\(6:Int)+c<=(↑(ByteArray.size a.1):Int))/\m (ByteArray.extract a.1 (Int.toNat ((6:Int)+c)) (ByteArray.size
 a.1),e,j,i) l))) (R (E (.tuple #[S a.2.1 a.2.2.1 a.2.2.2,.bool true])) b))
 (a,none,0,0) w
theorem jtaken.ok(a:ByteArray)(Z0:jtaken.vc Tryz.prog (.int .i64) .slice .returned u U a):Calls Tryz.prog 75 #[.string a] u U:=cok jtaken.an Tryz.func75 (by kernel_rfl) (by kernel_rfl) Z0
def jopen.an:An:=⟨[],[],[],[]⟩
def jopen.vc(g:Option Addr)(h:Int):Prop:=br (decide (h<4)) (R (E (.tuple #[Q none,I 1])) w) (br (decide (64<h)) (R (E (.tuple #[Q
 none,I 1])) w) (∀i b,New w (.map #[] 0) i b->∀d j,New b (.cells #[Q g,Q none,Q none,S none 0 0,.map (some
 i),I 0] 91) d j->AB P 37 [Q g,.string (ByteArray.mk #[(108:UInt8),(111:UInt8),(103:UInt8)])] j fun e c=>∃f a,e=
 E (.tuple #[Q f,I a])/\br (!decide (a=0)) (R (E (.tuple #[Q none,I a])) c) (∃b,St
 P 87 c (.mk d 1 none) (Q f) b/\AB P 38 [Q g,.string (ByteArray.mk #[(100:UInt8),(97:UInt8),(116:UInt8),(97:
 UInt8)]),I h,Value.func (.func 39) #[Q (some (.mk d 0 none))] #[]] b fun e c=>∃f a,e=E (.tuple #[Q f,I a])/\∃b,St P 88 c (.mk d 2 none) (Q f) b/\br (!decide (a=0)) (R (E (.tuple #[Q none,I a])) b) (AB P 40 [Q (some (.mk d 0 none))] b fun e c=>∃a,e=E (I a)/\br (!decide (a=0)) (R
 (E (.tuple #[Q none,I a])) c) (R (E (.tuple #[Q (some (.mk d 0 none)),I 0])) c)))))
theorem jopen.ok(g:Option Addr)(h:Int)(Z0:jopen.vc Tryz.prog (.int .i64) .pointer .slice .returned u U g h):Calls Tryz.prog 11 #[.pointer g,.int .i64 h] u U:=cok jopen.an Tryz.func11 (by kernel_rfl) (by kernel_rfl) Z0
def jahead.an:An:=⟨[],[],[],[]⟩
def jahead.vc(f:Option Addr)(g:Int):Prop:=onP f fun d=>∃b,Ld P 87 w (d.add 1) (Q b)/\AB P 70 [Q b] w fun e c=>∃a,e=E (I a)/\br
 (decide (g<=a)) (R (E (I 0)) c) (onP f fun d=>∃b,Ld P 87 c (d.add 1) (Q b)/\AB P 47 [Q b]
 c fun e c=>∃a,e=E (I a)/\R (E (I a)) c)
theorem jahead.ok(f:Option Addr)(g:Int)(Z0:jahead.vc Tryz.prog (.int .i64) .pointer .returned u U f g):Calls Tryz.prog 39 #[.pointer f,.int .i64 g] u U:=cok jahead.an Tryz.func39 (by kernel_rfl) (by kernel_rfl) Z0
def jread.an:An:=⟨[],[(2,[(14,.inl .i64)])],[],[]⟩
def jread.vc(g:Option Addr)(n:Option Nat):Prop:=onP g fun f=>∃b,Ld P 88 w (f.add 2) (Q b)/\AB P 113 [Q b] w fun d a=>∃c,d=E (I c)/\Ae
 (fun(e:Int)(a:World)(k:Int->World->Prop)=>br (decide (e<min c 4096)) (∃c,Lk P 86 false a (.map n) (I e) (I c)/\br (decide (0<c)) (AB P 58 [Q g,I e] a fun d a=>∃b,d=E (Q b)/\inR .i64 (e+(1
 :Int))/\k (e+1) a) (onP g fun f=>∃b,Ld P 88 a (f.add 2) (Q b)/\AB P 114 [Q b,I e] a fun d
 a=>∃b c,d=E (.tuple #[Q b,I c])/\br (!decide (c=0)) (R (E (I c)) a) (AB P 58
 [Q g,I e] a fun d a=>∃l,d=E (Q l)/\AB P 89 [Q b] a fun d a=>∃b,d=E
 (Q b)/\onP b fun f=>∃(i:List Value),∃c j,Ld P 144 a f (.agg (List.toArray (i++([I c]++([I j]++[])))))/\
 onP l fun f=>∃h,St P 144 a f (.agg (List.toArray (i++([I c]++([I j]++[]))))) h/\onP g fun f=>∃b,Ld P
 88 h (f.add 2) (Q b)/\AB P 115 [Q b,I e,.bool false] h fun d a=>∃m,d=E (.bool m)/\inR
 .i64 (e+1)/\k (e+1) a))) (R (E (I 0)) a)) 0 a
theorem jread.ok(g:Option Addr)(n:Option Nat)(Z0:jread.vc Tryz.prog (.int .i64) .pointer .returned u U g n):Calls Tryz.prog 73 #[.pointer g,.map n] u U:=cok jread.an Tryz.func73 (by kernel_rfl) (by kernel_rfl) Z0
def jpage.an:An:=⟨[],[(1,[])],[],[]⟩
def jpage.vc(i:Option Addr)(f:Int):Prop:=Ae (fun(q:PUnit)(c:World)(p:PUnit->World->Prop)=>onP i fun a=>∃m b d,Ld P 89 c (a.add 3) (S m b d)/\br (decide ((↑b:Int)<=f)) (onP i fun a
 =>∃e b d,Ld P 89 c.drew (a.add 3) (S e b d)/\AB P 98 [] c.drew fun o c=>∃h,o=E (Q h)/\Ld
 P 89 c (a.add 3) (S e b d)/\∀j g,New c (.cells #[Q h] 99) j g->Ld P 89 g (a.add 3) (S e b d)/\∃a f k l,
 App P #[89,89] 89 g (S e b d) (S (some (.mk j 0 none)) 1 1) (S a f k) l/\onP i fun n=>∃g,St P 89 l (n.add 3)
 (S a f k) g/\p () g) (onP i fun a=>∃e b d,Ld P 89 c (a.add 3) (S e b d)/\onP e fun a=>(0<=f/\f<(↑b:Int))/\∃h,Ld
 P 99 c (a.add (f.toNat*1)) (Q h)/\R (E (Q h)) c)) () w
theorem jpage.ok(i:Option Addr)(f:Int)(Z0:jpage.vc Tryz.prog .pointer .slice .returned u U i f):Calls Tryz.prog 58 #[.pointer i,.int .i64 f] u U:=cok jpage.an Tryz.func58 (by kernel_rfl) (by kernel_rfl) Z0
def jimages.an:An:=⟨[],[(3,[(9,.inl .i64)])],[],[]⟩
def jimages.vc(l:Option Addr)(i:Nat)(m:Nat):Prop:=∀e d,New w (.map #[] 0) e d->Ae (fun(a:Int)(b:World)(f:Int->World->Prop)=>br (decide (a<(↑i:Int))) (onP l fun j=>((0:Int)<=a/\a<(↑i:Int))/\∃c,Ld
 P 9 b (j.add (a.toNat*1)) (.string c)/\br (!decide (c=.mk #[])) (((0:Int)<=(0:Int)/\(0:Int)<(↑(c.size):Int))/\br (decide (sb
 c (0:Int)=(112:Int))) (br (decide ((3:Int)<(↑(c.size):Int))) (((0:Int)<=(1:Int)/\(1:Int)<=(3:Int)/\(3:Int)<=(↑(c.size):Int))/\AB
 P 112 [.string (ByteArray.extract c (Int.toNat (1:Int)) (Int.toNat (3:Int)))] b fun k b=>∃g,k=E (I g)/\∃h,Lk
 P 86 false b (.map (some e)) (I g) (I h)/\inR .i64 (h+(1:Int))/\∃d,MUp P 86 b (.map (some e))
 (I g) (I (h+(1:Int))) d/\inR .i64 (a+(1:Int))/\f (a+(1:Int)) d) (inR .i64 (a+(1:Int))/\f (a+(1:Int)) b)) (inR
 .i64 (a+(1:Int))/\f (a+(1:Int)) b)) (inR .i64 (a+(1:Int))/\f (a+(1:Int)) b)) (R (E (.map (some e))) b)) (0:Int) d
theorem jimages.ok(l:Option Addr)(i:Nat)(m:Nat)(Z0:jimages.vc Tryz.prog (.int .i64) .returned u U l i m):Calls Tryz.prog 72 #[.slice l i m] u U:=cok jimages.an Tryz.func72 (by kernel_rfl) (by kernel_rfl) Z0
def jrecover.an:An:=⟨[],[(8,[(5,.inr 3),(34,.inl .i64)])],[],[]⟩
def jrecover.vc(h:Option Addr):Prop:=onP h fun e=>∃p,Ld P 87 w (e.add 1) (Q p)/\AB P 71 [Q p] w fun c a=>∃e i l,c=E (S e i l)/\AB
 P 72 [S e i l] a fun c a=>∃d,c=E (.map d)/\onP h fun q=>∃j,St P 86 a (q.add 4) (.map d) j/\onP h fun r=>∃
 d,Ld P 86 j (r.add 4) (.map d)/\AB P 73 [Q h,.map d] j fun c a=>∃g,c=E (I g)/\br
 (!decide (g=(0:Int))) (R (E (I g)) a) (Ae (fun(b:(Option Addr×Nat×Nat)×Int)(a:World)(o:(Option Addr×Nat×Nat)×Int->World->Prop)=>br
 (decide (b.2<(↑i:Int))) (onP e fun e=>((0:Int)<=b.2/\b.2<(↑i:Int))/\∃f,Ld P 9 a (e.add (b.2.toNat*1)) (.string f)/\
 br (decide (f=.mk #[])) (R (E (I 180)) a) (((0:Int)<=(0:Int)/\(0:Int)<(↑(f.size):Int))/\br (decide (sb f (0:Int)=(112:
 Int))) (AB P 74 [Q h,.string f] a fun c a=>∃g,c=E (I g)/\br (!decide (g=(0:Int))) (R (E (I g)) a) (inR .i64 (b.2+(1:Int))/\o ((b.1.1,b.1.2.1,b.1.2.2),b.2+(1:Int)) a)) (((0:
 Int)<=(1:Int)/\(1:Int)<=(↑(f.size):Int))/\AB P 75 [.string (ByteArray.extract f (Int.toNat (1:Int)) (f.size))] a fun c a=>∃e i l k,c
 =E (.tuple #[S e i l,.bool k])/\br (!k) (R (E (I 180)) a) (∃m n d j,App P #[40,40] 40 a (S
 b.1.1 b.1.2.1 b.1.2.2) (S e i l) (S m n d) j/\((0:Int)<=(0:Int)/\(0:Int)<(↑(ByteArray.size
 f):Int))/\br (decide (sb f (0:Int)=(101:Int))) (AB P 54 [Q h,S m n d] j fun c a=>∃d k,c=E (.tuple #[.map d,
 .bool k])/\br (!k) (R (E (I 180)) a) (inR .i64 (b.2+(1:Int))/\AB P 61 [Q h,.map d,I (b.2+(1:Int))] a fun c a=>c=E (.tuple #[])/\inR .i64 (b.2+(1:Int))/\o ((none,0,0),b.2+(1:Int)) a)) (inR .i64
 (b.2+(1:Int))/\o ((m,n,d),b.2+(1:Int)) j))))) (R (E (I 0)) a)) ((none,0,0),(0:Int)) a)
theorem jrecover.ok(h:Option Addr)(Z0:jrecover.vc Tryz.prog (.int .i64) .pointer .slice .returned u U h):Calls Tryz.prog 40 #[.pointer h] u U:=cok jrecover.an Tryz.func40 (by kernel_rfl) (by kernel_rfl) Z0
def jrestore.an:An:=⟨[],[],[],[]⟩
def jrestore.vc(m:Option Addr)(d:ByteArray):Prop:=br (!decide ((↑(d.size):Int)=(4099:Int))) (R (E (I 180)) w) (((0:Int)<=(1:Int)/\(1:Int)<=(3:Int)/\(3:Int)<=(↑(d.size):Int))
 /\AB P 112 [.string (ByteArray.extract d (Int.toNat (1:Int)) (Int.toNat (3:Int)))] w fun e a=>∃b,e=E (I b)/\br (decide ((4096:
 Int)<=b)) (R (E (I 180)) a) (((0:Int)<=(3:Int)/\(3:Int)<=(↑(d.size):Int))/\∃c l j g,S2B P 9 29 a (.string
 (ByteArray.extract d (Int.toNat (3:Int)) (d.size))) (S c l j) g/\AB P 116 [S c l j] g fun e a=>∃f b,e=E (.tuple
 #[Q f,I b])/\br (!decide (b=(0:Int))) (R (E (I b)) a) (((0:Int)<=(1:Int)/\(1:Int)<=(3:Int)/\(3:Int)<=
 (↑(d.size):Int))/\onP f fun c=>∃(h:List Value),∃b i,Ld P 144 a.drew c (.agg (List.toArray (h++([I b]++([I i]++[])))))/\AB P 112 [.string (ByteArray.extract d (Int.toNat (1:Int)) (Int.toNat (3:Int)))] a.drew fun e a=>∃k,e=E
 (I k)/\Ld P 144 a c (.agg (List.toArray (h++([I b]++([I i]++[])))))/\AB P 58
 [Q m,I k] a fun e a=>∃f,e=E (Q f)/\Ld P 144 a c (.agg (List.toArray (h++([I b]++
 ([I i]++[])))))/\onP f fun c=>∃g,St P 144 a c (.agg (List.toArray (h++([I b]++([I i]++[]))))) g/\
 R (E (I 0)) g)))
theorem jrestore.ok(m:Option Addr)(d:ByteArray)(Z0:jrestore.vc Tryz.prog (.int .i64) .pointer .slice .returned u U m d):Calls Tryz.prog 74 #[.pointer m,.string d] u U:=cok jrestore.an Tryz.func74 (by kernel_rfl) (by kernel_rfl) Z0
def jrows.an:An:=⟨[],[(3,[(3,.inr 3),(15,.inl .i64)]),(6,[(3,.inr 3),(23,.inl .i64)])],[],[]⟩
def jrows.vc(q:Option Addr):Prop:=onP q fun c=>∃k e g,Ld P 89 w (c.add 3) (S k e g)/\Ae (fun(a:(Option Addr×Nat×Nat)×Int)(d:World)(r:(Option Addr×Nat×Nat)×Int->World
 ->Prop)=>br (decide (a.2<(↑e:Int))) (onP k fun c=>(0<=a.2/\a.2<(↑e:Int))/\∃j,Ld P 99 d (c.add (a.2.toNat*1))
 (Q j)/\AB P 42 [Q j] d fun h d=>∃c e g,h=E (S c e g)/\Ae (fun(b:(Option Addr×Nat×Nat)×Int)(d:World)
 (s:(Option Addr×Nat×Nat)×Int->World->Prop)=>br (decide (b.2<(↑e:Int))) (onP c fun c=>(0<=b.2/\b.2<(↑e:Int))/\∃i,Ld P 3
 d (c.add (b.2.toNat*1)) (I i)/\AB P 43 [Q j,I i] d fun h d=>∃n f,h=E
 (.tuple #[.string n,.bool f])/\∀f o,New d (.cells #[I a.2,I i,.string n,.bool false] 73) f o->∃c m l p,
 App P #[40,40] 40 o (S b.1.1 b.1.2.1 b.1.2.2) (S (some (.mk f 0 none)) 1 1)
 (S c m l) p/\inR .i64 (b.2+1)/\s ((c,m,l),b.2+1) p) (inR .i64 (a.2+1)/\r ((b.1.1,
 b.1.2.1,b.1.2.2),a.2+1) d)) ((a.1.1,a.1.2.1,a.1.2.2),(0:
 Int)) d) (R (E (S a.1.1 a.1.2.1 a.1.2.2)) d)) ((none,0,0),0) w
theorem jrows.ok(q:Option Addr)(Z0:jrows.vc Tryz.prog (.int .i64) .pointer .slice .returned u U q):Calls Tryz.prog 14 #[.pointer q] u U:=cok jrows.an Tryz.func14 (by kernel_rfl) (by kernel_rfl) Z0
def jfinal.an:An:=⟨[],[(4,[(7,.inr 3),(18,.inl .i64)])],[],[]⟩
def jfinal.vc(L:Option Addr)(ai:Option Addr)(ag:Nat)(aj:Nat):Prop:=∀q b,New w (.map #[] 0) q b->Ae (fun(c:(Option Addr×Nat×Nat)×Int)(i:World)(y:(Option Addr×Nat×Nat)×Int->World->Prop)=>br (decide (c.2<(↑ag:Int))) (onP
 ai fun s=>(0<=c.2/\c.2<(↑ag:Int))/\∃a af ah ad,Ld P 73 i (s.add (c.2.toNat*4)) (.agg #[I a,I af,.string ah,.bool ad])/\∀g b,New i (.cells #[I 0,I 0,.string (.mk #[]),.bool false] 73) g b->∃
 A,St P 73 b (.mk g 0 none) (.agg #[I a,I af,.string ah,.bool ad]) A/\∃a,Ld P 3 A
 (.mk g 0 none) (I a)/\br (decide (a<0)) (R (E (.tuple #[S none 0 0,.map none,.bool false])) A) (∃a,Ld
 P 3 A (.mk g 0 none) (I a)/\br (decide (4096<=a)) (R (E (.tuple #[S none 0 0,.map none,.bool false]))
 A) (∃a,Ld P 3 A (.mk g 1 none) (I a)/\br (decide (a<0)) (R (E (.tuple #[S none 0 0,.map none,
 .bool false])) A) (∃a,Ld P 3 A (.mk g 1 none) (I a)/\br (decide (120<=a)) (R (E (.tuple #[S none 0 0,
 .map none,.bool false])) A) (∃ae,Ld P 4 A (.mk g 3 none) (.bool ae)/\br (!ae) (∃ac,Ld P 9 A (.mk g 2 none) (.string
 ac)/\br (decide (3600<(↑(ac.size):Int))) (R (E (.tuple #[S none 0 0,.map none,.bool false])) A) (∃a,Ld P 3 A
 (.mk g 0 none) (I a)/\∃Y,Ld P 3 A (.mk g 1 none) (I Y)/\∀m b,New A (.cells #[I 0,
 I 0] 169) m b->∃K,St P 169 b (.mk m 0 none) (.agg #[I a,I Y]) K/\∃a Z,Ld P
 169 K (.mk m 0 none) (.agg #[I a,I Z])/\∃aa ab r X H,Lk P 165 true K (.map (some q)) (.agg #[I a,I Z]) (.tuple #[.agg #[I aa,I ab,.string r,.bool X],.bool H])/\∀V b,New K
 (.cells #[I 0,I 0,.string (.mk #[]),.bool false] 73) V b->∃j,St P 73 b (.mk V 0 none) (.agg
 #[I aa,I ab,.string r,.bool X]) j/\br H (∃z,Ld P 4 j (.mk V 3 none) (.bool z)/\br (!H) (∃a
 p,Ld P 169 j (.mk m 0 none) (.agg #[I a,I p])/\∀o b,New j (.cells #[I a,I p] 169) o b->∃s x v d,App P #[164,164] 164 b (S c.1.1 c.1.2.1 c.1.2.2)
 (S (some (.mk o 0 none)) 1 1) (S s x v) d/\∃a,Ld P 3 d.drew (.mk g 0 none) (I a)/\onP L fun M=>∃N t B,Ld
 P 89 d.drew (M.add 3) (S N t B)/\br (decide (a<(↑t:Int))) (onP L fun O=>∃C t B,Ld P 89 d.drew.drew
 (O.add 3) (S C t B)/\∃a,Ld P 3 d.drew.drew (.mk g 0 none) (I a)/\onP C fun T=>(0<=a/\a<(↑t:Int))
 /\∃F,Ld P 99 d.drew.drew (T.add (a.toNat*1)) (Q F)/\∃a,Ld P 3 d.drew.drew (.mk g 1 none)
 (I a)/\AB P 43 [Q F,I a] d.drew.drew fun(W:Ending)(i:World)=>∃(l:ByteArray),∃k,W=
 E (.tuple #[.string l,.bool k])/\∃(n:Bool),Ld P 4 i (.mk g 3 none) (.bool n)/\br n (br (!k) (R (E
 (.tuple #[S none 0 0,.map none,.bool false])) i) (∃(a:Int),∃(e:Int),Ld P 169 i (.mk m 0 none) (.agg #[I a,
 I e])/\∃(f:Int),∃(h:Int),∃(G:ByteArray),∃(D:Bool),Ld P 73 i (.mk g 0 none) (.agg #[I f,I h,.string G,.bool D])/\∃(b:World),MUp P 165 i (.map (some q)) (.agg #[I a,I e]) (.agg
 #[I f,I h,.string G,.bool D]) b/\inR .i64 (c.2+1)/\y ((s,x,v),c.2+1) b)) (∃(a:Int),
 ∃(e:Int),Ld P 169 i (.mk m 0 none) (.agg #[I a,I e])/\∃(f:Int),∃(h:Int),∃(G:ByteArray),∃(D:Bool),
 Ld P 73 i (.mk g 0 none) (.agg #[I f,I h,.string G,.bool D])/\∃(b:World),MUp P 165 i
 (.map (some q)) (.agg #[I a,I e]) (.agg #[I f,I h,.string G,.bool D]) b/\inR
 .i64 (c.2+1)/\y ((s,x,v),c.2+1) b)) (∃k,Ld P 4 d.drew (.mk g 3 none) (.bool k)/\br k (br (!!z) (R
 (E (.tuple #[S none 0 0,.map none,.bool false])) d.drew) (∃a e,Ld P 169 d.drew (.mk m 0 none) (.agg
 #[I a,I e])/\∃f h l n,Ld P 73 d.drew (.mk g 0 none) (.agg #[I f,I h,.string l,.bool n])/\∃b,MUp P 165 d.drew (.map (some q)) (.agg #[I a,I e])
 (.agg #[I f,I h,.string l,.bool n]) b/\inR .i64 (c.2+1)/\y ((s,x,v),c.2+1) b)) (∃
 a e,Ld P 169 d.drew (.mk m 0 none) (.agg #[I a,I e])/\∃f h l n,Ld P 73 (World.drew
 d) (.mk g 0 none) (.agg #[I f,I h,.string l,.bool n])/\∃b,MUp P 165 d.drew (.map (some
 q)) (.agg #[I a,I e]) (.agg #[I f,I h,.string l,.bool n]) b/\inR .i64
 (c.2+1)/\y ((s,x,v),c.2+1) b))) (∃o,Ld P 4 j (.mk g 3 none) (.bool o)/\br o (br (!!z) (R (E
 (.tuple #[S none 0 0,.map none,.bool false])) j) (∃a p,Ld P 169 j (.mk m 0 none) (.agg #[I a,I
 p])/\∃e f l k,Ld P 73 j (.mk g 0 none) (.agg #[I e,I f,.string l,.bool k])/\∃b,MUp
 P 165 j (.map (some q)) (.agg #[I a,I p]) (.agg #[I e,I f,.string l,
 .bool k]) b/\inR .i64 (c.2+1)/\y ((c.1.1,c.1.2.1,c.1.2.2),c.2+1) b)) (∃a
 p,Ld P 169 j (.mk m 0 none) (.agg #[I a,I p])/\∃e f l k,Ld P 73 j (.mk g 0 none)
 (.agg #[I e,I f,.string l,.bool k])/\∃b,MUp P 165 j (.map (some q)) (.agg #[I
 a,I p]) (.agg #[I e,I f,.string l,.bool k]) b/\inR .i64 (c.2+1)/\y ((Prod.fst
 c.1,c.1.2.1,c.1.2.2),c.2+1) b))) (br (!H) (∃a p,Ld P 169 j (.mk m 0 none) (.agg
 #[I a,I p])/\∀z b,New j (.cells #[I a,I p] 169) z b->∃s x v d,App P #[164,
 164] 164 b (S c.1.1 c.1.2.1 c.1.2.2) (S (some (.mk z 0 none)) 1 1) (S s x v) d/\∃a,Ld
 P 3 d.drew (.mk g 0 none) (I a)/\onP L fun M=>∃N t B,Ld P 89 d.drew (M.add 3) (S N t B)/\
 br (decide (a<(↑t:Int))) (onP L fun O=>∃C t B,Ld P 89 d.drew.drew (O.add 3) (S C t B)/\∃a,Ld P 3 (World.drew
 d.drew) (.mk g 0 none) (I a)/\onP C fun T=>(0<=a/\a<(↑t:Int))/\∃F,Ld P 99 d.drew.drew (Addr.add T
 (a.toNat*1)) (Q F)/\∃a,Ld P 3 d.drew.drew (.mk g 1 none) (I a)/\AB P 43 [Q F,
 I a] d.drew.drew fun(W:Ending)(i:World)=>∃l o,W=E (.tuple #[.string l,.bool o])/\∃k,Ld P
 4 i (.mk g 3 none) (.bool k)/\br k (br (!o) (R (E (.tuple #[S none 0 0,.map none,.bool false])) i) (∃(a:Int),∃(e:Int),Ld
 P 169 i (.mk m 0 none) (.agg #[I a,I e])/\∃(f:Int),∃(h:Int),∃(G:ByteArray),∃(n:Bool),Ld
 P 73 i (.mk g 0 none) (.agg #[I f,I h,.string G,.bool n])/\∃(b:World),MUp P 165 i
 (.map (some q)) (.agg #[I a,I e]) (.agg #[I f,I h,.string G,.bool n]) b/\inR
 .i64 (c.2+1)/\y ((s,x,v),c.2+1) b)) (∃(a:Int),∃(e:Int),Ld P 169 i (.mk m 0 none) (.agg #[I
 a,I e])/\∃(f:Int),∃(h:Int),∃(G:ByteArray),∃(n:Bool),Ld P 73 i (.mk g 0 none) (.agg #[I f,I h,.string G,.bool n])/\∃(b:World),MUp P 165 i (.map (some q)) (.agg #[I a,I e]) (.agg
 #[I f,I h,.string G,.bool n]) b/\inR .i64 (c.2+1)/\y ((s,x,v),c.2+1) b)) (∃o,Ld
 P 4 d.drew (.mk g 3 none) (.bool o)/\br o (R (E (.tuple #[S none 0 0,.map none,.bool false])) d.drew) (∃
 a e,Ld P 169 d.drew (.mk m 0 none) (.agg #[I a,I e])/\∃f h l k,Ld P 73 (World.drew
 d) (.mk g 0 none) (.agg #[I f,I h,.string l,.bool k])/\∃b,MUp P 165 d.drew (.map (some
 q)) (.agg #[I a,I e]) (.agg #[I f,I h,.string l,.bool k]) b/\inR .i64
 (c.2+1)/\y ((s,x,v),c.2+1) b))) (∃z,Ld P 4 j (.mk g 3 none) (.bool z)/\br z (R (E (.tuple
 #[S none 0 0,.map none,.bool false])) j) (∃a p,Ld P 169 j (.mk m 0 none) (.agg #[I a,I p])/\∃
 e f l o,Ld P 73 j (.mk g 0 none) (.agg #[I e,I f,.string l,.bool o])/\∃b,MUp P
 165 j (.map (some q)) (.agg #[I a,I p]) (.agg #[I e,I f,.string l,.bool o]) b
 /\inR .i64 (c.2+1)/\y ((c.1.1,c.1.2.1,c.1.2.2),c.2+1) b))))) (∃a,Ld
 P 3 A (.mk g 0 none) (I a)/\∃Y,Ld P 3 A (.mk g 1 none) (I Y)/\∀m b,New A (.cells
 #[I 0,I 0] 169) m b->∃K,St P 169 b (.mk m 0 none) (.agg #[I a,I Y]) K/\∃a
 Z,Ld P 169 K (.mk m 0 none) (.agg #[I a,I Z])/\∃aa ab ac X H,Lk P 165 true K (.map (some
 q)) (.agg #[I a,I Z]) (.tuple #[.agg #[I aa,I ab,.string ac,.bool X],.bool
 H])/\∀V b,New K (.cells #[I 0,I 0,.string (.mk #[]),.bool false] 73) V b->∃j,St P 73 b (Addr.mk
 V 0 none) (.agg #[I aa,I ab,.string ac,.bool X]) j/\br H (∃z,Ld P 4 j (.mk V 3 none) (.bool
 z)/\br (!H) (∃a p,Ld P 169 j (.mk m 0 none) (.agg #[I a,I p])/\∀o b,New j (.cells #[I
 a,I p] 169) o b->∃s x v d,App P #[164,164] 164 b (S c.1.1 c.1.2.1 (Prod.snd (Prod.snd
 c.1))) (S (some (.mk o 0 none)) 1 1) (S s x v) d/\∃a,Ld P 3 d.drew (.mk g 0 none) (I a)/\onP L fun M=>
 ∃N t B,Ld P 89 d.drew (M.add 3) (S N t B)/\br (decide (a<(↑t:Int))) (onP L fun O=>∃C t B,Ld P 89 (World.drew (World.drew
 d)) (O.add 3) (S C t B)/\∃a,Ld P 3 d.drew.drew (.mk g 0 none) (I a)/\onP C fun T=>(0<=a/\a<(↑t
 :Int))/\∃F,Ld P 99 d.drew.drew (T.add (a.toNat*1)) (Q F)/\∃a,Ld P 3 d.drew.drew (.mk g 1
 none) (I a)/\AB P 43 [Q F,I a] d.drew.drew fun(W:Ending)(i:World)=>∃r k,W=E
 (.tuple #[.string r,.bool k])/\∃n,Ld P 4 i (.mk g 3 none) (.bool n)/\br n (br (!k) (R (E (.tuple #[S none
 0 0,.map none,.bool false])) i) (∃(a:Int),∃(e:Int),Ld P 169 i (.mk m 0 none) (.agg #[I a,I e])/\∃(f:
 Int),∃(h:Int),∃(l:ByteArray),∃(D:Bool),Ld P 73 i (.mk g 0 none) (.agg #[I f,I h,.string l,
 .bool D])/\∃(b:World),MUp P 165 i (.map (some q)) (.agg #[I a,I e]) (.agg #[I f,
 I h,.string l,.bool D]) b/\inR .i64 (c.2+1)/\y ((s,x,v),c.2+1) b)) (∃(a:Int),∃(e:Int),Ld
 P 169 i (.mk m 0 none) (.agg #[I a,I e])/\∃(f:Int),∃(h:Int),∃(l:ByteArray),∃(D:Bool),Ld
 P 73 i (.mk g 0 none) (.agg #[I f,I h,.string l,.bool D])/\∃(b:World),MUp P 165 i
 (.map (some q)) (.agg #[I a,I e]) (.agg #[I f,I h,.string l,.bool D]) b/\inR
 .i64 (c.2+1)/\y ((s,x,v),c.2+1) b)) (∃k,Ld P 4 d.drew (.mk g 3 none) (.bool k)/\br k (br (!!z) (R
 (E (.tuple #[S none 0 0,.map none,.bool false])) d.drew) (∃a e,Ld P 169 d.drew (.mk m 0 none) (.agg
 #[I a,I e])/\∃f h r n,Ld P 73 d.drew (.mk g 0 none) (.agg #[I f,I h,.string r,.bool n])/\∃b,MUp P 165 d.drew (.map (some q)) (.agg #[I a,I e])
 (.agg #[I f,I h,.string r,.bool n]) b/\inR .i64 (c.2+1)/\y ((s,x,v),c.2+1) b)) (∃
 a e,Ld P 169 d.drew (.mk m 0 none) (.agg #[I a,I e])/\∃f h r n,Ld P 73 (World.drew
 d) (.mk g 0 none) (.agg #[I f,I h,.string r,.bool n])/\∃b,MUp P 165 d.drew (.map (some
 q)) (.agg #[I a,I e]) (.agg #[I f,I h,.string r,.bool n]) b/\inR .i64
 (c.2+1)/\y ((s,x,v),c.2+1) b))) (∃o,Ld P 4 j (.mk g 3 none) (.bool o)/\br o (br (!!z) (R (E
 (.tuple #[S none 0 0,.map none,.bool false])) j) (∃a p,Ld P 169 j (.mk m 0 none) (.agg #[I a,I
 p])/\∃e f r k,Ld P 73 j (.mk g 0 none) (.agg #[I e,I f,.string r,.bool k])/\∃b,MUp
 P 165 j (.map (some q)) (.agg #[I a,I p]) (.agg #[I e,I f,.string r,
 .bool k]) b/\inR .i64 (c.2+1)/\y ((c.1.1,c.1.2.1,c.1.2.2),c.2+1) b)) (∃a
 p,Ld P 169 j (.mk m 0 none) (.agg #[I a,I p])/\∃e f r k,Ld P 73 j (.mk g 0 none)
 (.agg #[I e,I f,.string r,.bool k])/\∃b,MUp P 165 j (.map (some q)) (.agg #[I
 a,I p]) (.agg #[I e,I f,.string r,.bool k]) b/\inR .i64 (c.2+1)/\y ((Prod.fst
 c.1,c.1.2.1,c.1.2.2),c.2+1) b))) (br (!H) (∃a p,Ld P 169 j (.mk m 0 none) (.agg
 #[I a,I p])/\∀z b,New j (.cells #[I a,I p] 169) z b->∃s x v d,App P #[164,
 164] 164 b (S c.1.1 c.1.2.1 c.1.2.2) (S (some (.mk z 0 none)) 1 1) (S s x v) d/\∃a,Ld
 P 3 d.drew (.mk g 0 none) (I a)/\onP L fun M=>∃N t B,Ld P 89 d.drew (M.add 3) (S N t B)/\
 br (decide (a<(↑t:Int))) (onP L fun O=>∃C t B,Ld P 89 d.drew.drew (O.add 3) (S C t B)/\∃a,Ld P 3 (World.drew
 d.drew) (.mk g 0 none) (I a)/\onP C fun T=>(0<=a/\a<(↑t:Int))/\∃F,Ld P 99 d.drew.drew (Addr.add T
 (a.toNat*1)) (Q F)/\∃a,Ld P 3 d.drew.drew (.mk g 1 none) (I a)/\AB P 43 [Q F,
 I a] d.drew.drew fun(W:Ending)(i:World)=>∃r o,W=E (.tuple #[.string r,.bool o])/\∃k,Ld P
 4 i (.mk g 3 none) (.bool k)/\br k (br (!o) (R (E (.tuple #[S none 0 0,.map none,.bool false])) i) (∃a,∃(e:Int),Ld
 P 169 i (.mk m 0 none) (.agg #[I a,I e])/\∃(f:Int),∃(h:Int),∃(l:ByteArray),∃(n:Bool),Ld
 P 73 i (.mk g 0 none) (.agg #[I f,I h,.string l,.bool n])/\∃(b:World),MUp P 165 i
 (.map (some q)) (.agg #[I a,I e]) (.agg #[I f,I h,.string l,.bool n]) b/\inR
 .i64 (c.2+1)/\y ((s,x,v),c.2+1) b)) (∃a e,Ld P 169 i (.mk m 0 none) (.agg #[I a,I e])/\∃(f:Int),∃(h:Int),∃(l:ByteArray),∃(n:Bool),Ld P 73 i (.mk g 0 none) (.agg #[I f,I
 h,.string l,.bool n])/\∃(b:World),MUp P 165 i (.map (some q)) (.agg #[I a,I e]) (.agg #[I f,I h,.string l,.bool n]) b/\inR .i64 (c.2+1)/\y ((s,x,v),c.2+1) b)) (∃o,Ld
 P 4 d.drew (.mk g 3 none) (.bool o)/\br o (R (E (.tuple #[S none 0 0,.map none,.bool false])) d.drew) (∃
 a e,Ld P 169 d.drew (.mk m 0 none) (.agg #[I a,I e])/\∃f h r k,Ld P 73 (World.drew
 d) (.mk g 0 none) (.agg #[I f,I h,.string r,.bool k])/\∃b,MUp P 165 d.drew (.map (some
 q)) (.agg #[I a,I e]) (.agg #[I f,I h,.string r,.bool k]) b/\inR .i64
 (c.2+1)/\y ((s,x,v),c.2+1) b))) (∃z,Ld P 4 j (.mk g 3 none) (.bool z)/\br z (R (E (.tuple
 #[S none 0 0,.map none,.bool false])) j) (∃a p,Ld P 169 j (.mk m 0 none) (.agg #[I a,I p])/\∃
 e f r o,Ld P 73 j (.mk g 0 none) (.agg #[I e,I f,.string r,.bool o])/\∃b,MUp P
 165 j (.map (some q)) (.agg #[I a,I p]) (.agg #[I e,I f,.string r,.bool o]) b
 /\inR .i64 (c.2+1)/\y ((c.1.1,c.1.2.1,c.1.2.2),c.2+1) b))))))))) (R (E
 (.tuple #[S c.1.1 c.1.2.1 c.1.2.2,.map (some q),.bool true])) i)) ((none,0,0),0) b
theorem jfinal.ok(L:Option Addr)(ai:Option Addr)(ag:Nat)(aj:Nat)(Z0:jfinal.vc Tryz.prog (.int .i64) .pointer .slice .returned u U L ai ag aj):Calls Tryz.prog 97 #[.pointer L,.slice ai ag aj] u U:=cok jfinal.an Tryz.func97 (by kernel_rfl) (by kernel_rfl) Z0
end
section
variable(P:Program)(I:Int->Value)(Q:Option Addr->Value)(S:Option Addr->Nat->Nat->Value)(E:Value->Ending)(w:World)(R:Ending->World->Prop){u:World}{U:Ending->World->Prop}
def jtried.an:An:=⟨[],[(6,[(29,.inl .i64)]),(17,[(72,.inl .i64)])],[],[]⟩
def jtried.vc(r:Option Addr)(D:Option Addr)(G:Nat)(F:Nat):Prop:=AB P 97 [Q r,S D G F] w fun i b=>∃h j o z k,i=E (.tuple #[S h j o,.map z,.bool k])/\br (!k) (R
 (E (.tuple #[.map none,.bool false])) b) (∀k c,New b (.map #[] 0) k c->Ae (fun(d:Int)(b:World)(m:Int->World->Prop)=>br (decide (d<(↑j:
 Int))) (onP h fun h=>(0<=d/\d<(↑j:Int))/\∃a p,Ld P 169 b (h.add (d.toNat*2)) (.agg #[I a,I p])/\∀e
 c,New b (.cells #[I 0,I 0] 169) e c->∃g,St P 169 c (.mk e 0 none) (.agg #[I a,I p]) g/\∃a,Ld P 3 g (.mk e 0 none) (I a)/\∃f n,Lk P 112 true g (.map (some k)) (I a)
 (.tuple #[Q f,.bool n])/\br n (∃a,Ld P 3 g (.mk e 1 none) (I a)/\AB P 99 [Q f,I a] g fun i b=>∃a,i=E (I a)/\∃a,Ld P 3 b (.mk e 0 none) (I a)/\∃c,MUp P 112 b
 (.map (some k)) (I a) (Q f) c/\inR .i64 (d+1)/\m (d+1) c) (∃a,Ld P 3 g.drew (.mk e 0 none)
 (I a)/\onP r fun h=>∃C j o,Ld P 89 g.drew (h.add 3) (S C j o)/\br (decide (a<(↑j:Int))) (onP r fun h=>∃s j o,Ld
 P 89 g.drew.drew (h.add 3) (S s j o)/\∃a,Ld P 3 g.drew.drew (.mk e 0 none) (I a)/\
 onP s fun h=>(0<=a/\a<(↑j:Int))/\∃f,Ld P 99 g.drew.drew (h.add (a.toNat*1)) (Q f)/\AB P 89
 [Q f] g.drew.drew fun i b=>∃f,i=E (Q f)/\∃a,Ld P 3 b (.mk e 1 none) (I a)/\AB
 P 99 [Q f,I a] b fun i b=>∃a,i=E (I a)/\∃a,Ld P 3 b (.mk e 0 none) (I a)/\∃c,MUp P 112 b (.map (some k)) (I a) (Q f) c/\inR .i64 (d+1)/\m (d+1) c) (AB
 P 98 [] g.drew fun i b=>∃f,i=E (Q f)/\∃a,Ld P 3 b (.mk e 1 none) (I a)/\AB
 P 99 [Q f,I a] b fun i b=>∃a,i=E (I a)/\∃a,Ld P 3 b (.mk e 0 none) (I a)/\∃c,MUp P 112 b (.map (some k)) (I a) (Q f) c/\inR .i64 (d+1)/\m (d+1) c))) (Ae (fun(d:
 Int) (b:World) (m:Int->World->Prop)=>br (decide (d<(↑j:Int))) (onP h fun h=>(0<=d/\d<(↑j:Int))/\∃a p,Ld P 169 b (h.add (d.toNat*2))
 (.agg #[I a,I p])/\∀e c,New b (.cells #[I 0,I 0] 169) e c->∃g,St P 169 c
 (.mk e 0 none) (.agg #[I a,I p]) g/\∃a v,Ld P 169 g (.mk e 0 none) (.agg #[I a,
 I v])/\∃x y A n,Lk P 165 false g (.map z) (.agg #[I a,I v]) (.agg #[I
 x,I y,.string A,.bool n])/\∀q c,New g (.cells #[I 0,I 0,.string (.mk #[]),.bool
 false] 73) q c->∃l,St P 73 c (.mk q 0 none) (.agg #[I x,I y,.string A,.bool n]) l/\∃t,Ld
 P 4 l (.mk q 3 none) (.bool t)/\br (!t) (∃a,Ld P 3 l (.mk e 0 none) (I a)/\∃f,Lk P 112 false
 l (.map (some k)) (I a) (Q f)/\∃a,Ld P 3 l (.mk e 1 none) (I a)/\∃B,Ld P 9 l (Addr.mk
 q 2 none) (.string B)/\AB P 100 [Q f,I a,.string B] l fun i b=>∃a,i=E (I a)/\br
 (!decide (a=0)) (R (E (.tuple #[.map none,.bool false])) b) (inR .i64 (d+1)/\m (d+1) b)) (inR .i64 (d+1)/\
 m (d+1) l)) (R (E (.tuple #[.map (some k),.bool true])) b)) 0 b)) 0 c)
theorem jtried.ok(r:Option Addr)(D:Option Addr)(G:Nat)(F:Nat)(Z0:jtried.vc Tryz.prog (.int .i64) .pointer .slice .returned u U r D G F):Calls Tryz.prog 54 #[.pointer r,.slice D G F] u U:=cok jtried.an Tryz.func54 (by kernel_rfl) (by kernel_rfl) Z0
def jchange.an:An:=⟨[],[(1,[])],[],[]⟩
def jchange.vc(m:Option Addr)(e:Option Nat)(s:Int):Prop:=∃c a,Rng P 112 w (.map e) (Q c) a/\Ae (fun(v:PUnit)(b:World)(r:PUnit->World->Prop)=>(∃a,Nxt P false 0 b (Q c)
 (.tuple #[.bool false]) a/\R (E (.tuple #[])) a)\/∃q t a,Nxt P false 0 b (Q c) (.tuple #[.bool true,q,t]) a/\∃f l
 n,Etr P a (Q c) (.tuple #[I f,Q l]) n/\AB P 102 [Q l,I s] n
 fun h b=>∃p,h=E (.bool p)/\onP l fun d=>∃(g:List Value),∃i j,Ld P 144 b.drew d (.agg (List.toArray (g++([I
 i]++([I j]++[])))))/\AB P 58 [Q m,I f] b.drew fun h b=>∃c,h=E (Q c)/\Ld
 P 144 b d (.agg (List.toArray (g++([I i]++([I j]++[])))))/\onP c fun d=>∃a,St P 144 b d (.agg
 (List.toArray (g++([I i]++([I j]++[]))))) a/\onP m fun d=>∃e,Ld P 86 a (d.add 4) (.map e)/\∃k,Lk
 P 86 false a (.map e) (I f) (I k)/\inR .i64 (k+1)/\∃o,MUp P 86 a (.map e) (I f) (I (k+1)) o/\r () o) () a
theorem jchange.ok(m:Option Addr)(e:Option Nat)(s:Int)(Z0:jchange.vc Tryz.prog (.int .i64) .pointer .returned u U m e s):Calls Tryz.prog 61 #[.pointer m,.map e,.int .i64 s] u U:=cok jchange.an Tryz.func61 (by kernel_rfl) (by kernel_rfl) Z0
def jcommit.an:An:=⟨[],[(7,[(33,.inl .i64)]),(13,[(9,.inr 1),(54,.inl .i64)])],[],[]⟩
def jcommit.vc(g:Option Addr)(s:Option Addr)(p:Nat)(y:Nat):Prop:=onP g fun d=>∃f,Ld P 87 w (d.add 1) (Q f)/\AB P 46 [Q f] w fun e a=>∃b,e=E (I b)/\br
 (!decide (b=0)) (R (E (I 190)) a) (AB P 54 [Q g,S s p y] a fun e a=>∃z h,e=E
 (.tuple #[.map z,.bool h])/\br (!h) (R (E (I 180)) a) (AB P 55 [Q g,S s p y] a fun e a=>∃d l o,e
 =E (S d l o)/\Ae (fun(c:Int)(a:World)(q:Int->World->Prop)=>br (decide (c<(↑l:Int))) (onP d fun d=>(0<=c/\c<(↑l:Int))/\∃b,Ld
 P 3 a (d.add (c.toNat*1)) (I b)/\onP g fun d=>∃f,Ld P 87 a.drew (d.add 1) (Q f)/\AB
 P 57 [I b,I 2] a.drew fun e a=>∃i,e=E (.string i)/\Ld P 87 a (d.add 1)
 (Q f)/\(↑(ByteArray.size (ByteArray.mk #[(112:UInt8)])+i.size):Int)<=9223372036854775807/\AB P 58 [Q g,I
 b] a fun e a=>∃A,e=E (Q A)/\Ld P 87 a (d.add 1) (Q f)/\AB P 59 [Q A] a fun e a=>∃v l
 o,e=E (S v l o)/\Ld P 87 a (d.add 1) (Q f)/\∃m,B2S P 29 9 a (S v l o) (.string m)/\
 (↑(ByteArray.size (ByteArray.mk #[(112:UInt8)]++i)+m.size):Int)<=9223372036854775807/\AB P 56 [Q f,.string (ByteArray.mk #[(112:
 UInt8)]++i++m)] a fun e a=>∃b k,e=E (.tuple #[I b,I k])/\inR .i64 (c+1)/\q (c+1) a)
 (Ae (fun(c:ByteArray×Int)(a:World)(q:ByteArray×Int->World->Prop)=>br (decide (c.2<(↑p:Int))) (onP s fun d=>(0<=c.2/\c.2<(↑p:Int))/\∃
 b k i h,Ld P 73 a (d.add (c.2.toNat*4)) (.agg #[I b,I k,.string i,.bool h])/\∀r n,New a
 (.cells #[I 0,I 0,.string (.mk #[]),.bool false] 73) r n->∃t,St P 73 n (.mk r 0 none) (.agg
 #[I b,I k,.string i,.bool h]) t/\∃b x m h,Ld P 73 t (.mk r 0 none) (.agg #[I b,
 I x,.string m,.bool h])/\AB P 60 [.agg #[I b,I x,.string m,.bool h]] t fun e
 a=>∃j,e=E (.string j)/\inR .i64 ((↑(ByteArray.size c.1):Int)+(↑(j.size):Int))/\br (decide (60000<(↑(ByteArray.size (Prod.fst
 c)):Int)+(↑(j.size):Int))) (onP g fun d=>∃f,Ld P 87 a (d.add 1) (Q f)/\(↑(ByteArray.size (ByteArray.mk #[(100:UInt8)])+ByteArray.size
 c.1):Int)<=9223372036854775807/\AB P 56 [Q f,.string (ByteArray.mk #[(100:UInt8)]++c.1)] a fun e a=>∃b B,e=
 E (.tuple #[I b,I B])/\(↑(ByteArray.size (.mk #[])+j.size):Int)<=9223372036854775807/\inR .i64
 (c.2+1)/\q (.mk #[]++j,c.2+1) a) ((↑(ByteArray.size c.1+j.size):Int)<=9223372036854775807/\inR .i64
 (c.2+1)/\q (c.1++j,c.2+1) a)) (onP g fun d=>∃f,Ld P 87 a (d.add 1) (Q f)/\(↑(ByteArray.size (ByteArray.mk
 #[(101:UInt8)])+ByteArray.size c.1):Int)<=9223372036854775807/\AB P 56 [Q f,.string (ByteArray.mk #[(101:UInt8)]++c.1)] a fun
 e a=>∃b k,e=E (.tuple #[I b,I k])/\AB P 61 [Q g,.map z,I b] a fun e
 a=>e=E (.tuple #[])/\onP g fun d=>∃b,Ld P 3 a (d.add 5) (I b)/\inR .i64 (b+1)/\onP g fun d=>∃n,St
 P 3 a (d.add 5) (I (b+1)) n/\R (E (I 0)) n)) (.mk #[],0) a)) 0 a))
theorem jcommit.ok(g:Option Addr)(s:Option Addr)(p:Nat)(y:Nat)(Z0:jcommit.vc Tryz.prog (.int .i64) .pointer .slice .returned u U g s p y):Calls Tryz.prog 28 #[.pointer g,.slice s p y] u U:=cok jcommit.an Tryz.func28 (by kernel_rfl) (by kernel_rfl) Z0
def jfresh.an:An:=⟨[],[(3,[(11,.inl .i64)])],[],[]⟩
def jfresh.vc(v:Option Addr)(x:Option Addr)(p:Nat)(y:Nat):Prop:=∀g c,New w (.map #[] 0) g c->Ae (fun(b:Int)(e:World)(r:Int->World->Prop)=>br (decide (b<(↑p:Int))) (onP x fun f=>(0<=b/\b<(↑p:Int))/\∃a m s k,
 Ld P 73 e (f.add (b.toNat*4)) (.agg #[I a,I m,.string s,.bool k])/\∀h c,New e (.cells #[I 0,I 0,.string (.mk #[]),.bool false] 73) h c->∃d,St P 73 c (.mk h 0 none) (.agg #[I a,
 I m,.string s,.bool k]) d/\onP v fun f=>∃q,Ld P 86 d.drew (f.add 4) (.map q)/\∃a,Ld P 3
 d.drew (.mk h 0 none) (I a)/\∃n,Lk P 86 false d.drew (.map q) (I a) (I n)/\br
 (decide (n=0)) (∃a,Ld P 3 d.drew (.mk h 0 none) (I a)/\∃j,Lk P 86 false d.drew (.map (some g))
 (I a) (I j)/\inR .i64 (j+1)/\∃c,MUp P 86 d.drew (.map (some g)) (I a) (I (j+1)) c/\inR .i64 (b+1)/\r (b+1) c) (inR .i64 (b+1)/\r (b+1) d.drew)) (AB P 49
 [.map (some g)] e fun i e=>∃t,i=E t/\AB P 48 [t] e fun i e=>∃f o l,i=E (S f o l)/\R (E (S f o l))
 e)) 0 c
theorem jfresh.ok(v:Option Addr)(x:Option Addr)(p:Nat)(y:Nat)(Z0:jfresh.vc Tryz.prog (.int .i64) .slice .returned u U v x p y):Calls Tryz.prog 55 #[.pointer v,.slice x p y] u U:=cok jfresh.an Tryz.func55 (by kernel_rfl) (by kernel_rfl) Z0
def jstuck.an:An:=⟨[],[],[],[]⟩
def jstuck.vc(e:Option Addr):Prop:=onP e fun c=>∃b,Ld P 87 w (c.add 1) (Q b)/\AB P 46 [Q b] w fun d f=>∃a,d=E (I a)/\R
 (E (I a)) f
theorem jstuck.ok(e:Option Addr)(Z0:jstuck.vc Tryz.prog (.int .i64) .pointer .returned u U e):Calls Tryz.prog 27 #[.pointer e] u U:=cok jstuck.an Tryz.func27 (by kernel_rfl) (by kernel_rfl) Z0
def jwaiting.an:An:=⟨[],[],[],[]⟩
def jwaiting.vc(c:Option Addr):Prop:=onP c fun b=>∃a,Ld P 3 w (b.add 5) (I a)/\R (E (I a)) w
theorem jwaiting.ok(c:Option Addr)(Z0:jwaiting.vc Tryz.prog (.int .i64) .returned u U c):Calls Tryz.prog 15 #[.pointer c] u U:=cok jwaiting.an Tryz.func15 (by kernel_rfl) (by kernel_rfl) Z0
def jsync.an:An:=⟨[],[],[],[]⟩
def jsync.vc(f:Option Addr):Prop:=onP f fun c=>∃d,Ld P 87 w (c.add 1) (Q d)/\AB P 46 [Q d] w fun e b=>∃a,e=E (I a)/\br
 (!decide (a=0)) (R (E (I 190)) b) (onP f fun c=>∃d,Ld P 87 b (c.add 1) (Q d)/\AB P 47
 [Q d] b fun e b=>∃a,e=E (I a)/\br (decide (a=0)) (onP f fun c=>∃g,St P 3 b (c.add 5) (I
 0) g/\R (E (I a)) g) (R (E (I a)) b))
theorem jsync.ok(f:Option Addr)(Z0:jsync.vc Tryz.prog (.int .i64) .pointer .returned u U f):Calls Tryz.prog 22 #[.pointer f] u U:=cok jsync.an Tryz.func22 (by kernel_rfl) (by kernel_rfl) Z0
def jcheck.an:An:=⟨[],[(5,[(19,.inl .i64)])],[],[]⟩
def jcheck.vc(g:Option Addr):Prop:=AB P 22 [Q g] w fun d a=>∃b,d=E (I b)/\br (!decide (b=0)) (R (E (I b)) a) (onP g
 fun c=>∃e,Ld P 86 a (c.add 4) (.map e)/\AB P 49 [.map e] a fun d a=>∃n,d=E n/\AB P 48 [n] a fun d a
 =>∃c i k,d=E (S c i k)/\Ae (fun(j:Int)(a:World)(o:Int->World->Prop)=>br (decide (j<(↑i:Int))) (onP c fun c=>(0<=j/\j<(↑i:Int))/\∃b,
 Ld P 3 a (c.add (j.toNat*1)) (I b)/\onP g fun c=>∃f,Ld P 88 a.drew (c.add 2) (Q f)/\onP g fun c=>∃l
 i k,Ld P 89 a.drew (c.add 3) (S l i k)/\onP l fun c=>(0<=b/\b<(↑i:Int))/\∃m,Ld P 99 a.drew (Addr.add c
 (b.toNat*1)) (Q m)/\AB P 50 [Q f,I b,Q m] a.drew fun d a=>∃b,d=E (I b)/\br (!decide (b=0)) (R (E (I b)) a) (inR .i64 (j+1)/\o (j+1) a)) (onP g fun c=>∃f,Ld P
 88 a (c.add 2) (Q f)/\AB P 51 [Q f] a fun d a=>∃b,d=E (I b)/\br (decide (b=0)) (onP g fun c=>∃
 f,Ld P 23 a c (Q f)/\AB P 52 [Q f] a fun d a=>∃b,d=E (I b)/\br (decide (b=0)) (onP g
 fun c=>∃f,Ld P 87 a (c.add 1) (Q f)/\AB P 53 [Q f,S none 0 0] a fun d a=>∃b,d=E (I b)/\br (decide (b=0)) (onP g fun c=>∃e,Ld P 86 a (c.add 4) (.map e)/\∃h,Clr P #[86] 0 a (.map e) h/\R
 (E (I b)) h) (R (E (I b)) a)) (br (decide (b=0)) (onP g fun c=>∃e,Ld P 86 a (c.add 4)
 (.map e)/\∃h,Clr P #[86] 0 a (.map e) h/\R (E (I b)) h) (R (E (I b)) a))) (br (decide (b=(0:
 Int))) (onP g fun c=>∃f,Ld P 87 a (c.add 1) (Q f)/\AB P 53 [Q f,S none 0 0] a fun d a=>∃b,d=E
 (I b)/\br (decide (b=0)) (onP g fun c=>∃e,Ld P 86 a (c.add 4) (.map e)/\∃h,Clr P #[86] 0 a (.map e) h/\R
 (E (I b)) h) (R (E (I b)) a)) (br (decide (b=0)) (onP g fun c=>∃e,Ld P 86 a (c.add 4)
 (.map e)/\∃h,Clr P #[86] 0 a (.map e) h/\R (E (I b)) h) (R (E (I b)) a))))) 0 a)
theorem jcheck.ok(g:Option Addr)(Z0:jcheck.vc Tryz.prog (.int .i64) .pointer .slice .returned u U g):Calls Tryz.prog 23 #[.pointer g] u U:=cok jcheck.an Tryz.func23 (by kernel_rfl) (by kernel_rfl) Z0
def cZ.an:An:=⟨[],[],[],[]⟩
def cZ.vc(e:Option Addr)(f:ByteArray)(h:Int)(i:Option Addr):Prop:=br (decide (h<(4:Int))) (R (E (.tuple #[Q none,I 1])) w) (br (decide ((64:Int)<h)) (R (E (.tuple #[Q
 none,I 1])) w) (∃c,Eqv P .eql 96 (.tmp 18) (.const .nilFunc) w (Value.func (.func 39) #[Q i] #[]) .nilFunc c/\br c
 (R (E (.tuple #[Q none,I 1])) w) (AB P 67 [Q e,.string f] w fun d b=>∃a,d=E (I a)/\br (decide (a<(0:Int))) (AB P 9 [Q e,.string f] b fun d b=>∃a,d=E (I a)/\br (!decide (a=(0:
 Int))) (R (E (.tuple #[Q none,I a])) b) (AB P 67 [Q e,.string f] b fun d b=>∃a,d=E
 (I a)/\inR .i64 (a+(8:Int))/\inR .i64 (a+(8:Int)-(1:Int))/\(8:Int)≠(0:Int)/\inR .i64 (Int.tdiv (a+(8:Int)-(1:Int)) (8:Int))/\∀
 c g,New b (.cells #[Q e,.string f,I h,Value.func (.func 39) #[Q i] #[],S none 0 0,I 0,I (Int.tdiv (a+(8:Int)-(1:Int)) (8:Int))] 134) c g->R (E (.tuple #[Q (some (.mk c 0 none)),I 0])) g)) (AB
 P 67 [Q e,.string f] b fun d b=>∃a,d=E (I a)/\inR .i64 (a+(8:Int))/\inR .i64 (a+(8:Int)-(1:
 Int))/\(8:Int)≠(0:Int)/\inR .i64 (Int.tdiv (a+(8:Int)-(1:Int)) (8:Int))/\∀c g,New b (.cells #[Q e,.string f,I h,
 Value.func (.func 39) #[Q i] #[],S none 0 0,I 0,I (Int.tdiv (a+(8:Int)-(1:Int)) (8:Int))] 134) c g->R (E
 (.tuple #[Q (some (.mk c 0 none)),I 0])) g))))
theorem cZ.ok(e:Option Addr)(f:ByteArray)(h:Int)(i:Option Addr)(Z0:cZ.vc Tryz.prog (.int .i64) .pointer .slice .returned u U e f h i):Calls Tryz.prog 38 #[.pointer e,.string f,.int .i64 h,(.func (.func 39) #[.pointer i] #[])] u U:=cok cZ.an Tryz.func38 (by kernel_rfl) (by kernel_rfl) Z0
def alive.an:An:=⟨[],[],[],[]⟩
def alive.vc:Prop:=AB P 7 [I 500] w fun b a=>∃d,b=E (Q d)/\∃c,Eqv P .eql 23 (.tmp 10) (.const (Q
 none)) a (Q d) (Q none) c/\br c (R (E (.bool false)) a) (AB P 11 [Q d,I 4] a fun b a=>∃f e,b=
 E (.tuple #[Q f,I e])/\br (!decide (e=0)) (R (E (.bool false)) a) (∃c,Eqv P .eql 34
 (.tmp 20) (.const (Q none)) a (Q f) (Q none) c/\br c (R (E (.bool false)) a) (∀c h,New a (.cells #[I 0,I 0,.string (ByteArray.mk #[(97:UInt8)]),.bool false] 73) c h->AB P 28 [Q f,S (some (.mk c 0 none))
 1 1] h fun b a=>∃e,b=E (I e)/\AB P 22 [Q f] a fun b a=>∃k,b=E (I k)/\∀c h,
 New a (.cells #[I 0,I 1,.string (ByteArray.mk #[(98:UInt8)]),.bool false] 73) c h->AB P 28 [Q f,
 S (some (.mk c 0 none)) 1 1] h fun b a=>∃m,b=E (I m)/\AB P 29 [Q d,I 0,S
 none 0 0] a fun b a=>∃d,b=E (Q d)/\∃c,Eqv P .eql 23 (.tmp 35) (.const (Q none)) a (Q d) (Q
 none) c/\br c (R (E (.bool false)) a) (AB P 11 [Q d,I 4] a fun b a=>∃d l,b=E (.tuple
 #[Q d,I l])/\br (decide (e=0)) (br (decide (k=0)) (br (decide (l=0)) (∃c,Eqv P .neq 34 (.tmp 53)
 (.const (Q none)) a (Q d) (Q none) c/\br c (AB P 14 [Q d] a fun b a=>∃i g j,b=E (S i g j)/\
 br (decide ((↑g:Int)=1)) (AB P 14 [Q f] a fun b a=>∃i g j,b=E (S i g j)/\br (decide ((↑g:Int)=2)) (AB
 P 15 [Q f] a fun b a=>∃e,b=E (I e)/\R (E (.bool (decide (e=1)))) a) (R (E
 (.bool false)) a)) (R (E (.bool false)) a)) (R (E (.bool false)) a)) (R (E (.bool false)) a)) (R (E (.bool false))
 a)) (R (E (.bool false)) a)))))
theorem alive.ok(Z0:alive.vc Tryz.prog (.int .i64) .pointer .slice .returned u U):Calls Tryz.prog 8 #[] u U:=cok alive.an Tryz.func8 (by kernel_rfl) (by kernel_rfl) Z0
def does.an:An:=⟨[],[],[],[]⟩
def does.vc(i:Option Addr)(j:Int)(k:Option Addr)(m:Nat)(l:Nat):Prop:=∀h d,New w (.cells #[I j,S k m l] 53) h d->∃a,Ld P 3 d (.mk h 0 none) (I a)/\br (decide (a=(0:
 Int))) (∃e g f,Ld P 38 d (.mk h 1 none) (S e g f)/\AB P 45 [S e g f] d fun b c=>∃e g f,b=E (S e g f)/\
 AB P 28 [Q i,S e g f] c fun b c=>∃a,b=E (I a)/\R (E (I a)) c) (br (decide (a=
 1)) (AB P 22 [Q i] d fun b c=>∃a,b=E (I a)/\R (E (I a)) c) (br (decide (a=(2:
 Int))) (AB P 23 [Q i] d fun b c=>∃a,b=E (I a)/\R (E (I a)) c) (R (E
 (I 0)) d)))
theorem does.ok(i:Option Addr)(j:Int)(k:Option Addr)(m:Nat)(l:Nat)(Z0:does.vc Tryz.prog (.int .i64) .pointer .slice .returned u U i j k m l):Calls Tryz.prog 19 #[.pointer i,.agg #[.int .i64 j,.slice k m l]] u U:=cok does.an Tryz.func19 (by kernel_rfl) (by kernel_rfl) Z0
def few.an:An:=⟨[0,1,2,3,4,5,6,7,8,9,10,11,12],[(3,[(3,.inl .i64),(10,.inl .i64)]),(7,[(22,.inl .i64)])],[],[]⟩
def few.vc(s:Option Addr)(n:Nat)(t:Nat):Prop:=Ae (fun(a:Int×Int)(e:World)(r:Int×Int->World->Prop)=>br (decide (a.2<(↑n:Int))) (onP s fun d=>(0<=a.2/\a.2<(↑n:Int))/\∃
 b o j h,Ld P 53 e (d.add (a.2.toNat*2)) (.agg #[I b,S o j h])/\∀f k,New e (.cells #[I 0,
 S none 0 0] 53) f k->∃l,St P 53 k (.mk f 0 none) (.agg #[I b,S o j h]) l/\∃d j h,Ld P 38 l
 (.mk f 1 none) (S d j h)/\∃d m h,Ld P 38 l (.mk f 1 none) (S d m h)/\Ae (fun(i:Int)(e:World)(q:Int->World->Prop)=>br
 (decide (i<(↑m:Int))) (onP d fun d=>(0<=i/\i<(↑m:Int))/\∃b p a f,Ld P 98 e (d.add (i.toNat*4)) (.agg #[I b,
 I p,.string a,.bool f])/\∀g k,New e (.cells #[I 0,I 0,.string (.mk #[]),.bool false] 98) g
 k->∃c,St P 98 k (.mk g 0 none) (.agg #[I b,I p,.string a,.bool f]) c/\∃b,Ld P 3 c
 (.mk g 0 none) (I b)/\br (decide (30<b)) (∃b,Ld P 3 c (.mk g 0 none) (I b)/\br (decide (b<4096)) (R
 (E (.bool false)) c) (∃a,Ld P 9 c (.mk g 2 none) (.string a)/\br (decide (5000<(↑(a.size):Int))) (R (E
 (.bool false)) c) (q (IntKind.wrap .i64 (i+1)) c))) (∃a,Ld P 9 c (.mk g 2 none) (.string a)/\br (decide (5000<
 (↑(a.size):Int))) (R (E (.bool false)) c) (q (IntKind.wrap .i64 (i+1)) c))) (r (IntKind.wrap .i64 (a.1+(↑j:Int)),
 IntKind.wrap .i64 (a.2+1)) e)) 0 l) (br (decide ((↑n:Int)<=60)) (R (E (.bool (decide (a.1<=300)))) e) (R
 (E (.bool false)) e))) (0,0) w
theorem few.ok(s:Option Addr)(n:Nat)(t:Nat)(Z0:few.vc Tryz.prog (.int .i64) .slice .returned u U s n t):Calls Tryz.prog 16 #[.slice s n t] u U:=cok few.an Tryz.func16 (by kernel_rfl) (by kernel_rfl) Z0
def plain.an:An:=⟨[],[(3,[(3,.inr 3),(8,.inl .i64)])],[],[]⟩
def plain.vc(r:Option Addr)(l:Nat)(t:Nat):Prop:=Ae (fun(a:(Option Addr×Nat×Nat)×Int)(g:World)(s:(Option Addr×Nat×Nat)×Int->World->Prop)=>br (decide (a.2<(↑l:Int))) (onP r fun e=>(0<=a.2/\
 a.2<(↑l:Int))/\∃c j o b,Ld P 73 g (e.add (a.2.toNat*4)) (.agg #[I c,I j,.string o,
 .bool b])/\∀f d,New g (.cells #[I 0,I 0,.string (.mk #[]),.bool false] 73) f d->∃h,St P 73 d
 (.mk f 0 none) (.agg #[I c,I j,.string o,.bool b]) h/\∃c k p b,Ld P 73 h (.mk f 0 none)
 (.agg #[I c,I k,.string p,.bool b])/\∀i d,New h (.cells #[I c,I k,.string
 p,.bool b] 98) i d->∃e n m q,App P #[38,38] 38 d (S a.1.1 a.1.2.1 a.1.2.2)
 (S (some (.mk i 0 none)) 1 1) (S e n m) q/\inR .i64 (a.2+1)/\s ((e,n,m),a.2+1) q) (R (E (S
 a.1.1 a.1.2.1 a.1.2.2)) g)) ((none,0,0),0) w
theorem plain.ok(r:Option Addr)(l:Nat)(t:Nat)(Z0:plain.vc Tryz.prog (.int .i64) .slice .returned u U r l t):Calls Tryz.prog 13 #[.slice r l t] u U:=cok plain.an Tryz.func13 (by kernel_rfl) (by kernel_rfl) Z0
def Az.an:An:=⟨[],[(3,[(3,.inr 3),(8,.inl .i64)])],[],[]⟩
def Az.vc(r:Option Addr)(l:Nat)(t:Nat):Prop:=Ae (fun(a:(Option Addr×Nat×Nat)×Int)(g:World)(s:(Option Addr×Nat×Nat)×Int->World->Prop)=>br (decide (a.2<(↑l:Int))) (onP r fun e=>(0<=a.2/\
 a.2<(↑l:Int))/\∃c j o b,Ld P 98 g (e.add (a.2.toNat*4)) (.agg #[I c,I j,.string o,
 .bool b])/\∀f d,New g (.cells #[I 0,I 0,.string (.mk #[]),.bool false] 98) f d->∃h,St P 98 d
 (.mk f 0 none) (.agg #[I c,I j,.string o,.bool b]) h/\∃c k p b,Ld P 98 h (.mk f 0 none)
 (.agg #[I c,I k,.string p,.bool b])/\∀i d,New h (.cells #[I c,I k,.string
 p,.bool b] 73) i d->∃e n m q,App P #[40,40] 40 d (S a.1.1 a.1.2.1 a.1.2.2)
 (S (some (.mk i 0 none)) 1 1) (S e n m) q/\inR .i64 (a.2+1)/\s ((e,n,m),a.2+1) q) (R (E (S
 a.1.1 a.1.2.1 a.1.2.2)) g)) ((none,0,0),0) w
theorem Az.ok(r:Option Addr)(l:Nat)(t:Nat)(Z0:Az.vc Tryz.prog (.int .i64) .slice .returned u U r l t):Calls Tryz.prog 45 #[.slice r l t] u U:=cok Az.an Tryz.func45 (by kernel_rfl) (by kernel_rfl) Z0
def opened.an:An:=⟨[],[],[],[]⟩
def opened.vc(n:Option Addr)(q:Int)(p:Int)(r:Int)(s:Option Addr)(v:Nat)(t:Nat)(o:Bool):Prop:=∀e j,New w (.cells #[I q,I p,I r,S s v t,.bool o] 46) e j->∃b,Ld
 P 3 j (.mk e 2 none) (I b)/\∃f h g,Ld P 30 j (.mk e 3 none) (S f h g)/\AB P 29 [Q n,
 I b,S f h g] j fun d a=>∃c,d=E (Q c)/\∃k,Eqv P .eql 23 (.tmp 15) (.const (Q none))
 a (Q c) (Q none) k/\br k (R (E (.tuple #[Q none,Q none])) a) (∃l,Ld P 4 a (.mk e 4 none)
 (.bool l)/\br l (∃b,Ld P 3 a (.mk e 0 none) (I b)/\AB P 25 [Q c,I b] a fun d a=>d=
 E (.tuple #[])/\∃b,Ld P 3 a (.mk e 1 none) (I b)/\AB P 26 [Q c,I b] a fun d a=>
 d=E (.tuple #[])/\AB P 11 [Q c,I 4] a fun d a=>∃i b,d=E (.tuple #[Q i,I b])/\∃b,Ld P 3 a (.mk e 2 none) (I b)/\∃f h g,Ld P 30 a (.mk e 3 none) (S f h g)/\AB P
 29 [Q c,I b,S f h g] a fun d a=>∃c,d=E (Q c)/\∃e,Eqv P .eql 23 (.tmp 35) (.const
 (Q none)) a (Q c) (Q none) e/\br e (R (E (.tuple #[Q none,Q none])) a) (AB P 11 [Q c,
 I 4] a fun d a=>∃m b,d=E (.tuple #[Q m,I b])/\br (!decide (b=0)) (R (E (.tuple
 #[Q c,Q none])) a) (R (E (.tuple #[Q c,Q m])) a))) (AB P 11 [Q c,I 4] a
 fun d a=>∃i b,d=E (.tuple #[Q i,I b])/\br (!decide (b=0)) (R (E (.tuple #[Q c,Q
 none])) a) (R (E (.tuple #[Q c,Q i])) a)))
theorem opened.ok(n:Option Addr)(q:Int)(p:Int)(r:Int)(s:Option Addr)(v:Nat)(t:Nat)(o:Bool)(Z0:opened.vc Tryz.prog (.int .i64) .pointer .slice .returned u U n q p r s v t o):Calls Tryz.prog 20 #[.pointer n,.agg #[.int .i64 q,.int .i64 p,.int .i64 r,.slice s v t,.bool o]] u U:=cok opened.an Tryz.func20 (by kernel_rfl) (by kernel_rfl) Z0
def rsnew.an:An:=⟨[],[],[],[]⟩
def rsnew.vc(j:Option Addr)(l:Nat)(k:Nat):Prop:=∀b a,New w (.cells #[S none 0 0,S none 0 0] 50) b a->∀e m,New a (.cells #[S j l k] 38) e m->∃a,St P 50 m (.mk b 0
 none) (.agg #[S j l k,S (some (.mk e 0 none)) 1 1]) a/\∃c h f d i g,Ld P 50 a (.mk b 0 none) (.agg #[S c h f,
 S d i g])/\R (E (.agg #[S c h f,S d i g])) a
theorem rsnew.ok(j:Option Addr)(l:Nat)(k:Nat)(Z0:rsnew.vc Tryz.prog .slice .returned u U j l k):Calls Tryz.prog 17 #[.slice j l k] u U:=cok rsnew.an Tryz.func17 (by kernel_rfl) (by kernel_rfl) Z0
def rsdo.an:An:=⟨[],[],[],[]⟩
def rsdo.vc(O:Option Addr)(V:Nat)(T:Nat)(W:Option Addr)(Y:Nat)(X:Nat)(K:Int)(L:Option Addr)(N:Nat)(M:Nat)(o:Int):Prop:=∀l d,New w (.cells #[S O V T,S W Y X] 50) l d->∀p F,New d (.cells #[I K,S L N M]
 53) p F->∀k d,New F (.cells #[S none 0 0,S none 0 0] 50) k d->br (!decide (o=0)) (∃a c b e h f,Ld P 50 d (.mk l 0
 none) (.agg #[S a c b,S e h f])/\∃m,St P 50 d (.mk k 0 none) (.agg #[S a c b,S e h f]) m/\∃a c b j
 i g,Ld P 50 m (.mk k 0 none) (.agg #[S a c b,S j i g])/\R (E (.agg #[S a c b,S j i g]))
 m) (∃n,Ld P 3 d (.mk p 0 none) (I n)/\br (decide (n=0)) (∃a c b,Ld P 38 d (.mk l 0 none) (S a c b)/\∃e
 h f,Ld P 38 d (.mk p 1 none) (S e h f)/\AB P 44 [S a c b,S e h f] d fun o q=>∃a c b H,o=
 E (.tuple #[S a c b,.bool H])/\∀x d,New q (.cells #[] 38) x d->∃r i g,Ld P 48 d (.mk l 1 none) (S r i
 g)/\∃s C A m,App P #[48,48] 48 d (S (some (.mk x 0 none)) 0 0) (S r i g) (S s C A) m/\∀l d,New m (.cells
 #[S a c b] 38) l d->∃t D B G,App P #[48,48] 48 d (S s C A) (S (some (.mk l 0 none)) 1 1) (S t D B) G/\∃d,St
 P 50 G (.mk k 0 none) (.agg #[S a c b,S t D B]) d/\∃a c b v z y,Ld P 50 d (.mk k 0 none) (.agg
 #[S a c b,S v z y])/\R (E (.agg #[S a c b,S v z y])) d) (∃n,Ld P 3 d (.mk p 0 none) (I n)/\br (decide (n=1)) (∃a c b,Ld P 38 d (.mk l 0 none) (S a c b)/\AB P 17 [S a c b] d fun o q=>∃a c b e
 h f,o=E (.agg #[S a c b,S e h f])/\∃d,St P 50 q (.mk k 0 none) (.agg #[S a c b,S e h
 f]) d/\∃a c b j i g,Ld P 50 d (.mk k 0 none) (.agg #[S a c b,S j i g])/\R (E (.agg #[S a c b,
 S j i g])) d) (∃n,Ld P 3 d (.mk p 0 none) (I n)/\br (decide (n=2)) (∃a c b,Ld P 38 d (.mk l 0 none)
 (S a c b)/\AB P 17 [S a c b] d fun o q=>∃a c b e h f,o=E (.agg #[S a c b,S e h f])/\∃d,St
 P 50 q (.mk k 0 none) (.agg #[S a c b,S e h f]) d/\∃a c b j i g,Ld P 50 d (.mk k 0 none) (.agg
 #[S a c b,S j i g])/\R (E (.agg #[S a c b,S j i g])) d) (∃a c b e h f,Ld P 50 d (.mk l 0 none)
 (.agg #[S a c b,S e h f])/\∃m,St P 50 d (.mk k 0 none) (.agg #[S a c b,S e h f]) m/\∃a c b j i
 g,Ld P 50 m (.mk k 0 none) (.agg #[S a c b,S j i g])/\R (E (.agg #[S a c b,S j i g]))
 m))))
theorem rsdo.ok(O:Option Addr)(V:Nat)(T:Nat)(W:Option Addr)(Y:Nat)(X:Nat)(K:Int)(L:Option Addr)(N:Nat)(M:Nat)(o:Int)(Z0:rsdo.vc Tryz.prog (.int .i64) .slice .returned u U O V T W Y X K L N M o):Calls Tryz.prog 18 #[.agg #[.slice O V T,.slice W Y X],.agg #[.int .i64 K,.slice L N M],.int .i64 o] u U:=cok rsdo.an Tryz.func18 (by kernel_rfl) (by kernel_rfl) Z0
def rmay.an:An:=⟨[],[(2,[(5,.inl .i64)])],[],[]⟩
def rmay.vc(n:Option Addr)(p:Nat)(o:Nat)(q:Option Addr)(s:Nat)(r:Nat)(j:Option Addr)(l:Nat)(k:Nat):Prop:=∀d h,New w (.cells #[S n p o,S q s r] 50) d h->Ae (fun(f:Int)(b:World)(m:Int->World->Prop)=>∃c a e,Ld
 P 48 b (.mk d 1 none) (S c a e)/\br (decide (f<(↑a:Int))) (∃c a e,Ld P 48 b (.mk d 1 none) (S c a e)/\onP c fun c=>(0<=
 f/\f<(↑a:Int))/\∃g a e,Ld P 38 b (c.add (f.toNat*1)) (S g a e)/\AB P 24 [S g a e,S j l k] b fun i b
 =>∃d,i=E (.bool d)/\br d (R (E (.bool true)) b) (inR .i64 (f+1)/\m (f+1) b)) (R (E (.bool false)) b)) (0
 :Int) h
theorem rmay.ok(n:Option Addr)(p:Nat)(o:Nat)(q:Option Addr)(s:Nat)(r:Nat)(j:Option Addr)(l:Nat)(k:Nat)(Z0:rmay.vc Tryz.prog .slice .returned u U n p o q s r j l k):Calls Tryz.prog 21 #[.agg #[.slice n p o,.slice q s r],.slice j l k] u U:=cok rmay.an Tryz.func21 (by kernel_rfl) (by kernel_rfl) Z0
def rsame.an:An:=⟨[],[(4,[(5,.inl .i64)])],[],[]⟩
def rsame.vc(o:Option Addr)(d:Nat)(r:Nat)(p:Option Addr)(h:Nat)(s:Nat):Prop:=br (!decide ((↑d:Int)=(↑h:Int))) (R (E (.bool false)) w) (Ae (fun(a:Int)(b:World)(q:Int->World->Prop)=>br (decide (a<(↑d:Int))) (onP o fun c=>((0:
 Int)<=a/\a<(↑d:Int))/\∃i j m e,Ld P 98 b.drew (c.add (a.toNat*4)) (.agg #[I i,I j,.string m,
 .bool e])/\onP p fun c=>(0<=a/\a<(↑h:Int))/\∃k l n f,Ld P 98 b.drew (c.add (a.toNat*4)) (.agg #[I k,
 I l,.string n,.bool f])/\∃g,Eqv P .neq 98 (.tmp 20) (.tmp 24) b.drew (.agg #[I i,
 I j,.string m,.bool e]) (.agg #[I k,I l,.string n,.bool f]) g/\br g (R (E
 (.bool false)) b.drew) (inR .i64 (a+1)/\q (a+1) b.drew)) (R (E (.bool true)) b)) 0 w)
theorem rsame.ok(o:Option Addr)(d:Nat)(r:Nat)(p:Option Addr)(h:Nat)(s:Nat)(Z0:rsame.vc Tryz.prog (.int .i64) .returned u U o d r p h s):Calls Tryz.prog 24 #[.slice o d r,.slice p h s] u U:=cok rsame.an Tryz.func24 (by kernel_rfl) (by kernel_rfl) Z0
def rahead.an:An:=⟨[],[],[],[]⟩
def rahead.vc(i:Int)(k:Int)(j:ByteArray)(h:Bool)(m:Int)(o:Int)(n:ByteArray)(l:Bool):Prop:=∀d g,New w (.cells #[I i,I k,.string j,.bool h] 98) d g->∀e a,New g (.cells #[I m,
 I o,.string n,.bool l] 98) e a->∃b,Ld P 3 a (.mk d 0 none) (I b)/\∃f,Ld P 3 a
 (.mk e 0 none) (I f)/\br (!decide (b=f)) (∃b,Ld P 3 a (.mk d 0 none) (I b)/\∃c,Ld P 3 a (Addr.mk
 e 0 none) (I c)/\R (E (.bool (decide (b<c)))) a) (∃b,Ld P 3 a (.mk d 1 none) (I b)/\∃c,Ld
 P 3 a (.mk e 1 none) (I c)/\R (E (.bool (decide (b<c)))) a)
theorem rahead.ok(i:Int)(k:Int)(j:ByteArray)(h:Bool)(m:Int)(o:Int)(n:ByteArray)(l:Bool)(Z0:rahead.vc Tryz.prog (.int .i64) .returned u U i k j h m o n l):Calls Tryz.prog 41 #[.agg #[.int .i64 i,.int .i64 k,.string j,.bool h],.agg #[.int .i64 m,.int .i64 o,.string n,.bool l]] u U:=cok rahead.an Tryz.func41 (by kernel_rfl) (by kernel_rfl) Z0
def rcommit.an:An:=⟨[],[(3,[(6,.inr 3),(7,.inl .i64)]),(10,[(9,.inl .i64)])],[],[]⟩
def rcommit.vc(m:Option Addr)(o:Nat)(n:Nat)(z:Option Addr)(x:Nat)(B:Nat):Prop:=Ae (fun(b:(Option Addr×Nat×Nat)×Int)(d:World)(t:(Option Addr×Nat×Nat)×Int->World->Prop)=>br (decide (b.2<(↑x:Int))) (onP z fun g=>(0<=
 b.2/\b.2<(↑x:Int))/\∃a y p c,Ld P 98 d (g.add (b.2.toNat*4)) (.agg #[I a,I y,
 .string p,.bool c])/\∀f h,New d (.cells #[I 0,I 0,.string (.mk #[]),.bool false] 98) f h->∃e,St
 P 98 h (.mk f 0 none) (.agg #[I a,I y,.string p,.bool c]) e/\∃a,Ld P 3 e (.mk f 0
 none) (I a)/\br (decide (a<0)) (R (E (.tuple #[S m o n,.bool false])) e) (∃a,Ld P 3 e (.mk f 0 none)
 (I a)/\br (decide (4096<=a)) (R (E (.tuple #[S m o n,.bool false])) e) (∃a,Ld P 3 e (.mk f 1 none)
 (I a)/\br (decide (a<0)) (R (E (.tuple #[S m o n,.bool false])) e) (∃a,Ld P 3 e (.mk f 1 none)
 (I a)/\br (decide (120<=a)) (R (E (.tuple #[S m o n,.bool false])) e) (∃c,Ld P 4 e (.mk f 3 none)
 (.bool c)/\br c (∃a q r c,Ld P 98 e (.mk f 0 none) (.agg #[I a,I q,.string r,.bool c])/\AB
 P 78 [S b.1.1 b.1.2.1 b.1.2.2,.agg #[I a,I q,
 .string r,.bool c]] e fun k d=>∃c,k=E (.bool c)/\br (!c) (R (E (.tuple #[S m o n,.bool false])) d) (∃c,Ld
 P 4 d (.mk f 3 none) (.bool c)/\br (!c) (∃s,Ld P 9 d (.mk f 2 none) (.string s)/\br (decide (3600<(↑(s.size):
 Int))) (R (E (.tuple #[S m o n,.bool false])) d) (∃a v A c,Ld P 98 d (.mk f 0 none) (.agg #[I a,I v,.string A,.bool c])/\∀i h,New d (.cells #[I a,I v,.string A,.bool c] 98) i h->AB
 P 79 [S b.1.1 b.1.2.1 b.1.2.2,S (some (.mk i 0 none)) 1 1] h fun k d=>∃g l j,k
 =E (S g l j)/\inR .i64 (b.2+1)/\t ((g,l,j),b.2+1) d)) (∃a v s c,Ld P 98 d (.mk f 0 none)
 (.agg #[I a,I v,.string s,.bool c])/\∀i h,New d (.cells #[I a,I v,.string s,
 .bool c] 98) i h->AB P 79 [S b.1.1 b.1.2.1 b.1.2.2,S (some (.mk i 0
 none)) 1 1] h fun k d=>∃g l j,k=E (S g l j)/\inR .i64 (b.2+1)/\t ((g,l,j),b.2+1) d))) (∃c,Ld P 4
 e (.mk f 3 none) (.bool c)/\br (!c) (∃r,Ld P 9 e (.mk f 2 none) (.string r)/\br (decide (3600<(↑(r.size):Int))) (R
 (E (.tuple #[S m o n,.bool false])) e) (∃a q s c,Ld P 98 e (.mk f 0 none) (.agg #[I a,I q,.string s,.bool c])/\∀i h,New e (.cells #[I a,I q,.string s,.bool c] 98) i h->AB
 P 79 [S b.1.1 b.1.2.1 b.1.2.2,S (some (.mk i 0 none)) 1 1] h fun k d=>∃g l j,k
 =E (S g l j)/\inR .i64 (b.2+1)/\t ((g,l,j),b.2+1) d)) (∃a q r c,Ld P 98 e (.mk f 0 none)
 (.agg #[I a,I q,.string r,.bool c])/\∀i h,New e (.cells #[I a,I q,.string
 r,.bool c] 98) i h->AB P 79 [S b.1.1 b.1.2.1 b.1.2.2,S (some (.mk i 0
 none)) 1 1] h fun k d=>∃g l j,k=E (S g l j)/\inR .i64 (b.2+1)/\t ((g,l,j),b.2+1) d))))))) (Ae (fun(p:Int)(d:
 World) (t:Int->World->Prop)=>br (decide (p<(↑x:Int))) (onP z fun g=>(0<=p/\p<(↑x:Int))/\∃a,Ld P 3 d (g.add (p.toNat*4))
 (I a)/\AB P 80 [S b.1.1 b.1.2.1 b.1.2.2,I a] d fun k d
 =>∃a,k=E (I a)/\br (decide (a<0)) (R (E (.tuple #[S m o n,.bool false])) d) (inR .i64 (p+1)/\
 t (p+1) d)) (R (E (.tuple #[S b.1.1 b.1.2.1 b.1.2.2,.bool true])) d)) (0:
 Int) d)) ((m,o,n),0) w
theorem rcommit.ok(m:Option Addr)(o:Nat)(n:Nat)(z:Option Addr)(x:Nat)(B:Nat)(Z0:rcommit.vc Tryz.prog (.int .i64) .slice .returned u U m o n z x B):Calls Tryz.prog 44 #[.slice m o n,.slice z x B] u U:=cok rcommit.an Tryz.func44 (by kernel_rfl) (by kernel_rfl) Z0
def rchanged.an:An:=⟨[],[(2,[(0,.inr 3),(5,.inl .i64)])],[],[]⟩
def rchanged.vc(r:Option Addr)(t:Nat)(s:Nat)(j:Option Addr)(h:Nat)(v:Nat):Prop:=Ae (fun(a:(Option Addr×Nat×Nat)×Int)(b:World)(m:(Option Addr×Nat×Nat)×Int->World->Prop)=>br (decide (a.2<(↑h:Int))) (onP j fun c=>(0<=
 a.2/\a.2<(↑h:Int))/\∃g k n d,Ld P 98 b (c.add (a.2.toNat*4)) (.agg #[I g,I k,
 .string n,.bool d])/\AB P 118 [S a.1.1 a.1.2.1 a.1.2.2,.agg #[I g,I k,.string n,.bool d]] b fun i b=>∃c f e,i=E (S c f e)/\onP j fun p=>(0<=a.2/\a.2<
 (↑h:Int))/\∃d,Ld P 4 b (Addr.add (p.add (a.2.toNat*4)) 3) (.bool d)/\br (!d) (onP j fun q=>(0<=a.2/\a.2<(↑h
 :Int))/\∃g l o d,Ld P 98 b (q.add (a.2.toNat*4)) (.agg #[I g,I l,.string o,.bool d])/\
 AB P 119 [S c f e,.agg #[I g,I l,.string o,.bool d]] b fun i b=>∃c f e,i=E
 (S c f e)/\inR .i64 (a.2+1)/\m ((c,f,e),a.2+1) b) (inR .i64 (a.2+1)/\m ((c,f,e),a.2+1) b))
 (R (E (S a.1.1 a.1.2.1 a.1.2.2)) b)) ((r,t,s),0) w
theorem rchanged.ok(r:Option Addr)(t:Nat)(s:Nat)(j:Option Addr)(h:Nat)(v:Nat)(Z0:rchanged.vc Tryz.prog (.int .i64) .slice .returned u U r t s j h v):Calls Tryz.prog 79 #[.slice r t s,.slice j h v] u U:=cok rchanged.an Tryz.func79 (by kernel_rfl) (by kernel_rfl) Z0
def rroomJ.an:An:=⟨[],[(3,[(5,.inl .i64),(6,.inl .i64)])],[],[]⟩
def rroomJ.vc(g:Option Addr)(d:Nat)(j:Nat)(i:Int):Prop:=Ae (fun(a:Int×Int)(b:World)(h:Int×Int->World->Prop)=>br (decide (a.2<(↑d:Int))) (onP g fun c=>(0<=a.2/\a.2<(↑d:Int))/\∃f,Ld
 P 3 b (c.add (a.2.toNat*4)) (I f)/\br (decide (f=i)) (onP g fun c=>(0<=a.2/\a.2<(↑d:Int))/\∃e,Ld
 P 9 b (Addr.add (c.add (a.2.toNat*4)) 2) (.string e)/\inR .i64 (a.1-(↑(e.size):Int))/\inR .i64 (a.2+(1:
 Int))/\h (a.1-(↑(e.size):Int),a.2+1) b) (inR .i64 (a.2+1)/\h (a.1,a.2+1) b)) (R (E
 (I a.1)) b)) (3600,0) w
theorem rroomJ.ok(g:Option Addr)(d:Nat)(j:Nat)(i:Int)(Z0:rroomJ.vc Tryz.prog (.int .i64) .returned u U g d j i):Calls Tryz.prog 80 #[.slice g d j,.int .i64 i] u U:=cok rroomJ.an Tryz.func80 (by kernel_rfl) (by kernel_rfl) Z0
def rthere.an:An:=⟨[],[(2,[(5,.inl .i64)])],[],[]⟩
def rthere.vc(i:Option Addr)(f:Nat)(p:Nat)(m:Int)(o:Int)(n:ByteArray)(l:Bool):Prop:=∀e k,New w (.cells #[I m,I o,.string n,.bool l] 98) e k->Ae (fun(a:Int)(b:World)(j:Int->World->Prop)=>br
 (decide (a<(↑f:Int))) (onP i fun d=>(0<=a/\a<(↑f:Int))/\∃c,Ld P 3 b.drew (d.add (a.toNat*4)) (I c)/\∃g,Ld
 P 3 b.drew (.mk e 0 none) (I g)/\br (decide (c=g)) (onP i fun d=>(0<=a/\a<(↑f:Int))/\∃c,Ld P 3 (World.drew
 b) (Addr.add (d.add (a.toNat*4)) 1) (I c)/\∃h,Ld P 3 b.drew (.mk e 1 none) (I h)/\br (decide (c=h)) (R
 (E (.bool true)) b.drew) (inR .i64 (a+1)/\j (a+1) b.drew)) (inR .i64 (a+1)/\j (a+1) b.drew))
 (R (E (.bool false)) b)) 0 k
theorem rthere.ok(i:Option Addr)(f:Nat)(p:Nat)(m:Int)(o:Int)(n:ByteArray)(l:Bool)(Z0:rthere.vc Tryz.prog (.int .i64) .returned u U i f p m o n l):Calls Tryz.prog 78 #[.slice i f p,.agg #[.int .i64 m,.int .i64 o,.string n,.bool l]] u U:=cok rthere.an Tryz.func78 (by kernel_rfl) (by kernel_rfl) Z0
def rwo.an:An:=⟨[],[(3,[(5,.inr 3),(6,.inl .i64)])],[],[]⟩
def rwo.vc(n:Option Addr)(i:Nat)(x:Nat)(s:Int)(v:Int)(t:ByteArray)(r:Bool):Prop:=∀e f,New w (.cells #[I s,I v,.string t,.bool r] 98) e f->Ae (fun(a:(Option Addr×Nat×Nat)×Int)(d:World)
 (o:(Option Addr×Nat×Nat)×Int->World->Prop)=>br (decide (a.2<(↑i:Int))) (onP n fun b=>(0<=a.2/\a.2<(↑i:Int))/\∃c,Ld P 3
 d.drew (b.add (a.2.toNat*4)) (I c)/\∃p,Ld P 3 d.drew (.mk e 0 none) (I p)/\br (!decide (c=
 p)) (onP n fun b=>(0<=a.2/\a.2<(↑i:Int))/\∃c h l e,Ld P 98 d.drew (b.add (a.2.toNat*4)) (.agg #[I c,I h,.string l,.bool e])/\∀g f,New d.drew (.cells #[I c,I h,.string l,.bool
 e] 98) g f->∃b k j m,App P #[38,38] 38 f (S a.1.1 a.1.2.1 a.1.2.2) (S (some
 (.mk g 0 none)) 1 1) (S b k j) m/\inR .i64 (a.2+1)/\o ((b,k,j),a.2+1) m) (onP n fun b=>(0<=a.2/\a.2<
 (↑i:Int))/\∃c,Ld P 3 d.drew (Addr.add (b.add (a.2.toNat*4)) 1) (I c)/\∃h,Ld P 3 d.drew (.mk e
 1 none) (I h)/\br (!decide (c=h)) (onP n fun b=>(0<=a.2/\a.2<(↑i:Int))/\∃c q l e,Ld P 98 d.drew (Addr.add b
 (a.2.toNat*4)) (.agg #[I c,I q,.string l,.bool e])/\∀g f,New d.drew (.cells #[I c,
 I q,.string l,.bool e] 98) g f->∃b k j m,App P #[38,38] 38 f (S a.1.1 a.1.2.1
 a.1.2.2) (S (some (.mk g 0 none)) 1 1) (S b k j) m/\inR .i64 (a.2+1)/\o ((b,k,j),a.2+1) m)
 (inR .i64 (a.2+1)/\o ((a.1.1,a.1.2.1,a.1.2.2),a.2+1) d.drew))) (R
 (E (S a.1.1 a.1.2.1 a.1.2.2)) d)) ((none,0,0),0) f
theorem rwo.ok(n:Option Addr)(i:Nat)(x:Nat)(s:Int)(v:Int)(t:ByteArray)(r:Bool)(Z0:rwo.vc Tryz.prog (.int .i64) .slice .returned u U n i x s v t r):Calls Tryz.prog 118 #[.slice n i x,.agg #[.int .i64 s,.int .i64 v,.string t,.bool r]] u U:=cok rwo.an Tryz.func118 (by kernel_rfl) (by kernel_rfl) Z0
def rwi.an:An:=⟨[],[(4,[(5,.inr 3),(6,.inr 0),(7,.inl .i64)])],[(7,[(23,.inr 0)])],[]⟩
def rwi.vc(p:Option Addr)(o:Nat)(H:Nat)(C:Int)(F:Int)(D:ByteArray)(B:Bool):Prop:=∀b e,New w (.cells #[I C,I F,.string D,.bool B] 98) b e->Ae (fun(a:(Option Addr×Nat×Nat)×Bool×Int)(d:
 World) (x:(Option Addr×Nat×Nat)×Bool×Int->World->Prop)=>br (decide (a.2.2<(↑o:Int))) (F8 (fun m d=>br m (∃c h l g,Ld P 98 d
 (.mk b 0 none) (.agg #[I c,I h,.string l,.bool g])/\∀b e,New d (.cells #[I c,I h,
 .string l,.bool g] 98) b e->∃f k j i,App P #[38,38] 38 e (S a.1.1 a.1.2.1 (Prod.snd (Prod.snd (Prod.fst
 a)))) (S (some (.mk b 0 none)) 1 1) (S f k j) i/\onP p fun A=>(0<=a.2.2/\a.2.2<(↑o:Int))/\∃c n y b,Ld
 P 98 i (A.add (a.2.2.toNat*4)) (.agg #[I c,I n,.string y,.bool b])/\∀r e,New i
 (.cells #[I c,I n,.string y,.bool b] 98) r e->∃q v t z,App P #[38,38] 38 e (S f k j)
 (S (some (.mk r 0 none)) 1 1) (S q v t) z/\inR .i64 (a.2.2+1)/\x ((q,v,t),true,a.2.2+1)
 z) (onP p fun f=>(0<=a.2.2/\a.2.2<(↑o:Int))/\∃c h l b,Ld P 98 d (f.add (a.2.2.toNat*4))
 (.agg #[I c,I h,.string l,.bool b])/\∀g e,New d (.cells #[I c,I h,.string l,
 .bool b] 98) g e->∃f k j i,App P #[38,38] 38 e (S a.1.1 a.1.2.1 a.1.2.2) (S
 (some (.mk g 0 none)) 1 1) (S f k j) i/\inR .i64 (a.2.2+1)/\x ((f,k,j),a.2.1,a.2.2+1) i)) fun
 (J:Bool->World->Prop)=>br (!a.2.1) (∃c h m g,Ld P 98 d.drew (.mk b 0 none) (.agg #[I c,I h,
 .string m,.bool g])/\onP p fun f=>(0<=a.2.2/\a.2.2<(↑o:Int))/\∃n s l b,Ld P 98 d.drew (Addr.add f
 (a.2.2.toNat*4)) (.agg #[I n,I s,.string l,.bool b])/\AB P 41 [.agg #[I c,I h,.string m,.bool g],.agg #[I n,I s,.string l,.bool b]] d.drew fun G d
 =>∃b,G=E (.bool b)/\J b d) (J false d.drew)) (br (!a.2.1) (∃c h m g,Ld P 98 d (.mk b 0 none) (.agg #[I c,I h,.string m,.bool g])/\∀b e,New d (.cells #[I c,I h,.string m,.bool g] 98) b
 e->∃f k j i,App P #[38,38] 38 e (S a.1.1 a.1.2.1 a.1.2.2) (S (some (.mk b 0
 none)) 1 1) (S f k j) i/\R (E (S f k j)) i) (R (E (S a.1.1 a.1.2.1 (Prod.snd (Prod.snd
 a.1)))) d))) ((none,0,0),false,0) e
theorem rwi.ok(p:Option Addr)(o:Nat)(H:Nat)(C:Int)(F:Int)(D:ByteArray)(B:Bool)(Z0:rwi.vc Tryz.prog (.int .i64) .slice .returned u U p o H C F D B):Calls Tryz.prog 119 #[.slice p o H,.agg #[.int .i64 C,.int .i64 F,.string D,.bool B]] u U:=cok rwi.an Tryz.func119 (by kernel_rfl) (by kernel_rfl) Z0
end
end Go.Proofs.YtdeebigmpffnbaaGreat
namespace Go.Vc
open Go
theorem CE{b:Bool}{x y:Prop}(h1:b=true->x)(h2:b=false->y):br b x y:=by
 cases b with
 |true=>exact h1 rfl
 |false=>exact h2 rfl
theorem AO{p:Prop}[Decidable p]{x y:Prop}(h1:p->x)(h2:¬p->y):br (decide p) x y:=
 CE (fun h=>h1 (of_decide_eq_true h)) (fun h=>h2 (of_decide_eq_false h))
theorem BI{b:Bool}{x y:Prop}(h1:b=false->x)(h2:b=true->y):br (!b) x y:=by
 cases b with
 |true=>exact h2 rfl
 |false=>exact h1 rfl
theorem Aw{p:Prop}[Decidable p]{x y:Prop}(h1:¬p->x)(h2:p->y):br (!decide p) x y:=
 BI (fun h=>h1 (of_decide_eq_false h)) (fun h=>h2 (of_decide_eq_true h))
theorem D8{x y:Prop}(h:x):br true x y:=h
theorem CX{x y:Prop}(h:y):br false x y:=h
theorem AA{p:Option Addr}{a:Addr}{k:Addr->Prop}(h:p=some a)(hk:k a):onP p k:=by subst h;exact hk
theorem Ae.mk{St:Type}{body:St->World->(St->World->Prop)->Prop}{s:St}{w:World}(I:Nat->St->World->Prop)(n:Nat)(h0:I n s w)
  (h:∀n s w next,I n s w->(∀m s' w',m<n->I m s' w'->next s' w')->body s w next):Ae body s w:=
 ⟨⟨I,⟨n,h0⟩,fun n s w hI=>h n s w _ hI fun m s' w' hlt hI'=>⟨m,hlt,hI'⟩⟩⟩
theorem F8.mk{St:Type}{R:St->World->Prop}{X:(St->World->Prop)->Prop}(J:St->World->Prop)(hR:∀s w,J s w->R s w)(hX:∀R':St->World->Prop,(∀s w,J s w->R' s w)->X R'):F8 R X:=
 ⟨hX R hR⟩
theorem AL{P:Program}{f:FuncId}{args:List Value}{w:World}{R R':Ending->World->Prop}(h:Calls P f args.toArray w R)(hr:∀e w',R e w'->R' e w'):AB P f args w R':=
 ⟨Calls.mono h hr⟩
theorem AY{z:Int}:inR .i64 z↔ -9223372036854775808<=z/\z<=9223372036854775807:=by
 simp[inR,IntKind.min,IntKind.max,IntKind.signed,IntKind.bits]
theorem DN{z:Int}(h: -9223372036854775808<=z/\z<=9223372036854775807):IntKind.i64.wrap z=z:=Xh (AY.2 h)
def Chg(S:List Nat)(w w':World):Prop:=
 w'.os=w.os/\w'.tape=w.tape/\w'.output=w.output/\w.heap.size<=w'.heap.size/\∀k,k<w.heap.size->k∉S->w'.heap[k]? =w.heap[k]?
theorem Chg.refl(S:List Nat)(w:World):Chg S w w:=⟨rfl,rfl,rfl,Nat.le_refl _,fun _ _ _=>rfl⟩
theorem Chg.size{S:List Nat}{w w':World}(h:Chg S w w'):w.heap.size<=w'.heap.size:=h.2.2.2.1
theorem Chg.trans{S T U:List Nat}{a b c:World}(h:Chg S a b)(h':Chg T b c)(hS:∀k∈S,k∈U)(hT:∀k∈T,k∈U\/a.heap.size<=k):Chg U a c:=by
 refine⟨h'.1.trans h.1,h'.2.1.trans h.2.1,h'.2.2.1.trans h.2.2.1,Nat.le_trans h.size h'.size,fun k hk hu=>?_⟩
 have h1:=h.2.2.2.2 k hk (fun hs=>hu (hS k hs))
 have h2:=h'.2.2.2.2 k (Nat.lt_of_lt_of_le hk h.size) (fun ht=>by
  rcases hT k ht with h3|h3
  ·exact hu h3
  ·omega)
 exact h2.trans h1
theorem Chg.ext{S:List Nat}{a b c:World}(h:Chg S a b)(h':Chg [] b c):Chg S a c:=h.trans h' (fun k hk=>hk) (fun k hk=>by cases hk)
theorem Chg.block{S:List Nat}{w w':World}(h:Chg S w w'){k:Nat}{o:Obj}(hk:w.heap[k]? =some o)(hs:k∉S):w'.heap[k]? =some o:=by
 rw[h.2.2.2.2 k (Array.getElem?_eq_some_iff.1 hk).1 hs];exact hk
theorem Chg.cell{S:List Nat}{w w':World}(h:Chg S w w'){a:Addr}{v:Value}(hk:w.cell? a=some v)(hs:a.block∉S):w'.cell? a=some v:=by
 have hlt:=World.block_lt_of_cell? w a hk
 rw[World.cell?_of_block (h.2.2.2.2 _ hlt hs)];exact hk
theorem Chg.drew{S:List Nat}{a b:World}(h:Chg S a b):Chg S a b.drew:=h
theorem alloc_old(w:World)(o:Obj)(k:Nat)(h:k<w.heap.size):(w.alloc o).heap[k]? =w.heap[k]? :=by
 show(w.heap.push o)[k]? =_
 rw[Array.getElem?_push,if_neg (by omega)]
theorem Gm(w:World)(o:Obj):(w.alloc o).heap[w.heap.size]? =some o:=by
 show(w.heap.push o)[w.heap.size]? =_
 simp
theorem New.chg{w w1:World}{o:Obj}{b:Nat}(h:New w o b w1):Chg [] w w1:=by
 obtain⟨rfl,rfl⟩:=h
 exact⟨rfl,rfl,rfl,by simp,fun k hk _=>alloc_old w o k hk⟩
theorem New.blk{w w1:World}{o:Obj}{b:Nat}(h:New w o b w1):w1.heap[b]? =some o:=by
 obtain⟨rfl,rfl⟩:=h
 exact Gm w o
def Blk(w:World)(b:Nat)(cs:List Value)(T:TypeId):Prop:=w.heap[b]? =some (.cells cs.toArray T (0,0))
theorem New.cells{w w1:World}{cs:List Value}{T:TypeId}{b:Nat}(h:New w (.cells cs.toArray T) b w1):Blk w1 b cs T:=h.blk
theorem Blk.chg{w w':World}{b:Nat}{cs:List Value}{T:TypeId}{S:List Nat}(h:Blk w b cs T)(hc:Chg S w w')(hs:b∉S):Blk w' b cs T:=hc.block h hs
theorem Blk.lt{w:World}{b:Nat}{cs:List Value}{T:TypeId}(h:Blk w b cs T):b<w.heap.size:=(Array.getElem?_eq_some_iff.1 h).1
theorem Blk.cell{w:World}{b:Nat}{cs:List Value}{T:TypeId}(h:Blk w b cs T){o:Nat}{v:Value}(hv:cs[o]? =some v):w.cell? ⟨b,o,none⟩=some v:=by
 have h':w.heap[b]? =some (.cells cs.toArray T (0,0)):=h
 simp[World.cell?,h',hv]
def aggB(P:Program)(t:TypeId):Option Bool:=match P.underlying t with
 |some (.struct _)|some (.array _ _)=>some true
 |some _=>some false
 |none=>none
theorem UE{P:Program}{t:TypeId}{b:Bool}(h:aggB P t=some b)(w:World):(isAgg t).run P w=.ok b w:=by
 unfold aggB at h
 cases hu:P.underlying t with
 |none=>rw[hu]at h;cases h
 |some d=>
  rw[hu]at h
  simp only[isAgg,Sem.run_bind,Am hu,Result.andThen_ok]
  cases d<;>cases h<;>rfl
theorem V8{P:Program}{t:TypeId}{w:World}{a:Addr}{v:Value}(hu:aggB P t=some false)(h:w.cell? a=some v):Ld P t w a v:=by
 simp only[Ld,loadVar,Sem.run_bind,UE hu,Result.andThen_ok,Bool.false_eq_true,if_false,run_load,h]
theorem Zx{P:Program}{t:TypeId}{w:World}{a:Addr}{vs:List Value}(hu:aggB P t=some true)(hs:ER P t=some vs.length)(h:∀j v,vs[j]? =some v->w.cell? (a.add j)=some v):Ld P t w a (.agg vs.toArray):=by
 simp only[Ld,loadVar,Sem.run_bind,UE hu,Result.andThen_ok,if_true,ED hs,Sem.run_map,Sem.run_bind,run_loadCells_list w a vs h,Sem.run_pure]
theorem Blk.ld{P:Program}{t:TypeId}{w:World}{b:Nat}{cs:List Value}{T:TypeId}(h:Blk w b cs T){o:Nat}{v:Value}(hu:aggB P t=some false)(hv:cs[o]? =some v):Ld P t w ⟨b,o,none⟩ v:=
 V8 hu (h.cell hv)
theorem add_lit(b o j:Nat):(⟨b,o,none⟩:Addr).add j=⟨b,o+j,none⟩:=by
 unfold Addr.add;split<;>simp_all
theorem Blk.ldA{P:Program}{t:TypeId}{w:World}{b:Nat}{cs:List Value}{T:TypeId}(h:Blk w b cs T){o:Nat}{vs:List Value}(hu:aggB P t=some true)(hs:ER P t=some vs.length)
  (hv:(cs.drop o).take vs.length=vs):Ld P t w ⟨b,o,none⟩ (.agg vs.toArray):=by
 refine Zx hu hs fun j v hj=>?_
 rw[add_lit]
 refine h.cell ?_
 rw[<- hv]at hj
 rw[List.getElem?_take]at hj
 split at hj
 ·simpa using hj
 ·cases hj
def setB(w:World)(b:Nat)(o:Obj):World:= {w with heap:=w.heap.setIfInBounds b o}
theorem DI(w:World)(b:Nat)(o:Obj):Chg [b] w (setB w b o):=
 ⟨rfl,rfl,rfl,by simp[setB],fun k hk hs=>by
  simp only[setB,Array.getElem?_setIfInBounds]
  rw[if_neg (by simpa using Ne.symm (by simpa using hs))]⟩
theorem Dl{w:World}{b:Nat}{o:Obj}(h:b<w.heap.size):(setB w b o).heap[b]? =some o:=by
 simp[setB,h]
theorem Gh{w:World}{b:Nat}{cs:List Value}{T:TypeId}{fz:Nat×Nat}(h:w.heap[b]? =some (.cells cs.toArray T fz))(o:Nat)(v:Value):
  w.setCell ⟨b,o,none⟩ v=setB w b (.cells (cs.set o v).toArray T fz):=by
 simp only[World.setCell,setB]
 congr 1
 apply Array.ext_getElem?
 intro k
 rw[Array.getElem?_modify,Array.getElem?_setIfInBounds]
 split
 ·rename_i hk;subst hk
  rw[if_pos (Array.getElem?_eq_some_iff.1 h).1,h]
  simp
 ·rfl
theorem Ip(w:World)(b:Nat)(o o':Obj):setB (setB w b o) b o'=setB w b o':=by
 simp only[setB]
 congr 1
 apply Array.ext_getElem?
 intro k
 simp only[Array.getElem?_setIfInBounds]
 split
 ·simp
 ·rfl
theorem DT{P:Program}{b:Nat}{T:TypeId}{fz:Nat×Nat}:∀(vs:List Value)(w:World)(cs:List Value)(a:Addr)(o i:Nat),a.add i=⟨b,o,none⟩->(∀j,a.add (i+j)=⟨b,o+j,none⟩)->
  w.heap[b]? =some (.cells cs.toArray T fz)->o+vs.length<=cs.length->(∀k,o<=k->k<o+vs.length->(decide (fz.1<=k)&&decide (k<fz.2))=false)->(∀u∈vs,u.oneCell'=true)->
  (storeCells a vs i).run P w=.ok () (if vs=[]then w else setB w b (.cells (over vs o cs).toArray T fz))
 | [],w,cs,a,o,i,ha,haj,hb,hl,hf,h1=>by simp[storeCells]
 |v::r,w,cs,a,o,i,ha,haj,hb,hl,hf,h1=>by
  simp only[length_cons]at hl hf
  simp only[storeCells,Sem.run_bind]
  have hlt:o<cs.length:=by omega
  have hcell:w.cell? ⟨b,o,none⟩=some cs[o]:=by simp[World.cell?,hb,hlt]
  have hfr:w.frozen? ⟨b,o,none⟩=false:=by
   have:=hf o (Nat.le_refl _) (by omega)
   obtain⟨f1,f2⟩:=fz
   simpa [World.frozen?,hb]using this
  have hst:(store (a.add i) v).run P w=.ok () (w.setCell ⟨b,o,none⟩ v):=by
   rw[ha,run_store P w _ v _ (h1 v (List.mem_cons_self ..))]
   simp[hcell,hfr]
  rw[hst]
  simp only[Result.andThen_ok]
  have hb2:(w.setCell ⟨b,o,none⟩ v).heap[b]? =some (.cells (cs.set o v).toArray T fz):=by
   rw[Gh hb];exact Dl (Array.getElem?_eq_some_iff.1 hb).1
  rw[DT r _ (cs.set o v) a (o+1) (i+1) (haj 1) (fun j=>by rw[show i+1+j=i+(1+j) by omega,haj,show o+(1+j)=o+1+j by omega]) hb2 (by simp;omega) (fun k h1' h2'=>hf k (by omega) (by omega)) (fun u hu=>h1 u (List.mem_cons_of_mem _ hu))]
  rw[Gh hb,if_neg (List.cons_ne_nil _ _),Fh v r o cs hlt]
  split
  ·rename_i hr;subst hr;simp[Dc]
  ·rw[Ip]
theorem Blk.st{P:Program}{t:TypeId}{w:World}{b:Nat}{cs:List Value}{T:TypeId}(h:Blk w b cs T){o:Nat}{v:Value}(hs:ER P t=some v.cells.size)(hv:v.cells.toList.all (·.oneCell')=true)(hl:o+v.cells.size<=cs.length):
  ∃w1,St P t w ⟨b,o,none⟩ v w1/\Blk w1 b (over v.cells.toList o cs) T/\Chg [b] w w1:=by
 have hrun:=DT (P:=P) (b:=b) (T:=T) (fz:=(0,0)) v.cells.toList w cs ⟨b,o,none⟩ o 0 rfl (fun j=>by simp[add_lit]) h (by simpa using hl) (fun k _ _=>by simp) (fun u hu=>all_eq_true.1 hv u hu)
 have e:(storeVar t ⟨b,o,none⟩ v).run P w=(storeCells ⟨b,o,none⟩ v.cells.toList).run P w:=by
  simp only[storeVar,Sem.run_bind,ED hs,Result.andThen_ok]
  rw[if_neg (by simp)]
 refine⟨_,e.trans hrun,?_,?_⟩
 ·split
  ·rename_i hn;rw[hn,Dc];exact h
  ·exact Dl h.lt
 ·split
  ·exact Chg.refl _ _
  ·exact DI _ _ _
def Thaw(fz:Nat×Nat)(n:Nat):Prop:=∀k,k<n->(decide (fz.1<=k)&&decide (k<fz.2))=false
theorem Thaw.zero(n:Nat):Thaw (0,0) n:=fun k _=>by simp
theorem Thaw.behind(n m:Nat):Thaw (n,m) n:=fun k hk=>by
 have:¬n<=k:=by omega
 simp[this]
def Own(w:World)(base:Nat)(e:TypeId)(sz:Nat)(a:Option Addr)(n c:Nat)(xs:List Value):Prop:=
 xs.length=n*sz/\((a=none/\n=0/\c=0)\/∃g cur fz,a=some ⟨g,0,none⟩/\base<=g/\w.heap[g]? =some (.cells cur e fz)/\Thaw fz cur.size/\n<=c/\c<=maxLen/\c*sz<=cur.size/\cur.toList.take (n*sz)=xs)
def blks(a:Option Addr):List Nat:=match a with
 |some a=>[a.block]
 |none=>[]
theorem Own.nil(w:World)(base:Nat)(e:TypeId)(sz:Nat):Own w base e sz none 0 0 []:=⟨by simp,.inl ⟨rfl,rfl,rfl⟩⟩
theorem Own.le{w:World}{base:Nat}{e:TypeId}{sz:Nat}{a:Option Addr}{n c:Nat}{xs:List Value}(h:Own w base e sz a n c xs):n<=c/\c<=maxLen:=by
 rcases h.2 with⟨_,rfl,rfl⟩|⟨g,cur,_,_,_,_,_,h1,h2,_⟩
 ·exact⟨Nat.le_refl _,by simp[maxLen]⟩
 ·exact⟨h1,h2⟩
theorem Own.chg{w w':World}{base:Nat}{e:TypeId}{sz:Nat}{a:Option Addr}{n c:Nat}{xs:List Value}{S:List Nat}(h:Own w base e sz a n c xs)(hc:Chg S w w')(hs:∀k∈blks a,k∉S):Own w' base e sz a n c xs:=by
 refine⟨h.1,?_⟩
 rcases h.2 with hn|⟨g,cur,fz,rfl,hb,hg,rest⟩
 ·exact .inl hn
 ·exact .inr ⟨g,cur,fz,rfl,hb,hc.block hg (hs g (by simp[blks])),rest⟩
theorem Own.mem{w:World}{base:Nat}{e:TypeId}{sz:Nat}{a:Option Addr}{n c:Nat}{xs:List Value}(h:Own w base e sz a n c xs):∀k∈blks a,base<=k/\k<w.heap.size:=by
 intro k hk
 rcases h.2 with⟨rfl,_⟩|⟨g,cur,fz,rfl,hb,hg,rest⟩
 ·simp[blks]at hk
 ·simp[blks]at hk;subst hk
  exact⟨hb,(Array.getElem?_eq_some_iff.1 hg).1⟩
theorem Own.front{w:World}{base:Nat}{e:TypeId}{sz:Nat}{a:Option Addr}{n c F:Nat}{xs:List Value}(h:Own w base e sz a n c xs)(hF:F<=n):Own w base e sz a F F (xs.take (F*sz)):=by
 have hm:F*sz<=n*sz:=Nat.mul_le_mul_right _ hF
 refine⟨by rw[length_take,h.1];omega,?_⟩
 rcases h.2 with⟨rfl,rfl,rfl⟩|⟨g,cur,fz,rfl,hb,hg,hf,h1,h2,h3,h4⟩
 ·exact .inl ⟨rfl,by omega,by omega⟩
 ·exact .inr ⟨g,cur,fz,rfl,hb,hg,hf,Nat.le_refl _,by omega,Nat.le_trans (Nat.mul_le_mul_right _ (by omega:F<=c)) h3,by rw[<- h4,List.take_take,Nat.min_eq_left hm]⟩
def Cells(w:World)(a:Option Addr)(vs:List Value):Prop:=∀j v,vs[j]? =some v->∃ad,a=some ad/\w.cell? (ad.add j)=some v
theorem Own.cells{w:World}{base:Nat}{e:TypeId}{sz:Nat}{a:Option Addr}{n c:Nat}{xs:List Value}(h:Own w base e sz a n c xs):Cells w a xs:=by
 intro j v hj
 rcases h.2 with⟨rfl,rfl,rfl⟩|⟨g,cur,fz,rfl,hb,hg,hf,h1,h2,h3,h4⟩
 ·have:xs=[]:=List.eq_nil_of_length_eq_zero (by simpa using h.1)
  subst this;simp at hj
 ·refine⟨_,rfl,?_⟩
  rw[add_lit]
  rw[<- h4,List.getElem?_take]at hj
  split at hj
  ·simp[World.cell?,hg];simpa using hj
  ·cases hj
theorem Cells.chg{w w':World}{a:Option Addr}{vs:List Value}{S:List Nat}(h:Cells w a vs)(hc:Chg S w w')(hs:∀k∈blks a,k∉S):Cells w' a vs:=by
 intro j v hj
 obtain⟨ad,rfl,hcell⟩:=h j v hj
 exact⟨ad,rfl,hc.cell hcell (by
  have:(ad.add j).block=ad.block:=by unfold Addr.add;split<;>rfl
  rw[this];exact hs _ (by simp[blks]))⟩
theorem Blk.cells{w:World}{b:Nat}{cs:List Value}{T:TypeId}(h:Blk w b cs T):Cells w (some ⟨b,0,none⟩) cs:=
 fun j v hj=>⟨_,rfl,by rw[add_lit];simpa using h.cell hj⟩
structure Elt(P:Program)(t e:TypeId)(sz by_:Nat):Prop where
 und:P.underlying t=some (.slice e)
 row:∃i z,P.info? e=some i/\i.zero=some z/\i.size=sz/\i.bytes=by_/\z.cells.size=sz
def eltB(P:Program)(t e:TypeId)(sz by_:Nat):Bool:=
 match P.underlying t with
 |some (.slice e')=>Nat.beq e' e&&(match P.info? e with
  |some i=>match i.zero with
   |some z=>Nat.beq i.size sz&&Nat.beq i.bytes by_&&Nat.beq z.cells.size sz
   |none=>false
  |none=>false)
 |_=>false
theorem FP{P:Program}{t e:TypeId}{sz by_:Nat}(h:eltB P t e sz by_=true):Elt P t e sz by_:=by
 unfold eltB at h
 split at h
 ·rename_i e' hu
  simp only[Bool.and_eq_true]at h
  obtain⟨h1,h2⟩:=h
  have:=Nat.eq_of_beq_eq_true h1;subst this
  refine⟨hu,?_⟩
  split at h2
  ·rename_i i hi
   split at h2
   ·rename_i z hz
    simp only[Bool.and_eq_true]at h2
    exact⟨i,z,hi,hz,Nat.eq_of_beq_eq_true h2.1.1,Nat.eq_of_beq_eq_true h2.1.2,Nat.eq_of_beq_eq_true h2.2⟩
   ·cases h2
  ·cases h2
 ·cases h
theorem Gs:∀(l:List Value)(o:Nat)(cs:List Value),o+l.length<=cs.length->∀k,(over l o cs)[k]? =if o<=k/\k<o+l.length then l[k-o]? else cs[k]?
 | [],o,cs,h,k=>by
  rw[Dc,if_neg]
  simp only[List.length_nil];omega
 |y::r,o,cs,h,k=>by
  simp only[length_cons]at h⊢
  rw[Fh y r o cs (by omega),Gs r (o+1) _ (by simp;omega) k]
  by_cases hk:o=k
  ·subst hk
   rw[if_neg (by omega),if_pos (by omega)]
   rw[List.getElem?_set_self (by omega)]
   simp
  ·by_cases hk2:o+1<=k/\k<o+1+r.length
   ·rw[if_pos hk2,if_pos (by omega),show k-o=(k-(o+1))+1 by omega]
    simp
   ·rw[if_neg hk2,if_neg (by omega),List.getElem?_set]
    rw[if_neg hk]
theorem Us(l:List Value)(o:Nat)(cs:List Value)(h:o+l.length<=cs.length):(over l o cs).take (o+l.length)=cs.take o++l:=by
 apply ext_getElem?
 intro k
 rw[List.getElem?_take,Gs l o cs h,List.getElem?_append,List.getElem?_take,length_take,show min o cs.length=o by omega]
 by_cases h1:k<o
 ·rw[if_pos (by omega),if_neg (by omega),if_pos h1,if_pos h1]
 ·by_cases h2:k<o+l.length
  ·rw[if_pos h2,if_pos (by omega),if_neg h1]
  ·rw[if_neg h2,if_neg h1,List.getElem?_eq_none (by omega)]
theorem IG{b:Nat}{T:TypeId}{fz:Nat×Nat}:∀(vs:List Value)(w:World)(cs:List Value)(o:Nat),w.heap[b]? =some (.cells cs.toArray T fz)->o+vs.length<=cs.length->
  (w.setCells b o vs).heap[b]? =some (.cells (over vs o cs).toArray T fz)/\Chg [b] w (w.setCells b o vs)
 | [],w,cs,o,h,hl=>by simp[World.setCells,Dc,h,Chg.refl]
 |v::r,w,cs,o,h,hl=>by
  simp only[length_cons]at hl
  simp only[World.setCells]
  have hlt:=(Array.getElem?_eq_some_iff.1 h).1
  have h2:(w.setCell ⟨b,o,none⟩ v).heap[b]? =some (.cells (cs.set o v).toArray T fz):=by
   rw[Gh h];exact Dl hlt
  obtain⟨h3,h4⟩:=IG r _ (cs.set o v) (o+1) h2 (by simp;omega)
  rw[Fh v r o cs (by omega)]
  refine⟨h3,?_⟩
  have h5:Chg [b] w (w.setCell ⟨b,o,none⟩ v):=by rw[Gh h];exact DI _ _ _
  exact h5.trans h4 (fun k hk=>hk) (fun k hk=>.inl hk)
theorem app_own{P:Program}{t tx e ty:TypeId}{sz by_:Nat}(T:Elt P t e sz by_)(hsz:0<sz){w:World}{base:Nat}{a:Option Addr}{n c:Nat}{xs:List Value}(hown:Own w base e sz a n c xs){x:Value}{m:Nat}{news:List Value}
  (hx:Src P sz tx x m news w) (h63:n+m<=maxLen) (hby:(n+m)*by_<=140737488355328) (hbase:base<=w.heap.size):
  ∃a' c' w1,App P #[t,tx] ty w (.slice a n c) x (.slice a' (n+m) c') w1/\Own w1 base e sz a' (n+m) c' (xs++news)/\Chg (blks a) w w1/\∀k∈blks a',k∈blks a\/w.heap.size<=k:=by
 obtain⟨hu,i,z,hi,hz,rfl,rfl,hzs⟩:=T
 have hsmall:n+m<=9223372036854775807:=by simp only[maxLen]at h63;omega
 have hlen:(xs++news).length=(n+m)*i.size:=by rw[List.length_append,hown.1,hx.newsLen,Nat.add_mul]
 have grow:∀(hold:(Builtin.firstCells i.size n (.slice a n c)).run P w.drew=.ok xs.toArray w.drew),c<n+m->
   ∃a' c' w1,App P #[t,tx] ty w (.slice a n c) x (.slice a' (n+m) c') w1/\Own w1 base e i.size a' (n+m) c' (xs++news)/\Chg (blks a) w w1/\∀k∈blks a',k∈blks a\/w.heap.size<=k:=by
  intro hold hg
  have hr:=run_append_grow_src (P:=P) w t tx ty e i z hu hi hz a n c xs hold x m news hx hg (by omega) (growslice_fits hg hby)
  have hge:=grownCap_ge w (n+m) c e
  have hcm:grownCap w (n+m) c e<=maxLen:=grownCap_le_maxLen w (n+m) c e h63
  refine⟨_,_,_,hr,⟨hlen,.inr ⟨w.heap.size,_,_,rfl,hbase,Gm w.drew _,Thaw.zero _,hge,hcm,?_,?_⟩⟩,?_,?_⟩
  ·refine Nat.le_of_eq (Eq.symm ?_)
   simp only[Array.size_append,size_toArray,size_zeroCells,hzs,hlen,<- Nat.add_mul]
   congr 1;omega
  ·rw[<- hlen,Array.toList_append]
   exact List.take_left' rfl
  ·exact⟨rfl,rfl,rfl,by simp,fun k hk _=>alloc_old w.drew _ k hk⟩
  ·intro k hk;simp[blks]at hk;subst hk;exact .inr (Nat.le_refl _)
 rcases hown.2 with⟨rfl,rfl,rfl⟩|⟨g,cur,fz,rfl,hbg,hg,hf,hnc,hcm,hcs,htake⟩
 ·have hxs:xs=[]:=List.eq_nil_of_length_eq_zero (by simpa using hown.1)
  subst hxs
  by_cases hm:m=0
  ·subst hm
   have hn:news=[]:=List.eq_nil_of_length_eq_zero (by simpa using hx.newsLen)
   subst hn
   refine⟨none,0,w,?_,Own.nil w base e i.size,Chg.refl _ _,by simp[blks]⟩
   have hl:=hx.len w
   have hcl:=hx.cells
   rcases hx.kind with⟨e',hk⟩|hk<;>simp[App,Builtin.append_,Am hu,Am hk,sizeOf,typeInfo,hi,hl,hcl]
  ·exact grow (run_firstCells_none _ _ _ _ _) (by omega)
 ·by_cases hroom:n+m<=c
  ·have hfit:n*i.size+news.length<=cur.size:=by rw[hx.newsLen,<- Nat.add_mul];exact Nat.le_trans (Nat.mul_le_mul_right _ hroom) hcs
   have hcell:∀j,j<news.length->(w.cell? ⟨g,0+n*i.size+j,none⟩).isSome=true:=by
    intro j hj
    have:0+n*i.size+j<cur.size:=by omega
    simp[World.cell?,hg];omega
   have hr:=run_append_room_src (P:=P) w t tx ty e i hu hi g 0 n c x m news hx hroom hcell (fun j hj=>by
    have:=hf (0+n*i.size+j) (by omega)
    obtain⟨f1,f2⟩:=fz
    simpa [World.frozen?,hg]using this)
   have hcur:w.heap[g]? =some (.cells cur.toList.toArray e fz):=by simpa using hg
   obtain⟨h3,h4⟩:=IG news w cur.toList (0+n*i.size) hcur (by simp;omega)
   refine⟨_,_,_,hr,⟨hlen,.inr ⟨g,_,fz,rfl,hbg,h3,?_,hroom,hcm,?_,?_⟩⟩,h4,fun k hk=>.inl hk⟩
   ·intro k hk
    refine hf k ?_
    rw[size_toArray,GI _ _ _ (by rw[show cur.toList.length=cur.size from Array.length_toList];omega),Array.length_toList]at hk
    exact hk
   ·rw[size_toArray,GI _ _ _ (by rw[show cur.toList.length=cur.size from Array.length_toList];omega),Array.length_toList];exact hcs
   ·rw[<- hlen]
    have:=Us news (0+n*i.size) cur.toList (by rw[show cur.toList.length=cur.size from Array.length_toList];omega)
    rw[show(xs++news).length=0+n*i.size+news.length by rw[hlen,Nat.add_mul,hx.newsLen];omega]
    simp only[List.toList_toArray]
    rw[this,Nat.zero_add,htake]
  ·refine grow ?_ (by omega)
   refine run_firstCells_some _ _ _ _ _ _ xs hown.1 fun j v hj=>?_
   obtain⟨ad,had,hcell⟩:=hown.cells j v hj
   cases had
   simpa using hcell
structure KeyT(K:Type)[DecidableEq K]where
 kd:TypeDesc
 enc:K->Value
 same:∀a b,Instr.sameNow kd (enc a) (enc b)=some (decide (a=b))
 bits:∀a,Instr.sameBits 10000 (enc a) (enc a)=true
 plain:∀P t empty w,P.underlying t=some kd->∀a,(Instr.checkKey empty (9999+1) t (enc a)).run P w=.ok () w
theorem Tu{P:Program}{t:TypeId}{D:TypeDesc}(h:P.underlying t=some D)(hd:(∃k,D=.int k)\/D=.string)(empty:Bool)(d:Nat)(w:World)(v:Value):(Instr.checkKey empty (d+1) t v).run P w=.ok () w:=by
 rcases hd with⟨k,rfl⟩|rfl<;>simp only[Instr.checkKey,Sem.run_bind,Am h,Result.andThen_ok,Sem.run_pure]
def ET(k:IntKind):KeyT Int where
 kd:=.int k
 enc:=.int k
 same:=fun a b=>by simp only[Instr.sameNow,if_true];rfl
 bits:=fun a=>by simp[Instr.sameBits]
 plain:=fun P t empty w h a=>Tu h (.inl ⟨k,rfl⟩) empty 9999 w _
theorem UN(a b:ByteArray):(a==b)=decide (a=b):=by
 obtain⟨a⟩:=a
 obtain⟨b⟩:=b
 rw[Bool.eq_iff_iff,decide_eq_true_iff,ByteArray.mk.injEq]
 show(a==b)=true↔a=b
 exact beq_iff_eq
def Le:KeyT ByteArray where
 kd:=.string
 enc:=.string
 same:=fun a b=>by simp only[Instr.sameNow,UN]
 bits:=fun a=>by simp[Instr.sameBits,UN]
 plain:=fun P t empty w h a=>Tu h (.inr rfl) empty 9999 w _
section
variable{K:Type}[DecidableEq K](kt:KeyT K)
def aget(l:List (K×Value))(k:K):Option Value:=match l with
 | []=>none
 |(x,v)::r=>if k=x then some v else aget r k
def aput(l:List (K×Value))(k:K)(v:Value):List (K×Value):=match l with
 | []=>[(k,v)]
 |(x,u)::r=>if k=x then(x,v)::r else(x,u)::aput r k v
def adel(l:List (K×Value))(k:K):List (K×Value):=match l with
 | []=>[]
 |(x,u)::r=>if k=x then r else(x,u)::adel r k
def Reads(es:List MapEntry)(al:List (K×Value)):Prop:=es.map (fun e=>(e.key,e.val))=al.map fun p=>(kt.enc p.1,p.2)
def MapAt(w:World)(b:Nat)(al:List (K×Value)):Prop:=
 ∃es clock,w.heap[b]? =some (.map es clock)/\Reads kt es.toList al/\(es.toList.map (·.born)).Nodup/\∀e∈es.toList,e.born<clock
variable{kt}
theorem MapAt.chg{w w':World}{b:Nat}{al:List (K×Value)}{S:List Nat}(h:MapAt kt w b al)(hc:Chg S w w')(hs:b∉S):MapAt kt w' b al:=by
 obtain⟨es,clock,h1,h2⟩:=h
 exact⟨es,clock,hc.block h1 hs,h2⟩
theorem MapAt.lt{w:World}{b:Nat}{al:List (K×Value)}(h:MapAt kt w b al):b<w.heap.size:=by
 obtain⟨es,clock,h1,h2⟩:=h
 exact(Array.getElem?_eq_some_iff.1 h1).1
theorem MapAt.new{w w1:World}{b:Nat}(h:New w (.map #[] 0) b w1):MapAt kt w1 b []:=⟨#[],0,h.blk,rfl,by simp,by simp⟩
theorem Jv:∀{es:List MapEntry}{al:List (K×Value)}(i:Nat)(k:K),Reads kt es al->
  (aget al k=none/\Instr.findNow kt.kd (kt.enc k) es i=some none)\/
  ∃j v e,aget al k=some v/\Instr.findNow kt.kd (kt.enc k) es i=some (some (i+j,v))/\es[j]? =some e/\e.key=kt.enc k/\e.val=v/\
   (∀v',Reads kt (es.modify j fun e=> {e with key:=kt.enc k,val:=v'}) (aput al k v'))/\Reads kt (es.eraseIdx j) (adel al k)
 | [],al,i,k,h=>by
  have:al=[]:=by cases al with
   |nil=>rfl
   |cons p r=>simp[Reads]at h
  subst this
  exact .inl ⟨rfl,rfl⟩
 |e::es,al,i,k,h=>by
  cases al with
  |nil=>simp[Reads]at h
  |cons p al=>
   obtain⟨x,u⟩:=p
   simp only[Reads,map_cons,List.cons.injEq,Prod.mk.injEq]at h
   obtain⟨⟨hk,hv⟩,h⟩:=h
   simp only[Instr.findNow,hk,kt.same,aget,aput,adel]
   by_cases hkx:k=x
   ·subst hkx
    right
    refine⟨0,u,e,by simp,by simp[hv],by simp,hk,hv,fun v'=>?_,?_⟩
    ·simp only[if_true,Reads,List.modify_zero_cons,map_cons,hk]
     rw[h]
    ·simp only[if_true,List.eraseIdx_cons_zero,Reads];exact h
   ·simp only[hkx,decide_false,if_false]
    rcases Jv (i+1) k h with⟨h1,h2⟩|⟨j,v,e',h1,h2,h3,h4,h5,h6,h7⟩
    ·exact .inl ⟨h1,h2⟩
    ·right
     refine⟨j+1,v,e',h1,by rw[h2];congr 3;omega,by simpa using h3,h4,h5,fun v'=>?_,?_⟩
     ·have:=h6 v'
      simp only[Reads,List.modify_succ_cons,map_cons,hk,hv]at this⊢
      rw[this]
     ·simp only[Reads,List.eraseIdx_cons_succ,map_cons,hk,hv]at h7⊢
      rw[h7]
theorem Rz{es:List MapEntry}{al:List (K×Value)}(h:Reads kt es al){k:K}(hn:aget al k=none)(v:Value)(c:Nat):Reads kt (es++[{key:=kt.enc k,val:=v,born:=c}]) (aput al k v):=by
 have:∀(al:List (K×Value)),aget al k=none->aput al k v=al++[(k,v)]:=by
  intro al
  induction al with
  |nil=>intro _;rfl
  |cons p r ih=>
   obtain⟨x,u⟩:=p
   intro hn
   simp only[aget]at hn
   split at hn
   ·cases hn
   ·rename_i hne
    simp only[aput,if_neg hne,ih hn,List.cons_append]
 rw[this al hn]
 simp only[Reads,List.map_append,map_cons,List.map_nil]at h⊢
 rw[h]
theorem run_findKey{P:Program}{w:World}{t:TypeId}{es:List MapEntry}{al:List (K×Value)}{k:K}{r:Option (Nat×Value)}(hu:P.underlying t=some kt.kd)(h:Instr.findNow kt.kd (kt.enc k) es 0=some r):
  (Instr.findKey t (kt.enc k) es).run P w=.ok r w:=by
 simp only[Instr.findKey,Sem.run_bind,Am hu,Result.andThen_ok,h,Sem.run_pure]
theorem run_getObj_map{P:Program}{w:World}{b:Nat}{es:Array MapEntry}{c:Nat}(h:w.heap[b]? =some (.map es c)):(getObj b).run P w=.ok (.map es c) w:=by
 simp only[getObj,Sem.run,h]
theorem run_setObj_map{P:Program}{w:World}{b:Nat}{es:Array MapEntry}{c:Nat}(h:w.heap[b]? =some (.map es c))(o:Obj):(setObj b o).run P w=.ok () (setB w b o):=by
 simp only[setObj,Sem.run,h];rfl
structure MapT(P:Program)(kt:KeyT K)(t kT eT:TypeId)(z:Value):Prop where
 und:P.underlying t=some (.map kT eT)
 key:P.underlying kT=some kt.kd
 zero:zeroOf P eT=some z
theorem Vu{P:Program}{t kT eT:TypeId}{z:Value}(T:MapT P kt t kT eT z){w:World}{b:Nat}{al:List (K×Value)}(h:MapAt kt w b al)(k:K):
  Lk P t false w (.map (some b)) (kt.enc k) ((aget al k).getD z)/\Lk P t true w (.map (some b)) (kt.enc k) (.tuple #[(aget al k).getD z,.bool (aget al k).isSome]):=by
 obtain⟨es,clock,h1,h2,h3⟩:=h
 have hck:∀e,(Instr.checkKey e 10000 kT (kt.enc k)).run P w=.ok () w:=fun e=>kt.plain P kT e w T.key k
 rcases Jv 0 k h2 with⟨g1,g2⟩|⟨j,v,e,g1,g2,-⟩
 ·simp only[Lk,Instr.lookup,Sem.run_bind,Am T.und,Result.andThen_ok,run_getObj_map h1,Sem.run_pure,hck,run_findKey T.key g2 (al:=al),Sem.run_map,He T.zero,g1]
  constructor<;>rfl
 ·simp only[Lk,Instr.lookup,Sem.run_bind,Am T.und,Result.andThen_ok,run_getObj_map h1,Sem.run_pure,hck,run_findKey T.key g2 (al:=al),g1]
  constructor<;>rfl
theorem FH{es:List MapEntry}{j:Nat}{k v:Value}:(es.modify j fun e=> {e with key:=k,val:=v}).map (·.born)=es.map (·.born):=by
 apply ext_getElem?
 intro i
 simp only[List.getElem?_map,List.getElem?_modify]
 cases es[i]? with
 |none=>rfl
 |some e=>simp only[Option.map_some,Functor.map];split<;>rfl
theorem Y3{P:Program}{t kT eT:TypeId}{z:Value}(T:MapT P kt t kT eT z){w:World}{b:Nat}{al:List (K×Value)}(h:MapAt kt w b al)(k:K)(v:Value):
  ∃w1,MUp P t w (.map (some b)) (kt.enc k) v w1/\MapAt kt w1 b (aput al k v)/\Chg [b] w w1:=by
 obtain⟨es,clock,h1,h2,h3,h4⟩:=h
 have hck:∀e,(Instr.checkKey e 10000 kT (kt.enc k)).run P w=.ok () w:=fun e=>kt.plain P kT e w T.key k
 have hlt:=(Array.getElem?_eq_some_iff.1 h1).1
 rcases Jv 0 k h2 with⟨g1,g2⟩|⟨j,u,e,g1,g2,g3,g4,g5,g6,-⟩
 ·refine⟨setB w b (.map (es.push {key:=kt.enc k,val:=v,born:=clock}) (clock+1)),?_,⟨_,_,Dl hlt,?_,?_,?_⟩,DI _ _ _⟩
  ·simp only[MUp,Instr.mapUpdate,Sem.run_bind,Am T.und,Result.andThen_ok,run_getObj_map h1,hck,run_findKey T.key g2 (al:=al),run_setObj_map h1]
  ·rw[Array.toList_push];exact Rz h2 g1 v clock
  ·rw[Array.toList_push,List.map_append,List.nodup_append]
   refine⟨h3,by simp,?_⟩
   intro a ha c hc
   simp at hc;subst hc
   obtain⟨e,he,rfl⟩:=mem_map.1 ha
   exact Nat.ne_of_lt (h4 e he)
  ·intro e he
   rw[Array.toList_push]at he
   rcases mem_append.1 he with he|he
   ·exact Nat.lt_succ_of_lt (h4 e he)
   ·simp at he;subst he;exact Nat.lt_succ_self _
 ·have hj:es[j]? =some e:=by simpa using g3
  refine⟨setB w b (.map (es.modify j fun e=> {e with key:=kt.enc k,val:=v}) clock),?_,⟨_,_,Dl hlt,?_,?_,?_⟩,DI _ _ _⟩
  ·rw[Nat.zero_add]at g2
   have hstay:(Instr.keyThatStays (kt.enc k) (kt.enc k)).run P w=.ok (kt.enc k) w:=by
    simp[Instr.keyThatStays,kt.bits]
   simp only[MUp,Instr.mapUpdate,Sem.run_bind,Am T.und,Result.andThen_ok,run_getObj_map h1,hck,run_findKey T.key g2 (al:=al),hj,Option.map_some,Option.getD_some,g4,hstay,run_setObj_map h1]
  ·rw[Array.toList_modify];exact g6 v
  ·rw[Array.toList_modify,FH];exact h3
  ·intro e' he'
   have:e'.born∈(es.modify j fun e=> {e with key:=kt.enc k,val:=v}).toList.map (·.born):=mem_map.2 ⟨e',he',rfl⟩
   rw[Array.toList_modify,FH]at this
   obtain⟨e2,he2,e3⟩:=mem_map.1 this
   rw[<- e3];exact h4 e2 he2
theorem L8(es:Array MapEntry)(j:Nat):(es.eraseIdxIfInBounds j).toList=es.toList.eraseIdx j:=by
 rw[Array.eraseIdxIfInBounds]
 split
 ·simp
 ·rw[List.eraseIdx_of_length_le (by simpa using(by omega:es.size<=j))]
theorem del_map{P:Program}{ts:Array TypeId}{ty t kT eT:TypeId}{z:Value}(T:MapT P kt t kT eT z)(hts:ts[0]? =some t){w:World}{b:Nat}{al:List (K×Value)}(h:MapAt kt w b al)(k:K):
  ∃w1,Del P ts ty w (.map (some b)) (kt.enc k) w1/\MapAt kt w1 b (adel al k)/\Chg [b] w w1:=by
 obtain⟨es,clock,h1,h2,h3,h4⟩:=h
 have hck:∀e,(Instr.checkKey e 10000 kT (kt.enc k)).run P w=.ok () w:=fun e=>kt.plain P kT e w T.key k
 have hlt:=(Array.getElem?_eq_some_iff.1 h1).1
 rcases Jv 0 k h2 with⟨g1,g2⟩|⟨j,u,e,g1,g2,g3,g4,g5,-,g7⟩
 ·have hsame:∀(al:List (K×Value)),aget al k=none->adel al k=al:=by
   intro al
   induction al with
   |nil=>intro _;rfl
   |cons p r ih=>
    obtain⟨x,u⟩:=p
    intro hn
    simp only[aget]at hn
    split at hn
    ·cases hn
    ·rename_i hne
     simp only[adel,if_neg hne,ih hn]
  refine⟨setB w b (.map es clock),?_,⟨_,_,Dl hlt,by rw[hsame al g1];exact h2,h3,h4⟩,DI _ _ _⟩
  simp only[Del,Builtin.delete_,hts,List.getElem?_toArray,List.getElem?_cons_zero,List.getElem?_cons_succ,Sem.run_bind,Am T.und,Result.andThen_ok,run_getObj_map h1,hck,run_findKey T.key g2 (al:=al),run_setObj_map h1,Sem.run_pure]
 ·refine⟨setB w b (.map (es.eraseIdxIfInBounds j) clock),?_,⟨_,_,Dl hlt,?_,?_,?_⟩,DI _ _ _⟩
  ·rw[Nat.zero_add]at g2
   simp only[Del,Builtin.delete_,hts,List.getElem?_toArray,List.getElem?_cons_zero,List.getElem?_cons_succ,Sem.run_bind,Am T.und,Result.andThen_ok,run_getObj_map h1,hck,run_findKey T.key g2 (al:=al),run_setObj_map h1,Sem.run_pure]
  ·rw[L8];exact g7
  ·rw[L8];exact h3.sublist ((List.eraseIdx_sublist ..).map _)
  ·intro e' he'
   rw[L8]at he'
   exact h4 e' ((List.eraseIdx_sublist ..).subset he')
end
inductive Asn where
 |blk (b:Nat) (cs:List Value) (T:TypeId)
 |own (e:TypeId) (sz:Nat) (a:Option Addr) (n c:Nat) (xs:List Value)
 |imap (b:Nat) (k:IntKind) (al:List (Int×Value))
 |smap (b:Nat) (al:List (ByteArray×Value))
 |any (foot:List Nat) (p:World->Prop)
def Asn.foot:Asn->List Nat
 |.blk b _ _=>[b]
 |.own _ _ a _ _ _=>blks a
 |.imap b _ _=>[b]
 |.smap b _=>[b]
 |.any f _=>f
def Asn.ok:Asn->World->Prop
 |.blk b cs T,w=>Blk w b cs T
 |.own e sz a n c xs,w=>Own w 0 e sz a n c xs
 |.imap b k al,w=>MapAt (ET k) w b al
 |.smap b al,w=>MapAt Le w b al
 |.any f p,w=>(∀k∈f,k<w.heap.size)/\∀w',(∀k∈f,w'.heap[k]? =w.heap[k]?)->p w'
theorem Asn.Y8{a:Asn}{w:World}(h:a.ok w):∀k∈a.foot,k<w.heap.size:=by
 intro k hk
 cases a with
 |blk b cs T=>simp only[Asn.foot,mem_singleton]at hk;subst hk;exact Blk.lt h
 |own e sz a n c xs=>exact(Own.mem (show Own w 0 e sz a n c xs from h) k hk).2
 |imap b kd al=>simp only[Asn.foot,mem_singleton]at hk;subst hk;exact MapAt.lt h
 |smap b al=>simp only[Asn.foot,mem_singleton]at hk;subst hk;exact MapAt.lt h
 |any f p=>exact h.1 k hk
theorem lt_of_eq{w w':World}{k:Nat}(h:k<w.heap.size)(e:w'.heap[k]? =w.heap[k]?):k<w'.heap.size:=by
 rw[Array.getElem?_eq_getElem h]at e
 exact(Array.getElem?_eq_some_iff.1 e).1
theorem Asn.aC{a:Asn}{w w':World}(h:a.ok w)(e:∀k∈a.foot,w'.heap[k]? =w.heap[k]?):a.ok w':=by
 cases a with
 |blk b cs T=>exact(e b (by simp[Asn.foot])).trans h
 |own el sz a n c xs=>
  refine⟨h.1,?_⟩
  rcases h.2 with hn|⟨g,cur,fz,rfl,hb,hg,rest⟩
  ·exact .inl hn
  ·exact .inr ⟨g,cur,fz,rfl,hb,(e g (by simp[Asn.foot,blks])).trans hg,rest⟩
 |imap b kd al=>
  obtain⟨es,clock,h1,h2⟩:=h
  exact⟨es,clock,(e b (by simp[Asn.foot])).trans h1,h2⟩
 |smap b al=>
  obtain⟨es,clock,h1,h2⟩:=h
  exact⟨es,clock,(e b (by simp[Asn.foot])).trans h1,h2⟩
 |any f p=>exact⟨fun k hk=>lt_of_eq (h.1 k hk) (e k hk),fun w2 h2=>h.2 w2 fun k hk=>(h2 k hk).trans (e k hk)⟩
structure Hp(B:List Nat)(w0 w:World)(L:List Asn):Prop where
 chg:Chg B w0 w
 ok:∀a∈L,a.ok w
 own:∀a∈L,∀k∈a.foot,k∈B\/w0.heap.size<=k
 sep:L.Pairwise fun a b=>∀k∈a.foot,k∉b.foot
theorem Hp.start(w:World):Hp [] w w []:=⟨Chg.refl _ _,by simp,by simp,.nil⟩
theorem Hp.JF{w:World}{a:Asn}(h:a.ok w):Hp a.foot w w [a]:=⟨Chg.refl _ _,by simpa using h,by simp;intro k hk;exact .inl hk,by simp⟩
section
variable{B S:List Nat}{w0 w w':World}{L L1 L2 M:List Asn}{a a' x y z u v p q:Asn}
theorem Hp.use(H:Hp B w0 w (L1++L2))(H':Hp S w w' M)(hS:∀k∈S,∃a∈L1,k∈a.foot):Hp B w0 w' (M++L2):=by
 have hB:∀k∈S,k∈B\/w0.heap.size<=k:=fun k hk=>by
  obtain⟨a,ha,hf⟩:=hS k hk
  exact H.own a (List.mem_append_left _ ha) k hf
 have hsep:=List.pairwise_append.1 H.sep
 have hnS:∀b∈L2,∀k∈b.foot,k∉S:=fun b hb k hk hs=>by
  obtain⟨a,ha,hf⟩:=hS k hs
  exact hsep.2.2 a ha b hb k hf hk
 refine⟨H.chg.trans H'.chg (fun k hk=>hk) hB,?_,?_,?_⟩
 ·intro b hb
  rcases mem_append.1 hb with hb|hb
  ·exact H'.ok b hb
  ·have hok:=H.ok b (List.mem_append_right _ hb)
   exact Asn.aC hok fun k hk=>H'.chg.2.2.2.2 k (Asn.Y8 hok k hk) (hnS b hb k hk)
 ·intro b hb k hk
  rcases mem_append.1 hb with hb|hb
  ·rcases H'.own b hb k hk with h|h
   ·exact hB k h
   ·exact .inr (Nat.le_trans H.chg.size h)
  ·exact H.own b (List.mem_append_right _ hb) k hk
 ·refine List.pairwise_append.2 ⟨H'.sep,hsep.2.1,fun b hb d hd k hk hkd=>?_⟩
  rcases H'.own b hb k hk with h|h
  ·exact hnS d hd k hkd h
  ·have:=Asn.Y8 (H.ok d (List.mem_append_right _ hd)) k hkd
   omega
theorem Hp.ext(H:Hp B w0 w L)(H':Hp [] w w' M):Hp B w0 w' (M++L):=Hp.use (L1:=[]) H H' (by simp)
theorem Hp.ext0(H:Hp B w0 w L)(H':Hp [] w w' []):Hp B w0 w' L:=Hp.use (L1:=[]) H H' (by simp)
theorem Hp.ext1(H:Hp B w0 w L)(H':Hp [] w w' [x]):Hp B w0 w' (x::L):=Hp.use (L1:=[]) H H' (by simp)
theorem Hp.use1(H:Hp B w0 w (a::L))(H':Hp a.foot w w' M):Hp B w0 w' (M++L):=Hp.use (L1:=[a]) H H' (by simp)
theorem Hp.FO(H:Hp B w0 w (a::L))(H':Hp a.foot w w' [x]):Hp B w0 w' (x::L):=Hp.use (L1:=[a]) H H' (by simp)
theorem Hp.chg0(H:Hp B w0 w L)(h:Chg [] w w'):Hp B w0 w' L:=H.ext0 ⟨h,by simp,by simp,.nil⟩
theorem Hp.set(H:Hp B w0 w (a::L))(h:Chg a.foot w w')(hok:a'.ok w')(hf:∀k∈a'.foot,k∈a.foot\/w.heap.size<=k):Hp B w0 w' (a'::L):=
 H.FO ⟨h,by simpa using hok,by simpa using hf,by simp⟩
theorem Hp.add(H:Hp B w0 w L)(h:Chg [] w w')(hok:a'.ok w')(hf:∀k∈a'.foot,w.heap.size<=k):Hp B w0 w' (a'::L):=
 H.ext1 ⟨h,by simpa using hok,by simp;intro k hk;exact hf k hk,by simp⟩
theorem Hp.perm(H:Hp B w0 w L)(h:L.Perm M):Hp B w0 w M:=
 ⟨H.chg,fun a ha=>H.ok a (h.mem_iff.2 ha),fun a ha=>H.own a (h.mem_iff.2 ha),(h.pairwise_iff (fun h1 k hk hk'=>h1 k hk' hk)).1 H.sep⟩
theorem Hp.drop(H:Hp B w0 w (a::L)):Hp B w0 w L:=⟨H.chg,fun b hb=>H.ok b (.tail _ hb),fun b hb=>H.own b (.tail _ hb),(pairwise_cons.1 H.sep).2⟩
theorem Hp.drop1(H:Hp B w0 w (x::a::L)):Hp B w0 w (x::L):=(H.perm (.swap a x L)).drop
theorem Hp.done(H:Hp B w0 w L):Hp B w0 w []:=⟨H.chg,by simp,by simp,.nil⟩
theorem Hp.JW(H:Hp B w0 w (x::L)):Hp B w0 w [x]:=⟨H.chg,fun b hb=>H.ok b (by simp at hb;simp[hb]),fun b hb=>H.own b (by simp at hb;simp[hb]),by simp⟩
theorem Hp.Aq(H:Hp B w0 w (x::a::L)):Hp B w0 w (a::x::L):=H.perm (.swap a x L)
theorem Hp.BF(H:Hp B w0 w (x::y::a::L)):Hp B w0 w (a::x::y::L):=H.perm (((List.Perm.swap a y L).cons x).trans (.swap a x _))
theorem DY(L1:List Asn)(a:Asn)(L:List Asn):(L1++a::L).Perm (a::(L1++L)):=List.perm_middle
theorem Hp.BM(H:Hp B w0 w (x::y::z::a::L)):Hp B w0 w (a::x::y::z::L):=H.perm (DY [x,y,z] a L)
theorem Hp.Bc(H:Hp B w0 w (x::y::z::u::a::L)):Hp B w0 w (a::x::y::z::u::L):=H.perm (DY [x,y,z,u] a L)
theorem Hp.Bh(H:Hp B w0 w (x::y::z::u::v::a::L)):Hp B w0 w (a::x::y::z::u::v::L):=H.perm (DY [x,y,z,u,v] a L)
theorem Hp.Bj(H:Hp B w0 w (x::y::z::u::v::p::a::L)):Hp B w0 w (a::x::y::z::u::v::p::L):=H.perm (DY [x,y,z,u,v,p] a L)
theorem Hp.del1(H:Hp B w0 w (x::a::L)):Hp B w0 w (x::L):=(H.Aq).drop
theorem Hp.del2(H:Hp B w0 w (x::y::a::L)):Hp B w0 w (x::y::L):=(H.BF).drop
theorem Hp.del4(H:Hp B w0 w (x::y::z::u::a::L)):Hp B w0 w (x::y::z::u::L):=(H.Bc).drop
end
structure Eqw(w w':World):Prop where
 heap:w'.heap=w.heap
 os:w'.os=w.os
 tape:w'.tape=w.tape
 output:w'.output=w.output
theorem EQ4{w w':World}(a:w'.heap=w.heap:=by exact rfl)(b:w'.os=w.os:=by exact rfl)(c:w'.tape=w.tape:=by exact rfl)(d:w'.output=w.output:=by exact rfl):Eqw w w':=⟨a,b,c,d⟩
theorem Eqw.chg{w w':World}(e:Eqw w w'):Chg [] w w':=⟨e.os,e.tape,e.output,by rw[e.heap];exact Nat.le_refl _,fun k _ _=>by rw[e.heap]⟩
theorem Hp.go{B:List Nat}{w0 w w':World}{L:List Asn}(H:Hp B w0 w L)(e:Eqw w w'):Hp B w0 w' L:=H.chg0 e.chg
theorem Hp.drew{B:List Nat}{w0 w:World}{L:List Asn}(H:Hp B w0 w L):Hp B w0 w.drew L:=H.go ⟨rfl,rfl,rfl,rfl⟩
structure Scl(P:Program)(t:TypeId):Prop where
 agg:aggB P t=some false
 size:ER P t=some 1
structure Agg(P:Program)(t:TypeId)(n:Nat):Prop where
 agg:aggB P t=some true
 size:ER P t=some n
def sclB(P:Program)(t:TypeId):Bool:=match aggB P t,ER P t with
 |some false,some 1=>true
 |_,_=>false
def sagB(P:Program)(t n:Nat):Bool:=match aggB P t,ER P t with
 |some true,some m=>Nat.beq m n
 |_,_=>false
theorem BP{P:Program}{t:TypeId}(h:sclB P t=true):Scl P t:=by
 unfold sclB at h
 split at h
 ·exact⟨by assumption,by assumption⟩
 ·cases h
theorem IK{P:Program}{t n:Nat}(h:sagB P t n=true):Agg P t n:=by
 unfold sagB at h
 split at h
 ·rename_i h1 h2
  have:=Nat.eq_of_beq_eq_true h;subst this
  exact⟨h1,h2⟩
 ·cases h
section
variable{P:Program}{B:List Nat}{w0 w w':World}{L:List Asn}{b o n:Nat}{cs:List Value}{T t:TypeId}
theorem Hp.new(H:Hp B w0 w L)(e:Eqw w w'){w1:World}(h:New w' (.cells cs.toArray T) b w1):Hp B w0 w1 (.blk b cs T::L):=
 (H.go e).add h.chg h.cells (by simp[Asn.foot];exact h.num▸Nat.le_refl _)
theorem Hp.newI(H:Hp B w0 w L)(e:Eqw w w'){w1:World}(k:IntKind)(h:New w' (.map #[] 0) b w1):Hp B w0 w1 (.imap b k []::L):=
 (H.go e).add h.chg (MapAt.new h) (by simp[Asn.foot];exact h.num▸Nat.le_refl _)
theorem Hp.newS(H:Hp B w0 w L)(e:Eqw w w'){w1:World}(h:New w' (.map #[] 0) b w1):Hp B w0 w1 (.smap b []::L):=
 (H.go e).add h.chg (MapAt.new h) (by simp[Asn.foot];exact h.num▸Nat.le_refl _)
theorem Hp.blk(H:Hp B w0 w L)(m:Asn.blk b cs T∈L):Blk w b cs T:=H.ok _ m
theorem Hp.ownA{e:TypeId}{sz:Nat}{a:Option Addr}{n c:Nat}{xs:List Value}(H:Hp B w0 w L)(m:Asn.own e sz a n c xs∈L):Own w 0 e sz a n c xs:=H.ok _ m
theorem Hp.ld(H:Hp B w0 w L)(e:Eqw w w')(S:Scl P t)(m:Asn.blk b cs T∈L){v:Value}(hv:cs[o]? =some v):Ld P t w' ⟨b,o,none⟩ v:=
 Blk.ld ((H.go e).blk m) S.agg hv
theorem Hp.ldA(H:Hp B w0 w L)(e:Eqw w w')(S:Agg P t n)(m:Asn.blk b cs T∈L){vs:List Value}(hv:(cs.drop o).take n=vs)(hl:vs.length=n):Ld P t w' ⟨b,o,none⟩ (.agg vs.toArray):=by
 subst hl
 exact Blk.ldA ((H.go e).blk m) S.agg S.size hv
theorem Hp.st(H:Hp B w0 w (.blk b cs T::L))(e:Eqw w w')(S:Scl P t){v:Value}{G:World->Prop}(hv:v.cells= #[v])(h1:v.oneCell'=true)(ho:o<cs.length){cs':List Value}(hc:cs.set o v=cs')
  (k:∀w1,Hp B w0 w1 (.blk b cs' T::L)->G w1):∃w1,St P t w' ⟨b,o,none⟩ v w1/\G w1:=by
 obtain⟨w1,h1,h2,h3⟩:=Blk.st (P:=P) (t:=t) ((H.go e).blk (.head _)) (o:=o) (v:=v) (by rw[hv];exact S.size) (by rw[hv];simpa using h1) (by rw[hv];exact ho)
 refine⟨w1,h1,k w1 ((H.go e).set h3 ?_ (fun k hk=>.inl hk))⟩
 rw[hv]at h2
 rw[<- hc]
 have e2:over #[v].toList o cs=cs.set o v:=by
  rw[show #[v].toList=[v]from rfl,Fh v [] o cs ho,Dc]
 rw[e2]at h2;exact h2
theorem Hp.stA(H:Hp B w0 w (.blk b cs T::L))(e:Eqw w w')(S:Agg P t n){vs:List Value}{G:World->Prop}(hn:vs.length=n)(h1:vs.all (·.oneCell')=true)(ho:o+n<=cs.length){cs':List Value}(hc:over vs o cs=cs')
  (k:∀w1,Hp B w0 w1 (.blk b cs' T::L)->G w1):∃w1,St P t w' ⟨b,o,none⟩ (.agg vs.toArray) w1/\G w1:=by
 subst hn
 obtain⟨w1,h1,h2,h3⟩:=Blk.st (P:=P) (t:=t) ((H.go e).blk (.head _)) (o:=o) (v:=.agg vs.toArray) (by simpa [Value.cells]using S.size) (by simpa [Value.cells]using h1) (by simpa [Value.cells]using ho)
 refine⟨w1,h1,k w1 ((H.go e).set h3 ?_ (fun k hk=>.inl hk))⟩
 rw[<- hc];exact h2
variable{tx ty e:TypeId}{sz by_:Nat}{a:Option Addr}{c m:Nat}{xs news:List Value}{x:Value}{G:Option Addr->Nat->Nat->World->Prop}
theorem Hp.app(T:Elt P t e sz by_)(hsz:0<sz)(H:Hp B w0 w (.own e sz a n c xs::L))(eq:Eqw w w')(hx:Src P sz tx x m news w')(h63:n+m<=maxLen)(hby:(n+m)*by_<=140737488355328)
  (k:∀a' c' w1,Hp B w0 w1 (.own e sz a' (n+m) c' (xs++news)::L)->G a' (n+m) c' w1):
  ∃a' n' c' w1,App P #[t,tx] ty w' (.slice a n c) x (.slice a' n' c') w1/\G a' n' c' w1:=by
 have hown:Own w' 0 e sz a n c xs:=(H.go eq).ok _ (.head _)
 obtain⟨a',c',w1,h1,h2,h3,h4⟩:=app_own (P:=P) (ty:=ty) T hsz hown hx h63 hby (Nat.zero_le _)
 exact⟨a',_,c',w1,h1,k a' c' w1 ((H.go eq).set h3 h2 h4)⟩
end
theorem Blk.src{P:Program}{w:World}{b:Nat}{cs:List Value}{T tx e':TypeId}{sz n c:Nat}(hk:P.underlying tx=some (.slice e'))(h:Blk w b cs T)(hl:cs.length=n*sz)(h1:cs.all (·.oneCell')=true):Src P sz tx (.slice (some ⟨b,0,none⟩) n c) n cs w:=
 Src.ofSlice w hk ⟨b,0,none⟩ n c cs hl (fun j u hj=>by rw[add_lit];exact h.cell (by simpa using hj)) (fun u hu=>all_eq_true.1 h1 u hu)
theorem Cells.src{P:Program}{w:World}{a:Option Addr}{cs:List Value}{tx e':TypeId}{sz n c:Nat}(hk:P.underlying tx=some (.slice e'))(h:Cells w a cs)(hl:cs.length=n*sz)(h1:∀u∈cs,u.oneCell'=true)(h0:a=none->n=0):Src P sz tx (.slice a n c) n cs w:=by
 cases a with
 |none=>
  have:=h0 rfl;subst this
  have:cs=[]:=List.eq_nil_of_length_eq_zero (by simpa using hl)
  subst this
  exact Src.ofNil w hk c
 |some ad=>exact Src.ofSlice w hk ad n c cs hl (fun j u hj=>by obtain⟨ad',e1,e2⟩:=h j u hj;cases e1;exact e2) h1
section
variable{P:Program}{B:List Nat}{w0 w w':World}{L:List Asn}
theorem Hp.s2b{src dst e:TypeId}{s:ByteArray}(H:Hp B w0 w L)(eq:Eqw w w')(hs:P.underlying src=some .string)(hd:P.underlying dst=some (.slice e))(he:P.underlying e=some (.int .u8))(hl:s.size<=maxLen)
  {G:Option Addr->Nat->Nat->World->Prop} (k:∀a c w1,Hp B w0 w1 (.own e 1 a s.size c (byteCells s)::L)->G a s.size c w1):
  ∃a n c w1,S2B P src dst w' (.string s) (.slice a n c) w1/\G a n c w1:=by
 refine⟨_,_,_,_,run_bytes_of_string w' src dst e s hs hd he,k _ _ _ ((H.go eq).add ?_ ?_ ?_)⟩
 ·exact⟨rfl,rfl,rfl,by simp,fun k hk _=>alloc_old w'.drew _ k hk⟩
 ·refine⟨by rw[byteCells_length,Nat.mul_one],.inr ⟨_,_,_,rfl,Nat.zero_le _,Gm w'.drew _,Thaw.behind _ _,grownCap_ge _ _ _ _,grownCap_le_maxLen _ _ _ _ hl,?_,?_⟩⟩
  ·have:=grownCap_ge w' s.size 0 e
   simp only[bytesRow,Array.size_append,Array.size_map,Array.size_replicate,Nat.mul_one]
   have e2:s.data.size=s.size:=rfl
   omega
  ·have e2:(byteCells s).length=s.size:=byteCells_length s
   rw[Nat.mul_one,bytesRow,Array.toList_append,Array.toList_map,<- e2]
   exact List.take_left' rfl
 ·intro k hk;simp[Asn.foot,blks]at hk;subst hk;exact Nat.le_refl _
theorem b2s{src dst e:TypeId}{a:Option Addr}{n c:Nat}{s:ByteArray}(hs:P.underlying src=some (.slice e))(he:P.underlying e=some (.int .u8))(hd:P.underlying dst=some .string)(hc:Cells w a (byteCells s))(hn:n=s.size):
  B2S P src dst w (.slice a n c) (.string s):=by
 subst hn
 cases a with
 |none=>
  have:byteCells s=[]:=by
   cases h:byteCells s with
   |nil=>rfl
   |cons v r=>obtain⟨ad,e1,_⟩:=hc 0 v (by rw[h];rfl);cases e1
  have h0:s=ByteArray.empty:=by
   have h1:s.data.toList=[]:=by simpa [byteCells]using this
   obtain⟨d⟩:=s
   have:d= #[]:=by apply Array.ext';simpa using h1
   subst this;rfl
  subst h0
  exact run_convert_bytes_nil w src e hs he _ _ dst hd
 |some ad=>
  have:=run_convert_bytes_back w src dst e ad c s.data.toList hs he hd (fun j hj=>by
   have h1:(byteCells s)[j]? =some (.int .u8 (s.data.toList[j].toNat:Int)):=by
    simp[byteCells,List.getElem?_map,List.getElem?_eq_getElem hj]
   obtain⟨ad',e1,e2⟩:=hc j _ h1
   cases e1;exact e2)
  rw[show(s.data.toList.toArray)=s.data by simp]at this
  simpa [B2S,Array.length_toList]using this
theorem Hp.mkS{t e:TypeId}{sz by_:Nat}{kl kc:IntKind}{n:Int}(T:Elt P t e sz by_)(H:Hp B w0 w L)(eq:Eqw w w')(h0:0<=n)(hl:n.toNat<=maxLen)(hby:(by_:Int)*n<=281474976710656){z:Value}(hz:zeroOf P e=some z)
  {G:Option Addr->Nat->Nat->World->Prop} (k:∀a w1,Hp B w0 w1 (.own e sz a n.toNat n.toNat (madeCells z.cells (n.toNat*sz)).toList::L)->G a n.toNat n.toNat w1):
  ∃a l c w1,MkS P t w' (.int kl n) (.int kc n) (.slice a l c) w1/\G a l c w1:=by
 obtain⟨hu,i,z',hi,hz',rfl,rfl,hzs⟩:=T
 have hzz:z'=z:=by
  simp only[zeroOf,hi,hz',Option.some.injEq]at hz;exact hz
 subst hzz
 refine⟨_,_,_,_,run_make w' t e i z' hu hi hz' kl kc n n h0 (Int.le_refl _) hby (by simp only[maxLen]at hl;omega),k _ _ ((H.go eq).add ?_ ?_ ?_)⟩
 ·exact⟨rfl,rfl,rfl,by simp,fun k hk _=>alloc_old w' _ k hk⟩
 ·refine⟨by rw[Array.length_toList,size_madeCells],.inr ⟨_,_,_,rfl,Nat.zero_le _,Gm w' _,Thaw.zero _,Nat.le_refl _,hl,Nat.le_of_eq (size_madeCells _ _).symm,?_⟩⟩
  rw[List.take_of_length_le]
  rw[Array.length_toList,size_madeCells];exact Nat.le_refl _
 ·intro k hk;simp[Asn.foot,blks]at hk;subst hk;exact Nat.le_refl _
end
section
variable{P:Program}{B:List Nat}{w0 w w':World}{L:List Asn}{t kT eT:TypeId}{z v:Value}{b:Nat}
theorem Hp.lkI{k:IntKind}{al:List (Int×Value)}(T:MapT P (ET k) t kT eT z)(H:Hp B w0 w L)(e:Eqw w w')(m:Asn.imap b k al∈L){x:Int}(hv:(aget al x).getD z=v):Lk P t false w' (.map (some b)) (.int k x) v:=by
 subst hv;exact(Vu T ((H.go e).ok _ m) x).1
theorem Hp.bD{k:IntKind}{al:List (Int×Value)}(T:MapT P (ET k) t kT eT z)(H:Hp B w0 w L)(e:Eqw w w')(m:Asn.imap b k al∈L){x:Int}{o:Bool}(hv:(aget al x).getD z=v)(ho:(aget al x).isSome=o):Lk P t true w' (.map (some b)) (.int k x) (.tuple #[v,.bool o]):=by
 subst hv;subst ho;exact(Vu T ((H.go e).ok _ m) x).2
theorem Hp.ZC{al:List (ByteArray×Value)}(T:MapT P Le t kT eT z)(H:Hp B w0 w L)(e:Eqw w w')(m:Asn.smap b al∈L){x:ByteArray}{o:Bool}(hv:(aget al x).getD z=v)(ho:(aget al x).isSome=o):Lk P t true w' (.map (some b)) (.string x) (.tuple #[v,.bool o]):=by
 subst hv;subst ho;exact(Vu T ((H.go e).ok _ m) x).2
theorem Hp.mupI{k:IntKind}{al:List (Int×Value)}(T:MapT P (ET k) t kT eT z)(H:Hp B w0 w (.imap b k al::L))(e:Eqw w w'){x:Int}{G:World->Prop}
  (kk:∀w1,Hp B w0 w1 (.imap b k (aput al x v)::L)->G w1):∃w1,MUp P t w' (.map (some b)) (.int k x) v w1/\G w1:=by
 obtain⟨w1,h1,h2,h3⟩:=Y3 T ((H.go e).ok _ (.head _)) x v
 exact⟨w1,h1,kk w1 ((H.go e).set h3 h2 fun k hk=>.inl hk)⟩
theorem Hp.mupS{al:List (ByteArray×Value)}(T:MapT P Le t kT eT z)(H:Hp B w0 w (.smap b al::L))(e:Eqw w w'){x:ByteArray}{G:World->Prop}
  (kk:∀w1,Hp B w0 w1 (.smap b (aput al x v)::L)->G w1):∃w1,MUp P t w' (.map (some b)) (.string x) v w1/\G w1:=by
 obtain⟨w1,h1,h2,h3⟩:=Y3 T ((H.go e).ok _ (.head _)) x v
 exact⟨w1,h1,kk w1 ((H.go e).set h3 h2 fun k hk=>.inl hk)⟩
end
theorem Hp.front{B:List Nat}{w0 w:World}{L:List Asn}{e:TypeId}{sz:Nat}{a:Option Addr}{n c F:Nat}{xs:List Value}(H:Hp B w0 w (.own e sz a n c xs::L))(hF:F<=n):Hp B w0 w (.own e sz a F F (xs.take (F*sz))::L):=
 H.set (Chg.refl _ _) (Own.front (H.ok _ (.head _)) hF) (fun k hk=>.inl hk)
theorem Own.nil'(e:TypeId)(sz:Nat)(w:World):(Asn.own e sz none 0 0 []).ok w:=Own.nil w 0 e sz
theorem Hp.nilS{B:List Nat}{w0 w:World}{L:List Asn}(H:Hp B w0 w L)(e:TypeId)(sz:Nat):Hp B w0 w (.own e sz none 0 0 []::L):=
 H.add (Chg.refl _ _) (Own.nil' e sz w) (by simp[Asn.foot,blks])
def bt(n:Int)(k:Nat):UInt8:=UInt8.ofNat ((n/2^(8*k))%256).toNat
def be(n:Int):Nat->List UInt8
 |0=>[]
 |k+1=>bt n k::be n k
theorem AU(n:Int)(k:Nat):(be n k).length=k:=by
 induction k with
 |zero=>rfl
 |succ k ih=>simp[be,ih]
def bQ(l:List UInt8):List Value:=l.map fun b=>Value.int .u8 (b.toNat:Int)
def sv(l:List UInt8):Value:=.string ⟨l.toArray⟩
theorem BZ(a b:List UInt8):bQ (a++b)=bQ a++bQ b:=by simp[bQ]
theorem AQ(a:List UInt8):(bQ a).length=a.length:=by simp[bQ]
theorem Di(l:List UInt8):byteCells ⟨l.toArray⟩=bQ l:=by simp[byteCells,bQ]
theorem byteCells_eq(s:ByteArray):byteCells s=bQ s.data.toList:=rfl
theorem Uh(x:Int):IntKind.u8.wrap x=x%256:=by
 simp[IntKind.wrap,IntKind.signed,IntKind.bits]
theorem KL(n:Int)(k:Nat):((bt n k).toNat:Int)=(n/2^(8*k))%256:=by
 have h0:0<=(n/2^(8*k))%256:=Int.emod_nonneg _ (by omega)
 have h1:(n/2^(8*k))%256<256:=Int.emod_lt_of_pos _ (by omega)
 rw[bt]
 have:(UInt8.ofNat ((n/2^(8*k))%256).toNat).toNat=((n/2^(8*k))%256).toNat:=by
  rw[UInt8.toNat_ofNat']
  exact Nat.mod_eq_of_lt (by omega)
 rw[this];omega
theorem Js(i:Int)(m:Nat)(h:m<8)(j:Int)(hj:j=m):IntKind.u8.wrap (Int.fdiv i ((2:Int)^min (Int.toNat ((8:Int)*j)) (IntKind.bits IntKind.i64)))=((bt i m).toNat:Int):=by
 subst hj
 rw[Uh,KL]
 have e1:Int.toNat ((8:Int)*(m:Int))=8*m:=by omega
 have e2:min (8*m) (IntKind.bits IntKind.i64)=8*m:=by simp only[IntKind.bits];omega
 rw[e1,e2,Int.fdiv_eq_ediv_of_nonneg _ (Int.le_of_lt (Int.pow_pos (by omega)))]
theorem add_add(a:Addr)(i j:Nat):(a.add i).add j=a.add (i+j):=by
 obtain⟨b,o,s⟩:=a
 by_cases hi:i=0<;>by_cases hj:j=0<;>simp[Addr.add,hi,hj,Nat.add_assoc]
theorem Cells.slA{w:World}{a:Option Addr}{xs:List Value}(h:Cells w a xs){c i:Nat}(hc:xs.length<=c):Cells w (slA a c i 1) (xs.drop i):=by
 intro j v hj
 rw[List.getElem?_drop]at hj
 obtain⟨ad,rfl,hcell⟩:=h _ v hj
 have hlt:=(List.getElem?_eq_some_iff.1 hj).1
 unfold Go.Vc.slA
 rw[if_neg (by omega)]
 exact⟨_,rfl,by rw[add_add,Nat.mul_one];exact hcell⟩
theorem Cells.take{w:World}{a:Option Addr}{xs:List Value}(h:Cells w a xs)(i:Nat):Cells w a (xs.take i):=by
 intro j v hj
 rw[List.getElem?_take]at hj
 split at hj
 ·exact h j v hj
 ·cases hj
theorem Eu(l:List UInt8):∀u∈bQ l,u.oneCell'=true:=by
 intro u hu
 obtain⟨_,_,rfl⟩:=mem_map.1 hu
 rfl
theorem Ib(l:List Value)(o:Nat)(cs:List Value)(h:o+l.length<=cs.length):(over l o cs).length=cs.length:=GI _ _ _ h
theorem Nr(l:List Value)(o:Nat)(cs:List Value)(n:Nat)(h:o+l.length<=n)(hn:n<=cs.length):(over l o cs).take n=over l o (cs.take n):=by
 apply ext_getElem?
 intro k
 have h1:o+l.length<=(cs.take n).length:=by rw[length_take];omega
 rw[List.getElem?_take,Gs l o cs (by omega),Gs l o (cs.take n) h1,List.getElem?_take]
 by_cases h2:k<n
 ·rw[if_pos h2,if_pos h2]
 ·rw[if_neg h2,if_neg h2,if_neg (by omega)]
theorem Own.st{P:Program}{t:TypeId}{w:World}{e:TypeId}{sz:Nat}{a:Option Addr}{n c:Nat}{xs:List Value}(h:Own w 0 e sz a n c xs){ad:Addr}(ha:a=some ad){o:Nat}{v:Value}(hs:ER P t=some v.cells.size)(hv:v.cells.toList.all (·.oneCell')=true)(hl:o+v.cells.size<=xs.length):
  ∃w1,St P t w (ad.add o) v w1/\Own w1 0 e sz a n c (over v.cells.toList o xs)/\Chg (blks a) w w1:=by
 have hlen:=h.1
 rcases h.2 with⟨rfl,_⟩|⟨g,cur,fz,rfl,hb,hg,hf,hnc,hcm,hcs,ht⟩
 ·cases ha
 cases ha
 have hnm:n*sz<=c*sz:=Nat.mul_le_mul_right _ hnc
 have hcur:w.heap[g]? =some (.cells cur.toList.toArray e fz):=by simpa using hg
 have hcl:cur.toList.length=cur.size:=Array.length_toList
 have hvl:v.cells.toList.length=v.cells.size:=Array.length_toList
 have hrun:=DT (P:=P) (b:=g) (T:=e) (fz:=fz) v.cells.toList w cur.toList ⟨g,o,none⟩ o 0 rfl (fun j=>by simp[add_lit]) hcur (by omega) (fun k h1 h2=>hf k (by omega)) (fun u hu=>all_eq_true.1 hv u hu)
 have e1:(storeVar t ((⟨g,0,none⟩:Addr).add o) v).run P w=(storeCells ⟨g,o,none⟩ v.cells.toList).run P w:=by
  rw[add_lit,Nat.zero_add]
  simp only[storeVar,Sem.run_bind,ED hs,Result.andThen_ok]
  rw[if_neg (by simp)]
 refine⟨_,e1.trans hrun,?_,?_⟩
 ·split
  ·rename_i hn;rw[hn,Dc];exact h
  ·refine⟨by rw[Ib _ _ _ (by omega)];exact hlen,.inr ⟨g,_,fz,rfl,hb,Dl (Array.getElem?_eq_some_iff.1 hg).1,?_,hnc,hcm,?_,?_⟩⟩
   ·rw[size_toArray,Ib _ _ _ (by omega),hcl];exact hf
   ·rw[size_toArray,Ib _ _ _ (by omega),hcl];exact hcs
   ·simp only[List.toList_toArray]
    rw[Nr _ _ _ _ (by omega) (by omega),ht]
 ·split
  ·exact Chg.refl _ _
  ·exact DI _ _ _
theorem Own.at{w:World}{e:TypeId}{sz:Nat}{a:Option Addr}{n c:Nat}{xs:List Value}(h:Own w 0 e sz a n c xs){j:Nat}(hj:j<xs.length):∃ad,a=some ad/\w.cell? (ad.add j)=some xs[j]:=
 h.cells j _ (List.getElem?_eq_getElem hj)
theorem Cells.ldA{P:Program}{w:World}{a:Option Addr}{xs:List Value}(h:Cells w a xs){t:TypeId}{n:Nat}(T:Agg P t n){ad:Addr}(ha:a=some ad){o:Nat}{vs:List Value}(hv:(xs.drop o).take n=vs)(hl:vs.length=n):Ld P t w (ad.add o) (.agg vs.toArray):=by
 subst hl ha
 refine Zx T.agg T.size fun j v hj=>?_
 rw[add_add]
 obtain⟨ad',e1,e2⟩:=h (o+j) v (by
  rw[<- hv,List.getElem?_take]at hj
  split at hj
  ·simpa using hj
  ·cases hj)
 cases e1;exact e2
theorem Cells.ld{P:Program}{w:World}{a:Option Addr}{xs:List Value}(h:Cells w a xs){t:TypeId}(T:Scl P t){ad:Addr}(ha:a=some ad){o:Nat}{v:Value}(hv:xs[o]? =some v):Ld P t w (ad.add o) v:=by
 subst ha
 obtain⟨ad',e1,e2⟩:=h o v hv
 cases e1;exact V8 T.agg e2
theorem Cells.some{w:World}{a:Option Addr}{xs:List Value}(h:Cells w a xs)(hx:xs≠[]):∃ad,a=some ad:=by
 cases xs with
 |nil=>exact absurd rfl hx
 |cons v r=>obtain⟨ad,e,_⟩:=h 0 v rfl;exact⟨ad,e⟩
section
variable{P:Program}{B:List Nat}{w0 w w':World}{L:List Asn}{e t:TypeId}{sz:Nat}{a:Option Addr}{n c o:Nat}{xs:List Value}{v:Value}
theorem Hp.stO(H:Hp B w0 w (.own e sz a n c xs::L))(eq:Eqw w w'){ad:Addr}(ha:a=some ad)(hs:ER P t=some v.cells.size)(hv:v.cells.toList.all (·.oneCell')=true)(hl:o+v.cells.size<=xs.length){xs':List Value}(hx:over v.cells.toList o xs=xs'){G:World->Prop}
  (k:∀w1,Hp B w0 w1 (.own e sz a n c xs'::L)->G w1):∃w1,St P t w' (ad.add o) v w1/\G w1:=by
 obtain⟨w1,h1,h2,h3⟩:=Own.st (P:=P) (t:=t) ((H.go eq).ok _ (.head _)) ha hs hv hl
 rw[hx]at h2
 exact⟨w1,h1,k w1 ((H.go eq).set h3 h2 fun k hk=>.inl hk)⟩
end
theorem over1(v:Value)(o:Nat)(xs:List Value)(h:o<xs.length):over [v] o xs=xs.set o v:=by
 rw[Fh v [] o xs h,Dc]
section
variable{P:Program}{B:List Nat}{w0 w w':World}{L:List Asn}{e t:TypeId}{sz:Nat}{a:Option Addr}{n c o:Nat}{xs:List Value}{v:Value}
theorem Hp.stO1(H:Hp B w0 w (.own e sz a n c xs::L))(eq:Eqw w w')(T:Scl P t){ad:Addr}(ha:a=some ad)(hv:v.cells= #[v])(h1:v.oneCell'=true)(hl:o<xs.length){G:World->Prop}
  (k:∀w1,Hp B w0 w1 (.own e sz a n c (xs.set o v)::L)->G w1):∃w1,St P t w' (ad.add o) v w1/\G w1:=
 Hp.stO H eq ha (by rw[hv];exact T.size) (by rw[hv];simpa using h1) (by rw[hv];exact hl) (by rw[hv];exact over1 v o xs hl) k
end
def objA(l:Nat)(o:Obj):Asn:=.any [l] fun w=>w.heap[l]? =some o
theorem Vr{l:Nat}{o:Obj}{w:World}(h:w.heap[l]? =some o):(objA l o).ok w:=
 ⟨fun k hk=>by rw[mem_singleton]at hk;subst hk;exact(Array.getElem?_eq_some_iff.1 h).1,fun w' he=>(he l (by simp)).trans h⟩
section
variable{P:Program}{B:List Nat}{w0 w w' w1:World}{L:List Asn}{l:Nat}{o o':Obj}
theorem Hp.obj(H:Hp B w0 w L)(m:objA l o∈L):w.heap[l]? =some o:=(H.ok _ m).2 w fun _ _=>rfl
theorem Hp.newO(H:Hp B w0 w L)(e:Eqw w w')(h:New w' o l w1):Hp B w0 w1 (objA l o::L):=
 (H.go e).add h.chg (Vr h.blk) (by intro k hk;simp[objA,Asn.foot]at hk;subst hk;exact h.num▸Nat.le_refl _)
theorem Hp.putO(H:Hp B w0 w (objA l o::L)):Hp B w0 (w.putObj l o') (objA l o'::L):=by
 have hl:l<w.heap.size:=(Array.getElem?_eq_some_iff.1 (H.obj (.head _))).1
 exact H.set (DI w l o') (Vr (World.putObj_heap_same hl)) (fun k hk=>.inl hk)
theorem Hp.shut(H:Hp B w0 w (objA l (.deferred (some []))::L)){G:World->Prop}(k:∀w1,Hp B w0 w1 L->G w1):∃w1,N8 w l w1/\G w1:=
 ⟨_,⟨H.obj (.head _),rfl⟩,k _ (H.putO (o':=.deferred none)).drop⟩
end
theorem XH{P:Program}{fv:Value}{args:List Value}{w:World}{R R':Ending->World->Prop}(h:Du P fv args w R)(hr:∀e w',R e w'->R' e w'):Du P fv args w R':=SB hr h
def EO(es:Array MapEntry)(seen:Array Nat):List MapEntry:=es.toList.filter fun e=> !seen.contains e.born
theorem PV(es:Array MapEntry):EO es #[]=es.toList:=by
 simp[EO]
theorem Ue:∀{l:List MapEntry}{e:MapEntry},e∈l->(l.map (·.born)).Nodup->l.Perm (e::l.filter fun x=> !decide (x.born=e.born))
 |x::r,e,h,hn=>by
  simp only[map_cons,nodup_cons]at hn
  rw[filter_cons]
  by_cases hx:x.born=e.born
  ·have hxe:x=e:=by
    rcases mem_cons.1 h with rfl|h
    ·rfl
    ·exact absurd (hx▸mem_map.2 ⟨e,h,rfl⟩) hn.1
   subst hxe
   simp only[decide_true,Bool.not_true,Bool.false_eq_true,if_false]
   refine List.Perm.cons _ ?_
   rw[List.filter_eq_self.2]
   intro y hy
   have:y.born≠x.born:=fun e=>hn.1 (e▸mem_map.2 ⟨y,hy,rfl⟩)
   simp[this]
  ·have hr:e∈r:=by
    rcases mem_cons.1 h with rfl|h
    ·exact absurd rfl hx
    ·exact h
   simp only[hx,decide_false,Bool.not_false,if_true]
   exact((Ue hr hn.2).cons x).trans (.swap _ _ _)
theorem leftL_push{es:Array MapEntry}{seen:Array Nat}{e:MapEntry}(hn:(es.toList.map (·.born)).Nodup)(he:e∈EO es seen):(EO es seen).Perm (e::EO es (seen.push e.born)):=by
 have hn2:((EO es seen).map (·.born)).Nodup:=hn.sublist ((List.filter_sublist ..).map _)
 refine(Ue he hn2).trans ?_
 refine List.Perm.cons _ (List.Perm.of_eq ?_)
 simp only[EO,List.filter_filter]
 congr 1
 funext x
 simp only[Array.contains_push,Bool.not_or]
 rw[Bool.and_comm]
 congr 1
theorem PX(es:Array MapEntry)(seen:Array Nat):(leftOf es seen).toList=EO es seen:=by simp[leftOf,EO]
section
variable{P:Program}{B:List Nat}{w0 w w':World}{L:List Asn}{t kT eT:TypeId}{b it clock:Nat}{es:Array MapEntry}{seen:Array Nat}{ty:TypeId}
theorem Hp.rng(H:Hp B w0 w L)(eq:Eqw w w')(hu:P.underlying t=some (.map kT eT))(hb:w.heap[b]? =some (.map es clock)){G:Option Addr->World->Prop}
  (k:∀it w1,Hp B w0 w1 (objA it (.mapIter (some b) clock #[] clock)::L)->G (some ⟨it,0,none⟩) w1):∃(p:Option Addr)(w1:World),Rng P t w' (.map (some b)) (.pointer p) w1/\G p w1:=by
 have hb':w'.heap[b]? =some (.map es clock):=by rw[eq.heap];exact hb
 refine⟨some ⟨w'.heap.size,0,none⟩,w'.alloc (.mapIter (some b) clock #[] clock),?_,k _ _ (H.newO eq ⟨rfl,rfl⟩)⟩
 simp only[Rng,Instr.range,Sem.run_bind,Am hu,Result.andThen_ok,run_getObj_map hb',Sem.run_pure]
 rfl
theorem Hp.nxt(H:Hp B w0 w (objA it (.mapIter (some b) clock seen clock)::L))(eq:Eqw w w')(hb:w.heap[b]? =some (.map es clock))(hold:∀e∈es.toList,e.born<clock)(hn:(es.toList.map (·.born)).Nodup)
  {G0:World->Prop} {G1:Value->Value->World->Prop}
  (k0:EO es seen=[]->G0 w')
  (k1:∀(e:MapEntry)(w1:World),e∈es.toList->(EO es seen).Perm (e::EO es (seen.push e.born))->Hp B w0 w1 (objA it (.mapIter (some b) clock (seen.push e.born) clock)::L)->
   (Instr.entry (.pointer (some ⟨it,0,none⟩))).run P w1=.ok (.tuple #[e.key,e.val]) w1->G1 e.key e.val w1):
  (∃w1,Nxt P false ty w' (.pointer (some ⟨it,0,none⟩)) (.tuple #[.bool false]) w1/\G0 w1)\/(∃(k v:Value)(w1:World),Nxt P false ty w' (.pointer (some ⟨it,0,none⟩)) (.tuple #[.bool true,k,v]) w1/\G1 k v w1):=by
 have H1:=H.go eq
 have hi:w'.heap[it]? =some (.mapIter (some b) clock seen clock):=H1.obj (.head _)
 have hb':w'.heap[b]? =some (.map es clock):=by rw[eq.heap];exact hb
 rcases run_next_at (P:=P) w' ty it b clock clock seen es clock hi hb' hold (Nat.le_refl _)with⟨h1,h2⟩|⟨e,he,w1,hw,h2⟩
 ·refine .inl ⟨w',h2,k0 ?_⟩
  rw[<- PX]
  exact List.eq_nil_of_length_eq_zero (by simpa using h1)
 ·rw[PX]at he
  have hmem:e∈es.toList:=(mem_filter.1 he).1
  have e1:Eqw w' w1:=by rcases hw with rfl|rfl<;>exact⟨rfl,rfl,rfl,rfl⟩
  have H2:=H1.go e1
  have hne:it≠b:=by
   rintro rfl
   rw[hb']at hi;cases hi
  have H3:Hp B w0 (setB w1 it (.mapIter (some b) clock (seen.push e.born) clock)) (objA it (.mapIter (some b) clock (seen.push e.born) clock)::L):=H2.putO (o':=.mapIter (some b) clock (seen.push e.born) clock)
  have hset:ChangeMaps.setBlock w1 it (.mapIter (some b) clock (seen.push e.born) clock)=setB w1 it (.mapIter (some b) clock (seen.push e.born) clock):=rfl
  rw[hset]at h2
  refine .inr ⟨_,_,_,h2,k1 e _ hmem (leftL_push hn he) H3 ?_⟩
  refine run_entry_at (P:=P) _ it b clock seen es clock e (H3.obj (.head _)) ?_ hmem hn
  have:(setB w1 it (.mapIter (some b) clock (seen.push e.born) clock)).heap[b]? =w1.heap[b]? :=by
   have hc:=DI w1 it (.mapIter (some b) clock (seen.push e.born) clock)
   have hlt:b<w1.heap.size:=by rw[e1.heap];exact(Array.getElem?_eq_some_iff.1 hb').1
   exact hc.2.2.2.2 b hlt (by simpa using fun h=>hne h.symm)
  rw[this,e1.heap];exact hb'
end
section
variable{P:Program}{B:List Nat}{w0 w w':World}{L:List Asn}{e t:TypeId}{sz n c o m:Nat}{a:Option Addr}{xs:List Value}{v:Value}
theorem Hp.ldO(H:Hp B w0 w L)(eq:Eqw w w')(S:Scl P t)(mm:Asn.own e sz a n c xs∈L)(ho:xs[o]? =some v):∃ad,a=some ad/\Ld P t w' (ad.add o) v:=by
 have hc:=((H.go eq).ownA mm).cells
 obtain⟨ad,ha,_⟩:=hc o v ho
 exact⟨ad,ha,hc.ld S ha ho⟩
theorem Hp.ldOA(H:Hp B w0 w L)(eq:Eqw w w')(S:Agg P t m)(hm:0<m)(mm:Asn.own e sz a n c xs∈L){vs:List Value}(ho:(xs.drop o).take m=vs)(hl:vs.length=m):∃ad,a=some ad/\Ld P t w' (ad.add o) (.agg vs.toArray):=by
 have hc:=((H.go eq).ownA mm).cells
 have hx:xs≠[]:=by
  rintro rfl
  rw[List.drop_nil,List.take_nil]at ho
  subst ho;simp at hl;omega
 obtain⟨ad,ha⟩:=hc.some hx
 exact⟨ad,ha,hc.ldA S ha ho hl⟩
end
end Go.Vc
namespace Go.Proofs.YtdeebigmpffnbaaGreat
open Go Go.Vc Go.Proofs Go.RowKit Go.Maps Go.Sort Go.Shelf
def Z4:Ren:= {f:=fun|7=>104|10=>134|n=>n,t:=fun|23=>77|26=>3|3=>4|28=>108|0=>0|27=>107|33=>152|4=>4|n=>n,g:=fun n=>n}
theorem Zv : SlLaysZI.n7 Tryz.prog Z4 := { mixed := by kernel_rfl, f7 := ⟨"maps.Keys[map[int]bool,int,bool]", of_decide_eq_true (by kernel_rfl), Tryz.func104.trans (congrArg some (by kernel_rfl))⟩, f10 := ⟨"maps.Keys[map[int]bool,int,bool]$1", of_decide_eq_true (by kernel_rfl), Tryz.func134.trans (congrArg some (by kernel_rfl))⟩, t0 := Tryz.underlying0, a0 := Tryz.isAgg0, z0 := Tryz.sizeOf0, v0 := Tryz.zeroValue0, t4 := Tryz.underlying4, a4 := Tryz.isAgg4, z4 := Tryz.sizeOf4, v4 := Tryz.zeroValue4, t23 := Tryz.underlying77, a23 := Tryz.isAgg77, z23 := Tryz.sizeOf77, v23 := Tryz.zeroValue77, t26 := Tryz.underlying3, a26 := Tryz.isAgg3, z26 := Tryz.sizeOf3, v26 := Tryz.zeroValue3, t27 := Tryz.underlying107, a27 := Tryz.isAgg107, z27 := Tryz.sizeOf107, v27 := Tryz.zeroValue107, t28 := Tryz.underlying108, a28 := Tryz.isAgg108, z28 := Tryz.sizeOf108, v28 := Tryz.zeroValue108, t33 := Tryz.underlying152, a33 := Tryz.isAgg152, z33 := Tryz.sizeOf152, v33 := Tryz.zeroValue152 }
def aN:Ren:= {f:=fun|7=>49|10=>86|n=>n,t:=fun|23=>86|26=>3|3=>3|28=>108|0=>0|27=>107|33=>152|4=>4|n=>n,g:=fun n=>n}
theorem Zz : SlLaysZI.n7 Tryz.prog aN := { mixed := by kernel_rfl, f7 := ⟨"maps.Keys[map[int]int,int,int]", of_decide_eq_true (by kernel_rfl), Tryz.func49.trans (congrArg some (by kernel_rfl))⟩, f10 := ⟨"maps.Keys[map[int]int,int,int]$1", of_decide_eq_true (by kernel_rfl), Tryz.func86.trans (congrArg some (by kernel_rfl))⟩, t0 := Tryz.underlying0, a0 := Tryz.isAgg0, z0 := Tryz.sizeOf0, v0 := Tryz.zeroValue0, t4 := Tryz.underlying4, a4 := Tryz.isAgg4, z4 := Tryz.sizeOf4, v4 := Tryz.zeroValue4, t23 := Tryz.underlying86, a23 := Tryz.isAgg86, z23 := Tryz.sizeOf86, v23 := Tryz.zeroValue86, t26 := Tryz.underlying3, a26 := Tryz.isAgg3, z26 := Tryz.sizeOf3, v26 := Tryz.zeroValue3, t27 := Tryz.underlying107, a27 := Tryz.isAgg107, z27 := Tryz.sizeOf107, v27 := Tryz.zeroValue107, t28 := Tryz.underlying108, a28 := Tryz.isAgg108, z28 := Tryz.sizeOf108, v28 := Tryz.zeroValue108, t33 := Tryz.underlying152, a33 := Tryz.isAgg152, z33 := Tryz.sizeOf152, v33 := Tryz.zeroValue152 }
def Xm:Ren:= {f:=fun|6=>48|8=>84|9=>85|11=>121|13=>123|12=>122|23=>147|24=>148|14=>138|15=>139|16=>140|17=>141|18=>142|19=>143|20=>144|21=>145|22=>146|25=>149|26=>150|27=>151|28=>152|29=>153|30=>154|31=>155|n=>n,t:=fun|26=>3|28=>108|24=>30|0=>0|3=>3|37=>195|48=>204|50=>127|4=>4|40=>210|39=>209|45=>126|5=>5|9=>9|51=>218|55=>222|57=>224|58=>140|33=>152|n=>n,g:=fun n=>n}
theorem YB : SlLaysZI.n6 Tryz.prog Xm := { mixed := by kernel_rfl, f6 := ⟨"slices.Sorted[int]", of_decide_eq_true (by kernel_rfl), Tryz.func48.trans (congrArg some (by kernel_rfl))⟩, f8 := ⟨"slices.Collect[int]", of_decide_eq_true (by kernel_rfl), Tryz.func84.trans (congrArg some (by kernel_rfl))⟩, f11 := ⟨"slices.AppendSeq[[]int,int]", of_decide_eq_true (by kernel_rfl), Tryz.func121.trans (congrArg some (by kernel_rfl))⟩, i26 := by kernel_rfl, t0 := Tryz.underlying0, a0 := Tryz.isAgg0, z0 := Tryz.sizeOf0, v0 := Tryz.zeroValue0, t24 := Tryz.underlying30, a24 := Tryz.isAgg30, z24 := Tryz.sizeOf30, v24 := Tryz.zeroValue30, t26 := Tryz.underlying3, a26 := Tryz.isAgg3, z26 := Tryz.sizeOf3, v26 := Tryz.zeroValue3, t28 := Tryz.underlying108, a28 := Tryz.isAgg108, z28 := Tryz.sizeOf108, v28 := Tryz.zeroValue108 }
def sortIR:Ren:= {f:=fun|5=>85|8=>123|7=>122|19=>147|20=>148|10=>138|11=>139|12=>140|13=>141|14=>142|15=>143|16=>144|17=>145|18=>146|30=>149|31=>150|32=>151|33=>152|34=>153|35=>154|40=>155|n=>n,t:=fun|23=>30|25=>3|3=>3|32=>195|22=>30|0=>0|44=>204|46=>127|4=>4|36=>210|35=>209|41=>126|5=>5|9=>9|53=>218|57=>222|63=>224|64=>140|n=>n,g:=fun n=>n}
theorem VG : SlLaysM.n5 Tryz.prog sortIR := { mixed := by kernel_rfl, f5 := ⟨"slices.Sort[[]int,int]", of_decide_eq_true (by kernel_rfl), Tryz.func85.trans (congrArg some (by kernel_rfl))⟩, f7 := ⟨"slices.pdqsortOrdered[int]", of_decide_eq_true (by kernel_rfl), Tryz.func122.trans (congrArg some (by kernel_rfl))⟩, f10 := ⟨"slices.insertionSortOrdered[int]", of_decide_eq_true (by kernel_rfl), Tryz.func138.trans (congrArg some (by kernel_rfl))⟩, f11 := ⟨"slices.heapSortOrdered[int]", of_decide_eq_true (by kernel_rfl), Tryz.func139.trans (congrArg some (by kernel_rfl))⟩, f12 := ⟨"slices.breakPatternsOrdered[int]", of_decide_eq_true (by kernel_rfl), Tryz.func140.trans (congrArg some (by kernel_rfl))⟩, f13 := ⟨"slices.choosePivotOrdered[int]", of_decide_eq_true (by kernel_rfl), Tryz.func141.trans (congrArg some (by kernel_rfl))⟩, f14 := ⟨"slices.reverseRangeOrdered[int]", of_decide_eq_true (by kernel_rfl), Tryz.func142.trans (congrArg some (by kernel_rfl))⟩, f15 := ⟨"slices.partialInsertionSortOrdered[int]", of_decide_eq_true (by kernel_rfl), Tryz.func143.trans (congrArg some (by kernel_rfl))⟩, f16 := ⟨"cmp.Less[int]", of_decide_eq_true (by kernel_rfl), Tryz.func144.trans (congrArg some (by kernel_rfl))⟩, f17 := ⟨"slices.partitionEqualOrdered[int]", of_decide_eq_true (by kernel_rfl), Tryz.func145.trans (congrArg some (by kernel_rfl))⟩, f18 := ⟨"slices.partitionOrdered[int]", of_decide_eq_true (by kernel_rfl), Tryz.func146.trans (congrArg some (by kernel_rfl))⟩, f30 := ⟨"slices.siftDownOrdered[int]", of_decide_eq_true (by kernel_rfl), Tryz.func149.trans (congrArg some (by kernel_rfl))⟩, f33 := ⟨"slices.medianAdjacentOrdered[int]", of_decide_eq_true (by kernel_rfl), Tryz.func152.trans (congrArg some (by kernel_rfl))⟩, f34 := ⟨"slices.medianOrdered[int]", of_decide_eq_true (by kernel_rfl), Tryz.func153.trans (congrArg some (by kernel_rfl))⟩, f35 := ⟨"cmp.isNaN[int]", of_decide_eq_true (by kernel_rfl), Tryz.func154.trans (congrArg some (by kernel_rfl))⟩, f40 := ⟨"slices.order2Ordered[int]", of_decide_eq_true (by kernel_rfl), Tryz.func155.trans (congrArg some (by kernel_rfl))⟩, f8 := Tryz.func123.trans (congrArg some (by kernel_rfl)), f19 := Tryz.func147.trans (congrArg some (by kernel_rfl)), f20 := Tryz.func148.trans (congrArg some (by kernel_rfl)), f31 := Tryz.func150.trans (congrArg some (by kernel_rfl)), f32 := Tryz.func151.trans (congrArg some (by kernel_rfl)), t0 := Tryz.underlying0, a0 := Tryz.isAgg0, z0 := Tryz.sizeOf0, v0 := Tryz.zeroValue0, t3 := Tryz.underlying3, a3 := Tryz.isAgg3, z3 := Tryz.sizeOf3, v3 := Tryz.zeroValue3, t4 := Tryz.underlying4, a4 := Tryz.isAgg4, z4 := Tryz.sizeOf4, v4 := Tryz.zeroValue4, t5 := Tryz.underlying5, a5 := Tryz.isAgg5, z5 := Tryz.sizeOf5, v5 := Tryz.zeroValue5, t9 := Tryz.underlying9, a9 := Tryz.isAgg9, z9 := Tryz.sizeOf9, v9 := Tryz.zeroValue9, t22 := Tryz.underlying30, a22 := Tryz.isAgg30, z22 := Tryz.sizeOf30, v22 := Tryz.zeroValue30, t23 := Tryz.underlying30, a23 := Tryz.isAgg30, z23 := Tryz.sizeOf30, v23 := Tryz.zeroValue30, t25 := Tryz.underlying3, a25 := Tryz.isAgg3, z25 := Tryz.sizeOf3, v25 := Tryz.zeroValue3, t32 := Tryz.underlying195, a32 := Tryz.isAgg195, z32 := Tryz.sizeOf195, v32 := Tryz.zeroValue195, t35 := Tryz.underlying209, a35 := Tryz.isAgg209, z35 := Tryz.sizeOf209, v35 := Tryz.zeroValue209, t36 := Tryz.underlying210, a36 := Tryz.isAgg210, z36 := Tryz.sizeOf210, v36 := Tryz.zeroValue210, t41 := Tryz.underlying126, a41 := Tryz.isAgg126, z41 := Tryz.sizeOf126, v41 := Tryz.zeroValue126, t44 := Tryz.underlying204, a44 := Tryz.isAgg204, z44 := Tryz.sizeOf204, v44 := Tryz.zeroValue204, t46 := Tryz.underlying127, a46 := Tryz.isAgg127, z46 := Tryz.sizeOf127, v46 := Tryz.zeroValue127, t53 := Tryz.underlying218, a53 := Tryz.isAgg218, z53 := Tryz.sizeOf218, v53 := Tryz.zeroValue218, t57 := Tryz.underlying222, a57 := Tryz.isAgg222, z57 := Tryz.sizeOf222, v57 := Tryz.zeroValue222, t63 := Tryz.underlying224, a63 := Tryz.isAgg224, z63 := Tryz.sizeOf224, v63 := Tryz.zeroValue224, t64 := Tryz.underlying140, a64 := Tryz.isAgg140, z64 := Tryz.sizeOf140, v64 := Tryz.zeroValue140 }
def mclR:Ren:= {f:=fun|5=>64|7=>105|n=>n,t:=fun|23=>67|25=>9|3=>3|4=>4|20=>20|n=>n,g:=fun n=>n}
theorem mclL : SlLaysW.n5 Tryz.prog mclR := { mixed := by kernel_rfl, f5 := ⟨"maps.Clone[map[string]int,string,int]", of_decide_eq_true (by kernel_rfl), Tryz.func64.trans (congrArg some (by kernel_rfl))⟩, f7 := Tryz.func105.trans (congrArg some (by kernel_rfl)), t4 := Tryz.underlying4, a4 := Tryz.isAgg4, z4 := Tryz.sizeOf4, v4 := Tryz.zeroValue4, t20 := Tryz.underlying20, a20 := Tryz.isAgg20, z20 := Tryz.sizeOf20, v20 := Tryz.zeroValue20, t23 := Tryz.underlying67, a23 := Tryz.isAgg67, z23 := Tryz.sizeOf67, v23 := Tryz.zeroValue67 }
theorem Tq{w w':World}(h:Below w.heap.size w w'):Chg [] w w':=⟨h.os,h.tape,h.output,h.size,fun k hk _=>h.block k hk⟩
theorem aJ{w w':World}{e:TypeId}{v:Value}{n:Nat}{xs:List Value}(hb:Below w.heap.size w w')(h:w'.ownsRow w.heap.size e 1 v n xs):
  ∃a c,v=.slice a n c/\Hp [] w w' [.own e 1 a n c xs]:=by
 obtain⟨h1,⟨rfl,rfl⟩|⟨g,cap,cur,rfl,h2,h3,h4,h5,h6,h7⟩⟩:=h
 ·refine⟨none,0,rfl,Tq hb,?_,by simp[Asn.foot,blks],by simp⟩
  intro a ha
  rw[mem_singleton]at ha;subst ha
  exact⟨h1,.inl ⟨rfl,rfl,rfl⟩⟩
 ·refine⟨some ⟨g,0,none⟩,cap,rfl,Tq hb,?_,?_,by simp⟩
  ·intro a ha
   rw[mem_singleton]at ha;subst ha
   exact⟨h1,.inr ⟨g,cur,(0,0),rfl,Nat.zero_le _,h3,Thaw.zero _,h4,h5,Nat.le_of_eq h6.symm,h7⟩⟩
  ·intro a ha k hk
   rw[mem_singleton]at ha;subst ha
   simp[Asn.foot,blks]at hk;subst hk
   exact .inr h2
theorem keysI_spec(mb:Option Nat)(w:World):Calls Tryz.prog 104 #[.map mb] w fun e w'=>
  ∃q,e=.returned (.func (.func 134) #[] #[.pointer (some ⟨q,0,none⟩)])/\Hp [] w w' [.blk q [.map mb] 77]:=by
 refine Calls.mono (callsIn_wide.1 (AnyZI.keys_in Zv Fence.wide 5 trivial rfl mb w)) ?_
 rintro e w' ⟨rfl,rfl⟩
 exact⟨_,rfl,(Hp.start w).new (w':=w) ⟨rfl,rfl,rfl,rfl⟩ ⟨rfl,rfl⟩⟩
section
variable{K:Type}[DecidableEq K]{kt:KeyT K}
def RR:Value->Option (DataW Unit×List MemPlace):=fun _=>some (.nil,[])
theorem Za{P:Program}{k:TypeId}{w:World}{b:Nat}{al:List (K×Value)}(h:MapAt kt w b al)(hn:(al.map (·.1)).Nodup)(hl:al.length<=maxLen)(enc:K->Lit)(inj:∀x y,kt.enc x=kt.enc y->x=y)
  (hk:∀p∈al,keyOf P k (kt.enc p.1)=some (enc p.1)):
  ∃D:DataW Unit,w.ownsMap P k RR b al.length D/\Maps.size D=al.length/\∃l:List (Lit×DataW Unit),D=.map l/\l.Perm (al.map fun p=>(enc p.1,DataW.nil)):=by
 obtain⟨es,clock,h1,h2,h3,h4⟩:=h
 have hlen:es.size=al.length:=by
  have:=congrArg List.length h2
  simpa using this
 have hrd:∀x∈es.toList,∃p∈al,x.key=kt.enc p.1:=by
  intro x hx
  have:(x.key,x.val)∈al.map fun p=>(kt.enc p.1,p.2):=h2▸mem_map.2 ⟨x,hx,rfl⟩
  obtain⟨p,hp,e⟩:=mem_map.1 this
  exact⟨p,hp,(congrArg Prod.fst e).symm⟩
 have hmap:es.toList.map (WideElems.rg P k RR)=al.map fun p=>(enc p.1,DataW.nil):=by
  have e1:es.toList.map (·.key)=al.map fun p=>kt.enc p.1:=by
   have:=congrArg (List.map Prod.fst) h2
   simpa [map_map,Function.comp_def]using this
  have e2:∀(l:List MapEntry)(al:List (K×Value)),(∀p∈al,keyOf P k (kt.enc p.1)=some (enc p.1))->l.map (·.key)=(al.map fun p=>kt.enc p.1)->l.map (WideElems.rg P k RR)=al.map fun p=>(enc p.1,(DataW.nil:DataW Unit)):=by
   intro l
   induction l with
   |nil=>intro al _ h;cases al with
    |nil=>rfl
    |cons _ _=>cases h
   |cons x r ih=>
    intro al hk h
    cases al with
    |nil=>cases h
    |cons p al=>
     simp only[map_cons,List.cons.injEq]at h⊢
     refine⟨?_,ih al (fun p hp=>hk p (.tail _ hp)) h.2⟩
     simp only[WideElems.rg,WideElems.rd,h.1,hk p (.head _)]
     rfl
  exact e2 _ _ hk e1
 refine⟨_,⟨es,clock,h1,⟨by rw[hlen];exact hl,⟨h4,h3,?_⟩,?_⟩,by rw[hlen];exact Nat.le_refl _,rfl⟩,?_,_,rfl,?_⟩
 ·have e1:es.toList.map (·.key)=(al.map (·.1)).map kt.enc:=by
   have:=congrArg (List.map Prod.fst) h2
   simpa [map_map,Function.comp_def]using this
  rw[e1]
  exact List.pairwise_map.2 (hn.imp fun hne he=>hne (inj _ _ he))
 ·intro x hx
  obtain⟨p,hp,e⟩:=hrd x hx
  exact⟨(enc p.1,.nil),by simp only[WideElems.rd,e,hk p hp];rfl⟩
 ·rw[hmap]
  have:=(WideShapes.sorted_perm (al.map fun p=>(enc p.1,(DataW.nil:DataW Unit)))).length_eq
  simpa [Maps.size]using this
 ·rw[hmap];exact WideShapes.sorted_perm _
end
theorem aI(m:Nat):AnyZI.SortsIn Tryz.prog Xm Fence.wide m:=
 ⟨fun blk off cap ss W hH hblk hsz=>callsIn_wide.2 (AnyM.slices_Sort_int VG blk off cap ss W hH hblk hsz),
  fun p cap W=>callsIn_wide.2 (AnyM.slices_Sort_int_none VG p cap W)⟩
theorem sortedI_spec(q b:Nat)(al:List (Int×Value))(w:World)(hq:Blk w q [.map (some b)] 77)(hm:MapAt (ET .i64) w b al)(l:List Int)(hp:l.Perm (al.map (·.1)))
  (hl:l.Pairwise fun x y=>x<y) (hs:∀x∈l,-9223372036854775808<=x/\x<=9223372036854775807) (hmax:al.length*8<=140737488355328):
  Calls Tryz.prog 48 #[.func (.func 134) #[] #[.pointer (some ⟨q,0,none⟩)]] w fun e w'=>
   ∃a c,e=.returned (.slice a l.length c)/\Hp [] w w' [.own 3 1 a l.length c (l.map (.int .i64))]:=by
 have hnd:(al.map (·.1)).Nodup:=hp.nodup_iff.1 (hl.imp fun h e=>by omega)
 have hll:al.length<=maxLen:=by simp only[maxLen];omega
 obtain⟨D,h1,h2,dl,rfl,h3⟩:=Za (P:=Tryz.prog) (k:=3) hm hnd hll (fun s=>.int .i64 s) (fun x y h=>by injection h) (fun p hpm=>keyOf_int_mk (by kernel_rfl) (by
  have:=hs _ (hp.mem_iff.2 (mem_map.2 ⟨p,hpm,rfl⟩))
  simp only[Lit.wf,Bool.and_eq_true,decide_eq_true_eq]
  exact AY.2 this))
 have hqlt:=hq.lt
 have hseq:SeqGives Fence.wide 2 Tryz.prog 134 #[.pointer (some ⟨q,0,none⟩)] encZ (fun ss=>ss.Perm (intKeys (.map dl))) (Maps.size (.map dl)) w:=
  AnyZI.keys_gives (ρ:=Z4) {Zv with} Fence.wide _ trivial rfl (by omega) q b al.length (.map dl) w hqlt (hq.cell rfl) h1
 have cS:=AnyZI.sorted_in YB Fence.wide 5 trivial trivial trivial trivial rfl (by omega) (aI _) (enters_of Tryz.func85 (by kernel_rfl) rfl) 134 #[.pointer (some ⟨q,0,none⟩)] trivial (enters_of Tryz.func134 (by kernel_rfl) rfl) _ _ (by rw[h2];exact hll) (by rw[h2];exact hmax) w hseq
 change CallsIn _ _ Tryz.prog 48 _ _ _ at cS
 refine Calls.mono (callsIn_wide.1 cS) ?_
 rintro e w' ⟨v,ss,rfl,hS,hrow,hnil,hb⟩
 have hperm:ss.Perm l:=by
  refine hS.trans ?_
  have e1:intKeys (.map dl)=dl.map fun p=>Go.intOf p.1:=rfl
  rw[e1]
  refine(h3.map _).trans ?_
  rw[map_map]
  have e2:((fun p:Lit×DataW Unit=>Go.intOf p.1)∘fun p:Int×Value=>(Lit.int IntKind.i64 p.1,DataW.nil))=(·.1):=rfl
  rw[e2]
  exact hp.symm
 have hsort:ss.mergeSort (fun x y=>decide (x<=y))=l:=by
  have tr:∀a b c:Int,decide (a<=b)=true->decide (b<=c)=true->decide (a<=c)=true:=fun a b c h1 h2=>by simp only[decide_eq_true_eq]at*;omega
  have to:∀a b:Int,(decide (a<=b)||decide (b<=a))=true:=fun a b=>by simp only[Bool.or_eq_true,decide_eq_true_eq];omega
  refine List.Perm.eq_of_pairwise (le:=fun a b=>decide (a<=b)=true) (fun a b _ _ h1 h2=>?_) (List.pairwise_mergeSort tr to ss) (hl.imp fun h=>?_) ((List.mergeSort_perm ss _).trans hperm)
  ·simp only[decide_eq_true_eq]at h1 h2;omega
  ·rw[decide_eq_true_eq];omega
 have hlen:ss.length=l.length:=hperm.length_eq
 rw[hsort,hlen]at hrow
 obtain⟨a,c,rfl,H⟩:=aJ hb hrow
 exact⟨a,c,rfl,H⟩
theorem Jy(b:Nat)(al:List (ByteArray×Value))(w:World)(hm:MapAt Le w b al):
  Calls Tryz.prog 64 #[.map (some b)] w fun e w'=>∃b',e=.returned (.map (some b'))/\Hp [] w w' [.smap b' al]:=by
 obtain⟨es,clock,h1,h2⟩:=hm
 refine Calls.mono (AnyW.maps_Clone mclL b es clock w h1) ?_
 rintro e w' ⟨rfl,rfl⟩
 refine⟨_,rfl,(Hp.start w).add ⟨rfl,rfl,rfl,by simp,fun k hk _=>alloc_old w _ k hk⟩ (a':=.smap w.heap.size al) ⟨es,clock,Gm w _,h2⟩ ?_⟩
 intro k hk
 simp[Asn.foot]at hk;subst hk;exact Nat.le_refl _
end Go.Proofs.YtdeebigmpffnbaaGreat
namespace Go.Vc
open Go
def valN(l:List UInt8):Nat:=l.foldl (fun n x=>n*256+x.toNat) 0
def num(l:List UInt8):Int:=IntKind.i64.wrap (valN l:Int)
theorem JV(x:Int):IntKind.i64.wrap x=if x%18446744073709551616≥9223372036854775808 then x%18446744073709551616-18446744073709551616 else x%18446744073709551616:=by
 simp[IntKind.wrap,IntKind.signed,IntKind.bits]
theorem wrap64_cong{x y:Int}(h:x%18446744073709551616=y%18446744073709551616):IntKind.i64.wrap x=IntKind.i64.wrap y:=by
 rw[JV,JV,h]
theorem LM(x:Int):IntKind.i64.wrap x%18446744073709551616=x%18446744073709551616:=by
 rw[JV];split<;>omega
theorem Qy{x y:Int}(h:x%18446744073709551616=y%18446744073709551616):BitVec.ofInt 64 x=BitVec.ofInt 64 y:=by
 apply BitVec.eq_of_toNat_eq
 rw[BitVec.toNat_ofInt,BitVec.toNat_ofInt]
 have:(((2^64:Nat):Int))=18446744073709551616:=by decide
 rw[this,h]
theorem Y4(v y:Nat)(hy:y<256):Vc.bits .or .i64 (IntKind.i64.wrap (IntKind.i64.wrap (v:Int)*2^min (Int.toNat 8) (IntKind.bits .i64))) (IntKind.i64.wrap (y:Int))=IntKind.i64.wrap ((v*256+y:Nat):Int):=by
 have e1:(2:Int)^min (Int.toNat 8) (IntKind.bits .i64)=256:=by decide
 rw[e1]
 show IntKind.i64.wrap ((BitVec.ofInt 64 (IntKind.i64.wrap (IntKind.i64.wrap (v:Int)*256))|||BitVec.ofInt 64 (IntKind.i64.wrap (y:Int))).toNat:Int)=_
 have e2:BitVec.ofInt 64 (IntKind.i64.wrap (IntKind.i64.wrap (v:Int)*256))=BitVec.ofInt 64 (((v%2^56)*256:Nat):Int):=by
  apply Qy
  rw[LM]
  have:=LM (v:Int)
  omega
 have e3:BitVec.ofInt 64 (IntKind.i64.wrap (y:Int))=BitVec.ofInt 64 (y:Int):=Qy (LM _)
 rw[e2,e3]
 apply wrap64_cong
 rw[BitVec.toNat_or,BitVec.toNat_ofInt,BitVec.toNat_ofInt]
 have h1:((((v%2^56)*256:Nat):Int)%((2^64:Nat):Int)).toNat=(v%2^56)<<<8:=by
  rw[Nat.shiftLeft_eq];omega
 have h2:((y:Int)%((2^64:Nat):Int)).toNat=y:=by omega
 rw[h1,h2,<- Nat.shiftLeft_add_eq_or_of_lt (by omega),Nat.shiftLeft_eq]
 omega
theorem IY(l:List UInt8)(x:UInt8):valN (l++[x])=valN l*256+x.toNat:=by simp[valN,List.foldl_append]
theorem JG(l:List UInt8):valN l<256^l.length:=by
 have:∀(l:List UInt8)(a:Nat),l.foldl (fun n x=>n*256+x.toNat) a<(a+1)*256^l.length:=by
  intro l
  induction l with
  |nil=>intro a;simp
  |cons x r ih=>
   intro a
   have h1:=ih (a*256+x.toNat)
   have h2:=x.toNat_lt
   rw[List.foldl_cons,length_cons,Nat.pow_succ]
   have h3:(a*256+x.toNat+1)*256^r.length<=((a+1)*256)*256^r.length:=Nat.mul_le_mul_right _ (by omega)
   have h4:(a+1)*(256^r.length*256)=((a+1)*256)*256^r.length:=by rw[Nat.mul_comm (256^r.length) 256,Nat.mul_assoc]
   omega
 simpa [valN]using this l 0
theorem valN_be(n:Int)(h0:0<=n):∀k,valN (be n k)=n.toNat%256^k:=by
 have aux:∀k (a:Nat),(be n k).foldl (fun n x=>n*256+x.toNat) a=a*256^k+n.toNat%256^k:=by
  intro k
  induction k with
  |zero=>intro a;simp[be,Nat.mod_one]
  |succ k ih=>
   intro a
   have h1:(bt n k).toNat=n.toNat/256^k%256:=by
    have h2:=KL n k
    have h3:(2:Int)^(8*k)=((256^k:Nat):Int):=by
     rw[Int.pow_mul];simp
    rw[h3]at h2
    have h4:n/((256^k:Nat):Int)=((n.toNat/256^k:Nat):Int):=by
     rw[Int.natCast_ediv,Int.toNat_of_nonneg h0]
    rw[h4]at h2
    omega
   rw[be,List.foldl_cons,ih,h1,Nat.pow_succ]
   have h5:n.toNat%(256^k*256)=n.toNat%256^k+256^k*(n.toNat/256^k%256):=Nat.mod_mul
   rw[h5,Nat.add_mul,Nat.mul_assoc,Nat.mul_comm 256 (256^k),Nat.mul_comm (n.toNat/256^k%256)]
   omega
 intro k
 simpa [valN]using aux k 0
theorem Dj{n:Int}{k:Nat}(h0:0<=n)(h1:n<256^k):(valN (be n k):Int)=n:=by
 rw[valN_be n h0,Nat.mod_eq_of_lt]
 ·omega
 ·have:((256^k:Nat):Int)=256^k:=by simp
  omega
theorem num_be{n:Int}{k:Nat}(h0:0<=n)(h1:n<256^k)(h2:n<9223372036854775808):num (be n k)=n:=by
 rw[num,Dj h0 h1,JV,if_neg (by omega)]
 omega
theorem take_left{α:Type}(a b:List α)(n:Nat)(h:a.length=n):(a++b).take n=a:=by subst h;simp
theorem drop_left{α:Type}(a b:List α)(n:Nat)(h:a.length=n):(a++b).drop n=b:=by subst h;simp
theorem I4(l:List UInt8)(i j:Nat):(ByteArray.mk l.toArray).extract i j=⟨((l.take j).drop i).toArray⟩:=by
 apply ByteArray.ext
 apply Array.ext'
 rw[ByteArray.data_extract,Array.toList_extract,List.extract_eq_take_drop]
 simp only[List.drop_take]
theorem Gt(l:List UInt8)(k:Nat)(h:k<l.length):valN (l.take (k+1))=valN (l.take k)*256+l[k].toNat:=by
 rw[List.take_succ_eq_append_getElem h,IY]
theorem valN_mono(l:List UInt8)(k:Nat):valN (l.take k)<=valN l:=by
 have aux:∀(r:List UInt8)(a:Nat),a<=r.foldl (fun n x=>n*256+x.toNat) a:=by
  intro r
  induction r with
  |nil=>intro a;exact Nat.le_refl _
  |cons x r ih=>intro a;exact Nat.le_trans (m:=a*256+x.toNat) (by omega) (ih (a*256+x.toNat))
 have:valN l=(l.drop k).foldl (fun n x=>n*256+x.toNat) (valN (l.take k)):=by rw[valN,valN,<- List.foldl_append,List.take_append_drop]
 rw[this];exact aux _ _
theorem wrapByte(x:UInt8):IntKind.i64.wrap (x.toNat:Int)=(x.toNat:Int):=DN (by have:=x.toNat_lt;omega)
theorem QC(x:List UInt8):(ByteArray.mk x.toArray).size=x.length:=by simp[ByteArray.size]
theorem X7(v y:Nat)(hv:v<36028797018963968)(hy:y<256):Vc.bits .or .i64 ((v:Int)*2^min (Int.toNat 8) (IntKind.bits .i64)) (IntKind.i64.wrap (y:Int))=((v*256+y:Nat):Int):=by
 have h:=Y4 v y hy
 have e1:(2:Int)^min (Int.toNat 8) (IntKind.bits .i64)=256:=by decide
 rw[e1]at h⊢
 rw[DN (z:=(v:Int)) (by omega),DN (z:=(v:Int)*256) (by omega),DN (z:=((v*256+y:Nat):Int)) (by omega)]at h
 exact h
theorem nope{p:Prop}[Decidable p](h:¬p):Ending.returned (Value.bool false)=.returned (.bool (decide p)):=by rw[decide_eq_false h]
section
variable{P:Program}{w:World}{b:Nat}{cs:List Value}{T e:TypeId}{o n c m:Nat}
theorem Xx(h:Blk w b cs T)(vs:List Value)(one:∀u∈vs,u.oneCell'=true)(hfit:o+vs.length<=cs.length):∃w1,(storeCells ⟨b,o,none⟩ vs).run P w=.ok () w1/\Blk w1 b (over vs o cs) T/\Chg [b] w w1:=by
 have hrun:=DT (P:=P) (b:=b) (T:=T) (fz:=(0,0)) vs w cs ⟨b,o,none⟩ o 0 rfl (fun j=>by simp[add_lit]) h hfit (fun k _ _=>by simp) one
 refine⟨_,hrun,?_,?_⟩
 ·split
  ·rename_i hn;rw[hn,Dc];exact h
  ·exact Dl h.lt
 ·split
  ·exact Chg.refl _ _
  ·exact DI _ _ _
theorem Blk.cpy{dT tx ty:TypeId}{x:Value}{news:List Value}(h:Blk w b cs T)(hd:P.underlying dT=some (.slice e))(hs:ER P e=some 1)(hx:Src P 1 tx x m news w)(hmn:m<=n)(hfit:o+m<=cs.length):
  ∃w1,Cpy P #[dT,tx] ty w (.slice (some ⟨b,o,none⟩) n c) x (.int .i64 (m:Int)) w1/\Blk w1 b (over news o cs) T/\Chg [b] w w1:=by
 have hl:=hx.newsLen
 obtain⟨w1,h1,h2,h3⟩:=Xx (P:=P) (o:=o) h news hx.one (by omega)
 refine⟨w1,?_,h2,h3⟩
 have hmin:Nat.min m n=m:=Nat.min_eq_left hmn
 have hz:(sizeOf e).run P w=.ok 1 w:=ED hs w
 have hc:=hx.cells
 simp only[Cpy,Builtin.copy_]
 simp[Am hd,hx.len w,hmin,hz,hc,h1,goInt]
theorem Blk.clr{dT ty:TypeId}{z:Value}(h:Blk w b cs T)(hd:P.underlying dT=some (.slice e))(hz:zeroOf P e=some z)(hz1:z.cells= #[z])(hone:z.oneCell'=true)(hfit:o+n<=cs.length):
  ∃w1,Clr P #[dT] ty w (.slice (some ⟨b,o,none⟩) n c) w1/\Blk w1 b (over (List.replicate n z) o cs) T/\Chg [b] w w1:=by
 cases n with
 |zero=>
  refine⟨w,?_,by rw[List.replicate_zero,Dc];exact h,Chg.refl _ _⟩
  simp only[Clr,Builtin.clear_]
  simp[Am hd]
 |succ n=>
  obtain⟨w1,h1,h2,h3⟩:=Xx (P:=P) (o:=o) h (List.replicate (n+1) z) (fun u hu=>by rw[List.eq_of_mem_replicate hu];exact hone) (by simpa using hfit)
  refine⟨w1,?_,h2,h3⟩
  have hzv:(zeroValue e).run P w=.ok z w:=He hz w
  have hcell:(Builtin.zeroCells z.cells (n+1)).toList=List.replicate (n+1) z:=by
   rw[hz1]
   apply ext_getElem?
   intro k
   simp only[Builtin.zeroCells,size_toArray,length_cons,List.length_nil,Array.toList_map,Array.toList_range,List.getElem?_map,List.getElem?_replicate]
   by_cases hk:k<n+1
   ·rw[if_pos hk,List.getElem?_range (by omega)]
    simp[Nat.mod_one]
   ·rw[if_neg hk,List.getElem?_eq_none (by rw[List.length_range];omega)];rfl
  simp only[Clr,Builtin.clear_]
  simp[Am hd,hzv,hcell,h1]
end
section
variable{P:Program}{B:List Nat}{w0 w w':World}{L:List Asn}{b:Nat}{cs:List Value}{T e:TypeId}{o n c m:Nat}
theorem Hp.cpy{dT tx ty:TypeId}{x:Value}{news:List Value}(H:Hp B w0 w (.blk b cs T::L))(eq:Eqw w w')(hd:P.underlying dT=some (.slice e))(hs:ER P e=some 1)(hx:Src P 1 tx x m news w')(hmn:m<=n)(hfit:o+m<=cs.length){G:Int->World->Prop}
  (k:∀w1,Hp B w0 w1 (.blk b (over news o cs) T::L)->G (m:Int) w1):∃(i:Int)(w1:World),Cpy P #[dT,tx] ty w' (.slice (some ⟨b,o,none⟩) n c) x (.int .i64 i) w1/\G i w1:=by
 obtain⟨w1,h1,h2,h3⟩:=Blk.cpy (P:=P) (o:=o) (n:=n) (c:=c) (ty:=ty) ((H.go eq).blk (.head _)) hd hs hx hmn hfit
 exact⟨_,w1,h1,k w1 ((H.go eq).set h3 h2 fun k hk=>.inl hk)⟩
theorem Hp.clr{dT ty:TypeId}{z:Value}(H:Hp B w0 w (.blk b cs T::L))(eq:Eqw w w')(hd:P.underlying dT=some (.slice e))(hz:zeroOf P e=some z)(hz1:z.cells= #[z])(hone:z.oneCell'=true)(hfit:o+n<=cs.length){G:World->Prop}
  (k:∀w1,Hp B w0 w1 (.blk b (over (List.replicate n z) o cs) T::L)->G w1):∃(w1:World),Clr P #[dT] ty w' (.slice (some ⟨b,o,none⟩) n c) w1/\G w1:=by
 obtain⟨w1,h1,h2,h3⟩:=Blk.clr (P:=P) (o:=o) (n:=n) (c:=c) (ty:=ty) ((H.go eq).blk (.head _)) hd hz hz1 hone hfit
 exact⟨w1,h1,k w1 ((H.go eq).set h3 h2 fun k hk=>.inl hk)⟩
end
section
variable{x:Asn}{L L1 L':List Asn}{a b c d e f g h i j k:Asn}
theorem BH(h:L.Perm (x::L1))(h2:L1.Perm L'):L.Perm (x::L'):=h.trans (h2.cons x)
theorem Bq:(a::L).Perm (a::L):=.refl _
theorem Bo:(a::b::L).Perm (b::a::L):=DY [a] b L
theorem Bv:(a::b::c::L).Perm (c::a::b::L):=DY [a,b] c L
theorem Bi:(a::b::c::d::L).Perm (d::a::b::c::L):=DY [a,b,c] d L
theorem Bz:(a::b::c::d::e::L).Perm (e::a::b::c::d::L):=DY [a,b,c,d] e L
theorem CG:(a::b::c::d::e::f::L).Perm (f::a::b::c::d::e::L):=DY [a,b,c,d,e] f L
theorem CB:(a::b::c::d::e::f::g::L).Perm (g::a::b::c::d::e::f::L):=DY [a,b,c,d,e,f] g L
end
theorem J3(v a x c:List Value)(h:v.length=x.length):over v a.length (a++(x++c))=a++(v++c):=by
 apply ext_getElem?
 intro k
 rw[Gs _ _ _ (by simp[h])]
 by_cases h1:k<a.length
 ·rw[if_neg (by omega),List.getElem?_append_left h1,List.getElem?_append_left h1]
 ·by_cases h2:k<a.length+v.length
  ·rw[if_pos (by omega),List.getElem?_append_right (by omega),List.getElem?_append_left (by omega)]
  ·rw[if_neg (by omega),List.getElem?_append_right (by omega),List.getElem?_append_right (by omega),List.getElem?_append_right (by omega),List.getElem?_append_right (by omega),h]
theorem Cb{P:Program}{t:TypeId}{p:Option Addr}{x y:Operand}{w:World}(h:P.underlying t=some (.pointer (P.pointee t))):Eqv P .eql t x y w (.pointer p) (.pointer none) p.isNone:=by
 have:=run_eql_pointer_nil (P:=P) (w:=w) t p h
 simp only[Eqv,Sem.run_bind,eqGuard]
 simp[this]
theorem Xl{P:Program}{t:TypeId}{p:Option Addr}{x y:Operand}{w:World}(h:P.underlying t=some (.pointer (P.pointee t))):Eqv P .neq t x y w (.pointer p) (.pointer none) (!p.isNone):=by
 have:=run_neq_pointer_nil (P:=P) (w:=w) t p h
 simp only[Eqv,Sem.run_bind,eqGuard]
 simp[this]
section
variable{B:List Nat}{w0 w w':World}{L:List Asn}{x y x' y':Asn}
end
theorem Hp.BQ{B:List Nat}{w0 w:World}{L R:List Asn}(H:Hp B w0 w (L++R)):Hp B w0 w L:=
 ⟨H.chg,fun b hb=>H.ok b (List.mem_append_left _ hb),fun b hb=>H.own b (List.mem_append_left _ hb),(List.pairwise_append.1 H.sep).1⟩
def bu{K:Type}(al:List (K×Value)):Prop:=(al.map (·.1)).Nodup
theorem bu.perm{K:Type}{al bl:List (K×Value)}(h:bu al)(p:al.Perm bl):bu bl:=(p.map _).nodup_iff.1 h
section
variable{K:Type}[DecidableEq K]
theorem Qe:∀{al:List (K×Value)},bu al->∀{k:K}{v:Value},aget al k=some v↔(k,v)∈al
 | [],h,k,v=>by simp[aget]
 |(x,u)::r,h,k,v=>by
  simp only[bu,map_cons,nodup_cons]at h
  simp only[aget,mem_cons,Prod.mk.injEq]
  by_cases e:k=x
  ·subst e
   rw[if_pos rfl]
   refine⟨fun h2=>.inl ⟨rfl,(Option.some.inj h2).symm⟩,fun h2=>?_⟩
   rcases h2 with⟨_,rfl⟩|h2
   ·rfl
   ·exact absurd (mem_map.2 ⟨_,h2,rfl⟩) h.1
  ·rw[if_neg e,Qe (al:=r) h.2]
   exact⟨.inr,fun h2=>h2.elim (fun h3=>absurd h3.1 e) id⟩
theorem OE:∀{al:List (K×Value)}{k:K},aget al k=none↔k∉al.map (·.1)
 | [],k=>by simp[aget]
 |(x,u)::r,k=>by
  simp only[aget,map_cons,mem_cons,not_or]
  by_cases e:k=x
  ·rw[if_pos e];simp[e]
  ·rw[if_neg e,OE (al:=r)];simp[e]
theorem aget_perm{al bl:List (K×Value)}(h:bu al)(p:al.Perm bl)(k:K):aget al k=aget bl k:=by
 cases e:aget al k with
 |none=>exact(OE.2 fun hm=>OE.1 e ((p.map _).mem_iff.2 hm)).symm
 |some v=>exact((Qe (h.perm p)).2 (p.mem_iff.1 ((Qe h).1 e))).symm
def acut(al:List (K×Value))(k:K):List (K×Value):=al.filter fun p=> !decide (p.1=k)
theorem U6:∀{al:List (K×Value)}{k:K},k∉al.map (·.1)->acut al k=al:=by
 intro al k h
 refine List.filter_eq_self.2 fun p hp=>?_
 have:p.1≠k:=fun e=>h (mem_map.2 ⟨p,hp,e⟩)
 simp[this]
theorem X3:∀{al:List (K×Value)},bu al->∀(k:K),adel al k=acut al k
 | [],h,k=>rfl
 |(x,u)::r,h,k=>by
  simp only[bu,map_cons,nodup_cons]at h
  simp only[adel,acut,filter_cons]
  by_cases e:k=x
  ·subst e
   rw[if_pos rfl]
   simp only[decide_true,Bool.not_true,Bool.false_eq_true,if_false]
   exact(U6 h.1).symm
  ·have e':x≠k:=fun h=>e h.symm
   rw[if_neg e]
   simp only[e',decide_false,Bool.not_false,if_true,X3 (al:=r) h.2 k,acut]
theorem Oz:∀{al:List (K×Value)},bu al->∀(k:K)(v:Value),(aput al k v).Perm ((k,v)::acut al k)
 | [],h,k,v=>.refl _
 |(x,u)::r,h,k,v=>by
  simp only[bu,map_cons,nodup_cons]at h
  simp only[aput,acut,filter_cons]
  by_cases e:k=x
  ·subst e
   rw[if_pos rfl]
   simp only[decide_true,Bool.not_true,Bool.false_eq_true,if_false]
   have:=U6 h.1
   rw[acut]at this
   rw[this]
  ·have e':x≠k:=fun h=>e h.symm
   rw[if_neg e]
   simp only[e',decide_false,Bool.not_false,if_true]
   exact((Oz (al:=r) h.2 k v).cons _).trans (.swap _ _ _)
theorem Ut{al bl:List (K×Value)}(p:al.Perm bl)(k:K):(acut al k).Perm (acut bl k):=p.filter _
end
structure Std(w:World)(L:List Asn):Prop where
 ok:∀a∈L,a.ok w
 sep:L.Pairwise fun a b=>∀k∈a.foot,k∉b.foot
def feet(L:List Asn):List Nat:=L.flatMap Asn.foot
theorem Dy{L:List Asn}{k:Nat}:k∈feet L↔∃a∈L,k∈a.foot:=by simp[feet]
section
variable{B:List Nat}{w0 w w':World}{L L1 L2 M R:List Asn}
theorem Hp.Ap(h:Std w L):Hp (feet L) w w L:=⟨Chg.refl _ _,h.ok,fun a ha k hk=>.inl (Dy.2 ⟨a,ha,hk⟩),h.sep⟩
theorem Hp.std(H:Hp B w0 w L):Std w L:=⟨H.ok,H.sep⟩
theorem Hp.std1(H:Hp B w0 w (L1++L2)):Std w L1:=H.BQ.std
theorem Hp.useL(H:Hp B w0 w (L1++L2))(H':Hp (feet L1) w w' M):Hp B w0 w' (M++L2):=Hp.use H H' fun k hk=>Dy.1 hk
theorem Hp.Dq(H:Hp B w0 w L)(H':Hp (feet L) w w' M):Hp B w0 w' M:=by
 have h:Hp B w0 w (L++[]):=by rw[List.append_nil];exact H
 have:=h.useL H'
 rwa [List.append_nil]at this
end
end Go.Vc
namespace Go.Vault
open Go Go.Vc
structure Fl where
 now:List (List UInt8)
 firm:List (List UInt8)
 since:List Nat
def Fl.none:Fl:=⟨[],[],[]⟩
structure Nm where
 name:ByteArray
 file:Nat
inductive Ch where
 |create (n:ByteArray) (k:Nat)
 |rename (a b:ByteArray) (k:Nat)
 |remove (n:ByteArray)
structure Dk where
 room:Nat
 files:List Fl
 firm:List Nm
 chs:List Ch
 armed:Nat
 denied:Nat
 dead:Bool
def nget:List Nm->ByteArray->Option Nat
 | [],_=>none
 |p::r,n=>if p.name=n then some p.file else nget r n
def without(l:List Nm)(n:ByteArray):List Nm:=l.filter fun p=> !decide (p.name=n)
def Vq(a b:ByteArray):Bool:=Op.bytesLess a.data.toList b.data.toList||decide (a=b)
def ins(n:Nm):List Nm->List Nm
 | []=>[n]
 |p::r=>if Vq p.name n.name then p::ins n r else n::p::r
def with_(l:List Nm)(n:Nm):List Nm:=ins n (without l n.name)
def Ch.on(l:List Nm):Ch->List Nm
 |.create n k=>with_ l ⟨n,k⟩
 |.rename a b k=>with_ (without l a) ⟨b,k⟩
 |.remove n=>without l n
def ons(l:List Nm)(cs:List Ch):List Nm:=cs.foldl Ch.on l
def Dk.names(d:Dk):List Nm:=ons d.firm d.chs
def Dk.find(d:Dk)(n:ByteArray):Option Nat:=nget d.names n
def Dk.file(d:Dk)(k:Nat):Fl:=d.files.getD k Fl.none
def Dk.len(d:Dk)(k:Nat):Nat:=(d.file k).now.length
def Dk.size(d:Dk)(n:ByteArray):Int:=match d.find n with
 |some k=>d.len k
 |none=> -1
def Dk.used(d:Dk):Nat:=(d.names.map fun p=>d.len p.file).sum
def Dk.new(room:Int):Dk:=⟨(min (max room 0) 65536).toNat,[],[],[],0,0,false⟩
def right(n:ByteArray):Bool:=decide (1<=n.size)&&decide (n.size<=60)
def Dk.dies(d:Dk):Dk:=if 0<d.armed then {d with armed:=d.armed-1,dead:=decide (d.armed-1=0)} else d
def Dk.code(d:Dk):Int:=if d.dead then 93 else 0
def Dk.denies(d:Dk):Dk:= {d with denied:=d.denied-1}
def Dk.refused(d:Dk):Bool:=decide (d.denied=1)
def Dk.change(d:Dk)(c:Ch):Dk:= {d with chs:=d.chs++[c]}
def Dk.put(d:Dk)(k:Nat)(f:Fl):Dk:= {d with files:=d.files.set k f}
def zsec:List UInt8:=List.replicate 512 0
def pad(b:List UInt8):List UInt8:=b++List.replicate (512-b.length) 0
def addN(n:Nat):List Nat->List Nat
 | []=>[n]
 |x::r=>if n<x then n::x::r else if n=x then x::r else x::addN n r
def Fl.write(f:Fl)(n:Nat)(b:List UInt8):Fl:=
 {f with now:=(if n=f.now.length then f.now++[pad b]else f.now.set n (pad b)),since:=addN n f.since}
def Fl.sync(f:Fl):Fl:=⟨f.now,f.now,[]⟩
def Dk.create(d:Dk)(n:ByteArray):Dk×Int:=
 if d.dead then(d,93)else if !right n then(d,92)else
 let d1:=(Dk.change {d with files:=d.files++[Fl.none]} (.create n d.files.length)).dies
 (d1,d1.code)
def Dk.rename(d:Dk)(a b:ByteArray):Dk×Int:=
 if d.dead then(d,93)else match d.find a with
 |none=>(d,90)
 |some k=>if !right b then(d,92)else if a=b then(d,0)else
  let d1:=(d.change (.rename a b k)).dies
  (d1,d1.code)
def Dk.write(d:Dk)(n:ByteArray)(i:Int)(b:List UInt8):Dk×Int:=
 if d.dead then(d,93)else match d.find n with
 |none=>(d,90)
 |some k=>
  if i<0\/d.len k<i\/512<b.length then(d,91)else
  if i=d.len k/\d.room<=d.used then(d,94)else
  if d.refused then(d.denies,95)else
  let d1:=(d.denies.put k ((d.file k).write i.toNat b)).dies
  (d1,d1.code)
def Dk.read(d:Dk)(n:ByteArray)(i:Int):List UInt8×Int:=
 if d.dead then([],93)else match d.find n with
 |none=>([],90)
 |some k=>if i<0\/d.len k<=i then([],91)else((d.file k).now.getD i.toNat [],0)
def Dk.sync(d:Dk)(n:ByteArray):Dk×Int:=
 if d.dead then(d,93)else match d.find n with
 |none=>(d,90)
 |some k=>
  if d.refused then(d.denies,95)else
  let d1:=d.denies.dies
  if d1.dead then(d1,93)else(d1.put k (d.file k).sync,0)
def Dk.Ad(d:Dk):Dk×Int:=
 if d.dead then(d,93)else
 let d1:=d.dies
 if d1.dead then(d1,93)else({d1 with firm:=d.names,chs:=[]},0)
def Dk.arm(d:Dk)(k:Int):Dk:= {d with armed:=(max k 0).toNat}
def Dk.deny(d:Dk)(k:Int):Dk:= {d with denied:=(max k 0).toNat}
def pick(p:Int):Nat:=(min (max p 0) 512).toNat
def fill(l:List (List UInt8))(n:Nat):List (List UInt8):=l++List.replicate (n+1-l.length) zsec
def mend(now l:List (List UInt8))(n p:Nat):List (List UInt8):=
 if p=0 then l else(fill l n).set n ((now.getD n []).take p++((fill l n).getD n []).drop p)
def Ff(now:List (List UInt8)):List Nat->List Int->List (List UInt8)->List (List UInt8)
 | [],_,l=>l
 |n::r,ps,l=>Ff now r ps.tail (mend now l n (pick (ps.headD 0)))
def Fl.found(f:Fl)(ps:List Int):Fl:=
 let l:=Ff f.now f.since ps f.firm
 ⟨l,l,[]⟩
def D6:List Fl->List Int->List Fl
 | [],_=>[]
 |f::r,ps=>f.found ps::D6 r (ps.drop f.since.length)
def Dk.bV(d:Dk)(names:Int)(ps:List Int):Dk:=
 ⟨d.room,D6 d.files ps,ons d.firm (d.chs.take (min (max names 0) d.chs.length).toNat),[],0,0,false⟩
structure Fl.Ok(f:Fl):Prop where
 now:∀s∈f.now,s.length=512
 firm:∀s∈f.firm,s.length=512
 since:f.since.Pairwise (· < ·)
 below:∀n∈f.since,n<f.now.length
 len:f.firm.length<=f.now.length
def Nm.Ok(m:Nat)(p:Nm):Prop:=p.file<m/\p.name.size<=60
def canRemove:Prop:=False
def Ch.Ok(m:Nat):Ch->Prop
 |.create n k=>(Nm.mk n k).Ok m
 |.rename _ b k=>(Nm.mk b k).Ok m
 |.remove _=>canRemove
def bi(l:List Nm):Prop:=l.Pairwise fun a b=>a.name.data.toList<b.name.data.toList
structure Dk.Ok(d:Dk):Prop where
 room:d.room<=65536
 files:∀f∈d.files,f.Ok
 firm:∀p∈d.firm,p.Ok d.files.length
 chs:∀c∈d.chs,c.Ok d.files.length
 rise:bi d.firm
 armed:(d.armed:Int)<=9223372036854775807
 denied:(d.denied:Int)<=9223372036854775807
structure Dk.Few(d:Dk)(N:Nat):Prop where
 files:d.files.length<=N
 now:∀f∈d.files,f.now.length<=N
 firm:d.firm.length<=N
 chs:d.chs.length<=N
def ltN(a b:Nm):Prop:=a.name.data.toList<b.name.data.toList
theorem SI{a b:ByteArray}:Vq a b=true↔a.data.toList<=b.data.toList:=by
 rw[Vq,Proofs.bytesLess_eq,Bool.or_eq_true,decide_eq_true_eq,decide_eq_true_eq]
 constructor
 ·rintro(h|rfl)
  ·exact List.le_of_lt h
  ·exact List.le_refl _
 ·intro h
  rcases List.le_iff_lt_or_eq.1 h with h|h
  ·exact .inl h
  ·obtain⟨a⟩:=a
   obtain⟨b⟩:=b
   exact .inr (congrArg ByteArray.mk (Array.ext' h))
theorem ltN_of{a b:ByteArray}(h:Vq a b=false):b.data.toList<a.data.toList:=by
 have:¬a.data.toList<=b.data.toList:=fun h2=>by rw[SI.2 h2]at h;cases h
 exact List.not_le.1 this
theorem ltN_ne{a b:Nm}(h:ltN a b):a.name≠b.name:=fun e=>by
 rw[ltN,e]at h;exact List.lt_irrefl _ h
theorem Yg{a b:ByteArray}(h:a.data.toList=b.data.toList):a=b:=by
 obtain⟨a⟩:=a
 obtain⟨b⟩:=b
 exact congrArg ByteArray.mk (Array.ext' h)
theorem S9(n:Nm):∀l,(ins n l).Perm (n::l)
 | []=>.refl _
 |p::r=>by
  simp only[ins]
  split
  ·exact((S9 n r).cons p).trans (.swap n p r)
  ·exact .refl _
theorem Oq(l:List Nm)(n:Nm):(with_ l n).Perm (n::without l n.name):=S9 n _
theorem FV{l:List Nm}(h:bi l)(n:ByteArray):bi (without l n):=h.filter _
theorem Ql{n:Nm}:∀{l:List Nm},bi l->(∀p∈l,p.name≠n.name)->bi (ins n l)
 | [],h,hn=>by simp[ins,bi]
 |p::r,h,hn=>by
  simp only[ins]
  have hp:=pairwise_cons.1 h
  split
  ·rename_i h1
   refine pairwise_cons.2 ⟨fun q hq=>?_,Ql hp.2 fun q hq=>hn q (.tail _ hq)⟩
   rcases mem_cons.1 ((S9 n r).mem_iff.1 hq)with rfl|hq
   ·rcases List.le_iff_lt_or_eq.1 (SI.1 h1)with h2|h2
    ·exact h2
    ·exact absurd (Yg h2) (hn p (.head _))
   ·exact hp.1 q hq
  ·rename_i h1
   have h2:=ltN_of (Bool.eq_false_iff.2 h1)
   exact pairwise_cons.2 ⟨fun q hq=>by
    rcases mem_cons.1 hq with rfl|hq
    ·exact h2
    ·exact List.lt_trans h2 (hp.1 q hq),h⟩
theorem Pj{l:List Nm}(h:bi l)(n:Nm):bi (with_ l n):=
 Ql (FV h _) fun p hp=>by simpa using(mem_filter.1 hp).2
theorem Ch.rising{l:List Nm}(h:bi l):∀c:Ch,bi (c.on l)
 |.create n k=>Pj h _
 |.rename a b k=>Pj (FV h _) _
 |.remove n=>FV h _
theorem Lu:∀(cs:List Ch){l:List Nm},bi l->bi (ons l cs)
 | [],l,h=>h
 |c::r,l,h=>Lu r (c.rising h)
theorem Dk.Ok.names{d:Dk}(h:d.Ok):bi d.names:=Lu _ h.rise
theorem J6(l:List Nm)(n:ByteArray):(without l n).length<=l.length:=List.length_filter_le ..
theorem XJ(l:List Nm)(n:Nm):(with_ l n).length<=l.length+1:=by
 have:=(Oq l n).length_eq
 have h2:=J6 l n.name
 simp only[length_cons]at this
 omega
theorem Ch.len(l:List Nm):∀c:Ch,(c.on l).length<=l.length+1
 |.create n k=>XJ _ _
 |.rename a b k=>by
  have h1:=XJ (without l a) ⟨b,k⟩
  have h2:=J6 l a
  show(with_ (without l a) ⟨b,k⟩).length<=_
  omega
 |.remove n=>by
  have:=J6 l n
  show(without l n).length<=_
  omega
theorem VE{l:List Nm}{n:Nm}{m:Nat}(h:∀p∈l,p.Ok m)(hn:n.Ok m):∀p∈with_ l n,p.Ok m:=fun p hp=>by
 rcases mem_cons.1 ((Oq l n).mem_iff.1 hp)with rfl|hp
 ·exact hn
 ·exact h p (mem_filter.1 hp).1
theorem NL{l:List Nm}{n:ByteArray}{m:Nat}(h:∀p∈l,p.Ok m):∀p∈without l n,p.Ok m:=fun p hp=>h p (mem_filter.1 hp).1
theorem Ch.file{l:List Nm}{m:Nat}(h:∀p∈l,p.Ok m):∀c:Ch,c.Ok m->∀p∈c.on l,p.Ok m
 |.create n k,hc=>VE h hc
 |.rename a b k,hc=>VE (NL h) hc
 |.remove n,hc=>NL h
theorem Sz{m:Nat}:∀(cs:List Ch){l:List Nm},(∀p∈l,p.Ok m)->(∀c∈cs,c.Ok m)->∀p∈ons l cs,p.Ok m
 | [],l,h,hc=>h
 |c::r,l,h,hc=>Sz r (c.file h (hc c (.head _))) fun x hx=>hc x (.tail _ hx)
theorem Dk.Ok.nms{d:Dk}(h:d.Ok):∀p∈d.names,p.Ok d.files.length:=Sz _ h.firm h.chs
theorem Dk.Ok.file{d:Dk}(h:d.Ok):∀p∈d.names,p.file<d.files.length:=fun p hp=>(h.nms p hp).1
theorem Nm.Ok.mono{m m':Nat}{p:Nm}(h:p.Ok m)(hm:m<=m'):p.Ok m':=⟨Nat.lt_of_lt_of_le h.1 hm,h.2⟩
theorem Ch.Ok.mono{m m':Nat}{c:Ch}(h:c.Ok m)(hm:m<=m'):c.Ok m':=by
 cases c with
 |create n k=>exact Nm.Ok.mono h hm
 |rename a b k=>exact Nm.Ok.mono h hm
 |remove n=>exact h
theorem XU:∀{l:List Nm}{n:ByteArray}{k:Nat},nget l n=some k->∃p∈l,p.name=n/\p.file=k
 |p::r,n,k,h=>by
  simp only[nget]at h
  split at h
  ·rename_i e;exact⟨p,.head _,e,Option.some.inj h⟩
  ·obtain⟨q,hq,h2⟩:=XU h;exact⟨q,.tail _ hq,h2⟩
theorem Dk.Ok.find{d:Dk}(h:d.Ok){n:ByteArray}{k:Nat}(hk:d.find n=some k):k<d.files.length:=by
 obtain⟨p,hp,_,rfl⟩:=XU hk
 exact h.file p hp
def nvl(l:List Nm):List (ByteArray×Value):=l.map fun p=>(p.name,.int .i64 (p.file:Int))
theorem OO{l:List Nm}(h:bi l):bu (nvl l):=by
 have e:(nvl l).map (·.1)=l.map (·.name):=by simp[nvl,Function.comp_def]
 rw[bu,e]
 exact List.pairwise_map.2 (h.imp fun h=>ltN_ne h)
theorem Yi:∀(l:List Nm)(n:ByteArray),aget (nvl l) n=(nget l n).map fun k=>.int .i64 (k:Int)
 | [],n=>rfl
 |p::r,n=>by
  simp only[nvl,map_cons,aget,nget]
  by_cases e:p.name=n
  ·rw[if_pos e.symm,if_pos e];rfl
  ·rw[if_neg (fun h=>e h.symm),if_neg e];exact Yi r n
theorem PT(l:List Nm)(n:ByteArray):nvl (without l n)=acut (nvl l) n:=by
 simp only[nvl,without,acut,List.filter_map];rfl
theorem Yt{l:List Nm}(h:bi l){al:List (ByteArray×Value)}(p:al.Perm (nvl l))(n:Nm):(aput al n.name (.int .i64 (n.file:Int))).Perm (nvl (with_ l n)):=by
 have ha:bu al:=(OO h).perm p.symm
 refine(Oz ha _ _).trans ?_
 refine List.Perm.trans ?_ ((Oq l n).map _).symm
 simp only[map_cons]
 refine List.Perm.cons _ ?_
 have:=Ut p n.name
 rw[<- PT]at this
 exact this
theorem Zm{l:List Nm}(h:bi l){al:List (ByteArray×Value)}(p:al.Perm (nvl l))(n:ByteArray):(adel al n).Perm (nvl (without l n)):=by
 have ha:bu al:=(OO h).perm p.symm
 rw[X3 ha,PT]
 exact Ut p n
theorem VA{l:List Nm}(h:bi l){al:List (ByteArray×Value)}(p:al.Perm (nvl l))(n:ByteArray):aget al n=(nget l n).map fun k=>.int .i64 (k:Int):=by
 rw[<- Yi]
 exact aget_perm ((OO h).perm p.symm) p n
end Go.Vault
