/- Part 8: The keys of a map, sorted: what these calls hand back. Bindery's law: its script in memory. Bindery's law: the functions of the law and of the world that it calls, walked. Bindery's law: without a store each step is answered by an error, and the disk stays empty; walked. -/
import Derived.Test.YtfcofkdpbmjefaaGreatCl7
import Derived.StringKeys
import Derived.Test.YtfcofkdpbmjefaaGreatRows
set_option linter.unusedVariables false
set_option linter.unusedSimpArgs false
set_option maxRecDepth 100000
namespace Go.Proofs.YtfcofkdpbmjefaaGreat
open Go Go.Vc Go.Proofs Go.RowKit Go.Maps Go.Sort Go.Shelf
theorem chg_below {w w' : World} (h : Below w.heap.size w w') : Chg [] w w' := ⟨h.os, h.tape, h.output, h.size, fun k hk _ => h.block k hk⟩
theorem hp_row {w w' : World} {e : TypeId} {v : Value} {n : Nat} {xs : List Value} (hb : Below w.heap.size w w') (h : w'.ownsRow w.heap.size e 1 v n xs) :
    ∃ a c, v = .slice a n c ∧ Hp [] w w' [.own e 1 a n c xs] := by
  obtain ⟨h1, ⟨rfl, rfl⟩ | ⟨g, cap, cur, rfl, h2, h3, h4, h5, h6, h7⟩⟩ := h
  · refine ⟨none, 0, rfl, chg_below hb, ?_, by simp [Asn.foot, blks], by simp⟩
    intro a ha
    rw [List.mem_singleton] at ha; subst ha
    exact ⟨h1, .inl ⟨rfl, rfl, rfl⟩⟩
  · refine ⟨some ⟨g, 0, none⟩, cap, rfl, chg_below hb, ?_, ?_, by simp⟩
    · intro a ha
      rw [List.mem_singleton] at ha; subst ha
      exact ⟨h1, .inr ⟨g, cur, (0, 0), rfl, Nat.zero_le _, h3, Thaw.zero _, h4, h5, Nat.le_of_eq h6.symm, h7⟩⟩
    · intro a ha k hk
      rw [List.mem_singleton] at ha; subst ha
      simp [Asn.foot, blks] at hk; subst hk
      exact .inr h2
theorem keysS_spec (mb : Option Nat) (w : World) : Calls Tryz.prog 23 #[.map mb] w fun e w' =>
    ∃ q, e = .returned (.func (.func 39) #[] #[.pointer (some ⟨q, 0, none⟩)]) ∧ Hp [] w w' [.blk q [.map mb] 66] := by
  refine Calls.mono (callsIn_wide.1 (AnyZ.keys_in keysSL Fence.wide 5 trivial rfl mb w)) ?_
  rintro e w' ⟨rfl, rfl⟩
  exact ⟨_, rfl, (Hp.start w).new (w' := w) ⟨rfl, rfl, rfl, rfl⟩ ⟨rfl, rfl⟩⟩
section
variable {K : Type} [DecidableEq K] {kt : KeyT K}
def RR : Value → Option (DataW Unit × List MemPlace) := fun _ => some (.nil, [])
theorem owns_of {P : Program} {k : TypeId} {w : World} {b : Nat} {al : List (K × Value)} (h : MapAt kt w b al) (hn : (al.map (·.1)).Nodup) (hl : al.length ≤ maxLen) (enc : K → Lit) (inj : ∀ x y, kt.enc x = kt.enc y → x = y)
    (hk : ∀ p ∈ al, keyOf P k (kt.enc p.1) = some (enc p.1)) :
    ∃ D : DataW Unit, w.ownsMap P k RR b al.length D ∧ Maps.size D = al.length ∧ ∃ l : List (Lit × DataW Unit), D = .map l ∧ l.Perm (al.map fun p => (enc p.1, DataW.nil)) := by
  obtain ⟨es, clock, h1, h2, h3, h4⟩ := h
  have hlen : es.size = al.length := by
    have := congrArg List.length h2
    simpa using this
  have hrd : ∀ x ∈ es.toList, ∃ p ∈ al, x.key = kt.enc p.1 := by
    intro x hx
    have : (x.key, x.val) ∈ al.map fun p => (kt.enc p.1, p.2) := h2 ▸ List.mem_map.2 ⟨x, hx, rfl⟩
    obtain ⟨p, hp, e⟩ := List.mem_map.1 this
    exact ⟨p, hp, (congrArg Prod.fst e).symm⟩
  have hmap : es.toList.map (WideElems.rg P k RR) = al.map fun p => (enc p.1, DataW.nil) := by
    have e1 : es.toList.map (·.key) = al.map fun p => kt.enc p.1 := by
      have := congrArg (List.map Prod.fst) h2
      simpa [List.map_map, Function.comp_def] using this
    have e2 : ∀ (l : List MapEntry) (al : List (K × Value)), (∀ p ∈ al, keyOf P k (kt.enc p.1) = some (enc p.1)) → l.map (·.key) = (al.map fun p => kt.enc p.1) → l.map (WideElems.rg P k RR) = al.map fun p => (enc p.1, (DataW.nil : DataW Unit)) := by
      intro l
      induction l with
      | nil => intro al _ h; cases al with
        | nil => rfl
        | cons _ _ => cases h
      | cons x r ih =>
        intro al hk h
        cases al with
        | nil => cases h
        | cons p al =>
          simp only [List.map_cons, List.cons.injEq] at h ⊢
          refine ⟨?_, ih al (fun p hp => hk p (.tail _ hp)) h.2⟩
          simp only [WideElems.rg, WideElems.rd, h.1, hk p (.head _)]
          rfl
    exact e2 _ _ hk e1
  refine ⟨_, ⟨es, clock, h1, ⟨by rw [hlen]; exact hl, ⟨h4, h3, ?_⟩, ?_⟩, by rw [hlen]; exact Nat.le_refl _, rfl⟩, ?_, _, rfl, ?_⟩
  · have e1 : es.toList.map (·.key) = (al.map (·.1)).map kt.enc := by
      have := congrArg (List.map Prod.fst) h2
      simpa [List.map_map, Function.comp_def] using this
    rw [e1]
    exact List.pairwise_map.2 (hn.imp fun hne he => hne (inj _ _ he))
  · intro x hx
    obtain ⟨p, hp, e⟩ := hrd x hx
    exact ⟨(enc p.1, .nil), by simp only [WideElems.rd, e, hk p hp]; rfl⟩
  · rw [hmap]
    have := (WideShapes.sorted_perm (al.map fun p => (enc p.1, (DataW.nil : DataW Unit)))).length_eq
    simpa [Maps.size] using this
  · rw [hmap]; exact WideShapes.sorted_perm _
end
theorem sortsS (m : Nat) : AnyZ.SortsIn Tryz.prog sortedSR Fence.wide m :=
  ⟨fun blk off cap ss W hH hblk hsz => callsIn_wide.2 (AnyM.slices_Sort_string sortSL blk off cap ss W hH hblk hsz),
   fun p cap W => callsIn_wide.2 (AnyM.slices_Sort_string_none sortSL p cap W)⟩
theorem rise_eq {α : Type} {lt : α → α → Prop} (asym : ∀ a b, lt a b → lt b a → False) {l l' : List α} (h : l.Perm l') (s : l.Pairwise lt) (s' : l'.Pairwise lt) : l = l' :=
  List.Perm.eq_of_pairwise (le := lt) (fun a b _ _ h1 h2 => (asym a b h1 h2).elim) s s' h
set_option maxHeartbeats 1000000 in
theorem sortedS_spec (q b : Nat) (al : List (ByteArray × Value)) (w : World) (hq : Blk w q [.map (some b)] 66) (hm : MapAt strKey w b al) (l : List ByteArray) (hp : l.Perm (al.map (·.1)))
    (hl : l.Pairwise fun x y => x.data.toList < y.data.toList) (hs : ∀ x ∈ l, x.size ≤ maxLen) (hmax : al.length * 16 ≤ 140737488355328) :
    Calls Tryz.prog 22 #[.func (.func 39) #[] #[.pointer (some ⟨q, 0, none⟩)]] w fun e w' =>
      ∃ a c, e = .returned (.slice a l.length c) ∧ Hp [] w w' [.own 9 1 a l.length c (l.map .string)] := by
  have hnd : (al.map (·.1)).Nodup := hp.nodup_iff.1 (hl.imp fun h e => by subst e; exact List.lt_irrefl _ h)
  have hll : al.length ≤ maxLen := by simp only [maxLen]; omega
  obtain ⟨D, h1, h2, dl, rfl, h3⟩ := owns_of (P := Tryz.prog) (k := 9) hm hnd hll (fun s => .string s.data.toList) (fun x y h => by injection h) (fun p hpm => WideMaps.keyOf_string_mk (by kernel_rfl) (hs _ (hp.mem_iff.2 (List.mem_map.2 ⟨p, hpm, rfl⟩))))
  have hqlt := hq.lt
  have hseq : SeqGives Fence.wide 2 Tryz.prog 39 #[.pointer (some ⟨q, 0, none⟩)] encStr (fun ss => ss.Perm (strKeys (.map dl))) (Maps.size (.map dl)) w :=
    AnyZ.keys_gives (ρ := keysSR) { keysSL with } Fence.wide _ trivial rfl (by omega) q b al.length (.map dl) w hqlt (hq.cell rfl) h1
  have cS := AnyZ.sorted_in sortedSL Fence.wide 5 trivial trivial trivial trivial rfl (by omega) (sortsS _) (enters_of Tryz.func38 (by kernel_rfl) rfl) 39 #[.pointer (some ⟨q, 0, none⟩)] trivial (enters_of Tryz.func39 (by kernel_rfl) rfl) _ _ (by rw [h2]; exact hll) (by rw [h2]; exact hmax) w hseq
  change CallsIn _ _ Tryz.prog 22 _ _ _ at cS
  refine Calls.mono (callsIn_wide.1 cS) ?_
  rintro e w' ⟨v, ss, rfl, hS, hrow, hnil, hb⟩
  have hperm : ss.Perm (l.map fun x => x.data.toList) := by
    refine hS.trans ?_
    have e1 : strKeys (.map dl) = dl.map fun p => strOf p.1 := rfl
    rw [e1]
    refine (h3.map _).trans ?_
    rw [List.map_map]
    have e2 : ((fun p : Lit × DataW Unit => strOf p.1) ∘ fun p : ByteArray × Value => (Lit.string p.1.data.toList, DataW.nil)) = (fun x : ByteArray => x.data.toList) ∘ (·.1) := rfl
    rw [e2, ← List.map_map]
    exact (hp.symm.map _)
  have hsort : ss.mergeSort (fun x y => decide (x ≤ y)) = l.map fun x => x.data.toList := by
    have tr : ∀ a b c : List UInt8, decide (a ≤ b) = true → decide (b ≤ c) = true → decide (a ≤ c) = true := fun a b c h1 h2 => by simp only [decide_eq_true_eq] at *; exact List.le_trans h1 h2
    have to : ∀ a b : List UInt8, (decide (a ≤ b) || decide (b ≤ a)) = true := fun a b => by simp only [Bool.or_eq_true, decide_eq_true_eq]; exact List.le_total a b
    refine List.Perm.eq_of_pairwise (le := fun a b => decide (a ≤ b) = true) (fun a b _ _ h1 h2 => ?_) (List.pairwise_mergeSort tr to ss) (List.pairwise_map.2 (hl.imp fun h => ?_)) ((List.mergeSort_perm ss _).trans hperm)
    · simp only [decide_eq_true_eq] at h1 h2; exact List.le_antisymm h1 h2
    · rw [decide_eq_true_eq]; exact List.le_of_lt h
  have hlen : ss.length = l.length := by simpa using hperm.length_eq
  rw [hsort, hlen, List.map_map] at hrow
  obtain ⟨a, c, rfl, H⟩ := hp_row hb hrow
  refine ⟨a, c, rfl, ?_⟩
  have e3 : (encStr ∘ fun x : ByteArray => x.data.toList) = Value.string := by
    funext x
    obtain ⟨d⟩ := x
    simp [encStr]
  rw [e3] at H
  exact H
end Go.Proofs.YtfcofkdpbmjefaaGreat
namespace Go.Proofs.YtfcofkdpbmjefaaGreat
noncomputable section
open Go Go.Vc Go.ChangeAt
theorem flat_at {m : Nat} : ∀ {els : List (List Value)} {k : Nat} {x : List Value}, (∀ y ∈ els, y.length = m) → els[k]? = some x → (els.flatten.drop (k * m)).take m = x
  | y :: r, 0, x, hl, h => by
    simp at h; subst h
    rw [Nat.zero_mul, List.drop_zero, List.flatten_cons]
    exact List.take_left' (hl _ (.head _))
  | y :: r, k + 1, x, hl, h => by
    rw [List.getElem?_cons_succ] at h
    rw [Nat.succ_mul, Nat.add_comm, ← List.drop_drop, List.flatten_cons, List.drop_left' (hl _ (.head _))]
    exact flat_at (fun z hz => hl z (.tail _ hz)) h
theorem flat_len {m : Nat} : ∀ {els : List (List Value)}, (∀ y ∈ els, y.length = m) → els.flatten.length = els.length * m
  | [], _ => by simp
  | y :: r, h => by
    rw [List.flatten_cons, List.length_append, flat_len fun z hz => h z (.tail _ hz), h y (.head _), List.length_cons, Nat.succ_mul]
    omega
structure ElsA (m : Nat) (Q : List Value → Prop) (w : World) (a : Option Addr) (els : List (List Value)) : Prop where
  len : ∀ x ∈ els, x.length = m
  cells : Cells w a els.flatten
  all : ∀ x ∈ els, Q x
  small : els.length ≤ 140737488355328
theorem ElsA.ld {m : Nat} {Q : List Value → Prop} {W w : World} {a : Option Addr} {els : List (List Value)} (h : ElsA m Q W a els) (hc : Chg [] W w) {t : TypeId} (T : Agg Tryz.prog t m) (hm : 0 < m) {k : Nat} {x : List Value} (hx : els[k]? = some x) :
    ∃ ad, a = some ad ∧ Ld Tryz.prog t w (ad.add (k * m)) (.agg x.toArray) ∧ Q x := by
  have hk := (List.getElem?_eq_some_iff.1 hx).1
  have hne : 0 < els.flatten.length := by
    rw [flat_len h.len]
    exact Nat.mul_pos (by omega) hm
  obtain ⟨ad, had, _⟩ := h.cells 0 _ (List.getElem?_eq_getElem hne)
  exact ⟨ad, had, (h.cells.chg hc (by simp)).ldA T had (flat_at h.len hx) (h.len x (List.mem_of_getElem? hx)), h.all x (List.mem_of_getElem? hx)⟩
def AttrQ (x : List Value) : Prop := ∃ s t : ByteArray, x = [.string s, .string t]
def ItemQ (W : World) (x : List Value) : Prop := ∃ (i j : Int) (s t : ByteArray) (a : Option Addr) (c : Nat) (ats : List (List Value)), x = [.int .i64 i, .int .i64 j, .string s, .string t, .slice a ats.length c] ∧ ElsA 2 AttrQ W a ats
def StepQ (W : World) (x : List Value) : Prop := ∃ (k n : Int) (s : ByteArray) (o1 o2 o3 o4 : Int) (nm tx : ByteArray) (a : Option Addr) (c : Nat) (its : List (List Value)) (pa : Option Addr) (pn pc : Nat),
  x = [.int .i64 k, .int .i64 n, .string s, .int .i64 o1, .int .i64 o2, .int .i64 o3, .int .i64 o4, .string nm, .string tx, .slice a its.length c, .slice pa pn pc] ∧ ElsA 5 (ItemQ W) W a its
theorem own_ : ownKnob Tryz.prog.godebug = none := by kernel_rfl
theorem laid_ : laidOutB Tryz.prog = true := by kernel_rfl
theorem und4 : Tryz.prog.underlying 4 = some .bool := by kernel_rfl
def ArgG (W : World) (n : Nat) (e : TypeId) (K : List Value → Prop) : Prop := ∃ (a : Option Addr) (cap : Nat) (els : List (List Value)), els.length ≤ cap ∧ cap ≤ maxLen ∧ els.length * Tryz.prog.bytesOf e ≤ reachBytes ∧ (a = none → els = []) ∧ (∀ x ∈ els, RdK Tryz.prog W n e (fun cs => x = cs)) ∧ Cells W a els.flatten ∧ K [.slice a els.length cap]
theorem rd_at (W : World) (K : List Value → Prop) : RdK Tryz.prog W 2 72 K = (∃ s : ByteArray, s.size ≤ reachBytes ∧ ∃ t : ByteArray, t.size ≤ reachBytes ∧ K (.string s :: .string t :: [])) := by kernel_rfl
theorem rd_it (W : World) (K : List Value → Prop) : RdK Tryz.prog W 4 55 K = (∃ i, inR .i64 i ∧ ∃ j, inR .i64 j ∧ ∃ s : ByteArray, s.size ≤ reachBytes ∧ ∃ t : ByteArray, t.size ≤ reachBytes ∧ ArgG W 2 72 fun x => K (.int .i64 i :: .int .i64 j :: .string s :: .string t :: (x ++ []))) := by kernel_rfl
theorem rd_op (W : World) (K : List Value → Prop) : RdK Tryz.prog W 6 31 K = (∃ i, inR .i64 i ∧ ∃ j, inR .i64 j ∧ ∃ k, inR .i64 k ∧ ∃ l, inR .i64 l ∧ ∃ s : ByteArray, s.size ≤ reachBytes ∧ ∃ t : ByteArray, t.size ≤ reachBytes ∧ ArgG W 4 55 fun x => K (.int .i64 i :: .int .i64 j :: .int .i64 k :: .int .i64 l :: .string s :: .string t :: (x ++ []))) := by kernel_rfl
theorem rd_st (W : World) (K : List Value → Prop) : RdK Tryz.prog W 7 34 K = (∃ i, inR .i64 i ∧ ∃ j, inR .i64 j ∧ ∃ s : ByteArray, s.size ≤ reachBytes ∧ RdK Tryz.prog W 6 31 fun y => ArgG W 5 3 fun x => K (.int .i64 i :: .int .i64 j :: .string s :: (y ++ (x ++ [])))) := by kernel_rfl
theorem reach_val : reachBytes = 140737488351232 := rfl
theorem bytes_pos {n b : Nat} (hb : 0 < b) (h : n * b ≤ reachBytes) : n ≤ 140737488355328 := by
  rw [reach_val] at h
  have := Nat.le_mul_of_pos_right n hb
  omega
theorem q_at {W : World} {x : List Value} (h : RdK Tryz.prog W 2 72 (fun cs => x = cs)) : x.length = 2 ∧ AttrQ x := by
  rw [rd_at] at h
  obtain ⟨s, _, t, _, rfl⟩ := h
  exact ⟨rfl, s, t, rfl⟩
theorem arg_els {W : World} {n m : Nat} {e : TypeId} {Q : List Value → Prop} {K : List Value → Prop} (hb : 0 < Tryz.prog.bytesOf e) (hq : ∀ x, RdK Tryz.prog W n e (fun cs => x = cs) → x.length = m ∧ Q x) (h : ArgG W n e K) :
    ∃ (a : Option Addr) (c : Nat) (els : List (List Value)), ElsA m Q W a els ∧ K [.slice a els.length c] := by
  obtain ⟨a, cap, els, h1, h2, h3, h4, h5, h6, h7⟩ := h
  exact ⟨a, cap, els, ⟨fun x hx => (hq x (h5 x hx)).1, h6, fun x hx => (hq x (h5 x hx)).2, bytes_pos hb h3⟩, h7⟩
theorem q_it {W : World} {x : List Value} (h : RdK Tryz.prog W 4 55 (fun cs => x = cs)) : x.length = 5 ∧ ItemQ W x := by
  rw [rd_it] at h
  obtain ⟨i, _, j, _, s, _, t, _, h⟩ := h
  obtain ⟨a, c, els, h1, rfl⟩ := arg_els (by decide +kernel) (fun x => q_at) h
  exact ⟨rfl, i, j, s, t, a, c, els, rfl, h1⟩
theorem q_st {W : World} {x : List Value} (h : RdK Tryz.prog W 7 34 (fun cs => x = cs)) : x.length = 11 ∧ StepQ W x := by
  rw [rd_st] at h
  obtain ⟨i, _, j, _, s, _, h⟩ := h
  rw [rd_op] at h
  obtain ⟨o1, _, o2, _, o3, _, o4, _, nm, _, tx, _, h⟩ := h
  obtain ⟨a, c, els, h1, h⟩ := arg_els (by decide +kernel) (fun x => q_it) h
  obtain ⟨pa, pc, ps, -, -, -, -, -, -, rfl⟩ := h
  exact ⟨rfl, i, j, s, o1, o2, o3, o4, nm, tx, a, c, els, pa, ps.length, pc, rfl, h1⟩
theorem rd_scr (W : World) (K : List Value → Prop) : RdA Tryz.prog W 8 [22] K = ArgG W 7 34 (fun cs => K (ofC (some false) cs :: [])) := by kernel_rfl
theorem open_scr {W : World} {args : Array Value} (h : RdA Tryz.prog W 8 [22] (fun l => args.toList = l)) : ∃ (a : Option Addr) (c : Nat) (els : List (List Value)), args = #[.slice a els.length c] ∧ ElsA 11 (StepQ W) W a els := by
  rw [rd_scr] at h
  obtain ⟨a, c, els, h1, h⟩ := arg_els (by decide +kernel) (fun x => q_st) h
  exact ⟨a, c, els, by cases args; simp_all [ofC], h1⟩
end
end Go.Proofs.YtfcofkdpbmjefaaGreat
namespace Go.Proofs.YtfcofkdpbmjefaaGreat
noncomputable section
open Go Go.Vc Go.Proofs
theorem yInt : Scl Tryz.prog 3 := scl_of (by kernel_rfl)
theorem yErr : Scl Tryz.prog 36 := scl_of (by kernel_rfl)
theorem yStr : Scl Tryz.prog 9 := scl_of (by kernel_rfl)
theorem ySI : Scl Tryz.prog 29 := scl_of (by kernel_rfl)
theorem ySA : Scl Tryz.prog 53 := scl_of (by kernel_rfl)
theorem ySN : Scl Tryz.prog 32 := scl_of (by kernel_rfl)
theorem yPD : Scl Tryz.prog 25 := scl_of (by kernel_rfl)
theorem yPS : Scl Tryz.prog 45 := scl_of (by kernel_rfl)
theorem yMSI : Scl Tryz.prog 66 := scl_of (by kernel_rfl)
theorem aSt : Agg Tryz.prog 34 11 := agg_of (by kernel_rfl)
theorem aIt : Agg Tryz.prog 55 5 := agg_of (by kernel_rfl)
theorem aAt : Agg Tryz.prog 72 2 := agg_of (by kernel_rfl)
theorem aOp : Agg Tryz.prog 31 7 := agg_of (by kernel_rfl)
theorem aBs : Agg Tryz.prog 43 11 := agg_of (by kernel_rfl)
theorem aAn : Agg Tryz.prog 38 4 := agg_of (by kernel_rfl)
theorem uPW : Tryz.prog.underlying 23 = some (.pointer (Tryz.prog.pointee 23)) := by kernel_rfl
theorem uPD : Tryz.prog.underlying 25 = some (.pointer (Tryz.prog.pointee 25)) := by kernel_rfl
theorem uPS : Tryz.prog.underlying 45 = some (.pointer (Tryz.prog.pointee 45)) := by kernel_rfl
theorem eqv_ptrE {P : Program} {t : TypeId} {p : Option Addr} {x y : Operand} {w : World} (h : P.underlying t = some (.pointer (P.pointee t))) : Eqv P .eql t x y w (.pointer p) (.pointer none) p.isNone := by
  have := run_eql_pointer_nil (w := w) t p h
  simp only [Eqv, Sem.run_bind, eqGuard]
  simp [this]
theorem eqv_ptrN {P : Program} {t : TypeId} {p : Option Addr} {x y : Operand} {w : World} (h : P.underlying t = some (.pointer (P.pointee t))) : Eqv P .neq t x y w (.pointer p) (.pointer none) (!p.isNone) := by
  have := run_neq_pointer_nil (w := w) t p h
  simp only [Eqv, Sem.run_bind, eqGuard]
  simp [this]
theorem weight_spec (a : Option Addr) (c : Nat) (els : List (List Value)) {W w : World} (hs : ElsA 5 (ItemQ W) W a els) (hc : Chg [] W w) :
    Calls Tryz.prog 14 #[.slice a els.length c] w fun e w' => (∃ i : Int, e = .returned (.int .i64 i)) ∧ Hp [] w w' [] := by
  apply weight.ok; unfold weight.vc
  have hsl := hs.small
  refine LoopP.mk (fun m (s : Int × Int) w' => ∃ (k : Nat) (n : Int), m = els.length - k ∧ k ≤ els.length ∧ s = (n, (k : Int)) ∧ Hp [] w w' []) els.length ⟨0, 0, rfl, by omega, rfl, Hp.start w⟩ ?_
  rintro m s w1 next ⟨k, n, rfl, hk, rfl, H⟩ hnext
  dsimp only
  refine br_dec (fun h1 => ?_) (fun h1 => ⟨⟨_, rfl⟩, H⟩)
  have hkl : k < els.length := by omega
  obtain ⟨x, hx⟩ : ∃ x, els[k]? = some x := ⟨_, List.getElem?_eq_getElem hkl⟩
  obtain ⟨ad, had, hld, i, j, s, t, aa, ac, ats, rfl, hat⟩ := hs.ld (hc.trans H.chg (by simp) (by simp)) aIt (by omega) hx
  refine onP_mk had ⟨⟨by omega, h1⟩, _, _, _, _, _, _, _, hld, ?_⟩
  intro b w2 hn
  have H2 := H.new (by exact ⟨rfl, rfl, rfl, rfl⟩) hn
  refine Hp.stA H2 (by exact ⟨rfl, rfl, rfl, rfl⟩) aIt rfl rfl (by simp) rfl fun w3 H3 => ?_
  refine ⟨_, H3.ld (by exact ⟨rfl, rfl, rfl, rfl⟩) yStr (.head _) rfl, _, H3.ld (by exact ⟨rfl, rfl, rfl, rfl⟩) yStr (.head _) rfl, _, _, _, H3.ld (by exact ⟨rfl, rfl, rfl, rfl⟩) ySA (.head _) rfl, ?_⟩
  have hasl := hat.small
  refine LoopP.mk (fun m (s : Int × Int) w' => ∃ (q : Nat) (n : Int), m = ats.length - q ∧ q ≤ ats.length ∧ s = (n, (q : Int)) ∧ Hp [] w w' []) ats.length ⟨0, _, rfl, by omega, rfl, H3.done⟩ ?_
  rintro m s w4 next2 ⟨q, n2, rfl, hq, rfl, H4⟩ hnext2
  dsimp only
  refine br_dec (fun h2 => ?_) (fun h2 => ?_)
  · have hql : q < ats.length := by omega
    obtain ⟨y, hy⟩ : ∃ y, ats[q]? = some y := ⟨_, List.getElem?_eq_getElem hql⟩
    obtain ⟨ad2, had2, hld2, s2, t2, rfl⟩ := hat.ld (hc.trans H4.chg (by simp) (by simp)) aAt (by omega) hy
    refine onP_mk had2 ⟨⟨by omega, h2⟩, _, _, hld2, ?_⟩
    intro b2 w5 hn2
    have H5 := H4.new (by exact ⟨rfl, rfl, rfl, rfl⟩) hn2
    refine Hp.stA H5 (by exact ⟨rfl, rfl, rfl, rfl⟩) aAt rfl rfl (by simp) rfl fun w6 H6 => ?_
    refine ⟨_, H6.ld (by exact ⟨rfl, rfl, rfl, rfl⟩) yStr (.head _) rfl, _, H6.ld (by exact ⟨rfl, rfl, rfl, rfl⟩) yStr (.head _) rfl, ?_⟩
    have hwr : IntKind.i64.wrap ((q : Int) + 1) = ((q + 1 : Nat) : Int) := by rw [wrap64_id (by omega)]; rfl
    exact hnext2 (ats.length - (q + 1)) _ _ (by omega) ⟨q + 1, _, rfl, by omega, by rw [hwr], H6.done⟩
  · have hwr : IntKind.i64.wrap ((k : Int) + 1) = ((k + 1 : Nat) : Int) := by rw [wrap64_id (by omega)]; rfl
    exact hnext (els.length - (k + 1)) _ _ (by omega) ⟨k + 1, _, rfl, by omega, by rw [hwr], H4⟩
theorem few_spec (a : Option Addr) (c : Nat) (els : List (List Value)) {W w : World} (hs : ElsA 11 (StepQ W) W a els) (hc : Chg [] W w) :
    Calls Tryz.prog 6 #[.slice a els.length c] w fun e w' => (∃ b : Bool, e = .returned (.bool b)) ∧ Hp [] w w' [] := by
  apply few.ok; unfold few.vc
  have hsl := hs.small
  refine LoopP.mk (fun m (s : Int × Int × Int) w' => ∃ (k : Nat) (n n2 : Int), m = els.length - k ∧ k ≤ els.length ∧ s = (n, n2, (k : Int)) ∧ Hp [] w w' []) els.length ⟨0, 0, 0, rfl, by omega, rfl, Hp.start w⟩ ?_
  rintro m s w1 next ⟨k, n, n2, rfl, hk, rfl, H⟩ hnext
  dsimp only
  refine br_dec (fun h1 => ?_) (fun h1 => ?_)
  · have hkl : k < els.length := by omega
    obtain ⟨x, hx⟩ : ∃ x, els[k]? = some x := ⟨_, List.getElem?_eq_getElem hkl⟩
    obtain ⟨ad, had, hld, k1, n1, s1, o1, o2, o3, o4, nm, tx, ia, ic, its, pa, pn, pc, rfl, hit⟩ := hs.ld (hc.trans H.chg (by simp) (by simp)) aSt (by omega) hx
    refine onP_mk had ⟨⟨by omega, h1⟩, _, _, _, _, _, _, _, _, _, _, _, _, _, _, _, hld, ?_⟩
    intro b w2 hn
    have H2 := H.new (by exact ⟨rfl, rfl, rfl, rfl⟩) hn
    refine Hp.stA H2 (by exact ⟨rfl, rfl, rfl, rfl⟩) aSt rfl rfl (by simp) rfl fun w3 H3 => ?_
    refine ⟨_, _, _, H3.ld (o := 9) (by exact ⟨rfl, rfl, rfl, rfl⟩) ySI (.head _) rfl, _, _, _, H3.ld (o := 9) (by exact ⟨rfl, rfl, rfl, rfl⟩) ySI (.head _) rfl, _, H3.ld (o := 8) (by exact ⟨rfl, rfl, rfl, rfl⟩) yStr (.head _) rfl, ?_⟩
    refine callV (weight_spec ia ic its hit (hc.trans H3.drew.chg (by simp) (by simp))) ?_
    rintro e w4 ⟨⟨i, rfl⟩, H4⟩
    refine ⟨i, rfl, (H3.drew.ext0 H4).ld (o := 8) (by exact ⟨rfl, rfl, rfl, rfl⟩) yStr (.head _) rfl, ?_⟩
    have hwr : IntKind.i64.wrap ((k : Int) + 1) = ((k + 1 : Nat) : Int) := by rw [wrap64_id (by omega)]; rfl
    exact hnext (els.length - (k + 1)) _ _ (by omega) ⟨k + 1, _, _, rfl, by omega, by rw [hwr], (H3.drew.ext0 H4).done⟩
  · exact br_dec (fun _ => br_dec (fun _ => ⟨⟨_, rfl⟩, H⟩) fun _ => ⟨⟨_, rfl⟩, H⟩) fun _ => ⟨⟨_, rfl⟩, H⟩
section
variable (k n : Int) (s : ByteArray) (o1 o2 o3 o4 : Int) (nm tx : ByteArray) (ia : Option Addr) (il ic : Nat) (pa : Option Addr) (pl pc : Nat)
def stepC : List Value := [.int .i64 k, .int .i64 n, .string s, .int .i64 o1, .int .i64 o2, .int .i64 o3, .int .i64 o4, .string nm, .string tx, .slice ia il ic, .slice pa pl pc]
theorem troubles_spec (w : World) : Calls Tryz.prog 8 #[.agg (stepC k n s o1 o2 o3 o4 nm tx ia il ic pa pl pc).toArray] w fun e w' => e = .returned (.bool (decide (k = 8) || decide (k = 9) || decide (k = 10))) ∧ Hp [] w w' [] := by
  apply troubles.ok; unfold troubles.vc
  intro b w1 hn
  have H := (Hp.start w).new (by exact ⟨rfl, rfl, rfl, rfl⟩) hn
  refine ⟨k, H.ld (by exact ⟨rfl, rfl, rfl, rfl⟩) yInt (.head _) rfl, br_dec (fun h => ⟨by simp [h], H.done⟩) fun h8 => ⟨k, H.ld (by exact ⟨rfl, rfl, rfl, rfl⟩) yInt (.head _) rfl, br_dec (fun h => ⟨by simp [h], H.done⟩) fun h9 => ⟨k, H.ld (by exact ⟨rfl, rfl, rfl, rfl⟩) yInt (.head _) rfl, by simp [h8, h9], H.done⟩⟩⟩
theorem own_spec (w : World) : Calls Tryz.prog 10 #[.agg (stepC k n s o1 o2 o3 o4 nm tx ia il ic pa pl pc).toArray] w fun e w' => e = .returned (.agg (stepC k n s o1 o2 o3 o4 nm tx ia il ic pa pl pc).toArray) ∧ Hp [] w w' [] := by
  apply own.ok; unfold own.vc
  intro b w1 hn1 b2 w2 hn2
  have H := ((Hp.start w).new (cs := stepC k n s o1 o2 o3 o4 nm tx ia il ic pa pl pc) (by exact ⟨rfl, rfl, rfl, rfl⟩) hn1).new (by exact ⟨rfl, rfl, rfl, rfl⟩) hn2
  refine ⟨o1, o2, o3, o4, nm, tx, ia, il, ic, H.ldA (o := 3) (by exact ⟨rfl, rfl, rfl, rfl⟩) aOp (.tail _ (.head _)) rfl rfl, fun b3 w3 hn3 => ?_⟩
  have H2 := H.new (by exact ⟨rfl, rfl, rfl, rfl⟩) hn3
  refine Hp.stA H2 (by exact ⟨rfl, rfl, rfl, rfl⟩) aOp rfl rfl (by simp) (cs' := [.int .i64 o1, .int .i64 o2, .int .i64 o3, .int .i64 o4, .string nm, .string tx, .slice ia il ic]) rfl fun w4 H4 => ?_
  refine ⟨k, H4.ld (by exact ⟨rfl, rfl, rfl, rfl⟩) yInt (.tail _ (.tail _ (.head _))) rfl, n, H4.ld (by exact ⟨rfl, rfl, rfl, rfl⟩) yInt (.tail _ (.tail _ (.head _))) rfl, s, H4.ld (by exact ⟨rfl, rfl, rfl, rfl⟩) yStr (.tail _ (.tail _ (.head _))) rfl, pa, pl, pc, H4.ld (by exact ⟨rfl, rfl, rfl, rfl⟩) ySN (.tail _ (.tail _ (.head _))) rfl,
    o1, H4.ld (by exact ⟨rfl, rfl, rfl, rfl⟩) yInt (.head _) rfl, o2, H4.ld (by exact ⟨rfl, rfl, rfl, rfl⟩) yInt (.head _) rfl, o3, H4.ld (by exact ⟨rfl, rfl, rfl, rfl⟩) yInt (.head _) rfl, o4, H4.ld (by exact ⟨rfl, rfl, rfl, rfl⟩) yInt (.head _) rfl, nm, H4.ld (by exact ⟨rfl, rfl, rfl, rfl⟩) yStr (.head _) rfl, tx, H4.ld (by exact ⟨rfl, rfl, rfl, rfl⟩) yStr (.head _) rfl, ia, il, ic, H4.ld (by exact ⟨rfl, rfl, rfl, rfl⟩) ySI (.head _) rfl, ?_⟩
  refine Hp.stA H4.pull1 (by exact ⟨rfl, rfl, rfl, rfl⟩) aBs rfl rfl (by simp) (cs' := stepC k n s o1 o2 o3 o4 nm tx ia il ic pa pl pc) rfl fun w5 H5 => ?_
  exact ⟨_, _, _, _, _, _, _, _, _, _, _, _, _, _, _, H5.ldA (by exact ⟨rfl, rfl, rfl, rfl⟩) aBs (.head _) rfl rfl, rfl, H5.done⟩
end
def wC (d : Nat) : List Value := [.pointer (some ⟨d, 0, none⟩), .pointer none]
def dC (r : Int) (nb fb : Nat) : List Value := [.int .i64 r, .slice none 0 0, .map (some nb), .map (some fb), .slice none 0 0, .int .i64 0, .int .i64 0, .bool false]
def worldL (b d nb fb : Nat) (r : Int) : List Asn := [.blk b (wC d) 51, .blk d (dC r nb fb) 70, .smap fb [], .smap nb []]
theorem vNew_spec (room : Int) (w : World) : Calls Tryz.prog 13 #[.int .i64 room] w fun e w' => ∃ (d nb fb : Nat) (r : Int), e = .returned (.pointer (some ⟨d, 0, none⟩)) ∧ Hp [] w w' [.blk d (dC r nb fb) 70, .smap fb [], .smap nb []] := by
  apply vNew.ok; unfold vNew.vc
  intro nb w1 h1 fb w2 h2 d w3 h3
  exact ⟨d, nb, fb, _, rfl, (((Hp.start w).newS (by exact ⟨rfl, rfl, rfl, rfl⟩) h1).newS (by exact ⟨rfl, rfl, rfl, rfl⟩) h2).new (cs := dC _ nb fb) (by exact ⟨rfl, rfl, rfl, rfl⟩) h3⟩
theorem bNew_spec (room : Int) (w : World) : Calls Tryz.prog 4 #[.int .i64 room] w fun e w' => ∃ (b d nb fb : Nat) (r : Int), e = .returned (.pointer (some ⟨b, 0, none⟩)) ∧ Hp [] w w' (worldL b d nb fb r) := by
  apply bNew.ok; unfold bNew.vc
  refine callV (vNew_spec room w) ?_
  rintro e w1 ⟨d, nb, fb, r, rfl, H⟩
  refine ⟨_, rfl, fun b w2 hn => ⟨b, d, nb, fb, r, rfl, H.new (cs := wC d) (by exact ⟨rfl, rfl, rfl, rfl⟩) hn⟩⟩
section
variable {b d nb fb : Nat} {r : Int} {B : List Nat} {w0 w : World}
theorem bDisk_spec (H : Hp B w0 w (worldL b d nb fb r)) : Calls Tryz.prog 5 #[.pointer (some ⟨b, 0, none⟩)] w fun e w' => e = .returned (.pointer (some ⟨d, 0, none⟩)) ∧ Hp [] w w' [] := by
  apply bDisk.ok; unfold bDisk.vc
  exact onP_mk rfl ⟨_, H.ld (o := 0) (by exact ⟨rfl, rfl, rfl, rfl⟩) yPD (.head _) rfl, rfl, Hp.start w⟩
theorem bStore_spec (H : Hp B w0 w (worldL b d nb fb r)) : Calls Tryz.prog 11 #[.pointer (some ⟨b, 0, none⟩)] w fun e w' => e = .returned (.pointer none) ∧ Hp [] w w' [] := by
  apply bStore.ok; unfold bStore.vc
  exact onP_mk rfl ⟨_, H.ld (o := 1) (by exact ⟨rfl, rfl, rfl, rfl⟩) yPS (.head _) rfl, rfl, Hp.start w⟩
theorem names_spec (H : Hp B w0 w (worldL b d nb fb r)) : Calls Tryz.prog 12 #[.pointer (some ⟨d, 0, none⟩)] w fun e w' => (∃ (a : Option Addr) (c : Nat), e = .returned (.slice a 0 c)) ∧ Hp [] w w' [] := by
  apply names.ok; unfold names.vc
  refine onP_mk rfl ⟨_, H.ld (o := 2) (cs := dC r nb fb) (by exact ⟨rfl, rfl, rfl, rfl⟩) yMSI (.tail _ (.head _)) rfl, ?_⟩
  refine callV (keysS_spec (some nb) w) ?_
  rintro e w1 ⟨q, rfl, H'⟩
  refine ⟨_, rfl, ?_⟩
  have H1 := H.ext H'
  have hs := sortedS_spec q nb [] w1 (H'.ok _ (.head _)) (H1.ok (.smap nb []) (by simp [worldL])) [] (.refl _) .nil (fun n hn => by cases hn) (by simp)
  refine callV hs ?_
  rintro e w2 ⟨a, c, rfl, H2⟩
  exact ⟨a, _, c, rfl, ⟨a, c, rfl⟩, (H'.ext H2).done⟩
variable (k n : Int) (s : ByteArray) (o1 o2 o3 o4 : Int) (nm tx : ByteArray) (ia : Option Addr) (il ic : Nat) (pa : Option Addr) (pl pc : Nat)
theorem bDo_spec (hk : k ≠ 1 ∧ k ≠ 8 ∧ k ≠ 9 ∧ k ≠ 10) (H0 : Hp B w0 w (worldL b d nb fb r)) :
    Calls Tryz.prog 9 #[.pointer (some ⟨b, 0, none⟩), .agg (stepC k n s o1 o2 o3 o4 nm tx ia il ic pa pl pc).toArray] w fun e w' => e = .returned (.agg #[.int .i64 1, .int .i64 0, .slice none 0 0, .int .i64 0]) ∧ Hp [] w w' [] := by
  obtain ⟨k1, k8, k9, k10⟩ := hk
  apply bDo.ok; unfold bDo.vc
  intro c w1 hn1 c2 w2 hn2
  have H := (H0.new (cs := stepC k n s o1 o2 o3 o4 nm tx ia il ic pa pl pc) (by exact ⟨rfl, rfl, rfl, rfl⟩) hn1).new (cs := [.int .i64 0, .int .i64 0, .slice none 0 0, .int .i64 0]) (by exact ⟨rfl, rfl, rfl, rfl⟩) hn2
  have K := ((Hp.start w).new (cs := stepC k n s o1 o2 o3 o4 nm tx ia il ic pa pl pc) (by exact ⟨rfl, rfl, rfl, rfl⟩) hn1).new (cs := [.int .i64 0, .int .i64 0, .slice none 0 0, .int .i64 0]) (by exact ⟨rfl, rfl, rfl, rfl⟩) hn2
  refine ⟨k, K.ld (by exact ⟨rfl, rfl, rfl, rfl⟩) yInt (.tail _ (.head _)) rfl, br_dec (fun h => absurd h k1) fun _ => br_dec (fun h => absurd h k8) fun _ => br_dec (fun h => absurd h k9) fun _ => br_dec (fun h => absurd h k10) fun _ => ?_⟩
  refine onP_mk rfl ⟨_, H.ld (o := 1) (cs := wC d) (by exact ⟨rfl, rfl, rfl, rfl⟩) yPS (.tail _ (.tail _ (.head _))) rfl, _, eqv_ptrE uPS, br_true ?_⟩
  refine Hp.stA K (by exact ⟨rfl, rfl, rfl, rfl⟩) aAn rfl rfl (by simp) (cs' := [.int .i64 1, .int .i64 0, .slice none 0 0, .int .i64 0]) rfl fun w3 K3 => ?_
  exact ⟨_, _, _, _, _, _, K3.ldA (by exact ⟨rfl, rfl, rfl, rfl⟩) aAn (.head _) rfl rfl, rfl, K3.done⟩
end
end
end Go.Proofs.YtfcofkdpbmjefaaGreat
namespace Go.Proofs.YtfcofkdpbmjefaaGreat
noncomputable section
open Go Go.Vc Go.Proofs
theorem closed_law (sa : Option Addr) (sc : Nat) (els : List (List Value)) (W : World) (hs : ElsA 11 (StepQ W) W sa els) :
    Calls Tryz.prog 3 #[.slice sa els.length sc] W fun e W' => e = .returned (.bool true) ∧ Chg [] W W' := by
  have al : ∀ {w : World}, Chg [] W w → CallV Tryz.prog 7 [] w fun e w' => ∃ b, e = .returned (.bool b) ∧ (Ending.returned (.bool b) = .returned (.bool true) ∧ Chg [] W w') := fun {w} hc => callV (alive_spec w) (by
    rintro e w' ⟨rfl, h⟩
    exact ⟨true, rfl, rfl, hc.trans h (by simp) (by simp)⟩)
  have hsl := hs.small
  apply bClosed.ok; unfold bClosed.vc
  refine callV (bNew_spec 30000 W) ?_
  rintro e w1 ⟨b, d, nb, fb, r, rfl, H⟩
  refine ⟨_, rfl, _, eqv_ptrE uPW, br_false (callV (bDisk_spec H) ?_)⟩
  rintro e w2 ⟨rfl, H2⟩
  replace H := H.ext0 H2
  clear H2
  refine ⟨_, rfl, _, eqv_ptrE uPD, br_false (callV (few_spec sa sc els hs H.chg) ?_)⟩
  rintro e w3 ⟨⟨q, rfl⟩, H3⟩
  replace H := H.ext0 H3
  clear H3
  refine ⟨q, rfl, br_not (fun _ => ⟨_, eqv_ptrN uPW, br_true (al H.chg)⟩) (fun _ => ?_)⟩
  refine LoopP.mk (fun m (s : Int) w' => ∃ k : Nat, m = els.length - k ∧ k ≤ els.length ∧ s = (k : Int) ∧ Hp [] W w' (worldL b d nb fb r)) els.length ⟨0, rfl, by omega, rfl, H⟩ ?_
  clear H
  rintro m s w4 next ⟨k, rfl, hk, rfl, H⟩ hnext
  dsimp only
  refine br_dec (fun h1 => ?_) (fun h1 => al H.chg)
  have hkl : k < els.length := by omega
  have go : ∀ {w : World}, Hp [] W w (worldL b d nb fb r) → inR .i64 ((k : Int) + 1) ∧ next ((k : Int) + 1) w := fun {w} H => ⟨inR64.2 (by omega), hnext (els.length - (k + 1)) _ _ (by omega) ⟨k + 1, rfl, by omega, rfl, H⟩⟩
  obtain ⟨x, hx⟩ : ∃ x, els[k]? = some x := ⟨_, List.getElem?_eq_getElem hkl⟩
  obtain ⟨ad, had, hld, k1, n1, s1, o1, o2, o3, o4, nm, tx, ia, ic, its, pa, pn, pc, rfl, hit⟩ := hs.ld H.chg aSt (by omega) hx
  refine onP_mk had ⟨⟨by omega, h1⟩, _, _, _, _, _, _, _, _, _, _, _, _, _, _, _, hld, ?_⟩
  intro c w5 hn
  have H5 := H.new (by exact ⟨rfl, rfl, rfl, rfl⟩) hn
  refine Hp.stA H5 (by exact ⟨rfl, rfl, rfl, rfl⟩) aSt rfl rfl (by simp) (cs' := stepC k1 n1 s1 o1 o2 o3 o4 nm tx ia its.length ic pa pn pc) rfl fun w6 H6 => ?_
  clear H5 hn H hld
  refine ⟨_, _, _, _, _, _, _, _, _, _, _, _, _, _, _, H6.ldA (by exact ⟨rfl, rfl, rfl, rfl⟩) aSt (.head _) rfl rfl, callV (troubles_spec k1 n1 s1 o1 o2 o3 o4 nm tx ia its.length ic pa pn pc w6) ?_⟩
  rintro e w7 ⟨rfl, H7⟩
  replace H6 := H6.ext0 H7
  clear H7
  refine ⟨_, rfl, br_mk (fun _ => go H6.drop) (fun hb => ?_)⟩
  refine ⟨k1, H6.ld (by exact ⟨rfl, rfl, rfl, rfl⟩) yInt (.head _) rfl, br_dec (fun _ => go H6.drop) fun hk1 => ?_⟩
  have hkind : k1 ≠ 1 ∧ k1 ≠ 8 ∧ k1 ≠ 9 ∧ k1 ≠ 10 := by
    simp only [Bool.or_eq_false_iff, decide_eq_false_iff_not] at hb
    exact ⟨hk1, hb.1.1, hb.1.2, hb.2⟩
  refine ⟨_, _, _, _, _, _, _, _, _, _, _, _, _, _, _, H6.ldA (by exact ⟨rfl, rfl, rfl, rfl⟩) aSt (.head _) rfl rfl, callV (own_spec k1 n1 s1 o1 o2 o3 o4 nm tx ia its.length ic pa pn pc w7) ?_⟩
  rintro e w8 ⟨rfl, H8⟩
  replace H6 := H6.ext0 H8
  clear H8
  refine ⟨_, _, _, _, _, _, _, _, _, _, _, _, _, _, _, rfl, callV (bDo_spec k1 n1 s1 o1 o2 o3 o4 nm tx ia its.length ic pa pn pc hkind H6.drop) ?_⟩
  rintro e w9 ⟨rfl, H9⟩
  replace H6 := H6.ext0 H9
  clear H9
  refine ⟨_, _, _, _, _, _, rfl, fun c2 w10 hn2 => ?_⟩
  have H10 := H6.new (by exact ⟨rfl, rfl, rfl, rfl⟩) hn2
  refine Hp.stA H10 (by exact ⟨rfl, rfl, rfl, rfl⟩) aAn rfl rfl (by simp) (cs' := [.int .i64 1, .int .i64 0, .slice none 0 0, .int .i64 0]) rfl fun w11 H11 => ?_
  clear H10 H6
  refine ⟨_, H11.ld (by exact ⟨rfl, rfl, rfl, rfl⟩) yErr (.head _) rfl, br_not (fun h => absurd h (by decide)) fun _ => ⟨_, H11.ld (o := 1) (by exact ⟨rfl, rfl, rfl, rfl⟩) yInt (.head _) rfl, br_not (fun h => absurd h (by decide)) fun _ => ⟨_, _, _, H11.ld (o := 2) (by exact ⟨rfl, rfl, rfl, rfl⟩) ySN (.head _) rfl, br_dec (fun h => absurd h (by omega)) fun _ => ?_⟩⟩⟩
  have H := H11.drop.drop
  clear H11
  refine callV (bStore_spec H) ?_
  rintro e w12 ⟨rfl, H12⟩
  replace H := H.ext0 H12
  refine ⟨_, rfl, _, eqv_ptrN uPS, br_false (callV (bDisk_spec H) ?_)⟩
  rintro e w13 ⟨rfl, H13⟩
  replace H := H.ext0 H13
  refine ⟨_, rfl, callV (names_spec H) ?_⟩
  rintro e w14 ⟨⟨a', c', rfl⟩, H14⟩
  replace H := H.ext0 H14
  exact ⟨_, _, _, rfl, br_dec (fun h => absurd h (by omega)) fun _ => go H⟩
end
end Go.Proofs.YtfcofkdpbmjefaaGreat
