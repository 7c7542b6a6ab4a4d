/- The keys of a map, sorted; a map cloned: what these calls hand back. -/
import Derived.Test.YtiagjabdfppgkaaGreatShelf
import Derived.StringKeys
set_option linter.unusedVariables false
set_option linter.unusedSimpArgs false
namespace Go.Proofs.YtiagjabdfppgkaaGreat
open Go Go.Vc Go.Proofs Go.RowKit Go.Maps Go.Sort Go.Shelf

theorem chg_below {w w' : World} (h : Below w.heap.size w w') : Chg [] w w' := ⟨h.os, h.tape, h.output, h.size, fun k hk _ => h.block k hk⟩
theorem hp_row {w w' : World} {e : TypeId} {v : Value} {n : Nat} {xs : List Value} (hb : Below w.heap.size w w') (h : w'.ownsRow w.heap.size e 1 v n xs) :
    ∃ a c, v = .slice a n c ∧ Hp [] w w' [.own e 1 a n c xs] := by
  obtain ⟨h1, ⟨rfl, rfl⟩ | ⟨g, cap, cur, rfl, h2, h3, h4, h5, h6, h7⟩⟩ := h
  · refine ⟨none, 0, rfl, chg_below hb, ?_, by simp [Asn.foot, blks], by simp⟩
    intro a ha
    rw [List.mem_singleton] at ha; subst ha
    exact ⟨h1, .inl ⟨rfl, rfl, rfl⟩⟩
  · refine ⟨some ⟨g, 0, none⟩, cap, rfl, chg_below hb, ?_, ?_, by simp⟩
    · intro a ha
      rw [List.mem_singleton] at ha; subst ha
      exact ⟨h1, .inr ⟨g, cur, (0, 0), rfl, Nat.zero_le _, h3, Thaw.zero _, h4, h5, h6, h7⟩⟩
    · intro a ha k hk
      rw [List.mem_singleton] at ha; subst ha
      simp [Asn.foot, blks] at hk; subst hk
      exact .inr h2

theorem keysI_spec (mb : Option Nat) (w : World) : Calls Tryz.prog 61 #[.map mb] w fun e w' =>
    ∃ q, e = .returned (.func (.func 85) #[] #[.pointer (some ⟨q, 0, none⟩)]) ∧ Hp [] w w' [.blk q [.map mb] 95] := by
  refine Calls.mono (callsIn_wide.1 (AnyZI.keys_in keysIL Fence.wide 5 trivial rfl mb w)) ?_
  rintro e w' ⟨rfl, rfl⟩
  exact ⟨_, rfl, (Hp.start w).new (w' := w) ⟨rfl, rfl, rfl, rfl⟩ ⟨rfl, rfl⟩⟩

section
variable {K : Type} [DecidableEq K] {kt : KeyT K}
def RR : Value → Option (DataW Unit × List MemPlace) := fun _ => some (.nil, [])
theorem owns_of {P : Program} {k : TypeId} {w : World} {b : Nat} {al : List (K × Value)} (h : MapAt kt w b al) (hn : (al.map (·.1)).Nodup) (hl : al.length ≤ maxLen) (enc : K → Lit) (inj : ∀ x y, kt.enc x = kt.enc y → x = y)
    (hk : ∀ p ∈ al, keyOf P k (kt.enc p.1) = some (enc p.1)) :
    ∃ D : DataW Unit, w.ownsMap P k RR b al.length D ∧ Maps.size D = al.length ∧ ∃ l : List (Lit × DataW Unit), D = .map l ∧ l.Perm (al.map fun p => (enc p.1, DataW.nil)) := by
  obtain ⟨es, clock, h1, h2, h3, h4⟩ := h
  have hlen : es.size = al.length := by
    have := congrArg List.length h2
    simpa using this
  have hrd : ∀ x ∈ es.toList, ∃ p ∈ al, x.key = kt.enc p.1 := by
    intro x hx
    have : (x.key, x.val) ∈ al.map fun p => (kt.enc p.1, p.2) := h2 ▸ List.mem_map.2 ⟨x, hx, rfl⟩
    obtain ⟨p, hp, e⟩ := List.mem_map.1 this
    exact ⟨p, hp, (congrArg Prod.fst e).symm⟩
  have hmap : es.toList.map (WideElems.rg P k RR) = al.map fun p => (enc p.1, DataW.nil) := by
    have e1 : es.toList.map (·.key) = al.map fun p => kt.enc p.1 := by
      have := congrArg (List.map Prod.fst) h2
      simpa [List.map_map, Function.comp_def] using this
    have e2 : ∀ (l : List MapEntry) (al : List (K × Value)), (∀ p ∈ al, keyOf P k (kt.enc p.1) = some (enc p.1)) → l.map (·.key) = (al.map fun p => kt.enc p.1) → l.map (WideElems.rg P k RR) = al.map fun p => (enc p.1, (DataW.nil : DataW Unit)) := by
      intro l
      induction l with
      | nil => intro al _ h; cases al with
        | nil => rfl
        | cons _ _ => cases h
      | cons x r ih =>
        intro al hk h
        cases al with
        | nil => cases h
        | cons p al =>
          simp only [List.map_cons, List.cons.injEq] at h ⊢
          refine ⟨?_, ih al (fun p hp => hk p (.tail _ hp)) h.2⟩
          simp only [WideElems.rg, WideElems.rd, h.1, hk p (.head _)]
          rfl
    exact e2 _ _ hk e1
  refine ⟨_, ⟨es, clock, h1, ⟨by rw [hlen]; exact hl, ⟨h4, h3, ?_⟩, ?_⟩, by rw [hlen]; exact Nat.le_refl _, rfl⟩, ?_, _, rfl, ?_⟩
  · have e1 : es.toList.map (·.key) = (al.map (·.1)).map kt.enc := by
      have := congrArg (List.map Prod.fst) h2
      simpa [List.map_map, Function.comp_def] using this
    rw [e1]
    exact List.pairwise_map.2 (hn.imp fun hne he => hne (inj _ _ he))
  · intro x hx
    obtain ⟨p, hp, e⟩ := hrd x hx
    exact ⟨(enc p.1, .nil), by simp only [WideElems.rd, e, hk p hp]; rfl⟩
  · rw [hmap]
    have := (WideShapes.sorted_perm (al.map fun p => (enc p.1, (DataW.nil : DataW Unit)))).length_eq
    simpa [Maps.size] using this
  · rw [hmap]; exact WideShapes.sorted_perm _
end

theorem sortsI (m : Nat) : AnyZI.SortsIn Tryz.prog sortedIR Fence.wide m :=
  ⟨fun blk off cap ss W hH hblk hsz => callsIn_wide.2 (AnyM.slices_Sort_int sortIL blk off cap ss W hH hblk hsz),
   fun p cap W => callsIn_wide.2 (AnyM.slices_Sort_int_none sortIL p cap W)⟩

/-- rising lists of the same elements are the same -/
theorem rise_eq {α : Type} {lt : α → α → Prop} (asym : ∀ a b, lt a b → lt b a → False) {l l' : List α} (h : l.Perm l') (s : l.Pairwise lt) (s' : l'.Pairwise lt) : l = l' :=
  List.Perm.eq_of_pairwise (le := lt) (fun a b _ _ h1 h2 => (asym a b h1 h2).elim) s s' h

set_option maxHeartbeats 1000000 in
theorem sortedI_spec (q b : Nat) (al : List (Int × Value)) (w : World) (hq : Blk w q [.map (some b)] 95) (hm : MapAt (intKey .i64) w b al) (l : List Int) (hp : l.Perm (al.map (·.1)))
    (hl : l.Pairwise fun x y => x < y) (hs : ∀ x ∈ l, -9223372036854775808 ≤ x ∧ x ≤ 9223372036854775807) (hmax : al.length * 8 ≤ 140737488355328) :
    Calls Tryz.prog 60 #[.func (.func 85) #[] #[.pointer (some ⟨q, 0, none⟩)]] w fun e w' =>
      ∃ a c, e = .returned (.slice a l.length c) ∧ Hp [] w w' [.own 3 1 a l.length c (l.map (.int .i64))] := by
  have hnd : (al.map (·.1)).Nodup := hp.nodup_iff.1 (hl.imp fun h e => by omega)
  have hll : al.length ≤ maxLen := by simp only [maxLen]; omega
  obtain ⟨D, h1, h2, dl, rfl, h3⟩ := owns_of (P := Tryz.prog) (k := 3) hm hnd hll (fun s => .int .i64 s) (fun x y h => by injection h) (fun p hpm => keyOf_int_mk (by kernel_rfl) (by
    have := hs _ (hp.mem_iff.2 (List.mem_map.2 ⟨p, hpm, rfl⟩))
    simp only [Lit.wf, Bool.and_eq_true, decide_eq_true_eq]
    exact inR64.2 this))
  have hqlt := hq.lt
  have hseq : SeqGives Fence.wide 2 Tryz.prog 85 #[.pointer (some ⟨q, 0, none⟩)] encZ (fun ss => ss.Perm (intKeys (.map dl))) (Maps.size (.map dl)) w :=
    AnyZI.keys_gives (ρ := keysIR) { keysIL with } Fence.wide _ trivial rfl (by omega) q b al.length (.map dl) w hqlt (hq.cell rfl) h1
  have cS := AnyZI.sorted_in sortedIL Fence.wide 5 trivial trivial trivial trivial rfl (by omega) (sortsI _) (enters_of Tryz.func52 (by kernel_rfl) rfl) 85 #[.pointer (some ⟨q, 0, none⟩)] trivial (enters_of Tryz.func85 (by kernel_rfl) rfl) _ _ (by rw [h2]; exact hll) (by rw [h2]; exact hmax) w hseq
  change CallsIn _ _ Tryz.prog 60 _ _ _ at cS
  refine Calls.mono (callsIn_wide.1 cS) ?_
  rintro e w' ⟨v, ss, rfl, hS, hrow, hnil, hb⟩
  have hperm : ss.Perm l := by
    refine hS.trans ?_
    have e1 : intKeys (.map dl) = dl.map fun p => Go.intOf p.1 := rfl
    rw [e1]
    refine (h3.map _).trans ?_
    rw [List.map_map]
    have e2 : ((fun p : Lit × DataW Unit => Go.intOf p.1) ∘ fun p : Int × Value => (Lit.int IntKind.i64 p.1, DataW.nil)) = (·.1) := rfl
    rw [e2]
    exact hp.symm
  have hsort : ss.mergeSort (fun x y => decide (x ≤ y)) = l := by
    have tr : ∀ a b c : Int, decide (a ≤ b) = true → decide (b ≤ c) = true → decide (a ≤ c) = true := fun a b c h1 h2 => by simp only [decide_eq_true_eq] at *; omega
    have to : ∀ a b : Int, (decide (a ≤ b) || decide (b ≤ a)) = true := fun a b => by simp only [Bool.or_eq_true, decide_eq_true_eq]; omega
    refine List.Perm.eq_of_pairwise (le := fun a b => decide (a ≤ b) = true) (fun a b _ _ h1 h2 => ?_) (List.pairwise_mergeSort tr to ss) (hl.imp fun h => ?_) ((List.mergeSort_perm ss _).trans hperm)
    · simp only [decide_eq_true_eq] at h1 h2; omega
    · rw [decide_eq_true_eq]; omega
  have hlen : ss.length = l.length := hperm.length_eq
  rw [hsort, hlen] at hrow
  obtain ⟨a, c, rfl, H⟩ := hp_row hb hrow
  exact ⟨a, c, rfl, H⟩
theorem mclone_spec (b : Nat) (al : List (ByteArray × Value)) (w : World) (hm : MapAt strKey w b al) :
    Calls Tryz.prog 29 #[.map (some b)] w fun e w' => ∃ b', e = .returned (.map (some b')) ∧ Hp [] w w' [.smap b' al] := by
  obtain ⟨es, clock, h1, h2⟩ := hm
  refine Calls.mono (AnyW.maps_Clone mclL b es clock w h1) ?_
  rintro e w' ⟨rfl, rfl⟩
  refine ⟨_, rfl, (Hp.start w).add ⟨rfl, rfl, rfl, by simp, fun k hk _ => alloc_old w _ k hk⟩ (a' := .smap w.heap.size al) ⟨es, clock, alloc_new w _, h2⟩ ?_⟩
  intro k hk
  simp [Asn.foot] at hk; subst hk; exact Nat.le_refl _
end Go.Proofs.YtiagjabdfppgkaaGreat
