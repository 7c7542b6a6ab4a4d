/- Vault: what is found of a file. -/
import Derived.Test.YtiagjabdfppgkaaUe
set_option linter.unusedVariables false
set_option linter.unusedSimpArgs false
set_option maxRecDepth 100000
namespace Go.Proofs.Ytiagjabdfppgkaa
open Go Go.Vc Go.Vault

theorem sclSI : Scl Try.prog 34 := scl_of (by kernel_rfl)
theorem Own.stC {P : Program} {w : World} {e : TypeId} {sz : Nat} {a : Option Addr} {n c : Nat} {xs : List Value} (h : Own w 0 e sz a n c xs) {ad : Addr} (ha : a = some ad) {o : Nat} {vs : List Value} (hv : vs.all (·.oneCell') = true) (hl : o + vs.length ≤ xs.length) :
    ∃ w1, (storeCells (ad.add o) vs).run P w = .ok () w1 ∧ Own w1 0 e sz a n c (over vs o xs) ∧ Chg (blks a) w w1 := by
  have hlen := h.1
  rcases h.2 with ⟨rfl, _⟩ | ⟨g, cur, fz, rfl, hb, hg, hf, hnc, hcm, hcs, ht⟩
  · cases ha
  cases ha
  have hnm : n * sz ≤ c * sz := Nat.mul_le_mul_right _ hnc
  have hcur : w.heap[g]? = some (.cells cur.toList.toArray e fz) := by simpa using hg
  have hcl : cur.toList.length = cur.size := Array.length_toList
  have hrun := run_storeCells_blk (P := P) (b := g) (T := e) (fz := fz) vs w cur.toList ⟨g, o, none⟩ o 0 rfl (fun j => by simp [add_lit]) hcur (by omega) (fun k h1 h2 => hf k (by omega)) (fun u hu => List.all_eq_true.1 hv u hu)
  have e1 : (storeCells ((⟨g, 0, none⟩ : Addr).add o) vs).run P w = (storeCells ⟨g, o, none⟩ vs).run P w := by rw [add_lit, Nat.zero_add]
  refine ⟨_, e1.trans hrun, ?_, ?_⟩
  · split
    · rename_i hn; rw [hn, over_nil]; exact h
    · refine ⟨by rw [over_len _ _ _ (by omega)]; exact hlen, .inr ⟨g, _, fz, rfl, hb, setB_at (Array.getElem?_eq_some_iff.1 hg).1, ?_, hnc, hcm, ?_, ?_⟩⟩
      · rw [List.size_toArray, over_len _ _ _ (by omega), hcl]; exact hf
      · rw [List.size_toArray, over_len _ _ _ (by omega), hcl]; exact hcs
      · simp only [List.toList_toArray]
        rw [over_take_in _ _ _ _ (by omega) (by omega), ht]
  · split
    · exact Chg.refl _ _
    · exact setB_chg _ _ _
theorem Hp.cpyP {P : Program} {B : List Nat} {w0 w w' : World} {L : List Asn} {e eT dT tx ty : TypeId} {sz : Nat} {a : Option Addr} {n c o m dc sn sc : Nat} {xs news : List Value} {ad sa : Addr} (H : Hp B w0 w (.own e sz a n c xs :: L)) (eq : Eqw w w') (hd : P.underlying dT = some (.slice eT)) (hs : sizeV P eT = some 1)
    (ha : a = some ad) (hsrc : ∀ j u, news[j]? = some u → w'.cell? (sa.add j) = some u) (hl : news.length = m) (h1 : news.all (·.oneCell') = true) (hm : m ≤ sn) (hfit : o + m ≤ xs.length) {G : Int → World → Prop}
    (k : ∀ w1, Hp B w0 w1 (.own e sz a n c (over news o xs) :: L) → G (m : Int) w1) : ∃ (i : Int) (w1 : World), Cpy P #[dT, tx] ty w' (.slice (some (ad.add o)) m dc) (.slice (some sa) sn sc) (.int .i64 i) w1 ∧ G i w1 := by
  have hO : Own w' 0 e sz a n c xs := (H.go eq).ok _ (.head _)
  obtain ⟨w1, h2, h3, h4⟩ := Own.stC (P := P) hO ha h1 (o := o) (by omega)
  refine ⟨(m : Int), w1, ?_, k w1 ((H.go eq).set h4 h3 fun k hk => .inl hk)⟩
  have hz : (sizeOf eT).run P w' = .ok 1 w' := run_size hs w'
  have hmin : Nat.min sn m = m := Nat.min_eq_right hm
  have hlen : (Builtin.lenOf (.slice (some sa) sn sc)).run P w' = .ok sn w' := rfl
  have hc := run_firstCells_some (P := P) w' 1 m sa sn sc news (by omega) hsrc
  simp only [Cpy, Builtin.copy_]
  simp [run_und hd, hlen, hmin, hz, hc, h2, goInt]

theorem secs_part {l : List (List UInt8)} (h : ∀ s ∈ l, s.length = 512) {k : Nat} {x : List UInt8} (hx : x.length ≤ 512) (hk : k < l.length) : over (bcells x) (k * 512) (secs l) = secs (l.set k (x ++ (l.getD k []).drop x.length)) := by
  have hgd : l.getD k [] = l[k] := by simp [hk]
  have e1 : l = l.take k ++ (l[k] :: l.drop (k + 1)) := by rw [List.getElem_cons_drop, List.take_append_drop]
  have e2 : l.set k (x ++ (l.getD k []).drop x.length) = l.take k ++ ((x ++ l[k].drop x.length) :: l.drop (k + 1)) := by rw [hgd, List.set_eq_take_append_cons_drop, if_pos hk]
  have h1 : (secs (l.take k)).length = k * 512 := by
    rw [secs_len fun s hs => h s (List.mem_of_mem_take hs), List.length_take]
    congr 1; omega
  have h2 := h _ (List.getElem_mem hk)
  rw [e2]
  conv => lhs; rw [e1]
  rw [secs_append, secs_append, secs_cons, secs_cons, ← h1]
  have e3 : bcells l[k] = bcells (l[k].take x.length) ++ bcells (l[k].drop x.length) := by rw [← bcells_append, List.take_append_drop]
  rw [e3, bcells_append, List.append_assoc, List.append_assoc]
  exact over_app _ _ _ _ (by rw [bcells_length, bcells_length, List.length_take]; omega)

def ints (l : List Int) : List Value := l.map (.int .i64)
theorem ints_drop (l : List Int) (i : Nat) : (ints l).drop i = ints (l.drop i) := by simp [ints]
theorem add_block (ad : Addr) (i : Nat) : (ad.add i).block = ad.block := by unfold Addr.add; split <;> rfl
theorem bcells_ones (l : List UInt8) : (bcells l).all (·.oneCell') = true := by
  simp only [bcells, List.all_map, List.all_eq_true]; intro b hb; rfl
theorem slA_blk {a : Option Addr} {c i : Nat} : ∀ k ∈ blks (slA a c i 1), k ∈ blks a := by
  unfold slA
  intro k hk
  split at hk
  · exact hk
  · cases a with
    | none => exact hk
    | some ad =>
      have h := add_block ad (i * 1)
      simp only [Option.map_some, blks, List.mem_singleton] at hk ⊢
      rw [hk, h]
theorem bigSec : bigL Try.prog 123 [] = bcells zsec := by kernel_rfl
theorem foundL_nil (now : List (List UInt8)) (ps : List Int) (L : List (List UInt8)) : foundL now [] ps L = L := rfl
theorem fill_len (L : List (List UInt8)) (n : Nat) : (fill L n).length = max L.length (n + 1) := by simp only [fill, List.length_append, List.length_replicate]; omega
theorem fill_ok {L : List (List UInt8)} (h : ∀ s ∈ L, s.length = 512) (n : Nat) : ∀ s ∈ fill L n, s.length = 512 := fun s hs => by
  rcases List.mem_append.1 hs with hs | hs
  · exact h s hs
  · rw [List.eq_of_mem_replicate hs]; simp [zsec]
theorem mend_ok {now L : List (List UInt8)} (hn : ∀ s ∈ now, s.length = 512) (h : ∀ s ∈ L, s.length = 512) {n p : Nat} (hp : p ≤ 512) (hlt : n < now.length) : (∀ s ∈ mend now L n p, s.length = 512) ∧ (L.length ≤ now.length → (mend now L n p).length ≤ now.length) ∧ L.length ≤ (mend now L n p).length := by
  unfold mend
  split
  · exact ⟨h, fun h => h, Nat.le_refl _⟩
  · refine ⟨fun s hs => ?_, fun h2 => ?_, ?_⟩
    · rcases List.mem_or_eq_of_mem_set hs with hs | rfl
      · exact fill_ok h n s hs
      · have h1 := hn _ (List.getElem_mem hlt)
        have h2 : n < (fill L n).length := by rw [fill_len]; omega
        have h3 := fill_ok h n _ (List.getElem_mem h2)
        simp only [List.getD_eq_getElem?_getD, List.getElem?_eq_getElem hlt, List.getElem?_eq_getElem h2, Option.getD_some, List.length_append, List.length_take, List.length_drop, h1, h3]
        omega
    · rw [List.length_set, fill_len]; omega
    · rw [List.length_set, fill_len]; omega
theorem foundL_ok {now : List (List UInt8)} (hn : ∀ s ∈ now, s.length = 512) : ∀ (ns : List Nat) (ps : List Int) (L : List (List UInt8)), (∀ n ∈ ns, n < now.length) → (∀ s ∈ L, s.length = 512) → L.length ≤ now.length → (∀ s ∈ foundL now ns ps L, s.length = 512) ∧ (foundL now ns ps L).length ≤ now.length
  | [], ps, L, h1, h2, h3 => ⟨h2, h3⟩
  | n :: r, ps, L, h1, h2, h3 => by
    obtain ⟨h4, h5, _⟩ := mend_ok hn h2 (n := n) (p := pick (ps.headD 0)) (by simp only [pick]; omega) (h1 n (.head _))
    exact foundL_ok hn r _ _ (fun m hm => h1 m (.tail _ hm)) h4 (h5 h3)
theorem found_ok {g : Fl} (h : g.Ok) (ps : List Int) : (g.found ps).Ok ∧ (g.found ps).now.length ≤ g.now.length := by
  obtain ⟨h1, h2⟩ := foundL_ok h.now g.since ps g.firm h.below h.firm h.len
  exact ⟨⟨h1, h1, by simp [Fl.found], by simp [Fl.found], Nat.le_refl _⟩, h2⟩

end Go.Proofs.Ytiagjabdfppgkaa
