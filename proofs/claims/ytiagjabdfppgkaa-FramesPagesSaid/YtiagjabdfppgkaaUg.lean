/- Vault: Crash. -/
import Derived.Test.YtiagjabdfppgkaaUf
set_option linter.unusedVariables false
set_option linter.unusedSimpArgs false
set_option maxRecDepth 100000
namespace Go.Proofs.Ytiagjabdfppgkaa
open Go Go.Vc Go.Vault

theorem perm_cnt {L M : List Asn} (h : ∀ (f : List Asn → Nat) (g : Asn → Nat), f [] = 0 → (∀ x l, f (x :: l) = g x + f l) → (∀ a b, f (a ++ b) = f a + f b) → (∀ a b, List.Perm a b → f a = f b) → f L = f M) : L.Perm M := by
  classical
  rw [List.perm_iff_count]
  intro z
  refine h (fun l => l.count z) (fun x => if x == z then 1 else 0) rfl (fun x l => ?_) (fun a b => List.count_append) (fun a b hp => hp.count_eq z)
  show List.count z (x :: l) = _
  rw [List.count_cons, Nat.add_comm]

def sinceTot (fs : List Fl) : Nat := (fs.map fun f => f.since.length).sum
theorem foundF_snoc : ∀ (fs : List Fl) (g : Fl) (ps : List Int), foundF (fs ++ [g]) ps = foundF fs ps ++ [g.found (ps.drop (sinceTot fs))]
  | [], g, ps => by simp [foundF, sinceTot]
  | f :: r, g, ps => by
    simp only [List.cons_append, foundF, foundF_snoc r g, sinceTot, List.map_cons, List.sum_cons, List.drop_drop]
theorem foundF_len : ∀ (fs : List Fl) (ps : List Int), (foundF fs ps).length = fs.length
  | [], _ => rfl
  | f :: r, ps => by simp [foundF, foundF_len r]
theorem foundF_mem : ∀ {fs : List Fl} {ps : List Int} {g : Fl}, g ∈ foundF fs ps → ∃ f ∈ fs, ∃ qs, g = f.found qs
  | f :: r, ps, g, h => by
    rcases List.mem_cons.1 h with rfl | h
    · exact ⟨f, .head _, _, rfl⟩
    · obtain ⟨f', h1, h2⟩ := foundF_mem h
      exact ⟨f', .tail _ h1, h2⟩
theorem take_snoc {α : Type} {l : List α} {k : Nat} {x : α} (h : l[k]? = some x) : l.take (k + 1) = l.take k ++ [x] := by
  rw [List.take_add_one, h]; rfl
theorem new_room (r : Nat) (h : r ≤ 65536) : Dk.new (r : Int) = ⟨r, [], [], [], 0, 0, false⟩ := by
  have : (min (max (r : Int) 0) 65536).toNat = r := by omega
  simp only [Dk.new, this]
theorem chsL_get {xs : List CW} {cs : List Ch} {k : Nat} {x : CW} {c : Ch} (h : xs[k]? = some x) (h' : cs[k]? = some c) : (chsL xs cs).Perm (chL x c ++ chsL (xs.eraseIdx k) (cs.eraseIdx k)) := zipL_get chL h h'
theorem chVs_get {xs : List CW} {cs : List Ch} {k : Nat} {x : CW} {c : Ch} (h : xs[k]? = some x) (h' : cs[k]? = some c) : (chVs xs cs)[k]? = some (chV x c) := by
  simp [chVs, List.getElem?_zipWith, h, h']
def dkC (x : DW) (d : Dk) (k : Nat) : List Asn :=
  .blk x.b [.int .i64 (d.room : Int), .slice x.fa d.files.length x.fc, .map (some x.mn), .map (some x.mf), .slice x.ca d.chs.length x.cc, .int .i64 (d.armed : Int), .int .i64 (d.denied : Int), .bool d.dead] 106 ::
  .own 93 1 x.fa d.files.length x.fc (ptrs x.fs) :: .smap x.mn x.na :: .smap x.mf x.fi :: .own 147 1 x.ca d.chs.length x.cc (chVs x.cs d.chs) :: (filesL x.fs d.files ++ chsL (x.cs.eraseIdx k) (d.chs.eraseIdx k))
theorem dk_openC {x : DW} {d : Dk} {k : Nat} {f : CW} {g : Ch} (h1 : x.cs[k]? = some f) (h2 : d.chs[k]? = some g) : (dkL x d).Perm (chL f g ++ dkC x d k) := by
  refine perm_cnt fun ff gg h0 hc ha hpm => ?_
  have := hpm _ _ (chsL_get h1 h2)
  simp only [dkL_eq, dkR, dkC, ha, hc, h0] at this ⊢
  omega
theorem mem_blk (x : DW) (d : Dk) : Asn.blk x.b [.int .i64 (d.room : Int), .slice x.fa d.files.length x.fc, .map (some x.mn), .map (some x.mf), .slice x.ca d.chs.length x.cc, .int .i64 (d.armed : Int), .int .i64 (d.denied : Int), .bool d.dead] 106 ∈ dkL x d := by rw [dkL_eq]; exact .head _
theorem mem_files (x : DW) (d : Dk) : Asn.own 93 1 x.fa d.files.length x.fc (ptrs x.fs) ∈ dkL x d := by rw [dkL_eq]; exact .tail _ (.head _)
theorem mem_mf (x : DW) (d : Dk) : Asn.smap x.mf x.fi ∈ dkL x d := by rw [dkL_eq]; exact .tail _ (.tail _ (.tail _ (.head _)))
theorem mem_chs (x : DW) (d : Dk) : Asn.own 147 1 x.ca d.chs.length x.cc (chVs x.cs d.chs) ∈ dkL x d := by rw [dkL_eq]; exact .tail _ (.tail _ (.tail _ (.tail _ (.head _))))

end Go.Proofs.Ytiagjabdfppgkaa
