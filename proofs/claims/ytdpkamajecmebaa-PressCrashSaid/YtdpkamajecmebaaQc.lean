/- Press: strings.Builder, Import, Names. -/
import Derived.Test.YtdpkamajecmebaaQb
import Derived.Test.YtdpkamajecmebaaShelf
set_option linter.unusedVariables false
set_option linter.unusedSimpArgs false
set_option maxRecDepth 100000
namespace Go.Proofs.Ytdpkamajecmebaa
open Go Go.Vc Go.Vault Go.Redo Go.Press

theorem sclPB : Scl Go.Proofs.Try.prog 85 := scl_of (by kernel_rfl)
theorem undPB : Go.Proofs.Try.prog.underlying 85 = some (.pointer (Go.Proofs.Try.prog.pointee 85)) := by kernel_rfl
/-- a row of bytes of one's own, nothing of it frozen -/
def rowA (a : Option Addr) (n c : Nat) (xs : List Value) : Asn := .any (blks a) fun w => w.ownsRow 0 5 1 (.slice a n c) n xs
theorem row_ok {w : World} {a : Option Addr} {n c : Nat} {xs : List Value} (h : w.ownsRow 0 5 1 (.slice a n c) n xs) : (rowA a n c xs).ok w := by
  refine ⟨fun k hk => ?_, fun w' h' => ⟨h.1, ?_⟩⟩
  · cases a with
    | none => simp [blks] at hk
    | some ad => simp [blks] at hk; subst hk; exact (h.lt _ rfl).2
  · rcases h.2 with h1 | ⟨g, cap, cur, hv, hb, hg, r⟩
    · exact .inl h1
    · refine .inr ⟨g, cap, cur, hv, hb, ?_, r⟩
      cases hv
      rw [h' g (by simp [blks])]; exact hg
theorem row_get {w : World} {a : Option Addr} {n c : Nat} {xs : List Value} (h : (rowA a n c xs).ok w) : w.ownsRow 0 5 1 (.slice a n c) n xs := h.2 w fun _ _ => rfl
theorem row_own {w : World} {a : Option Addr} {n c : Nat} {xs : List Value} (h : w.ownsRow 0 5 1 (.slice a n c) n xs) : Own w 0 5 1 a n c xs := by
  refine ⟨h.1, ?_⟩
  rcases h.2 with ⟨h1, h2⟩ | ⟨g, cap, cur, hv, hb, hg, h4, h5, h6, h7⟩
  · cases h1; exact .inl ⟨rfl, rfl, rfl⟩
  · cases hv; exact .inr ⟨g, cur, (0, 0), rfl, hb, hg, Thaw.zero _, h4, h5, h6, h7⟩
/-- append to it -/
theorem Hp.appR {B : List Nat} {w0 w : World} {L : List Asn} {a : Option Addr} {n c m pc : Nat} {xs news : List Value} {pa : Addr} {G : Option Addr → Nat → Nat → World → Prop} (H : Hp B w0 w (rowA a n c xs :: L)) (hc : Cells w (some pa) news) (hl : news.length = m) (h1 : ∀ u ∈ news, u.oneCell' = true) (hn : n + m ≤ 1099511627776)
    (k : ∀ a' c' w1, Hp B w0 w1 (rowA a' (n + m) c' (xs ++ news) :: L) → G a' (n + m) c' w1) :
    ∃ a' n' c' w1, App Go.Proofs.Try.prog #[46, 46] 46 w (.slice a n c) (.slice (some pa) m pc) (.slice a' n' c') w1 ∧ G a' n' c' w1 := by
  have T := qeltU8
  obtain ⟨hu, i, z, hi, hz, hs, hb, hzs⟩ := qeltU8
  have hown := row_get (H.ok _ (.head _))
  have hcell : ∀ j u, news[j]? = some u → w.cell? (pa.add j) = some u := fun j u hj => by
    obtain ⟨ad, h2, h3⟩ := hc j u hj
    cases h2; exact h3
  obtain ⟨v', w1, hr, ho, _, _⟩ := run_append_own (P := Go.Proofs.Try.prog) w (ty := 46) 0 46 5 i z 1 1 hu hi hz hs hb hzs (by omega) (.slice a n c) n xs hown pa m pc news (by omega) hcell h1 (by simp only [maxLen]; omega) (by omega) (Nat.zero_le _)
  have hsrc : Src Go.Proofs.Try.prog 1 46 (.slice (some pa) m pc) m news w := Cells.src hu hc (by omega) h1 (fun h => by cases h)
  obtain ⟨a', c', w2, h2, h3, h4, h5⟩ := app_own (P := Go.Proofs.Try.prog) (ty := 46) T (by omega) (row_own hown) hsrc (by simp only [maxLen]; omega) (by omega) (Nat.zero_le _)
  have e := hr.symm.trans h2
  injection e with e1 e2
  subst e1 e2
  exact ⟨a', _, c', _, h2, k a' c' _ (H.set h4 (row_ok ho) h5)⟩

def sbL (b : Nat) (u : Bool) (a : Option Addr) (n c : Nat) (xs : List Value) : List Asn := [.blk b [.pointer (if u then some ⟨b, 0, none⟩ else none), .slice a n c] 87, rowA a n c xs]
theorem sbLen_spec (b : Nat) (p : Value) (a : Option Addr) (n c : Nat) (w : World) (h : Blk w b [p, .slice a n c] 87) :
    Calls Go.Proofs.Try.prog 39 #[.pointer (some ⟨b, 0, none⟩)] w fun e w' => e = .returned (.int .i64 (n : Int)) ∧ Hp [] w w' [] := by
  apply sbLen.ok; unfold sbLen.vc
  exact onP_mk rfl ⟨_, _, _, h.ld (o := 1) sclBS.agg rfl, rfl, Hp.start w⟩
theorem sbCheck_spec (b : Nat) (u : Bool) (v : Value) (w : World) (h : Blk w b [.pointer (if u then some ⟨b, 0, none⟩ else none), v] 87) :
    Calls Go.Proofs.Try.prog 65 #[.pointer (some ⟨b, 0, none⟩)] w fun e w' => e = .returned (.tuple #[]) ∧ Hp [b] w w' [.blk b [.pointer (some ⟨b, 0, none⟩), v] 87] := by
  cases u with
  | false =>
    refine (Any.Builder_copyCheck_fresh sbccL sbccX b w (h.cell (o := 0) rfl) ?_ ?_).mono ?_
    · rw [Blk] at h; simp [World.shape?, h]; rfl
    · rw [Blk] at h; simp [World.frozen?, h]
    · rintro e w' ⟨rfl, rfl⟩
      refine ⟨rfl, ?_⟩
      have e1 := setCell_setB h 0 (.pointer (some ⟨b, 0, none⟩))
      rw [e1]
      exact ⟨setB_chg _ _ _, fun q hq => by rw [List.mem_singleton.1 hq]; exact setB_at h.lt, by simp [Asn.foot], by simp⟩
  | true =>
    refine (Any.Builder_copyCheck_used sbccL sbccX b w (h.cell (o := 0) rfl)).mono ?_
    rintro e w' ⟨rfl, rfl⟩
    exact ⟨rfl, Chg.refl _ _, fun q hq => by rw [List.mem_singleton.1 hq]; exact h, by simp [Asn.foot], by simp⟩
theorem sbWrite_spec (b : Nat) (u : Bool) (a : Option Addr) (n c : Nat) (xs : List Value) (pa : Addr) (pc : Nat) (bs : List UInt8) (w : World) (st : Std w (sbL b u a n c xs)) (hc : ∀ W, Chg (feet (sbL b u a n c xs)) w W → Cells W (some pa) (bcells bs)) (hn : n + bs.length ≤ 1099511627776) :
    Calls Go.Proofs.Try.prog 40 #[.pointer (some ⟨b, 0, none⟩), .slice (some pa) bs.length pc] w fun e w' => e = .returned (.tuple #[.int .i64 (bs.length : Int), .nilIface]) ∧ ∃ a' c', Hp (feet (sbL b u a n c xs)) w w' (sbL b true a' (n + bs.length) c' (xs ++ bcells bs)) := by
  apply sbWrite.ok; unfold sbWrite.vc
  have H := Hp.startL st
  generalize hB : feet (sbL b u a n c xs) = B at H hc ⊢
  refine callV (sbCheck_spec b u _ w (H.blk (.head _))) ?_
  rintro e w1 ⟨rfl, H'⟩
  replace H : Hp B w w1 [.blk b [.pointer (some ⟨b, 0, none⟩), .slice a n c] 87, rowA a n c xs] := Hp.use11 H H'
  clear H'
  refine ⟨rfl, onP_mk rfl ⟨_, _, _, H.ld (o := 1) (cs := [.pointer (some ⟨b, 0, none⟩), .slice a n c]) (by exact ⟨rfl, rfl, rfl, rfl⟩) sclBS (.head _) rfl, ?_⟩⟩
  have hc1 := hc w1 H.chg
  refine Hp.appR H.pull1 hc1 (bcells_length _) (bcells_one bs) hn ?_
  clear H; intro a' c' w2 H
  refine onP_mk rfl (Hp.st (o := 1) H.pull1 (by exact ⟨rfl, rfl, rfl, rfl⟩) sclBS rfl rfl (by simp) rfl ?_)
  clear H; intro w3 H
  exact ⟨rfl, a', c', H⟩
theorem sbString_spec (b : Nat) (u : Bool) (a : Option Addr) (c : Nat) (l : List UInt8) (w0 w : World) (H : Hp [] w0 w (sbL b u a l.length c (bcells l))) :
    Calls Go.Proofs.Try.prog 41 #[.pointer (some ⟨b, 0, none⟩)] w fun e w' => e = .returned (.string ⟨l.toArray⟩) ∧ Hp [] w0 w' [] := by
  have hb : w0.heap.size ≤ b := by
    rcases H.own _ (.head _) b (by simp [Asn.foot]) with h | h
    · cases h
    · exact h
  have hblk := H.blk (.head _)
  have hrow := row_get (H.ok _ (.tail _ (.head _)))
  have hB : Lib.BuilderAt 87 5 w0.heap.size b (.pointer (if u then some ⟨b, 0, none⟩ else none)) (Lib.byteCells l) w := by
    refine ⟨hb, .slice a l.length c, by simpa [Blk] using hblk, ⟨by simp [bcells], ?_⟩, ?_⟩
    · rcases hrow.2 with h1 | ⟨g, cap, cur, hv, h0, hg, r⟩
      · exact .inl (by rw [Lib.byteCells_length]; exact h1)
      · refine .inr ⟨g, cap, cur, by rw [Lib.byteCells_length]; exact hv, ?_, hg, by rw [Lib.byteCells_length]; exact r⟩
        cases hv
        rcases H.own _ (.tail _ (.head _)) g (by simp [rowA, Asn.foot, blks]) with h | h
        · cases h
        · exact h
    · intro h
      have hs := (List.pairwise_cons.1 H.sep).1 _ (.head _) b (by simp [Asn.foot])
      cases a with
      | none => cases h
      | some ad => exact hs (by simpa [rowA, Asn.foot, blks, Value.ownBlock] using h.symm)
  have hI : Lib.IsBuilder 87 5 w0.heap.size b (Lib.byteCells l) w := by
    cases u with
    | false => exact .inl hB
    | true => exact .inr hB
  refine (Any.Builder_String_any sbstrL sbstrX w0.heap.size b l w hI H.chg.size).mono ?_
  rintro e w' ⟨rfl, hbl⟩
  refine ⟨rfl, ⟨hbl.os.trans H.chg.1, hbl.tape.trans H.chg.2.1, hbl.output.trans H.chg.2.2.1, Nat.le_trans H.chg.size hbl.size, fun k hk _ => (hbl.block k hk).trans (H.chg.2.2.2.2 k hk (by simp))⟩, by simp, by simp, .nil⟩
end Go.Proofs.Ytdpkamajecmebaa
