/- Redo: Append, Flush, Reset. -/
import Derived.Test.YtjbopmbffajknaaRi
set_option linter.unusedVariables false
set_option linter.unusedSimpArgs false
set_option maxRecDepth 100000
namespace Go.Proofs.Ytjbopmbffajknaa
open Go Go.Vc Go.Vault Go.Redo

def AppPost (y : LW) (db : Nat) (l : Lg) (w : World) (s : ByteArray) (e : Ending) (w' : World) : Prop :=
  (∃ i, e = .returned (.tuple #[.int .i64 i, .int .i64 (l.append s).2])) ∧ ∃ y' : LW, y'.b = y.b ∧ Hp (feet [lgA y db l, lgT y l, lgB y l]) w w' [lgA y' db (l.append s).1, lgT y' (l.append s).1, lgB y' (l.append s).1]
set_option maxHeartbeats 1000000 in
theorem lappend_spec (y : LW) (db : Nat) (l : Lg) (s : ByteArray) (hb : l.b.length + 70000 ≤ 1000000000) (ha : l.all.length ≤ 1000000) (w : World) (st : Std w [lgA y db l, lgT y l, lgB y l]) :
    Calls Go.Proofs.Try.prog 25 #[.pointer (some ⟨y.b, 0, none⟩), .string s] w (AppPost y db l w s) := by
  apply lappend.ok; unfold lappend.vc AppPost
  have H := Hp.startL st
  generalize hB : feet [lgA y db l, lgT y l, lgB y l] = B at H ⊢
  refine br_dec (fun h => ?_) (fun h => ?_)
  · have e1 : l.append s = (l, 101) := by rw [Lg.append, if_pos (by omega)]
    rw [e1]
    exact ⟨⟨_, rfl⟩, y, rfl, H⟩
  have e1 : l.append s = ({ l with b := framed l.b s, all := l.all ++ [s] }, 0) := by rw [Lg.append, if_neg (by omega)]
  rw [e1]
  replace H := H.drew
  have fl := framed_len l.b s
  -- the stores behind
  have fin : ∀ (w5 : World) (a1 : Option Addr) (c1 : Nat) (a2 : Option Addr) (c2 : Nat) (X : List Asn), Hp B w w5 (lgA y db l :: .own 9 1 a2 (l.all.length + 1) c2 (l.all.map .string ++ [.string s]) :: .own 5 1 a1 (framed l.b s).length c1 (bcells (framed l.b s)) :: X) →
      onP (some (⟨y.b, 0, none⟩ : Addr)) fun a_5 => ∃ w1, St Go.Proofs.Try.prog 28 w5 (a_5.add 3) (.slice a1 (framed l.b s).length c1) w1 ∧ onP (some (⟨y.b, 0, none⟩ : Addr)) fun a_6 => ∃ w1_2, St Go.Proofs.Try.prog 49 w1 (a_6.add 6) (.slice a2 (l.all.length + 1) c2) w1_2 ∧
        onP (some (⟨y.b, 0, none⟩ : Addr)) fun a => ∃ a_7 l_1 c, Ld Go.Proofs.Try.prog 49 w1_2 (a.add 6) (.slice a_7 l_1 c) ∧
          ((∃ i, Ending.returned (.tuple #[.int .i64 (l_1 : Int), .int .i64 0]) = .returned (.tuple #[.int .i64 i, .int .i64 0])) ∧ ∃ y' : LW, y'.b = y.b ∧ Hp B w w1_2 [lgA y' db { l with b := framed l.b s, all := l.all ++ [s] }, lgT y' { l with b := framed l.b s, all := l.all ++ [s] }, lgB y' { l with b := framed l.b s, all := l.all ++ [s] }]) := by
    intro w5 a1 c1 a2 c2 X H
    refine onP_mk rfl (Hp.st (o := 3) H (by exact ⟨rfl, rfl, rfl, rfl⟩) sclBS rfl rfl (by simp [lgC]) (cs' := lgC ⟨y.b, a1, c1, y.ta, y.tc⟩ db { l with b := framed l.b s }) rfl ?_)
    clear H; intro w6 H
    refine onP_mk rfl (Hp.st (o := 6) H (by exact ⟨rfl, rfl, rfl, rfl⟩) sclTS rfl rfl (by simp [lgC]) (cs' := lgC ⟨y.b, a1, c1, a2, c2⟩ db { l with b := framed l.b s, all := l.all ++ [s] }) (by simp [lgC]) ?_)
    clear H; intro w7 H
    refine onP_mk rfl ⟨_, _, _, H.ld (by exact ⟨rfl, rfl, rfl, rfl⟩) sclTS (.head _) rfl, ⟨_, rfl⟩, ⟨y.b, a1, c1, a2, c2⟩, rfl, ?_⟩
    have e2 : lgT ⟨y.b, a1, c1, a2, c2⟩ { l with b := framed l.b s, all := l.all ++ [s] } = .own 9 1 a2 (l.all.length + 1) c2 (l.all.map .string ++ [.string s]) := by
      simp only [lgT, List.length_append, List.map_append, List.length_singleton, List.map_singleton]
    rw [e2]
    have H2 : Hp B w w7 ([lgA ⟨y.b, a1, c1, a2, c2⟩ db { l with b := framed l.b s, all := l.all ++ [s] }, .own 9 1 a2 (l.all.length + 1) c2 (l.all.map .string ++ [.string s]), lgB ⟨y.b, a1, c1, a2, c2⟩ { l with b := framed l.b s, all := l.all ++ [s] }] ++ X) := H
    exact H2.takeL
  constructor
  · refine onP_mk rfl ⟨_, _, _, H.ld (cs := lgC y db l) (by exact ⟨rfl, rfl, rfl, rfl⟩) sclBS (.head _) rfl, ?_⟩
    refine onP_mk rfl ⟨_, _, _, H.ld (cs := lgC y db l) (by exact ⟨rfl, rfl, rfl, rfl⟩) sclTS (.head _) rfl, ?_⟩
    have H1 : Hp B w w.drew ([lgB y l] ++ [lgA y db l, lgT y l]) := H.pull2
    refine callV (framed_spec y.ba y.bc l.b s (by omega) w.drew H1.std1) ?_
    rintro e w2 ⟨a1, c1, rfl, H'⟩
    replace H1 := H1.useL H'; clear H'
    refine ⟨_, _, _, rfl, H1.ld (cs := lgC y db l) (by exact ⟨rfl, rfl, rfl, rfl⟩) sclTS (.tail _ (.head _)) rfl, ?_⟩
    intro b w3 hn; replace H1 := H1.new (cs := [.string s]) (by exact ⟨rfl, rfl, rfl, rfl⟩) hn; clear hn
    refine ⟨H1.ld (cs := lgC y db l) (by exact ⟨rfl, rfl, rfl, rfl⟩) sclTS (.tail _ (.tail _ (.head _))) rfl, ?_⟩
    refine Hp.app eltT (by omega) H1.pull3 (by exact ⟨rfl, rfl, rfl, rfl⟩) (Blk.src (n := 1) undST (H1.blk (.head _)) (by simp) (by rfl)) (by simp only [maxLen]; omega) (by omega) ?_
    clear H1; intro a5 c5 w5 H1
    exact fin w5 a1 c1 a5 c5 [.blk b [.string s] 9] (H1.perm (perm_cnt fun ff gg h0 hc ha hpm => by simp only [ha, hc, h0]; omega))
  · refine onP_mk rfl ⟨_, _, _, H.ld (cs := lgC y db l) (by exact ⟨rfl, rfl, rfl, rfl⟩) sclBS (.head _) rfl, ?_⟩
    refine onP_mk rfl ⟨_, _, _, H.ld (cs := lgC y db l) (by exact ⟨rfl, rfl, rfl, rfl⟩) sclTS (.head _) rfl, ?_⟩
    intro b w3 hn; replace H := H.new (cs := [.string s]) (by exact ⟨rfl, rfl, rfl, rfl⟩) hn; clear hn
    refine ⟨H.ld (cs := lgC y db l) (by exact ⟨rfl, rfl, rfl, rfl⟩) sclTS (.tail _ (.head _)) rfl, H.ld (cs := lgC y db l) (by exact ⟨rfl, rfl, rfl, rfl⟩) sclBS (.tail _ (.head _)) rfl, ?_⟩
    have H1 : Hp B w w3 ([lgB y l] ++ [.blk b [.string s] 9, lgA y db l, lgT y l]) := H.pull3
    refine callV (framed_spec y.ba y.bc l.b s (by omega) w3 H1.std1) ?_
    rintro e w4 ⟨a1, c1, rfl, H'⟩
    replace H1 := H1.useL H'; clear H'
    refine ⟨_, _, _, rfl, H1.ld (cs := lgC y db l) (by exact ⟨rfl, rfl, rfl, rfl⟩) sclTS (.tail _ (.tail _ (.head _))) rfl, ?_⟩
    refine Hp.app eltT (by omega) H1.pull3 (by exact ⟨rfl, rfl, rfl, rfl⟩) (Blk.src (n := 1) undST (H1.blk (.tail _ (.head _))) (by simp) (by rfl)) (by simp only [maxLen]; omega) (by omega) ?_
    clear H1; intro a5 c5 w5 H1
    exact fin w5 a1 c1 a5 c5 [.blk b [.string s] 9] (H1.perm (perm_cnt fun ff gg h0 hc ha hpm => by simp only [ha, hc, h0]; omega))
end Go.Proofs.Ytjbopmbffajknaa
