/- Folio: a record's bytes: 'whole'. -/
import Derived.Test.YtcgaobfbgfefhaaFb
set_option linter.unusedVariables false
set_option linter.unusedSimpArgs false
namespace Go.Proofs.Ytcgaobfbgfefhaa
open Go Go.Vc

def attrsB (l : List (Int × ByteArray)) : List UInt8 := l.flatMap fun p => be p.1 2 ++ be (p.2.size : Int) 2 ++ p.2.data.toList
def frontB (r : Rec) : List UInt8 := laid [(r.id, 4), (r.parent, 4), (r.frm, 8), (r.to, 8), (r.kind, 1), (r.name, 2), ((r.text.size : Int), 2)]
def wholeB (r : Rec) : List UInt8 := frontB r ++ r.text.data.toList ++ be (r.attrs.length : Int) 1 ++ attrsB r.attrs
theorem laid_one (n : Int) (k : Nat) : laid [(n, k)] = be n k := by simp [laid]
theorem laid_two (n m : Int) (k j : Nat) : laid [(n, k), (m, j)] = be n k ++ be m j := by simp [laid]

theorem lay_hp {B : List Nat} {w0 w : World} {L : List Asn} {a : Option Addr} {n c : Nat} {bs : List UInt8} {b lc : Nat} {T : TypeId} (l : List (Int × Nat)) (H : Hp B w0 w (.own 5 1 a n c (bcells bs) :: L)) (hm : Asn.blk b (fldCells l) T ∈ L)
    (hl8 : ∀ f ∈ l, f.2 ≤ 8) (hn : n = bs.length) (hlen : l.length ≤ 1000000) (hbig : (bs ++ laid l).length ≤ 140737488355328) :
    Calls Go.Proofs.Try.prog 24 #[.slice a n c, .slice (some ⟨b, 0, none⟩) l.length lc] w fun e w' => ∃ a' c', e = .returned (.slice a' (bs ++ laid l).length c') ∧ Hp B w0 w' (.own 5 1 a' (bs ++ laid l).length c' (bcells (bs ++ laid l)) :: L) := by
  refine Calls.mono (lay_spec a n c bs ⟨b, 0, none⟩ lc l hl8 w (H.ok _ (.head _)) hn (Blk.cells (H.blk (.tail _ hm))) ?_ hlen hbig) ?_
  · intro hb
    exact (List.pairwise_cons.1 H.sep).1 _ hm b hb (by simp [Asn.foot])
  · rintro e w' ⟨a', c', rfl, H'⟩
    exact ⟨a', c', rfl, H.use11 H'⟩

theorem whole_spec (r : Rec) (a : Option Addr) (n c : Nat) (w : World) (hA : AtS w a n r.attrs) (hn : n ≤ 1000) (hbig : (wholeB r).length ≤ 100000000) :
    Calls Go.Proofs.Try.prog 23 #[r.val a n c] w fun e w' => ∃ a' c', e = .returned (.slice a' (wholeB r).length c') ∧ Hp [] w w' [.own 5 1 a' (wholeB r).length c' (bcells (wholeB r))] := by
  apply whole.ok
  unfold whole.vc
  have H := Hp.start w
  have hmax : maxLen = 9223372036854775807 := by simp [maxLen]
  have hlen := hA.len
  have hb2 : (wholeB r).length = (frontB r).length + r.text.size + 1 + (attrsB r.attrs).length := by
    simp only [wholeB, List.length_append, be_length, Array.length_toList]; rfl
  have h30 : (frontB r).length = 29 := by simp [frontB, laid, be_length]
  (first | ((repeat apply Exists.intro); first | refine ⟨H.ld (by exact ⟨rfl, rfl, rfl, rfl⟩) (by first | exact scl3 | exact scl9 | exact scl32 | exact scl22 | exact scl53 | exact scl26 | exact scl4 | exact scl5) (by repeat first | exact .head _ | refine .tail _ ?_) rfl, ?_⟩ | refine ⟨H.ldA (by exact ⟨rfl, rfl, rfl, rfl⟩) (by first | exact agg34 | exact agg24 | exact agg31 | exact agg57 | exact agg58 | exact agg52) (by repeat first | exact .head _ | refine .tail _ ?_) rfl rfl, ?_⟩) | (intro _ _ hn; replace H := H.new (by exact ⟨rfl, rfl, rfl, rfl⟩) hn; clear hn) | ((first | (apply Hp.st; (case H => first | exact H | exact H.pull1 | exact H.pull2 | exact H.pull3 | exact H.pull4 | exact H.pull5 | exact H.pull6 | exact H.pull7); (case e => exact ⟨rfl, rfl, rfl, rfl⟩); (case S => exact (by first | exact scl3 | exact scl9 | exact scl32 | exact scl22 | exact scl53 | exact scl26 | exact scl4 | exact scl5)); (case hv => exact rfl); (case h1 => exact rfl); (case ho => exact Nat.le_of_ble_eq_true rfl); (case hc => exact rfl)) | (apply Hp.stA; (case H => first | exact H | exact H.pull1 | exact H.pull2 | exact H.pull3 | exact H.pull4 | exact H.pull5 | exact H.pull6 | exact H.pull7); (case e => exact ⟨rfl, rfl, rfl, rfl⟩); (case S => exact (by first | exact agg34 | exact agg24 | exact agg31 | exact agg57 | exact agg58 | exact agg52)); (case hn => exact rfl); (case h1 => exact rfl); (case ho => exact Nat.le_of_ble_eq_true rfl); (case hc => exact rfl))); clear H; intro _ H; (try simp only [over, List.set_cons_zero, List.set_cons_succ] at H)))
  rename_i b _
  (repeat (first | ((repeat apply Exists.intro); first | refine ⟨H.ld (by exact ⟨rfl, rfl, rfl, rfl⟩) (by first | exact scl3 | exact scl9 | exact scl32 | exact scl22 | exact scl53 | exact scl26 | exact scl4 | exact scl5) (by repeat first | exact .head _ | refine .tail _ ?_) rfl, ?_⟩ | refine ⟨H.ldA (by exact ⟨rfl, rfl, rfl, rfl⟩) (by first | exact agg34 | exact agg24 | exact agg31 | exact agg57 | exact agg58 | exact agg52) (by repeat first | exact .head _ | refine .tail _ ?_) rfl rfl, ?_⟩) | (intro _ _ hn; replace H := H.new (by exact ⟨rfl, rfl, rfl, rfl⟩) hn; clear hn) | ((first | (apply Hp.st; (case H => first | exact H | exact H.pull1 | exact H.pull2 | exact H.pull3 | exact H.pull4 | exact H.pull5 | exact H.pull6 | exact H.pull7); (case e => exact ⟨rfl, rfl, rfl, rfl⟩); (case S => exact (by first | exact scl3 | exact scl9 | exact scl32 | exact scl22 | exact scl53 | exact scl26 | exact scl4 | exact scl5)); (case hv => exact rfl); (case h1 => exact rfl); (case ho => exact Nat.le_of_ble_eq_true rfl); (case hc => exact rfl)) | (apply Hp.stA; (case H => first | exact H | exact H.pull1 | exact H.pull2 | exact H.pull3 | exact H.pull4 | exact H.pull5 | exact H.pull6 | exact H.pull7); (case e => exact ⟨rfl, rfl, rfl, rfl⟩); (case S => exact (by first | exact agg34 | exact agg24 | exact agg31 | exact agg57 | exact agg58 | exact agg52)); (case hn => exact rfl); (case h1 => exact rfl); (case ho => exact Nat.le_of_ble_eq_true rfl); (case hc => exact rfl))); clear H; intro _ H; (try simp only [over, List.set_cons_zero, List.set_cons_succ] at H))))
  refine callV (lay_hp (bs := []) [(r.id, 4), (r.parent, 4), (r.frm, 8), (r.to, 8), (r.kind, 1), (r.name, 2), ((r.text.size : Int), 2)] (H.nilS 5 1) (by repeat first | exact .head _ | refine .tail _ ?_) (by simp) rfl (by simp) (by simp [laid, be_length])) ?_
  clear H
  rintro e w2 ⟨a1, c1, rfl, H⟩
  refine ⟨_, _, _, rfl, ?_⟩
  rw [List.nil_append, ← frontB] at H ⊢
  replace H := H.drop1
  refine JoinP.mk (fun s w' => ∃ a' n' c', s = (a', n', c') ∧ n' = (frontB r ++ r.text.data.toList ++ be (r.attrs.length : Int) 1).length ∧ Hp [] w w' [.own 5 1 a' n' c' (bcells (frontB r ++ r.text.data.toList ++ be (r.attrs.length : Int) 1)), .blk b [.int .i64 r.id, .int .i64 r.parent, .int .i64 r.kind, .int .i64 r.name, .int .i64 r.frm, .int .i64 r.to, .string r.text, .slice a n c] 34]) ?_ ?_
  · clear H
    rintro s w3 ⟨a3, n3, c3, rfl, rfl, H⟩
    dsimp only
    (repeat (first | ((repeat apply Exists.intro); first | refine ⟨H.ld (by exact ⟨rfl, rfl, rfl, rfl⟩) (by first | exact scl3 | exact scl9 | exact scl32 | exact scl22 | exact scl53 | exact scl26 | exact scl4 | exact scl5) (by repeat first | exact .head _ | refine .tail _ ?_) rfl, ?_⟩ | refine ⟨H.ldA (by exact ⟨rfl, rfl, rfl, rfl⟩) (by first | exact agg34 | exact agg24 | exact agg31 | exact agg57 | exact agg58 | exact agg52) (by repeat first | exact .head _ | refine .tail _ ?_) rfl rfl, ?_⟩) | (intro _ _ hn; replace H := H.new (by exact ⟨rfl, rfl, rfl, rfl⟩) hn; clear hn) | ((first | (apply Hp.st; (case H => first | exact H | exact H.pull1 | exact H.pull2 | exact H.pull3 | exact H.pull4 | exact H.pull5 | exact H.pull6 | exact H.pull7); (case e => exact ⟨rfl, rfl, rfl, rfl⟩); (case S => exact (by first | exact scl3 | exact scl9 | exact scl32 | exact scl22 | exact scl53 | exact scl26 | exact scl4 | exact scl5)); (case hv => exact rfl); (case h1 => exact rfl); (case ho => exact Nat.le_of_ble_eq_true rfl); (case hc => exact rfl)) | (apply Hp.stA; (case H => first | exact H | exact H.pull1 | exact H.pull2 | exact H.pull3 | exact H.pull4 | exact H.pull5 | exact H.pull6 | exact H.pull7); (case e => exact ⟨rfl, rfl, rfl, rfl⟩); (case S => exact (by first | exact agg34 | exact agg24 | exact agg31 | exact agg57 | exact agg58 | exact agg52)); (case hn => exact rfl); (case h1 => exact rfl); (case ho => exact Nat.le_of_ble_eq_true rfl); (case hc => exact rfl))); clear H; intro _ H; (try simp only [over, List.set_cons_zero, List.set_cons_succ] at H))))
    refine LoopP.mk (fun m s w' => ∃ k a' n' c' X, m = r.attrs.length - k ∧ s = ((a', n', c'), (k : Int)) ∧ k ≤ r.attrs.length ∧ X ++ attrsB (r.attrs.drop k) = wholeB r ∧ n' = X.length ∧
      Hp [] w w' [.own 5 1 a' n' c' (bcells X)]) r.attrs.length ⟨0, a3, _, c3, _, rfl, rfl, Nat.zero_le _, rfl, rfl, H.done1⟩ ?_
    clear H
    rintro m s w' next ⟨k, a', n', c', X, rfl, rfl, hk, hX, rfl, H⟩ hnext
    dsimp only
    refine br_dec (fun h => ?_) (fun h => ?_)
    · have hkl : k < r.attrs.length := by omega
      have hp : r.attrs[k]? = some r.attrs[k] := List.getElem?_eq_getElem hkl
      obtain ⟨ad, had⟩ := hA.some hkl
      rw [List.drop_eq_getElem_cons hkl, attrsB, List.flatMap_cons, ← attrsB] at hX
      have hL : (X ++ (be r.attrs[k].1 2 ++ be (r.attrs[k].2.size : Int) 2 ++ r.attrs[k].2.data.toList ++ attrsB (r.attrs.drop (k + 1)))).length = (wholeB r).length := by rw [hX]
      simp only [List.length_append, be_length, Array.length_toList] at hL
      have hsz : r.attrs[k].2.data.size = r.attrs[k].2.size := rfl
      refine onP_mk had ⟨⟨by omega, h⟩, _, _, (hA.chg H.chg (by simp)).ld agg58 hp had, ?_⟩
      (repeat (first | ((repeat apply Exists.intro); first | refine ⟨H.ld (by exact ⟨rfl, rfl, rfl, rfl⟩) (by first | exact scl3 | exact scl9 | exact scl32 | exact scl22 | exact scl53 | exact scl26 | exact scl4 | exact scl5) (by repeat first | exact .head _ | refine .tail _ ?_) rfl, ?_⟩ | refine ⟨H.ldA (by exact ⟨rfl, rfl, rfl, rfl⟩) (by first | exact agg34 | exact agg24 | exact agg31 | exact agg57 | exact agg58 | exact agg52) (by repeat first | exact .head _ | refine .tail _ ?_) rfl rfl, ?_⟩) | (intro _ _ hn; replace H := H.new (by exact ⟨rfl, rfl, rfl, rfl⟩) hn; clear hn) | ((first | (apply Hp.st; (case H => first | exact H | exact H.pull1 | exact H.pull2 | exact H.pull3 | exact H.pull4 | exact H.pull5 | exact H.pull6 | exact H.pull7); (case e => exact ⟨rfl, rfl, rfl, rfl⟩); (case S => exact (by first | exact scl3 | exact scl9 | exact scl32 | exact scl22 | exact scl53 | exact scl26 | exact scl4 | exact scl5)); (case hv => exact rfl); (case h1 => exact rfl); (case ho => exact Nat.le_of_ble_eq_true rfl); (case hc => exact rfl)) | (apply Hp.stA; (case H => first | exact H | exact H.pull1 | exact H.pull2 | exact H.pull3 | exact H.pull4 | exact H.pull5 | exact H.pull6 | exact H.pull7); (case e => exact ⟨rfl, rfl, rfl, rfl⟩); (case S => exact (by first | exact agg34 | exact agg24 | exact agg31 | exact agg57 | exact agg58 | exact agg52)); (case hn => exact rfl); (case h1 => exact rfl); (case ho => exact Nat.le_of_ble_eq_true rfl); (case hc => exact rfl))); clear H; intro _ H; (try simp only [over, List.set_cons_zero, List.set_cons_succ] at H))))
      refine callV (lay_hp (bs := X) [(r.attrs[k].1, 2), ((r.attrs[k].2.size : Int), 2)] H.pull2 (by repeat first | exact .head _ | refine .tail _ ?_) (by simp) rfl (by simp) (by simp [laid, be_length] <;> omega)) ?_
      clear H
      rintro e w4 ⟨a4, c4, rfl, H⟩
      refine ⟨_, _, _, rfl, ?_⟩
      (repeat (first | ((repeat apply Exists.intro); first | refine ⟨H.ld (by exact ⟨rfl, rfl, rfl, rfl⟩) (by first | exact scl3 | exact scl9 | exact scl32 | exact scl22 | exact scl53 | exact scl26 | exact scl4 | exact scl5) (by repeat first | exact .head _ | refine .tail _ ?_) rfl, ?_⟩ | refine ⟨H.ldA (by exact ⟨rfl, rfl, rfl, rfl⟩) (by first | exact agg34 | exact agg24 | exact agg31 | exact agg57 | exact agg58 | exact agg52) (by repeat first | exact .head _ | refine .tail _ ?_) rfl rfl, ?_⟩) | (intro _ _ hn; replace H := H.new (by exact ⟨rfl, rfl, rfl, rfl⟩) hn; clear hn) | ((first | (apply Hp.st; (case H => first | exact H | exact H.pull1 | exact H.pull2 | exact H.pull3 | exact H.pull4 | exact H.pull5 | exact H.pull6 | exact H.pull7); (case e => exact ⟨rfl, rfl, rfl, rfl⟩); (case S => exact (by first | exact scl3 | exact scl9 | exact scl32 | exact scl22 | exact scl53 | exact scl26 | exact scl4 | exact scl5)); (case hv => exact rfl); (case h1 => exact rfl); (case ho => exact Nat.le_of_ble_eq_true rfl); (case hc => exact rfl)) | (apply Hp.stA; (case H => first | exact H | exact H.pull1 | exact H.pull2 | exact H.pull3 | exact H.pull4 | exact H.pull5 | exact H.pull6 | exact H.pull7); (case e => exact ⟨rfl, rfl, rfl, rfl⟩); (case S => exact (by first | exact agg34 | exact agg24 | exact agg31 | exact agg57 | exact agg58 | exact agg52)); (case hn => exact rfl); (case h1 => exact rfl); (case ho => exact Nat.le_of_ble_eq_true rfl); (case hc => exact rfl))); clear H; intro _ H; (try simp only [over, List.set_cons_zero, List.set_cons_succ] at H))))
      rw [laid_two] at H ⊢
      refine Hp.app elt53 (by omega) H (by exact ⟨rfl, rfl, rfl, rfl⟩) (Src.ofString _ und9 _) (by simp [be_length]; omega) (by simp [be_length]; omega) ?_
      clear H
      intro a5 c5 w5 H
      refine ⟨inR64.2 (by omega), hnext (r.attrs.length - (k + 1)) _ _ (by omega) ⟨k + 1, a5, _, c5, X ++ (be r.attrs[k].1 2 ++ be (r.attrs[k].2.size : Int) 2 ++ r.attrs[k].2.data.toList), rfl, rfl, by omega, ?_, ?_, ?_⟩⟩
      · rw [← hX]; simp
      · simp [be_length]; omega
      · rw [byteCells_eq, ← bcells_append, List.append_assoc] at H
        exact H.done1
    · have hkl : k = r.attrs.length := by omega
      subst hkl
      simp only [List.drop_length, attrsB, List.flatMap_nil, List.append_nil] at hX
      subst hX
      exact ⟨a', c', rfl, H⟩
  · intro J hJ
    refine ⟨?_, ?_⟩
    · (repeat (first | ((repeat apply Exists.intro); first | refine ⟨H.ld (by exact ⟨rfl, rfl, rfl, rfl⟩) (by first | exact scl3 | exact scl9 | exact scl32 | exact scl22 | exact scl53 | exact scl26 | exact scl4 | exact scl5) (by repeat first | exact .head _ | refine .tail _ ?_) rfl, ?_⟩ | refine ⟨H.ldA (by exact ⟨rfl, rfl, rfl, rfl⟩) (by first | exact agg34 | exact agg24 | exact agg31 | exact agg57 | exact agg58 | exact agg52) (by repeat first | exact .head _ | refine .tail _ ?_) rfl rfl, ?_⟩) | (intro _ _ hn; replace H := H.new (by exact ⟨rfl, rfl, rfl, rfl⟩) hn; clear hn) | ((first | (apply Hp.st; (case H => first | exact H | exact H.pull1 | exact H.pull2 | exact H.pull3 | exact H.pull4 | exact H.pull5 | exact H.pull6 | exact H.pull7); (case e => exact ⟨rfl, rfl, rfl, rfl⟩); (case S => exact (by first | exact scl3 | exact scl9 | exact scl32 | exact scl22 | exact scl53 | exact scl26 | exact scl4 | exact scl5)); (case hv => exact rfl); (case h1 => exact rfl); (case ho => exact Nat.le_of_ble_eq_true rfl); (case hc => exact rfl)) | (apply Hp.stA; (case H => first | exact H | exact H.pull1 | exact H.pull2 | exact H.pull3 | exact H.pull4 | exact H.pull5 | exact H.pull6 | exact H.pull7); (case e => exact ⟨rfl, rfl, rfl, rfl⟩); (case S => exact (by first | exact agg34 | exact agg24 | exact agg31 | exact agg57 | exact agg58 | exact agg52)); (case hn => exact rfl); (case h1 => exact rfl); (case ho => exact Nat.le_of_ble_eq_true rfl); (case hc => exact rfl))); clear H; intro _ H; (try simp only [over, List.set_cons_zero, List.set_cons_succ] at H))))
      refine Hp.app elt53 (by omega) H (by exact ⟨rfl, rfl, rfl, rfl⟩) (Src.ofString _ und9 r.text) (by omega) (by omega) ?_
      clear H
      intro a5 c5 w5 H
      (repeat (first | ((repeat apply Exists.intro); first | refine ⟨H.ld (by exact ⟨rfl, rfl, rfl, rfl⟩) (by first | exact scl3 | exact scl9 | exact scl32 | exact scl22 | exact scl53 | exact scl26 | exact scl4 | exact scl5) (by repeat first | exact .head _ | refine .tail _ ?_) rfl, ?_⟩ | refine ⟨H.ldA (by exact ⟨rfl, rfl, rfl, rfl⟩) (by first | exact agg34 | exact agg24 | exact agg31 | exact agg57 | exact agg58 | exact agg52) (by repeat first | exact .head _ | refine .tail _ ?_) rfl rfl, ?_⟩) | (intro _ _ hn; replace H := H.new (by exact ⟨rfl, rfl, rfl, rfl⟩) hn; clear hn) | ((first | (apply Hp.st; (case H => first | exact H | exact H.pull1 | exact H.pull2 | exact H.pull3 | exact H.pull4 | exact H.pull5 | exact H.pull6 | exact H.pull7); (case e => exact ⟨rfl, rfl, rfl, rfl⟩); (case S => exact (by first | exact scl3 | exact scl9 | exact scl32 | exact scl22 | exact scl53 | exact scl26 | exact scl4 | exact scl5)); (case hv => exact rfl); (case h1 => exact rfl); (case ho => exact Nat.le_of_ble_eq_true rfl); (case hc => exact rfl)) | (apply Hp.stA; (case H => first | exact H | exact H.pull1 | exact H.pull2 | exact H.pull3 | exact H.pull4 | exact H.pull5 | exact H.pull6 | exact H.pull7); (case e => exact ⟨rfl, rfl, rfl, rfl⟩); (case S => exact (by first | exact agg34 | exact agg24 | exact agg31 | exact agg57 | exact agg58 | exact agg52)); (case hn => exact rfl); (case h1 => exact rfl); (case ho => exact Nat.le_of_ble_eq_true rfl); (case hc => exact rfl))); clear H; intro _ H; (try simp only [over, List.set_cons_zero, List.set_cons_succ] at H))))
      have el : frontB r ++ r.text.data.toList ++ be (r.attrs.length : Int) 1 = frontB r ++ r.text.data.toList ++ laid [((n : Int), 1)] := by rw [hlen, laid_one]
      refine callV (lay_hp (bs := frontB r ++ r.text.data.toList) [((n : Int), 1)] (by rw [byteCells_eq, ← bcells_append] at H; exact H.pull1) (by repeat first | exact .head _ | refine .tail _ ?_) (by simp) (by simp <;> rfl) (by simp) (by simp [laid, be_length] <;> omega)) ?_
      clear H
      rintro e w6 ⟨a6, c6, rfl, H⟩
      refine ⟨_, _, _, rfl, hJ _ _ ⟨a6, _, c6, rfl, ?_, ?_⟩⟩
      · rw [el]
      · rw [el]; exact H.drop1
    · (repeat (first | ((repeat apply Exists.intro); first | refine ⟨H.ld (by exact ⟨rfl, rfl, rfl, rfl⟩) (by first | exact scl3 | exact scl9 | exact scl32 | exact scl22 | exact scl53 | exact scl26 | exact scl4 | exact scl5) (by repeat first | exact .head _ | refine .tail _ ?_) rfl, ?_⟩ | refine ⟨H.ldA (by exact ⟨rfl, rfl, rfl, rfl⟩) (by first | exact agg34 | exact agg24 | exact agg31 | exact agg57 | exact agg58 | exact agg52) (by repeat first | exact .head _ | refine .tail _ ?_) rfl rfl, ?_⟩) | (intro _ _ hn; replace H := H.new (by exact ⟨rfl, rfl, rfl, rfl⟩) hn; clear hn) | ((first | (apply Hp.st; (case H => first | exact H | exact H.pull1 | exact H.pull2 | exact H.pull3 | exact H.pull4 | exact H.pull5 | exact H.pull6 | exact H.pull7); (case e => exact ⟨rfl, rfl, rfl, rfl⟩); (case S => exact (by first | exact scl3 | exact scl9 | exact scl32 | exact scl22 | exact scl53 | exact scl26 | exact scl4 | exact scl5)); (case hv => exact rfl); (case h1 => exact rfl); (case ho => exact Nat.le_of_ble_eq_true rfl); (case hc => exact rfl)) | (apply Hp.stA; (case H => first | exact H | exact H.pull1 | exact H.pull2 | exact H.pull3 | exact H.pull4 | exact H.pull5 | exact H.pull6 | exact H.pull7); (case e => exact ⟨rfl, rfl, rfl, rfl⟩); (case S => exact (by first | exact agg34 | exact agg24 | exact agg31 | exact agg57 | exact agg58 | exact agg52)); (case hn => exact rfl); (case h1 => exact rfl); (case ho => exact Nat.le_of_ble_eq_true rfl); (case hc => exact rfl))); clear H; intro _ H; (try simp only [over, List.set_cons_zero, List.set_cons_succ] at H))))
      refine Hp.app elt53 (by omega) (n := (frontB r).length) H.pull1 (by exact ⟨rfl, rfl, rfl, rfl⟩) (Src.ofString _ und9 r.text) (by omega) (by omega) ?_
      clear H
      intro a5 c5 w5 H
      have el : frontB r ++ r.text.data.toList ++ be (r.attrs.length : Int) 1 = frontB r ++ r.text.data.toList ++ laid [((n : Int), 1)] := by rw [hlen, laid_one]
      refine callV (lay_hp (bs := frontB r ++ r.text.data.toList) [((n : Int), 1)] (by rw [byteCells_eq, ← bcells_append] at H; exact H) (by repeat first | exact .head _ | refine .tail _ ?_) (by simp) (by simp <;> rfl) (by simp) (by simp [laid, be_length] <;> omega)) ?_
      clear H
      rintro e w6 ⟨a6, c6, rfl, H⟩
      refine ⟨_, _, _, rfl, hJ _ _ ⟨a6, _, c6, rfl, ?_, ?_⟩⟩
      · rw [el]
      · rw [el]; exact H.drop1
end Go.Proofs.Ytcgaobfbgfefhaa
