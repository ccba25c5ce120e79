/-
  THE NAMES' ROW IN MEMORY; THE WALKS OF (*typ.names).of's CLOSURE AND OF slices.IndexFunc WITH IT.
-/
import Derived.Test.YtnlifgcnmhakiaaDoorTItoa
import Derived.Test.YtnlifgcnmhakiaaDoorTKept
import Derived.Deep.LoopGhost
import Derived.BigQuiet
namespace Go.Proofs.YtnlifgcnmhakiaaDoor
open Go.ChangeShapes Go.WideShapes Go.ChangeAt Go.RowKit

def flatK : List (ByteArray × Int) → List Value
  | [] => []
  | k :: ks => [.int .i64 2, .string k.1, .int .i64 k.2, .slice none 0 0] ++ flatK ks
theorem flatK_append (ks ls : List (ByteArray × Int)) : flatK (ks ++ ls) = flatK ks ++ flatK ls := by
  induction ks with
  | nil => rfl
  | cons k ks ih => rw [List.cons_append, flatK, flatK, ih, List.append_assoc]
theorem flatK_get {ks : List (ByteArray × Int)} {i : Nat} (hi : i < ks.length) : (flatK ks)[i * 4]? = some (.int .i64 2) ∧ (flatK ks)[i * 4 + 1]? = some (.string ks[i].1) ∧ (flatK ks)[i * 4 + 2]? = some (.int .i64 ks[i].2) ∧ (flatK ks)[i * 4 + 3]? = some (.slice none 0 0) := by
  induction ks generalizing i with
  | nil => simp at hi
  | cons k ks ih =>
    cases i with
    | zero => simp [flatK]
    | succ i =>
      have := ih (i := i) (by simpa using hi)
      rw [flatK]
      have hz : [Value.int .i64 2, .string k.1, .int .i64 k.2, .slice none 0 0].length = 4 := rfl
      have hs : ∀ j, ([Value.int .i64 2, .string k.1, .int .i64 k.2, .slice none 0 0] ++ flatK ks)[(i + 1) * 4 + j]? = (flatK ks)[i * 4 + j]? := fun j => by
        rw [List.getElem?_append_right (by rw [hz]; omega), hz]
        congr 1
        omega
      have h0 := hs 0
      rw [Nat.add_zero, Nat.add_zero] at h0
      rw [h0, hs 1, hs 2, hs 3]
      simpa using this
/-- The names' struct at p, and its row. -/
structure NL (w : World) (p : Nat) (ks : List (ByteArray × Int)) (v : Value) : Prop where
  blk : Blk w p 53 #[v]
  row : w.ownsRow (p + 1) 24 4 v ks.length (flatK ks)
theorem NL.keep {w w' : World} {p : Nat} {ks : List (ByteArray × Int)} {v : Value} (h : NL w p ks v) (hk : ∀ b, b < w.heap.size → (b = p ∨ v.ownBlock = some b) → w'.heap[b]? = w.heap[b]?) : NL w' p ks v :=
  ⟨(hk p h.blk.lt (.inl rfl)).trans h.blk, row_keep h.row (fun g hg => by have := h.row.lt g hg; exact hk g (by omega) (.inr hg))⟩
theorem NL.up {w w' : World} {p : Nat} {ks : List (ByteArray × Int)} {v : Value} (h : NL w p ks v) (hb : Below w.heap.size w w') : NL w' p ks v := h.keep (fun b hl _ => hb.block b hl)
theorem NL.slice {w : World} {p : Nat} {ks : List (ByteArray × Int)} {v : Value} (h : NL w p ks v) : ∃ A c, v = .slice A ks.length c := by
  obtain ⟨A, c, e, _⟩ := row_slice h.row
  exact ⟨A, c, e⟩
def KRow (w : World) (ks : List (ByteArray × Int)) (A : Option Addr) : Prop := ∀ i, (hi : i < ks.length) → ∃ ad, A = some ad ∧ w.cell? (ad.add (i * 4)) = some (.int .i64 2) ∧ w.cell? ⟨(ad.add (i * 4)).block, (ad.add (i * 4)).off + 1, none⟩ = some (.string ks[i].1) ∧ w.cell? ⟨(ad.add (i * 4)).block, (ad.add (i * 4)).off + 2, none⟩ = some (.int .i64 ks[i].2) ∧ w.cell? ⟨(ad.add (i * 4)).block, (ad.add (i * 4)).off + 3, none⟩ = some (.slice none 0 0)
theorem KRow.up {w w' : World} {ks : List (ByteArray × Int)} {A : Option Addr} (h : KRow w ks A) (hb : Below w.heap.size w w') : KRow w' ks A := fun i hi => by
  obtain ⟨ad, h1, h2, h3, h4, h5⟩ := h i hi
  exact ⟨ad, h1, (hb.cell (cell_lt h2)).trans h2, (hb.cell (cell_lt h3)).trans h3, (hb.cell (cell_lt h4)).trans h4, (hb.cell (cell_lt h5)).trans h5⟩
theorem NL.krow {w : World} {p n c : Nat} {ks : List (ByteArray × Int)} {A : Option Addr} (h : NL w p ks (.slice A n c)) : KRow w ks A := by
  intro i hi
  obtain ⟨A5, c5, e5, l1, l2, l3, l4⟩ := row_slice h.row
  injection e5 with e6 e8 e7
  subst e6 e7 e8
  cases A with
  | none => have := (l3 rfl).1; omega
  | some a =>
    obtain ⟨h1, h2⟩ := l4 a rfl
    have ha : a = ⟨a.block, 0, none⟩ := by obtain ⟨x, y, z⟩ := a; simp_all
    have hcell : ∀ j u, (flatK ks)[j]? = some u → w.cell? (a.add j) = some u := by rw [ha]; exact h.row.cells (g := a.block) rfl
    obtain ⟨g0, g1, g2, g3⟩ := flatK_get hi
    refine ⟨a, rfl, hcell _ _ g0, ?_, ?_, ?_⟩
    · rw [add_four _ _ _ (by omega)]; exact hcell _ _ g1
    · rw [add_four _ _ _ (by omega)]; exact hcell _ _ g2
    · rw [add_four _ _ _ (by omega)]; exact hcell _ _ g3
def posI (ks : List (ByteArray × Int)) (k : ByteArray × Int) : Int := if posK ks k < ks.length then posK ks k else -1
def KeyP (b : Bool) (w : World) (e : Ending) (w' : World) : Prop := e = .returned (.bool b) ∧ Below w.heap.size w w'
set_option maxHeartbeats 2000000 in
set_option maxRecDepth 100000 in
theorem of_lit (k1 k2 : ByteArray × Int) (g : Nat) (w : World) (h : Blk w g 24 #[.int .i64 2, .string k2.1, .int .i64 k2.2, .slice none 0 0]) :
    Calls Tryd.prog 37 #[.agg #[.int .i64 2, .string k1.1, .int .i64 k1.2, .slice none 0 0], .pointer (some ⟨g, 0, none⟩)] w (KeyP (decide (k1 = k2)) w) := by
  obtain ⟨s1, n1⟩ := k1
  obtain ⟨s2, n2⟩ := k2
  dsimp only at h ⊢
  have z1 : ∀ o, (w.alloc o).cell? ⟨g, 1, none⟩ = some (.string s2) := fun o => (h.alloc o).cell 1
  have z2 : ∀ o, (w.alloc o).cell? ⟨g, 2, none⟩ = some (.int .i64 n2) := fun o => (h.alloc o).cell 2
  have hg := h.lt
  clear h
  by_cases e1 : s1 = s2
  · subst e1
    by_cases e2 : n1 = n2
    · subst e2
      go_enter Tryd.func37, Tryd.ntmps37
      go_wp2
      go_ret
      exact ⟨by simp, (Below.refl _ _).alloc (Nat.le_refl _) _⟩
    · have he : (n1 == n2) = false := by simpa using e2
      have hd : decide ((s1, n1) = (s1, n2)) = false := decide_eq_false (fun e => e2 (by injection e))
      rw [hd]
      clear hd e2
      go_enter Tryd.func37, Tryd.ntmps37
      go_wp2
      go_ret
      exact ⟨rfl, (Below.refl _ _).alloc (Nat.le_refl _) _⟩
  · have he2 : (s1.toList == s2.toList) = false := str_ne (decide_eq_false e1)
    have hd : decide ((s1, n1) = (s2, n2)) = false := decide_eq_false (fun e => e1 (by injection e))
    rw [hd]
    clear hd e1
    go_enter Tryd.func37, Tryd.ntmps37
    go_wp2
    go_ret
    exact ⟨rfl, (Below.refl _ _).alloc (Nat.le_refl _) _⟩
def PosP (ks : List (ByteArray × Int)) (k : ByteArray × Int) (w : World) (e : Ending) (w' : World) : Prop := e = .returned (.int .i64 (posI ks k)) ∧ Below w.heap.size w w'
set_option maxHeartbeats 4000000 in
set_option maxRecDepth 100000 in
theorem of_index (ks : List (ByteArray × Int)) (k : ByteArray × Int) (A : Option Addr) (c g : Nat) (w : World) (hl : ks.length ≤ 100000) (hk : KRow w ks A) (h : Blk w g 24 #[.int .i64 2, .string k.1, .int .i64 k.2, .slice none 0 0]) :
    Calls Tryd.prog 36 #[.slice A ks.length c, .func (.func 37) #[] #[.pointer (some ⟨g, 0, none⟩)]] w (PosP ks k w) := by
  have H := hid (And.intro hk h)
  clear hk h
  go_enter Tryd.func36, Tryd.ntmps36
  go_wp2
  go_loopg [8] ks.length (fun gg x wr => ∃ i : Nat, i + gg = ks.length ∧ x = .int .i64 i ∧ Hid (Below w.heap.size w wr) ∧ Hid (∀ j, (h : j < ks.length) → j < i → ks[j] ≠ k))
  case atStart => exact ⟨0, by omega, rfl, hid (Below.refl _ _), hid (fun j _ h => by omega)⟩
  case round =>
    obtain ⟨i, hi, rfl, hb, hn⟩ := hrel
    have Hi := hid hi
    by_cases hlt : i < ks.length
    case neg =>
      obtain rfl : i = ks.length := by omega
      clear hi
      go_wp2
      go_ret
      have e1 : posI ks k = -1 := by unfold posI; rw [if_neg (by rw [posK_none (fun j h => hn.out j h h)]; omega)]
      exact ⟨by rw [e1]; rfl, hb.out⟩
    have hlt' : (i : Int) < ks.length := by omega
    obtain ⟨ad, hA, y0, y1, y2, y3⟩ := (H.out.1.up hb.out) i hlt
    subst hA
    have HT := hid hlt
    generalize hd9 : ks[i] = d at y1 y2
    have Hd := hid hd9
    have HB := hid (H.out.2.below hb.out H.out.2.lt)
    clear hd9
    by_cases he : d = k
    · have hn9 : ks[i] = k := Hd.out.trans he
      have e1 : posI ks k = i := by unfold posI; rw [if_pos (by rw [posK_at HT.out hn9 hn.out]; exact hlt), posK_at HT.out hn9 hn.out]
      have E1 := hid e1
      have hdt := hid (decide_eq_true he)
      clear hi e1 hn9 he
      go_wp2_with (go_at_call 37; go_must (refine (of_lit d k g wr HB.out).mono ?_); rintro e w1 ⟨he9, b1⟩; go_must (rw [hdt.out] at he9; subst he9))
      go_ret
      exact ⟨by rw [E1.out]; rfl, below_hop b1 hb.out⟩
    · have HE := hid he
      have hdt := hid (decide_eq_false he)
      clear hi he
      go_wp2_with (go_at_call 37; go_must (refine (of_lit d k g wr HB.out).mono ?_); rintro e w1 ⟨he9, b1⟩; go_must (rw [hdt.out] at he9; subst he9))
      have hgk := Hi.out
      go_roundg (gk - 1)
      case rel =>
        refine ⟨i + 1, by omega, by go_num, hid (below_hop b1 hb.out), hid (fun j hj hji => ?_)⟩
        by_cases hjj : j = i
        · subst hjj; exact fun e => HE.out (Hd.out.symm.trans e)
        · exact hn.out j hj (by omega)
      case measure => omega
end Go.Proofs.YtnlifgcnmhakiaaDoor
