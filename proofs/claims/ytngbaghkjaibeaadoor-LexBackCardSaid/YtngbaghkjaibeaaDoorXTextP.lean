/-
  PLAIN: tokens as a text, or why not; rows of texts, rows of bytes.
-/
import Derived.Test.YtngbaghkjaibeaaDoorXOpen
import Derived.Test.YtngbaghkjaibeaaDoorXShelfI
import Derived.Test.YtngbaghkjaibeaaDoorXPlainD
import Derived.Lib.AppendStr
import Derived.Lib.Join
import Derived.Laws.IdiomStrings
import Derived.Lib.BufferRead
namespace Go.Proofs.YtngbaghkjaibeaaDoor
set_option linter.all false
open Go.ChangeShapes Go.WideShapes Go.ChangeAt Go.RowKit
namespace Lx
/-- The text of tokens, and the error. -/
def textF (l : List Tok) : List UInt8 × Int :=
  if 4096 < l.length then ([], 3) else if l.all goodB = false then ([], 1) else if 8192 < (joinF Lib.decDigits l).length then ([], 2) else (joinF Lib.decDigits l, 0)
def spB (t : Tok) : ByteArray := ⟨(spellF Lib.decDigits t).toArray⟩
theorem spB_list (t : Tok) : (spB t).data.toList = spellF Lib.decDigits t := rfl
theorem spB_size {t : Tok} (h : goodB t = true) : (spB t).size ≤ 33 := by
  have := (good_of h).1
  show (spellF Lib.decDigits t).toArray.size ≤ 33
  simpa using this
theorem join_is : ∀ l : List Tok, joinF Lib.decDigits l = Lib.join (l.map (spellF Lib.decDigits)) [32]
  | [] => rfl
  | [t] => by unfold Lib.join; simp [joinF, List.intercalate, List.intersperse]
  | t :: u :: l => by
    have ih := join_is (u :: l)
    show spellF Lib.decDigits t ++ 32 :: joinF Lib.decDigits (u :: l) = _
    rw [ih]
    unfold Lib.join
    simp [List.intercalate]
theorem join_snoc (digs : Nat → List UInt8) : ∀ (l : List Tok) (t : Tok), l ≠ [] → joinF digs (l ++ [t]) = joinF digs l ++ 32 :: spellF digs t
  | [], t, h => absurd rfl h
  | [u], t, _ => rfl
  | u :: v :: l, t, _ => by
    have ih := join_snoc digs (v :: l) t (by simp)
    show spellF digs u ++ 32 :: joinF digs (v :: l ++ [t]) = (spellF digs u ++ 32 :: joinF digs (v :: l)) ++ 32 :: spellF digs t
    rw [ih]
    simp
theorem join_take {digs : Nat → List UInt8} {l : List Tok} {j : Nat} (h : j < l.length) (h0 : 0 < j) : joinF digs (l.take (j + 1)) = joinF digs (l.take j) ++ 32 :: spellF digs l[j] := by
  rw [List.take_succ_eq_append_getElem h]
  exact join_snoc digs _ _ (by intro e; have := congrArg List.length e; rw [List.length_take, List.length_nil] at this; omega)
theorem join_len {l : List Tok} (h : ∀ t ∈ l, goodB t = true) : (joinF Lib.decDigits l).length ≤ l.length * 34 := by
  have : ∀ l : List Tok, (∀ t ∈ l, goodB t = true) → (joinF Lib.decDigits l).length ≤ l.length * 34 := by
    intro l
    induction l with
    | nil => intro _; simp [joinF]
    | cons t l ih =>
      intro h
      have h1 := (good_of (h t (by simp))).1
      have h2 := ih (fun x hx => h x (by simp [hx]))
      cases l with
      | nil => show (spellF Lib.decDigits t).length ≤ _; simp; omega
      | cons u l =>
        show (spellF Lib.decDigits t ++ 32 :: joinF Lib.decDigits (u :: l)).length ≤ _
        simp only [List.length_append, List.length_cons] at h2 ⊢
        omega
  exact this l h
theorem text_many {l : List Tok} (h : 4096 < l.length) : textF l = ([], 3) := by unfold textF; rw [if_pos h]
theorem text_bad {l : List Tok} (h : ¬ 4096 < l.length) {j : Nat} (hj : j < l.length) (hg : goodB l[j] = false) : textF l = ([], 1) := by
  unfold textF
  rw [if_neg h, if_pos]
  rw [← Bool.not_eq_true, List.all_eq_true]
  intro h9
  have := h9 _ (List.getElem_mem hj)
  rw [hg] at this
  cases this
theorem all_good {l : List Tok} (h : ∀ j, (h : j < l.length) → goodB l[j] = true) : l.all goodB = true := by
  rw [List.all_eq_true]
  intro x hx
  obtain ⟨j, hj, rfl⟩ := List.getElem_of_mem hx
  exact h j hj
theorem text_long {l : List Tok} (h : ¬ 4096 < l.length) (hg : l.all goodB = true) (hl : 8192 < (joinF Lib.decDigits l).length) : textF l = ([], 2) := by
  unfold textF; rw [if_neg h, if_neg (by rw [hg]; decide), if_pos hl]
theorem text_ok {l : List Tok} (h : ¬ 4096 < l.length) (hg : l.all goodB = true) (hl : ¬ 8192 < (joinF Lib.decDigits l).length) : textF l = (joinF Lib.decDigits l, 0) := by
  unfold textF; rw [if_neg h, if_neg (by rw [hg]; decide), if_neg hl]
end Lx
theorem info_str : InfoIs Tryd.prog 9 (.string ⟨#[]⟩) 1 16 := by unfold InfoIs; kernel_rfl
theorem info_u8 : InfoIs Tryd.prog 5 (.int .u8 0) 1 1 := by unfold InfoIs; kernel_rfl
/-- A row of texts of one's own. -/
def SOwn (w : World) (B : Nat) (v : Value) (ss : List ByteArray) : Prop := w.ownsRow B 9 1 v ss.length (ss.map .string)
theorem SOwn.slice {w : World} {B : Nat} {v : Value} {ss : List ByteArray} (h : SOwn w B v ss) : (v = .slice none 0 0 ∧ ss = []) ∨ ∃ g c, v = .slice (some ⟨g, 0, none⟩) ss.length c ∧ ss.length ≤ c ∧ g < w.heap.size ∧ ∀ (j : Nat) x, ss[j]? = some x → w.cell? ⟨g, 0 + j, none⟩ = some (.string x) := by
  have hh := h
  rcases h.2 with ⟨h1, h2⟩ | ⟨g, cap, cur, h1, hB, hg, h2, h3, h4⟩
  · exact .inl ⟨h1, List.length_eq_zero_iff.1 h2⟩
  · subst h1
    refine .inr ⟨g, cap, rfl, h2, (World.ownsRow.lt h g rfl).2, fun j x hj => ?_⟩
    have := World.ownsRow.cells hh (g := g) rfl j (.string x) (by simp [hj])
    have hadd : ∀ k, (⟨g, 0, none⟩ : Addr).add k = ⟨g, k, none⟩ := fun k => by unfold Addr.add; split <;> simp_all
    rw [hadd] at this
    rw [Nat.zero_add]
    exact this
theorem SOwn.shape {w : World} {B : Nat} {v : Value} {ss : List ByteArray} (h : SOwn w B v ss) : ∃ A c, v = .slice A ss.length c := by
  rcases h.slice with ⟨h1, h2⟩ | ⟨g, c, h1, _⟩
  · subst h2; exact ⟨none, 0, h1⟩
  · exact ⟨_, _, h1⟩
/-- A row of bytes of one's own. -/
def BOwn (w : World) (B : Nat) (v : Value) (s : ByteArray) : Prop := w.ownsRow B 5 1 v s.size (Lib.strCells s)
theorem BOwn.nil (w : World) (B : Nat) : BOwn w B (.slice none 0 0) ⟨#[]⟩ := World.ownsRow_nil w B 5 1
theorem BOwn.slice {w : World} {B : Nat} {v : Value} {s : ByteArray} (h : BOwn w B v s) : ∃ A c, v = .slice A s.size c := by
  rcases h.2 with ⟨h1, h2⟩ | ⟨g, cap, cur, h1, _⟩
  · rw [h2, h1]; exact ⟨none, 0, rfl⟩
  · exact ⟨_, _, h1⟩
set_option maxRecDepth 100000 in
theorem BOwn.text {w : World} {B n c : Nat} {A : Option Addr} {s : ByteArray} (h : BOwn w B (.slice A n c) s) : (convert 34 9 (.slice A n c)).run Tryd.prog w = .ok (.string s) w := by
  obtain ⟨A', c', hv⟩ := h.slice
  injection hv with e1 e2 e3
  subst e1 e2 e3
  cases A with
  | none =>
    have h0 : s.size = 0 := by
      rcases h.2 with ⟨_, h2⟩ | ⟨g, cap, cur, h1, _⟩
      · exact h2
      · cases h1
    have hs : s = ⟨#[]⟩ := by
      apply ByteArray.ext
      exact Array.size_eq_zero_iff.1 h0
    rw [h0, hs]
    exact Lib.run_convert_nil_bytes w 34 9 5 c Tryd.underlying34 Tryd.underlying5 Tryd.underlying9
  | some a =>
    rcases h.2 with ⟨h1, _⟩ | ⟨g, cap, cur, h1, _⟩
    · cases h1
    · have e1 : some a = some ⟨g, 0, none⟩ := congrArg (fun v => match v with | Value.slice x _ _ => x | _ => none) h1
      have e2 := Option.some.inj e1
      subst e2
      have hr := run_convert_bytes_back (P := Tryd.prog) w 34 9 5 ⟨g, 0, none⟩ c s.data.toList Tryd.underlying34 Tryd.underlying5 Tryd.underlying9 (fun i hi => by
        have := World.ownsRow.cells h (g := g) rfl i (.int .u8 (s.data.toList[i]).toNat) (by unfold Lib.strCells; simp at hi; simp [hi])
        rw [this])
      have hl : s.data.toList.length = s.size := size_list s
      rw [hl] at hr
      exact hr
theorem BOwn.app1 {w : World} {B : Nat} {v : Value} {s : ByteArray} {b : UInt8} {n : Int} (hb : (b.toNat : Int) = n) (h : w.ownsRow B 5 1 v (s.size + 1) (Lib.strCells s ++ #[Value.int .u8 n].toList)) : BOwn w B v (s ++ ⟨#[b]⟩) := by
  unfold BOwn
  rw [ByteArray.size_append]
  have e : Lib.strCells (s ++ ⟨#[b]⟩) = Lib.strCells s ++ #[Value.int .u8 n].toList := by
    unfold Lib.strCells
    simp [hb]
  rw [e]
  exact h
theorem BOwn.appS {w : World} {B : Nat} {v : Value} {s t : ByteArray} (h : w.ownsRow B 5 1 v (s.size + t.size) (Lib.strCells s ++ Lib.strCells t)) : BOwn w B v (s ++ t) := by
  unfold BOwn
  rw [ByteArray.size_append]
  have e : Lib.strCells (s ++ t) = Lib.strCells s ++ Lib.strCells t := by
    unfold Lib.strCells
    simp
  rw [e]
  exact h
set_option maxRecDepth 100000 in
/-- append of a text's bytes onto a row of one's own. -/
theorem wpList_appS {w : World} {ops : Array Oper} {rest : List Oper} {o : Oper} {a : Act} {Q : Exit → Act → World → Prop} (hgd : o.guard = none) (sl x : Operand)
    (ho : o.op = .call { callee := .builtin .append, args := #[sl, x], argTypes := #[34, 9] }) (B : Nat) (v : Value) (s : ByteArray) (hs : a.eval sl = v) (hown : BOwn w B v s) (t : ByteArray) (hx : a.eval x = .string t) (hl : s.size + t.size ≤ 10000000) (hB : B ≤ w.heap.size)
    (h : ∀ v' w', BOwn w' B v' (s ++ t) → w.grownBy w' v.ownBlock → wpList Tryd.prog ops Q rest (a.put o.dst v') w') : wpList Tryd.prog ops Q (o :: rest) a w := by
  obtain ⟨i, hi1, hi2, hi3, hi4⟩ := info_u8.parts
  exact Lib.wpList_append_own_string (P := Tryd.prog) w hgd sl x 34 9 ho B 5 i Tryd.underlying34 Tryd.underlying9 hi1 hi2 hi3 hi4 v s.size _ hs hown t hx (by unfold maxLen; omega) (by omega) hB (fun v' w' h1 h2 _ => h v' w' (BOwn.appS h1) h2)
end Go.Proofs.YtngbaghkjaibeaaDoor
