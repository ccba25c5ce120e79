/-
  MAPS OF TEXTS TO INTEGERS, AS FUNCTIONS.
-/
import Derived.Test.YtnlifgcnmhakiaaTRFirst
import Derived.Maps.OwnOps
import Derived.Maps.Views
import Derived.Maps.Ext
import Derived.StringKeys
namespace Go.Proofs.Ytnlifgcnmhakiaa
open Go.ChangeShapes Go.WideShapes Go.ChangeAt Go.RowKit Go.Maps

theorem str_law : Keyed Try.prog 9 := string_keyed Try.underlying9
theorem zero_int (w : World) : (zeroValue 3).run Try.prog w = .ok (.int .i64 0) w := by kernel_rfl
/-- Block B is a map of at most k entries that reads as f. -/
def MapAt (w : World) (B : Nat) (f : ByteArray → Int) (k : Nat) : Prop :=
  ∃ D : DataW Unit, w.ownsMap Try.prog 9 (plainElem Try.prog 3) B k D ∧ ∀ s : ByteArray, s.size ≤ maxLen → D.atKey (.string s.data.toList) (.lit (.int .i64 0)) = .lit (.int .i64 (f s))
def updM (f : ByteArray → Int) (s : ByteArray) (v : Int) : ByteArray → Int := fun x => if x = s then v else f x
theorem MapAt.lt {w : World} {B k : Nat} {f : ByteArray → Int} (h : MapAt w B f k) : B < w.heap.size := by
  obtain ⟨D, ⟨es, cl, h1, _⟩, _⟩ := h
  rcases Nat.lt_or_ge B w.heap.size with hl | hl
  · exact hl
  · rw [Array.getElem?_eq_none hl] at h1; cases h1
theorem MapAt.of {w w' : World} {B k : Nat} {f : ByteArray → Int} (h : MapAt w B f k) (hk : w'.heap[B]? = w.heap[B]?) : MapAt w' B f k := by
  obtain ⟨D, ⟨es, cl, h1, h2⟩, h3⟩ := h
  exact ⟨D, ⟨es, cl, hk.trans h1, h2⟩, h3⟩
theorem MapAt.below {w w' : World} {B k : Nat} {f : ByteArray → Int} (h : MapAt w B f k) (hb : Below w.heap.size w w') : MapAt w' B f k := h.of (hb.block B h.lt)
theorem MapAt.mono {w : World} {B k k' : Nat} {f : ByteArray → Int} (h : MapAt w B f k) (hk : k ≤ k') : MapAt w B f k' := by
  obtain ⟨D, h1, h2⟩ := h
  exact ⟨D, h1.mono hk, h2⟩
theorem MapAt.made (w : World) : MapAt (w.alloc (.map #[] 0)) w.heap.size (fun _ => 0) 0 := ⟨.map [], World.ownsMap_made _ _ _ _, fun _ _ => rfl⟩
theorem str_inj {s s' : ByteArray} (h : (Lit.string s.data.toList) = .string s'.data.toList) : s = s' := by
  injection h with h
  have := Array.toList_inj.1 h
  obtain ⟨a⟩ := s
  obtain ⟨b⟩ := s'
  simp_all
/-- m[s]. -/
theorem wpList_lookM {w : World} {ops : Array Oper} {rest : List Oper} {o : Oper} {a : Act} {Q : Exit → Act → World → Prop} (hg : o.guard = none) (m x : Operand) (hop : o.op = Op.lookup 87 m x false) {B k : Nat} {f : ByteArray → Int} (h : MapAt w B f k) {s : ByteArray} (hs : s.size ≤ maxLen)
    (hm : a.eval m = .map (some B)) (hx : a.eval x = .string s) (hK : wpList Try.prog ops Q rest (a.put o.dst (.int .i64 (f s))) w) : wpList Try.prog ops Q (o :: rest) a w := by
  obtain ⟨D, h1, h2⟩ := h
  refine wpList_lookup_own_int w hg m x 87 hop 9 3 .i64 str_law Try.underlying87 Try.underlying3 (zero_int w) B k D hm h1 (.string s) _ hx (WideMaps.keyOf_string_mk Try.underlying9 hs) (fun c hc _ => ?_)
  have e := hc.symm.trans (h2 s hs)
  injection e with e
  injection e with _ e
  rw [e]
  exact hK
/-- m[s] = v. -/
theorem wpList_putM {w : World} {ops : Array Oper} {rest : List Oper} {o : Oper} {a : Act} {Q : Exit → Act → World → Prop} (hg : o.guard = none) (m x u : Operand) (hop : o.op = Op.mapUpdate 87 m x u) {B k : Nat} {f : ByteArray → Int} (h : MapAt w B f k) (hk : k < maxLen) {s : ByteArray} (hs : s.size ≤ maxLen) {v : Int} (hv : (Lit.int .i64 v).wf = true)
    (hm : a.eval m = .map (some B)) (hx : a.eval x = .string s) (hu : a.eval u = .int .i64 v) (hK : ∀ w', MapAt w' B (updM f s v) (k + 1) → w.grownBy w' (some B) → wpList Try.prog ops Q rest (a.put o.dst undef) w') : wpList Try.prog ops Q (o :: rest) a w := by
  obtain ⟨D, h1, h2⟩ := h
  have hmap : IsMap D := by obtain ⟨_, _, _, _, _, rfl⟩ := h1; exact ⟨_, rfl⟩
  refine wpList_mapUpdate_own w hg m x u 87 hop 9 3 str_law Try.underlying87 _ B k D hm h1 hk (.string s) (.int .i64 v) _ hx hu (WideMaps.keyOf_string_mk Try.underlying9 hs) _ [] (plainElem_int Try.underlying3 hv) (fun w' h3 h4 => hK w' ⟨_, h3, fun s' hs' => ?_⟩ h4)
  by_cases e : s' = s
  · subst e
    rw [atKey_put_same hmap (by trivial)]
    simp [updM]
  · rw [atKey_put_other (fun h => e (str_inj h)), h2 s' hs']
    simp [updM, e]
end Go.Proofs.Ytnlifgcnmhakiaa
