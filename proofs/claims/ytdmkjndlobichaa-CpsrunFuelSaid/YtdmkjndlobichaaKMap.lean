/-
  MAPS OF INTEGERS TO INTEGERS, AS FUNCTIONS.
-/
import Derived.Test.YtdmkjndlobichaaECo
import Derived.Maps.OwnOps
import Derived.Maps.Views
import Derived.Maps.Ext
namespace Go.Proofs.Ytdmkjndlobichaa
open Go.ChangeShapes Go.WideShapes Go.ChangeAt Go.RowKit Go.Maps

theorem int_law : Keyed Try.prog 3 := int_keyed Try.underlying3
theorem zero_int (w : World) : (zeroValue 3).run Try.prog w = .ok (.int .i64 0) w := by kernel_rfl
/-- Block B is a map of at most k entries that reads as f. -/
def MapI (w : World) (B : Nat) (f : Int → Int) (k : Nat) : Prop :=
  ∃ D : DataW Unit, w.ownsMap Try.prog 3 (plainElem Try.prog 3) B k D ∧ ∀ s : Int, (Lit.int .i64 s).wf = true → D.atKey (.int .i64 s) (.lit (.int .i64 0)) = .lit (.int .i64 (f s))
def updM (f : Int → Int) (s : Int) (v : Int) : Int → Int := fun x => if x = s then v else f x
theorem MapI.lt {w : World} {B k : Nat} {f : Int → Int} (h : MapI w B f k) : B < w.heap.size := by
  obtain ⟨D, ⟨es, cl, h1, _⟩, _⟩ := h
  rcases Nat.lt_or_ge B w.heap.size with hl | hl
  · exact hl
  · rw [Array.getElem?_eq_none hl] at h1; cases h1
theorem MapI.of {w w' : World} {B k : Nat} {f : Int → Int} (h : MapI w B f k) (hk : w'.heap[B]? = w.heap[B]?) : MapI w' B f k := by
  obtain ⟨D, ⟨es, cl, h1, h2⟩, h3⟩ := h
  exact ⟨D, ⟨es, cl, hk.trans h1, h2⟩, h3⟩
theorem MapI.below {w w' : World} {B k : Nat} {f : Int → Int} (h : MapI w B f k) (hb : Below w.heap.size w w') : MapI w' B f k := h.of (hb.block B h.lt)
theorem MapI.mono {w : World} {B k k' : Nat} {f : Int → Int} (h : MapI w B f k) (hk : k ≤ k') : MapI w B f k' := by
  obtain ⟨D, h1, h2⟩ := h
  exact ⟨D, h1.mono hk, h2⟩
theorem MapI.made (w : World) : MapI (w.alloc (.map #[] 0)) w.heap.size (fun _ => 0) 0 := ⟨.map [], World.ownsMap_made _ _ _ _, fun _ _ => rfl⟩
theorem int_inj9 {s s' : Int} (h : (Lit.int .i64 s) = .int .i64 s') : s = s' := by injection h
/-- m[s]. -/
theorem wpList_lookM {w : World} {ops : Array Oper} {rest : List Oper} {o : Oper} {a : Act} {Q : Exit → Act → World → Prop} (hg : o.guard = none) (m x : Operand) (hop : o.op = Op.lookup 76 m x false) {B k : Nat} {f : Int → Int} (h : MapI w B f k) {s : Int} (hs : (Lit.int .i64 s).wf = true)
    (hm : a.eval m = .map (some B)) (hx : a.eval x = .int .i64 s) (hK : wpList Try.prog ops Q rest (a.put o.dst (.int .i64 (f s))) w) : wpList Try.prog ops Q (o :: rest) a w := by
  obtain ⟨D, h1, h2⟩ := h
  refine wpList_lookup_own_int w hg m x 76 hop 3 3 .i64 int_law Try.underlying76 Try.underlying3 (zero_int w) B k D hm h1 (.int .i64 s) _ hx (keyOf_int_mk Try.underlying3 hs) (fun c hc _ => ?_)
  have e := hc.symm.trans (h2 s hs)
  injection e with e
  injection e with _ e
  rw [e]
  exact hK
/-- m[s] = v. -/
theorem wpList_putM {w : World} {ops : Array Oper} {rest : List Oper} {o : Oper} {a : Act} {Q : Exit → Act → World → Prop} (hg : o.guard = none) (m x u : Operand) (hop : o.op = Op.mapUpdate 76 m x u) {B k : Nat} {f : Int → Int} (h : MapI w B f k) (hk : k < maxLen) {s : Int} (hs : (Lit.int .i64 s).wf = true) {v : Int} (hv : (Lit.int .i64 v).wf = true)
    (hm : a.eval m = .map (some B)) (hx : a.eval x = .int .i64 s) (hu : a.eval u = .int .i64 v) (hK : ∀ w', MapI w' B (updM f s v) (k + 1) → w.grownBy w' (some B) → wpList Try.prog ops Q rest (a.put o.dst undef) w') : wpList Try.prog ops Q (o :: rest) a w := by
  obtain ⟨D, h1, h2⟩ := h
  have hmap : IsMap D := by obtain ⟨_, _, _, _, _, rfl⟩ := h1; exact ⟨_, rfl⟩
  refine wpList_mapUpdate_own w hg m x u 76 hop 3 3 int_law Try.underlying76 _ B k D hm h1 hk (.int .i64 s) (.int .i64 v) _ hx hu (keyOf_int_mk Try.underlying3 hs) _ [] (plainElem_int Try.underlying3 hv) (fun w' h3 h4 => hK w' ⟨_, h3, fun s' hs' => ?_⟩ h4)
  by_cases e : s' = s
  · subst e
    rw [atKey_put_same hmap (by trivial)]
    simp [updM]
  · rw [atKey_put_other (fun h => e (int_inj9 h)), h2 s' hs']
    simp [updM, e]
end Go.Proofs.Ytdmkjndlobichaa
