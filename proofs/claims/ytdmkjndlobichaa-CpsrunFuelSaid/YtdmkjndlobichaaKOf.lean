/-
  FRAMES IN MEMORY; THE WALKS OF cpsrun's of, atom, want, number.
-/
import Derived.Test.YtdmkjndlobichaaKVal
import Derived.Test.YtdmkjndlobichaaEInts
import Derived.BigQuiet
import Derived.Deep.RegionHeld3
namespace Go.Proofs.Ytdmkjndlobichaa
set_option linter.all false
open Go.ChangeShapes Go.WideShapes Go.ChangeAt Go.RowKit Go.Maps
open Tm (Te Pv Fr lookV setV atomV)

section
variable {w : World} {ops : Array Oper} {rest : List Oper} {o : Oper} {a : Act} {Q : Exit → Act → World → Prop} {S : Nat → Prop} {φ : List (Nat × Nat)} {B : Nat} {vars : List (Int × Pv)} {s : Int}
theorem wpList_lookNo (hg : o.guard = none) (m x : Operand) (hop : o.op = Op.lookup 117 m x true) (h : MapV w S φ B vars) (hl : lookV vars s = none) (hs : (Lit.int .i64 s).wf = true) (hm : a.eval m = .map (some B)) (hx : a.eval x = .int .i64 s)
    (hK : ∀ v, wpList Try.prog ops Q rest (a.put o.dst (.tuple #[v, .bool false])) w) : wpList Try.prog ops Q (o :: rest) a w :=
  wpList_lookV hg m x hop h hs hm hx (fun v b h9 => by
    rcases h9 with ⟨_, rfl⟩ | ⟨u, g, h1, _⟩
    · exact hK v
    · rw [hl] at h1; cases h1)
theorem wpList_lookYes (hg : o.guard = none) (m x : Operand) (hop : o.op = Op.lookup 117 m x true) (h : MapV w S φ B vars) {u : Pv} (hl : lookV vars s = some u) (hs : (Lit.int .i64 s).wf = true) (hm : a.eval m = .map (some B)) (hx : a.eval x = .int .i64 s)
    (hK : ∀ g, PAt w S φ u g → wpList Try.prog ops Q rest (a.put o.dst (.tuple #[.pointer (some ⟨g, 0, none⟩), .bool true])) w) : wpList Try.prog ops Q (o :: rest) a w :=
  wpList_lookV hg m x hop h hs hm hx (fun v b h9 => by
    rcases h9 with ⟨h1, _⟩ | ⟨u2, g, h1, rfl, rfl, h2⟩
    · rw [hl] at h1; cases h1
    · rw [hl] at h1
      injection h1 with h1
      subst h1
      exact hK g h2)
end
/-- The frames in memory. -/
def FrAt (w : World) (S : Nat → Prop) (φ : List (Nat × Nat)) (fs : List Fr) : Prop := φ.length = fs.length ∧ ∀ e p m, φ[e]? = some (p, m) → ∃ f : Fr, fs[e]? = some f ∧ S p ∧ (∃ ua, Blk w p 121 #[.pointer ua, .map (some m)] ∧ ((f.up = none ∧ ua = none) ∨ ∃ u q n, f.up = some u ∧ u < e ∧ φ[u]? = some (q, n) ∧ ua = some ⟨q, 0, none⟩)) ∧ MapV w S φ m f.vars
/-- A frame's variables lie in a map of its own. -/
def Dis (φ : List (Nat × Nat)) : Prop := ∀ (i j p q m : Nat), φ[i]? = some (p, m) → φ[j]? = some (q, m) → i = j
theorem FrAt.up {w w' : World} {S : Nat → Prop} {φ : List (Nat × Nat)} {fs : List Fr} (h : FrAt w S φ fs) (hb : Below w.heap.size w w') : FrAt w' S φ fs :=
  ⟨h.1, fun e p m he => by
    obtain ⟨f, h1, h2, ⟨ua, h3, h4⟩, h5⟩ := h.2 e p m he
    exact ⟨f, h1, h2, ⟨ua, h3.below hb h3.lt, h4⟩, h5.keep (Ext.refl _) (hb.block m h5.lt) (fun k hk hl => ⟨hb.block k hl, hk⟩)⟩⟩
/-- A pointer to a value is handed back. -/
def PtrP (u : Pv) (S : Nat → Prop) (φ : List (Nat × Nat)) (w : World) (e : Ending) (w' : World) : Prop := (∃ p, e = .returned (.pointer (some ⟨p, 0, none⟩)) ∧ PAt w' S φ u p) ∧ Below w.heap.size w w'
theorem look_none (fs : List Fr) (g : Nat) (x : Int) : Tm.look fs g none x = .zero := by cases g <;> rfl
/-- Where a look goes on. -/
def At0 (φ : List (Nat × Nat)) (g : Nat) (ua : Option Addr) : Option Nat → Prop
  | none => ua = none
  | some c => c < g ∧ ∃ q m, φ[c]? = some (q, m) ∧ ua = some ⟨q, 0, none⟩
set_option maxHeartbeats 8000000 in
set_option maxRecDepth 100000 in
theorem fr_of (fs : List Fr) (φ : List (Nat × Nat)) (S : Nat → Prop) (e ep mp : Nat) (x : Int) (w : World) (hF : FrAt w S φ fs) (hnew : ∀ b, w.heap.size ≤ b → S b) (he : φ[e]? = some (ep, mp)) (hw : (Lit.int .i64 x).wf = true) :
    Calls Try.prog 127 #[.pointer (some ⟨ep, 0, none⟩), .int .i64 x] w (PtrP (Tm.look fs (e + 1) (some e) x) S φ w) := by
  have H := hid (And.intro hF (And.intro hnew hw))
  have HE := hid he
  obtain ⟨U, hU⟩ : ∃ U, U = Tm.look fs (e + 1) (some e) x := ⟨_, rfl⟩
  rw [← hU]
  have HU := hid hU
  clear hF hnew hw he hU
  go_enter Try.func127, Try.ntmps127
  go_wp2
  go_loopg [0] (e + 1) (fun g z wr => ∃ (ua : Option Addr) (cur : Option Nat), z = .pointer ua ∧ wr = w ∧ Hid (U = Tm.look fs g cur x) ∧ Hid (At0 φ g ua cur))
  case atStart => exact ⟨_, some e, rfl, rfl, HU, hid ⟨by omega, ep, mp, HE.out, rfl⟩⟩
  case round =>
    obtain ⟨ua, cur, rfl, rfl, hE, hA⟩ := hrel
    cases cur with
    | none =>
      have h9 : ua = none := hA.out
      subst h9
      go_wp2
      go_ret
      refine ⟨⟨_, rfl, ?_⟩, al1 _ _⟩
      rw [hE.out, look_none, PAt]
      exact ⟨H.out.2.1 _ (Nat.le_refl _), Blk.new _ _ _⟩
    | some c =>
      obtain ⟨hc, q, m, hq, rfl⟩ := hA.out
      obtain ⟨f, h1, h2, ⟨ub, h3, h4⟩, h5⟩ := H.out.1.2 c q m hq
      obtain ⟨gk2, rfl⟩ : ∃ gk2, gk = gk2 + 1 := ⟨gk - 1, by omega⟩
      have hE2 := hE.out
      rw [Tm.look, h1] at hE2
      simp only at hE2
      have HM := hid h5
      have x0 := h3.cell 0
      have x1 := h3.cell 1
      have x0 : wr.cell? ⟨q, 0, none⟩ = some (.pointer ub) := x0
      have x1 : wr.cell? ⟨q, 1, none⟩ = some (.map (some m)) := x1
      have H4 := hid h4
      have HC := hid hc
      clear h1 h2 h3 h4 h5 hc hq hA hE
      cases hl : lookV f.vars x with
      | some u =>
        rw [hl] at hE2
        have HE2 := hid hE2
        have HL := hid hl
        clear hE2 hl
        go_wp2_with (at_lookup; go_must (refine wpList_lookYes (by rfl) _ _ (by rfl) HM.out HL.out H.out.2.2 (by rfl) (by rfl) ?_); intro g9 hg9; go_must (have G := hid hg9; clear hg9))
        go_ret
        exact ⟨⟨g9, rfl, by rw [HE2.out]; exact G.out⟩, Below.refl _ _⟩
      | none =>
        rw [hl] at hE2
        have HE2 := hid hE2
        have HL := hid hl
        clear hE2 hl
        go_wp2_with (at_lookup; go_must (refine wpList_lookNo (by rfl) _ _ (by rfl) HM.out HL.out H.out.2.2 (by rfl) (by rfl) ?_); intro v9)
        go_roundg gk2
        case rel =>
          refine ⟨ub, f.up, rfl, rfl, HE2, hid ?_⟩
          rcases H4.out with ⟨e1, e2⟩ | ⟨u, q2, n2, e1, e2, e3, e4⟩
          · rw [e1]; exact e2
          · rw [e1]; exact ⟨by have := HC.out; omega, q2, n2, e3, e4⟩
        case measure => omega
/-- What is told: no more than there may be, and integers of the machine. -/
def Wr (ws : List Int) : Prop := ws.length ≤ 4096 ∧ ∀ x ∈ ws, (Lit.int .i64 x).wf = true
theorem Wr.nil : Wr [] := ⟨by simp, by simp⟩
theorem Wr.snoc {ws : List Int} {q : Int} (h : Wr ws) (hl : ws.length ≠ 4096) (hq : (Lit.int .i64 q).wf = true) : Wr (ws ++ [q]) := by
  refine ⟨by have := h.1; simp; omega, fun x hx => ?_⟩
  rcases List.mem_append.1 hx with h1 | h1
  · exact h.2 x h1
  · simp at h1; subst h1; exact hq
/-- What a stopped run panics with. -/
def stopK (k : Int) : PanicEntry := { v := .iface 115 (.agg #[.int .i64 (if k < 0 then 0 else k), .bool (decide (k < 0))]), recovered := false }
theorem want_yes (w : World) : Calls Try.prog 114 #[.bool true] w fun e w' => e = .returned (.tuple #[]) ∧ w' = w := by
  go_enter Try.func114, Try.ntmps114
  go_wp2
  go_end0
  exact ⟨rfl, rfl⟩
theorem want_no (w : World) : Calls Try.prog 114 #[.bool false] w fun e w' => e = .panicked [stopK (-1)] ∧ w' = w := by
  go_enter Try.func114, Try.ntmps114
  go_wp2
  exact ⟨rfl, rfl, rfl⟩
set_option maxHeartbeats 8000000 in
set_option maxRecDepth 100000 in
theorem run_atom (v : Bool) (n : Int) (fs : List Fr) (φ : List (Nat × Nat)) (S : Nat → Prop) (e ep mp : Nat) (w : World) (hF : FrAt w S φ fs) (hnew : ∀ b, w.heap.size ≤ b → S b) (he : φ[e]? = some (ep, mp)) (hw : (Lit.int .i64 n).wf = true) :
    Calls Try.prog 113 #[.agg #[.bool v, .int .i64 n], .pointer (some ⟨ep, 0, none⟩)] w (PtrP (atomV fs e (v, n)) S φ w) := by
  have C := hid (fr_of fs φ S e ep mp n (w.alloc (.cells #[.bool v, .int .i64 n] 73)) (hF.up (al1 w _)) (fun b hb => hnew b (by simp at hb; omega)) he hw)
  have HN := hid hnew
  have HW := hid hw
  clear hF hnew he hw
  cases v
  · go_enter Try.func113, Try.ntmps113
    go_wp2
    go_ret
    refine ⟨⟨_, rfl, ?_⟩, al2 w _ _⟩
    rw [show atomV fs e (false, n) = .num n from rfl, PAt]
    exact ⟨HN.out _ (by simp), Blk.new' (by simp) _ _, HW.out⟩
  · go_enter Try.func113, Try.ntmps113
    go_wp2_with (go_at_call 127; go_must (refine C.out.mono ?_); rintro e9 w1 ⟨⟨p, rfl, hp⟩, b1⟩; go_must (have G := hid hp; have GB := hid b1; clear hp b1))
    go_ret
    exact ⟨⟨p, rfl, G.out⟩, below_hop GB.out (al1 w _)⟩
/-- A number, or it stops. -/
def NumP (u : Pv) (w : World) (e : Ending) (w' : World) : Prop := (match Tm.numOf u with
  | some n => e = .returned (.int .i64 n) ∧ (Lit.int .i64 n).wf = true
  | none => e = .panicked [stopK (-1)]) ∧ Below w.heap.size w w'
theorem num_kind {u : Pv} {n : Int} (h : Tm.numOf u = some n) : u = .num n := by
  cases u <;> simp [Tm.numOf] at h
  rw [h]
theorem num_none {u : Pv} (h : Tm.numOf u = none) : (knd u == 1) = false := by
  cases u <;> simp [Tm.numOf, knd] at h ⊢
set_option maxHeartbeats 8000000 in
set_option maxRecDepth 100000 in
theorem run_number (v : Bool) (n : Int) (fs : List Fr) (φ : List (Nat × Nat)) (S : Nat → Prop) (e ep mp : Nat) (w : World) (hF : FrAt w S φ fs) (hnew : ∀ b, w.heap.size ≤ b → S b) (he : φ[e]? = some (ep, mp)) (hw : (Lit.int .i64 n).wf = true) :
    Calls Try.prog 117 #[.agg #[.bool v, .int .i64 n], .pointer (some ⟨ep, 0, none⟩)] w (NumP (atomV fs e (v, n)) w) := by
  have C := hid (run_atom v n fs φ S e ep mp (w.alloc (.cells #[.bool v, .int .i64 n] 73)) (hF.up (al1 w _)) (fun b hb => hnew b (by simp at hb; omega)) he hw)
  clear hF hnew he hw
  obtain ⟨u, hu⟩ : ∃ u, atomV fs e (v, n) = u := ⟨_, rfl⟩
  have HU := hid hu
  rw [hu]
  unfold NumP
  clear hu
  cases hn : Tm.numOf u with
  | some q =>
    have h9 := num_kind hn
    subst h9
    clear hn
    simp only
    go_enter Try.func117, Try.ntmps117
    go_wp2_with (first
      | (go_at_call 113; go_must (refine C.out.mono ?_); rw [HU.out]; rintro e9 w1 ⟨⟨p, rfl, hp⟩, b1⟩; rw [PAt] at hp; go_must (have G := hid (And.intro hp.2.2 b1); have x0 : w1.cell? ⟨p, 0, none⟩ = some (.int .i64 1) := hp.2.1.cell 0; have x1 : w1.cell? ⟨p, 1, none⟩ = some (.int .i64 q) := hp.2.1.cell 1; clear hp b1))
      | (go_at_call 114; go_must (refine (want_yes _).mono ?_); rintro e9 w2 ⟨rfl, rfl⟩))
    go_ret
    exact ⟨⟨rfl, G.out.1⟩, below_hop G.out.2 (al1 w _)⟩
  | none =>
    have d0 := num_none hn
    clear hn
    simp only
    go_enter Try.func117, Try.ntmps117
    go_wp2_with (first
      | (go_at_call 113; go_must (refine C.out.mono ?_); rw [HU.out]; rintro e9 w1 ⟨⟨p, rfl, hp⟩, b1⟩; obtain ⟨A9, c9, f9, e9, hb9, _⟩ := hp.cells; go_must (have G := hid b1; have x0 : w1.cell? ⟨p, 0, none⟩ = some (.int .i64 (knd u)) := hb9.cell 0; clear hp b1 hb9))
      | (go_at_call 114; go_must (refine (want_no _).mono ?_); rintro e9 w2 ⟨rfl, rfl⟩))
    exact ⟨rfl, rfl, below_hop G.out (al1 w _)⟩
end Go.Proofs.Ytdmkjndlobichaa
