/-
  THE WALK OF (*athanorref27.reader).val: the document's reader.
-/
import Derived.Test.YtgakmfcnddholaaCReadA
namespace Go.Proofs.Ytgakmfcnddholaa
open Go.ChangeShapes Go.WideShapes Go.ChangeAt Go.RowKit

/-- What val owes. -/
def RvP (r : Option (Tr × Int)) (pr : Nat) (sl : Value) (w : World) (e : Ending) (w' : World) : Prop :=
  Kept (fun b => b = pr) w w' ∧ ∃ b n A m c, e = .returned (.agg #[.bool b, .int .i64 n, .slice A m c]) ∧
  match r with
  | some (t, l) => VAtS w' (fun b => w.heap.size ≤ b) t (.agg #[.bool b, .int .i64 n, .slice A m c]) ∧ Blk w' pr 72 #[sl, .int .i64 (2048 - l), .bool false]
  | none => ∃ m', Blk w' pr 72 #[sl, .int .i64 m', .bool true]

/-- The world of every bad end. -/
def Wb (w : World) (pr : Nat) (X : Int) : World := ((w.setCell ⟨pr, 1, none⟩ (.int .i64 X)).setCell ⟨pr, 2, none⟩ (.bool true)).alloc (.cells #[.bool false, .int .i64 0, .slice none 0 0] 33)
theorem Wb_box (w : World) (pr : Nat) (X : Int) : Blk (Wb w pr X) w.heap.size 33 #[.bool false, .int .i64 0, .slice none 0 0] := Blk.new' (by simp) _ _
theorem Wb_end {w : World} {pr : Nat} {sl o1 o2 : Value} (hb : Blk w pr 72 #[sl, o1, o2]) (X : Int) : RvP none pr sl w (.returned (.agg #[.bool false, .int .i64 0, .slice none 0 0])) (Wb w pr X) :=
  ⟨((Kept.setCell (S := fun b => b = pr) (Kept.refl _ w) (p := ⟨pr, 1, none⟩) (.inl rfl) _).setCell (p := ⟨pr, 2, none⟩) (.inl rfl) _).alloc _, false, 0, none, 0, 0, rfl, X, ((hb.set_ 1 _).set_ 2 _).alloc _⟩
set_option maxHeartbeats 4000000 in
set_option maxRecDepth 100000 in
theorem rval_bad (pr : Nat) (A : Option Addr) (n c : Nat) (m x l : Int) (w : World) (hb : Blk w pr 72 #[.slice A n c, .int .i64 m, .bool true]) :
    Calls Try.prog 39 #[.pointer (some ⟨pr, 0, none⟩), .int .i64 x, .int .i64 l] w (RvP none pr (.slice A n c) w) := by
  have y0 : ∀ o, (w.alloc o).cell? ⟨pr, 0, none⟩ = some (.slice A n c) := fun o => (hb.alloc o).cell 0
  have y1 : ∀ o, (w.alloc o).cell? ⟨pr, 1, none⟩ = some (.int .i64 m) := fun o => (hb.alloc o).cell 1
  have y2 : ∀ o, (w.alloc o).cell? ⟨pr, 2, none⟩ = some (.bool true) := fun o => (hb.alloc o).cell 2
  have f1 : ∀ o, (w.alloc o).frozen? ⟨pr, 1, none⟩ = false := fun o => (hb.alloc o).frozen 1
  have f2 : ∀ o, (w.alloc o).frozen? ⟨pr, 2, none⟩ = false := fun o => (hb.alloc o).frozen 2
  have ya : w.cell? ⟨pr, 0, none⟩ = some (.slice A n c) := hb.cell 0
  have yb : w.cell? ⟨pr, 1, none⟩ = some (.int .i64 m) := hb.cell 1
  have yc : w.cell? ⟨pr, 2, none⟩ = some (.bool true) := hb.cell 2
  have fb : w.frozen? ⟨pr, 1, none⟩ = false := hb.frozen 1
  have fc : w.frozen? ⟨pr, 2, none⟩ = false := hb.frozen 2
  have hlt := hb.lt
  have hne : pr ≠ w.heap.size := by omega
  have hne' : w.heap.size ≠ pr := by omega
  have HB := hid hb
  have hnot : ∀ (x : Bool) (w : World), (Op.unary .not (.bool x)).run Try.prog w = .ok (.bool (!x)) w := fun _ _ => rfl
  clear hb
  go_enter Try.func39, Try.ntmps39
  go_wp2
  (have z0 : (Wb w pr (wrap64 (m + 1))).cell? ⟨w.heap.size, 0, none⟩ = some (.bool false) := (Wb_box w pr (wrap64 (m + 1))).cell 0; have z1 : (Wb w pr (wrap64 (m + 1))).cell? ⟨w.heap.size, 1, none⟩ = some (.int .i64 0) := (Wb_box w pr (wrap64 (m + 1))).cell 1; have z2 : (Wb w pr (wrap64 (m + 1))).cell? ⟨w.heap.size, 2, none⟩ = some (.slice none 0 0) := (Wb_box w pr (wrap64 (m + 1))).cell 2; refine bodyPost_ret (w := Wb w pr (wrap64 (m + 1))) (v := .agg #[.bool false, .int .i64 0, .slice none 0 0]) (by simp [results, Try.results39, go_sem, z0, z1, z2]) rfl (Wb_end HB.out (wrap64 (m + 1))))
set_option maxHeartbeats 4000000 in
set_option maxRecDepth 100000 in
theorem rval_over (pr : Nat) (A : Option Addr) (n c : Nat) (m x l : Int) (w : World) (hb : Blk w pr 72 #[.slice A n c, .int .i64 m, .bool false]) (h0 : 0 ≤ m) (h1 : m ≤ 2048) (h : l = 0 ∨ (l == 0) = false ∧ m + 1 > 2048) :
    Calls Try.prog 39 #[.pointer (some ⟨pr, 0, none⟩), .int .i64 x, .int .i64 l] w (RvP none pr (.slice A n c) w) := by
  have q1 : IntKind.i64.wrap (m + 1) = m + 1 := IntWalk.i64_in _ (by omega)
  have y0 : ∀ o, (w.alloc o).cell? ⟨pr, 0, none⟩ = some (.slice A n c) := fun o => (hb.alloc o).cell 0
  have y1 : ∀ o, (w.alloc o).cell? ⟨pr, 1, none⟩ = some (.int .i64 m) := fun o => (hb.alloc o).cell 1
  have y2 : ∀ o, (w.alloc o).cell? ⟨pr, 2, none⟩ = some (.bool false) := fun o => (hb.alloc o).cell 2
  have f1 : ∀ o, (w.alloc o).frozen? ⟨pr, 1, none⟩ = false := fun o => (hb.alloc o).frozen 1
  have f2 : ∀ o, (w.alloc o).frozen? ⟨pr, 2, none⟩ = false := fun o => (hb.alloc o).frozen 2
  have ya : w.cell? ⟨pr, 0, none⟩ = some (.slice A n c) := hb.cell 0
  have yb : w.cell? ⟨pr, 1, none⟩ = some (.int .i64 m) := hb.cell 1
  have yc : w.cell? ⟨pr, 2, none⟩ = some (.bool false) := hb.cell 2
  have fb : w.frozen? ⟨pr, 1, none⟩ = false := hb.frozen 1
  have fc : w.frozen? ⟨pr, 2, none⟩ = false := hb.frozen 2
  have hlt := hb.lt
  have hne : pr ≠ w.heap.size := by omega
  have hne' : w.heap.size ≠ pr := by omega
  have HB := hid hb
  have hnot : ∀ (x : Bool) (w : World), (Op.unary .not (.bool x)).run Try.prog w = .ok (.bool (!x)) w := fun _ _ => rfl
  clear hb
  rcases h with rfl | ⟨h, h2⟩
  all_goals
    go_enter Try.func39, Try.ntmps39
    go_wp2
    (have z0 : (Wb w pr (m + 1)).cell? ⟨w.heap.size, 0, none⟩ = some (.bool false) := (Wb_box w pr (m + 1)).cell 0; have z1 : (Wb w pr (m + 1)).cell? ⟨w.heap.size, 1, none⟩ = some (.int .i64 0) := (Wb_box w pr (m + 1)).cell 1; have z2 : (Wb w pr (m + 1)).cell? ⟨w.heap.size, 2, none⟩ = some (.slice none 0 0) := (Wb_box w pr (m + 1)).cell 2; refine bodyPost_ret (w := Wb w pr (m + 1)) (v := .agg #[.bool false, .int .i64 0, .slice none 0 0]) (by simp [results, Try.results39, go_sem, z0, z1, z2]) rfl (Wb_end HB.out (m + 1)))
set_option maxHeartbeats 4000000 in
set_option maxRecDepth 100000 in
theorem rval_int (pr : Nat) (A : Option Addr) (n c : Nat) (m x l : Int) (w : World) (hb : Blk w pr 72 #[.slice A n c, .int .i64 m, .bool false]) (h0 : 0 ≤ m) (h1 : ¬ m + 1 > 2048) (hl : (l == 0) = false) (hx : IntOk x) :
    Calls Try.prog 39 #[.pointer (some ⟨pr, 0, none⟩), .int .i64 x, .int .i64 l] w (RvP (some (.mk true (toN x) [], 2048 - (m + 1))) pr (.slice A n c) w) := by
  have q1 : IntKind.i64.wrap (m + 1) = m + 1 := IntWalk.i64_in _ (by omega)
  have hti := toV_yes hx
  have hwf : (Lit.int .i64 (toN x)).wf = true := by have := toN_in (h := x); simp [Lit.wf, IntKind.min, IntKind.max, IntKind.signed, IntKind.bits]; omega
  have HW := hid hwf
  clear hwf hx
  have y0 : ∀ o, (w.alloc o).cell? ⟨pr, 0, none⟩ = some (.slice A n c) := fun o => (hb.alloc o).cell 0
  have y1 : ∀ o, (w.alloc o).cell? ⟨pr, 1, none⟩ = some (.int .i64 m) := fun o => (hb.alloc o).cell 1
  have y2 : ∀ o, (w.alloc o).cell? ⟨pr, 2, none⟩ = some (.bool false) := fun o => (hb.alloc o).cell 2
  have f1 : ∀ o, (w.alloc o).frozen? ⟨pr, 1, none⟩ = false := fun o => (hb.alloc o).frozen 1
  have f2 : ∀ o, (w.alloc o).frozen? ⟨pr, 2, none⟩ = false := fun o => (hb.alloc o).frozen 2
  have ya : w.cell? ⟨pr, 0, none⟩ = some (.slice A n c) := hb.cell 0
  have yb : w.cell? ⟨pr, 1, none⟩ = some (.int .i64 m) := hb.cell 1
  have yc : w.cell? ⟨pr, 2, none⟩ = some (.bool false) := hb.cell 2
  have fb : w.frozen? ⟨pr, 1, none⟩ = false := hb.frozen 1
  have fc : w.frozen? ⟨pr, 2, none⟩ = false := hb.frozen 2
  have hlt := hb.lt
  have hne : pr ≠ w.heap.size := by omega
  have hne' : w.heap.size ≠ pr := by omega
  have HB := hid hb
  have hnot : ∀ (x : Bool) (w : World), (Op.unary .not (.bool x)).run Try.prog w = .ok (.bool (!x)) w := fun _ _ => rfl
  clear hb
  go_enter Try.func39, Try.ntmps39
  go_wp2_with (go_at_call 20; go_must (refine (ref27_ToIntV _ _).mono ?_); rw [hti]; rintro e w' ⟨rfl, rfl⟩)
  have R : Blk ((w.setCell ⟨pr, 1, none⟩ (.int .i64 (m + 1))).alloc (.cells #[.bool true, .int .i64 (toN x), .slice none 0 0] 33)) w.heap.size 33 #[.bool true, .int .i64 (toN x), .slice none 0 0] := Blk.new' (by simp) _ _
  have z0 := R.cell 0
  have z1 := R.cell 1
  have z2 := R.cell 2
  refine bodyPost_ret (v := .agg #[.bool true, .int .i64 (toN x), .slice none 0 0]) (by simp [results, Try.results39, go_sem, z0, z1, z2]) rfl ⟨kept1 _ _ _ _, _, _, _, _, _, rfl, ?_, by rw [show (2048 : Int) - (2048 - (m + 1)) = m + 1 by omega]; exact (HB.out.set_ 1 _).alloc _⟩
  rw [VAtS]
  exact ⟨⟨none, 0, rfl, by simp, by unfold maxLen; simp, by simp, by rw [RowS]; trivial⟩, HW.out⟩
set_option maxHeartbeats 4000000 in
set_option maxRecDepth 100000 in
theorem rval_noplace (pr : Nat) (A : Option Addr) (n c : Nat) (m x l : Int) (w : World) (hb : Blk w pr 72 #[.slice A n c, .int .i64 m, .bool false]) (h0 : 0 ≤ m) (h1 : ¬ m + 1 > 2048) (hl : (l == 0) = false) (hwx : (Lit.int .i64 x).wf = true) (hx : ¬ IntOk x) (hp : ¬ PlOk x ∨ PlOk x ∧ ¬ plN x < n) :
    Calls Try.prog 39 #[.pointer (some ⟨pr, 0, none⟩), .int .i64 x, .int .i64 l] w (RvP none pr (.slice A n c) w) := by
  have q1 : IntKind.i64.wrap (m + 1) = m + 1 := IntWalk.i64_in _ (by omega)
  have hti := toV_no hx
  have hw := hid hwx
  clear hx hwx
  have y0 : ∀ o, (w.alloc o).cell? ⟨pr, 0, none⟩ = some (.slice A n c) := fun o => (hb.alloc o).cell 0
  have y1 : ∀ o, (w.alloc o).cell? ⟨pr, 1, none⟩ = some (.int .i64 m) := fun o => (hb.alloc o).cell 1
  have y2 : ∀ o, (w.alloc o).cell? ⟨pr, 2, none⟩ = some (.bool false) := fun o => (hb.alloc o).cell 2
  have f1 : ∀ o, (w.alloc o).frozen? ⟨pr, 1, none⟩ = false := fun o => (hb.alloc o).frozen 1
  have f2 : ∀ o, (w.alloc o).frozen? ⟨pr, 2, none⟩ = false := fun o => (hb.alloc o).frozen 2
  have ya : w.cell? ⟨pr, 0, none⟩ = some (.slice A n c) := hb.cell 0
  have yb : w.cell? ⟨pr, 1, none⟩ = some (.int .i64 m) := hb.cell 1
  have yc : w.cell? ⟨pr, 2, none⟩ = some (.bool false) := hb.cell 2
  have fb : w.frozen? ⟨pr, 1, none⟩ = false := hb.frozen 1
  have fc : w.frozen? ⟨pr, 2, none⟩ = false := hb.frozen 2
  have hlt := hb.lt
  have hne : pr ≠ w.heap.size := by omega
  have hne' : w.heap.size ≠ pr := by omega
  have HB := hid hb
  have hnot : ∀ (x : Bool) (w : World), (Op.unary .not (.bool x)).run Try.prog w = .ok (.bool (!x)) w := fun _ _ => rfl
  clear hb
  rcases hp with hp | ⟨hp, hp2⟩
  · have hpl := plV_no hp
    clear hp
    go_enter Try.func39, Try.ntmps39
    go_wp2_with (first | (go_at_call 20; go_must (refine (ref27_ToIntV _ _).mono ?_); rw [hti]; rintro e w' ⟨rfl, rfl⟩) | (go_at_call 22; go_must (refine (ref27_Place _ hw.out _).mono ?_); rw [hpl]; rintro e w' ⟨rfl, rfl⟩))
    (have z0 : (Wb w pr (m + 1)).cell? ⟨w.heap.size, 0, none⟩ = some (.bool false) := (Wb_box w pr (m + 1)).cell 0; have z1 : (Wb w pr (m + 1)).cell? ⟨w.heap.size, 1, none⟩ = some (.int .i64 0) := (Wb_box w pr (m + 1)).cell 1; have z2 : (Wb w pr (m + 1)).cell? ⟨w.heap.size, 2, none⟩ = some (.slice none 0 0) := (Wb_box w pr (m + 1)).cell 2; refine bodyPost_ret (w := Wb w pr (m + 1)) (v := .agg #[.bool false, .int .i64 0, .slice none 0 0]) (by simp [results, Try.results39, go_sem, z0, z1, z2]) rfl (Wb_end HB.out (m + 1)))
  · have hpl := plV_yes hp
    have hp3 : ((plN x : Nat) : Int) ≥ n := by omega
    clear hp hp2
    go_enter Try.func39, Try.ntmps39
    go_wp2_with (first | (go_at_call 20; go_must (refine (ref27_ToIntV _ _).mono ?_); rw [hti]; rintro e w' ⟨rfl, rfl⟩) | (go_at_call 22; go_must (refine (ref27_Place _ hw.out _).mono ?_); rw [hpl]; rintro e w' ⟨rfl, rfl⟩))
    (have z0 : (Wb w pr (m + 1)).cell? ⟨w.heap.size, 0, none⟩ = some (.bool false) := (Wb_box w pr (m + 1)).cell 0; have z1 : (Wb w pr (m + 1)).cell? ⟨w.heap.size, 1, none⟩ = some (.int .i64 0) := (Wb_box w pr (m + 1)).cell 1; have z2 : (Wb w pr (m + 1)).cell? ⟨w.heap.size, 2, none⟩ = some (.slice none 0 0) := (Wb_box w pr (m + 1)).cell 2; refine bodyPost_ret (w := Wb w pr (m + 1)) (v := .agg #[.bool false, .int .i64 0, .slice none 0 0]) (by simp [results, Try.results39, go_sem, z0, z1, z2]) rfl (Wb_end HB.out (m + 1)))
set_option maxHeartbeats 8000000 in
set_option maxRecDepth 100000 in
theorem rval_nohead (pr B p : Nat) (ad : Addr) (n c : Nat) (ws : List Int) (m x l : Int) (w : World) (hb : Blk w pr 72 #[.slice (some ad) n c, .int .i64 m, .bool false]) (hi : Ints w B (some ad) n c ws) (hB : B ≤ pr) (h0 : 0 ≤ m) (h1 : ¬ m + 1 > 2048) (hl : (l == 0) = false) (hwx : (Lit.int .i64 x).wf = true) (hx : ¬ IntOk x) (hp : PlOk x) (hpe : plN x = p) (hp2 : p < n) (hn : n ≤ 1000000)
    (ho : ¬ OfOk (gw ws p) ∨ OfOk (gw ws p) ∧ ¬ ofT (gw ws p) < 32 ∨ OfOk (gw ws p) ∧ ofT (gw ws p) < 32 ∧ ¬ ofS (gw ws p) ≤ 8 ∨ OfOk (gw ws p) ∧ ofT (gw ws p) < 32 ∧ ofS (gw ws p) ≤ 8 ∧ ¬ p + ofS (gw ws p) < n) :
    Calls Try.prog 39 #[.pointer (some ⟨pr, 0, none⟩), .int .i64 x, .int .i64 l] w (RvP none pr (.slice (some ad) n c) w) := by
  have q1 : IntKind.i64.wrap (m + 1) = m + 1 := IntWalk.i64_in _ (by omega)
  have hti := toV_no hx
  have hw := hid hwx
  have hpl := plV_yes hp
  rw [hpe] at hpl
  have hq := hi.cell hp2
  have hab : ad.block < B := by
    rcases hi.at_ with h0 | ⟨a, e1, e2, _⟩
    · omega
    · injection e1 with e1
      subst e1
      exact e2
  have hbk : (ad.add p).block ≠ pr := by have := add_block ad p; omega
  have hlb : (ad.add p).block < w.heap.size := by have := add_block ad p; have := hb.lt; omega
  have x0 : ∀ o, ((w.setCell ⟨pr, 1, none⟩ (.int .i64 (m + 1))).alloc o).cell? (ad.add p) = some (.int .i64 (gw ws p)) := fun o =>
    (World.cell?_of_block (w := w) ((Below.heap_alloc _ _ _ (by simpa using hlb)).trans (Below.heap_setCell _ ⟨pr, 1, none⟩ _ _ hbk))).trans hq
  have hwh := hid (hi.wf_at hp2)
  clear hx hwx hi hp hpe hq hbk hlb hab
  generalize gw ws p = hd0 at *
  have gp : ¬ ((p : Nat) : Int) ≥ n := by omega
  have y0 : ∀ o, (w.alloc o).cell? ⟨pr, 0, none⟩ = some (.slice (some ad) n c) := fun o => (hb.alloc o).cell 0
  have y1 : ∀ o, (w.alloc o).cell? ⟨pr, 1, none⟩ = some (.int .i64 m) := fun o => (hb.alloc o).cell 1
  have y2 : ∀ o, (w.alloc o).cell? ⟨pr, 2, none⟩ = some (.bool false) := fun o => (hb.alloc o).cell 2
  have f1 : ∀ o, (w.alloc o).frozen? ⟨pr, 1, none⟩ = false := fun o => (hb.alloc o).frozen 1
  have f2 : ∀ o, (w.alloc o).frozen? ⟨pr, 2, none⟩ = false := fun o => (hb.alloc o).frozen 2
  have ya : w.cell? ⟨pr, 0, none⟩ = some (.slice (some ad) n c) := hb.cell 0
  have yb : w.cell? ⟨pr, 1, none⟩ = some (.int .i64 m) := hb.cell 1
  have yc : w.cell? ⟨pr, 2, none⟩ = some (.bool false) := hb.cell 2
  have fb : w.frozen? ⟨pr, 1, none⟩ = false := hb.frozen 1
  have fc : w.frozen? ⟨pr, 2, none⟩ = false := hb.frozen 2
  have hlt := hb.lt
  have hne : pr ≠ w.heap.size := by omega
  have hne' : w.heap.size ≠ pr := by omega
  have HB := hid hb
  have hnot : ∀ (x : Bool) (w : World), (Op.unary .not (.bool x)).run Try.prog w = .ok (.bool (!x)) w := fun _ _ => rfl
  clear hb
  rcases ho with ho | ⟨ho, ho2⟩ | ⟨ho, ho2, ho3⟩ | ⟨ho, ho2, ho3, ho4⟩
  · have hof := ofV_no ho
    clear ho
    go_enter Try.func39, Try.ntmps39
    go_wp2_with (first | (go_at_call 20; go_must (refine (ref27_ToIntV _ _).mono ?_); rw [hti]; rintro e w' ⟨rfl, rfl⟩) | (go_at_call 22; go_must (refine (ref27_Place _ hw.out _).mono ?_); rw [hpl]; rintro e w' ⟨rfl, rfl⟩) | (go_at_call 24; go_must (refine (ref27_Of _ hwh.out _).mono ?_); rw [hof]; rintro e w' ⟨rfl, rfl⟩))
    (have z0 : (Wb w pr (m + 1)).cell? ⟨w.heap.size, 0, none⟩ = some (.bool false) := (Wb_box w pr (m + 1)).cell 0; have z1 : (Wb w pr (m + 1)).cell? ⟨w.heap.size, 1, none⟩ = some (.int .i64 0) := (Wb_box w pr (m + 1)).cell 1; have z2 : (Wb w pr (m + 1)).cell? ⟨w.heap.size, 2, none⟩ = some (.slice none 0 0) := (Wb_box w pr (m + 1)).cell 2; refine bodyPost_ret (w := Wb w pr (m + 1)) (v := .agg #[.bool false, .int .i64 0, .slice none 0 0]) (by simp [results, Try.results39, go_sem, z0, z1, z2]) rfl (Wb_end HB.out (m + 1)))
  · have hof := ofV_yes ho
    have g1 : ((ofT hd0 : Nat) : Int) > 31 := by omega
    clear ho ho2
    go_enter Try.func39, Try.ntmps39
    go_wp2_with (first | (go_at_call 20; go_must (refine (ref27_ToIntV _ _).mono ?_); rw [hti]; rintro e w' ⟨rfl, rfl⟩) | (go_at_call 22; go_must (refine (ref27_Place _ hw.out _).mono ?_); rw [hpl]; rintro e w' ⟨rfl, rfl⟩) | (go_at_call 24; go_must (refine (ref27_Of _ hwh.out _).mono ?_); rw [hof]; rintro e w' ⟨rfl, rfl⟩))
    (have z0 : (Wb w pr (m + 1)).cell? ⟨w.heap.size, 0, none⟩ = some (.bool false) := (Wb_box w pr (m + 1)).cell 0; have z1 : (Wb w pr (m + 1)).cell? ⟨w.heap.size, 1, none⟩ = some (.int .i64 0) := (Wb_box w pr (m + 1)).cell 1; have z2 : (Wb w pr (m + 1)).cell? ⟨w.heap.size, 2, none⟩ = some (.slice none 0 0) := (Wb_box w pr (m + 1)).cell 2; refine bodyPost_ret (w := Wb w pr (m + 1)) (v := .agg #[.bool false, .int .i64 0, .slice none 0 0]) (by simp [results, Try.results39, go_sem, z0, z1, z2]) rfl (Wb_end HB.out (m + 1)))
  · have hof := ofV_yes ho
    have g1 : ¬ ((ofT hd0 : Nat) : Int) > 31 := by omega
    have g2 : ((ofS hd0 : Nat) : Int) > 8 := by omega
    clear ho ho2 ho3
    go_enter Try.func39, Try.ntmps39
    go_wp2_with (first | (go_at_call 20; go_must (refine (ref27_ToIntV _ _).mono ?_); rw [hti]; rintro e w' ⟨rfl, rfl⟩) | (go_at_call 22; go_must (refine (ref27_Place _ hw.out _).mono ?_); rw [hpl]; rintro e w' ⟨rfl, rfl⟩) | (go_at_call 24; go_must (refine (ref27_Of _ hwh.out _).mono ?_); rw [hof]; rintro e w' ⟨rfl, rfl⟩))
    (have z0 : (Wb w pr (m + 1)).cell? ⟨w.heap.size, 0, none⟩ = some (.bool false) := (Wb_box w pr (m + 1)).cell 0; have z1 : (Wb w pr (m + 1)).cell? ⟨w.heap.size, 1, none⟩ = some (.int .i64 0) := (Wb_box w pr (m + 1)).cell 1; have z2 : (Wb w pr (m + 1)).cell? ⟨w.heap.size, 2, none⟩ = some (.slice none 0 0) := (Wb_box w pr (m + 1)).cell 2; refine bodyPost_ret (w := Wb w pr (m + 1)) (v := .agg #[.bool false, .int .i64 0, .slice none 0 0]) (by simp [results, Try.results39, go_sem, z0, z1, z2]) rfl (Wb_end HB.out (m + 1)))
  · have hof := ofV_yes ho
    have g1 : ¬ ((ofT hd0 : Nat) : Int) > 31 := by omega
    have g2 : ¬ ((ofS hd0 : Nat) : Int) > 8 := by omega
    have q2 : IntKind.i64.wrap ((p : Int) + (ofS hd0 : Nat)) = p + (ofS hd0 : Nat) := IntWalk.i64_in _ (by omega)
    have g3 : (p : Int) + (ofS hd0 : Nat) ≥ n := by omega
    clear ho ho2 ho3 ho4
    go_enter Try.func39, Try.ntmps39
    go_wp2_with (first | (go_at_call 20; go_must (refine (ref27_ToIntV _ _).mono ?_); rw [hti]; rintro e w' ⟨rfl, rfl⟩) | (go_at_call 22; go_must (refine (ref27_Place _ hw.out _).mono ?_); rw [hpl]; rintro e w' ⟨rfl, rfl⟩) | (go_at_call 24; go_must (refine (ref27_Of _ hwh.out _).mono ?_); rw [hof]; rintro e w' ⟨rfl, rfl⟩))
    (have z0 : (Wb w pr (m + 1)).cell? ⟨w.heap.size, 0, none⟩ = some (.bool false) := (Wb_box w pr (m + 1)).cell 0; have z1 : (Wb w pr (m + 1)).cell? ⟨w.heap.size, 1, none⟩ = some (.int .i64 0) := (Wb_box w pr (m + 1)).cell 1; have z2 : (Wb w pr (m + 1)).cell? ⟨w.heap.size, 2, none⟩ = some (.slice none 0 0) := (Wb_box w pr (m + 1)).cell 2; refine bodyPost_ret (w := Wb w pr (m + 1)) (v := .agg #[.bool false, .int .i64 0, .slice none 0 0]) (by simp [results, Try.results39, go_sem, z0, z1, z2]) rfl (Wb_end HB.out (m + 1)))

/-- What val's loop keeps: i fields have been read; once something was bad, all is. -/
structure VInv (f : Int → Int → Option (Tr × Int)) (ks : List Int) (l0 : Int) (pr : Nat) (sl : Value) (tag : Int) (W : World) (i : Nat) (bd : Bool) (m : Int) (v : Value) (xs : List Value) (wr : World) : Prop where
  rd : Blk wr pr 72 #[sl, .int .i64 m, .bool bd]
  vb : Blk wr (W.heap.size + 1) 33 #[.bool false, .int .i64 tag, v]
  rb : Blk wr W.heap.size 33 #[.bool false, .int .i64 0, .slice none 0 0]
  row : wr.ownsRow (W.heap.size + 2) 33 3 v i xs
  kept : Kept (fun b => b = pr) W wr
  good : bd = false → ∃ (l : Int) (us : List Tr), m = 2048 - l ∧ us.length = i ∧ 0 ≤ l ∧ l ≤ 2048 ∧
    (∀ j, (hj : j < us.length) → ∃ v0 v1 v2, xs[j * 3]? = some v0 ∧ xs[j * 3 + 1]? = some v1 ∧ xs[j * 3 + 2]? = some v2 ∧ VAtS wr (fun b => W.heap.size + 2 ≤ b ∧ v.ownBlock ≠ some b) us[j] (.agg #[v0, v1, v2])) ∧
    kidsF f ks l0 = match kidsF f (ks.drop i) l with
    | none => none
    | some (us2, l2) => some (us ++ us2, l2)
  bad : bd = true → kidsF f ks l0 = none
theorem VInv.next {f : Int → Int → Option (Tr × Int)} {ks : List Int} {l0 : Int} {pr : Nat} {sl : Value} {tag : Int} {W : World} {i : Nat} {bd : Bool} {m : Int} {v : Value} {xs : List Value} {wr : World} (h : VInv f ks l0 pr sl tag W i bd m v xs wr)
    (hi : i < ks.length) (hpr : pr < W.heap.size) {w0 w1 w2 : World} {o : Obj} {v0 v1 v2 v' : Value} {bd' : Bool} {m' : Int} (h0 : w0.heap = wr.heap) (h0o : w0.os = wr.os ∧ w0.tape = wr.tape ∧ w0.output = wr.output)
    (hgood : bd' = false → bd = false ∧ ∃ t l1, f ks[i] (2048 - m) = some (t, l1) ∧ m' = 2048 - l1 ∧ 0 ≤ l1 ∧ l1 ≤ 2048 ∧ VAtS w1 (fun b => w0.heap.size ≤ b) t (.agg #[v0, v1, v2])) (hbad : bd' = true → bd = true ∨ f ks[i] (2048 - m) = none)
    (hk : Kept (fun b => b = pr) w0 w1) (hrd : Blk w1 pr 72 #[sl, .int .i64 m', .bool bd'])
    (hr : w2.ownsRow (W.heap.size + 2) 33 3 v' (i + 1) (xs ++ [v0, v1, v2])) (hg : (w1.alloc o).grownBy w2 v.ownBlock) (hn : ∀ g, v'.ownBlock = some g → v.ownBlock = some g ∨ (w1.alloc o).heap.size ≤ g) :
    Blk w2 (W.heap.size + 1) 33 #[.bool false, .int .i64 tag, v] ∧ VInv f ks l0 pr sl tag W (i + 1) bd' m' v' (xs ++ [v0, v1, v2]) (w2.setCell ⟨W.heap.size + 1, 2, none⟩ v') := by
  have hsz : (w1.alloc o).heap.size = w1.heap.size + 1 := by simp
  have hz0 : w0.heap.size = wr.heap.size := by rw [h0]
  have hs1 := hk.size
  have hlen : xs.length = i * 3 := h.row.1
  have hgb : ∀ g, v.ownBlock = some g → g < wr.heap.size ∧ W.heap.size + 2 ≤ g := fun g hg => by have := h.row.lt g hg; omega
  have hvb := h.vb.lt
  have hall : ∀ k, k < w1.heap.size → v.ownBlock ≠ some k → w2.heap[k]? = w1.heap[k]? := fun k hk1 hne => (hg.block k (by omega) (fun e => hne e.symm)).trans (Below.heap_alloc _ _ _ hk1)
  have hw1 : ∀ k, k < wr.heap.size → k ≠ pr → w1.heap[k]? = wr.heap[k]? := fun k hk1 hne => (hk.block k (by omega) hne).trans (by rw [h0])
  have hset : ∀ k, k ≠ W.heap.size + 1 → (w2.setCell ⟨W.heap.size + 1, 2, none⟩ v').heap[k]? = w2.heap[k]? := fun k hk1 => Below.heap_setCell _ ⟨W.heap.size + 1, 2, none⟩ _ k hk1
  have hne1 : ∀ g, v.ownBlock = some g → g ≠ W.heap.size + 1 := fun g hg => by have := hgb g hg; omega
  have hne2 : ∀ g, v'.ownBlock = some g → W.heap.size + 2 ≤ g := fun g hg2 => by
    rcases hn g hg2 with e | e
    · exact (hgb g e).2
    · omega
  have bvb : Blk w2 (W.heap.size + 1) 33 #[.bool false, .int .i64 tag, v] := (hall _ (by omega) (fun e => hne1 _ e rfl)).trans ((hw1 _ hvb (by omega)).trans h.vb)
  have hrb := h.rb.lt
  have ks2 : W.heap.size ≤ wr.heap.size := h.kept.size
  refine ⟨bvb, ?_, ?_, ?_, ?_, ?_, ?_, ?_⟩
  · exact (hset _ (by omega)).trans ((hall _ (by have := hrd.lt; exact this) (fun e => by have := hgb _ e; omega)).trans hrd)
  · exact bvb.set_ 2 v'
  · exact (hset _ (by omega)).trans ((hall _ (by omega) (fun e => by have := hgb _ e; omega)).trans ((hw1 _ hrb (by omega)).trans h.rb))
  · exact row_keep hr (fun g hg2 => hset _ (by have := hne2 g hg2; omega))
  · have t0 : Kept (fun b => b = pr) W w0 := ⟨h0o.1.trans h.kept.os, h0o.2.1.trans h.kept.tape, h0o.2.2.trans h.kept.output, by rw [h0]; exact h.kept.size, fun k hk1 hk2 => by rw [h0]; exact h.kept.block k hk1 hk2⟩
    exact (((t0.then hk (fun _ _ e => e) (fun _ _ e => e)).alloc o).grown hg (fun g hg2 => .inr (by have := hgb g hg2; omega))).setCell (p := ⟨W.heap.size + 1, 2, none⟩) (.inr (by dsimp only; omega)) _
  · intro hb'
    obtain ⟨hbd, t, l1, hf, hm', hl0, hl1, hv⟩ := hgood hb'
    obtain ⟨l, us, hm, hul, hl2, hl3, hkids, hkf⟩ := h.good hbd
    have hml : (2048 : Int) - m = l := by omega
    rw [hml] at hf
    refine ⟨l1, us ++ [t], hm', by simp [hul], hl0, hl1, ?_, ?_⟩
    · intro j hj
      rw [List.length_append, hul] at hj
      simp only [List.length_cons, List.length_nil] at hj
      by_cases hjj : j < i
      · have hj2 : j < us.length := by rw [hul]; exact hjj
        obtain ⟨u0, u1, u2, e0, e1, e2, hv2⟩ := hkids j hj2
        refine ⟨u0, u1, u2, by rw [List.getElem?_append_left (by omega)]; exact e0, by rw [List.getElem?_append_left (by omega)]; exact e1, by rw [List.getElem?_append_left (by omega)]; exact e2, ?_⟩
        rw [List.getElem_append_left hj2]
        have hlv : VAtS wr (fun b => (W.heap.size + 2 ≤ b ∧ v.ownBlock ≠ some b) ∧ b < wr.heap.size) us[j] (.agg #[u0, u1, u2]) := hv2.keep (fun _ _ => rfl) (fun k hk1 hk2 => ⟨hk1, hk2⟩)
        refine hlv.keep (fun k hk1 => (hset k (by omega)).trans ((hall k (by omega) hk1.1.2).trans (hw1 k hk1.2 (by omega)))) (fun k hk1 _ => ⟨hk1.1.1, fun e => ?_⟩)
        rcases hn k e with e | e
        · exact hk1.1.2 e
        · omega
      · have hji : j = us.length := by rw [hul]; omega
        subst hji
        refine ⟨v0, v1, v2, by rw [List.getElem?_append_right (by omega)]; simp [hlen, hul], by rw [List.getElem?_append_right (by omega)]; simp [hlen, hul], by rw [List.getElem?_append_right (by omega)]; simp [hlen, hul], ?_⟩
        have hgt : (us ++ [t])[us.length]'(by simp) = t := by simp
        rw [hgt]
        have hlv : VAtS w1 (fun b => w0.heap.size ≤ b ∧ b < w1.heap.size) t (.agg #[v0, v1, v2]) := hv.keep (fun _ _ => rfl) (fun k hk1 hk2 => ⟨hk1, hk2⟩)
        refine hlv.keep (fun k hk1 => (hset k (by omega)).trans (hall k hk1.2 (fun e => by have := hgb k e; omega))) (fun k hk1 _ => ⟨by omega, fun e => ?_⟩)
        rcases hn k e with e | e
        · have := hgb k e; omega
        · omega
    · rw [hkf, List.drop_eq_getElem_cons hi, kidsF, hf]
      dsimp only
      cases kidsF f (ks.drop (i + 1)) l1 with
      | none => rfl
      | some r => simp
  · intro hb'
    cases hbd : bd with
    | true => exact h.bad hbd
    | false =>
      rcases hbad hb' with e | e
      · rw [hbd] at e; cases e
      · obtain ⟨l, us, hm, hul, hl2, hl3, hkids, hkf⟩ := h.good hbd
        have hml : (2048 : Int) - m = l := by omega
        rw [hml] at e
        rw [hkf, List.drop_eq_getElem_cons hi, kidsF, e]
end Go.Proofs.Ytgakmfcnddholaa
