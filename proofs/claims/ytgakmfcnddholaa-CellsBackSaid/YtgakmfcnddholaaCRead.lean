/-
  THE WALK OF (*cells.reader).read: the value of a word among words.
-/
import Derived.Test.YtgakmfcnddholaaCCopy
import Derived.Test.YtgakmfcnddholaaCToInt
import Derived.Test.YtgakmfcnddholaaCRange
import Derived.Test.YtgakmfcnddholaaHCells
import Derived.Test.YtgakmfcnddholaaCVal2
import Derived.Deep.RegionHeld3
import Derived.RegionDies
import Derived.Maps.AppendAt
namespace Go.Proofs.Ytgakmfcnddholaa
open Go.ChangeShapes Go.WideShapes Go.ChangeAt Go.RowKit

/-- The values of words, one by one. -/
def kidsF (f : Int → Int → Option (Tr × Int)) : List Int → Int → Option (List Tr × Int)
  | [], l => some ([], l)
  | y :: ys, l => match f y l with
    | none => none
    | some (t, l1) => match kidsF f ys l1 with
      | none => none
      | some (us, l2) => some (t :: us, l2)
/-- Is a word's object there, k words long behind its head? -/
def ObjOk (ws : List Int) (x : Int) : Prop := (PlOk x ∧ plN x < ws.length) ∧ OfOk (gw ws (plN x)) ∧ ofT (gw ws (plN x)) < 32 ∧ ofS (gw ws (plN x)) ≤ 8 ∧ plN x + ofS (gw ws (plN x)) < ws.length
instance (ws : List Int) (x : Int) : Decidable (ObjOk ws x) := by unfold ObjOk; infer_instance
/-- The value of word x, so many levels deep at most, of so many nodes at most; how many nodes are left. -/
def readF (ws : List Int) : Nat → Int → Int → Option (Tr × Int)
  | 0, _, _ => none
  | k + 1, x, left =>
    if left - 1 < 0 then none
    else if IntOk x then some (.mk true (toN x) [], left - 1)
    else if ObjOk ws x then
      match kidsF (readF ws k) ((ws.drop (plN x + 1)).take (ofS (gw ws (plN x)))) (left - 1) with
      | none => none
      | some (us, l) => some (.mk false (ofT (gw ws (plN x))) us, l)
    else none
/-- What read owes. -/
def ReadP (r : Option (Tr × Int)) (pr : Nat) (sl : Value) (w : World) (e : Ending) (w' : World) : Prop :=
  Kept (fun b => b = pr) w w' ∧
  match r with
  | some (t, l) => ∃ v, e = .returned v ∧ VAtS w' (fun b => w.heap.size ≤ b) t v ∧ Blk w' pr 68 #[sl, .int .i64 l]
  | none => e = .panicked [flt 270]

/-- The world in which the first test is passed. -/
theorem kept1 (w : World) (pr : Nat) (u : Value) (o : Obj) : Kept (fun b => b = pr) w ((w.setCell ⟨pr, 1, none⟩ u).alloc o) := (Kept.setCell (S := fun b => b = pr) (Kept.refl _ w) (p := ⟨pr, 1, none⟩) (.inl rfl) _).alloc _
set_option maxHeartbeats 4000000 in
set_option maxRecDepth 100000 in
theorem read_over (pr : Nat) (A : Option Addr) (n c : Nat) (left x d : Int) (w : World) (hb : Blk w pr 68 #[.slice A n c, .int .i64 left]) (hl : 0 ≤ left) (hl2 : left ≤ 2048) (h : left - 1 < 0 ∨ 0 ≤ left - 1 ∧ ¬ d ≤ 256) :
    Calls Try.prog 38 #[.pointer (some ⟨pr, 0, none⟩), .int .i64 x, .int .i64 d] w (ReadP none pr (.slice A n c) w) := by
  have y0 : ∀ o, (w.alloc o).cell? ⟨pr, 0, none⟩ = some (.slice A n c) := fun o => (hb.alloc o).cell 0
  have y1 : ∀ o, (w.alloc o).cell? ⟨pr, 1, none⟩ = some (.int .i64 left) := fun o => (hb.alloc o).cell 1
  have f1 : ∀ o, (w.alloc o).frozen? ⟨pr, 1, none⟩ = false := fun o => (hb.alloc o).frozen 1
  have yb : w.cell? ⟨pr, 1, none⟩ = some (.int .i64 left) := hb.cell 1
  have fb : w.frozen? ⟨pr, 1, none⟩ = false := hb.frozen 1
  have hlt := hb.lt
  have q1 : IntKind.i64.wrap (left - 1) = left - 1 := IntWalk.i64_in _ (by omega)
  clear hb
  rcases h with h | ⟨h, h2⟩
  all_goals
    go_enter Try.func38, Try.ntmps38
    go_wp2_with (go_at_call 40; go_must (refine (cells_want _ _ _).mono ?_); (try rw [H2.out]); (first | simp only [wantE_ok] | simp only [wantE_no]); rintro e w' ⟨rfl, rfl⟩)
    exact ⟨rfl, kept1 _ _ _ _, rfl⟩
set_option maxHeartbeats 4000000 in
set_option maxRecDepth 100000 in
theorem read_int (pr : Nat) (A : Option Addr) (n c : Nat) (left x d : Int) (w : World) (hb : Blk w pr 68 #[.slice A n c, .int .i64 left]) (hl2 : left ≤ 2048) (h : 0 ≤ left - 1) (hd : d ≤ 256) (hx : IntOk x) :
    Calls Try.prog 38 #[.pointer (some ⟨pr, 0, none⟩), .int .i64 x, .int .i64 d] w (ReadP (some (.mk true (toN x) [], left - 1)) pr (.slice A n c) w) := by
  have hti := toV_yes hx
  have hwf : (Lit.int .i64 (toN x)).wf = true := by have := toN_in (h := x); simp [Lit.wf, IntKind.min, IntKind.max, IntKind.signed, IntKind.bits]; omega
  have HW := hid hwf
  clear hwf hx
  have y0 : ∀ o, (w.alloc o).cell? ⟨pr, 0, none⟩ = some (.slice A n c) := fun o => (hb.alloc o).cell 0
  have y1 : ∀ o, (w.alloc o).cell? ⟨pr, 1, none⟩ = some (.int .i64 left) := fun o => (hb.alloc o).cell 1
  have f1 : ∀ o, (w.alloc o).frozen? ⟨pr, 1, none⟩ = false := fun o => (hb.alloc o).frozen 1
  have yb : w.cell? ⟨pr, 1, none⟩ = some (.int .i64 left) := hb.cell 1
  have ya : w.cell? ⟨pr, 0, none⟩ = some (.slice A n c) := hb.cell 0
  have fb : w.frozen? ⟨pr, 1, none⟩ = false := hb.frozen 1
  have hlt := hb.lt
  have q1 : IntKind.i64.wrap (left - 1) = left - 1 := IntWalk.i64_in _ (by omega)
  have hne : pr ≠ w.heap.size := by omega
  have hne' : w.heap.size ≠ pr := by omega
  have HB := hid hb
  clear hb
  go_enter Try.func38, Try.ntmps38
  go_wp2_with (first | (go_at_call 40; go_must (refine (cells_want _ _ _).mono ?_); (try rw [H2.out]); (first | simp only [wantE_ok] | simp only [wantE_no]); rintro e w' ⟨rfl, rfl⟩) | (go_at_call 19; go_must (refine (cells_ToIntV _ _).mono ?_); rw [hti]; rintro e w' ⟨rfl, rfl⟩))
  have R : Blk ((w.setCell ⟨pr, 1, none⟩ (.int .i64 (left - 1))).alloc (.cells #[.bool true, .int .i64 (toN x), .slice none 0 0] 33)) w.heap.size 33 #[.bool true, .int .i64 (toN x), .slice none 0 0] := Blk.new' (by simp) _ _
  have z0 := R.cell 0
  have z1 := R.cell 1
  have z2 := R.cell 2
  refine bodyPost_ret (v := .agg #[.bool true, .int .i64 (toN x), .slice none 0 0]) (by simp [results, Try.results38, go_sem, z0, z1, z2]) rfl ⟨kept1 _ _ _ _, _, rfl, ?_, (HB.out.set_ 1 _).alloc _⟩
  rw [VAtS]
  exact ⟨⟨none, 0, rfl, by simp, by unfold maxLen; simp, by simp, by rw [RowS]; trivial⟩, HW.out⟩
set_option maxHeartbeats 4000000 in
set_option maxRecDepth 100000 in
theorem read_noplace (pr : Nat) (A : Option Addr) (n c : Nat) (left x d : Int) (w : World) (hb : Blk w pr 68 #[.slice A n c, .int .i64 left]) (hl2 : left ≤ 2048) (h : 0 ≤ left - 1) (hd : d ≤ 256) (hwx : (Lit.int .i64 x).wf = true) (hx : ¬ IntOk x) (hp : ¬ PlOk x ∨ PlOk x ∧ ¬ plN x < n) :
    Calls Try.prog 38 #[.pointer (some ⟨pr, 0, none⟩), .int .i64 x, .int .i64 d] w (ReadP none pr (.slice A n c) w) := by
  have hti := toV_no hx
  have hw := hid hwx
  clear hx hwx
  have y0 : ∀ o, (w.alloc o).cell? ⟨pr, 0, none⟩ = some (.slice A n c) := fun o => (hb.alloc o).cell 0
  have y1 : ∀ o, (w.alloc o).cell? ⟨pr, 1, none⟩ = some (.int .i64 left) := fun o => (hb.alloc o).cell 1
  have f1 : ∀ o, (w.alloc o).frozen? ⟨pr, 1, none⟩ = false := fun o => (hb.alloc o).frozen 1
  have yb : w.cell? ⟨pr, 1, none⟩ = some (.int .i64 left) := hb.cell 1
  have ya : w.cell? ⟨pr, 0, none⟩ = some (.slice A n c) := hb.cell 0
  have fb : w.frozen? ⟨pr, 1, none⟩ = false := hb.frozen 1
  have hlt := hb.lt
  have q1 : IntKind.i64.wrap (left - 1) = left - 1 := IntWalk.i64_in _ (by omega)
  have hne : pr ≠ w.heap.size := by omega
  have hne' : w.heap.size ≠ pr := by omega
  have HB := hid hb
  clear hb
  rcases hp with hp | ⟨hp, hp2⟩
  · have hpl := plV_no hp
    clear hp
    go_enter Try.func38, Try.ntmps38
    go_wp2_with (first | (go_at_call 40; go_must (refine (cells_want _ _ _).mono ?_); (try rw [H2.out]); (first | simp only [wantE_ok] | simp only [wantE_no]); rintro e w' ⟨rfl, rfl⟩) | (go_at_call 19; go_must (refine (cells_ToIntV _ _).mono ?_); rw [hti]; rintro e w' ⟨rfl, rfl⟩) | (go_at_call 21; go_must (refine (cells_Place _ hw.out _).mono ?_); rw [hpl]; rintro e w' ⟨rfl, rfl⟩))
    exact ⟨rfl, kept1 _ _ _ _, rfl⟩
  · have hpl := plV_yes hp
    have H2 := hid (decide_eq_false hp2)
    clear hp hp2
    go_enter Try.func38, Try.ntmps38
    go_wp2_with (first | (go_at_call 40; go_must (refine (cells_want _ _ _).mono ?_); (try rw [H2.out]); (first | simp only [wantE_ok] | simp only [wantE_no]); rintro e w' ⟨rfl, rfl⟩) | (go_at_call 19; go_must (refine (cells_ToIntV _ _).mono ?_); rw [hti]; rintro e w' ⟨rfl, rfl⟩) | (go_at_call 21; go_must (refine (cells_Place _ hw.out _).mono ?_); rw [hpl]; rintro e w' ⟨rfl, rfl⟩))
    exact ⟨rfl, kept1 _ _ _ _, rfl⟩

theorem ofV_parts {h : Int} (hk : OfOk h) : 0 ≤ ofT h ∧ ofS h ≤ 64 := ⟨Nat.zero_le _, ofS_le hk⟩
set_option maxHeartbeats 4000000 in
set_option maxRecDepth 100000 in
theorem read_nohead (pr B p : Nat) (ad : Addr) (n c : Nat) (ws : List Int) (left x d : Int) (w : World) (hb : Blk w pr 68 #[.slice (some ad) n c, .int .i64 left]) (hi : Ints w B (some ad) n c ws) (hB : B ≤ pr) (hl2 : left ≤ 2048) (h : 0 ≤ left - 1) (hd : d ≤ 256) (hwx : (Lit.int .i64 x).wf = true) (hx : ¬ IntOk x) (hp : PlOk x) (hpe : plN x = p) (hp2 : p < n) (hn : n ≤ 1000000)
    (ho : ¬ OfOk (gw ws p) ∨ OfOk (gw ws p) ∧ ¬ ofT (gw ws p) < 32 ∨ OfOk (gw ws p) ∧ ofT (gw ws p) < 32 ∧ ¬ ofS (gw ws p) ≤ 8 ∨ OfOk (gw ws p) ∧ ofT (gw ws p) < 32 ∧ ofS (gw ws p) ≤ 8 ∧ ¬ p + ofS (gw ws p) < n) :
    Calls Try.prog 38 #[.pointer (some ⟨pr, 0, none⟩), .int .i64 x, .int .i64 d] w (ReadP none pr (.slice (some ad) n c) w) := by
  have hti := toV_no hx
  have hw := hid hwx
  have hpl := plV_yes hp
  rw [hpe] at hpl
  have hq := hi.cell hp2
  have hbk : (ad.add p).block ≠ pr := by
    rcases hi.at_ with h0 | ⟨a, e1, e2, _⟩
    · omega
    · injection e1 with e1
      subst e1
      have := add_block ad p
      omega
  have hlb : (ad.add p).block < w.heap.size := by
    rcases hi.at_ with h0 | ⟨a, e1, e2, _⟩
    · omega
    · injection e1 with e1
      subst e1
      have := add_block ad p
      have := hb.lt
      omega
  have x0 : ∀ o, ((w.setCell ⟨pr, 1, none⟩ (.int .i64 (left - 1))).alloc o).cell? (ad.add p) = some (.int .i64 (gw ws p)) := fun o =>
    (World.cell?_of_block (w := w) ((Below.heap_alloc _ _ _ (by simpa using hlb)).trans (Below.heap_setCell _ ⟨pr, 1, none⟩ _ _ hbk))).trans hq
  have hwh := hid (hi.wf_at hp2)
  clear hx hwx hi hp hpe hq hbk hlb
  have y0 : ∀ o, (w.alloc o).cell? ⟨pr, 0, none⟩ = some (.slice (some ad) n c) := fun o => (hb.alloc o).cell 0
  have y1 : ∀ o, (w.alloc o).cell? ⟨pr, 1, none⟩ = some (.int .i64 left) := fun o => (hb.alloc o).cell 1
  have f1 : ∀ o, (w.alloc o).frozen? ⟨pr, 1, none⟩ = false := fun o => (hb.alloc o).frozen 1
  have yb : w.cell? ⟨pr, 1, none⟩ = some (.int .i64 left) := hb.cell 1
  have ya : w.cell? ⟨pr, 0, none⟩ = some (.slice (some ad) n c) := hb.cell 0
  have fb : w.frozen? ⟨pr, 1, none⟩ = false := hb.frozen 1
  have hlt := hb.lt
  have q1 : IntKind.i64.wrap (left - 1) = left - 1 := IntWalk.i64_in _ (by omega)
  have hne : pr ≠ w.heap.size := by omega
  have hne' : w.heap.size ≠ pr := by omega
  have HB := hid hb
  clear hb
  generalize gw ws p = hd0 at *
  have q2 : IntKind.i64.wrap ((n : Int) - p) = n - p := IntWalk.i64_in _ (by omega)
  rcases ho with ho | ⟨ho, ho2⟩ | ⟨ho, ho2, ho3⟩ | ⟨ho, ho2, ho3, ho4⟩
  · have hof := ofV_no ho
    clear ho
    go_enter Try.func38, Try.ntmps38
    go_wp2_with (first | (go_at_call 40; go_must (refine (cells_want _ _ _).mono ?_); (try rw [H2.out]); (first | simp only [wantE_ok] | simp only [wantE_no]); rintro e w' ⟨rfl, rfl⟩) | (go_at_call 19; go_must (refine (cells_ToIntV _ _).mono ?_); rw [hti]; rintro e w' ⟨rfl, rfl⟩) | (go_at_call 21; go_must (refine (cells_Place _ hw.out _).mono ?_); rw [hpl]; rintro e w' ⟨rfl, rfl⟩) | (go_at_call 23; go_must (refine (cells_Of _ hwh.out _).mono ?_); rw [hof]; rintro e w' ⟨rfl, rfl⟩))
    exact ⟨rfl, kept1 _ _ _ _, rfl⟩
  · have hof := ofV_yes ho
    have H2 := hid (decide_eq_false ho2)
    have g1 : ¬ ((ofT hd0 : Nat) : Int) < 32 := by omega
    clear ho ho2
    go_enter Try.func38, Try.ntmps38
    go_wp2_with (first | (go_at_call 40; go_must (refine (cells_want _ _ _).mono ?_); (try rw [H2.out]); (first | simp only [wantE_ok] | simp only [wantE_no]); rintro e w' ⟨rfl, rfl⟩) | (go_at_call 19; go_must (refine (cells_ToIntV _ _).mono ?_); rw [hti]; rintro e w' ⟨rfl, rfl⟩) | (go_at_call 21; go_must (refine (cells_Place _ hw.out _).mono ?_); rw [hpl]; rintro e w' ⟨rfl, rfl⟩) | (go_at_call 23; go_must (refine (cells_Of _ hwh.out _).mono ?_); rw [hof]; rintro e w' ⟨rfl, rfl⟩))
    exact ⟨rfl, kept1 _ _ _ _, rfl⟩
  · have hof := ofV_yes ho
    have H2 := hid (decide_eq_false ho3)
    have g1 : ((ofT hd0 : Nat) : Int) < 32 := by omega
    have g2 : ¬ ((ofS hd0 : Nat) : Int) ≤ 8 := by omega
    clear ho ho3 ho2
    go_enter Try.func38, Try.ntmps38
    go_wp2_with (first | (go_at_call 40; go_must (refine (cells_want _ _ _).mono ?_); (try rw [H2.out]); (first | simp only [wantE_ok] | simp only [wantE_no]); rintro e w' ⟨rfl, rfl⟩) | (go_at_call 19; go_must (refine (cells_ToIntV _ _).mono ?_); rw [hti]; rintro e w' ⟨rfl, rfl⟩) | (go_at_call 21; go_must (refine (cells_Place _ hw.out _).mono ?_); rw [hpl]; rintro e w' ⟨rfl, rfl⟩) | (go_at_call 23; go_must (refine (cells_Of _ hwh.out _).mono ?_); rw [hof]; rintro e w' ⟨rfl, rfl⟩))
    exact ⟨rfl, kept1 _ _ _ _, rfl⟩
  · have hof := ofV_yes ho
    have H2 := hid (decide_eq_false (show ¬ (ofS hd0 : Int) < (n : Int) - p by omega))
    have g1 : ((ofT hd0 : Nat) : Int) < 32 := by omega
    have g2 : ((ofS hd0 : Nat) : Int) ≤ 8 := by omega
    clear ho ho4 ho3 ho2
    go_enter Try.func38, Try.ntmps38
    go_wp2_with (first | (go_at_call 40; go_must (refine (cells_want _ _ _).mono ?_); (try rw [H2.out]); (first | simp only [wantE_ok] | simp only [wantE_no]); rintro e w' ⟨rfl, rfl⟩) | (go_at_call 19; go_must (refine (cells_ToIntV _ _).mono ?_); rw [hti]; rintro e w' ⟨rfl, rfl⟩) | (go_at_call 21; go_must (refine (cells_Place _ hw.out _).mono ?_); rw [hpl]; rintro e w' ⟨rfl, rfl⟩) | (go_at_call 23; go_must (refine (cells_Of _ hwh.out _).mono ?_); rw [hof]; rintro e w' ⟨rfl, rfl⟩))
    exact ⟨rfl, kept1 _ _ _ _, rfl⟩
end Go.Proofs.Ytgakmfcnddholaa
