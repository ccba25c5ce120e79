/-
  THE WALK OF (*athanorref27.reader).val: an object's value; val whole; athanorref27.Val.
-/
import Derived.Test.YtgakmfcnddholaaCRVal
import Derived.Deep.RegionLaw
namespace Go.Proofs.Ytgakmfcnddholaa
open Go.ChangeShapes Go.WideShapes Go.ChangeAt Go.RowKit

/-- What one call of val does to the reader, whatever its state. -/
def RcP (f : Int → Int → Option (Tr × Int)) (y : Int) (bd : Bool) (m : Int) (pr : Nat) (sl : Value) (w : World) (e : Ending) (w' : World) : Prop :=
  Kept (fun b => b = pr) w w' ∧ ∃ b n A mm c bd' m', e = .returned (.agg #[.bool b, .int .i64 n, .slice A mm c]) ∧ Blk w' pr 72 #[sl, .int .i64 m', .bool bd'] ∧
    (bd' = false → bd = false ∧ ∃ t l1, f y (2048 - m) = some (t, l1) ∧ m' = 2048 - l1 ∧ 0 ≤ l1 ∧ l1 ≤ 2048 ∧ VAtS w' (fun b => w.heap.size ≤ b) t (.agg #[.bool b, .int .i64 n, .slice A mm c])) ∧
    (bd' = true → bd = true ∨ f y (2048 - m) = none)
theorem rv_call {f : Int → Int → Option (Tr × Int)} {y d m : Int} {bd : Bool} {pr : Nat} {A : Option Addr} {n c : Nat} {W : World} (hb : Blk W pr 72 #[.slice A n c, .int .i64 m, .bool bd]) (hm : bd = false → 0 ≤ m ∧ m ≤ 2048)
    (hf : ∀ y l t l', f y l = some (t, l') → 0 ≤ l' ∧ l' ≤ l)
    (ih : bd = false → Calls Try.prog 39 #[.pointer (some ⟨pr, 0, none⟩), .int .i64 y, .int .i64 d] W (RvP (f y (2048 - m)) pr (.slice A n c) W)) :
    Calls Try.prog 39 #[.pointer (some ⟨pr, 0, none⟩), .int .i64 y, .int .i64 d] W (RcP f y bd m pr (.slice A n c) W) := by
  cases bd with
  | true =>
    refine (rval_bad pr A n c m y d W hb).mono ?_
    rintro e w' ⟨hk, b, n9, A9, m9, c9, rfl, m', hb'⟩
    exact ⟨hk, b, n9, A9, m9, c9, true, m', rfl, hb', fun h => (by cases h), fun _ => .inl rfl⟩
  | false =>
    have hm := hm rfl
    refine (ih rfl).mono ?_
    cases hr : f y (2048 - m) with
    | none =>
      rintro e w' ⟨hk, b, n9, A9, m9, c9, rfl, m', hb'⟩
      exact ⟨hk, b, n9, A9, m9, c9, true, m', rfl, hb', fun h => (by cases h), fun _ => .inr hr⟩
    | some r =>
      obtain ⟨t, l1⟩ := r
      have h1 := hf _ _ _ _ hr
      rintro e w' ⟨hk, b, n9, A9, m9, c9, rfl, hv, hb'⟩
      exact ⟨hk, b, n9, A9, m9, c9, false, 2048 - l1, rfl, hb', fun _ => ⟨rfl, t, l1, hr, rfl, h1.1, by omega, hv⟩, fun h => (by cases h)⟩
section
variable {f : Int → Int → Option (Tr × Int)} {ks : List Int} {l0 : Int} {pr : Nat} {sl : Value} {tag : Int} {W : World} {i : Nat} {bd : Bool} {m : Int} {v : Value} {xs : List Value} {wr : World}
theorem VInv.start (f : Int → Int → Option (Tr × Int)) (ks : List Int) {pr : Nat} {sl : Value} (tag m : Int) {W : World} {old : Value} (hb : Blk W pr 72 #[sl, old, .bool false]) (hl : 0 ≤ m ∧ m ≤ 2048) :
    VInv f ks (2048 - m) pr sl tag W 0 false m (.slice none 0 0) [] (((W.setCell ⟨pr, 1, none⟩ (.int .i64 m)).alloc (.cells #[.bool false, .int .i64 0, .slice none 0 0] 33)).alloc (.cells #[.bool false, .int .i64 tag, .slice none 0 0] 33)) :=
  ⟨((hb.set_ 1 (.int .i64 m)).alloc _).alloc _, Blk.new' (by simp) _ _, (Blk.new' (by simp) _ _).alloc _, World.ownsRow_nil _ _ _ _, (kept1 _ _ _ _).alloc _,
    fun _ => ⟨2048 - m, [], by omega, rfl, by omega, by omega, fun j hj => (by simp at hj), by rw [List.drop_zero]; cases kidsF f ks (2048 - m) <;> simp⟩, fun h => (by cases h)⟩
theorem VInv.row_ (h : VInv f ks l0 pr sl tag W i bd m v xs wr) (hpr : pr < W.heap.size) {w1 : World} {o : Obj} (hk : Kept (fun b => b = pr) wr.drew w1) : (w1.alloc o).ownsRow (W.heap.size + 2) 33 3 v i xs :=
  row_keep h.row (fun g hg => (Below.heap_alloc _ _ _ (by have := h.row.lt g hg; have := hk.size; have e : wr.drew.heap.size = wr.heap.size := rfl; omega)).trans (hk.block g (h.row.lt g hg).2 (by have := h.row.lt g hg; omega)))
theorem VInv.lt_ (h : VInv f ks l0 pr sl tag W i bd m v xs wr) {w1 : World} (hk : Kept (fun b => b = pr) wr.drew w1) : W.heap.size + 1 < w1.heap.size := by
  have := h.vb.lt
  have := hk.size
  have e : wr.drew.heap.size = wr.heap.size := rfl
  omega
theorem VInv.sz_ (h : VInv f ks l0 pr sl tag W i bd m v xs wr) {w1 : World} {o : Obj} (hk : Kept (fun b => b = pr) wr.drew w1) : W.heap.size + 2 ≤ (w1.alloc o).heap.size := by
  have := h.lt_ hk
  simp
  omega
/-- One field more. -/
theorem step_val {A' : Option Addr} {c' : Nat} (h : VInv f ks l0 pr sl tag W i bd m (.slice A' i c') xs wr) (hi : i < ks.length) (hpr : pr < W.heap.size) {y : Int} (hy : ks[i] = y) {w1 : World} {b9 : Bool} {n9 : Int} {A9 : Option Addr} {m9 c9 : Nat} {ty : TypeId} {bd' : Bool} {m2 : Int}
    (hgd : bd' = false → bd = false ∧ ∃ t l1, f y (2048 - m) = some (t, l1) ∧ m2 = 2048 - l1 ∧ 0 ≤ l1 ∧ l1 ≤ 2048 ∧ VAtS w1 (fun b => wr.drew.heap.size ≤ b) t (.agg #[.bool b9, .int .i64 n9, .slice A9 m9 c9]))
    (hbd : bd' = true → bd = true ∨ f y (2048 - m) = none) (hk : Kept (fun b => b = pr) wr.drew w1) (hrd : Blk w1 pr 72 #[sl, .int .i64 m2, .bool bd']) (hm : i + 1 ≤ 1000000)
    {q : Addr} {u : Value} (hq : W.cell? q = some u) (hql : q.block < W.heap.size) (hqp : ¬ q.block = pr) (hqv : q.block ≠ W.heap.size + 1)
    {ops : Array Oper} {o : Oper} {a : Act} {K : Act → World → Prop} {Q : Exit → Act → World → Prop} {E : Prop} (hgd0 : o.guard = none) (s x : Operand)
    (ho : o.op = .call { callee := .builtin .append, args := #[s, x], argTypes := #[31, 31] })
    {cc : Nat} (hs : a.eval s = .slice A' i c') (hx : a.eval x = .slice (some ⟨w1.heap.size, 0, none⟩) 1 cc)
    (hK : ∀ A4 c4 w2, w2.cell? ⟨W.heap.size + 1, 2, none⟩ = some (.slice A' i c') → w2.frozen? ⟨W.heap.size + 1, 2, none⟩ = false → w2.cell? ⟨pr, 0, none⟩ = some sl → w2.cell? q = some u →
      (w2.setCell ⟨W.heap.size + 1, 2, none⟩ (.slice A4 (i + 1) c4)).cell? ⟨pr, 0, none⟩ = some sl → (w2.setCell ⟨W.heap.size + 1, 2, none⟩ (.slice A4 (i + 1) c4)).cell? q = some u →
      VInv f ks l0 pr sl tag W (i + 1) bd' m2 (.slice A4 (i + 1) c4) (xs ++ [.bool b9, .int .i64 n9, .slice A9 m9 c9]) (w2.setCell ⟨W.heap.size + 1, 2, none⟩ (.slice A4 (i + 1) c4)) → K (a.put o.dst (.slice A4 (i + 1) c4)) w2) :
    if Region.wanted o (yielded ops a.tmps) = true then Oper.wp Try.prog o a (w1.alloc (.cells #[.bool b9, .int .i64 n9, .slice A9 m9 c9] ty)) K Q else E := by
  refine step_appV hgd0 s x ho (W.heap.size + 2) hs (n := i) (xs := xs) (h.row_ hpr hk) hx rfl (cells_lit1 w1 ty _ _ _) (one3 _ _ _ _ _) hm (h.sz_ hk) ?_
  intro v' w2 hr2 hg2 hn2
  obtain ⟨A4, c4, rfl, _⟩ := row_slice hr2
  have N := h.next hi hpr (w0 := wr.drew) rfl ⟨rfl, rfl, rfl⟩ (by rw [hy]; exact hgd) (by rw [hy]; exact hbd) hk hrd hr2 hg2 hn2
  have e2 : (w2.setCell ⟨W.heap.size + 1, 2, none⟩ (.slice A4 (i + 1) c4)).cell? ⟨pr, 0, none⟩ = some sl := N.2.rd.cell 0
  have e3 : (w2.setCell ⟨W.heap.size + 1, 2, none⟩ (.slice A4 (i + 1) c4)).cell? q = some u := (World.cell?_of_block (w := W) (N.2.kept.block _ hql hqp)).trans hq
  refine hK A4 c4 w2 (N.1.cell 2) (N.1.frozen 2) ?_ ?_ e2 e3 N.2
  · exact (World.cell?_of_block (w := w2.setCell ⟨W.heap.size + 1, 2, none⟩ (.slice A4 (i + 1) c4)) (w' := w2) (a := ⟨pr, 0, none⟩) (Below.heap_setCell w2 ⟨W.heap.size + 1, 2, none⟩ _ pr (by dsimp only; omega)).symm).trans e2
  · exact (World.cell?_of_block (w := w2.setCell ⟨W.heap.size + 1, 2, none⟩ (.slice A4 (i + 1) c4)) (w' := w2) (a := q) (Below.heap_setCell w2 ⟨W.heap.size + 1, 2, none⟩ _ _ hqv).symm).trans e3
end
set_option maxHeartbeats 8000000 in
set_option maxRecDepth 100000 in
theorem rval_node (k pr B p : Nat) (ad : Addr) (n c : Nat) (ws : List Int) (m x l : Int) (w : World) (hb : Blk w pr 72 #[.slice (some ad) n c, .int .i64 m, .bool false]) (hi : Ints w B (some ad) n c ws) (hB : B ≤ pr) (h0 : 0 ≤ m) (h1 : ¬ m + 1 > 2048) (hl : (l == 0) = false) (hlk : l = k + 1) (hk : k ≤ 256) (hwx : (Lit.int .i64 x).wf = true) (hx : ¬ IntOk x) (hp : PlOk x) (hpe : plN x = p) (hp2 : p < n) (hn : n ≤ 1000000)
    (ho : OfOk (gw ws p)) (ho2 : ofT (gw ws p) < 32) (ho3 : ofS (gw ws p) ≤ 8) (ho4 : p + ofS (gw ws p) < n)
    (ih : ∀ (y m d : Int) (W : World), (Lit.int .i64 y).wf = true → d = k → Blk W pr 72 #[.slice (some ad) n c, .int .i64 m, .bool false] → Ints W B (some ad) n c ws → 0 ≤ m → m ≤ 2048 →
      Calls Try.prog 39 #[.pointer (some ⟨pr, 0, none⟩), .int .i64 y, .int .i64 d] W (RvP (readF ws k y (2048 - m)) pr (.slice (some ad) n c) W)) :
    Calls Try.prog 39 #[.pointer (some ⟨pr, 0, none⟩), .int .i64 x, .int .i64 l] w (RvP (nodeR (ofT (gw ws p)) (kidsF (readF ws k) ((ws.drop (p + 1)).take (ofS (gw ws p))) (2048 - (m + 1)))) pr (.slice (some ad) n c) w) := by
  have q1 : IntKind.i64.wrap (m + 1) = m + 1 := IntWalk.i64_in _ (by omega)
  have q3 : IntKind.i64.wrap (l - 1) = l - 1 := IntWalk.i64_in _ (by omega)
  have hti := toV_no hx
  have hw := hid hwx
  have hpl := plV_yes hp
  rw [hpe] at hpl
  have hq := hi.cell hp2
  have hab : ad.block < B := by
    rcases hi.at_ with h0 | ⟨a, e1, e2, _⟩
    · omega
    · injection e1 with e1
      subst e1
      exact e2
  have hbk : (ad.add p).block ≠ pr := by have := add_block ad p; omega
  have hlb : (ad.add p).block < w.heap.size := by have := add_block ad p; have := hb.lt; omega
  have x0 : ∀ o, ((w.setCell ⟨pr, 1, none⟩ (.int .i64 (m + 1))).alloc o).cell? (ad.add p) = some (.int .i64 (gw ws p)) := fun o =>
    (World.cell?_of_block (w := w) ((Below.heap_alloc _ _ _ (by simpa using hlb)).trans (Below.heap_setCell _ ⟨pr, 1, none⟩ _ _ hbk))).trans hq
  have hwh := hid (hi.wf_at hp2)
  have hof := ofV_yes ho
  have hil := hid hi.len
  have HH := hid (And.intro hi (And.intro hB (And.intro hlk (And.intro hk (And.intro ih hab)))))
  obtain ⟨s, hs⟩ : ∃ s, s = ofS (gw ws p) := ⟨_, rfl⟩
  rw [← hs] at hof ho3 ho4 ⊢
  obtain ⟨tg, htg⟩ : ∃ tg, tg = ofT (gw ws p) := ⟨_, rfl⟩
  rw [← htg] at hof ho2 ⊢
  clear hx hwx hi hp hpe hq hbk hlb ho hs htg hB hlk hk ih hab
  have gp : ¬ ((p : Nat) : Int) ≥ n := by omega
  have g1 : ¬ ((tg : Nat) : Int) > 31 := by omega
  have g2 : ¬ ((s : Nat) : Int) > 8 := by omega
  have q2 : IntKind.i64.wrap ((p : Int) + (s : Nat)) = p + (s : Nat) := IntWalk.i64_in _ (by omega)
  have g3 : ¬ (p : Int) + (s : Nat) ≥ n := by omega
  have y0 : ∀ o, (w.alloc o).cell? ⟨pr, 0, none⟩ = some (.slice (some ad) n c) := fun o => (hb.alloc o).cell 0
  have y1 : ∀ o, (w.alloc o).cell? ⟨pr, 1, none⟩ = some (.int .i64 m) := fun o => (hb.alloc o).cell 1
  have y2 : ∀ o, (w.alloc o).cell? ⟨pr, 2, none⟩ = some (.bool false) := fun o => (hb.alloc o).cell 2
  have f1 : ∀ o, (w.alloc o).frozen? ⟨pr, 1, none⟩ = false := fun o => (hb.alloc o).frozen 1
  have f2 : ∀ o, (w.alloc o).frozen? ⟨pr, 2, none⟩ = false := fun o => (hb.alloc o).frozen 2
  have ya : w.cell? ⟨pr, 0, none⟩ = some (.slice (some ad) n c) := hb.cell 0
  have yb : w.cell? ⟨pr, 1, none⟩ = some (.int .i64 m) := hb.cell 1
  have yc : w.cell? ⟨pr, 2, none⟩ = some (.bool false) := hb.cell 2
  have fb : w.frozen? ⟨pr, 1, none⟩ = false := hb.frozen 1
  have fc : w.frozen? ⟨pr, 2, none⟩ = false := hb.frozen 2
  have hlt := hb.lt
  have hne : pr ≠ w.heap.size := by omega
  have hne' : w.heap.size ≠ pr := by omega
  have HB := hid hb
  have hnot : ∀ (x : Bool) (w : World), (Op.unary .not (.bool x)).run Try.prog w = .ok (.bool (!x)) w := fun _ _ => rfl
  clear hb
  go_enter Try.func39, Try.ntmps39
  go_wp2_with (first | (go_at_call 20; go_must (refine (ref27_ToIntV _ _).mono ?_); rw [hti]; rintro e w' ⟨rfl, rfl⟩) | (go_at_call 22; go_must (refine (ref27_Place _ hw.out _).mono ?_); rw [hpl]; rintro e w' ⟨rfl, rfl⟩) | (go_at_call 24; go_must (refine (ref27_Of _ hwh.out _).mono ?_); rw [hof]; rintro e w' ⟨rfl, rfl⟩))
  have R0 := hid (VInv.start (readF ws k) ((ws.drop (p + 1)).take s) (tg : Int) (m + 1) HB.out (by omega))
  clear x0 y0 y1 y2 f1 f2 ya yb yc fb fc
  go_loopg [15] s (fun g x wr => ∃ (i : Nat) (bd : Bool) (m' : Int) (A' : Option Addr) (c' : Nat) (xs : List Value), i + g = s ∧ x = .int .i64 (i + 1 : Nat) ∧ Hid (VInv (readF ws k) ((ws.drop (p + 1)).take s) (2048 - (m + 1)) pr (.slice (some ad) n c) tg w i bd m' (.slice A' i c') xs wr))
  case atStart => exact ⟨0, false, m + 1, none, 0, [], by omega, rfl, R0⟩
  case round =>
    obtain ⟨i, bd, m', A', c', xs, hi, rfl, hr⟩ := hrel
    have Hi := hid hi
    by_cases hlt2 : i < s
    · have hlt' : (i : Int) + 1 ≤ s := by omega
      obtain ⟨hkl, hke⟩ := kids_get hlt2 (by rw [← hil.out]; exact ho4)
      have q4 : IntKind.i64.wrap ((p : Int) + ((i : Int) + 1)) = ((p + 1 + i : Nat) : Int) := by rw [IntWalk.i64_in _ (by omega)]; omega
      have hbd0 : (0 : Int) ≤ ((p + 1 + i : Nat) : Int) ∧ ((p + 1 + i : Nat) : Int) < n := by omega
      have hqy := HH.out.1.cell (i := p + 1 + i) (by omega)
      have hwy := hid (HH.out.1.wf_at (i := p + 1 + i) (by omega))
      have habk := add_block ad (p + 1 + i)
      have hab := HH.out.2.2.2.2.2
      have hBp := HH.out.2.1
      have hal : (ad.add (p + 1 + i)).block < w.heap.size := by omega
      have hap : ¬ ((ad.add (p + 1 + i)).block = pr) := by omega
      have hav : (ad.add (p + 1 + i)).block ≠ w.heap.size + 1 := by omega
      have hpv : pr ≠ w.heap.size + 1 := by omega
      have hnp : ¬ (w.heap.size + 1 = pr) := by omega
      have hi1m : i + 1 ≤ 1000000 := by omega
      have hdd : l - 1 = (k : Int) := by have := HH.out.2.2.1; omega
      have hfk : ((ws.drop (p + 1)).take s)[i] = gw ws (p + 1 + i) := hke
      clear hi hke hab hBp habk
      generalize gw ws (p + 1 + i) = y at *
      have z0 : wr.drew.cell? (ad.add (p + 1 + i)) = some (.int .i64 y) := (World.cell?_of_block (w := w) (w' := wr.drew) (hr.out.kept.block _ hal hap)).trans hqy
      have a0 : wr.drew.cell? ⟨pr, 0, none⟩ = some (.slice (some ad) n c) := hr.out.rd.cell 0
      have x2 : wr.cell? ⟨w.heap.size + 1, 2, none⟩ = some (.slice A' i c') := hr.out.vb.cell 2
      have x2d : wr.drew.cell? ⟨w.heap.size + 1, 2, none⟩ = some (.slice A' i c') := x2
      have hkd : Kept (fun b => b = pr) w wr.drew := hr.out.kept.drew
      have hB0 := HH.out.2.1
      have HI0 : Ints wr.drew B (some ad) n c ws := HH.out.1.keep (Nat.le_refl _) (fun q hq => World.cell?_of_block (w := w) (hkd.block q.block (by omega) (by omega)))
      have hm0 : bd = false → 0 ≤ m' ∧ m' ≤ 2048 := fun h => by obtain ⟨l9, us9, e1, _, e2, e3, _⟩ := hr.out.good h; omega
      have C := hid (rv_call (f := readF ws k) (y := y) (d := l - 1) (m := m') (bd := bd) (W := wr.drew) (show Blk wr.drew pr _ _ from hr.out.rd) hm0 (fun y l t l' h => readF_left ws k y l t l' h) (fun hb => HH.out.2.2.2.2.1 y m' (l - 1) wr.drew hwy.out hdd (by have := hr.out.rd; rw [hb] at this; exact this) HI0 (hm0 hb).1 (hm0 hb).2))
      have HK := hid (And.intro hkl (And.intro hfk (And.intro hi1m (And.intro hal (And.intro hap hav)))))
      have hqy0 := hid hqy
      clear hkd hB0 HI0 hm0 hdd hfk hi1m hqy hav hpv
      have q7 : (0 : Int) ≤ (p : Int) + 1 + i ∧ (p : Int) + 1 + i < n := by omega
      have q8 : ((p : Int) + 1 + i).toNat = p + 1 + i := by omega
      go_wp2
      go_region_law (first
        | (refine step_val hr.out HK.out.1 hlt HK.out.2.1 hgd hbd k1 hrd HK.out.2.2.1 hqy0.out HK.out.2.2.2.1 HK.out.2.2.2.2.1 HK.out.2.2.2.2.2 (by rfl) _ _ (by rfl) (by rfl) (by rfl) ?_; intro A4 c4 w2 u0 u1 u2 u3 e2 e3 N)
        | (go_simp; go_at_call 39; refine C.out.mono ?_; rintro e w1 ⟨k1, b9, n9, A9, m9, c9, bd', m2, rfl, hrd, hgd, hbd⟩; have t0 : w1.cell? ⟨w.heap.size + 1, 2, none⟩ = some (.slice A' i c') := (World.cell?_of_block (w := wr) (k1.block (w.heap.size + 1) hr.out.vb.lt hnp)).trans x2; have t1 : ∀ o, (w1.alloc o).cell? ⟨w.heap.size + 1, 2, none⟩ = some (.slice A' i c') := fun o => (World.cell?_of_block (w := w1) (Below.heap_alloc _ _ _ (hr.out.lt_ k1))).trans t0; have t2 : w1.cell? ⟨pr, 0, none⟩ = some (.slice (some ad) n c) := hrd.cell 0; have t3 : w1.cell? (ad.add (p + 1 + i)) = some (.int .i64 y) := (World.cell?_of_block (w := wr.drew) (k1.block _ (Nat.lt_of_lt_of_le hal hr.out.kept.size) hap)).trans z0; have t4 : ∀ o, (w1.alloc o).cell? ⟨pr, 0, none⟩ = some (.slice (some ad) n c) := fun o => (hrd.alloc o).cell 0; have t5 : ∀ o, (w1.alloc o).cell? (ad.add (p + 1 + i)) = some (.int .i64 y) := fun o => (World.cell?_of_block (w := w1) (Below.heap_alloc _ _ _ (Nat.lt_of_lt_of_le (Nat.lt_of_lt_of_le hal hr.out.kept.size) k1.size))).trans t3))
      all_goals
        go_wp2
        have hgk := Hi.out
        go_roundg (gk - 1)
        case rel => exact ⟨i + 1, bd', m2, A4, c4, _, by omega, rfl, hid N⟩
        case measure => omega
    · obtain rfl : i = s := by omega
      clear hi
      have x0 : wr.cell? ⟨w.heap.size + 1, 0, none⟩ = some (.bool false) := hr.out.vb.cell 0
      have x1 : wr.cell? ⟨w.heap.size + 1, 1, none⟩ = some (.int .i64 tg) := hr.out.vb.cell 1
      have x2 : wr.cell? ⟨w.heap.size + 1, 2, none⟩ = some (.slice A' i c') := hr.out.vb.cell 2
      have o0 : wr.cell? ⟨w.heap.size, 0, none⟩ = some (.bool false) := hr.out.rb.cell 0
      have o1 : wr.cell? ⟨w.heap.size, 1, none⟩ = some (.int .i64 0) := hr.out.rb.cell 1
      have o2 : wr.cell? ⟨w.heap.size, 2, none⟩ = some (.slice none 0 0) := hr.out.rb.cell 2
      have g0 := hr.out.rb.frozen 0
      have g1' := hr.out.rb.frozen 1
      have g2' := hr.out.rb.frozen 2
      go_wp2
      have hsame : ∀ g, g ≠ w.heap.size → (((wr.setCell ⟨w.heap.size, 0, none⟩ (.bool false)).setCell ⟨w.heap.size, 1, none⟩ (.int .i64 tg)).setCell ⟨w.heap.size, 2, none⟩ (.slice A' i c')).heap[g]? = wr.heap[g]? := fun g h1 =>
        (Below.heap_setCell _ ⟨w.heap.size, 2, none⟩ _ g h1).trans ((Below.heap_setCell _ ⟨w.heap.size, 1, none⟩ _ g h1).trans (Below.heap_setCell _ ⟨w.heap.size, 0, none⟩ _ g h1))
      have hkp : Kept (fun b => b = pr) w (((wr.setCell ⟨w.heap.size, 0, none⟩ (.bool false)).setCell ⟨w.heap.size, 1, none⟩ (.int .i64 tg)).setCell ⟨w.heap.size, 2, none⟩ (.slice A' i c')) :=
        ((hr.out.kept.setCell (p := ⟨w.heap.size, 0, none⟩) (.inr (Nat.le_refl _)) _).setCell (p := ⟨w.heap.size, 1, none⟩) (.inr (Nat.le_refl _)) _).setCell (p := ⟨w.heap.size, 2, none⟩) (.inr (Nat.le_refl _)) _
      have r0 : Blk (((wr.setCell ⟨w.heap.size, 0, none⟩ (.bool false)).setCell ⟨w.heap.size, 1, none⟩ (.int .i64 tg)).setCell ⟨w.heap.size, 2, none⟩ (.slice A' i c')) w.heap.size 33 #[.bool false, .int .i64 tg, .slice A' i c'] :=
        (((hr.out.rb.set_ 0 (.bool false)).set_ 1 (.int .i64 tg)).set_ 2 (.slice A' i c') : Blk _ _ _ _)
      revert hsame hkp r0
      generalize (((wr.setCell ⟨w.heap.size, 0, none⟩ (.bool false)).setCell ⟨w.heap.size, 1, none⟩ (.int .i64 tg)).setCell ⟨w.heap.size, 2, none⟩ (.slice A' i c')) = Wf
      intro hsame hkp R
      have z0 : Wf.cell? ⟨w.heap.size, 0, none⟩ = some (.bool false) := R.cell 0
      have z1 : Wf.cell? ⟨w.heap.size, 1, none⟩ = some (.int .i64 tg) := R.cell 1
      have z2 : Wf.cell? ⟨w.heap.size, 2, none⟩ = some (.slice A' i c') := R.cell 2
      have hrd : Blk Wf pr 72 #[.slice (some ad) n c, .int .i64 m', .bool bd] := (hsame _ (by omega)).trans hr.out.rd
      refine bodyPost_ret (v := .agg #[.bool false, .int .i64 tg, .slice A' i c']) (by simp [results, Try.results39, go_sem, z0, z1, z2]) rfl ⟨hkp, _, _, _, _, _, rfl, ?_⟩
      cases hbd : bd with
      | true =>
        rw [hr.out.bad hbd]
        rw [hbd] at hrd
        exact ⟨m', hrd⟩
      | false =>
        obtain ⟨lf, us, hm9, hul, hl2, hl3, hkids, hkf⟩ := hr.out.good hbd
        rw [show ((ws.drop (p + 1)).take i).drop i = [] from List.drop_eq_nil_of_le (by rw [List.length_take]; omega), kidsF] at hkf
        simp only [List.append_nil] at hkf
        rw [hkf]
        rw [hbd, hm9] at hrd
        have hrow : Wf.ownsRow (w.heap.size + 2) 33 3 (.slice A' i c') i xs := row_keep hr.out.row (fun g hg => hsame g (by have := hr.out.row.lt g hg; omega))
        obtain ⟨A5, c5, e5, m1, m2, m3, m4⟩ := row_slice hrow
        injection e5 with e6 _ e7
        subst e6 e7
        refine ⟨?_, hrd⟩
        rw [VAtS]
        refine ⟨⟨A', c', by rw [hul], by omega, m2, fun h => ⟨List.length_eq_zero_iff.1 (by have := (m3 h).1; omega), (m3 h).2⟩, ?_⟩, wf_word_ (by omega)⟩
        cases hA : A' with
        | none =>
          have : us = [] := List.length_eq_zero_iff.1 (by have := (m3 hA).1; omega)
          rw [this, RowS]; trivial
        | some a =>
          subst hA
          have hab := hrow.lt a.block rfl
          obtain ⟨h1, h2⟩ := m4 a rfl
          have ha : a = ⟨a.block, 0, none⟩ := by obtain ⟨x, y, z⟩ := a; simp_all
          have hcell : ∀ j u, xs[j]? = some u → Wf.cell? (a.add j) = some u := by rw [ha]; exact hrow.cells (g := a.block) rfl
          refine RowS.mk (by omega) us 0 (fun j hj => ?_)
          rw [Nat.zero_add]
          obtain ⟨u0, u1, u2, e0, e1, e2, hv⟩ := hkids j hj
          refine ⟨u0, u1, u2, hcell _ _ e0, ?_, ?_, ?_⟩
          · rw [add_three' _ _ _ (by omega)]; exact hcell _ _ e1
          · rw [add_three' _ _ _ (by omega)]; exact hcell _ _ e2
          · exact hv.keep (fun g hg => hsame g (by omega)) (fun g hg _ => by omega)
theorem ref27_val (pr B : Nat) (A : Option Addr) (n c : Nat) (ws : List Int) (hB : B ≤ pr) (hn : n ≤ 1000000) : ∀ (k : Nat), k ≤ 256 → ∀ (x m d : Int) (W : World), (Lit.int .i64 x).wf = true → d = k → Blk W pr 72 #[.slice A n c, .int .i64 m, .bool false] → Ints W B A n c ws → 0 ≤ m → m ≤ 2048 →
      Calls Try.prog 39 #[.pointer (some ⟨pr, 0, none⟩), .int .i64 x, .int .i64 d] W (RvP (readF ws k x (2048 - m)) pr (.slice A n c) W) := by
  intro k
  induction k with
  | zero =>
    intro _ x m d W hx hd hb hi h0 h1
    rw [readF]
    exact rval_over pr A n c m x d W hb h0 h1 (.inl (by omega))
  | succ k ih =>
    intro hk x m d W hx hd hb hi h0 h1
    have hlen := hi.len
    have hdl : (d == 0) = false := by simp; omega
    rw [readF_succ]
    by_cases hl : 2048 - m - 1 < 0
    · rw [if_pos hl]
      exact rval_over pr A n c m x d W hb h0 h1 (.inr ⟨hdl, by omega⟩)
    · rw [if_neg hl]
      have em : (2048 : Int) - m - 1 = 2048 - (m + 1) := by omega
      rw [em]
      by_cases hio : IntOk x
      · rw [if_pos hio]
        exact rval_int pr A n c m x d W hb h0 (by omega) hdl hio
      · rw [if_neg hio]
        by_cases hp : PlOk x ∧ plN x < n
        · obtain ⟨ad, rfl⟩ := hi.some_ hp.2
          by_cases ho : OfOk (gw ws (plN x)) ∧ ofT (gw ws (plN x)) < 32 ∧ ofS (gw ws (plN x)) ≤ 8 ∧ plN x + ofS (gw ws (plN x)) < n
          · rw [if_pos (show ObjOk ws x from ⟨⟨hp.1, by omega⟩, ho.1, ho.2.1, ho.2.2.1, by omega⟩)]
            exact rval_node k pr B (plN x) ad n c ws m x d W hb hi hB h0 (by omega) hdl (by omega) (by omega) hx hio hp.1 rfl hp.2 hn ho.1 ho.2.1 ho.2.2.1 ho.2.2.2
              (fun y m d W hy hd hb hi h0 h1 => ih (by omega) y m d W hy hd hb hi h0 h1)
          · rw [if_neg (show ¬ ObjOk ws x from fun h => ho ⟨h.2.1, h.2.2.1, h.2.2.2.1, by have := h.2.2.2.2; omega⟩)]
            exact rval_nohead pr B (plN x) ad n c ws m x d W hb hi hB h0 (by omega) hdl hx hio hp.1 rfl hp.2 hn (by
              by_cases a1 : OfOk (gw ws (plN x))
              · by_cases a2 : ofT (gw ws (plN x)) < 32
                · by_cases a3 : ofS (gw ws (plN x)) ≤ 8
                  · exact .inr (.inr (.inr ⟨a1, a2, a3, fun a4 => ho ⟨a1, a2, a3, a4⟩⟩))
                  · exact .inr (.inr (.inl ⟨a1, a2, a3⟩))
                · exact .inr (.inl ⟨a1, a2⟩)
              · exact .inl a1)
        · rw [if_neg (show ¬ ObjOk ws x from fun h => hp ⟨h.1.1, by have := h.1.2; omega⟩)]
          exact rval_noplace pr A n c m x d W hb h0 (by omega) hdl hx hio (by
            by_cases a1 : PlOk x
            · exact .inr ⟨a1, fun a2 => hp ⟨a1, a2⟩⟩
            · exact .inl a1)
end Go.Proofs.Ytgakmfcnddholaa
