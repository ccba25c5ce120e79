/-
  THE WALKS OF eval.more AND OF the three shows.
-/
import Derived.Test.YtohdaclbgedeiaaESimP
namespace Go.Proofs.Ytohdaclbgedeiaa
set_option linter.all false
open Go.ChangeShapes Go.WideShapes Go.ChangeAt Go.RowKit
open Ev (Co Va En Out showV showL)
/-- What showing leaves. -/
def ShP (o : Out (List Int)) (B : Nat) (lv : Value) (w : World) (e : Ending) (w' : World) : Prop := w.grownBy w' lv.ownBlock ∧ match o with
  | .ok l => ∃ lv', e = .returned lv' ∧ OwnI w' B lv' l ∧ l.length ≤ 4096 ∧ (∀ g, lv'.ownBlock = some g → lv.ownBlock = some g ∨ w.heap.size ≤ g)
  | .stop k => e = .panicked [stopV k]
theorem grown_then {w w1 w2 : World} {r r1 : Option Nat} (h : w.grownBy w1 r) (h1 : w1.grownBy w2 r1) (hr : ∀ g, r1 = some g → r = some g ∨ w.heap.size ≤ g) : w.grownBy w2 r := by
  have hs := h.size
  refine ⟨h1.os.trans h.os, h1.tape.trans h.tape, h1.output.trans h.output, Nat.le_trans h.size h1.size, fun k hk hn => ?_⟩
  refine (h1.block k (by omega) (fun e => ?_)).trans (h.block k hk hn)
  rcases hr k e.symm with e | e
  · exact hn e.symm
  · omega
theorem grown_refl (w : World) (r : Option Nat) : w.grownBy w r := ⟨rfl, rfl, rfl, Nat.le_refl _, fun _ _ _ => rfl⟩
theorem grown_alloc (w : World) (o : Obj) (r : Option Nat) : w.grownBy (w.alloc o) r := ⟨rfl, rfl, rfl, by simp, fun k hk _ => Below.heap_alloc _ _ _ hk⟩
set_option maxHeartbeats 4000000 in
set_option maxRecDepth 100000 in
theorem eval_more (w : World) (B : Nat) (lv : Value) (l : List Int) (n : Int) (hB : B ≤ w.heap.size) (hn : (Lit.int .i64 n).wf = true) (ho : OwnI w B lv l) (hl : l.length ≤ 4096) : Calls Try.prog 92 #[lv, .int .i64 n] w (ShP (if l.length = 4096 then .stop 4 else .ok (l ++ [n])) B lv w) := by
  obtain ⟨A9, c9, hwv, hInts⟩ := ho.slice
  subst hwv
  by_cases h4 : l.length = 4096
  · rw [if_pos h4]
    have h4' : ((l.length : Int) == 4096) = true := by simp; omega
    clear h4 hInts ho
    go_enter Try.func92, Try.ntmps92
    go_wp2
    exact ⟨rfl, grown_refl _ _, rfl⟩
  · rw [if_neg h4]
    have h4' : ((l.length : Int) == 4096) = false := by simp; omega
    have HOW := hid (show w.ownsRow B 3 1 (.slice A9 l.length c9) l.length (l.map (Value.int .i64)) by have h := ho.own; unfold Own at h; simpa using h)
    have HH := hid (And.intro ho.wf (And.intro hn (And.intro h4 hB)))
    clear h4 hInts ho hn hB
    go_enter Try.func92, Try.ntmps92
    go_wp2_with (at_builtin; go_must (refine wpList_appN (by rfl) _ _ (by rfl) B (by rfl) (n := l.length) (World.ownsRow.alloc HOW.out _) (by rfl) ((Blk.new w _ #[.int .i64 n]).cell 0) (by rfl) (by omega) (by have := HH.out.2.2.2; simp; omega) ?_); intro lv2 w2 hr2 hg2 hn2; go_must (obtain ⟨A8, c8, rfl⟩ := row_sliceN hr2); have R := hid (And.intro hr2 (And.intro hg2 hn2)); clear hr2 hg2 hn2)
    go_ret
    obtain ⟨r1, r2, r3⟩ := R.out
    refine ⟨grown_then (grown_alloc _ _ _) r2 (fun g e => .inl e), _, rfl, ⟨by
      have e : (l ++ [n]).map (Value.int .i64) = l.map (Value.int .i64) ++ [.int .i64 n] := by simp
      unfold Own
      rw [e]
      have e2 : (l.map (Value.int .i64) ++ [Value.int .i64 n]).length = l.length + 1 := by simp
      rw [e2]
      exact r1, fun x hx => by
      rcases List.mem_append.1 hx with h9 | h9
      · exact HH.out.1 x h9
      · simp at h9; subst h9; exact HH.out.2.1⟩, by have := HH.out.2.2.1; simp; omega, fun g e => ?_⟩
    rcases r3 g e with h | h
    · exact .inl h
    · exact .inr (by simp at h; omega)
/-- A value shows itself. -/
def ShC (u : Va) : Prop := ∀ (S : Nat → Prop) (w : World) (v : Value) (B : Nat) (lv : Value) (l : List Int), B ≤ w.heap.size → VAt w S u v → (∀ k, S k → k < w.heap.size → lv.ownBlock ≠ some k) → OwnI w B lv l → l.length ≤ 4096 → (match u with
  | .num n => Calls Try.prog 93 #[.int .i64 n, lv] w (ShP (showV u l) B lv w)
  | .con _ _ => ∀ p, v = .iface 79 (.pointer p) → Calls Try.prog 91 #[.pointer p, lv] w (ShP (showV u l) B lv w)
  | .clo _ _ _ _ => ∀ p, v = .iface 103 (.pointer p) → Calls Try.prog 94 #[.pointer p, lv] w (ShP (showV u l) B lv w))
set_option maxHeartbeats 4000000 in
set_option maxRecDepth 100000 in
theorem shows_num (n : Int) : ShC (.num n) := by
  intro S w v B lv l hB hv hS ho hl
  rw [VAt] at hv
  obtain ⟨A9, c9, hwv, hInts⟩ := ho.slice
  subst hwv
  have C := hid (eval_more w B _ l n hB hv.2 ho hl)
  clear hInts ho hv hS hB
  show Calls Try.prog 93 #[.int .i64 n, .slice A9 l.length c9] w (ShP (showV (.num n) l) B (.slice A9 l.length c9) w)
  by_cases h4 : l.length = 4096
  · rw [showV, if_pos h4]
    rw [if_pos h4] at C
    clear h4 hl
    go_enter Try.func93, Try.ntmps93
    go_wp2_with (go_at_call 92; go_must (refine C.out.mono ?_); rintro e w1 ⟨g1, h9⟩; go_must (have h8 : e = .panicked [stopV 4] := h9; subst h8); have G := hid g1; clear g1 h9)
    exact ⟨rfl, G.out, rfl⟩
  · rw [showV, if_neg h4]
    rw [if_neg h4] at C
    clear h4 hl
    go_enter Try.func93, Try.ntmps93
    go_wp2_with (go_at_call 92; go_must (refine C.out.mono ?_); rintro e w1 ⟨g1, lv', h9, h8⟩; subst h9; have G := hid (And.intro g1 h8); clear g1 h8)
    go_ret
    exact ⟨G.out.1, _, rfl, G.out.2⟩
set_option maxHeartbeats 4000000 in
set_option maxRecDepth 100000 in
theorem shows_clo (x self : Int) (b : Co) (e : En) : ShC (.clo x self b e) := by
  intro S w v B lv l hB hv hS ho hl p hp
  clear hv hS ho hB hp
  rw [showV]
  go_enter Try.func94, Try.ntmps94
  go_wp2
  exact ⟨rfl, grown_refl _ _, rfl⟩
theorem showL_cons {u : Va} {us : List Va} {l : List Int} : showL (u :: us) l = match showV u l with
  | .ok l1 => showL us l1
  | .stop e => .stop e := by rw [showL]; rfl
/-- What holds at a round. -/
structure ShI (w : World) (B : Nat) (lv lvi : Value) (li : List Int) (wr : World) : Prop where
  own : OwnI wr B lvi li
  len : li.length ≤ 4096
  grown : w.grownBy wr lv.ownBlock
  new : ∀ g, lvi.ownBlock = some g → lv.ownBlock = some g ∨ w.heap.size ≤ g
theorem ShI.next {w : World} {B : Nat} {lv lvi : Value} {li : List Int} {wr w1 : World} {lv' : Value} {l' : List Int} (h : ShI w B lv lvi li wr) (hg : wr.grownBy w1 lvi.ownBlock) (ho : OwnI w1 B lv' l') (hl : l'.length ≤ 4096) (hn : ∀ g, lv'.ownBlock = some g → lvi.ownBlock = some g ∨ wr.heap.size ≤ g) : ShI w B lv lv' l' w1 := by
  refine ⟨ho, hl, grown_then h.grown hg h.new, fun g e => ?_⟩
  rcases hn g e with e | e
  · exact h.new g e
  · exact .inr (Nat.le_trans h.grown.size e)
set_option maxHeartbeats 8000000 in
set_option maxRecDepth 100000 in
theorem shows_con (t : Int) (us : List Va) (ih : ∀ u ∈ us, ShC u) : ShC (.con t us) := by
  intro S w v B lv l hB hv hS ho hl p hp
  rw [VAt] at hv
  obtain ⟨⟨g, A, c, hv, hSg, hb, hrow⟩, hwt, hul⟩ := hv
  rw [hv] at hp
  simp only [Value.iface.injEq, Value.pointer.injEq, true_and] at hp
  subst hp hv
  have C := hid (eval_more w B _ l t hB hwt ho hl)
  have c0 : w.cell? ⟨g, 0, none⟩ = some (.int .i64 t) := hb.cell 0
  have c1 : w.cell? ⟨g, 1, none⟩ = some (.slice A us.length c) := hb.cell 1
  have HR := hid (And.intro hrow (And.intro hS (And.intro ih (And.intro hB hl))))
  have hgl := hb.lt
  have hgn := hS g hSg hgl
  have HOL := hid ho
  clear hrow hS ih hB hl ho hSg hwt hb
  by_cases h4 : l.length = 4096
  · rw [showV, if_pos h4]
    rw [if_pos h4] at C
    clear h4
    go_enter Try.func91, Try.ntmps91
    go_wp2_with (go_at_call 92; go_must (refine C.out.mono ?_); rintro e w1 ⟨g1, h9⟩; go_must (have h8 : e = .panicked [stopV 4] := h9; subst h8); have G := hid g1; clear g1 h9)
    exact ⟨rfl, G.out, rfl⟩
  rw [showV, if_neg h4]
  rw [if_neg h4] at C
  clear h4
  go_enter Try.func91, Try.ntmps91
  go_wp2_with (go_at_call 92; go_must (refine C.out.mono ?_); rintro e w1 ⟨g1, lv', h9, h8⟩; subst h9; have d1 : w1.cell? ⟨g, 1, none⟩ = some (.slice A us.length c) := cell_of (g1.block g hgl (fun e => hgn e.symm)) rfl c1; have G := hid (And.intro g1 h8); clear g1 h8)
  have HI := hid (show ShI w B lv lv' (l ++ [t]) w1 from ⟨G.out.2.1, G.out.2.2.1, G.out.1, G.out.2.2.2⟩)
  go_loopg [1, 18] us.length (fun gg z1 z18 wr => ∃ (j : Nat) (lvi : Value) (li : List Int), j + gg = us.length ∧ z18 = .int .i64 j ∧ lvi = z1 ∧ Hid (ShI w B lv lvi li wr) ∧ Hid (showL (us.drop j) li = showL us (l ++ [t])))
  case atStart => exact ⟨0, lv', l ++ [t], by omega, rfl, rfl, HI, hid rfl⟩
  case round =>
    obtain ⟨j, lvi, li, hj, rfl, hz9, hI, hE⟩ := hrel
    subst hz9
    have Hj := hid hj
    by_cases hlt : j < us.length
    case neg =>
      obtain rfl : j = us.length := by omega
      have hE1 := hE.out
      rw [List.drop_length, showL] at hE1
      clear hj
      go_wp2
      go_ret
      rw [← hE1]
      exact ⟨hI.out.grown, _, rfl, hI.out.own, hI.out.len, hI.out.new⟩
    have hlt' : (j : Int) < us.length := by omega
    have HLT := hid hlt
    have hdr : us.drop j = us[j]'hlt :: us.drop (j + 1) := List.drop_eq_getElem_cons hlt
    have hE1 := hE.out
    rw [hdr, showL_cons] at hE1
    obtain ⟨ad, vv, hA, hSa, hcell, hvv⟩ := HR.out.1.get hlt
    subst hA
    have eb := add_block ad (0 + j)
    have hSl : ad.block < w.heap.size := by have := cell_lt hcell; omega
    have hkeep : ∀ k, S k → k < w.heap.size → wr.heap[k]? = w.heap[k]? := fun k hk hl => hI.out.grown.block k hl (fun e => HR.out.2.1 k hk hl e.symm)
    have d5 : wr.cell? (ad.add j) = some vv := by rw [Nat.zero_add] at hcell eb; exact cell_of (hkeep _ hSa hSl) eb hcell
    have hvv2 : VAt wr (fun k => S k ∧ k < w.heap.size) (us[j]'hlt) vv := VAt.keep (fun k hk hl => ⟨hkeep k hk hl, hk, hl⟩) _ _ hvv
    have hdis : ∀ k, (S k ∧ k < w.heap.size) → k < wr.heap.size → lvi.ownBlock ≠ some k := fun k hk _ e => by
      rcases hI.out.new k e with e | e
      · exact HR.out.2.1 k hk.1 hk.2 e
      · omega
    have hCu := HR.out.2.2.1 _ (List.getElem_mem hlt) _ wr vv B lvi li (Nat.le_trans HR.out.2.2.2.1 hI.out.grown.size) hvv2 hdis hI.out.own hI.out.len
    obtain ⟨u, hu⟩ : ∃ u, u = us[j]'hlt := ⟨_, rfl⟩
    rw [← hu] at hE1 hvv2 hCu
    clear hu hdr hcell hvv hdis hSa hSl hkeep eb hj hlt
    cases hs : showV u li with
    | ok l2 =>
      rw [hs] at hE1 hCu
      have HE1 := hid (show showL (us.drop (j + 1)) l2 = showL us (l ++ [t]) from hE1)
      clear hE1
      cases u with
      | num n =>
        rw [VAt] at hvv2
        obtain ⟨rfl, _⟩ := hvv2
        have CU := hid (show Calls Try.prog 93 #[.int .i64 n, lvi] wr (ShP (.ok l2) B lvi wr) by have h := hCu; simp only [hs] at h; exact h)
        clear hCu hs
        go_wp2_with (go_at_call 93; go_must (refine CU.out.mono ?_); rintro e w2 ⟨g2, lv2, h9, h8⟩; subst h9; have G2 := hid (And.intro g2 h8); clear g2 h8)
        have hgk := Hj.out
        have hlt9 := HLT.out
        go_roundg (gk - 1)
        case rel => exact ⟨j + 1, lv2, l2, by omega, by go_num, rfl, hid (hI.out.next G2.out.1 G2.out.2.1 G2.out.2.2.1 G2.out.2.2.2), hid HE1.out⟩
        case measure => omega
      | con t2 us2 =>
        rw [VAt] at hvv2
        obtain ⟨⟨p2, A2, c2, rfl, _⟩, _⟩ := hvv2
        have CU := hid (show Calls Try.prog 91 #[.pointer (some ⟨p2, 0, none⟩), lvi] wr (ShP (.ok l2) B lvi wr) by have h := hCu _ rfl; exact h)
        clear hCu hs
        go_wp2_with (go_at_call 91; go_must (refine CU.out.mono ?_); rintro e w2 ⟨g2, lv2, h9, h8⟩; subst h9; have G2 := hid (And.intro g2 h8); clear g2 h8)
        have hgk := Hj.out
        have hlt9 := HLT.out
        go_roundg (gk - 1)
        case rel => exact ⟨j + 1, lv2, l2, by omega, by go_num, rfl, hid (hI.out.next G2.out.1 G2.out.2.1 G2.out.2.2.1 G2.out.2.2.2), hid HE1.out⟩
        case measure => omega
      | clo x2 s2 b2 e2 => rw [showV] at hs; cases hs
    | stop k =>
      rw [hs] at hE1 hCu
      have HE1 := hid (show Out.stop k = showL us (l ++ [t]) from hE1)
      clear hE1
      cases u with
      | num n =>
        rw [VAt] at hvv2
        obtain ⟨rfl, _⟩ := hvv2
        have CU := hid (show Calls Try.prog 93 #[.int .i64 n, lvi] wr (ShP (.stop k) B lvi wr) by have h := hCu; simp only [hs] at h; exact h)
        clear hCu hs
        go_wp2_with (go_at_call 93; go_must (refine CU.out.mono ?_); rintro e w2 ⟨g2, h9⟩; go_must (have h8 : e = .panicked [stopV k] := h9; subst h8); have G2 := hid g2; clear g2 h9)
        exact ⟨rfl, by rw [← HE1.out]; exact ⟨grown_then hI.out.grown G2.out hI.out.new, rfl⟩⟩
      | con t2 us2 =>
        rw [VAt] at hvv2
        obtain ⟨⟨p2, A2, c2, rfl, _⟩, _⟩ := hvv2
        have CU := hid (show Calls Try.prog 91 #[.pointer (some ⟨p2, 0, none⟩), lvi] wr (ShP (.stop k) B lvi wr) by have h := hCu _ rfl; exact h)
        clear hCu hs
        go_wp2_with (go_at_call 91; go_must (refine CU.out.mono ?_); rintro e w2 ⟨g2, h9⟩; go_must (have h8 : e = .panicked [stopV k] := h9; subst h8); have G2 := hid g2; clear g2 h9)
        exact ⟨rfl, by rw [← HE1.out]; exact ⟨grown_then hI.out.grown G2.out hI.out.new, rfl⟩⟩
      | clo x2 s2 b2 e2 =>
        rw [VAt] at hvv2
        obtain ⟨p2, bp2, ep2, rfl, _⟩ := hvv2
        have CU := hid (show Calls Try.prog 94 #[.pointer (some ⟨p2, 0, none⟩), lvi] wr (ShP (.stop k) B lvi wr) by have h := hCu _ rfl; exact h)
        clear hCu hs
        go_wp2_with (go_at_call 94; go_must (refine CU.out.mono ?_); rintro e w2 ⟨g2, h9⟩; go_must (have h8 : e = .panicked [stopV k] := h9; subst h8); have G2 := hid g2; clear g2 h9)
        exact ⟨rfl, by rw [← HE1.out]; exact ⟨grown_then hI.out.grown G2.out hI.out.new, rfl⟩⟩
/-- Every value shows itself. -/
theorem shows_all : ∀ (N : Nat) (u : Va), SizeOf.sizeOf u ≤ N → ShC u := by
  intro N
  induction N with
  | zero => intro u h; cases u <;> simp at h
  | succ N ih =>
    intro u h
    cases u with
    | num n => exact shows_num n
    | con t us => exact shows_con t us (fun u hu => ih u (by have := List.sizeOf_lt_of_mem hu; simp at h; omega))
    | clo x self b e => exact shows_clo x self b e
end Go.Proofs.Ytohdaclbgedeiaa
