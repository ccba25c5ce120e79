/-
  THE WALKS OF typ.first, ITS CLOSURE, AND First: is a type without functions?
-/
import Derived.Test.YtnlifgcnmhakiaaTPlainW
namespace Go.Proofs.Ytnlifgcnmhakiaa
open Go.ChangeShapes Go.WideShapes Go.ChangeAt Go.RowKit

structure FE (w : World) (ds : List Dc) (S : Nat → Prop) (lv : Value) (B : Nat) : Prop where
  dcs : DcsAt w S ds lv
  nS : ¬ S B
  hS : ∀ b, S b → b < w.heap.size
theorem FE.kept {w w' : World} {ds : List Dc} {S : Nat → Prop} {lv : Value} {B : Nat} (h : FE w ds S lv B) (hk : Kept (OnP B) w w') : FE w' ds S lv B := ⟨h.dcs.kept hk (onp_not h.nS), h.nS, fun b hb => Nat.lt_of_lt_of_le (h.hS b hb) hk.size⟩
theorem FE.up {w w' : World} {ds : List Dc} {S : Nat → Prop} {lv : Value} {B : Nat} (h : FE w ds S lv B) (hb : Below w.heap.size w w') : FE w' ds S lv B := h.kept (Kept.of_below hb _)
structure FB (w : World) (lv : Value) (gl gm B : Nat) : Prop where
  bl : Blk w gl 51 #[lv]
  bm : Blk w gm 87 #[.map (some B)]
  nl : gl ≠ B
  nm : gm ≠ B
theorem FB.kept {w w' : World} {lv : Value} {gl gm B : Nat} (h : FB w lv gl gm B) (hk : Kept (OnP B) w w') : FB w' lv gl gm B := ⟨h.bl.kept hk h.nl, h.bm.kept hk h.nm, h.nl, h.nm⟩
theorem FB.up {w w' : World} {lv : Value} {gl gm B : Nat} (h : FB w lv gl gm B) (hb : Below w.heap.size w w') : FB w' lv gl gm B := h.kept (Kept.of_below hb _)
def FiP (ds : List Dc) (B n k : Nat) (good : Prop) (ans : Bool → Ending → Prop) (w : World) (e : Ending) (w' : World) : Prop := ∃ b f', ans b e ∧ (b = true ↔ good) ∧ CM w' ds B f' (k + 2 * n) ∧ Kept (OnP B) w w'
def FirC (ds : List Dc) (S : Nat → Prop) (B N : Nat) : Prop :=
  ∀ (t : Ty) (f : ByteArray → Int) (k : Nat) (v lv : Value) (w : World), SizeOf.sizeOf t ≤ N → Short t → FE w ds S lv B → TAt w S t v → CM w ds B f k → k + 2 * nodes t ≤ 1000000 →
    Calls Try.prog 47 #[lv, v, .map (some B)] w (FiP ds B (nodes t) k (isFirst ds t) ansB w)
theorem CM.mono {w : World} {ds : List Dc} {B k k' : Nat} {f : ByteArray → Int} (h : CM w ds B f k) (hk : k ≤ k') : CM w ds B f k' := ⟨h.map.mono hk, h.val⟩
set_option maxHeartbeats 4000000 in
set_option maxRecDepth 100000 in
theorem fi_lit (ds : List Dc) (S : Nat → Prop) (B N : Nat) (ih : FirC ds S B N) (t : Ty) (f : ByteArray → Int) (k : Nat) (v lv : Value) (gl gm : Nat) (w : World) (hN : SizeOf.sizeOf t ≤ N) (hsh : Short t) (hE : FE w ds S lv B) (hF : FB w lv gl gm B) (hv : TAt w S t v) (hM : CM w ds B f k) (hk : k + 2 * nodes t ≤ 1000000) :
    Calls Try.prog 62 #[v, .pointer (some ⟨gl, 0, none⟩), .pointer (some ⟨gm, 0, none⟩)] w (FiP ds B (nodes t) k (¬ isFirst ds t) ansB w) := by
  have HV := hid hv
  obtain ⟨q, s, m, A, l, c, rfl⟩ := hv.agg
  have hb0 : Below w.heap.size w (w.alloc (.cells #[.int .i64 q, .string s, .int .i64 m, .slice A l c] 34)) := (Below.refl _ _).alloc (Nat.le_refl _) _
  have C := hid (ih t f k _ lv _ hN hsh (hE.up hb0) (HV.out.up hb0) (hM.below hb0) hk)
  have x0 := (hF.up hb0).bl.cell 0
  have x1 := (hF.up hb0).bm.cell 0
  obtain ⟨AD, cD, hlv, _⟩ := hE.dcs
  subst hlv
  clear hN hsh hE hF hv hM hk ih hb0
  go_enter Try.func62, Try.ntmps62
  go_wp2_with (go_at_call 47; go_must (refine C.out.mono ?_); rintro e w1 ⟨b, f1, hans, g1⟩; go_must (obtain rfl : e = .returned (.bool b) := hans; have G := hid g1; clear g1))
  go_ret
  exact ⟨!b, f1, rfl, by rw [← G.out.1]; cases b <;> simp, G.out.2.1, G.out.2.2.hop ((Kept.refl _ _).alloc _)⟩
set_option maxHeartbeats 8000000 in
set_option maxRecDepth 100000 in
theorem fi_index (ds : List Dc) (S : Nat → Prop) (B N : Nat) (ih : FirC ds S B N) (us : List Ty) (f : ByteArray → Int) (k : Nat) (A : Option Addr) (c : Nat) (lv : Value) (gl gm : Nat) (w : World) (hN : ∀ t ∈ us, SizeOf.sizeOf t ≤ N) (hsh : ∀ t ∈ us, Short t)
    (hE : FE w ds S lv B) (hF : FB w lv gl gm B) (hcm : us.length ≤ maxLen) (hrow : TRow w S us A 0) (hM : CM w ds B f k) (hk : k + 2 * nodesL us ≤ 1000000) :
    Calls Try.prog 71 #[.slice A us.length c, .func (.func 62) #[] #[.pointer (some ⟨gl, 0, none⟩), .pointer (some ⟨gm, 0, none⟩)]] w (FiP ds B (nodesL us) k (∃ t ∈ us, ¬ isFirst ds t) ansI w) := by
  have hL : us.length ≤ 9223372036854775807 := by unfold maxLen at hcm; omega
  have H := hid (And.intro hN (And.intro hsh (And.intro hE (And.intro hF (And.intro hrow (And.intro hM hk))))))
  have HI := hid ih
  have HN := hid (onp_not hE.nS)
  clear hN hsh hE hF hrow hM hk hcm ih
  go_enter Try.func71, Try.ntmps71
  go_wp2
  go_loopg [8] us.length (fun g x wr => ∃ (i : Nat) (fi : ByteArray → Int), i + g = us.length ∧ x = .int .i64 i ∧ Hid (CM wr ds B fi (k + 2 * nodesL (us.take i))) ∧ Hid (∀ t ∈ us.take i, isFirst ds t) ∧ Hid (Kept (OnP B) w wr))
  case atStart => exact ⟨0, f, by omega, rfl, hid (by simpa [nodesL] using H.out.2.2.2.2.2.1), hid (fun t ht => by simp at ht), hid (Kept.refl _ _)⟩
  case round =>
    obtain ⟨i, fi, hi, rfl, hM, hC, hK⟩ := hrel
    have Hi := hid hi
    by_cases hlt : i < us.length
    case neg =>
      obtain rfl : i = us.length := by omega
      clear hi
      go_wp2
      go_ret
      have h1 := hC.out
      have h2 := hM.out
      rw [List.take_length] at h1 h2
      exact ⟨false, fi, ⟨-1, rfl, rfl⟩, ⟨fun h => (by cases h), fun ⟨t, ht, hn⟩ => absurd (h1 t ht) hn⟩, h2, hK.out⟩
    have hlt' : (i : Int) < us.length := by omega
    obtain ⟨ad, q', s', n', A3, m', c3, hA, hSb, hab, y0, y1, y2, y3, hel⟩ := (H.out.2.2.2.2.1.kept hK.out HN.out).elem hlt
    subst hA
    have HLT := hid hlt
    have Hel := hid hel
    have hmem := hid (List.getElem_mem hlt)
    have htk := nodesL_take hlt
    have hsp := nodesL_split hlt
    generalize hu9 : us[i] = u at Hel hmem htk hsp
    have Hu := hid hu9
    have Q := hid (show k + 2 * nodesL (us.take i) + 2 * nodes u ≤ 1000000 by have h5 := H.out.2.2.2.2.2.2; omega)
    have HTK := hid htk
    have HSP := hid hsp
    clear hi hSb hab hel hu9 htk hsp
    go_wp2_with (go_at_call 62; go_must (refine (fi_lit ds S B N HI.out u fi _ _ lv gl gm wr (H.out.1 u hmem.out) (H.out.2.1 u hmem.out) (H.out.2.2.1.kept hK.out) (H.out.2.2.2.1.kept hK.out) Hel.out hM.out Q.out).mono ?_); rintro e w1 ⟨b, f1, hans, g1, g2, g3⟩; go_must (obtain rfl : e = .returned (.bool b) := hans; have G := hid (And.intro g1 (And.intro g2 g3)); clear g1 g2 g3))
    · go_ret
      have hbt : b = true := by first | assumption | (cases b <;> simp_all)
      exact ⟨true, f1, ⟨i, rfl, by simp⟩, ⟨fun _ => ⟨u, hmem.out, G.out.1.1 hbt⟩, fun _ => rfl⟩, G.out.2.1.mono (by have := HSP.out; omega), G.out.2.2.hop hK.out⟩
    · have hbf : b = false := by first | assumption | (cases b <;> simp_all)
      have hgk := Hi.out
      go_roundg (gk - 1)
      case rel => exact ⟨i + 1, f1, by omega, by go_num, hid (by rw [HTK.out]; exact G.out.2.1.mono (by omega)), hid (all_take hC.out HLT.out (of_get (P := isFirst ds) Hu.out (Classical.byContradiction fun hn => by have := G.out.1.2 hn; rw [hbf] at this; cases this))), hid (G.out.2.2.hop hK.out)⟩
      case measure => omega
set_option maxHeartbeats 4000000 in
set_option maxRecDepth 100000 in
theorem fi_has (ds : List Dc) (S : Nat → Prop) (B N : Nat) (ih : FirC ds S B N) (us : List Ty) (f : ByteArray → Int) (k : Nat) (A : Option Addr) (c : Nat) (lv : Value) (gl gm : Nat) (w : World) (hN : ∀ t ∈ us, SizeOf.sizeOf t ≤ N) (hsh : ∀ t ∈ us, Short t)
    (hE : FE w ds S lv B) (hF : FB w lv gl gm B) (hcm : us.length ≤ maxLen) (hrow : TRow w S us A 0) (hM : CM w ds B f k) (hk : k + 2 * nodesL us ≤ 1000000) :
    Calls Try.prog 61 #[.slice A us.length c, .func (.func 62) #[] #[.pointer (some ⟨gl, 0, none⟩), .pointer (some ⟨gm, 0, none⟩)]] w (FiP ds B (nodesL us) k (∃ t ∈ us, ¬ isFirst ds t) ansB w) := by
  have C := hid (fi_index ds S B N ih us f k A c lv gl gm w hN hsh hE hF hcm hrow hM hk)
  clear hN hsh hE hF hrow hM hk hcm ih
  go_enter Try.func61, Try.ntmps61
  go_wp2_with (go_at_call 71; go_must (refine C.out.mono ?_); rintro e w1 ⟨b, f1, ⟨i, rfl, hi⟩, g1⟩; go_must (have G := hid (And.intro hi g1); clear hi g1))
  go_ret
  refine ⟨b, f1, ?_, G.out.2⟩
  rw [← G.out.1]
  first | rfl | (unfold ansB; simp; done)
/-- The world behind first's boxes. -/
def FiW (w : World) (lv : Value) (cs : Array Value) (B : Nat) : World := ((w.alloc (.cells #[lv] 51)).alloc (.cells cs 34)).alloc (.cells #[.map (some B)] 87)
theorem FiW.below (w : World) (lv : Value) (cs : Array Value) (B : Nat) : Below w.heap.size w (FiW w lv cs B) := by unfold FiW; go_grown
theorem FiW.fb {w : World} (lv : Value) (cs : Array Value) (B : Nat) (hB : B < w.heap.size) : FB (FiW w lv cs B) lv w.heap.size (w.heap.size + 1 + 1) B := by
  unfold FiW
  exact ⟨((Blk.new _ _ _).alloc _).alloc _, Blk.new' (by simp) _ _, by omega, by omega⟩
theorem FiW.cells {w w1 : World} (lv a0 a1 a2 a3 : Value) (B : Nat) (hB : B < w.heap.size) (hk : Kept (OnP B) (FiW w lv #[a0, a1, a2, a3] B) w1) :
    w1.cell? ⟨w.heap.size, 0, none⟩ = some lv ∧ w1.cell? ⟨w.heap.size + 1, 1, none⟩ = some a1 ∧ w1.cell? ⟨w.heap.size + 1 + 1, 0, none⟩ = some (.map (some B)) := by
  have h1 := FiW.fb lv #[a0, a1, a2, a3] B hB
  have h2 : Blk (FiW w lv #[a0, a1, a2, a3] B) (w.heap.size + 1) 34 #[a0, a1, a2, a3] := by unfold FiW; exact (Blk.new' (by simp) _ _).alloc _
  exact ⟨(h1.bl.kept hk (fun e => by unfold OnP at e; omega)).cell 0, (h2.kept hk (fun e => by unfold OnP at e; omega)).cell 1, (h1.bm.kept hk (fun e => by unfold OnP at e; omega)).cell 0⟩
set_option maxHeartbeats 8000000 in
set_option maxRecDepth 100000 in
theorem fi_node (ds : List Dc) (S : Nat → Prop) (B N : Nat) (hlim : Lim ds) (hsd : ∀ d ∈ ds, ShortD d) (ih : FirC ds S B N) : FirC ds S B (N + 1) := by
  intro t f k v lv w hN hsh hE hv hM hk
  obtain ⟨q, s, m, us⟩ := t
  obtain ⟨A, c, rfl, hc, hcm, _, hrow, _⟩ := hv.parts
  obtain ⟨hs1, hs2⟩ := short_parts hsh
  have hnd : nodes (.mk q s m us) = 1 + nodesL us := by rw [nodes]
  rw [hnd] at hk ⊢
  have hBl := hM.map.lt
  obtain ⟨AD, cD, hlv, _⟩ := hE.dcs
  have H := hid (And.intro hE (And.intro hrow (And.intro hM (And.intro hs1 (And.intro hs2 (And.intro hBl (And.intro hk (And.intro hlim hsd))))))))
  have HM := hid (Nat.le_trans hc hcm)
  have HN := hid (show ∀ t ∈ us, SizeOf.sizeOf t ≤ N from fun t ht => by have := ty_lt (k := q) (n := m) (s := s) ht; omega)
  have HI := hid ih
  clear hE hrow hM hs1 hs2 hBl hk hlim hsd hv hsh hN hc hcm ih hnd
  subst hlv
  by_cases h1 : q = 1
  · have hf : isFirst ds (.mk q s m us) := by rw [isFirst]; exact .inl h1
    have HF := hid hf
    clear hf
    subst h1
    go_enter Try.func47, Try.ntmps47
    go_wp2
    go_ret
    exact ⟨true, f, rfl, by simp [HF.out], (H.out.2.2.1.below (by go_grown : Below w.heap.size w _)).mono (by omega), Kept.of_below (by go_grown : Below w.heap.size w _) _⟩
  by_cases h2 : q = 2
  · have hf : isFirst ds (.mk q s m us) := by rw [isFirst]; exact .inr (.inl h2)
    have HF := hid hf
    clear hf h1
    subst h2
    go_enter Try.func47, Try.ntmps47
    go_wp2
    go_ret
    exact ⟨true, f, rfl, by simp [HF.out], (H.out.2.2.1.below (by go_grown : Below w.heap.size w _)).mono (by omega), Kept.of_below (by go_grown : Below w.heap.size w _) _⟩
  have h1b : (q == 1) = false := by simpa using h1
  have h2b : (q == 2) = false := by simpa using h2
  by_cases h4 : q = 4
  case neg =>
    have hf : ¬ isFirst ds (.mk q s m us) := by rw [isFirst]; rintro (h | h | h); exact h1 h; exact h2 h; exact h4 h.1
    have h4b : (q == 4) = false := by simpa using h4
    have HF := hid hf
    clear h1 h2 h4 hf
    go_enter Try.func47, Try.ntmps47
    go_wp2
    go_ret
    exact ⟨false, f, rfl, by simp [HF.out], (H.out.2.2.1.below (by go_grown : Below w.heap.size w _)).mono (by omega), Kept.of_below (by go_grown : Below w.heap.size w _) _⟩
  subst h4
  clear h1 h2 h1b h2b
  have C := hid (show Calls Try.prog 61 #[.slice A us.length c, .func (.func 62) #[] #[.pointer (some ⟨w.heap.size, 0, none⟩), .pointer (some ⟨w.heap.size + 1 + 1, 0, none⟩)]] (FiW w (.slice AD ds.length cD) #[.int .i64 4, .string s, .int .i64 m, .slice A us.length c] B) (FiP ds B (nodesL us) k (∃ t ∈ us, ¬ isFirst ds t) ansB (FiW w (.slice AD ds.length cD) #[.int .i64 4, .string s, .int .i64 m, .slice A us.length c] B)) from
    fi_has ds S B N HI.out us f k A c _ w.heap.size (w.heap.size + 1 + 1) _ HN.out H.out.2.2.2.2.1 (H.out.1.up (FiW.below _ _ _ _)) (FiW.fb _ _ _ H.out.2.2.2.2.2.1) HM.out (H.out.2.1.up (FiW.below _ _ _ _)) (H.out.2.2.1.below (FiW.below _ _ _ _)) (by have := H.out.2.2.2.2.2.2.1; omega))
  unfold FiW at C
  go_enter Try.func47, Try.ntmps47
  go_wp2_with (first
    | (go_at_call 61; go_must (refine C.out.mono ?_); rintro e w1 ⟨b, f1, hans, g1, g2, g3⟩; go_must (obtain rfl : e = .returned (.bool b) := hans; have hK := Kept.hop (w := FiW w (.slice AD ds.length cD) #[.int .i64 4, .string s, .int .i64 m, .slice A us.length c] B) g3 (Kept.of_below (FiW.below _ _ _ _) _); have hz := FiW.cells (w := w) (.slice AD ds.length cD) (.int .i64 4) (.string s) (.int .i64 m) (.slice A us.length c) B H.out.2.2.2.2.2.1 g3; have z0 := hz.1; have z1 := hz.2.1; have z2 := hz.2.2; have G := hid (And.intro g1 (And.intro g2 hK)); clear g1 g2 g3 hK hz))
    | (go_at_call 63; go_must (refine (typ_plain ds S H.out.2.2.2.2.2.2.2.1 H.out.2.2.2.2.2.2.2.2 s f1 _ B _ w1 H.out.2.2.2.1 (H.out.1.kept G.out.2.2).dcs H.out.1.nS (H.out.1.kept G.out.2.2).hS G.out.2.1 (by have := H.out.2.2.2.2.2.2.1; omega)).mono ?_); rintro e w2 ⟨b2, f2, rfl, g1, g2, g3⟩; go_must (have G2 := hid (And.intro g1 (And.intro g2 (g3.hop G.out.2.2))); clear g1 g2 g3)))
  · go_ret
    have hbt : b = true := by cases b <;> simp_all
    obtain ⟨t, ht, hn⟩ := G.out.1.1 hbt
    refine ⟨false, f1, by first | rfl | (unfold ansB; simp; done), ⟨fun h => (by cases h), fun h => ?_⟩, G.out.2.1.mono (by omega), G.out.2.2⟩
    rw [isFirst] at h
    rcases h with h | h | h
    · omega
    · omega
    · exact absurd (h.2.1 t ht) hn
  · go_ret
    have hbf : b = false := by cases b <;> simp_all
    refine ⟨b2, f2, by first | rfl | (unfold ansB; simp; done), ?_, G2.out.2.1.mono (by omega), G2.out.2.2⟩
    rw [isFirst, G2.out.1]
    have hall : ∀ t ∈ us, isFirst ds t := fun t ht => Classical.byContradiction fun hn => by have := G.out.1.2 ⟨t, ht, hn⟩; rw [hbf] at this; cases this
    exact ⟨fun h => .inr (.inr ⟨rfl, hall, h⟩), fun h => by rcases h with h | h | h; omega; omega; exact h.2.2⟩
end Go.Proofs.Ytnlifgcnmhakiaa
