/-
  THE WALKS OF typ.reaches AND ITS CLOSURES (under way).
-/
import Derived.Test.YtnlifgcnmhakiaaTMark
namespace Go.Proofs.Ytnlifgcnmhakiaa
open Go.ChangeShapes Go.WideShapes Go.ChangeAt Go.RowKit

/-- More than one declared type's fields have nodes. -/
def MB : Nat := 5000000
/-- The map's state: its values are counts, none above k. -/
structure MS (w : World) (B : Nat) (f : ByteArray → Int) (k : Nat) : Prop where
  map : MapAt w B f k
  val : ∀ s, 0 ≤ f s ∧ f s ≤ k
/-- What a closure finds. -/
structure RE (w : World) (ds : List Dc) (S : Nat → Prop) (lv : Value) (gl gm gi B : Nat) : Prop where
  dcs : DcsAt w S ds lv
  bl : Blk w gl 51 #[lv]
  bm : Blk w gm 87 #[.map (some B)]
  bi : Blk w gi 47 #[.func (.func 80) #[] #[.pointer (some ⟨gl, 0, none⟩), .pointer (some ⟨gm, 0, none⟩), .pointer (some ⟨gi, 0, none⟩)]]
  nS : ¬ S B
  nl : gl ≠ B
  nm : gm ≠ B
  ni : gi ≠ B
theorem onp_not {S : Nat → Prop} {B : Nat} (h : ¬ S B) : ∀ b, S b → ¬ OnP B b := fun b hb e => h (by unfold OnP at e; subst e; exact hb)
theorem RE.kept {w w' : World} {ds : List Dc} {S : Nat → Prop} {lv : Value} {gl gm gi B : Nat} (h : RE w ds S lv gl gm gi B) (hk : Kept (OnP B) w w') : RE w' ds S lv gl gm gi B :=
  ⟨h.dcs.kept hk (onp_not h.nS), h.bl.kept hk h.nl, h.bm.kept hk h.nm, h.bi.kept hk h.ni, h.nS, h.nl, h.nm, h.ni⟩
theorem RE.up {w w' : World} {ds : List Dc} {S : Nat → Prop} {lv : Value} {gl gm gi B : Nat} (h : RE w ds S lv gl gm gi B) (hb : Below w.heap.size w w') : RE w' ds S lv gl gm gi B := h.kept (Kept.of_below hb _)
theorem MS.below {w w' : World} {B k : Nat} {f : ByteArray → Int} (h : MS w B f k) (hb : Below w.heap.size w w') : MS w' B f k := ⟨h.map.below hb, h.val⟩
/-- What a search tells: it found a function, or what it went through is clean; and what it cost. -/
def RP (ds : List Dc) (B : Nat) (f : ByteArray → Int) (k cost : Nat) (bad : Prop) (clean : (Nat → Bool) → Prop) (ans : Bool → Ending → Prop) (w : World) (e : Ending) (w' : World) : Prop :=
  ∃ b f' k', ans b e ∧ MS w' B f' k' ∧ Kept (OnP B) w w' ∧ (b = true → bad) ∧
    (b = false → clean (vis ds f') ∧ Since ds (vis ds f) (vis ds f') ∧ k' + MB * left_ (vis ds f') ds.length ≤ k + cost + MB * left_ (vis ds f) ds.length)
def ansB (b : Bool) (e : Ending) : Prop := e = .returned (.bool b)
def ansI (b : Bool) (e : Ending) : Prop := ∃ i : Int, e = .returned (.int .i64 i) ∧ decide (0 ≤ i) = b
def InC (ds : List Dc) (S : Nat → Prop) (B N : Nat) : Prop :=
  ∀ (t : Ty) (f : ByteArray → Int) (k : Nat) (v lv : Value) (gl gm gi : Nat) (w : World), left_ (vis ds f) ds.length * 100000000 + nodes t ≤ N → nodes t ≤ 20000 → Short t → RE w ds S lv gl gm gi B → TAt w S t v → MS w B f k →
    k + nodes t + MB * left_ (vis ds f) ds.length ≤ 1000000000000 →
    Calls Try.prog 80 #[v, .pointer (some ⟨gl, 0, none⟩), .pointer (some ⟨gm, 0, none⟩), .pointer (some ⟨gi, 0, none⟩)] w (RP ds B f k (nodes t) (BadT ds t) (fun X => CleanT ds X t) ansB w)
def ReachC (ds : List Dc) (S : Nat → Prop) (B N : Nat) : Prop :=
  ∀ (s : ByteArray) (f : ByteArray → Int) (k : Nat) (lv : Value) (w : World), left_ (vis ds f) ds.length * 100000000 ≤ N → s.size ≤ maxLen → DcsAt w S ds lv → ¬ S B → MS w B f k → k + 1 + MB * left_ (vis ds f) ds.length ≤ 1000000000000 →
    Calls Try.prog 74 #[lv, .string s, .map (some B)] w (RP ds B f k 1 (Bad ds s) (fun X => idx ds s < ds.length → X (idx ds s) = true) ansB w)
set_option maxHeartbeats 8000000 in
set_option maxRecDepth 100000 in
theorem in_index (ds : List Dc) (S : Nat → Prop) (B N : Nat) (ih : InC ds S B N) (us : List Ty) (f : ByteArray → Int) (k : Nat) (A : Option Addr) (c : Nat) (lv : Value) (gl gm gi : Nat) (w : World) (hN : ∀ t ∈ us, left_ (vis ds f) ds.length * 100000000 + nodes t ≤ N) (hn : nodesL us ≤ 20000) (hsh : ∀ t ∈ us, Short t)
    (hE : RE w ds S lv gl gm gi B) (hcm : us.length ≤ maxLen) (hrow : TRow w S us A 0) (hM : MS w B f k) (hb : k + nodesL us + MB * left_ (vis ds f) ds.length ≤ 1000000000000) :
    Calls Try.prog 71 #[.slice A us.length c, .func (.func 80) #[] #[.pointer (some ⟨gl, 0, none⟩), .pointer (some ⟨gm, 0, none⟩), .pointer (some ⟨gi, 0, none⟩)]] w (RP ds B f k (nodesL us) (∃ t ∈ us, BadT ds t) (fun X => CleanL ds X us) ansI w) := by
  have hL : us.length ≤ 9223372036854775807 := by unfold maxLen at hcm; omega
  have H := hid (And.intro hN (And.intro hn (And.intro hsh (And.intro hE (And.intro hrow (And.intro hM hb))))))
  have HI := hid ih
  have HN := hid (onp_not hE.nS)
  clear hN hn hsh hE hrow hM hb hcm ih
  go_enter Try.func71, Try.ntmps71
  go_wp2
  go_loopg [8] us.length (fun g x wr => ∃ (i : Nat) (fi : ByteArray → Int) (ki : Nat), i + g = us.length ∧ x = .int .i64 i ∧ Hid (MS wr B fi ki) ∧ Hid (Since ds (vis ds f) (vis ds fi)) ∧ Hid (CleanL ds (vis ds fi) (us.take i)) ∧ Hid (ki + MB * left_ (vis ds fi) ds.length ≤ k + nodesL (us.take i) + MB * left_ (vis ds f) ds.length) ∧ Hid (Kept (OnP B) w wr))
  case atStart => exact ⟨0, f, k, by omega, rfl, hid H.out.2.2.2.2.2.1, hid (Since.refl _ _), hid (fun t ht => by simp at ht), hid (by simp [nodesL]), hid (Kept.refl _ _)⟩
  case round =>
    obtain ⟨i, fi, ki, hi, rfl, hM, hS, hC, hbu, hK⟩ := hrel
    have Hi := hid hi
    by_cases hlt : i < us.length
    case neg =>
      obtain rfl : i = us.length := by omega
      clear hi
      go_wp2
      go_ret
      have h1 := hC.out
      have h2 := hbu.out
      rw [List.take_length] at h1 h2
      exact ⟨false, fi, ki, ⟨-1, rfl, rfl⟩, hM.out, hK.out, fun h => (by cases h), fun _ => ⟨h1, hS.out, h2⟩⟩
    have hlt' : (i : Int) < us.length := by omega
    obtain ⟨ad, q', s', n', A3, m', c3, hA, hSb, hab, y0, y1, y2, y3, hel⟩ := (H.out.2.2.2.2.1.kept hK.out HN.out).elem hlt
    subst hA
    have HLT := hid hlt
    have Hel := hid hel
    have hmem := hid (List.getElem_mem hlt)
    have htk := nodesL_take hlt
    have hle := nodes_mem (List.getElem_mem hlt)
    have hsp := nodesL_split hlt
    generalize hu9 : us[i] = u at Hel hmem htk hle hsp
    have Hu := hid hu9
    have Q := hid (show left_ (vis ds fi) ds.length * 100000000 + nodes u ≤ N ∧ nodes u ≤ 20000 ∧ ki + nodes u + MB * left_ (vis ds fi) ds.length ≤ 1000000000000 by
      have h1 := H.out.1 u hmem.out
      have h2 := Nat.mul_le_mul_right 100000000 (left_mono hS.out.sub ds.length)
      have h3 := hbu.out
      have h4 := H.out.2.1
      have h5 := H.out.2.2.2.2.2.2
      omega)
    have HTK := hid htk
    clear hi hSb hab hel hu9 htk hle hsp
    go_wp2_with (go_at_call 80; go_must (refine (HI.out u fi ki _ lv gl gm gi wr Q.out.1 Q.out.2.1 (H.out.2.2.1 u hmem.out) (H.out.2.2.2.1.kept hK.out) Hel.out hM.out Q.out.2.2).mono ?_); rintro e w1 ⟨b, f1, k1, hans, g1, g2, g3, g4⟩; go_must (obtain rfl : e = .returned (.bool b) := hans; have G := hid (And.intro g1 (And.intro g2 (And.intro g3 g4))); clear g1 g2 g3 g4))
    · go_ret
      have hbt : b = true := by first | assumption | (cases b <;> simp_all)
      exact ⟨true, f1, k1, ⟨i, rfl, by simp⟩, G.out.1, G.out.2.1.hop hK.out, fun _ => ⟨u, hmem.out, G.out.2.2.1 hbt⟩, fun h => (by cases h)⟩
    · have hbf : b = false := by first | assumption | (cases b <;> simp_all)
      obtain ⟨j1, j2, j3⟩ := G.out.2.2.2 hbf
      have J := hid (And.intro j1 (And.intro j2 j3))
      have hgk := Hi.out
      clear j1 j2 j3
      go_roundg (gk - 1)
      case rel => exact ⟨i + 1, f1, k1, by omega, by go_num, hid G.out.1, hid (hS.out.trans J.out.2.1), hid (hC.out.take J.out.2.1.sub HLT.out (of_get (P := CleanT ds (vis ds f1)) Hu.out J.out.1)), hid (by have h1 := J.out.2.2; have h2 := hbu.out; have h3 := HTK.out; omega), hid (G.out.2.1.hop hK.out)⟩
      case measure => omega
set_option maxHeartbeats 8000000 in
set_option maxRecDepth 100000 in
theorem in_has (ds : List Dc) (S : Nat → Prop) (B N : Nat) (ih : InC ds S B N) (us : List Ty) (f : ByteArray → Int) (k : Nat) (A : Option Addr) (c : Nat) (lv : Value) (gl gm gi : Nat) (w : World) (hN : ∀ t ∈ us, left_ (vis ds f) ds.length * 100000000 + nodes t ≤ N) (hn : nodesL us ≤ 20000) (hsh : ∀ t ∈ us, Short t)
    (hE : RE w ds S lv gl gm gi B) (hcm : us.length ≤ maxLen) (hrow : TRow w S us A 0) (hM : MS w B f k) (hb : k + nodesL us + MB * left_ (vis ds f) ds.length ≤ 1000000000000) :
    Calls Try.prog 61 #[.slice A us.length c, .func (.func 80) #[] #[.pointer (some ⟨gl, 0, none⟩), .pointer (some ⟨gm, 0, none⟩), .pointer (some ⟨gi, 0, none⟩)]] w (RP ds B f k (nodesL us) (∃ t ∈ us, BadT ds t) (fun X => CleanL ds X us) ansB w) := by
  have C := hid (in_index ds S B N ih us f k A c lv gl gm gi w hN hn hsh hE hcm hrow hM hb)
  clear hN hn hsh hE hrow hM hb hcm ih
  go_enter Try.func61, Try.ntmps61
  go_wp2_with (go_at_call 71; go_must (refine C.out.mono ?_); rintro e w1 ⟨b, f1, k1, ⟨i, rfl, hi⟩, g1⟩; go_must (have G := hid (And.intro hi g1); clear hi g1))
  go_ret
  refine ⟨b, f1, k1, ?_, G.out.2⟩
  rw [← G.out.1]
  first | rfl | (unfold ansB; simp; done)
/-- The closure on a constructor. -/
theorem con_lit (ds : List Dc) (S : Nat → Prop) (B N : Nat) (ih : InC ds S B N) (x : Cn) (f : ByteArray → Int) (k : Nat) (A : Option Addr) (c : Nat) (lv : Value) (gl gm gi : Nat) (w : World) (hN : ∀ t ∈ x.fields, left_ (vis ds f) ds.length * 100000000 + nodes t ≤ N) (hn : nodesL x.fields ≤ 20000) (hsh : ∀ t ∈ x.fields, Short t)
    (hE : RE w ds S lv gl gm gi B) (hcm : x.fields.length ≤ maxLen) (hrow : TRow w S x.fields A 0) (hM : MS w B f k) (hb : k + nodesL x.fields + MB * left_ (vis ds f) ds.length ≤ 1000000000000) :
    Calls Try.prog 82 #[.agg #[.string x.name, .slice A x.fields.length c], .pointer (some ⟨gi, 0, none⟩)] w (RP ds B f k (nodesL x.fields) (∃ t ∈ x.fields, BadT ds t) (fun X => CleanL ds X x.fields) ansB w) := by
  have hb0 : Below w.heap.size w (w.alloc (.cells #[.string x.name, .slice A x.fields.length c] 85)) := (Below.refl _ _).alloc (Nat.le_refl _) _
  have C := hid (in_has ds S B N ih x.fields f k A c lv gl gm gi (w.alloc (.cells #[.string x.name, .slice A x.fields.length c] 85)) hN hn hsh (hE.up hb0) hcm (hrow.up hb0) (hM.below hb0) hb)
  have x0 := (hE.up hb0).bi.cell 0
  clear hN hn hsh hE hrow hM hb hcm ih hb0
  go_enter Try.func82, Try.ntmps82
  go_wp2_with (go_at_call 61; go_must (refine C.out.mono ?_); rintro e w1 ⟨b, f1, k1, hans, g1⟩; go_must (obtain rfl : e = .returned (.bool b) := hans; have G := hid g1; clear g1))
  go_ret
  exact ⟨b, f1, k1, rfl, G.out.1, G.out.2.1.hop ((Kept.refl _ _).alloc _), G.out.2.2⟩
theorem q_aux {a b n N : Nat} (h1 : a + 20000 ≤ N) (h2 : b ≤ a) (h : n ≤ 20000) : b + n ≤ N := by omega
theorem q_aux2 {a b c d e k x y M : Nat} (h3 : a + x ≤ k + b + y) (hs : b + c ≤ d) (h5 : k + d + y ≤ M) (he : e = c := by rfl) : a + e + x ≤ M := by omega
def costC : List Cn → Nat
  | [] => 0
  | k :: ks => nodesL k.fields + costC ks
theorem costC_take {us : List Cn} {i : Nat} (hi : i < us.length) : costC (us.take (i + 1)) = costC (us.take i) + nodesL us[i].fields := by
  induction us generalizing i with
  | nil => simp at hi
  | cons t ts ih =>
    cases i with
    | zero => simp [costC]
    | succ i =>
      simp only [List.take_succ_cons, costC, List.getElem_cons_succ]
      rw [ih (by simpa using hi)]
      omega
theorem costC_mem {us : List Cn} {i : Nat} (hi : i < us.length) : costC (us.take i) + nodesL us[i].fields ≤ costC us := by
  induction us generalizing i with
  | nil => simp at hi
  | cons t ts ih =>
    cases i with
    | zero => simp [costC]
    | succ i =>
      simp only [List.take_succ_cons, costC, List.getElem_cons_succ]
      have := ih (by simpa using hi)
      omega
set_option maxHeartbeats 8000000 in
set_option maxRecDepth 100000 in
theorem con_index (ds : List Dc) (S : Nat → Prop) (B N : Nat) (ih : InC ds S B N) (us : List Cn) (f : ByteArray → Int) (k : Nat) (A : Option Addr) (c : Nat) (lv : Value) (gl gm gi : Nat) (w : World) (hN : left_ (vis ds f) ds.length * 100000000 + 20000 ≤ N) (hn : ∀ x ∈ us, LimC x) (hsh : ∀ x ∈ us, ∀ t ∈ x.fields, Short t)
    (hE : RE w ds S lv gl gm gi B) (hcm : us.length ≤ 1000) (hrow : CnRow w S us A) (hM : MS w B f k) (hb : k + costC us + MB * left_ (vis ds f) ds.length ≤ 1000000000000) :
    Calls Try.prog 83 #[.slice A us.length c, .func (.func 82) #[] #[.pointer (some ⟨gi, 0, none⟩)]] w (RP ds B f k (costC us) (∃ x ∈ us, ∃ t ∈ x.fields, BadT ds t) (fun X => ∀ x ∈ us, CleanL ds X x.fields) ansI w) := by
  have H := hid (And.intro hN (And.intro hn (And.intro hsh (And.intro hE (And.intro hrow (And.intro hM hb))))))
  have HI := hid ih
  have HN := hid (onp_not hE.nS)
  clear hN hn hsh hE hrow hM hb ih
  go_enter Try.func83, Try.ntmps83
  go_wp2
  go_loopg [8] us.length (fun g x wr => ∃ (i : Nat) (fi : ByteArray → Int) (ki : Nat), i + g = us.length ∧ x = .int .i64 i ∧ Hid (MS wr B fi ki) ∧ Hid (Since ds (vis ds f) (vis ds fi)) ∧ Hid (∀ x ∈ us.take i, CleanL ds (vis ds fi) x.fields) ∧ Hid (ki + MB * left_ (vis ds fi) ds.length ≤ k + costC (us.take i) + MB * left_ (vis ds f) ds.length) ∧ Hid (Kept (OnP B) w wr))
  case atStart => exact ⟨0, f, k, by omega, rfl, hid H.out.2.2.2.2.2.1, hid (Since.refl _ _), hid (fun t ht => by simp at ht), hid (by simp [costC]), hid (Kept.refl _ _)⟩
  case round =>
    obtain ⟨i, fi, ki, hi, rfl, hM, hS, hC, hbu, hK⟩ := hrel
    have Hi := hid hi
    by_cases hlt : i < us.length
    case neg =>
      obtain rfl : i = us.length := by omega
      clear hi
      go_wp2
      go_ret
      have h1 := hC.out
      have h2 := hbu.out
      rw [List.take_length] at h1 h2
      exact ⟨false, fi, ki, ⟨-1, rfl, rfl⟩, hM.out, hK.out, fun h => (by cases h), fun _ => ⟨h1, hS.out, h2⟩⟩
    have hlt' : (i : Int) < us.length := by omega
    obtain ⟨ad, A3, c3, hA, hSb, y0, y1, q1, q2, q3, hel⟩ := (H.out.2.2.2.2.1.kept hK.out HN.out) i hlt
    subst hA
    have HLT := hid hlt
    have Hel := hid (And.intro hel (Nat.le_trans q1 q2))
    have hmem := hid (List.getElem_mem hlt)
    have htk := costC_take hlt
    have hsp := costC_mem hlt
    generalize hu9 : us[i] = u at Hel hmem htk hsp y0 y1
    have Hu := hid hu9
    have hlu := hid (H.out.2.1 u hmem.out)
    have Q := hid (show (∀ t ∈ u.fields, left_ (vis ds fi) ds.length * 100000000 + nodes t ≤ N) ∧ nodesL u.fields ≤ 20000 ∧ ki + nodesL u.fields + MB * left_ (vis ds fi) ds.length ≤ 1000000000000 by
      have h1 := H.out.1
      have h2 := Nat.mul_le_mul_right 100000000 (left_mono hS.out.sub ds.length)
      have h3 := hbu.out
      have h4 := hlu.out.2
      have h5 := H.out.2.2.2.2.2.2
      exact ⟨fun t ht => q_aux h1 h2 (Nat.le_trans (nodes_mem ht) h4), h4, q_aux2 h3 hsp h5⟩)
    have HTK := hid htk
    clear hi hSb hel hu9 htk hsp q1 q2 q3
    go_wp2_with (go_at_call 82; go_must (refine (con_lit ds S B N HI.out u fi ki A3 c3 lv gl gm gi wr Q.out.1 Q.out.2.1 (H.out.2.2.1 u hmem.out) (H.out.2.2.2.1.kept hK.out) Hel.out.2 Hel.out.1 hM.out Q.out.2.2).mono ?_); rintro e w1 ⟨b, f1, k1, hans, g1, g2, g3, g4⟩; go_must (obtain rfl : e = .returned (.bool b) := hans; have G := hid (And.intro g1 (And.intro g2 (And.intro g3 g4))); clear g1 g2 g3 g4))
    · go_ret
      have hbt : b = true := by first | assumption | (cases b <;> simp_all)
      obtain ⟨t, ht, hb9⟩ := G.out.2.2.1 hbt
      exact ⟨true, f1, k1, ⟨i, rfl, by simp⟩, G.out.1, G.out.2.1.hop hK.out, fun _ => ⟨u, hmem.out, t, ht, hb9⟩, fun h => (by cases h)⟩
    · have hbf : b = false := by first | assumption | (cases b <;> simp_all)
      obtain ⟨j1, j2, j3⟩ := G.out.2.2.2 hbf
      have J := hid (And.intro j1 (And.intro j2 j3))
      have hgk := Hi.out
      clear j1 j2 j3
      go_roundg (gk - 1)
      case rel => exact ⟨i + 1, f1, k1, by omega, by go_num, hid G.out.1, hid (hS.out.trans J.out.2.1), hid (all_take (fun x hx => (hC.out x hx).mono J.out.2.1.sub) HLT.out (of_get (P := fun x : Cn => CleanL ds (vis ds f1) x.fields) Hu.out J.out.1)), hid (by have h1 := J.out.2.2; have h2 := hbu.out; have h3 := HTK.out; omega), hid (G.out.2.1.hop hK.out)⟩
      case measure => omega
set_option maxHeartbeats 8000000 in
set_option maxRecDepth 100000 in
theorem con_has (ds : List Dc) (S : Nat → Prop) (B N : Nat) (ih : InC ds S B N) (us : List Cn) (f : ByteArray → Int) (k : Nat) (A : Option Addr) (c : Nat) (lv : Value) (gl gm gi : Nat) (w : World) (hN : left_ (vis ds f) ds.length * 100000000 + 20000 ≤ N) (hn : ∀ x ∈ us, LimC x) (hsh : ∀ x ∈ us, ∀ t ∈ x.fields, Short t)
    (hE : RE w ds S lv gl gm gi B) (hcm : us.length ≤ 1000) (hrow : CnRow w S us A) (hM : MS w B f k) (hb : k + costC us + MB * left_ (vis ds f) ds.length ≤ 1000000000000) :
    Calls Try.prog 81 #[.slice A us.length c, .func (.func 82) #[] #[.pointer (some ⟨gi, 0, none⟩)]] w (RP ds B f k (costC us) (∃ x ∈ us, ∃ t ∈ x.fields, BadT ds t) (fun X => ∀ x ∈ us, CleanL ds X x.fields) ansB w) := by
  have C := hid (con_index ds S B N ih us f k A c lv gl gm gi w hN hn hsh hE hcm hrow hM hb)
  clear hN hn hsh hE hrow hM hb hcm ih
  go_enter Try.func81, Try.ntmps81
  go_wp2_with (go_at_call 83; go_must (refine C.out.mono ?_); rintro e w1 ⟨b, f1, k1, ⟨i, rfl, hi⟩, g1⟩; go_must (have G := hid (And.intro hi g1); clear hi g1))
  go_ret
  refine ⟨b, f1, k1, ?_, G.out.2⟩
  rw [← G.out.1]
  first | rfl | (unfold ansB; simp; done)
end Go.Proofs.Ytnlifgcnmhakiaa
