/-
  THE WALKS OF typ.reaches$1, typ.plain$1, AND OF slices.IndexFunc AND ContainsFunc OF DECLARED TYPES WITH THEM.
-/
import Derived.Test.YtnlifgcnmhakiaaTMap
namespace Go.Proofs.Ytnlifgcnmhakiaa
open Go.ChangeShapes Go.WideShapes Go.ChangeAt Go.RowKit

def NameP (nm s : ByteArray) (w : World) (e : Ending) (w' : World) : Prop := e = .returned (.bool (decide (nm = s))) ∧ Below w.heap.size w w'
set_option maxHeartbeats 2000000 in
set_option maxRecDepth 100000 in
theorem reaches_name (nm s : ByteArray) (P C : Option Addr) (m pc k cc : Nat) (n : Int) (g : Nat) (w : World) (h : Blk w g 9 #[.string s]) : Calls Try.prog 79 #[.agg #[.string nm, .slice P m pc, .slice C k cc, .int .i64 n], .pointer (some ⟨g, 0, none⟩)] w (NameP nm s w) := by
  have H := hid h
  have hg := h.lt
  have x0 : ∀ o, (w.alloc o).cell? ⟨g, 0, none⟩ = some (.string s) := fun o => (h.alloc o).cell 0
  clear h
  by_cases e : nm = s
  · subst e
    go_enter Try.func79, Try.ntmps79
    go_wp2
    go_ret
    exact ⟨by simp, (Below.refl _ _).alloc (Nat.le_refl _) _⟩
  · have he2 : (nm.toList == s.toList) = false := str_ne (decide_eq_false e)
    have HE := hid e
    clear e
    go_enter Try.func79, Try.ntmps79
    go_wp2
    go_ret
    exact ⟨by rw [decide_eq_false HE.out]; rfl, (Below.refl _ _).alloc (Nat.le_refl _) _⟩
set_option maxHeartbeats 2000000 in
set_option maxRecDepth 100000 in
theorem plain_name (nm s : ByteArray) (P C : Option Addr) (m pc k cc : Nat) (n : Int) (g : Nat) (w : World) (h : Blk w g 9 #[.string s]) : Calls Try.prog 73 #[.agg #[.string nm, .slice P m pc, .slice C k cc, .int .i64 n], .pointer (some ⟨g, 0, none⟩)] w (NameP nm s w) := by
  have H := hid h
  have hg := h.lt
  have x0 : ∀ o, (w.alloc o).cell? ⟨g, 0, none⟩ = some (.string s) := fun o => (h.alloc o).cell 0
  clear h
  by_cases e : nm = s
  · subst e
    go_enter Try.func73, Try.ntmps73
    go_wp2
    go_ret
    exact ⟨by simp, (Below.refl _ _).alloc (Nat.le_refl _) _⟩
  · have he2 : (nm.toList == s.toList) = false := str_ne (decide_eq_false e)
    have HE := hid e
    clear e
    go_enter Try.func73, Try.ntmps73
    go_wp2
    go_ret
    exact ⟨by rw [decide_eq_false HE.out]; rfl, (Below.refl _ _).alloc (Nat.le_refl _) _⟩
def IdxP (ds : List Dc) (s : ByteArray) (w : World) (e : Ending) (w' : World) : Prop := e = .returned (.int .i64 (declR ds s)) ∧ Below w.heap.size w w'
def HasP (ds : List Dc) (s : ByteArray) (w : World) (e : Ending) (w' : World) : Prop := e = .returned (.bool (decide (idx ds s < ds.length))) ∧ Below w.heap.size w w'
set_option maxHeartbeats 4000000 in
set_option maxRecDepth 100000 in
theorem reaches_index (ds : List Dc) (s : ByteArray) (v : Value) (S : Nat → Prop) (g : Nat) (w : World) (hl : ds.length ≤ 1000) (hv : DcsAt w S ds v) (h : Blk w g 9 #[.string s]) : Calls Try.prog 78 #[v, .func (.func 79) #[] #[.pointer (some ⟨g, 0, none⟩)]] w (IdxP ds s w) := by
  obtain ⟨A, c, rfl, hc, hcm, _, hrow⟩ := hv
  have H := hid (And.intro hrow h)
  have HL := hid hl
  have hg := hid h.lt
  clear hrow hc hcm h
  go_enter Try.func78, Try.ntmps78
  go_wp2
  go_loopg [8] ds.length (fun gg x wr => ∃ i : Nat, i + gg = ds.length ∧ x = .int .i64 i ∧ Hid (Below w.heap.size w wr) ∧ Hid (∀ j, (h : j < ds.length) → j < i → ds[j].name ≠ s))
  case atStart => exact ⟨0, by omega, rfl, hid (Below.refl _ _), hid (fun j _ h => by omega)⟩
  case round =>
    obtain ⟨i, hi, rfl, hb, hn⟩ := hrel
    have Hi := hid hi
    by_cases hlt : i < ds.length
    case neg =>
      obtain rfl : i = ds.length := by omega
      clear hi
      go_wp2
      go_ret
      have e1 : declR ds s = -1 := by unfold declR; rw [if_neg (by rw [idx_none (fun j h => hn.out j h h)]; omega)]
      exact ⟨by rw [e1]; rfl, hb.out⟩
    have hlt' : (i : Int) < ds.length := by omega
    obtain ⟨ad, P, pc, C, cc, hA, hSb, y0, y1, y2, y3, _⟩ := (H.out.1.up hb.out) i hlt
    subst hA
    have HT := hid hlt
    generalize hd9 : ds[i] = d at y0 y1 y2 y3
    have Hd := hid hd9
    have HB := hid (H.out.2.below hb.out H.out.2.lt)
    clear hSb hd9
    by_cases he : d.name = s
    · have hn9 : ds[i].name = s := of_get (P := fun x : Dc => x.name = s) Hd.out he
      have e1 : declR ds s = i := by unfold declR; rw [if_pos (by rw [idx_at HT.out hn9 hn.out]; exact hlt), idx_at HT.out hn9 hn.out]
      have E1 := hid e1
      have hdt := hid (decide_eq_true he)
      clear hi e1 hn9 he
      go_wp2_with (go_at_call 79; go_must (refine (reaches_name d.name s P C _ _ _ _ _ g wr HB.out).mono ?_); rintro e w1 ⟨he9, b1⟩; go_must (rw [hdt.out] at he9; subst he9))
      go_ret
      exact ⟨by rw [E1.out]; rfl, below_hop b1 hb.out⟩
    · have HE := hid he
      have hdt := hid (decide_eq_false he)
      clear hi he
      go_wp2_with (go_at_call 79; go_must (refine (reaches_name d.name s P C _ _ _ _ _ g wr HB.out).mono ?_); rintro e w1 ⟨he9, b1⟩; go_must (rw [hdt.out] at he9; subst he9))
      have hgk := Hi.out
      go_roundg (gk - 1)
      case rel =>
        refine ⟨i + 1, by omega, by go_num, hid (below_hop b1 hb.out), hid (fun j hj hji => ?_)⟩
        by_cases hjj : j = i
        · subst hjj; exact of_get (P := fun x : Dc => x.name ≠ s) Hd.out HE.out
        · exact hn.out j hj (by omega)
      case measure => omega
set_option maxHeartbeats 4000000 in
set_option maxRecDepth 100000 in
theorem plain_index (ds : List Dc) (s : ByteArray) (v : Value) (S : Nat → Prop) (g : Nat) (w : World) (hl : ds.length ≤ 1000) (hv : DcsAt w S ds v) (h : Blk w g 9 #[.string s]) : Calls Try.prog 78 #[v, .func (.func 73) #[] #[.pointer (some ⟨g, 0, none⟩)]] w (IdxP ds s w) := by
  obtain ⟨A, c, rfl, hc, hcm, _, hrow⟩ := hv
  have H := hid (And.intro hrow h)
  have HL := hid hl
  have hg := hid h.lt
  clear hrow hc hcm h
  go_enter Try.func78, Try.ntmps78
  go_wp2
  go_loopg [8] ds.length (fun gg x wr => ∃ i : Nat, i + gg = ds.length ∧ x = .int .i64 i ∧ Hid (Below w.heap.size w wr) ∧ Hid (∀ j, (h : j < ds.length) → j < i → ds[j].name ≠ s))
  case atStart => exact ⟨0, by omega, rfl, hid (Below.refl _ _), hid (fun j _ h => by omega)⟩
  case round =>
    obtain ⟨i, hi, rfl, hb, hn⟩ := hrel
    have Hi := hid hi
    by_cases hlt : i < ds.length
    case neg =>
      obtain rfl : i = ds.length := by omega
      clear hi
      go_wp2
      go_ret
      have e1 : declR ds s = -1 := by unfold declR; rw [if_neg (by rw [idx_none (fun j h => hn.out j h h)]; omega)]
      exact ⟨by rw [e1]; rfl, hb.out⟩
    have hlt' : (i : Int) < ds.length := by omega
    obtain ⟨ad, P, pc, C, cc, hA, hSb, y0, y1, y2, y3, _⟩ := (H.out.1.up hb.out) i hlt
    subst hA
    have HT := hid hlt
    generalize hd9 : ds[i] = d at y0 y1 y2 y3
    have Hd := hid hd9
    have HB := hid (H.out.2.below hb.out H.out.2.lt)
    clear hSb hd9
    by_cases he : d.name = s
    · have hn9 : ds[i].name = s := of_get (P := fun x : Dc => x.name = s) Hd.out he
      have e1 : declR ds s = i := by unfold declR; rw [if_pos (by rw [idx_at HT.out hn9 hn.out]; exact hlt), idx_at HT.out hn9 hn.out]
      have E1 := hid e1
      have hdt := hid (decide_eq_true he)
      clear hi e1 hn9 he
      go_wp2_with (go_at_call 73; go_must (refine (plain_name d.name s P C _ _ _ _ _ g wr HB.out).mono ?_); rintro e w1 ⟨he9, b1⟩; go_must (rw [hdt.out] at he9; subst he9))
      go_ret
      exact ⟨by rw [E1.out]; rfl, below_hop b1 hb.out⟩
    · have HE := hid he
      have hdt := hid (decide_eq_false he)
      clear hi he
      go_wp2_with (go_at_call 73; go_must (refine (plain_name d.name s P C _ _ _ _ _ g wr HB.out).mono ?_); rintro e w1 ⟨he9, b1⟩; go_must (rw [hdt.out] at he9; subst he9))
      have hgk := Hi.out
      go_roundg (gk - 1)
      case rel =>
        refine ⟨i + 1, by omega, by go_num, hid (below_hop b1 hb.out), hid (fun j hj hji => ?_)⟩
        by_cases hjj : j = i
        · subst hjj; exact of_get (P := fun x : Dc => x.name ≠ s) Hd.out HE.out
        · exact hn.out j hj (by omega)
      case measure => omega
set_option maxHeartbeats 4000000 in
set_option maxRecDepth 100000 in
theorem plain_has (ds : List Dc) (s : ByteArray) (v : Value) (S : Nat → Prop) (g : Nat) (w : World) (hl : ds.length ≤ 1000) (hv : DcsAt w S ds v) (h : Blk w g 9 #[.string s]) : Calls Try.prog 72 #[v, .func (.func 73) #[] #[.pointer (some ⟨g, 0, none⟩)]] w (HasP ds s w) := by
  have C := hid (plain_index ds s v S g w hl hv h)
  obtain ⟨A, c, rfl, _⟩ := hv
  by_cases hi : idx ds s < ds.length
  · have e1 : declR ds s = (idx ds s : Int) := by unfold declR; rw [if_pos hi]
    have hge : (0 : Int) ≤ (idx ds s : Int) := by omega
    have HE := hid (And.intro e1 hi)
    obtain ⟨n, hn⟩ : ∃ n, n = idx ds s := ⟨_, rfl⟩
    rw [← hn] at hge
    have HN := hid hn
    clear e1 hi h hn
    go_enter Try.func72, Try.ntmps72
    go_wp2_with (go_at_call 78; go_must (refine C.out.mono ?_); rintro e w1 ⟨he9, b1⟩; go_must (rw [HE.out.1, ← HN.out] at he9; subst he9))
    go_ret
    exact ⟨by rw [decide_eq_true HE.out.2]; rfl, b1⟩
  · have e1 : declR ds s = -1 := by unfold declR; rw [if_neg hi]
    have HE := hid (And.intro e1 hi)
    clear e1 hi h
    go_enter Try.func72, Try.ntmps72
    go_wp2_with (go_at_call 78; go_must (refine C.out.mono ?_); rintro e w1 ⟨he9, b1⟩; go_must (rw [HE.out.1] at he9; subst he9))
    go_ret
    exact ⟨by rw [decide_eq_false HE.out.2]; rfl, b1⟩
end Go.Proofs.Ytnlifgcnmhakiaa
