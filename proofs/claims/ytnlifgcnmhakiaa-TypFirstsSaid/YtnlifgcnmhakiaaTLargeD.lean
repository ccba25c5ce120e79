/-
  THE WALK OF athanorlaw12.LargeDecls.
-/
import Derived.Test.YtnlifgcnmhakiaaTDecl
namespace Go.Proofs.Ytnlifgcnmhakiaa
open Go.ChangeShapes Go.WideShapes Go.ChangeAt Go.RowKit

def LimC (k : Cn) : Prop := k.fields.length ≤ 200 ∧ nodesL k.fields ≤ 20000
def LimD (d : Dc) : Prop := d.params.length ≤ 200 ∧ d.cons.length ≤ 200 ∧ ∀ k ∈ d.cons, LimC k
/-- Declared types that are not too large. -/
def Lim (ds : List Dc) : Prop := ds.length ≤ 1000 ∧ ∀ d ∈ ds, LimD d
def LargeDP (ds : List Dc) (w : World) (e : Ending) (w' : World) : Prop := (∃ b : Bool, e = .returned (.bool b) ∧ (b = false → ds.length ≤ 200 ∧ Lim ds)) ∧ Below w.heap.size w w'
theorem all_take {α : Type} {P : α → Prop} {l : List α} {i : Nat} (h : ∀ x ∈ l.take i, P x) (hi : i < l.length) (hx : P l[i]) : ∀ x ∈ l.take (i + 1), P x := by
  intro x hm
  rw [List.take_succ_eq_append_getElem hi, List.mem_append, List.mem_singleton] at hm
  rcases hm with hm | rfl
  · exact h x hm
  · exact hx
theorem of_get {α : Type} {P : α → Prop} {x y : α} (h : x = y) (hy : P y) : P x := by subst h; exact hy
/-- What a loop over fields knows. -/
def LimN (us : List Ty) (j : Nat) (m : Int) : Prop := m = -1 ∨ (0 ≤ m ∧ m ≤ 20000 ∧ (nodesL (us.take j) : Int) ≤ m)
def In20 (m : Int) : Prop := 0 ≤ m ∧ m ≤ 20000
set_option maxHeartbeats 8000000 in
set_option maxRecDepth 100000 in
theorem law12_LargeDecls (ds : List Dc) (v : Value) (S : Nat → Prop) (w : World) (hv : DcsAt w S ds v) : Calls Try.prog 24 #[v] w (LargeDP ds w) := by
  obtain ⟨A, c, rfl, hc, hcm, _, hrow⟩ := hv
  have H := hid hrow
  clear hrow hc hcm
  by_cases hbig : (ds.length : Int) > 200
  · go_enter Try.func24, Try.ntmps24
    go_wp2
    go_ret
    exact ⟨⟨true, rfl, fun h => by cases h⟩, Below.refl _ _⟩
  have HB := hid hbig
  go_enter Try.func24, Try.ntmps24
  go_wp2
  go_loopg [3, 4] ds.length (fun g xn xi wr => ∃ (i : Nat) (n : Int), i + g = ds.length ∧ xi = .int .i64 i ∧ xn = .int .i64 n ∧ Hid (In20 n) ∧ Hid (∀ d ∈ ds.take i, LimD d) ∧ Hid (Below w.heap.size w wr))
  case atStart => exact ⟨0, 0, by omega, rfl, rfl, hid ⟨by omega, by omega⟩, hid (by intro d hd; simp at hd), hid (Below.refl _ _)⟩
  case round =>
    obtain ⟨i, n, hi, rfl, rfl, hn, hlim, hb⟩ := hrel
    have Hi := hid hi
    by_cases hlt : i < ds.length
    case neg =>
      obtain rfl : i = ds.length := by omega
      clear hi
      go_wp2
      go_ret
      exact ⟨⟨false, rfl, fun _ => ⟨by have := HB.out; omega, by have := HB.out; omega, fun d hd => hlim.out d (by rw [List.take_length]; exact hd)⟩⟩, hb.out⟩
    have hlt' : (i : Int) < ds.length := by omega
    obtain ⟨ad, P, pc, C, cc, rfl, hSb, y0, y1, y2, y3, hP, hC, _⟩ := (H.out.up hb.out) i hlt
    have HD := hid (And.intro hP hC)
    have HL := hid hlt
    have Hy := hid (And.intro y1 y2)
    generalize hd9 : ds[i] = d at y0 y1 y2 y3 HD Hy
    have Hd := hid hd9
    clear hSb hP hC hd9
    by_cases hcb : (d.cons.length : Int) > 200
    · clear hi
      go_wp2
      go_ret
      exact ⟨⟨true, rfl, fun h => by cases h⟩, hb.out⟩
    by_cases hpb : (d.params.length : Int) > 200
    · clear hi
      go_wp2
      go_ret
      exact ⟨⟨true, rfl, fun h => by cases h⟩, hb.out⟩
    have HCP := hid (And.intro hcb hpb)
    obtain ⟨gp, hgp⟩ : ∃ gp, gp = gk - 1 := ⟨_, rfl⟩
    have Hgp := hid hgp
    clear hi hgp
    go_wp2
    go_loopg [3, 5] d.cons.length (fun g2 xn xk w2 => ∃ (k : Nat) (n2 : Int), k + g2 = d.cons.length ∧ xk = .int .i64 k ∧ xn = .int .i64 n2 ∧ Hid (In20 n2) ∧ Hid (∀ x ∈ d.cons.take k, LimC x) ∧ Hid (Below wr.heap.size wr w2))
    case atStart => exact ⟨0, n, by omega, rfl, rfl, hn, hid (by intro d hd; simp at hd), hid (Below.refl _ _)⟩
    case round =>
      obtain ⟨k, n2, hk, rfl, rfl, hn2, hlimk, hb2⟩ := hrel
      have Hk := hid hk
      have z1 := hb2.out.cell (cell_lt Hy.out.1) |>.trans Hy.out.1
      have z2 := hb2.out.cell (cell_lt Hy.out.2) |>.trans Hy.out.2
      clear y0 y1 y2 y3
      by_cases hkl : k < d.cons.length
      case neg =>
        obtain rfl : k = d.cons.length := by omega
        have hgk := Hi.out
        have hgp := Hgp.out
        have hlt2 := HL.out
        clear hk
        go_wp2
        go_roundg gp
        case rel =>
          refine ⟨i + 1, n2, by omega, by go_num, rfl, hn2, hid (all_take hlim.out HL.out (of_get Hd.out ?_)), hid (below_hop hb2.out hb.out)⟩
          exact ⟨by have := HCP.out.2; omega, by have := HCP.out.1; omega, fun x hx => hlimk.out x (by rw [List.take_length]; exact hx)⟩
        case measure => omega
      have hkl' : (k : Int) < d.cons.length := by omega
      obtain ⟨ad2, A', c', hCs, hSb2, x0, x1, g1, g2, _, g4⟩ := (HD.out.2.2.2.2.up hb2.out) k hkl
      subst hCs
      have HF := hid (And.intro g1 (And.intro g2 g4))
      have HKL := hid hkl
      have Hx := hid x1
      generalize hx9 : d.cons[k] = x at x0 x1 HF Hx
      have HX := hid hx9
      clear hSb2 g1 g2 g4 hx9
      by_cases hfb : (x.fields.length : Int) > 200
      · clear hk
        go_wp2
        go_ret
        exact ⟨⟨true, rfl, fun h => by cases h⟩, below_hop hb2.out hb.out⟩
      have HFB := hid hfb
      obtain ⟨gq, hgq⟩ : ∃ gq, gq = gk - 1 := ⟨_, rfl⟩
      have Hgq := hid hgq
      clear hk hgq
      go_wp2
      go_loopg [3, 6] x.fields.length (fun g3 xn xj w3 => ∃ (j : Nat) (m : Int), j + g3 = x.fields.length ∧ xj = .int .i64 j ∧ xn = .int .i64 m ∧ Hid (LimN x.fields j m) ∧ Hid (Below wr.heap.size wr w3))
      case atStart => exact ⟨0, n2, by omega, rfl, rfl, hid (.inr ⟨hn2.out.1, hn2.out.2, by simp [nodesL]; exact hn2.out.1⟩), hid (Below.refl _ _)⟩
      case round =>
        obtain ⟨j, m, hj, rfl, rfl, hm, hb3⟩ := hrel
        have Hj := hid hj
        have u1 := hb3.out.cell (cell_lt x1) |>.trans x1
        have u2 := hb3.out.cell (cell_lt z2) |>.trans z2
        clear x0 x1 z1 z2
        rcases hm.out with rfl | ⟨m0, m1, m2⟩
        · by_cases hjl : j < x.fields.length
          · have hjl' : (j : Int) < x.fields.length := by omega
            clear hj
            go_wp2
            go_ret
            exact ⟨⟨true, rfl, fun h => by cases h⟩, below_hop hb3.out (below_hop hb2.out hb.out)⟩
          · have hjl' : ¬ (j : Int) < x.fields.length := by omega
            clear hj
            go_wp2
            go_ret
            exact ⟨⟨true, rfl, fun h => by cases h⟩, below_hop hb3.out (below_hop hb2.out hb.out)⟩
        have hm0 : ¬ m < 0 := by omega
        by_cases hjl : j < x.fields.length
        case neg =>
          obtain rfl : j = x.fields.length := by omega
          have hgk := Hk.out
          have hgq := Hgq.out
          have hkl2 := HKL.out
          clear hj
          go_wp2
          go_roundg gq
          case rel =>
            refine ⟨k + 1, m, by omega, by go_num, rfl, hid ⟨m0, m1⟩, hid (all_take hlimk.out HKL.out (of_get HX.out ?_)), hid (below_hop hb3.out hb2.out)⟩
            rw [List.take_length] at m2
            exact ⟨by have := HFB.out; omega, by omega⟩
          case measure => omega
        have hjl' : (j : Int) < x.fields.length := by omega
        obtain ⟨ad3, q', s', n', A3, m', c3, hA3, hSb3, hab, t0, t1, t2, t3, hel⟩ := (HF.out.2.2.up hb3.out).elem hjl
        subst hA3
        have Q := hid (And.intro hel (And.intro m2 (nodesL_take hjl)))
        generalize x.fields[j] = t at Q
        have HM := hid (And.intro m0 m1)
        clear hj hSb3 hab hel m2
        go_wp2_with (go_at_call 43; go_must (refine (law12_weigh _ t (Nat.le_refl _) 0 _ _ _ S _ rfl HM.out.1 HM.out.2 (by omega) Q.out.1).mono ?_); rintro e w1 ⟨⟨r, rfl, hr⟩, b1⟩)
        have hgk := Hj.out
        go_roundg (gk - 1)
        case rel => exact ⟨j + 1, r, by omega, by go_num, rfl, hid (by have h3 := Q.out.2.1; have h4 := Q.out.2.2; unfold LimN; rw [h4]; rcases hr with hr | hr; exact .inl hr; right; omega), hid (below_hop b1 hb3.out)⟩
        case measure => omega
end Go.Proofs.Ytnlifgcnmhakiaa
