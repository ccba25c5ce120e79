/-
  THE WALK OF athanorref11.Same, WHERE IT ANSWERS TRUE.
-/
import Derived.Test.YtngbaghkjaibeaaDoorXRLex
import Derived.Test.YtngbaghkjaibeaaDoorXPlainC
import Derived.Deep.RegionHeld3
import Derived.Deep.RegionLaw
namespace Go.Proofs.YtngbaghkjaibeaaDoor
set_option linter.all false
open Go.ChangeShapes Go.WideShapes Go.ChangeAt Go.RowKit

/-- Tokens that can be read at an address. -/
def RdT (w : World) (A : Option Addr) (l : List Lx.Tok) : Prop := ∀ i, (h : i < l.length) → ∃ ad, A = some ad ∧ (ad.add (i * 4)).block < w.heap.size ∧ w.cell? (ad.add (i * 4)) = some (.int .i64 l[i].kind) ∧
  w.cell? ⟨(ad.add (i * 4)).block, (ad.add (i * 4)).off + 1, none⟩ = some (.string ⟨l[i].text.toArray⟩) ∧ w.cell? ⟨(ad.add (i * 4)).block, (ad.add (i * 4)).off + 2, none⟩ = some (.int .i64 l[i].n) ∧ w.cell? ⟨(ad.add (i * 4)).block, (ad.add (i * 4)).off + 3, none⟩ = some (.int .i64 l[i].pos)
theorem RdT.nil (w : World) (A : Option Addr) : RdT w A [] := fun i h => by simp at h
theorem same_self (t : Lx.Tok) : t.same t := ⟨rfl, rfl, rfl⟩
theorem RdT.up {w w' : World} {A : Option Addr} {l : List Lx.Tok} (h : RdT w A l) (hb : Below w.heap.size w w') : RdT w' A l := fun i hi => by
  obtain ⟨ad, h0, h1, h2, h3, h4, h5⟩ := h i hi
  exact ⟨ad, h0, Nat.lt_of_lt_of_le h1 hb.size, (hb.cell (p := ad.add (i * 4)) h1).trans h2, (hb.cell (p := ⟨(ad.add (i * 4)).block, (ad.add (i * 4)).off + 1, none⟩) h1).trans h3, (hb.cell (p := ⟨(ad.add (i * 4)).block, (ad.add (i * 4)).off + 2, none⟩) h1).trans h4, (hb.cell (p := ⟨(ad.add (i * 4)).block, (ad.add (i * 4)).off + 3, none⟩) h1).trans h5⟩
theorem tcells_get : ∀ (l : List Lx.Tok) (i : Nat) (h : i < l.length) (j : Nat), j < 4 → (tcells l)[i * 4 + j]? = (tokC l[i])[j]?
  | [], i, h, _, _ => by simp at h
  | t :: l, 0, _, j, hj => by
    unfold tcells
    rw [List.flatMap_cons, List.getElem?_append_left (by simp [tokC]; omega)]
    simp
  | t :: l, i + 1, h, j, hj => by
    have ih := tcells_get l i (by simpa using h) j hj
    unfold tcells at ih ⊢
    rw [List.flatMap_cons, List.getElem?_append_right (by simp [tokC]; omega)]
    have e : (i + 1) * 4 + j - (tokC t).length = i * 4 + j := by simp [tokC]; omega
    rw [e, ih]; rfl
theorem TRowT.rd {w : World} {B n c : Nat} {A : Option Addr} {l : List Lx.Tok} (h : TRowT w B (.slice A n c) l) : RdT w A l := fun i hi => by
  have hc := h
  rcases h.2 with ⟨h1, h2⟩ | ⟨g, cap, cur, h1, hB, hg, h2, h3, h4⟩
  · have : l.length = 0 := h2
    omega
  · injection h1 with e1 e2 e3
    subst e1
    have hlt := hc.lt g rfl
    have hadd : ∀ k, (⟨g, 0, none⟩ : Addr).add k = ⟨g, k, none⟩ := fun k => by unfold Addr.add; split <;> simp_all
    have hcell : ∀ j, j < 4 → w.cell? ⟨g, i * 4 + j, none⟩ = (tokC l[i])[j]? := fun j hj => by
      have hx := tcells_get l i hi j hj
      have hu : ∃ u, (tokC l[i])[j]? = some u := ⟨_, List.getElem?_eq_getElem (by simpa [tokC] using hj)⟩
      obtain ⟨u, hu⟩ := hu
      rw [hu] at hx ⊢
      have := World.ownsRow.cells hc (g := g) rfl (i * 4 + j) u hx
      rw [hadd] at this
      exact this
    refine ⟨_, rfl, ?_⟩
    rw [hadd]
    exact ⟨hlt.2, by simpa [tokC] using hcell 0 (by omega), by simpa [tokC] using hcell 1 (by omega), by simpa [tokC] using hcell 2 (by omega), by simpa [tokC] using hcell 3 (by omega)⟩
set_option maxHeartbeats 8000000 in
set_option maxRecDepth 100000 in
theorem rf_Same (l k : List Lx.Tok) (A1 A2 : Option Addr) (c1 c2 : Nat) (pl : Bool) (w : World) (h1 : RdT w A1 l) (h2 : RdT w A2 k) (hl : l.length = k.length) (hm : l.length ≤ 100000) (hs : ∀ i, (h : i < l.length) → (h' : i < k.length) → l[i].same k[i] ∧ (pl = true → l[i].pos = k[i].pos)) :
    Calls Tryd.prog 12 #[.slice A1 l.length c1, .slice A2 k.length c2, .bool pl] w fun e w' => e = .returned (.bool true) ∧ Below w.heap.size w w' := by
  have H := hid (And.intro h1 (And.intro h2 hs))
  have HL := hid hl
  rw [← hl]
  clear h1 h2 hs hl
  cases pl
  · go_enter Tryd.func12, Tryd.ntmps12
    go_wp2_with fail
    go_loopg [7] l.length (fun g i wr => ∃ j : Nat, j + g = l.length ∧ i = .int .i64 j ∧ Hid (Below w.heap.size w wr))
    case atStart => exact ⟨0, by omega, rfl, hid (Below.refl _ _)⟩
    case round =>
      obtain ⟨j, hj, rfl, hb⟩ := hrel
      have HJ := hid hj
      by_cases hlt : j < l.length
      · have hlt' : (j : Int) < l.length := by omega
        obtain ⟨a1, rfl, p0, y0, y1, y2, y3⟩ := (H.out.1.up hb.out) j hlt
        obtain ⟨a2, rfl, q0, z0, z1, z2, z3⟩ := (H.out.2.1.up hb.out) j (by have := HL.out; omega)
        obtain ⟨⟨s1, s2, s3⟩, s4⟩ := H.out.2.2 j hlt (by have := HL.out; omega)
        generalize l[j] = t1 at y0 y1 y2 y3 s1 s2 s3 s4
        obtain ⟨t2, ht2⟩ : ∃ t2, t2 = k[j]'(by have := HL.out; omega) := ⟨_, rfl⟩
        rw [← ht2] at z0 z1 z2 z3 s1 s2 s3 s4
        obtain ⟨kd, tx, n, ps⟩ := t1
        obtain ⟨kd2, tx2, n2, ps2⟩ := t2
        dsimp only at y0 y1 y2 y3 z0 z1 z2 z3 s1 s2 s3 s4
        subst s1 s2 s3
        have S4 := hid s4
        clear ht2 s4 hj
        go_wp2_with fail
        go_region_held3 (fun w' => w'.cell? (a1.add (j * 4)) = some (.int .i64 kd) ∧ w'.cell? ⟨(a1.add (j * 4)).block, (a1.add (j * 4)).off + 1, none⟩ = some (.string ⟨tx.toArray⟩) ∧ w'.cell? ⟨(a1.add (j * 4)).block, (a1.add (j * 4)).off + 2, none⟩ = some (.int .i64 n) ∧ w'.cell? ⟨(a1.add (j * 4)).block, (a1.add (j * 4)).off + 3, none⟩ = some (.int .i64 ps) ∧ w'.cell? (a2.add (j * 4)) = some (.int .i64 kd) ∧ w'.cell? ⟨(a2.add (j * 4)).block, (a2.add (j * 4)).off + 1, none⟩ = some (.string ⟨tx.toArray⟩) ∧ w'.cell? ⟨(a2.add (j * 4)).block, (a2.add (j * 4)).off + 2, none⟩ = some (.int .i64 n) ∧ w'.cell? ⟨(a2.add (j * 4)).block, (a2.add (j * 4)).off + 3, none⟩ = some (.int .i64 ps2)) (first | with_reducible exact ⟨y0, y1, y2, y3, z0, z1, z2, z3⟩ | go_keep) (fail)
        all_goals
          go_wp2_with fail
          have hjg := HJ.out
          go_roundg (gk - 1)
          case rel => exact ⟨j + 1, by omega, by go_num, hid (by have h9 := hb.out; have hz := h9.size; go_grown)⟩
          case measure => omega
      · obtain rfl : j = l.length := by omega
        clear hj
        go_wp2_with fail
        go_ret
        exact ⟨rfl, hb.out⟩
  · go_enter Tryd.func12, Tryd.ntmps12
    go_wp2_with fail
    go_loopg [7] l.length (fun g i wr => ∃ j : Nat, j + g = l.length ∧ i = .int .i64 j ∧ Hid (Below w.heap.size w wr))
    case atStart => exact ⟨0, by omega, rfl, hid (Below.refl _ _)⟩
    case round =>
      obtain ⟨j, hj, rfl, hb⟩ := hrel
      have HJ := hid hj
      by_cases hlt : j < l.length
      · have hlt' : (j : Int) < l.length := by omega
        obtain ⟨a1, rfl, p0, y0, y1, y2, y3⟩ := (H.out.1.up hb.out) j hlt
        obtain ⟨a2, rfl, q0, z0, z1, z2, z3⟩ := (H.out.2.1.up hb.out) j (by have := HL.out; omega)
        obtain ⟨⟨s1, s2, s3⟩, s4⟩ := H.out.2.2 j hlt (by have := HL.out; omega)
        generalize l[j] = t1 at y0 y1 y2 y3 s1 s2 s3 s4
        obtain ⟨t2, ht2⟩ : ∃ t2, t2 = k[j]'(by have := HL.out; omega) := ⟨_, rfl⟩
        rw [← ht2] at z0 z1 z2 z3 s1 s2 s3 s4
        obtain ⟨kd, tx, n, ps⟩ := t1
        obtain ⟨kd2, tx2, n2, ps2⟩ := t2
        dsimp only at y0 y1 y2 y3 z0 z1 z2 z3 s1 s2 s3 s4
        subst s1 s2 s3
        have S4 := hid s4
        clear ht2 s4 hj
        obtain rfl := S4.out trivial
        go_wp2_with fail
        go_region_held3 (fun w' => w'.cell? (a1.add (j * 4)) = some (.int .i64 kd) ∧ w'.cell? ⟨(a1.add (j * 4)).block, (a1.add (j * 4)).off + 1, none⟩ = some (.string ⟨tx.toArray⟩) ∧ w'.cell? ⟨(a1.add (j * 4)).block, (a1.add (j * 4)).off + 2, none⟩ = some (.int .i64 n) ∧ w'.cell? ⟨(a1.add (j * 4)).block, (a1.add (j * 4)).off + 3, none⟩ = some (.int .i64 ps) ∧ w'.cell? (a2.add (j * 4)) = some (.int .i64 kd) ∧ w'.cell? ⟨(a2.add (j * 4)).block, (a2.add (j * 4)).off + 1, none⟩ = some (.string ⟨tx.toArray⟩) ∧ w'.cell? ⟨(a2.add (j * 4)).block, (a2.add (j * 4)).off + 2, none⟩ = some (.int .i64 n) ∧ w'.cell? ⟨(a2.add (j * 4)).block, (a2.add (j * 4)).off + 3, none⟩ = some (.int .i64 ps)) (first | with_reducible exact ⟨y0, y1, y2, y3, z0, z1, z2, z3⟩ | go_keep) (fail)
        all_goals
          go_wp2_with fail
          have hjg := HJ.out
          go_roundg (gk - 1)
          case rel => exact ⟨j + 1, by omega, by go_num, hid (by have h9 := hb.out; have hz := h9.size; go_grown)⟩
          case measure => omega
      · obtain rfl : j = l.length := by omega
        clear hj
        go_wp2_with fail
        go_ret
        exact ⟨rfl, hb.out⟩
theorem rf_Same_nil (w : World) : Calls Tryd.prog 12 #[.slice none 0 0, .slice none 0 0, .bool true] w fun e w' => e = .returned (.bool true) ∧ Below w.heap.size w w' :=
  rf_Same [] [] none none 0 0 true w (RdT.nil _ _) (RdT.nil _ _) rfl (Nat.zero_le _) (fun i h => absurd h (Nat.not_lt_zero _))
end Go.Proofs.YtngbaghkjaibeaaDoor
