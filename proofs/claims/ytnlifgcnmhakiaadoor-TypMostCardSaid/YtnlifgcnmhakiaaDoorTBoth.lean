/-
  THE WALKS OF athanorlaw15.both and few; athanorref15.Fresh.
-/
import Derived.Test.YtnlifgcnmhakiaaDoorTFresh
import Derived.Deep.RegionLaw
namespace Go.Proofs.YtnlifgcnmhakiaaDoor
open Go.ChangeShapes Go.WideShapes Go.ChangeAt Go.RowKit

/-- few: from 1 to 12. -/
def fewF (n : Int) : Nat := (n % 12).toNat + 1
theorem fewF_le (n : Int) : 1 ≤ fewF n ∧ fewF n ≤ 12 := by unfold fewF; omega
theorem law15_few (n : Int) (h : (Lit.int .u8 n).wf = true) (w : World) : Calls Tryd.prog 13 #[.int .u8 n] w fun e w' => e = .returned (.int .i64 (fewF n)) ∧ w = w' := by
  have hn : 0 ≤ n ∧ n ≤ 255 := by simp [Lit.wf, IntKind.min, IntKind.max, IntKind.signed, IntKind.bits] at h; omega
  have e : ((fewF n : Nat) : Int) = n % 12 + 1 := by unfold fewF; omega
  rw [e]
  have h0 := hn.1
  have h1 := hn.2
  clear h hn e
  go_enter Tryd.func13, Tryd.ntmps13
  go_wp2
  go_ret
  refine ⟨ret_int ?_, rfl⟩
  first | rfl | (simp; done) | omega
/-- Free variables of the document's, in cells. -/
def freeR : List Value := [.int .i64 0, .string ⟨#[]⟩, .int .i64 0, .slice none 0 0]
def freesR : Nat → List Value
  | 0 => []
  | n + 1 => freesR n ++ freeR
theorem freesR_length (n : Nat) : (freesR n).length = n * 4 := by
  induction n with
  | zero => rfl
  | succ n ih => rw [freesR, List.length_append, ih]; simp [freeR]; omega
theorem freesR_get {n i j : Nat} (hi : i < n) (hj : j < 4) : (freesR n)[i * 4 + j]? = freeR[j]? := by
  induction n with
  | zero => omega
  | succ n ih =>
    rw [freesR]
    by_cases h : i = n
    · subst h
      rw [List.getElem?_append_right (by rw [freesR_length]; omega), freesR_length, Nat.add_sub_cancel_left]
    · rw [List.getElem?_append_left (by rw [freesR_length]; omega)]
      exact ih (by omega)
/-- A solver of the document's whose variables are all free. -/
structure FrR (w : World) (p B n : Nat) (v : Value) : Prop where
  blk : Blk w p 61 #[v, .int .i64 0]
  row : w.ownsRow B 24 4 v n (freesR n)
theorem FrR.keep {w w' : World} {p B n : Nat} {v : Value} (h : FrR w p B n v) (h1 : w'.heap[p]? = w.heap[p]?) (h2 : ∀ g, v.ownBlock = some g → w'.heap[g]? = w.heap[g]?) : FrR w' p B n v := ⟨h1.trans h.blk, row_keep h.row h2⟩
theorem FrR.ne {w : World} {p B n : Nat} {v : Value} (h : FrR w p B n v) : v.ownBlock ≠ some p := by
  intro e
  rcases h.row.2 with ⟨rfl, _⟩ | ⟨g, cap, cur, rfl, _, hg, _⟩
  · cases e
  · have e2 : g = p := by simpa [Value.ownBlock] using e
    subst e2
    have := hg.symm.trans h.blk
    simp at this
theorem fresh_row {w : World} {B n : Nat} {v : Value} (h : w.ownsRow B 24 4 v (n + 1) (freesR n ++ freeR)) : ∃ g cap cur, v = .slice (some ⟨g, 0, none⟩) (n + 1) cap ∧ n + 1 ≤ cap ∧ Blk w g 24 cur ∧ ∀ j, j < 4 → cur[n * 4 + j]? = freeR[j]? := by
  rcases h.2 with ⟨_, h0⟩ | ⟨g, cap, cur, rfl, _, hg, hc, _, hcs, ht⟩
  · omega
  · refine ⟨g, cap, cur, rfl, hc, hg, fun j hj => ?_⟩
    have h1 : (freesR n ++ freeR)[n * 4 + j]? = freeR[j]? := by rw [List.getElem?_append_right (by rw [freesR_length]; omega), freesR_length, Nat.add_sub_cancel_left]
    rw [← h1, ← ht, List.getElem?_take_of_lt (by omega)]
    simp
theorem set_same {w : World} {g : Nat} {t : TypeId} {cs : Array Value} {i : Nat} {v : Value} (h : Blk w g t cs) (hc : cs[i]? = some v) : ∀ k : Nat, (w.setCell ⟨g, i, none⟩ v).heap[k]? = w.heap[k]? := by
  intro k
  by_cases hk : k = g
  · subst hk
    have e : cs.setIfInBounds i v = cs := by
      apply Array.ext_getElem?
      intro j
      by_cases hj : j = i
      · subst hj
        obtain ⟨hl, _⟩ := Array.getElem?_eq_some_iff.1 hc
        rw [Array.getElem?_setIfInBounds_self_of_lt hl, hc]
      · rw [Array.getElem?_setIfInBounds_ne (by omega)]
    have := h.set_ i v
    rw [e] at this
    exact this.trans h.symm
  · exact Below.heap_setCell _ ⟨g, i, none⟩ _ k hk
theorem set4o_same {w : World} {g o : Nat} {t : TypeId} {cs : Array Value} {v0 v1 v2 v3 : Value} (h : Blk w g t cs) (h0 : cs[o]? = some v0) (h1 : cs[o + 1]? = some v1) (h2 : cs[o + 2]? = some v2) (h3 : cs[o + 3]? = some v3) :
    ∀ k : Nat, ((((w.setCell ⟨g, o, none⟩ v0).setCell ⟨g, o + 1, none⟩ v1).setCell ⟨g, o + 2, none⟩ v2).setCell ⟨g, o + 3, none⟩ v3).heap[k]? = w.heap[k]? := by
  intro k
  have b0 : Blk (w.setCell ⟨g, o, none⟩ v0) g t cs := (set_same h h0 g).trans h
  have b1 : Blk ((w.setCell ⟨g, o, none⟩ v0).setCell ⟨g, o + 1, none⟩ v1) g t cs := (set_same b0 h1 g).trans b0
  have b2 : Blk (((w.setCell ⟨g, o, none⟩ v0).setCell ⟨g, o + 1, none⟩ v1).setCell ⟨g, o + 2, none⟩ v2) g t cs := (set_same b1 h2 g).trans b1
  exact (set_same b2 h3 k).trans ((set_same b1 h2 k).trans ((set_same b0 h1 k).trans (set_same h h0 k)))
/-- The document's solver behind an append. -/
structure FrE (p g2 n cap2 : Nat) (w2 W : World) : Prop where
  blk : Blk W p 61 #[.slice (some ⟨g2, 0, none⟩) (n + 1) cap2, .int .i64 0]
  same : ∀ k, k ≠ p → W.heap[k]? = w2.heap[k]?
  kp : Kept (fun b => b = p) w2 W
theorem Kept.same {S T : Nat → Prop} {A B : World} (h : Kept T A B) (hs : ∀ k : Nat, ¬ S k → B.heap[k]? = A.heap[k]?) : Kept S A B := ⟨h.os, h.tape, h.output, h.size, fun k _ hn => hs k hn⟩
theorem Kept.set4o {S : Nat → Prop} {A w : World} (h : Kept S A w) {g o : Nat} {v0 v1 v2 v3 : Value} (hg : S g ∨ A.heap.size ≤ g) : Kept S A ((((w.setCell ⟨g, o, none⟩ v0).setCell ⟨g, o + 1, none⟩ v1).setCell ⟨g, o + 2, none⟩ v2).setCell ⟨g, o + 3, none⟩ v3) :=
  (((h.setCell (p := ⟨g, o, none⟩) hg v0).setCell (p := ⟨g, o + 1, none⟩) hg v1).setCell (p := ⟨g, o + 2, none⟩) hg v2).setCell (p := ⟨g, o + 3, none⟩) hg v3
theorem FrE.kept {p g2 n cap2 : Nat} {A w2 W : World} {T : Nat → Prop} (h : FrE p g2 n cap2 w2 W) (hk : Kept (fun b => b = p ∨ T b) A w2) : Kept (fun b => b = p ∨ T b) A W := hk.then h.kp (fun _ _ e => e) (fun _ _ e => .inl e)
section
variable {p g2 n cap2 : Nat} {w2 : World} {cur2 : Array Value} {x : Value}
theorem FrE.one (hb : Blk w2 g2 24 cur2) (hp : Blk w2 p 61 #[x, .int .i64 0]) (hgp : ¬ g2 = p) (h0 : cur2[n * 4]? = some (.int .i64 0)) (h1 : cur2[n * 4 + 1]? = some (.string ⟨#[]⟩)) (h2 : cur2[n * 4 + 2]? = some (.int .i64 0)) (h3 : cur2[n * 4 + 3]? = some (.slice none 0 0)) :
    FrE p g2 n cap2 w2 (((((w2.setCell ⟨p, 0, none⟩ (.slice (some ⟨g2, 0, none⟩) (n + 1) cap2)).setCell ⟨g2, n * 4, none⟩ (.int .i64 0)).setCell ⟨g2, n * 4 + 1, none⟩ (.string ⟨#[]⟩)).setCell ⟨g2, n * 4 + 2, none⟩ (.int .i64 0)).setCell ⟨g2, n * 4 + 3, none⟩ (.slice none 0 0)) := by
  have b1 : Blk (w2.setCell ⟨p, 0, none⟩ (.slice (some ⟨g2, 0, none⟩) (n + 1) cap2)) g2 24 cur2 := hb.far (p := ⟨p, 0, none⟩) hgp _
  have hs := set4o_same b1 h0 h1 h2 h3
  have hs2 : ∀ k : Nat, k ≠ p → _ := fun k hk => (hs k).trans (Below.heap_setCell w2 ⟨p, 0, none⟩ (.slice (some ⟨g2, 0, none⟩) (n + 1) cap2) k hk)
  have hb2 : Blk (w2.setCell ⟨p, 0, none⟩ (.slice (some ⟨g2, 0, none⟩) (n + 1) cap2)) p 61 #[.slice (some ⟨g2, 0, none⟩) (n + 1) cap2, .int .i64 0] := hp.set_ 0 _
  exact ⟨(hs p).trans hb2, hs2, Kept.same (T := fun b => b = p ∨ b = g2) (((Kept.refl _ w2).setCell (p := ⟨p, 0, none⟩) (.inl (.inl rfl)) _).set4o (.inl (.inr rfl))) hs2⟩
theorem FrE.two (hb : Blk w2 g2 24 cur2) (hp : Blk w2 p 61 #[x, .int .i64 0]) (_hgp : ¬ g2 = p) (h0 : cur2[n * 4]? = some (.int .i64 0)) (h1 : cur2[n * 4 + 1]? = some (.string ⟨#[]⟩)) (h2 : cur2[n * 4 + 2]? = some (.int .i64 0)) (h3 : cur2[n * 4 + 3]? = some (.slice none 0 0)) :
    FrE p g2 n cap2 w2 (((((w2.setCell ⟨g2, n * 4, none⟩ (.int .i64 0)).setCell ⟨g2, n * 4 + 1, none⟩ (.string ⟨#[]⟩)).setCell ⟨g2, n * 4 + 2, none⟩ (.int .i64 0)).setCell ⟨g2, n * 4 + 3, none⟩ (.slice none 0 0)).setCell ⟨p, 0, none⟩ (.slice (some ⟨g2, 0, none⟩) (n + 1) cap2)) := by
  have hs := set4o_same hb h0 h1 h2 h3
  have hp2 : Blk ((((w2.setCell ⟨g2, n * 4, none⟩ (.int .i64 0)).setCell ⟨g2, n * 4 + 1, none⟩ (.string ⟨#[]⟩)).setCell ⟨g2, n * 4 + 2, none⟩ (.int .i64 0)).setCell ⟨g2, n * 4 + 3, none⟩ (.slice none 0 0)) p 61 #[x, .int .i64 0] := (hs p).trans hp
  have hs2 : ∀ k : Nat, k ≠ p → _ := fun k hk => (Below.heap_setCell _ ⟨p, 0, none⟩ (.slice (some ⟨g2, 0, none⟩) (n + 1) cap2) k hk).trans (hs k)
  exact ⟨hp2.set_ 0 _, hs2, Kept.same (T := fun b => b = p ∨ b = g2) (((Kept.refl _ w2).set4o (.inl (.inr rfl))).setCell (p := ⟨p, 0, none⟩) (.inl (.inl rfl)) _) hs2⟩
end
def FreshRP (p B n : Nat) (v : Value) (w : World) (e : Ending) (w' : World) : Prop :=
  e = .returned (.agg #[.int .i64 2, .string ⟨#[]⟩, .int .i64 ((n : Int) + 1), .slice none 0 0]) ∧ (∃ v', FrR w' p B (n + 1) v' ∧ (∀ g, v'.ownBlock = some g → v.ownBlock = some g ∨ w.heap.size ≤ g)) ∧ Kept (fun b => b = p ∨ v.ownBlock = some b) w w'
set_option maxHeartbeats 4000000 in
set_option maxRecDepth 100000 in
theorem ref15_Fresh (p B n : Nat) (v : Value) (w : World) (h : FrR w p B n v) (hn : n ≤ 900) (hB : B ≤ w.heap.size) : Calls Tryd.prog 30 #[.pointer (some ⟨p, 0, none⟩)] w (FreshRP p B n v w) := by
  have H := hid h
  have HB := hid hB
  have hne := hid h.ne
  have hpl := h.blk.lt
  have a1 : ∀ o, (w.alloc o).cell? ⟨p, 0, none⟩ = some v := fun o => (h.blk.alloc o).cell 0
  obtain ⟨A, c, rfl, _⟩ := row_slice h.row
  have HP := hid hpl
  have hrl := hid (fun g (hg : (Value.slice A n c).ownBlock = some g) => (h.row.lt g hg).2)
  have f0 : ∀ o, (w.alloc o).frozen? ⟨p, 0, none⟩ = false := fun o => (h.blk.alloc o).frozen 0
  have a2 : ∀ o o', ((w.alloc o).alloc o').cell? ⟨p, 0, none⟩ = some (.slice A n c) := fun o o' => ((h.blk.alloc o).alloc o').cell 0
  have hn0 : (0 : Int) ≤ (n : Int) := by omega
  have hn1 : (n : Int) < (n : Int) + 1 := by omega
  have hn2' : (n : Int) + 1 ≤ 901 := by omega
  have HNN := hid hn
  clear h hB hpl hn
  go_enter Tryd.func30, Tryd.ntmps30
  go_wp2
  go_region_law (first
    | (refine step_appG Tryd.underlying22 info_type rfl (by omega) (by omega) (by rfl) _ _ (by rfl) B (by rfl) (n := n) (xs := freesR n) (row_keep H.out.row (fun g hg => (by go_grown : Below w.heap.size w _).block g (hrl.out g hg))) (by rfl) (news := freeR) (by rfl) (cells_lit (w.alloc _) (by simp) _ _ _ _ _) (by simp [freeR, Value.oneCell']) (by omega) (by have := HB.out; simp; omega) ?_; intro v' w2 hr2 hg2 hn2; obtain ⟨g2, cap2, cur2, rfl, hcap, hw2, hz⟩ := fresh_row hr2; have hz0 := hz 0 (by omega); have hz1 := hz 1 (by omega); have hz2 := hz 2 (by omega); have hz3 := hz 3 (by omega); have y0 : w2.cell? ⟨g2, n * 4, none⟩ = some (.int .i64 0) := (Blk.cell hw2 _).trans hz0; have y1 : w2.cell? ⟨g2, n * 4 + 1, none⟩ = some (.string ⟨#[]⟩) := (Blk.cell hw2 _).trans hz1; have y2 : w2.cell? ⟨g2, n * 4 + 2, none⟩ = some (.int .i64 0) := (Blk.cell hw2 _).trans hz2; have y3 : w2.cell? ⟨g2, n * 4 + 3, none⟩ = some (.slice none 0 0) := (Blk.cell hw2 _).trans hz3; have k0 := Blk.frozen hw2 (n * 4); have k1 := Blk.frozen hw2 (n * 4 + 1); have k2 := Blk.frozen hw2 (n * 4 + 2); have k3 := Blk.frozen hw2 (n * 4 + 3); have P2 : Blk w2 p 61 #[.slice A n c, .int .i64 0] := ((hg2.block p (by have := HP.out; simp; omega) (fun e => hne.out e.symm)).trans ((by go_grown : Below w.heap.size w _).block p HP.out)).trans H.out.blk; have hgp : ¬ g2 = p := (fun e => by have h1 := Blk.ne_ hw2 P2 (by decide); exact h1 e); have hpg : ¬ p = g2 := (fun e => hgp e.symm); have p0 : w2.cell? ⟨p, 0, none⟩ = some (.slice A n c) := P2.cell 0; have pf := P2.frozen 0; have HQ := hid (And.intro hr2 (And.intro hg2 (And.intro hn2 (And.intro hw2 (And.intro P2 (And.intro hz0 (And.intro hz1 (And.intro hz2 hz3)))))))); clear hr2 hg2 hn2 hw2 P2 hz hz0 hz1 hz2 hz3))
  all_goals
    have hq := HQ.out
    have E1 : FrE p g2 n cap2 w2 (((((w2.setCell ⟨p, 0, none⟩ (.slice (some ⟨g2, 0, none⟩) (n + 1) cap2)).setCell ⟨g2, n * 4, none⟩ (.int .i64 0)).setCell ⟨g2, n * 4 + 1, none⟩ (.string ⟨#[]⟩)).setCell ⟨g2, n * 4 + 2, none⟩ (.int .i64 0)).setCell ⟨g2, n * 4 + 3, none⟩ (.slice none 0 0)) := FrE.one hq.2.2.2.1 hq.2.2.2.2.1 hgp hq.2.2.2.2.2.1 hq.2.2.2.2.2.2.1 hq.2.2.2.2.2.2.2.1 hq.2.2.2.2.2.2.2.2
    have E2 : FrE p g2 n cap2 w2 (((((w2.setCell ⟨g2, n * 4, none⟩ (.int .i64 0)).setCell ⟨g2, n * 4 + 1, none⟩ (.string ⟨#[]⟩)).setCell ⟨g2, n * 4 + 2, none⟩ (.int .i64 0)).setCell ⟨g2, n * 4 + 3, none⟩ (.slice none 0 0)).setCell ⟨p, 0, none⟩ (.slice (some ⟨g2, 0, none⟩) (n + 1) cap2)) := FrE.two hq.2.2.2.1 hq.2.2.2.2.1 hgp hq.2.2.2.2.2.1 hq.2.2.2.2.2.2.1 hq.2.2.2.2.2.2.2.1 hq.2.2.2.2.2.2.2.2
    have O2 : w2.heap[w.heap.size]? = some (.cells #[.int .i64 0, .string ⟨#[]⟩, .int .i64 0, .slice none 0 0] 24 (0, 0)) := (hq.2.1.block w.heap.size (by simp; omega) (fun e => by have := hrl.out _ e.symm; omega)).trans ((Below.heap_alloc _ _ _ (by simp)).trans (Blk.new w 24 #[.int .i64 0, .string ⟨#[]⟩, .int .i64 0, .slice none 0 0]))
    have HH := hid (And.intro hq.1 (And.intro hq.2.1 hq.2.2.1))
    clear hq HQ y0 y1 y2 y3 k0 k1 k2 k3 p0 pf hgp hpg a1 a2 f0
    first
      | (obtain ⟨W, hW⟩ : ∃ W, W = (((((w2.setCell ⟨p, 0, none⟩ (.slice (some ⟨g2, 0, none⟩) (n + 1) cap2)).setCell ⟨g2, n * 4, none⟩ (.int .i64 0)).setCell ⟨g2, n * 4 + 1, none⟩ (.string ⟨#[]⟩)).setCell ⟨g2, n * 4 + 2, none⟩ (.int .i64 0)).setCell ⟨g2, n * 4 + 3, none⟩ (.slice none 0 0)) := ⟨_, rfl⟩; rw [← hW]; rw [← hW] at E1; have E := E1; clear E1 E2 hW)
      | (obtain ⟨W, hW⟩ : ∃ W, W = (((((w2.setCell ⟨g2, n * 4, none⟩ (.int .i64 0)).setCell ⟨g2, n * 4 + 1, none⟩ (.string ⟨#[]⟩)).setCell ⟨g2, n * 4 + 2, none⟩ (.int .i64 0)).setCell ⟨g2, n * 4 + 3, none⟩ (.slice none 0 0)).setCell ⟨p, 0, none⟩ (.slice (some ⟨g2, 0, none⟩) (n + 1) cap2)) := ⟨_, rfl⟩; rw [← hW]; rw [← hW] at E2; have E := E2; clear E1 E2 hW)
    have p0 : W.cell? ⟨p, 0, none⟩ = some (.slice (some ⟨g2, 0, none⟩) (n + 1) cap2) := E.blk.cell 0
    have O4 : Blk W w.heap.size 24 #[.int .i64 0, .string ⟨#[]⟩, .int .i64 0, .slice none 0 0] := (E.same _ (by have := HP.out; omega)).trans O2
    have x0 : W.cell? ⟨w.heap.size, 0, none⟩ = some (Value.int .i64 0) := O4.cell 0
    have x1 : W.cell? ⟨w.heap.size, 1, none⟩ = some (Value.string ⟨#[]⟩) := O4.cell 1
    have x2 : W.cell? ⟨w.heap.size, 2, none⟩ = some (Value.int .i64 0) := O4.cell 2
    have x3 : W.cell? ⟨w.heap.size, 3, none⟩ = some (Value.slice none 0 0) := O4.cell 3
    have g0 := O4.frozen 0
    have g1 := O4.frozen 1
    have g2' := O4.frozen 2
    have g3 := O4.frozen 3
    have HE := hid (And.intro E O4)
    clear E O4 O2
    clear hcap
    go_wp2
    have hh := HH.out
    have hpw : p ≠ w.heap.size := by have := HP.out; omega
    have hgw : ∀ g, (Value.slice (some ⟨g2, 0, none⟩) (n + 1) cap2).ownBlock = some g → (Value.slice A n c).ownBlock = some g ∨ w.heap.size + 1 ≤ g := fun g hg => by
      rcases hh.2.2 g hg with h | h
      · exact .inl h
      · right
        have h2 : w.heap.size + 1 ≤ ((w.alloc (.cells #[.int .i64 0, .string ⟨#[]⟩, .int .i64 0, .slice none 0 0] 24)).alloc (.cells #[.int .i64 0, .string ⟨#[]⟩, .int .i64 0, .slice none 0 0] 24)).heap.size := by simp
        exact Nat.le_trans h2 h
    have hrow : ∀ g, (Value.slice (some ⟨g2, 0, none⟩) (n + 1) cap2).ownBlock = some g → g ≠ p := fun g hg e => by
      obtain rfl : g2 = g := by simpa [Value.ownBlock] using hg
      subst e
      rcases hgw g2 hg with h | h
      · exact hne.out h
      · have := HP.out; omega
    refine ret_type rfl (by rfl) (set4_blk HE.out.2) rfl ⟨rfl, ⟨_, ⟨(set4_other hpw).trans HE.out.1.blk, row_keep hh.1 (fun g hg => (set4_other (by rcases hgw g hg with h | h; have := hrl.out g h; omega; omega)).trans (HE.out.1.same g (hrow g hg)))⟩, fun g hg => by rcases hgw g hg with h | h; exact .inl h; right; omega⟩, ?_⟩
    exact (HE.out.1.kept (((Kept.refl (fun b => b = p ∨ (Value.slice A n c).ownBlock = some b) w).alloc _).alloc _ |>.drew |>.grown hh.2.1 (fun k e => .inl (.inr e)))).set4 (Nat.le_refl _)
theorem Fr.rowBlk {w : World} {p B n : Nat} {v : Value} (h : Fr w p B n v) {g : Nat} (hg : v.ownBlock = some g) : B ≤ g ∧ ∃ cur, Blk w g 85 cur := by
  rcases h.row.2 with ⟨rfl, _⟩ | ⟨g', cap, cur, rfl, hB, hg', _⟩
  · cases hg
  · obtain rfl : g' = g := by simpa [Value.ownBlock] using hg
    exact ⟨hB, cur, hg'⟩
theorem FrR.rowBlk {w : World} {p B n : Nat} {v : Value} (h : FrR w p B n v) {g : Nat} (hg : v.ownBlock = some g) : B ≤ g ∧ ∃ cur, Blk w g 24 cur := by
  rcases h.row.2 with ⟨rfl, _⟩ | ⟨g', cap, cur, rfl, hB, hg', _⟩
  · cases hg
  · obtain rfl : g' = g := by simpa [Value.ownBlock] using hg
    exact ⟨hB, cur, hg'⟩
theorem FrR.keptS {w w' : World} {p rp B n m : Nat} {v rv : Value} (h : FrR w rp B m rv) (hs : Fr w p B n v) (hk : Kept (fun b => b = p ∨ v.ownBlock = some b) w w') : FrR w' rp B m rv := by
  refine h.keep (hk.block _ h.blk.lt ?_) (fun g hg => hk.block _ (h.row.lt g hg).2 ?_)
  · rintro (e | e)
    · exact (h.blk.ne_ hs.blk (by decide)) e
    · obtain ⟨_, cur, hb⟩ := hs.rowBlk e
      exact (h.blk.ne_ hb (by decide)) rfl
  · obtain ⟨_, cur, hb⟩ := h.rowBlk hg
    rintro (e | e)
    · exact (hb.ne_ hs.blk (by decide)) e
    · obtain ⟨_, cur2, hb2⟩ := hs.rowBlk e
      exact (hb.ne_ hb2 (by decide)) rfl
theorem Fr.keptR {w w' : World} {p rp B n m : Nat} {v rv : Value} (h : Fr w p B m v) (hs : FrR w rp B n rv) (hk : Kept (fun b => b = rp ∨ rv.ownBlock = some b) w w') : Fr w' p B m v := by
  refine h.keep (hk.block _ h.blk.lt ?_) (fun g hg => hk.block _ (h.row.lt g hg).2 ?_)
  · rintro (e | e)
    · exact (h.blk.ne_ hs.blk (by decide)) e
    · obtain ⟨_, cur, hb⟩ := hs.rowBlk e
      exact (h.blk.ne_ hb (by decide)) rfl
  · obtain ⟨_, cur, hb⟩ := h.rowBlk hg
    rintro (e | e)
    · exact (hb.ne_ hs.blk (by decide)) e
    · obtain ⟨_, cur2, hb2⟩ := hs.rowBlk e
      exact (hb.ne_ hb2 (by decide)) rfl
/-- What both tells. -/
def BothP (n : Nat) (w : World) (e : Ending) (w' : World) : Prop :=
  (∃ v rv, e = .returned (.tuple #[.pointer (some ⟨w.heap.size, 0, none⟩), .pointer (some ⟨w.heap.size + 1, 0, none⟩)]) ∧ Fr w' w.heap.size w.heap.size n v ∧ FrR w' (w.heap.size + 1) w.heap.size n rv) ∧ Below w.heap.size w w'
set_option maxHeartbeats 4000000 in
set_option maxRecDepth 100000 in
theorem law15_both (n : Nat) (hn : n ≤ 900) (w : World) : Calls Tryd.prog 14 #[.int .i64 n] w (BothP n w) := by
  have HN := hid hn
  clear hn
  have hL : (n : Int) ≤ 900 := by have := HN.out; omega
  go_enter Tryd.func14, Tryd.ntmps14
  go_wp2_with (go_at_call 18; go_must (refine (typ_New _).mono ?_); rintro e w1 ⟨rfl, rfl⟩)
  go_loopg [6] n (fun g x wr => ∃ (i : Nat) (v rv : Value), i + g = n ∧ x = .int .i64 i ∧ Hid (Fr wr w.heap.size w.heap.size i v) ∧ Hid (FrR wr (w.heap.size + 1) w.heap.size i rv) ∧ Hid (Below w.heap.size w wr))
  case atStart => exact ⟨0, _, _, by omega, rfl, hid ((Fr.new w _).keep (Below.heap_alloc _ _ _ (by simp)) (fun g hg => by cases hg)), hid ⟨Blk.new' (by simp) _ _, World.ownsRow_nil _ _ _ _⟩, hid (below_2 (Below.refl _ _) _ _)⟩
  case round =>
    obtain ⟨i, v, rv, hi, rfl, hF, hR, hB⟩ := hrel
    have Hi := hid hi
    by_cases hlt : i < n
    · have hlt' : (i : Int) < n := by omega
      have hiw : IntKind.i64.wrap ((i : Int) + 1) = i + 1 := IntWalk.i64_in _ (by omega)
      have hi9 := hid (show i ≤ 900 by have := HN.out; omega)
      clear hi hlt
      go_wp2_with (first
        | (go_at_call 19; go_must (refine (typ_Fresh w.heap.size w.heap.size i v wr hF.out hi9.out hB.out.size).mono ?_); rintro e w1 ⟨rfl, ⟨v', F1, hn1⟩, K1⟩; go_must (have Q1 := hid (And.intro F1 (And.intro (hR.out.keptS hF.out K1) (hB.out.trans (K1.below hB.out.size (fun b hb => by rcases hb with rfl | hb; exact Nat.le_refl _; exact (hF.out.rowBlk hb).1))))); clear F1 hn1 K1))
        | (go_at_call 30; go_must (refine (ref15_Fresh (w.heap.size + 1) w.heap.size i rv w1 Q1.out.2.1 hi9.out Q1.out.2.2.size).mono ?_); rintro e w2 ⟨rfl, ⟨rv', F2, hn2⟩, K2⟩; go_must (have Q2 := hid (And.intro (Q1.out.1.keptR Q1.out.2.1 K2) (And.intro F2 (Q1.out.2.2.trans (K2.below Q1.out.2.2.size (fun b hb => by rcases hb with rfl | hb; omega; exact (Q1.out.2.1.rowBlk hb).1))))); clear F2 hn2 K2)))
      have hgk := Hi.out
      go_roundg (gk - 1)
      case rel => exact ⟨i + 1, v', rv', by omega, rfl, hid Q2.out.1, hid Q2.out.2.1, hid Q2.out.2.2⟩
      case measure => omega
    · obtain rfl : i = n := by omega
      clear hi
      go_wp2
      refine bodyPost_ret (results_tmp2 rfl _ _ _) rfl ?_
      exact ⟨⟨v, rv, rfl, hF.out, hR.out⟩, hB.out⟩
end Go.Proofs.YtnlifgcnmhakiaaDoor
