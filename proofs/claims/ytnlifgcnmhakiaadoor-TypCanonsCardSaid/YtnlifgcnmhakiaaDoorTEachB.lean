/-
  THE WALK OF links.each, with bind's function: what is met first.
-/
import Derived.Test.YtnlifgcnmhakiaaDoorTKept
namespace Go.Proofs.YtnlifgcnmhakiaaDoor
open Go.ChangeShapes Go.WideShapes Go.ChangeAt Go.RowKit

/-- What bind's cells hold: how many nodes are left, the error, the variable. -/
structure EB (gl ge gn : Nat) (n : Int) (r : Nat × Int) (w : World) : Prop where
  left : ∃ l : Int, Blk w gl 3 #[.int .i64 l] ∧ (r.2 = 0 → l = 1024 - r.1)
  err : Blk w ge 27 #[.int .i64 r.2]
  var : Blk w gn 3 #[.int .i64 n]
  nle : gl ≠ ge
  nln : gl ≠ gn
  nen : ge ≠ gn
theorem EB.below {gl ge gn : Nat} {n : Int} {r : Nat × Int} {w w' : World} (h : EB gl ge gn n r w) (hb : Below w.heap.size w w') : EB gl ge gn n r w' := by
  obtain ⟨l, h1, h2⟩ := h.left
  exact ⟨⟨l, h1.below hb h1.lt, h2⟩, h.err.below hb h.err.lt, h.var.below hb h.var.lt, h.nle, h.nln, h.nen⟩
def EBf (gl ge : Nat) : Nat → Prop := fun b => b = gl ∨ b = ge
/-- What a node is met as. -/
def litR (n : Int) (c : Nat) (q m : Int) : Nat × Int := if c = 1024 then (c, 3) else if q = 2 ∧ m = n then (c + 1, 151) else (c + 1, 0)
/-- What bind's function tells, and each. -/
def LitP (gl ge gn : Nat) (n : Int) (r : Nat × Int) (w : World) (e : Ending) (w' : World) : Prop :=
  e = .returned (.bool (decide (r.2 = 0))) ∧ EB gl ge gn n r w' ∧ Kept (EBf gl ge) w w'
set_option maxHeartbeats 4000000 in
set_option maxRecDepth 100000 in
theorem bind_lit (gl ge gn : Nat) (n : Int) (c : Nat) (hc : c ≤ 1024) (q : Int) (s : ByteArray) (m : Int) (A : Option Addr) (k c2 : Nat) (w : World) (h : EB gl ge gn n (c, 0) w) :
    Calls Tryd.prog 62 #[.agg #[.int .i64 q, .string s, .int .i64 m, .slice A k c2], .pointer (some ⟨gl, 0, none⟩), .pointer (some ⟨ge, 0, none⟩), .pointer (some ⟨gn, 0, none⟩)] w (LitP gl ge gn n (litR n c q m) w) := by
  obtain ⟨l, hl, hl2⟩ := h.left
  obtain rfl : l = 1024 - c := hl2 rfl
  obtain ⟨o, ho⟩ : ∃ o, o = Obj.cells #[.int .i64 q, .string s, .int .i64 m, .slice A k c2] 24 := ⟨_, rfl⟩
  have hgl := hl.lt
  have hge := h.err.lt
  have hgn := h.var.lt
  have hne := h.nle
  have hne2 := h.nln
  have hne3 := h.nen
  have L0 := hl.alloc o
  have E0 := h.err.alloc o
  have N0 := h.var.alloc o
  have a0 : (w.alloc o).cell? ⟨gl, 0, none⟩ = some (.int .i64 (1024 - c)) := L0.cell 0
  have a1 := L0.frozen 0
  have K0 : Kept (EBf gl ge) w (w.alloc o) := (Kept.refl _ w).alloc o
  have X0 : Blk (w.alloc o) w.heap.size 24 #[.int .i64 q, .string s, .int .i64 m, .slice A k c2] := by subst ho; exact Blk.new _ _ _
  have q1 : IntKind.i64.wrap (1024 - (c : Int) - 1) = 1024 - c - 1 := IntWalk.i64_in _ (by omega)
  obtain ⟨w1, hw1⟩ : ∃ w1, w1 = (w.alloc o).setCell ⟨gl, 0, none⟩ (.int .i64 (1024 - c - 1)) := ⟨_, rfl⟩
  have L1 : Blk w1 gl 3 #[.int .i64 (1024 - c - 1)] := by rw [hw1]; exact L0.set0 _
  have E1 : Blk w1 ge 27 #[.int .i64 0] := by rw [hw1]; exact E0.far (p := ⟨gl, 0, none⟩) (by dsimp only; omega) _
  have N1 : Blk w1 gn 3 #[.int .i64 n] := by rw [hw1]; exact N0.far (p := ⟨gl, 0, none⟩) (by dsimp only; omega) _
  have X1 : Blk w1 w.heap.size 24 #[.int .i64 q, .string s, .int .i64 m, .slice A k c2] := by rw [hw1]; exact X0.far (p := ⟨gl, 0, none⟩) (by dsimp only; omega) _
  have K1 : Kept (EBf gl ge) w w1 := by rw [hw1]; exact K0.setCell (p := ⟨gl, 0, none⟩) (.inl (.inl rfl)) _
  have b0 : w1.cell? ⟨gl, 0, none⟩ = some (.int .i64 (1024 - c - 1)) := L1.cell 0
  have b1 : w1.cell? ⟨ge, 0, none⟩ = some (.int .i64 0) := E1.cell 0
  have b2 := E1.frozen 0
  have b3 : w1.cell? ⟨gn, 0, none⟩ = some (.int .i64 n) := N1.cell 0
  have x0 : w1.cell? ⟨w.heap.size, 0, none⟩ = some (.int .i64 q) := X1.cell 0
  have x2 : w1.cell? ⟨w.heap.size, 2, none⟩ = some (.int .i64 m) := X1.cell 2
  have E3 := E1.set0 (.int .i64 3)
  have E4 := E1.set0 (.int .i64 151)
  have e3 : (w1.setCell ⟨ge, 0, none⟩ (.int .i64 3)).cell? ⟨ge, 0, none⟩ = some (.int .i64 3) := E3.cell 0
  have e4 : (w1.setCell ⟨ge, 0, none⟩ (.int .i64 151)).cell? ⟨ge, 0, none⟩ = some (.int .i64 151) := E4.cell 0
  have P3 : EB gl ge gn n (c, 3) (w1.setCell ⟨ge, 0, none⟩ (.int .i64 3)) := ⟨⟨_, L1.far (p := ⟨ge, 0, none⟩) hne _, fun h => by cases h⟩, E3, N1.far (p := ⟨ge, 0, none⟩) (by dsimp only; omega) _, hne, hne2, hne3⟩
  have P4 : EB gl ge gn n (c + 1, 151) (w1.setCell ⟨ge, 0, none⟩ (.int .i64 151)) := ⟨⟨_, L1.far (p := ⟨ge, 0, none⟩) hne _, fun h => by cases h⟩, E4, N1.far (p := ⟨ge, 0, none⟩) (by dsimp only; omega) _, hne, hne2, hne3⟩
  have P0 : EB gl ge gn n (c + 1, 0) w1 := ⟨⟨_, L1, fun _ => by omega⟩, E1, N1, hne, hne2, hne3⟩
  have K3 : ∀ u, Kept (EBf gl ge) w (w1.setCell ⟨ge, 0, none⟩ u) := fun u => K1.setCell (p := ⟨ge, 0, none⟩) (.inl (.inr rfl)) u
  have HP := hid (And.intro P3 (And.intro P4 (And.intro P0 (And.intro K3 K1))))
  rw [hw1] at b0 b1 b2 b3 x0 x2 e3 e4 HP
  clear hl hl2 h hgl hge hgn L0 E0 N0 K0 X0 L1 E1 N1 X1 K1 E3 E4 P3 P4 P0 K3
  subst ho
  clear hw1 w1
  by_cases h1 : c = 1024
  · rw [show litR n c q m = (c, 3) from if_pos h1]
    have q2 : (1024 : Int) - c - 1 < 0 := by omega
    clear h1
    go_enter Tryd.func62, Tryd.ntmps62
    go_wp2
    go_ret
    exact ⟨ret_bool rfl, HP.out.1, HP.out.2.2.2.1 _⟩
  · have q2 : ¬ (1024 : Int) - c - 1 < 0 := by omega
    by_cases h2 : q = 2
    · by_cases h3 : m = n
      · rw [show litR n c q m = (c + 1, 151) from by unfold litR; rw [if_neg h1, if_pos ⟨h2, h3⟩]]
        subst h2 h3
        go_enter Tryd.func62, Tryd.ntmps62
        go_wp2
        go_ret
        exact ⟨ret_bool rfl, HP.out.2.1, HP.out.2.2.2.1 _⟩
      · rw [show litR n c q m = (c + 1, 0) from by unfold litR; rw [if_neg h1, if_neg (fun h => h3 h.2)]]
        subst h2
        go_enter Tryd.func62, Tryd.ntmps62
        go_wp2
        go_ret
        exact ⟨ret_bool rfl, HP.out.2.2.1, HP.out.2.2.2.2⟩
    · rw [show litR n c q m = (c + 1, 0) from by unfold litR; rw [if_neg h1, if_neg (fun h => h2 h.1)]]
      go_enter Tryd.func62, Tryd.ntmps62
      go_wp2
      go_ret
      exact ⟨ret_bool rfl, HP.out.2.2.1, HP.out.2.2.2.2⟩
theorem metL_drop {x : Int} {ts : List Ty} {i c : Nat} (h : i < ts.length) : metL x (ts.drop i) c = if (metT x ts[i] c).2 = 0 then metL x (ts.drop (i + 1)) (metT x ts[i] c).1 else metT x ts[i] c := by
  rw [List.drop_eq_getElem_cons h, metL]
theorem metT_lit {n q m : Int} {s : ByteArray} {vs : List Ty} {c : Nat} : metT n (.mk q s m vs) c = if (litR n c q m).2 = 0 then metL n vs (c + 1) else litR n c q m := by
  rw [metT]
  unfold litR
  by_cases h1 : c = 1024
  · rw [if_pos h1, if_pos h1, if_neg (by simp)]
  · rw [if_neg h1, if_neg h1]
    by_cases h2 : q = 2 ∧ m = n
    · rw [if_pos h2, if_pos h2, if_neg (by simp)]
    · rw [if_neg h2, if_neg h2, if_pos rfl]
theorem litR_ok {n q m : Int} {c : Nat} (hc : c ≤ 1024) (h : (litR n c q m).2 = 0) : litR n c q m = (c + 1, 0) ∧ c + 1 ≤ 1024 := by
  unfold litR at h ⊢
  by_cases h1 : c = 1024
  · rw [if_pos h1] at h; cases h
  · rw [if_neg h1] at h ⊢
    by_cases h2 : q = 2 ∧ m = n
    · rw [if_pos h2] at h; cases h
    · rw [if_neg h2]; exact ⟨rfl, by omega⟩
/-- The parts of a type that is written out. -/
theorem wrF_parts {σ : Sg} {k : Nat} {q m : Int} {s : ByteArray} {us : List Ty} {u : Ty} (hg : goodT σ.length (.mk q s m us) = true) (hf : q = 2 → bnd σ m = none) (h : wrF σ (k + 1) (.mk q s m us) = some u) :
    ∃ vs, u = .mk q s m vs ∧ vs.length = us.length ∧ ∀ i (h1 : i < us.length) (h2 : i < vs.length), wrF σ k us[i] = some vs[i] := by
  by_cases hq : q = 2
  · subst hq
    obtain ⟨_, rfl, _, _⟩ := good_var hg
    rw [wrF_free (hf rfl)] at h
    injection h with h
    exact ⟨[], h.symm, rfl, fun i h1 _ => by simp at h1⟩
  · rw [wrF_node hq] at h
    cases h2 : wrL (wrF σ k) us with
    | none => rw [h2] at h; cases h
    | some vs =>
      rw [h2] at h
      injection h with h
      have key : ∀ (us vs : List Ty), wrL (wrF σ k) us = some vs → vs.length = us.length ∧ ∀ i (h1 : i < us.length) (h2 : i < vs.length), wrF σ k us[i] = some vs[i] := by
        intro us
        induction us with
        | nil => intro vs h; rw [wrL] at h; injection h with h; subst h; exact ⟨rfl, fun i h1 _ => by simp at h1⟩
        | cons t ts ih =>
          intro vs h
          obtain ⟨u, us', rfl, h3, h4⟩ := wrL_cons h
          obtain ⟨h5, h6⟩ := ih _ h4
          refine ⟨by simp [h5], fun i h1 h2 => ?_⟩
          cases i with
          | zero => exact h3
          | succ i => exact h6 i (by simpa using h1) (by simpa using h2)
      obtain ⟨h3, h4⟩ := key us vs h2
      exact ⟨vs, h.symm, h3, h4⟩
def EachC (S : Nat → Prop) (p pv c : Nat) (σ : Sg) (cur : Array Value) (gl ge gn : Nat) (n : Int) (k : Nat) : Prop :=
  ∀ (t u : Ty) (v : Value) (w : World) (cnt : Nat), cnt ≤ 1024 → wrF σ k t = some u → goodT σ.length t = true → (∀ b, S b → b < w.heap.size) → TAt w S t v → Tb S w p pv c σ cur → EB gl ge gn n (cnt, 0) w →
    Calls Tryd.prog 45 #[.pointer (some ⟨p, 0, none⟩), v, .func (.func 62) #[] #[.pointer (some ⟨gl, 0, none⟩), .pointer (some ⟨ge, 0, none⟩), .pointer (some ⟨gn, 0, none⟩)]] w (LitP gl ge gn n (metT n u cnt) w)
theorem EB.lt {gl ge gn : Nat} {n : Int} {r : Nat × Int} {w : World} (h : EB gl ge gn n r w) : gl < w.heap.size ∧ ge < w.heap.size ∧ gn < w.heap.size := by
  obtain ⟨l, h1, _⟩ := h.left
  exact ⟨h1.lt, h.err.lt, h.var.lt⟩
theorem EB.set4 {gl ge gn : Nat} {n : Int} {r : Nat × Int} {w : World} {g : Nat} {v0 v1 v2 v3 : Value} (h : EB gl ge gn n r w) (h1 : gl ≠ g) (h2 : ge ≠ g) (h3 : gn ≠ g) : EB gl ge gn n r ((((w.setCell ⟨g, 0, none⟩ v0).setCell ⟨g, 1, none⟩ v1).setCell ⟨g, 2, none⟩ v2).setCell ⟨g, 3, none⟩ v3) := by
  obtain ⟨l, a, b⟩ := h.left
  exact ⟨⟨l, (set4_other h1).trans a, b⟩, (set4_other h2).trans h.err, (set4_other h3).trans h.var, h.nle, h.nln, h.nen⟩
theorem TAt.set4 {S : Nat → Prop} {t : Ty} {v : Value} {w : World} {g : Nat} {v0 v1 v2 v3 : Value} (h : TAt w S t v) (hg : ¬ S g) : TAt ((((w.setCell ⟨g, 0, none⟩ v0).setCell ⟨g, 1, none⟩ v1).setCell ⟨g, 2, none⟩ v2).setCell ⟨g, 3, none⟩ v3) S t v :=
  h.keep (fun k hk _ => ⟨set4_other (fun e => hg (by rw [← e]; exact hk)), hk⟩)
theorem Tb.set4 {S : Nat → Prop} {w : World} {p pv c : Nat} {σ : Sg} {cur : Array Value} (h : Tb S w p pv c σ cur) {g : Nat} {v0 v1 v2 v3 : Value} (hg : ¬ S g) (h1 : p ≠ g) (h2 : pv ≠ g) : Tb S ((((w.setCell ⟨g, 0, none⟩ v0).setCell ⟨g, 1, none⟩ v1).setCell ⟨g, 2, none⟩ v2).setCell ⟨g, 3, none⟩ v3) p pv c σ cur :=
  h.keep (fun k _ hk => set4_other (by rcases hk with hk | rfl | rfl; exact fun e => hg (by rw [← e]; exact hk); exact h1; exact h2))
theorem Kept.set4 {S : Nat → Prop} {A w : World} (h : Kept S A w) {g : Nat} {v0 v1 v2 v3 : Value} (hg : A.heap.size ≤ g) : Kept S A ((((w.setCell ⟨g, 0, none⟩ v0).setCell ⟨g, 1, none⟩ v1).setCell ⟨g, 2, none⟩ v2).setCell ⟨g, 3, none⟩ v3) :=
  (((h.setCell (p := ⟨g, 0, none⟩) (.inr hg) v0).setCell (p := ⟨g, 1, none⟩) (.inr hg) v1).setCell (p := ⟨g, 2, none⟩) (.inr hg) v2).setCell (p := ⟨g, 3, none⟩) (.inr hg) v3
theorem TRow.set4 {S : Nat → Prop} {ts : List Ty} {A : Option Addr} {i : Nat} {w : World} {g : Nat} {v0 v1 v2 v3 : Value} (h : TRow w S ts A i) (hg : ¬ S g) : TRow ((((w.setCell ⟨g, 0, none⟩ v0).setCell ⟨g, 1, none⟩ v1).setCell ⟨g, 2, none⟩ v2).setCell ⟨g, 3, none⟩ v3) S ts A i :=
  TRow.keep (fun k hk _ => ⟨set4_other (fun e => hg (by rw [← e]; exact hk)), hk⟩) ts A i h
/-- The same type in an older footprint. -/
theorem TAt.narrow {S : Nat → Prop} {w : World} {t : Ty} {v : Value} (h : TAt w S t v) {M : Nat} (hM : w.heap.size ≤ M) : TAt w (fun b => S b ∧ b < M) t v := h.mono (fun _ hk hl => ⟨hk, by omega⟩)
set_option maxHeartbeats 8000000 in
set_option maxRecDepth 100000 in
theorem each_node (S : Nat → Prop) (p pv c : Nat) (σ : Sg) (cur : Array Value) (gl ge gn : Nat) (n : Int) (k : Nat) (hok : Ok σ) (hgS : ¬ S gl ∧ ¬ S ge ∧ gl ≠ p ∧ gl ≠ pv ∧ ge ≠ p ∧ ge ≠ pv) (ih : EachC S p pv c σ cur gl ge gn n k) : EachC S p pv c σ cur gl ge gn n (k + 1) := by
  intro t u v w cnt hc hw hg hS hv hT hE
  obtain ⟨h, hH, hw2⟩ := Hd.of_wrF hw
  have hgh := hH.good hok hg
  have hfree := hH.end_
  obtain ⟨q2, s2, n2, us⟩ := h
  obtain ⟨vs, rfl, hvl, hkid⟩ := wrF_parts hgh hfree hw2
  have hgl := kids_good hgh
  have hEl := hE.lt
  have HV := hid hv
  obtain ⟨q, s, m, A, m9, c9, rfl⟩ := hv.agg
  have HT := hid hT
  have HE := hid hE
  have HS := hid (And.intro hS (And.intro hgS hEl))
  have HG := hid (And.intro hok (And.intro hg (And.intro (hd_eq hH) (And.intro hc (And.intro hvl (And.intro hkid hgl))))))
  have HI := hid ih
  rw [metT_lit]
  clear hv hT hE hS hgS hok hg hH hw hw2 hgh hfree hvl hkid hgl ih hEl
  by_cases hr : (litR n cnt q2 n2).2 = 0
  case neg =>
    rw [if_neg hr]
    generalize hr2 : litR n cnt q2 n2 = r at hr
    have hd : decide (r.2 = 0) = false := by simpa using hr
    have Hr := hid (And.intro hr2 hd)
    clear hr hr2 hd hc
    go_enter Tryd.func45, Tryd.ntmps45
    go_wp2_with (first
      | (go_at_call 54; go_must (refine (links_Head S p pv c σ cur t _ _ (HT.out.up (by go_grown : Below w.heap.size w _)) HG.out.1 HG.out.2.1 (HV.out.up (by go_grown : Below w.heap.size w _))).mono ?_); rintro e w1 ⟨⟨v', rfl, hv'⟩, b1⟩; go_must (rw [HG.out.2.2.1] at hv'; obtain ⟨A2, c2, rfl, k1, k2, k3, k4, k5, k6⟩ := hv'.parts; have b2 := hid (below_then (B := w.heap.size) b1 (by go_grown : Below w.heap.size w _) (by simp)); have X1 := hid ((Blk.new w 24 #[.int .i64 q, .string s, .int .i64 m, .slice A m9 c9]).below b1 (by simp)); have x0 : w1.cell? ⟨w.heap.size, 0, none⟩ = some (.int .i64 q) := X1.out.cell 0; have x1 : w1.cell? ⟨w.heap.size, 1, none⟩ = some (.string s) := X1.out.cell 1; have x2 : w1.cell? ⟨w.heap.size, 2, none⟩ = some (.int .i64 m) := X1.out.cell 2; have x3 : w1.cell? ⟨w.heap.size, 3, none⟩ = some (.slice A m9 c9) := X1.out.cell 3; have f0 := X1.out.frozen 0; have f1 := X1.out.frozen 1; have f2 := X1.out.frozen 2; have f3 := X1.out.frozen 3; have Y1 := hid (set4_blk (v0 := .int .i64 q2) (v1 := .string s2) (v2 := .int .i64 n2) (v3 := .slice A2 us.length c2) X1.out); have y0 : _ = some (Value.int .i64 q2) := Y1.out.cell 0; have y1 : _ = some (Value.string s2) := Y1.out.cell 1; have y2 : _ = some (Value.int .i64 n2) := Y1.out.cell 2; have y3 : _ = some (Value.slice A2 us.length c2) := Y1.out.cell 3; have KB := hid (And.intro (k4.mono (T := S) (fun b hb _ => hb.1)) (And.intro k1 k2)); clear k1 k2 k3 k4 k5 k6 b1 hv'))
      | (go_at_call 62; go_must (refine (bind_lit gl ge gn n cnt HG.out.2.2.2.1 q2 s2 n2 A2 us.length c2 _ ((HE.out.below b2.out).set4 (by have := HS.out.2.2.1; omega) (by have := HS.out.2.2.2.1; omega) (by have := HS.out.2.2.2.2; omega))).mono ?_); rw [Hr.out.1]; rintro e w3 ⟨he, hE3, hK3⟩; go_must (rw [Hr.out.2] at he; subst he; have HZ := hid (And.intro hE3 hK3); clear hE3 hK3)))
    go_ret
    exact ⟨ret_bool Hr.out.2.symm, HZ.out.1, HZ.out.2.hop ((Kept.of_below b2.out _).set4 (Nat.le_refl _))⟩
  rw [if_pos hr]
  obtain ⟨hr2, hc1⟩ := litR_ok hc hr
  have Hr := hid (And.intro hr2 hc1)
  clear hr hr2 hc1 hc
  have hSn : ∀ b, S b → ¬ EBf gl ge b := fun b hb e => by rcases e with rfl | rfl; exact HS.out.2.1.1 hb; exact HS.out.2.1.2.1 hb
  have hSw : ¬ S w.heap.size := fun h => by have := HS.out.1 _ h; omega
  have HN := hid (And.intro hSn hSw)
  clear hSn hSw
  go_enter Tryd.func45, Tryd.ntmps45
  go_wp2_with (first
    | (go_at_call 54; go_must (refine (links_Head S p pv c σ cur t _ _ (HT.out.up (by go_grown : Below w.heap.size w _)) HG.out.1 HG.out.2.1 (HV.out.up (by go_grown : Below w.heap.size w _))).mono ?_); rintro e w1 ⟨⟨v', rfl, hv'⟩, b1⟩; go_must (rw [HG.out.2.2.1] at hv'; obtain ⟨A2, c2, rfl, k1, k2, k3, k4, k5, k6⟩ := hv'.parts; have b2 := hid (below_then (B := w.heap.size) b1 (by go_grown : Below w.heap.size w _) (by simp)); have X1 := hid ((Blk.new w 24 #[.int .i64 q, .string s, .int .i64 m, .slice A m9 c9]).below b1 (by simp)); have x0 : w1.cell? ⟨w.heap.size, 0, none⟩ = some (.int .i64 q) := X1.out.cell 0; have x1 : w1.cell? ⟨w.heap.size, 1, none⟩ = some (.string s) := X1.out.cell 1; have x2 : w1.cell? ⟨w.heap.size, 2, none⟩ = some (.int .i64 m) := X1.out.cell 2; have x3 : w1.cell? ⟨w.heap.size, 3, none⟩ = some (.slice A m9 c9) := X1.out.cell 3; have f0 := X1.out.frozen 0; have f1 := X1.out.frozen 1; have f2 := X1.out.frozen 2; have f3 := X1.out.frozen 3; have Y1 := hid (set4_blk (v0 := .int .i64 q2) (v1 := .string s2) (v2 := .int .i64 n2) (v3 := .slice A2 us.length c2) X1.out); have y0 : _ = some (Value.int .i64 q2) := Y1.out.cell 0; have y1 : _ = some (Value.string s2) := Y1.out.cell 1; have y2 : _ = some (Value.int .i64 n2) := Y1.out.cell 2; have y3 : _ = some (Value.slice A2 us.length c2) := Y1.out.cell 3; have KB := hid (And.intro (k4.mono (T := S) (fun b hb _ => hb.1)) (And.intro k1 k2)); clear k1 k2 k3 k4 k5 k6 b1 hv'))
    | (go_at_call 62; go_must (refine (bind_lit gl ge gn n cnt HG.out.2.2.2.1 q2 s2 n2 A2 us.length c2 _ ((HE.out.below b2.out).set4 (by have := HS.out.2.2.1; omega) (by have := HS.out.2.2.2.1; omega) (by have := HS.out.2.2.2.2; omega))).mono ?_); rw [Hr.out.1]; rintro e w3 ⟨rfl, hE3, hK3⟩; go_must (have Z1 := hid (Y1.out.kept hK3 (by unfold EBf; have := HS.out.2.2; omega)); have z3 : w3.cell? ⟨w.heap.size, 3, none⟩ = some (.slice A2 us.length c2) := Z1.out.cell 3; have KZ := hid (hK3.hop ((Kept.of_below b2.out _).set4 (Nat.le_refl _))); have HZ := hid (And.intro hE3 ((KB.out.1.set4 HN.out.2).kept hK3 HN.out.1)); have hL : us.length ≤ 9223372036854775807 := (by have h1 := KB.out.2.1; have h2 := KB.out.2.2; unfold maxLen at h2; omega); have HTw := hid ((((HT.out.up b2.out).set4 HN.out.2 (by have := HT.out.blk.lt; omega) (by have := HT.out.row.lt; omega)).kept hK3 HN.out.1 (by unfold EBf; have := HS.out.2.1; omega) (by unfold EBf; have := HS.out.2.1; omega))); clear hE3 hK3 X1 Y1 KB x0 x1 x2 x3 f0 f1 f2 f3 y0 y1 y2 y3)))
  go_loopg [19] us.length (fun gk x wr => ∃ (i ci : Nat), i + gk = us.length ∧ x = .int .i64 i ∧ Hid (ci ≤ 1024) ∧ Hid (EB gl ge gn n (ci, 0) wr) ∧ Hid (metL n vs (cnt + 1) = metL n (vs.drop i) ci) ∧ Hid (Kept (EBf gl ge) w3 wr))
  case atStart => exact ⟨0, cnt + 1, by omega, rfl, hid Hr.out.2, hid HZ.out.1, hid rfl, hid (Kept.refl _ _)⟩
  case round =>
    obtain ⟨i, ci, hi, rfl, hci, hE, hm, hK⟩ := hrel
    have Hi := hid hi
    by_cases hlt : i < us.length
    · have hlt' : (i : Int) < us.length := by omega
      obtain ⟨ad, q', s', n', A3, m', c3, rfl, hSb, hab, y0, y1, y2, y3, hel⟩ := (HZ.out.2.kept hK.out HN.out.1).elem hlt
      have hlv : i < vs.length := by have := HG.out.2.2.2.2.1; omega
      have hmd := metL_drop (x := n) (c := ci) hlv
      have Q := hid (And.intro hel (And.intro (HG.out.2.2.2.2.2.1 i hlt hlv) (goodL_mem HG.out.2.2.2.2.2.2 _ (List.getElem_mem hlt))))
      clear hi hSb hab hel
      have hsz : w.heap.size ≤ wr.heap.size := Nat.le_trans KZ.out.size hK.out.size
      have Hsz := hid hsz
      clear hsz
      generalize vs[i] = v1 at Q hmd
      clear hlv
      by_cases hr3 : (metT n v1 ci).2 = 0
      case neg =>
        rw [if_neg hr3] at hmd
        have hd : decide ((metT n v1 ci).2 = 0) = false := by simpa using hr3
        have Hd3 := hid (And.intro hmd hd)
        clear hmd hd hr3
        go_wp2_with (go_at_call 45; go_must (refine (HI.out _ _ _ _ ci hci.out Q.out.2.1 Q.out.2.2 (fun b hb => by have h1 := HS.out.1 b hb; have h2 := Hsz.out; simp; omega) (Q.out.1.up (by go_grown : Below wr.heap.size wr _)) ((HTw.out.kept hK.out HN.out.1 (by unfold EBf; have := HS.out.2.1; omega) (by unfold EBf; have := HS.out.2.1; omega)).up (by go_grown : Below wr.heap.size wr _)) (hE.out.below (by go_grown : Below wr.heap.size wr _))).mono ?_); rintro e w4 ⟨he, hE4, hK4⟩; go_must (rw [Hd3.out.2] at he; subst he; have H4 := hid (And.intro hE4 (hK4.hop (((Kept.refl _ wr).alloc _)))); clear hE4 hK4))
        go_ret
        refine ⟨ret_bool ?_, ?_, (H4.out.2.hop hK.out).hop KZ.out⟩
        · rw [hm.out, Hd3.out.1]; exact Hd3.out.2.symm
        · rw [hm.out, Hd3.out.1]; exact H4.out.1
      · rw [if_pos hr3] at hmd
        obtain ⟨c1, c2', _⟩ := metT_ok n v1 ci hci.out hr3
        have hd : decide ((metT n v1 ci).2 = 0) = true := by simpa using hr3
        have hrr : metT n v1 ci = ((metT n v1 ci).1, 0) := by rw [← hr3]
        have Hd3 := hid (And.intro hmd (And.intro hd (And.intro hrr (show (metT n v1 ci).1 ≤ 1024 by omega))))
        clear hmd hd hr3 hrr c1 c2'
        go_wp2_with (go_at_call 45; go_must (refine (HI.out _ _ _ _ ci hci.out Q.out.2.1 Q.out.2.2 (fun b hb => by have h1 := HS.out.1 b hb; have h2 := Hsz.out; simp; omega) (Q.out.1.up (by go_grown : Below wr.heap.size wr _)) ((HTw.out.kept hK.out HN.out.1 (by unfold EBf; have := HS.out.2.1; omega) (by unfold EBf; have := HS.out.2.1; omega)).up (by go_grown : Below wr.heap.size wr _)) (hE.out.below (by go_grown : Below wr.heap.size wr _))).mono ?_); rintro e w4 ⟨he, hE4, hK4⟩; go_must (rw [Hd3.out.2.1] at he; subst he; rw [Hd3.out.2.2.1] at hE4; have H4 := hid (And.intro hE4 (hK4.hop (((Kept.refl _ wr).alloc _)))); clear hE4 hK4))
        have hgk := Hi.out
        go_roundg (gk - 1)
        case rel => exact ⟨i + 1, (metT n v1 ci).1, by omega, rfl, hid Hd3.out.2.2.2, hid H4.out.1, hid (by rw [hm.out, Hd3.out.1]), hid (H4.out.2.hop hK.out)⟩
        case measure => omega
    · obtain rfl : i = us.length := by omega
      clear hi
      go_wp2
      go_ret
      have e9 : metL n vs (cnt + 1) = (ci, 0) := by rw [hm.out, List.drop_of_length_le (by have := HG.out.2.2.2.2.1; omega), metL]
      refine ⟨ret_bool ?_, ?_, hK.out.hop KZ.out⟩
      · rw [e9]; rfl
      · rw [e9]; exact hE.out
theorem links_each (S : Nat → Prop) (p pv c : Nat) (σ : Sg) (cur : Array Value) (gl ge gn : Nat) (n : Int) (hok : Ok σ) (hgS : ¬ S gl ∧ ¬ S ge ∧ gl ≠ p ∧ gl ≠ pv ∧ ge ≠ p ∧ ge ≠ pv) : ∀ k, EachC S p pv c σ cur gl ge gn n k
  | 0 => fun t u v w cnt _ hw => by cases hw
  | k + 1 => each_node S p pv c σ cur gl ge gn n k hok hgS (links_each S p pv c σ cur gl ge gn n hok hgS k)
end Go.Proofs.YtnlifgcnmhakiaaDoor
