/-
  THE WALKS OF cps.looker.good, JOINED, AND OF cps.Good.
-/
import Derived.Test.YtdmkjndlobichaaKGood
import Derived.Test.YtdmkjndlobichaaKMach
namespace Go.Proofs.Ytdmkjndlobichaa
set_option linter.all false
open Go.ChangeShapes Go.WideShapes Go.ChangeAt Go.RowKit Go.Maps
open Tm (Te gdT gdL gdF addV names namesL namesF formT formN bindT atomsB nodes nodesL goodT)
open Ev (updI upM plain_false)

theorem GdP.mono {r : Option (Int → Int)} {g : Int → Int} {k1 k2 e1 e2 M1 M2 : Nat} {w : World} {e : Ending} {w' : World} (h : GdP r g k1 k2 M1 M2 w e w') (h1 : k1 ≤ e1) (h2 : k2 ≤ e2) : GdP r g e1 e2 M1 M2 w e w' := by
  obtain ⟨a, ⟨g', b1, b2⟩, c⟩ := h
  exact ⟨a, ⟨g', b1.mono h2, fun f' hf => ⟨(b2 f' hf).1.mono h1, (b2 f' hf).2⟩⟩, c⟩
theorem GdP.after {r : Option (Int → Int)} {g : Int → Int} {k1 k2 M1 M2 : Nat} {w0 w : World} {e : Ending} {w' : World} (h : GdP r g k1 k2 M1 M2 w e w') (hg : Gr2 M1 M2 w0 w) : GdP r g k1 k2 M1 M2 w0 e w' := ⟨h.1, h.2.1, hg.trans h.2.2⟩
theorem GdP.no {r : Option (Int → Int)} {g : Int → Int} {k1 k2 M1 M2 : Nat} {w w' : World} {b : Bool} (hb : b = false) (hr : r = none) (hm : MapI w' M2 g k2) (hg : Gr2 M1 M2 w w') : GdP r g k1 k2 M1 M2 w (.returned (.bool b)) w' := by
  subst hb hr
  exact ⟨rfl, ⟨g, hm, fun f' h => by cases h⟩, hg⟩
theorem gd_form {k x m : Int} {b : Bool} {ts : List Int} {ats : List (Bool × Int)} {fh : List (Int × List Int)} {fb us : List Te} {f g : Int → Int} (h : formT k x m b ts ats.length fb.length us.length = false) : gdT (.mk k x m b ts ats fh fb us) f g = none := by rw [gdT, if_pos (.inl h)]
theorem gd_atoms {k x m : Int} {b : Bool} {ts : List Int} {ats : List (Bool × Int)} {fh : List (Int × List Int)} {fb us : List Te} {f g : Int → Int} (h : atomsB g ats = false) : gdT (.mk k x m b ts ats fh fb us) f g = none := by rw [gdT, if_pos (.inr h)]
theorem form_nofun {k x m : Int} {b : Bool} {ts : List Int} {al ul : Nat} {fb : List Te} (h : formT k x m b ts al fb.length ul = true) (h4 : k ≠ 4) : fb = [] := by
  unfold formT formN at h
  refine List.length_eq_zero_iff.1 ?_
  by_cases h1 : k = 1
  · rw [if_pos h1] at h; exact (of_decide_eq_true (plain_false h).1).2.2.1
  rw [if_neg h1] at h
  by_cases h2 : k = 2
  · rw [if_pos h2] at h; exact (of_decide_eq_true (plain_false h).1).2.2.1
  rw [if_neg h2] at h
  by_cases h3 : k = 3
  · rw [if_pos h3] at h; exact (of_decide_eq_true (plain_false h).1).2.2.1
  rw [if_neg h3, if_neg h4] at h
  by_cases h5 : k = 5
  · rw [if_pos h5] at h; exact (of_decide_eq_true (plain_false h).1).2.2.2.1
  rw [if_neg h5] at h
  by_cases h6 : k = 6
  · rw [if_pos h6] at h; exact (of_decide_eq_true (plain_false h).1).2.1
  rw [if_neg h6] at h
  by_cases h7 : k = 7
  · rw [if_pos h7] at h; exact (of_decide_eq_true (plain_false h).1).2.2.1
  rw [if_neg h7] at h
  by_cases h8 : k = 8
  · rw [if_pos h8] at h; exact (of_decide_eq_true (plain_false h).1).2.2.1
  rw [if_neg h8] at h
  cases h
theorem gd_bind {k x m : Int} {b : Bool} {ts : List Int} {ats : List (Bool × Int)} {fh : List (Int × List Int)} {fb us : List Te} {f g : Int → Int} (h : formT k x m b ts ats.length fb.length us.length = true) (ha : atomsB g ats = true) (hk : k = 1 ∨ k = 2 ∨ k = 3) :
    gdT (.mk k x m b ts ats fh fb us) f g = withR [x] f (fun f1 => gdL us f1 (upM [x] g)) := by
  have e := form_nofun h (by omega)
  subst e
  rw [gdT, if_neg (by rw [h, ha]; simp), show bindT k x fh = [x] from if_pos hk]
  unfold withR
  cases addV [x] f with
  | none => rfl
  | some f1 => simp only [gdF_nil]
theorem gd_fix {x m : Int} {b : Bool} {ts : List Int} {ats : List (Bool × Int)} {fh : List (Int × List Int)} {fb us : List Te} {f g : Int → Int} (h : formT 4 x m b ts ats.length fb.length us.length = true) (ha : atomsB g ats = true) :
    gdT (.mk 4 x m b ts ats fh fb us) f g = withR (fh.map Prod.fst) f (fun f1 => gdFL fh fb us f1 (upM (fh.map Prod.fst) g)) := by
  rw [gdT, if_neg (by rw [h, ha]; simp), show bindT 4 x fh = fh.map Prod.fst from rfl]
  rfl
theorem gd_rest {k x m : Int} {b : Bool} {ts : List Int} {ats : List (Bool × Int)} {fh : List (Int × List Int)} {fb us : List Te} {f g : Int → Int} (h : formT k x m b ts ats.length fb.length us.length = true) (ha : atomsB g ats = true) (h1 : k ≠ 1) (h2 : k ≠ 2) (h3 : k ≠ 3) (h4 : k ≠ 4) :
    gdT (.mk k x m b ts ats fh fb us) f g = gdL us f g := by
  have e := form_nofun h h4
  subst e
  rw [gdT, if_neg (by rw [h, ha]; simp), show bindT k x fh = [] from by unfold bindT; rw [if_neg (by omega), if_neg h4], addV]
  simp only [gdF_nil]
  rfl
theorem frow_wf {w : World} {S : Nat → Prop} {fh : List (Int × List Int)} {fb : List Te} {A : Option Addr} (h : FRow w S fh fb A 0) (he : fh.length = fb.length) : ∀ a ∈ fh.map Prod.fst, (Lit.int .i64 a).wf = true := by
  intro a ha
  obtain ⟨q, hq, rfl⟩ := List.mem_map.1 ha
  obtain ⟨j, hj, rfl⟩ := List.getElem_of_mem hq
  obtain ⟨_, _, _, _, _, _, _, _, _, _, _, _, _, _, _, h5, _⟩ := h.get (by rw [← he]; exact hj) hj
  exact h5
/-- The two boxes of good, and what is above them. -/
structure GB (w : World) (K : Nat) (bx : Array Value) (w1 : World) : Prop where
  k : Blk w1 w.heap.size 75 #[.pointer (some ⟨K, 0, none⟩)]
  t : Blk w1 (w.heap.size + 1) 27 bx
  b : Below w.heap.size w w1
theorem GB.up {w w1 w2 : World} {K : Nat} {bx : Array Value} (h : GB w K bx w1) (hb : Below w1.heap.size w1 w2) : GB w K bx w2 := ⟨h.k.below hb h.k.lt, h.t.below hb h.t.lt, below_hop hb h.b⟩
theorem GB.tcells {w w1 : World} {K : Nat} {a0 a1 a2 a3 a4 a5 a6 a7 : Value} (h : GB w K #[a0, a1, a2, a3, a4, a5, a6, a7] w1) : (w1).cell? ⟨w.heap.size + 1, 0, none⟩ = some (a0) ∧ (w1).cell? ⟨w.heap.size + 1, 1, none⟩ = some (a1) ∧ (w1).cell? ⟨w.heap.size + 1, 2, none⟩ = some (a2) ∧ (w1).cell? ⟨w.heap.size + 1, 3, none⟩ = some (a3) ∧ (w1).cell? ⟨w.heap.size + 1, 4, none⟩ = some (a4) ∧ (w1).cell? ⟨w.heap.size + 1, 5, none⟩ = some (a5) ∧ (w1).cell? ⟨w.heap.size + 1, 6, none⟩ = some (a6) ∧ (w1).cell? ⟨w.heap.size + 1, 7, none⟩ = some (a7) := h.t.eight
set_option maxHeartbeats 16000000 in
set_option maxRecDepth 100000 in
theorem good_noform (k x m : Int) (b : Bool) (T A F U : Option Addr) (tc ac fc uc : Nat) (ts : List Int) (ats : List (Bool × Int)) (fh : List (Int × List Int)) (fb us : List Te) (S : Nat → Prop) (K M1 M2 : Nat) (f g : Int → Int) (k1 k2 B : Nat) (w : World) (hI : IAt w S ts T tc) (hA : AtAt w S ats A ac) (hfl : fb.length ≤ 17592186044416) (hul : us.length ≤ 17592186044416) (hfe : fh.length = fb.length) (hfr : FRow w S fh fb F 0) (hrow : TRow w S us U 0) (hwf : Wf3 k x m) (hS : ∀ b, S b → b ≠ M1 ∧ b ≠ M2) (hl : LK w K M1 M2 f g k1 k2 B)
    (h1 : k1 + names (.mk k x m b ts ats fh fb us) ≤ 17592186044416) (h2 : k2 + 2 * names (.mk k x m b ts ats fh fb us) ≤ 17592186044416) (h3 : B + names (.mk k x m b ts ats fh fb us) ≤ 17592186044416) (hHF : GH fb K M1 M2) (hHU : GH us K M1 M2)(hF : formT k x m b ts ats.length fb.length us.length = false) :
    Calls Try.prog 34 #[.pointer (some ⟨K, 0, none⟩), .agg #[.int .i64 k, .int .i64 x, .int .i64 m, .bool b, .slice T ts.length tc, .slice A ats.length ac, .slice F fb.length fc, .slice U us.length uc]] w (GdP (gdT (.mk k x m b ts ats fh fb us) f g) g (k1 + names (.mk k x m b ts ats fh fb us)) (k2 + 2 * names (.mk k x m b ts ats fh fb us)) M1 M2 w) := by
  have hal := hA.1.2.2.2
  have hFL : fb.length ≤ 281474976710656 := by omega
  have hUL : us.length ≤ 281474976710656 := by omega
  have H := hid (And.intro hI (And.intro hA (And.intro hfr (And.intro hrow (And.intro hwf (And.intro hS (And.intro hHF (And.intro hHU hfe))))))))
  have HL := hid hl
  have HN := hid (And.intro h1 (And.intro h2 h3))
  have HB := hid ((GB.mk ((Blk.new w 75 #[.pointer (some ⟨K, 0, none⟩)]).alloc _) (Blk.new' (w := w.alloc (.cells #[.pointer (some ⟨K, 0, none⟩)] 75)) (g := w.heap.size + 1) (by simp) 27 #[.int .i64 k, .int .i64 x, .int .i64 m, .bool b, .slice T ts.length tc, .slice A ats.length ac, .slice F fb.length fc, .slice U us.length uc]) (al2 w _ _) : GB w K #[.int .i64 k, .int .i64 x, .int .i64 m, .bool b, .slice T ts.length tc, .slice A ats.length ac, .slice F fb.length fc, .slice U us.length uc] ((w.alloc (.cells #[.pointer (some ⟨K, 0, none⟩)] 75)).alloc (.cells #[.int .i64 k, .int .i64 x, .int .i64 m, .bool b, .slice T ts.length tc, .slice A ats.length ac, .slice F fb.length fc, .slice U us.length uc] 27))))
  clear hI hA hfr hrow hwf hS hHF hHU hfe hl h1 h2 h3
  have HF := hid hF
  clear hF
  go_enter Try.func34, Try.ntmps34
  go_wp2_with (first | (go_at_call 62; go_must (refine (cps_formed _ x m b T A F U tc ac fc uc ats.length fb.length us.length ts S _ (by omega) (by omega) (by omega) (H.out.1.up (al2 w _ _))).mono ?_); rw [HF.out]; rintro e w1 ⟨rfl, b1⟩; go_must (have HB1 := hid (HB.out.up b1); have x0 : w1.cell? ⟨w.heap.size, 0, none⟩ = some (.pointer (some ⟨K, 0, none⟩)) := HB1.out.k.cell0; obtain ⟨y0, y1, y2, y3, y4, y5, y6, y7⟩ := GB.tcells HB1.out; clear b1)) | (go_at_call 63; go_must (refine (look_atoms ats A ac S K M1 M2 f g k1 k2 B _ (H.out.2.1.up HB1.out.b) (HL.out.up HB1.out.b)).mono ?_); rw [HA.out]; rintro e w2 ⟨rfl, b2⟩; go_must (have HB2 := hid (HB1.out.up b2); clear x0 y0 y1 y2 y3 y4 y5 y6 y7; have x0 : w2.cell? ⟨w.heap.size, 0, none⟩ = some (.pointer (some ⟨K, 0, none⟩)) := HB2.out.k.cell0; obtain ⟨y0, y1, y2, y3, y4, y5, y6, y7⟩ := GB.tcells HB2.out; clear b2)))
  go_ret
  exact GdP.no rfl (gd_form HF.out) ((HL.out.up HB1.out.b).m2.mono (by omega)) (Gr2.of_below HB1.out.b)
set_option maxHeartbeats 16000000 in
set_option maxRecDepth 100000 in
theorem good_noatoms (k x m : Int) (b : Bool) (T A F U : Option Addr) (tc ac fc uc : Nat) (ts : List Int) (ats : List (Bool × Int)) (fh : List (Int × List Int)) (fb us : List Te) (S : Nat → Prop) (K M1 M2 : Nat) (f g : Int → Int) (k1 k2 B : Nat) (w : World) (hI : IAt w S ts T tc) (hA : AtAt w S ats A ac) (hfl : fb.length ≤ 17592186044416) (hul : us.length ≤ 17592186044416) (hfe : fh.length = fb.length) (hfr : FRow w S fh fb F 0) (hrow : TRow w S us U 0) (hwf : Wf3 k x m) (hS : ∀ b, S b → b ≠ M1 ∧ b ≠ M2) (hl : LK w K M1 M2 f g k1 k2 B)
    (h1 : k1 + names (.mk k x m b ts ats fh fb us) ≤ 17592186044416) (h2 : k2 + 2 * names (.mk k x m b ts ats fh fb us) ≤ 17592186044416) (h3 : B + names (.mk k x m b ts ats fh fb us) ≤ 17592186044416) (hHF : GH fb K M1 M2) (hHU : GH us K M1 M2)(hF : formT k x m b ts ats.length fb.length us.length = true) (hA2 : atomsB g ats = false) :
    Calls Try.prog 34 #[.pointer (some ⟨K, 0, none⟩), .agg #[.int .i64 k, .int .i64 x, .int .i64 m, .bool b, .slice T ts.length tc, .slice A ats.length ac, .slice F fb.length fc, .slice U us.length uc]] w (GdP (gdT (.mk k x m b ts ats fh fb us) f g) g (k1 + names (.mk k x m b ts ats fh fb us)) (k2 + 2 * names (.mk k x m b ts ats fh fb us)) M1 M2 w) := by
  have hal := hA.1.2.2.2
  have hFL : fb.length ≤ 281474976710656 := by omega
  have hUL : us.length ≤ 281474976710656 := by omega
  have H := hid (And.intro hI (And.intro hA (And.intro hfr (And.intro hrow (And.intro hwf (And.intro hS (And.intro hHF (And.intro hHU hfe))))))))
  have HL := hid hl
  have HN := hid (And.intro h1 (And.intro h2 h3))
  have HB := hid ((GB.mk ((Blk.new w 75 #[.pointer (some ⟨K, 0, none⟩)]).alloc _) (Blk.new' (w := w.alloc (.cells #[.pointer (some ⟨K, 0, none⟩)] 75)) (g := w.heap.size + 1) (by simp) 27 #[.int .i64 k, .int .i64 x, .int .i64 m, .bool b, .slice T ts.length tc, .slice A ats.length ac, .slice F fb.length fc, .slice U us.length uc]) (al2 w _ _) : GB w K #[.int .i64 k, .int .i64 x, .int .i64 m, .bool b, .slice T ts.length tc, .slice A ats.length ac, .slice F fb.length fc, .slice U us.length uc] ((w.alloc (.cells #[.pointer (some ⟨K, 0, none⟩)] 75)).alloc (.cells #[.int .i64 k, .int .i64 x, .int .i64 m, .bool b, .slice T ts.length tc, .slice A ats.length ac, .slice F fb.length fc, .slice U us.length uc] 27))))
  clear hI hA hfr hrow hwf hS hHF hHU hfe hl h1 h2 h3
  have HF := hid hF
  have HA := hid hA2
  clear hF hA2
  go_enter Try.func34, Try.ntmps34
  go_wp2_with (first | (go_at_call 62; go_must (refine (cps_formed _ x m b T A F U tc ac fc uc ats.length fb.length us.length ts S _ (by omega) (by omega) (by omega) (H.out.1.up (al2 w _ _))).mono ?_); rw [HF.out]; rintro e w1 ⟨rfl, b1⟩; go_must (have HB1 := hid (HB.out.up b1); have x0 : w1.cell? ⟨w.heap.size, 0, none⟩ = some (.pointer (some ⟨K, 0, none⟩)) := HB1.out.k.cell0; obtain ⟨y0, y1, y2, y3, y4, y5, y6, y7⟩ := GB.tcells HB1.out; clear b1)) | (go_at_call 63; go_must (refine (look_atoms ats A ac S K M1 M2 f g k1 k2 B _ (H.out.2.1.up HB1.out.b) (HL.out.up HB1.out.b)).mono ?_); rw [HA.out]; rintro e w2 ⟨rfl, b2⟩; go_must (have HB2 := hid (HB1.out.up b2); clear x0 y0 y1 y2 y3 y4 y5 y6 y7; have x0 : w2.cell? ⟨w.heap.size, 0, none⟩ = some (.pointer (some ⟨K, 0, none⟩)) := HB2.out.k.cell0; obtain ⟨y0, y1, y2, y3, y4, y5, y6, y7⟩ := GB.tcells HB2.out; clear b2)))
  go_ret
  exact GdP.no rfl (gd_atoms HA.out) ((HL.out.up HB2.out.b).m2.mono (by omega)) (Gr2.of_below HB2.out.b)
set_option maxHeartbeats 16000000 in
set_option maxRecDepth 100000 in
theorem good_rest (k x m : Int) (b : Bool) (T A F U : Option Addr) (tc ac fc uc : Nat) (ts : List Int) (ats : List (Bool × Int)) (fh : List (Int × List Int)) (fb us : List Te) (S : Nat → Prop) (K M1 M2 : Nat) (f g : Int → Int) (k1 k2 B : Nat) (w : World) (hI : IAt w S ts T tc) (hA : AtAt w S ats A ac) (hfl : fb.length ≤ 17592186044416) (hul : us.length ≤ 17592186044416) (hfe : fh.length = fb.length) (hfr : FRow w S fh fb F 0) (hrow : TRow w S us U 0) (hwf : Wf3 k x m) (hS : ∀ b, S b → b ≠ M1 ∧ b ≠ M2) (hl : LK w K M1 M2 f g k1 k2 B)
    (h1 : k1 + names (.mk k x m b ts ats fh fb us) ≤ 17592186044416) (h2 : k2 + 2 * names (.mk k x m b ts ats fh fb us) ≤ 17592186044416) (h3 : B + names (.mk k x m b ts ats fh fb us) ≤ 17592186044416) (hHF : GH fb K M1 M2) (hHU : GH us K M1 M2)(hF : formT k x m b ts ats.length fb.length us.length = true) (hA2 : atomsB g ats = true) (n1 : (k == 1) = false) (n2 : (k == 2) = false) (n3 : (k == 3) = false) (n4 : (k == 4) = false) :
    Calls Try.prog 34 #[.pointer (some ⟨K, 0, none⟩), .agg #[.int .i64 k, .int .i64 x, .int .i64 m, .bool b, .slice T ts.length tc, .slice A ats.length ac, .slice F fb.length fc, .slice U us.length uc]] w (GdP (gdT (.mk k x m b ts ats fh fb us) f g) g (k1 + names (.mk k x m b ts ats fh fb us)) (k2 + 2 * names (.mk k x m b ts ats fh fb us)) M1 M2 w) := by
  have hal := hA.1.2.2.2
  have hFL : fb.length ≤ 281474976710656 := by omega
  have hUL : us.length ≤ 281474976710656 := by omega
  have H := hid (And.intro hI (And.intro hA (And.intro hfr (And.intro hrow (And.intro hwf (And.intro hS (And.intro hHF (And.intro hHU hfe))))))))
  have HL := hid hl
  have HN := hid (And.intro h1 (And.intro h2 h3))
  have HB := hid ((GB.mk ((Blk.new w 75 #[.pointer (some ⟨K, 0, none⟩)]).alloc _) (Blk.new' (w := w.alloc (.cells #[.pointer (some ⟨K, 0, none⟩)] 75)) (g := w.heap.size + 1) (by simp) 27 #[.int .i64 k, .int .i64 x, .int .i64 m, .bool b, .slice T ts.length tc, .slice A ats.length ac, .slice F fb.length fc, .slice U us.length uc]) (al2 w _ _) : GB w K #[.int .i64 k, .int .i64 x, .int .i64 m, .bool b, .slice T ts.length tc, .slice A ats.length ac, .slice F fb.length fc, .slice U us.length uc] ((w.alloc (.cells #[.pointer (some ⟨K, 0, none⟩)] 75)).alloc (.cells #[.int .i64 k, .int .i64 x, .int .i64 m, .bool b, .slice T ts.length tc, .slice A ats.length ac, .slice F fb.length fc, .slice U us.length uc] 27))))
  clear hI hA hfr hrow hwf hS hHF hHU hfe hl h1 h2 h3
  have HF := hid hF
  have HA := hid hA2
  clear hF hA2
  have hN := HN.out
  have hnm : names (.mk k x m b ts ats fh fb us) = 1 + fh.length + namesF fh fb + namesL us := by rw [names]
  rw [hnm] at hN
  have HNM := hid hnm
  have HN2 := hid hN
  clear hN hnm
  go_enter Try.func34, Try.ntmps34
  go_wp2_with (first | (first | (go_at_call 62; go_must (refine (cps_formed _ x m b T A F U tc ac fc uc ats.length fb.length us.length ts S _ (by omega) (by omega) (by omega) (H.out.1.up (al2 w _ _))).mono ?_); rw [HF.out]; rintro e w1 ⟨rfl, b1⟩; go_must (have HB1 := hid (HB.out.up b1); have x0 : w1.cell? ⟨w.heap.size, 0, none⟩ = some (.pointer (some ⟨K, 0, none⟩)) := HB1.out.k.cell0; obtain ⟨y0, y1, y2, y3, y4, y5, y6, y7⟩ := GB.tcells HB1.out; clear b1)) | (go_at_call 63; go_must (refine (look_atoms ats A ac S K M1 M2 f g k1 k2 B _ (H.out.2.1.up HB1.out.b) (HL.out.up HB1.out.b)).mono ?_); rw [HA.out]; rintro e w2 ⟨rfl, b2⟩; go_must (have HB2 := hid (HB1.out.up b2); clear x0 y0 y1 y2 y3 y4 y5 y6 y7; have x0 : w2.cell? ⟨w.heap.size, 0, none⟩ = some (.pointer (some ⟨K, 0, none⟩)) := HB2.out.k.cell0; obtain ⟨y0, y1, y2, y3, y4, y5, y6, y7⟩ := GB.tcells HB2.out; clear b2))) | (go_at_call 66; go_must (refine (look_nexts us U uc S K M1 M2 f g k1 k2 B _ (by omega) (H.out.2.2.2.1.up HB2.out.b) H.out.2.2.2.2.2.1 (HL.out.up HB2.out.b) (by have := HN2.out; omega) (by have := HN2.out; omega) (by have := HN2.out; omega) H.out.2.2.2.2.2.2.2.1).mono ?_); rintro e w3 hG; go_must (have G := hid hG; obtain ⟨rfl, _⟩ := hG)))
  go_ret
  rw [gd_rest HF.out HA.out (by simpa using n1) (by simpa using n2) (by simpa using n3) (by simpa using n4)]
  exact (G.out.after (Gr2.of_below HB2.out.b)).mono (by rw [HNM.out]; omega) (by rw [HNM.out]; omega)
theorem below_fun {w2 wr w4 : World} {o1 o2 : Obj} {v : Value} {n : Nat} {xs : List Value} {e : TypeId} {sz : Nat} (h : Below w2.heap.size w2 wr) (hr : wr.ownsRow w2.heap.size e sz v n xs) (hg : ((wr.alloc o1).alloc o2).grownBy w4 v.ownBlock) : Below w2.heap.size w2 w4 :=
  ((h.alloc h.size _).alloc (by have := h.size; simp; omega) _).grown hg (by have := h.size; simp; omega) (fun k e => (hr.lt k e).1)
theorem iat_one {w : World} {o : Obj} (x : Int) (hw : (Lit.int .i64 x).wf = true) {t : TypeId} : IAt (w.alloc (.cells #[.int .i64 x] t)) (fun b => b = w.heap.size) [x] (some ⟨w.heap.size, 0, none⟩) 1 := by
  refine ⟨⟨by simp, by decide, fun h => (by cases h), by simp⟩, fun j hj => ?_⟩
  obtain rfl : j = 0 := by simpa using hj
  exact ⟨_, rfl, rfl, (Blk.new w t #[.int .i64 x]).cell 0, hw⟩
set_option maxHeartbeats 16000000 in
set_option maxRecDepth 100000 in
theorem good_b1 (x m : Int) (b : Bool) (T A F U : Option Addr) (tc ac fc uc : Nat) (ts : List Int) (ats : List (Bool × Int)) (fh : List (Int × List Int)) (fb us : List Te) (S : Nat → Prop) (K M1 M2 : Nat) (f g : Int → Int) (k1 k2 B : Nat) (w : World) (hI : IAt w S ts T tc) (hA : AtAt w S ats A ac) (hfl : fb.length ≤ 17592186044416) (hul : us.length ≤ 17592186044416) (hfe : fh.length = fb.length) (hfr : FRow w S fh fb F 0) (hrow : TRow w S us U 0) (hwf : Wf3 1 x m) (hS : ∀ b, S b → b ≠ M1 ∧ b ≠ M2) (hl : LK w K M1 M2 f g k1 k2 B)
    (h1 : k1 + names (.mk 1 x m b ts ats fh fb us) ≤ 17592186044416) (h2 : k2 + 2 * names (.mk 1 x m b ts ats fh fb us) ≤ 17592186044416) (h3 : B + names (.mk 1 x m b ts ats fh fb us) ≤ 17592186044416) (hHF : GH fb K M1 M2) (hHU : GH us K M1 M2) (hF : formT 1 x m b ts ats.length fb.length us.length = true) (hA2 : atomsB g ats = true) (hfb : fb.length ≤ 65536) :
    Calls Try.prog 34 #[.pointer (some ⟨K, 0, none⟩), .agg #[.int .i64 1, .int .i64 x, .int .i64 m, .bool b, .slice T ts.length tc, .slice A ats.length ac, .slice F fb.length fc, .slice U us.length uc]] w (GdP (gdT (.mk 1 x m b ts ats fh fb us) f g) g (k1 + names (.mk 1 x m b ts ats fh fb us)) (k2 + 2 * names (.mk 1 x m b ts ats fh fb us)) M1 M2 w) := by
  obtain ⟨k, hk9⟩ : ∃ k : Int, k = 1 := ⟨_, rfl⟩
  have hal := hA.1.2.2.2
  have hFL : fb.length ≤ 281474976710656 := by omega
  have hUL : us.length ≤ 281474976710656 := by omega
  have H := hid (And.intro hI (And.intro hA (And.intro hfr (And.intro hrow (And.intro hwf (And.intro hS (And.intro hHF (And.intro hHU hfe))))))))
  have HL := hid hl
  have HN := hid (And.intro h1 (And.intro h2 h3))
  have HB := hid ((GB.mk ((Blk.new w 75 #[.pointer (some ⟨K, 0, none⟩)]).alloc _) (Blk.new' (w := w.alloc (.cells #[.pointer (some ⟨K, 0, none⟩)] 75)) (g := w.heap.size + 1) (by simp) 27 #[.int .i64 1, .int .i64 x, .int .i64 m, .bool b, .slice T ts.length tc, .slice A ats.length ac, .slice F fb.length fc, .slice U us.length uc]) (al2 w _ _) : GB w K #[.int .i64 1, .int .i64 x, .int .i64 m, .bool b, .slice T ts.length tc, .slice A ats.length ac, .slice F fb.length fc, .slice U us.length uc] ((w.alloc (.cells #[.pointer (some ⟨K, 0, none⟩)] 75)).alloc (.cells #[.int .i64 1, .int .i64 x, .int .i64 m, .bool b, .slice T ts.length tc, .slice A ats.length ac, .slice F fb.length fc, .slice U us.length uc] 27))))
  clear hI hA hfr hrow hwf hS hHF hHU hfe hl h1 h2 h3 hk9
  have HF := hid hF
  have HA := hid hA2
  clear hF hA2
  have hN := HN.out
  have hnm : names (.mk 1 x m b ts ats fh fb us) = 1 + fh.length + namesF fh fb + namesL us := by rw [names]
  rw [hnm] at hN
  have HNM := hid hnm
  have HN2 := hid hN
  clear hN hnm
  go_enter Try.func34, Try.ntmps34
  go_wp2_with (first | (first | (go_at_call 62; go_must (refine (cps_formed _ x m b T A F U tc ac fc uc ats.length fb.length us.length ts S _ (by omega) (by omega) (by omega) (H.out.1.up (al2 w _ _))).mono ?_); rw [HF.out]; rintro e w1 ⟨rfl, b1⟩; go_must (have HB1 := hid (HB.out.up b1); have x0 : w1.cell? ⟨w.heap.size, 0, none⟩ = some (.pointer (some ⟨K, 0, none⟩)) := HB1.out.k.cell0; obtain ⟨y0, y1, y2, y3, y4, y5, y6, y7⟩ := GB.tcells HB1.out; clear b1)) | (go_at_call 63; go_must (refine (look_atoms ats A ac S K M1 M2 f g k1 k2 B _ (H.out.2.1.up HB1.out.b) (HL.out.up HB1.out.b)).mono ?_); rw [HA.out]; rintro e w2 ⟨rfl, b2⟩; go_must (have HB2 := hid (HB1.out.up b2); clear x0 y0 y1 y2 y3 y4 y5 y6 y7; have x0 : w2.cell? ⟨w.heap.size, 0, none⟩ = some (.pointer (some ⟨K, 0, none⟩)) := HB2.out.k.cell0; obtain ⟨y0, y1, y2, y3, y4, y5, y6, y7⟩ := GB.tcells HB2.out; clear b2))) | (go_at_call 64; go_must (refine (with_1 [x] (some ⟨w2.heap.size, 0, none⟩) 1 (fun b => b = w2.heap.size) K M1 M2 f g k1 k2 B w.heap.size (w.heap.size + 1) (k1 + 1 + namesL us) (k2 + 1 + 2 * namesL us) (fun f1 => gdL us f1 (upM [x] g)) _ (iat_one (o := .cells #[] 3) x H.out.2.2.2.2.1.2.1) (fun b hb => by subst hb; exact ⟨fun e => by have := (HL.out.up HB2.out.b).m1.lt; omega, fun e => by have := (HL.out.up HB2.out.b).m2.lt; omega⟩) (HL.out.up (below_hop (al1 w2 _) HB2.out.b)) (by have := HN2.out; simp <;> omega) (by have := HN2.out; simp <;> omega) (by have := HN2.out; simp <;> omega) (by have := HN2.out; simp <;> omega) (fun w3 f1 hg3 ha hl3 => good1_fn 1 x m b T A F U ts.length tc ats.length ac fb.length fc uc us S w.heap.size (w.heap.size + 1) K M1 M2 f1 (upM [x] g) (k1 + 1) (k2 + 1) (B + 1) w3 (hg3.blk (HB2.out.k.alloc _) (map_ne (HL.out.up HB2.out.b).m1 HB2.out.k) (map_ne (HL.out.up HB2.out.b).m2 HB2.out.k)) (hg3.blk (HB2.out.t.alloc _) (map_ne (HL.out.up HB2.out.b).m1 HB2.out.t) (map_ne (HL.out.up HB2.out.b).m2 HB2.out.t)) (by omega) (TRow.keep (fun b hb hl => ⟨hg3.block b hl (H.out.2.2.2.2.2.1 b hb).1 (H.out.2.2.2.2.2.1 b hb).2, hb⟩) _ _ _ (H.out.2.2.2.1.up (below_hop (al1 w2 _) HB2.out.b))) H.out.2.2.2.2.2.1 hl3 (by have := HN2.out; omega) (by have := HN2.out; omega) (by have := HN2.out; omega) H.out.2.2.2.2.2.2.2.1)).mono ?_); rintro e w3 hG; go_must (have G := hid hG; obtain ⟨rfl, _⟩ := hG)))
  go_ret
  rw [gd_bind HF.out HA.out (by omega)]
  exact (G.out.after (Gr2.of_below (below_hop (al1 w2 _) HB2.out.b))).mono (by rw [HNM.out]; omega) (by rw [HNM.out]; simp <;> omega)
set_option maxHeartbeats 16000000 in
set_option maxRecDepth 100000 in
theorem good_b2 (x m : Int) (b : Bool) (T A F U : Option Addr) (tc ac fc uc : Nat) (ts : List Int) (ats : List (Bool × Int)) (fh : List (Int × List Int)) (fb us : List Te) (S : Nat → Prop) (K M1 M2 : Nat) (f g : Int → Int) (k1 k2 B : Nat) (w : World) (hI : IAt w S ts T tc) (hA : AtAt w S ats A ac) (hfl : fb.length ≤ 17592186044416) (hul : us.length ≤ 17592186044416) (hfe : fh.length = fb.length) (hfr : FRow w S fh fb F 0) (hrow : TRow w S us U 0) (hwf : Wf3 2 x m) (hS : ∀ b, S b → b ≠ M1 ∧ b ≠ M2) (hl : LK w K M1 M2 f g k1 k2 B)
    (h1 : k1 + names (.mk 2 x m b ts ats fh fb us) ≤ 17592186044416) (h2 : k2 + 2 * names (.mk 2 x m b ts ats fh fb us) ≤ 17592186044416) (h3 : B + names (.mk 2 x m b ts ats fh fb us) ≤ 17592186044416) (hHF : GH fb K M1 M2) (hHU : GH us K M1 M2) (hF : formT 2 x m b ts ats.length fb.length us.length = true) (hA2 : atomsB g ats = true) (hfb : fb.length ≤ 65536) :
    Calls Try.prog 34 #[.pointer (some ⟨K, 0, none⟩), .agg #[.int .i64 2, .int .i64 x, .int .i64 m, .bool b, .slice T ts.length tc, .slice A ats.length ac, .slice F fb.length fc, .slice U us.length uc]] w (GdP (gdT (.mk 2 x m b ts ats fh fb us) f g) g (k1 + names (.mk 2 x m b ts ats fh fb us)) (k2 + 2 * names (.mk 2 x m b ts ats fh fb us)) M1 M2 w) := by
  obtain ⟨k, hk9⟩ : ∃ k : Int, k = 2 := ⟨_, rfl⟩
  have hal := hA.1.2.2.2
  have hFL : fb.length ≤ 281474976710656 := by omega
  have hUL : us.length ≤ 281474976710656 := by omega
  have H := hid (And.intro hI (And.intro hA (And.intro hfr (And.intro hrow (And.intro hwf (And.intro hS (And.intro hHF (And.intro hHU hfe))))))))
  have HL := hid hl
  have HN := hid (And.intro h1 (And.intro h2 h3))
  have HB := hid ((GB.mk ((Blk.new w 75 #[.pointer (some ⟨K, 0, none⟩)]).alloc _) (Blk.new' (w := w.alloc (.cells #[.pointer (some ⟨K, 0, none⟩)] 75)) (g := w.heap.size + 1) (by simp) 27 #[.int .i64 2, .int .i64 x, .int .i64 m, .bool b, .slice T ts.length tc, .slice A ats.length ac, .slice F fb.length fc, .slice U us.length uc]) (al2 w _ _) : GB w K #[.int .i64 2, .int .i64 x, .int .i64 m, .bool b, .slice T ts.length tc, .slice A ats.length ac, .slice F fb.length fc, .slice U us.length uc] ((w.alloc (.cells #[.pointer (some ⟨K, 0, none⟩)] 75)).alloc (.cells #[.int .i64 2, .int .i64 x, .int .i64 m, .bool b, .slice T ts.length tc, .slice A ats.length ac, .slice F fb.length fc, .slice U us.length uc] 27))))
  clear hI hA hfr hrow hwf hS hHF hHU hfe hl h1 h2 h3 hk9
  have HF := hid hF
  have HA := hid hA2
  clear hF hA2
  have hN := HN.out
  have hnm : names (.mk 2 x m b ts ats fh fb us) = 1 + fh.length + namesF fh fb + namesL us := by rw [names]
  rw [hnm] at hN
  have HNM := hid hnm
  have HN2 := hid hN
  clear hN hnm
  go_enter Try.func34, Try.ntmps34
  go_wp2_with (first | (first | (go_at_call 62; go_must (refine (cps_formed _ x m b T A F U tc ac fc uc ats.length fb.length us.length ts S _ (by omega) (by omega) (by omega) (H.out.1.up (al2 w _ _))).mono ?_); rw [HF.out]; rintro e w1 ⟨rfl, b1⟩; go_must (have HB1 := hid (HB.out.up b1); have x0 : w1.cell? ⟨w.heap.size, 0, none⟩ = some (.pointer (some ⟨K, 0, none⟩)) := HB1.out.k.cell0; obtain ⟨y0, y1, y2, y3, y4, y5, y6, y7⟩ := GB.tcells HB1.out; clear b1)) | (go_at_call 63; go_must (refine (look_atoms ats A ac S K M1 M2 f g k1 k2 B _ (H.out.2.1.up HB1.out.b) (HL.out.up HB1.out.b)).mono ?_); rw [HA.out]; rintro e w2 ⟨rfl, b2⟩; go_must (have HB2 := hid (HB1.out.up b2); clear x0 y0 y1 y2 y3 y4 y5 y6 y7; have x0 : w2.cell? ⟨w.heap.size, 0, none⟩ = some (.pointer (some ⟨K, 0, none⟩)) := HB2.out.k.cell0; obtain ⟨y0, y1, y2, y3, y4, y5, y6, y7⟩ := GB.tcells HB2.out; clear b2))) | (go_at_call 64; go_must (refine (with_1 [x] (some ⟨w2.heap.size, 0, none⟩) 1 (fun b => b = w2.heap.size) K M1 M2 f g k1 k2 B w.heap.size (w.heap.size + 1) (k1 + 1 + namesL us) (k2 + 1 + 2 * namesL us) (fun f1 => gdL us f1 (upM [x] g)) _ (iat_one (o := .cells #[] 3) x H.out.2.2.2.2.1.2.1) (fun b hb => by subst hb; exact ⟨fun e => by have := (HL.out.up HB2.out.b).m1.lt; omega, fun e => by have := (HL.out.up HB2.out.b).m2.lt; omega⟩) (HL.out.up (below_hop (al1 w2 _) HB2.out.b)) (by have := HN2.out; simp <;> omega) (by have := HN2.out; simp <;> omega) (by have := HN2.out; simp <;> omega) (by have := HN2.out; simp <;> omega) (fun w3 f1 hg3 ha hl3 => good1_fn 2 x m b T A F U ts.length tc ats.length ac fb.length fc uc us S w.heap.size (w.heap.size + 1) K M1 M2 f1 (upM [x] g) (k1 + 1) (k2 + 1) (B + 1) w3 (hg3.blk (HB2.out.k.alloc _) (map_ne (HL.out.up HB2.out.b).m1 HB2.out.k) (map_ne (HL.out.up HB2.out.b).m2 HB2.out.k)) (hg3.blk (HB2.out.t.alloc _) (map_ne (HL.out.up HB2.out.b).m1 HB2.out.t) (map_ne (HL.out.up HB2.out.b).m2 HB2.out.t)) (by omega) (TRow.keep (fun b hb hl => ⟨hg3.block b hl (H.out.2.2.2.2.2.1 b hb).1 (H.out.2.2.2.2.2.1 b hb).2, hb⟩) _ _ _ (H.out.2.2.2.1.up (below_hop (al1 w2 _) HB2.out.b))) H.out.2.2.2.2.2.1 hl3 (by have := HN2.out; omega) (by have := HN2.out; omega) (by have := HN2.out; omega) H.out.2.2.2.2.2.2.2.1)).mono ?_); rintro e w3 hG; go_must (have G := hid hG; obtain ⟨rfl, _⟩ := hG)))
  go_ret
  rw [gd_bind HF.out HA.out (by omega)]
  exact (G.out.after (Gr2.of_below (below_hop (al1 w2 _) HB2.out.b))).mono (by rw [HNM.out]; omega) (by rw [HNM.out]; simp <;> omega)
set_option maxHeartbeats 16000000 in
set_option maxRecDepth 100000 in
theorem good_b3 (x m : Int) (b : Bool) (T A F U : Option Addr) (tc ac fc uc : Nat) (ts : List Int) (ats : List (Bool × Int)) (fh : List (Int × List Int)) (fb us : List Te) (S : Nat → Prop) (K M1 M2 : Nat) (f g : Int → Int) (k1 k2 B : Nat) (w : World) (hI : IAt w S ts T tc) (hA : AtAt w S ats A ac) (hfl : fb.length ≤ 17592186044416) (hul : us.length ≤ 17592186044416) (hfe : fh.length = fb.length) (hfr : FRow w S fh fb F 0) (hrow : TRow w S us U 0) (hwf : Wf3 3 x m) (hS : ∀ b, S b → b ≠ M1 ∧ b ≠ M2) (hl : LK w K M1 M2 f g k1 k2 B)
    (h1 : k1 + names (.mk 3 x m b ts ats fh fb us) ≤ 17592186044416) (h2 : k2 + 2 * names (.mk 3 x m b ts ats fh fb us) ≤ 17592186044416) (h3 : B + names (.mk 3 x m b ts ats fh fb us) ≤ 17592186044416) (hHF : GH fb K M1 M2) (hHU : GH us K M1 M2) (hF : formT 3 x m b ts ats.length fb.length us.length = true) (hA2 : atomsB g ats = true) (hfb : fb.length ≤ 65536) :
    Calls Try.prog 34 #[.pointer (some ⟨K, 0, none⟩), .agg #[.int .i64 3, .int .i64 x, .int .i64 m, .bool b, .slice T ts.length tc, .slice A ats.length ac, .slice F fb.length fc, .slice U us.length uc]] w (GdP (gdT (.mk 3 x m b ts ats fh fb us) f g) g (k1 + names (.mk 3 x m b ts ats fh fb us)) (k2 + 2 * names (.mk 3 x m b ts ats fh fb us)) M1 M2 w) := by
  obtain ⟨k, hk9⟩ : ∃ k : Int, k = 3 := ⟨_, rfl⟩
  have hal := hA.1.2.2.2
  have hFL : fb.length ≤ 281474976710656 := by omega
  have hUL : us.length ≤ 281474976710656 := by omega
  have H := hid (And.intro hI (And.intro hA (And.intro hfr (And.intro hrow (And.intro hwf (And.intro hS (And.intro hHF (And.intro hHU hfe))))))))
  have HL := hid hl
  have HN := hid (And.intro h1 (And.intro h2 h3))
  have HB := hid ((GB.mk ((Blk.new w 75 #[.pointer (some ⟨K, 0, none⟩)]).alloc _) (Blk.new' (w := w.alloc (.cells #[.pointer (some ⟨K, 0, none⟩)] 75)) (g := w.heap.size + 1) (by simp) 27 #[.int .i64 3, .int .i64 x, .int .i64 m, .bool b, .slice T ts.length tc, .slice A ats.length ac, .slice F fb.length fc, .slice U us.length uc]) (al2 w _ _) : GB w K #[.int .i64 3, .int .i64 x, .int .i64 m, .bool b, .slice T ts.length tc, .slice A ats.length ac, .slice F fb.length fc, .slice U us.length uc] ((w.alloc (.cells #[.pointer (some ⟨K, 0, none⟩)] 75)).alloc (.cells #[.int .i64 3, .int .i64 x, .int .i64 m, .bool b, .slice T ts.length tc, .slice A ats.length ac, .slice F fb.length fc, .slice U us.length uc] 27))))
  clear hI hA hfr hrow hwf hS hHF hHU hfe hl h1 h2 h3 hk9
  have HF := hid hF
  have HA := hid hA2
  clear hF hA2
  have hN := HN.out
  have hnm : names (.mk 3 x m b ts ats fh fb us) = 1 + fh.length + namesF fh fb + namesL us := by rw [names]
  rw [hnm] at hN
  have HNM := hid hnm
  have HN2 := hid hN
  clear hN hnm
  go_enter Try.func34, Try.ntmps34
  go_wp2_with (first | (first | (go_at_call 62; go_must (refine (cps_formed _ x m b T A F U tc ac fc uc ats.length fb.length us.length ts S _ (by omega) (by omega) (by omega) (H.out.1.up (al2 w _ _))).mono ?_); rw [HF.out]; rintro e w1 ⟨rfl, b1⟩; go_must (have HB1 := hid (HB.out.up b1); have x0 : w1.cell? ⟨w.heap.size, 0, none⟩ = some (.pointer (some ⟨K, 0, none⟩)) := HB1.out.k.cell0; obtain ⟨y0, y1, y2, y3, y4, y5, y6, y7⟩ := GB.tcells HB1.out; clear b1)) | (go_at_call 63; go_must (refine (look_atoms ats A ac S K M1 M2 f g k1 k2 B _ (H.out.2.1.up HB1.out.b) (HL.out.up HB1.out.b)).mono ?_); rw [HA.out]; rintro e w2 ⟨rfl, b2⟩; go_must (have HB2 := hid (HB1.out.up b2); clear x0 y0 y1 y2 y3 y4 y5 y6 y7; have x0 : w2.cell? ⟨w.heap.size, 0, none⟩ = some (.pointer (some ⟨K, 0, none⟩)) := HB2.out.k.cell0; obtain ⟨y0, y1, y2, y3, y4, y5, y6, y7⟩ := GB.tcells HB2.out; clear b2))) | (go_at_call 64; go_must (refine (with_1 [x] (some ⟨w2.heap.size, 0, none⟩) 1 (fun b => b = w2.heap.size) K M1 M2 f g k1 k2 B w.heap.size (w.heap.size + 1) (k1 + 1 + namesL us) (k2 + 1 + 2 * namesL us) (fun f1 => gdL us f1 (upM [x] g)) _ (iat_one (o := .cells #[] 3) x H.out.2.2.2.2.1.2.1) (fun b hb => by subst hb; exact ⟨fun e => by have := (HL.out.up HB2.out.b).m1.lt; omega, fun e => by have := (HL.out.up HB2.out.b).m2.lt; omega⟩) (HL.out.up (below_hop (al1 w2 _) HB2.out.b)) (by have := HN2.out; simp <;> omega) (by have := HN2.out; simp <;> omega) (by have := HN2.out; simp <;> omega) (by have := HN2.out; simp <;> omega) (fun w3 f1 hg3 ha hl3 => good1_fn 3 x m b T A F U ts.length tc ats.length ac fb.length fc uc us S w.heap.size (w.heap.size + 1) K M1 M2 f1 (upM [x] g) (k1 + 1) (k2 + 1) (B + 1) w3 (hg3.blk (HB2.out.k.alloc _) (map_ne (HL.out.up HB2.out.b).m1 HB2.out.k) (map_ne (HL.out.up HB2.out.b).m2 HB2.out.k)) (hg3.blk (HB2.out.t.alloc _) (map_ne (HL.out.up HB2.out.b).m1 HB2.out.t) (map_ne (HL.out.up HB2.out.b).m2 HB2.out.t)) (by omega) (TRow.keep (fun b hb hl => ⟨hg3.block b hl (H.out.2.2.2.2.2.1 b hb).1 (H.out.2.2.2.2.2.1 b hb).2, hb⟩) _ _ _ (H.out.2.2.2.1.up (below_hop (al1 w2 _) HB2.out.b))) H.out.2.2.2.2.2.1 hl3 (by have := HN2.out; omega) (by have := HN2.out; omega) (by have := HN2.out; omega) H.out.2.2.2.2.2.2.2.1)).mono ?_); rintro e w3 hG; go_must (have G := hid hG; obtain ⟨rfl, _⟩ := hG)))
  go_ret
  rw [gd_bind HF.out HA.out (by omega)]
  exact (G.out.after (Gr2.of_below (below_hop (al1 w2 _) HB2.out.b))).mono (by rw [HNM.out]; omega) (by rw [HNM.out]; simp <;> omega)
set_option maxHeartbeats 16000000 in
set_option maxRecDepth 100000 in
theorem good_b4 (x m : Int) (b : Bool) (T A F U : Option Addr) (tc ac fc uc : Nat) (ts : List Int) (ats : List (Bool × Int)) (fh : List (Int × List Int)) (fb us : List Te) (S : Nat → Prop) (K M1 M2 : Nat) (f g : Int → Int) (k1 k2 B : Nat) (w : World) (hI : IAt w S ts T tc) (hA : AtAt w S ats A ac) (hfl : fb.length ≤ 17592186044416) (hul : us.length ≤ 17592186044416) (hfe : fh.length = fb.length) (hfr : FRow w S fh fb F 0) (hrow : TRow w S us U 0) (hwf : Wf3 4 x m) (hS : ∀ b, S b → b ≠ M1 ∧ b ≠ M2) (hl : LK w K M1 M2 f g k1 k2 B)
    (h1 : k1 + names (.mk 4 x m b ts ats fh fb us) ≤ 17592186044416) (h2 : k2 + 2 * names (.mk 4 x m b ts ats fh fb us) ≤ 17592186044416) (h3 : B + names (.mk 4 x m b ts ats fh fb us) ≤ 17592186044416) (hHF : GH fb K M1 M2) (hHU : GH us K M1 M2) (hF : formT 4 x m b ts ats.length fb.length us.length = true) (hA2 : atomsB g ats = true) (hfb : fb.length ≤ 65536) :
    Calls Try.prog 34 #[.pointer (some ⟨K, 0, none⟩), .agg #[.int .i64 4, .int .i64 x, .int .i64 m, .bool b, .slice T ts.length tc, .slice A ats.length ac, .slice F fb.length fc, .slice U us.length uc]] w (GdP (gdT (.mk 4 x m b ts ats fh fb us) f g) g (k1 + names (.mk 4 x m b ts ats fh fb us)) (k2 + 2 * names (.mk 4 x m b ts ats fh fb us)) M1 M2 w) := by
  obtain ⟨k, hk9⟩ : ∃ k : Int, k = 4 := ⟨_, rfl⟩
  have hal := hA.1.2.2.2
  have hFL : fb.length ≤ 281474976710656 := by omega
  have hUL : us.length ≤ 281474976710656 := by omega
  have H := hid (And.intro hI (And.intro hA (And.intro hfr (And.intro hrow (And.intro hwf (And.intro hS (And.intro hHF (And.intro hHU hfe))))))))
  have HL := hid hl
  have HN := hid (And.intro h1 (And.intro h2 h3))
  have HB := hid ((GB.mk ((Blk.new w 75 #[.pointer (some ⟨K, 0, none⟩)]).alloc _) (Blk.new' (w := w.alloc (.cells #[.pointer (some ⟨K, 0, none⟩)] 75)) (g := w.heap.size + 1) (by simp) 27 #[.int .i64 4, .int .i64 x, .int .i64 m, .bool b, .slice T ts.length tc, .slice A ats.length ac, .slice F fb.length fc, .slice U us.length uc]) (al2 w _ _) : GB w K #[.int .i64 4, .int .i64 x, .int .i64 m, .bool b, .slice T ts.length tc, .slice A ats.length ac, .slice F fb.length fc, .slice U us.length uc] ((w.alloc (.cells #[.pointer (some ⟨K, 0, none⟩)] 75)).alloc (.cells #[.int .i64 4, .int .i64 x, .int .i64 m, .bool b, .slice T ts.length tc, .slice A ats.length ac, .slice F fb.length fc, .slice U us.length uc] 27))))
  clear hI hA hfr hrow hwf hS hHF hHU hfe hl h1 h2 h3 hk9
  have HF := hid hF
  have HA := hid hA2
  clear hF hA2
  have hN := HN.out
  have hnm : names (.mk 4 x m b ts ats fh fb us) = 1 + fh.length + namesF fh fb + namesL us := by rw [names]
  rw [hnm] at hN
  have HNM := hid hnm
  have HN2 := hid hN
  have HFB := hid hfb
  clear hN hnm
  go_enter Try.func34, Try.ntmps34
  go_wp2_with (first | (go_at_call 62; go_must (refine (cps_formed _ x m b T A F U tc ac fc uc ats.length fb.length us.length ts S _ (by omega) (by omega) (by omega) (H.out.1.up (al2 w _ _))).mono ?_); rw [HF.out]; rintro e w1 ⟨rfl, b1⟩; go_must (have HB1 := hid (HB.out.up b1); have x0 : w1.cell? ⟨w.heap.size, 0, none⟩ = some (.pointer (some ⟨K, 0, none⟩)) := HB1.out.k.cell0; obtain ⟨y0, y1, y2, y3, y4, y5, y6, y7⟩ := GB.tcells HB1.out; clear b1)) | (go_at_call 63; go_must (refine (look_atoms ats A ac S K M1 M2 f g k1 k2 B _ (H.out.2.1.up HB1.out.b) (HL.out.up HB1.out.b)).mono ?_); rw [HA.out]; rintro e w2 ⟨rfl, b2⟩; go_must (have HB2 := hid (HB1.out.up b2); clear x0 y0 y1 y2 y3 y4 y5 y6 y7; have x0 : w2.cell? ⟨w.heap.size, 0, none⟩ = some (.pointer (some ⟨K, 0, none⟩)) := HB2.out.k.cell0; obtain ⟨y0, y1, y2, y3, y4, y5, y6, y7⟩ := GB.tcells HB2.out; clear b2)))
  go_loopg [5, 35] fb.length (fun gg nv z wr => ∃ (i : Nat) (A3 : Option Addr) (c3 : Nat), i + gg = fb.length ∧ z = .int .i64 i ∧ nv = .slice A3 i c3 ∧ Hid (wr.ownsRow w2.heap.size 3 1 (.slice A3 i c3) i (((fh.take i).map Prod.fst).map (.int .i64))) ∧ Hid (Below w2.heap.size w2 wr))
  case atStart => exact ⟨0, none, 0, by omega, rfl, rfl, hid (World.ownsRow_nil _ _ _ _), hid (Below.refl _ _)⟩
  case round =>
    clear x0 y0 y1 y2 y3 y4 y5 y6 y7
    obtain ⟨i, A3, c3, hi, rfl, rfl, hR, hW⟩ := hrel
    have Hi := hid hi
    have HB3 := hid (HB2.out.up hW.out)
    have x0 : wr.cell? ⟨w.heap.size, 0, none⟩ = some (.pointer (some ⟨K, 0, none⟩)) := HB3.out.k.cell0
    by_cases hlt : i < fb.length
    · have hlt' : (i : Int) < fb.length := by omega
      have hlt2 : i < fh.length := by rw [H.out.2.2.2.2.2.2.2.2]; exact hlt
      obtain ⟨ad, P, pc, k2', x2', n2, i2, T2, tl2, tc2, A4, al2, ac2, F2, fl2, fc2, U2, ul2, uc2, rfl, hSb, hab, ⟨z0, z1, z2, z3, z4, z5, z6, z7, z8, z9⟩, hIp, hwp, hel⟩ := (H.out.2.2.1.up HB3.out.b).elem hlt hlt2
      obtain ⟨hv, hhv⟩ : ∃ hv : Int, hv = fh[i].1 := ⟨_, rfl⟩
      obtain ⟨pn, hpn⟩ : ∃ pn : Nat, pn = fh[i].2.length := ⟨_, rfl⟩
      have htk : ((fh.take (i + 1)).map Prod.fst).map (Value.int .i64) = ((fh.take i).map Prod.fst).map (.int .i64) ++ [.int .i64 hv] := by rw [List.take_succ_eq_append_getElem hlt2, hhv, List.map_append, List.map_append]; rfl
      rw [← hhv] at z0
      rw [← hpn] at z1
      have HTK := hid htk
      clear hi hSb hab hIp hwp hel hhv hpn htk
      go_wp2_with (at_builtin; go_must (refine wpList_appX Try.underlying22 info_int rfl (by omega) (by omega) (by rfl) _ _ (by rfl) w2.heap.size (n := i) (by rfl) (World.ownsRow.alloc (World.ownsRow.alloc hR.out _) _) (by rfl) (by rfl) (cells_litX _ (by simp) 3 [.int .i64 hv] _ rfl) (by simp [Value.oneCell']) (by have := HFB.out; omega) (by have h1 := hW.out.size; simp; omega) ?_); intro v' w4 r1 r2 r3; go_must (obtain ⟨A7, c7, rfl, _⟩ := rowX r1; have N := hid (And.intro r1 (below_fun hW.out hR.out r2)); clear r1 r2 r3))
      have hgk := Hi.out
      go_roundg (gk - 1)
      case rel => exact ⟨i + 1, A7, c7, by omega, by go_num, rfl, hid (by rw [HTK.out]; exact N.out.1), hid N.out.2⟩
      case measure => omega
    · obtain rfl : i = fb.length := by omega
      have hR2 := hR.out
      rw [show fh.take fb.length = fh from by rw [← H.out.2.2.2.2.2.2.2.2, List.take_length]] at hR2
      have hlen : fb.length = (fh.map Prod.fst).length := by rw [List.length_map, H.out.2.2.2.2.2.2.2.2]
      have hIA := own_iatX (ts := fh.map Prod.fst) (by have h9 := hR2; rw [← hlen]; exact h9) (frow_wf H.out.2.2.1 H.out.2.2.2.2.2.2.2.2) (by rw [← hlen]; omega)
      have HIA := hid hIA.2
      have HLE := hid hlen
      have hxx : ¬ ((fb.length : Int) < fb.length) := by omega
      clear hi hR hR2 hIA hlen hlt
      have hNN := HN2.out
      have hfe2 := H.out.2.2.2.2.2.2.2.2
      have C := hid (with_2 (fh.map Prod.fst) A3 c3 (fun q => w2.heap.size ≤ q) K M1 M2 f g k1 k2 B (w.heap.size + 1) w.heap.size (k1 + fb.length + namesF fh fb + namesL us) (k2 + fb.length + 2 * namesF fh fb + 2 * namesL us) (fun f1 => gdFL fh fb us f1 (upM (fh.map Prod.fst) g)) wr HIA.out (fun q hq => ⟨fun e => by have := (HL.out.up HB2.out.b).m1.lt; omega, fun e => by have := (HL.out.up HB2.out.b).m2.lt; omega⟩) (HL.out.up HB3.out.b) (by rw [← HLE.out]; omega) (by rw [← HLE.out]; omega) (by rw [← HLE.out]; omega) (by rw [← HLE.out]; omega) (fun w3 f1 hg3 ha hl3 => (good2_fn 4 x m b T A F U ts.length tc ats.length ac fc uc fh fb us S w.heap.size (w.heap.size + 1) K M1 M2 f1 (upM (fh.map Prod.fst) g) (k1 + (fh.map Prod.fst).length) (k2 + (fh.map Prod.fst).length) (B + (fh.map Prod.fst).length) w3 (hg3.blk HB3.out.k (map_ne (HL.out.up HB3.out.b).m1 HB3.out.k) (map_ne (HL.out.up HB3.out.b).m2 HB3.out.k)) (hg3.blk HB3.out.t (map_ne (HL.out.up HB3.out.b).m1 HB3.out.t) (map_ne (HL.out.up HB3.out.b).m2 HB3.out.t)) (by omega) (by omega) H.out.2.2.2.2.2.2.2.2 (FRow.keep (fun b hb hl => ⟨hg3.block b hl (H.out.2.2.2.2.2.1 b hb).1 (H.out.2.2.2.2.2.1 b hb).2, hb⟩) _ _ _ _ (H.out.2.2.1.up HB3.out.b)) (TRow.keep (fun b hb hl => ⟨hg3.block b hl (H.out.2.2.2.2.2.1 b hb).1 (H.out.2.2.2.2.2.1 b hb).2, hb⟩) _ _ _ (H.out.2.2.2.1.up HB3.out.b)) H.out.2.2.2.2.2.1 hl3 (by rw [← HLE.out]; omega) (by rw [← HLE.out]; omega) (by rw [← HLE.out]; omega) H.out.2.2.2.2.2.2.1 H.out.2.2.2.2.2.2.2.1).mono (fun e w' h => h.mono (by rw [← HLE.out]; omega) (by rw [← HLE.out]; omega))))
      rw [← HLE.out] at C
      clear hNN hfe2
      go_wp2_with (go_at_call 64; go_must (refine C.out.mono ?_); rintro e w3 hG; go_must (have G := hid hG; obtain ⟨rfl, _⟩ := hG))
      go_ret
      rw [gd_fix HF.out HA.out]
      exact (G.out.after (Gr2.of_below HB3.out.b)).mono (by have := H.out.2.2.2.2.2.2.2.2; rw [HNM.out]; omega) (by have := H.out.2.2.2.2.2.2.2.2; rw [HNM.out]; omega)
theorem look_good : ∀ (N : Nat) (t : Te), SizeOf.sizeOf t ≤ N → nodes t ≤ 65536 → ∀ (K M1 M2 : Nat), GH [t] K M1 M2 := by
  intro N
  induction N with
  | zero => intro t ht; cases t; simp at ht
  | succ N ih =>
  intro t ht hnd K M1 M2 t' ht' v S w f g k1 k2 B hv hS hl h1 h2 h3
  simp only [List.mem_singleton] at ht'
  subst ht'
  obtain ⟨k, x, m, b, ts, ats, fh, fb, us⟩ := t'
  obtain ⟨T, tc, A, ac, F, fc, U, uc, rfl, hI, hA, hF, hfe, hfr, hU, hrow, hwf⟩ := hv.parts
  rw [nodes] at hnd
  have hfb : fb.length ≤ 65536 := by have := Tm.length_nodes fb; omega
  have HF : GH fb K M1 M2 := fun t hm => ih t (by have := Tm.fn_lt (k := k) (x := x) (n := m) (i := b) (ts := ts) (ats := ats) (fh := fh) (us := us) hm; omega) (by have := Tm.nodes_mem hm; omega) K M1 M2 t (by simp)
  have HU : GH us K M1 M2 := fun t hm => ih t (by have := Tm.te_lt (k := k) (x := x) (n := m) (i := b) (ts := ts) (ats := ats) (fh := fh) (fb := fb) hm; omega) (by have := Tm.nodes_mem hm; omega) K M1 M2 t (by simp)
  cases hf : formT k x m b ts ats.length fb.length us.length with
  | false => exact good_noform k x m b T A F U tc ac fc uc ts ats fh fb us S K M1 M2 f g k1 k2 B w hI hA hF.2.2.2 hU.2.2.2 hfe hfr hrow hwf hS hl h1 h2 h3 HF HU hf
  | true =>
  cases ha : atomsB g ats with
  | false => exact good_noatoms k x m b T A F U tc ac fc uc ts ats fh fb us S K M1 M2 f g k1 k2 B w hI hA hF.2.2.2 hU.2.2.2 hfe hfr hrow hwf hS hl h1 h2 h3 HF HU hf ha
  | true =>
  by_cases n1 : k = 1
  · subst n1; exact good_b1 x m b T A F U tc ac fc uc ts ats fh fb us S K M1 M2 f g k1 k2 B w hI hA hF.2.2.2 hU.2.2.2 hfe hfr hrow hwf hS hl h1 h2 h3 HF HU hf ha hfb
  by_cases n2 : k = 2
  · subst n2; exact good_b2 x m b T A F U tc ac fc uc ts ats fh fb us S K M1 M2 f g k1 k2 B w hI hA hF.2.2.2 hU.2.2.2 hfe hfr hrow hwf hS hl h1 h2 h3 HF HU hf ha hfb
  by_cases n3 : k = 3
  · subst n3; exact good_b3 x m b T A F U tc ac fc uc ts ats fh fb us S K M1 M2 f g k1 k2 B w hI hA hF.2.2.2 hU.2.2.2 hfe hfr hrow hwf hS hl h1 h2 h3 HF HU hf ha hfb
  by_cases n4 : k = 4
  · subst n4; exact good_b4 x m b T A F U tc ac fc uc ts ats fh fb us S K M1 M2 f g k1 k2 B w hI hA hF.2.2.2 hU.2.2.2 hfe hfr hrow hwf hS hl h1 h2 h3 HF HU hf ha hfb
  have e : ∀ {a b : Int}, a ≠ b → (a == b) = false := fun h => by simpa using h
  exact good_rest k x m b T A F U tc ac fc uc ts ats fh fb us S K M1 M2 f g k1 k2 B w hI hA hF.2.2.2 hU.2.2.2 hfe hfr hrow hwf hS hl h1 h2 h3 HF HU hf ha (e n1) (e n2) (e n3) (e n4)
end Go.Proofs.Ytdmkjndlobichaa
