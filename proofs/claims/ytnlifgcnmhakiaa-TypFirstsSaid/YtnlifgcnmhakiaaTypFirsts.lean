/-
  THE LAW TypFirsts: which types of any declared ones are without functions.
-/
import Derived.Test.YtnlifgcnmhakiaaTFirsts
import Derived.Test.YtnlifgcnmhakiaaTWake
namespace Go.Proofs.Ytnlifgcnmhakiaa.typFirsts
open Go.ChangeShapes Go.WideShapes Go.ChangeAt Go.RowKit

theorem dcs_all {w : World} {S : Nat → Prop} {ds : List Dc} {v : Value} (h : DcsAt w S ds v) : DcsAt w (fun b => b < w.heap.size) ds v := h.keep (fun _ _ hl => ⟨rfl, hl⟩)
theorem t_all {w : World} {S : Nat → Prop} {t : Ty} {v : Value} (h : TAt w S t v) : TAt w (fun b => b < w.heap.size) t v := h.keep (fun _ _ hl => ⟨rfl, hl⟩)
def FB1 (b : Bool) (w : World) (e : Ending) (w' : World) : Prop := e = .returned (.bool b) ∧ Below w.heap.size w w'
theorem code_First {ds : List Dc} {t : Ty} {b : Bool} (hb : b = firstB ds t) (hlim : Lim ds) (hsd : ∀ d ∈ ds, ShortD d) (hsh : Short t) {v lv : Value} {w : World} {S1 S2 : Nat → Prop} (hd : DcsAt w S1 ds lv) (hv : TAt w S2 t v) : Calls Try.prog 26 #[lv, v] w (FB1 b w) := by
  subst hb
  exact (typ_First ds _ hlim hsd t hsh v lv w (fun _ h => h) (dcs_all hd) (t_all hv)).mono (fun _ _ h => h.eq)
theorem doc_First {ds : List Dc} {t : Ty} {b : Bool} (hb : b = firstB ds t) (hlim : Lim ds) {v lv : Value} {w : World} {S1 S2 : Nat → Prop} (hd : DcsAt w S1 ds lv) (hv : TAt w S2 t v) : Calls Try.prog 28 #[lv, v] w (FB1 b w) := by
  subst hb
  exact (ref15_First ds _ hlim t v lv w (dcs_all hd) (t_all hv)).mono (fun _ _ h => h.eq)
theorem lim_base {ds : List Dc} (h : Lim ds) (hl : ds.length ≤ 200) : Lim (base3 ++ ds) := by
  refine ⟨by simp [base3]; omega, fun d hd => ?_⟩
  rcases List.mem_append.1 hd with hd | hd
  · simp only [base3, List.mem_cons, List.not_mem_nil, or_false] at hd
    rcases hd with rfl | rfl | rfl <;> simp [LimD, LimC, nodesL, nodes, tyA]
  · exact h.2 d hd
theorem short_base {ds : List Dc} (h : ∀ d ∈ ds, ShortD d) : ∀ d ∈ base3 ++ ds, ShortD d := by
  intro d hd
  rcases List.mem_append.1 hd with hd | hd
  · simp only [base3, List.mem_cons, List.not_mem_nil, or_false] at hd
    rcases hd with rfl | rfl | rfl <;> simp [ShortD, Short, ShortL, tyA, sUnit, sBool, sList, sA, ByteArray.size, maxLen]
  · exact h d hd
set_option maxHeartbeats 16000000 in
set_option maxRecDepth 100000 in
theorem walk (w : World) {l : Value} {ds : List Dc} (hd : DcsAt w (fun b => b < w.heap.size) ds l ∧ ∀ d ∈ ds, ShortD d) {v : Value} {t : Ty} (hv : TAt w (fun b => b < w.heap.size) t v ∧ Short t) :
    Calls Try.prog 8 #[l, v] w fun e w' => e = .returned (.bool true) ∧ Below w.heap.size w w' := by
  have HV := hid hv.1
  have HS := hid (And.intro hd.2 hv.2)
  have HD := hid hd.1
  obtain ⟨q, s, n, A, m, c, rfl⟩ := hv.1.agg
  obtain ⟨AD, cD, rfl, _⟩ := hd.1
  clear hv hd
  obtain ⟨dA, hA⟩ : ∃ dA, dA = base3 ++ ds := ⟨_, rfl⟩
  have HA := hid hA
  obtain ⟨f1, hf1⟩ : ∃ f1, f1 = firstB ds t := ⟨_, rfl⟩
  obtain ⟨f2, hf2⟩ : ∃ f2, f2 = firstB dA t := ⟨_, rfl⟩
  have HF := hid (And.intro hf1 hf2)
  clear hA hf1 hf2
  go_enter Try.func8, Try.ntmps8
  go_wp2_with (first
    | (go_at_call 24; go_must (refine (law12_LargeDecls ds _ (fun b => b < w.heap.size) _ (HD.out.up (by go_grown : Below w.heap.size w _))).mono ?_); rintro e w1 ⟨⟨l1, rfl, hl1⟩, b1⟩; go_must (have HB := hid (below_then (B := w.heap.size) b1 (by go_grown : Below w.heap.size w _) (by simp)); have XT := hid ((Blk.new w 34 #[.int .i64 q, .string s, .int .i64 n, .slice A m c]).below b1 (by simp)); have HL1 := hid hl1; have x0 : (w1).cell? ⟨w.heap.size, 0, none⟩ = some (.int .i64 q) := XT.out.cell 0; have x1 : (w1).cell? ⟨w.heap.size, 1, none⟩ = some (.string s) := XT.out.cell 1; have x2 : (w1).cell? ⟨w.heap.size, 2, none⟩ = some (.int .i64 n) := XT.out.cell 2; have x3 : (w1).cell? ⟨w.heap.size, 3, none⟩ = some (.slice A m c) := XT.out.cell 3; clear b1 hl1))
    | (go_at_call 20; go_must (refine (law12_LargeType t _ (fun b => b < w.heap.size) _ (HV.out.up HB.out)).mono ?_); rintro e w2 ⟨⟨l2, rfl, hl2⟩, b9⟩; go_must (have HL2 := hid hl2; have h9 := hid (XT.out.below b9 XT.out.lt); clear XT; have XT := h9; clear h9; have h9 := hid (below_hop b9 HB.out); clear HB; have HB := h9; clear h9; (try (have h9 := hid (D2.out.up b9); clear D2; have D2 := h9; clear h9)); (try (have h9 := hid (T1.out.up b9); clear T1; have T1 := h9; clear h9)); (try (have h9 := hid (C1.out.up b9); clear C1; have C1 := h9; clear h9)); have x0 : (w2).cell? ⟨w.heap.size, 0, none⟩ = some (.int .i64 q) := XT.out.cell 0; have x1 : (w2).cell? ⟨w.heap.size, 1, none⟩ = some (.string s) := XT.out.cell 1; have x2 : (w2).cell? ⟨w.heap.size, 2, none⟩ = some (.int .i64 n) := XT.out.cell 2; have x3 : (w2).cell? ⟨w.heap.size, 3, none⟩ = some (.slice A m c) := XT.out.cell 3; clear b9; clear hl2))
    | (go_at_call 10; go_must (refine (law15_wakes _).mono ?_); rintro e w9 ⟨rfl, b9⟩)
    | (go_at_call 25; go_must (have hlf : l1 = false := (by cases l1 <;> simp_all); have HL := hid (HL1.out hlf); have HN := hid (HL2.out (by assumption)); refine (ref14_All ds AD cD (fun b => b < w.heap.size) _ HL.out.2 (HD.out.up (below_hop (by go_grown : Below w2.heap.size w2 _) HB.out))).mono ?_); rintro e w3 ⟨⟨va, rfl, hva⟩, b3⟩; go_must (rw [← HA.out] at hva; obtain ⟨AE, cE, rfl, _⟩ := id hva; have D2 := hid hva; have b9 := below_hop b3 (by go_grown : Below w2.heap.size w2 _); clear hva b3)))
  · go_ret
    exact ⟨rfl, below_hop b9 HB.out⟩
  · go_ret
    exact ⟨rfl, below_hop b9 HB.out⟩
  have HLA : Hid (Lim dA ∧ ∀ d ∈ dA, ShortD d) := hid ⟨by rw [HA.out]; exact lim_base HL.out.2 HL.out.1, by rw [HA.out]; exact short_base HS.out.1⟩
  have h9 := hid (XT.out.below b9 XT.out.lt); clear XT; have XT := h9; clear h9; have h9 := hid (below_hop b9 HB.out); clear HB; have HB := h9; clear h9; (try (have h9 := hid (D2.out.up b9); clear D2; have D2 := h9; clear h9)); (try (have h9 := hid (T1.out.up b9); clear T1; have T1 := h9; clear h9)); (try (have h9 := hid (C1.out.up b9); clear C1; have C1 := h9; clear h9)); have x0 : (w3).cell? ⟨w.heap.size, 0, none⟩ = some (.int .i64 q) := XT.out.cell 0; have x1 : (w3).cell? ⟨w.heap.size, 1, none⟩ = some (.string s) := XT.out.cell 1; have x2 : (w3).cell? ⟨w.heap.size, 2, none⟩ = some (.int .i64 n) := XT.out.cell 2; have x3 : (w3).cell? ⟨w.heap.size, 3, none⟩ = some (.slice A m c) := XT.out.cell 3; clear b9
  have b9 : Below w3.heap.size w3 w3.drew := (Below.refl _ _).drew
  have h9 := hid (XT.out.below b9 XT.out.lt); clear XT; have XT := h9; clear h9; have h9 := hid (below_hop b9 HB.out); clear HB; have HB := h9; clear h9; (try (have h9 := hid (D2.out.up b9); clear D2; have D2 := h9; clear h9)); (try (have h9 := hid (T1.out.up b9); clear T1; have T1 := h9; clear h9)); (try (have h9 := hid (C1.out.up b9); clear C1; have C1 := h9; clear h9)); have x0 : (w3.drew).cell? ⟨w.heap.size, 0, none⟩ = some (.int .i64 q) := XT.out.cell 0; have x1 : (w3.drew).cell? ⟨w.heap.size, 1, none⟩ = some (.string s) := XT.out.cell 1; have x2 : (w3.drew).cell? ⟨w.heap.size, 2, none⟩ = some (.int .i64 n) := XT.out.cell 2; have x3 : (w3.drew).cell? ⟨w.heap.size, 3, none⟩ = some (.slice A m c) := XT.out.cell 3; clear b9
  go_region_held3 (fun w' => w'.cell? ⟨w.heap.size, 0, none⟩ = some (.int .i64 q) ∧ w'.cell? ⟨w.heap.size, 1, none⟩ = some (.string s) ∧ w'.cell? ⟨w.heap.size, 2, none⟩ = some (.int .i64 n) ∧ w'.cell? ⟨w.heap.size, 3, none⟩ = some (.slice A m c)) (first | with_reducible exact ⟨x0, x1, x2, x3⟩ | assumption | go_keep)
    (first
      | (go_at_call 27; (with_reducible refine (ref12_CopyDecls ds _ (fun b => b < w.heap.size) _ HL.out.2 (HD.out.up HB.out)).mono ?_); rintro e u1 ⟨⟨vc, rfl, hvc⟩, b9⟩; obtain ⟨A1, c1, rfl, _⟩ := id hvc; have h9 := hid (XT.out.below b9 XT.out.lt); clear XT; have XT := h9; clear h9; have h9 := hid (below_hop b9 HB.out); clear HB; have HB := h9; clear h9; (try (have h9 := hid (D2.out.up b9); clear D2; have D2 := h9; clear h9)); (try (have h9 := hid (T1.out.up b9); clear T1; have T1 := h9; clear h9)); (try (have h9 := hid (C1.out.up b9); clear C1; have C1 := h9; clear h9)); have x0 : (u1).cell? ⟨w.heap.size, 0, none⟩ = some (.int .i64 q) := XT.out.cell 0; have x1 : (u1).cell? ⟨w.heap.size, 1, none⟩ = some (.string s) := XT.out.cell 1; have x2 : (u1).cell? ⟨w.heap.size, 2, none⟩ = some (.int .i64 n) := XT.out.cell 2; have x3 : (u1).cell? ⟨w.heap.size, 3, none⟩ = some (.slice A m c) := XT.out.cell 3; clear b9; have C1 := hid hvc; clear hvc)
      | (go_at_call 27; (with_reducible refine (ref12_CopyDecls dA _ _ _ HLA.out.1 D2.out).mono ?_); rintro e u5 ⟨⟨vc, rfl, hvc⟩, b9⟩; obtain ⟨A5, c5, rfl, _⟩ := id hvc; have h9 := hid (XT.out.below b9 XT.out.lt); clear XT; have XT := h9; clear h9; have h9 := hid (below_hop b9 HB.out); clear HB; have HB := h9; clear h9; (try (have h9 := hid (D2.out.up b9); clear D2; have D2 := h9; clear h9)); (try (have h9 := hid (T1.out.up b9); clear T1; have T1 := h9; clear h9)); (try (have h9 := hid (C1.out.up b9); clear C1; have C1 := h9; clear h9)); have x0 : (u5).cell? ⟨w.heap.size, 0, none⟩ = some (.int .i64 q) := XT.out.cell 0; have x1 : (u5).cell? ⟨w.heap.size, 1, none⟩ = some (.string s) := XT.out.cell 1; have x2 : (u5).cell? ⟨w.heap.size, 2, none⟩ = some (.int .i64 n) := XT.out.cell 2; have x3 : (u5).cell? ⟨w.heap.size, 3, none⟩ = some (.slice A m c) := XT.out.cell 3; clear b9; have C1 := hid hvc; clear hvc)
      | (go_at_call 14; (with_reducible refine (law15_copied t _ (fun b => b < w.heap.size) _ HN.out (HV.out.up HB.out)).mono ?_); rintro e u2 ⟨⟨v2, rfl, hv2⟩, b9⟩; obtain ⟨q7, s7, n7, A7, m7, c7, rfl⟩ := hv2.agg; have h9 := hid (XT.out.below b9 XT.out.lt); clear XT; have XT := h9; clear h9; have h9 := hid (below_hop b9 HB.out); clear HB; have HB := h9; clear h9; (try (have h9 := hid (D2.out.up b9); clear D2; have D2 := h9; clear h9)); (try (have h9 := hid (T1.out.up b9); clear T1; have T1 := h9; clear h9)); (try (have h9 := hid (C1.out.up b9); clear C1; have C1 := h9; clear h9)); have x0 : (u2).cell? ⟨w.heap.size, 0, none⟩ = some (.int .i64 q) := XT.out.cell 0; have x1 : (u2).cell? ⟨w.heap.size, 1, none⟩ = some (.string s) := XT.out.cell 1; have x2 : (u2).cell? ⟨w.heap.size, 2, none⟩ = some (.int .i64 n) := XT.out.cell 2; have x3 : (u2).cell? ⟨w.heap.size, 3, none⟩ = some (.slice A m c) := XT.out.cell 3; clear b9; have T1 := hid hv2; clear hv2)
      | (go_at_call 26; (with_reducible refine (code_First HF.out.1 HL.out.2 HS.out.1 HS.out.2 C1.out T1.out).mono ?_); rintro e u3 ⟨rfl, b9⟩; have h9 := hid (XT.out.below b9 XT.out.lt); clear XT; have XT := h9; clear h9; have h9 := hid (below_hop b9 HB.out); clear HB; have HB := h9; clear h9; (try (have h9 := hid (D2.out.up b9); clear D2; have D2 := h9; clear h9)); (try (have h9 := hid (T1.out.up b9); clear T1; have T1 := h9; clear h9)); (try (have h9 := hid (C1.out.up b9); clear C1; have C1 := h9; clear h9)); have x0 : (u3).cell? ⟨w.heap.size, 0, none⟩ = some (.int .i64 q) := XT.out.cell 0; have x1 : (u3).cell? ⟨w.heap.size, 1, none⟩ = some (.string s) := XT.out.cell 1; have x2 : (u3).cell? ⟨w.heap.size, 2, none⟩ = some (.int .i64 n) := XT.out.cell 2; have x3 : (u3).cell? ⟨w.heap.size, 3, none⟩ = some (.slice A m c) := XT.out.cell 3; clear b9; clear C1 T1)
      | (go_at_call 26; (with_reducible refine (code_First HF.out.2 HLA.out.1 HLA.out.2 HS.out.2 C1.out T1.out).mono ?_); rintro e u6 ⟨rfl, b9⟩; have h9 := hid (XT.out.below b9 XT.out.lt); clear XT; have XT := h9; clear h9; have h9 := hid (below_hop b9 HB.out); clear HB; have HB := h9; clear h9; (try (have h9 := hid (D2.out.up b9); clear D2; have D2 := h9; clear h9)); (try (have h9 := hid (T1.out.up b9); clear T1; have T1 := h9; clear h9)); (try (have h9 := hid (C1.out.up b9); clear C1; have C1 := h9; clear h9)); have x0 : (u6).cell? ⟨w.heap.size, 0, none⟩ = some (.int .i64 q) := XT.out.cell 0; have x1 : (u6).cell? ⟨w.heap.size, 1, none⟩ = some (.string s) := XT.out.cell 1; have x2 : (u6).cell? ⟨w.heap.size, 2, none⟩ = some (.int .i64 n) := XT.out.cell 2; have x3 : (u6).cell? ⟨w.heap.size, 3, none⟩ = some (.slice A m c) := XT.out.cell 3; clear b9; clear C1 T1)
      | (go_at_call 28; (with_reducible refine (doc_First HF.out.1 HL.out.2 (HD.out.up HB.out) (HV.out.up HB.out)).mono ?_); rintro e u4 ⟨rfl, b9⟩; have h9 := hid (XT.out.below b9 XT.out.lt); clear XT; have XT := h9; clear h9; have h9 := hid (below_hop b9 HB.out); clear HB; have HB := h9; clear h9; (try (have h9 := hid (D2.out.up b9); clear D2; have D2 := h9; clear h9)); (try (have h9 := hid (T1.out.up b9); clear T1; have T1 := h9; clear h9)); (try (have h9 := hid (C1.out.up b9); clear C1; have C1 := h9; clear h9)); have x0 : (u4).cell? ⟨w.heap.size, 0, none⟩ = some (.int .i64 q) := XT.out.cell 0; have x1 : (u4).cell? ⟨w.heap.size, 1, none⟩ = some (.string s) := XT.out.cell 1; have x2 : (u4).cell? ⟨w.heap.size, 2, none⟩ = some (.int .i64 n) := XT.out.cell 2; have x3 : (u4).cell? ⟨w.heap.size, 3, none⟩ = some (.slice A m c) := XT.out.cell 3; clear b9)
      | (go_at_call 28; (with_reducible refine (doc_First HF.out.2 HLA.out.1 D2.out (HV.out.up HB.out)).mono ?_); rintro e u7 ⟨rfl, b9⟩; have h9 := hid (XT.out.below b9 XT.out.lt); clear XT; have XT := h9; clear h9; have h9 := hid (below_hop b9 HB.out); clear HB; have HB := h9; clear h9; (try (have h9 := hid (D2.out.up b9); clear D2; have D2 := h9; clear h9)); (try (have h9 := hid (T1.out.up b9); clear T1; have T1 := h9; clear h9)); (try (have h9 := hid (C1.out.up b9); clear C1; have C1 := h9; clear h9)); have x0 : (u7).cell? ⟨w.heap.size, 0, none⟩ = some (.int .i64 q) := XT.out.cell 0; have x1 : (u7).cell? ⟨w.heap.size, 1, none⟩ = some (.string s) := XT.out.cell 1; have x2 : (u7).cell? ⟨w.heap.size, 2, none⟩ = some (.int .i64 n) := XT.out.cell 2; have x3 : (u7).cell? ⟨w.heap.size, 3, none⟩ = some (.slice A m c) := XT.out.cell 3; clear b9)
      | (go_at_call 10; (refine (law15_wakes _).mono ?_); rintro e u8 ⟨rfl, b9⟩; have h9 := hid (XT.out.below b9 XT.out.lt); clear XT; have XT := h9; clear h9; have h9 := hid (below_hop b9 HB.out); clear HB; have HB := h9; clear h9; (try (have h9 := hid (D2.out.up b9); clear D2; have D2 := h9; clear h9)); (try (have h9 := hid (T1.out.up b9); clear T1; have T1 := h9; clear h9)); (try (have h9 := hid (C1.out.up b9); clear C1; have C1 := h9; clear h9)); have x0 : (u8).cell? ⟨w.heap.size, 0, none⟩ = some (.int .i64 q) := XT.out.cell 0; have x1 : (u8).cell? ⟨w.heap.size, 1, none⟩ = some (.string s) := XT.out.cell 1; have x2 : (u8).cell? ⟨w.heap.size, 2, none⟩ = some (.int .i64 n) := XT.out.cell 2; have x3 : (u8).cell? ⟨w.heap.size, 3, none⟩ = some (.slice A m c) := XT.out.cell 3; clear b9))
  all_goals
    go_wp2
    go_ret
    exact ⟨rfl, HB.out⟩
set_option maxRecDepth 100000 in
theorem answers {H : Type} (enc : TypeId × Value → H) : Answers enc Try.prog 8 Try.f8 := by
  intro W base args ds ps hA hval hlt hwt
  rw [Try.params8] at hA hval
  obtain ⟨v0, vs0, d0, ds0, p0, q0, hargs, rfl, rfl, h0, r0⟩ := trodAll_cons hA
  obtain ⟨v1, vs1, d1, ds1, p1, q1, rfl, rfl, rfl, h1, r1⟩ := trodAll_cons r0
  obtain ⟨rfl, rfl, rfl⟩ := trodAll_nil r1
  obtain rfl : args = #[v0, v1] := Array.ext' hargs
  obtain ⟨x0, i0⟩ := open_decls (B := W.heap.size) (hval 0 51 v0 rfl rfl) h0 (fun p hp => hlt p (by simp [hp]))
  obtain ⟨x1, i1⟩ := open_typeS (B := W.heap.size) (hval 1 34 v1 rfl rfl) h1 (fun p hp => hlt p (by simp [hp]))
  exact walk W i0 i1
theorem hspec {H : Type} (ds : List (DataW H)) (h : ds.length = (Try.f8).params.toList.length) : Rows.typFirstsSpec.fn H ds = { results := [.lit (.bool true)], args := ds } := by
  rw [Try.params8] at h
  match ds, h with
  | [_, _], _ => rfl
theorem lifted (os : Os) (started : os.Started) (H : Type) (enc : TypeId × Value → H) : ReturnsInHanded {} Try.checked os 8 .any (Rows.typFirstsSpec.pre6 enc Try.prog Try.f8 Rows.typFirstsRow.domain false) (Rows.typFirstsSpec.post enc Try.prog Try.f8 false true false false) :=
  lifted_of_walk (tb := 4) (by kernel_rfl) started (by kernel_rfl) Try.func8 rfl hspec rfl Try.underlying4 (by kernel_rfl) (by kernel_rfl)
    (ChangeSpec.witness6 (enc := enc) (C := Try.checked) false ⟨#[], #[.slice none 0 0, .agg #[.int .i64 0, .string ⟨#[]⟩, .int .i64 0, .slice none 0 0]], []⟩ 8 (by kernel_rfl) (by kernel_rfl) (by kernel_rfl) (by kernel_rfl)) (answers enc)
theorem over : Rows.typFirstsRow.holds Try.pinned (OpenSpec.ofChange Rows.typFirstsSpec) :=
  OpenClaim.holds_of_wide 8 Try.f8 rfl rfl rfl rfl rfl rfl rfl ⟨rfl, rfl, rfl, rfl, rfl⟩ rfl rfl rfl rfl rfl (by kernel_rfl) Try.func8 (by kernel_rfl)
    (of_decide_eq_true (by kernel_rfl)) (by unfold Func.isWrapper; first | (rw [if_pos (by decide +kernel)]; kernel_rfl) | (rw [if_neg (by decide +kernel)]; exact ⟨rfl, rfl⟩))
    (fun os started H enc _ => lifted os started H enc)
/-- THE STATEMENT. -/
theorem proved : Rows.TypFirstsSaid := over
#print axioms proved
end Go.Proofs.Ytnlifgcnmhakiaa.typFirsts
