/-
  THE WALKS OF athanorref15.plain AND First.
-/
import Derived.Test.YtnlifgcnmhakiaaTRFun
import Derived.Test.YtnlifgcnmhakiaaTSize
import Derived.Deep.RegionLaw
namespace Go.Proofs.Ytnlifgcnmhakiaa
open Go.ChangeShapes Go.WideShapes Go.ChangeAt Go.RowKit

/-- What plain tells. -/
def PlainP (ds : List Dc) (t : Ty) (w : World) (e : Ending) (w' : World) : Prop := (∃ b, e = .returned (.bool b) ∧ (b = true ↔ isFirst ds t)) ∧ Below w.heap.size w w'
theorem call_below {wr w1 w2 : World} {p : Nat} (h : Below wr.heap.size wr w1) (hk : Kept (OnP p) w1 w2) (hp : wr.heap.size ≤ p) : Below wr.heap.size wr w2 := h.trans (hk.below h.size (fun b hb => by unfold OnP at hb; omega))
theorem badT_nil {ds : List Dc} {n : Int} {s : ByteArray} (h : BadT ds (.mk 4 s n [])) : Bad ds s := by
  rcases h with h | ⟨s', hm, hb⟩
  · rw [hasFun, hasFunL] at h; rcases h with h | h; omega; cases h
  · rw [ment, mentL] at hm; rcases hm with ⟨_, rfl⟩ | h; exact hb; cases h
theorem seen_new {w : World} {p n : Nat} (h : Blk w p 3 (cellsOf (zeros n))) : SeenAt w p n (fun _ => false) := by
  refine ⟨_, h, by simp [cellsOf, zeros], fun i hi => ?_⟩
  simp [cellsOf, zeros, sn, hi]
set_option maxHeartbeats 8000000 in
set_option maxRecDepth 100000 in
theorem plain_node (ds : List Dc) (S : Nat → Prop) (hlim : Lim ds) (q : Int) (s : ByteArray) (m : Int) (us : List Ty) (A : Option Addr) (c : Nat) (lv : Value) (w : World) (hd : DcsAt w S ds lv) (hc : us.length ≤ c) (hcm : c ≤ maxLen) (hrow : TRow w S us A 0)
    (ih : ∀ t ∈ us, ∀ (v lv : Value) (w : World), DcsAt w S ds lv → TAt w S t v → Calls Try.prog 49 #[lv, v] w (PlainP ds t w)) :
    Calls Try.prog 49 #[lv, .agg #[.int .i64 q, .string s, .int .i64 m, .slice A us.length c]] w (PlainP ds (.mk q s m us) w) := by
  have hL : us.length ≤ 9223372036854775807 := by unfold maxLen at hcm; omega
  have hlD := hlim.1
  have hd9 := hd
  obtain ⟨AD, cD, rfl, _⟩ := hd9
  have H := hid (And.intro hrow (And.intro hd (And.intro hlim ih)))
  clear hrow hd hlim ih hc hcm
  by_cases h1 : q = 1
  · have hf : isFirst ds (.mk q s m us) := by rw [isFirst]; exact .inl h1
    subst h1
    go_enter Try.func49, Try.ntmps49
    go_wp2
    go_ret
    exact ⟨⟨true, rfl, by simp [hf]⟩, (Below.refl _ _).alloc (Nat.le_refl _) _⟩
  by_cases h2 : q = 2
  · have hf : isFirst ds (.mk q s m us) := by rw [isFirst]; exact .inr (.inl h2)
    subst h2
    go_enter Try.func49, Try.ntmps49
    go_wp2
    go_ret
    exact ⟨⟨true, rfl, by simp [hf]⟩, (Below.refl _ _).alloc (Nat.le_refl _) _⟩
  have h1b : (q == 1) = false := by simpa using h1
  have h2b : (q == 2) = false := by simpa using h2
  by_cases h4 : q = 4
  case neg =>
    have hf : ¬ isFirst ds (.mk q s m us) := by rw [isFirst]; rintro (h | h | h); exact h1 h; exact h2 h; exact h4 h.1
    have h4b : (q == 4) = false := by simpa using h4
    have HF := hid hf
    clear h1 h2 h4 hf
    go_enter Try.func49, Try.ntmps49
    go_wp2
    go_ret
    exact ⟨⟨false, rfl, by simp [HF.out]⟩, (Below.refl _ _).alloc (Nat.le_refl _) _⟩
  subst h4
  clear h1 h2 h1b h2b
  by_cases hix : idx ds s < ds.length
  case neg =>
    have hdr : declR ds s = -1 := by unfold declR; rw [if_neg hix]
    have HX := hid hix
    have HDR := hid hdr
    clear hix hdr
    go_enter Try.func49, Try.ntmps49
    go_wp2_with (go_at_call 64; go_must (refine (ref14_Decl ds s _ S _ (by omega) (H.out.2.1.up (by go_grown : Below w.heap.size w _))).mono ?_); rintro e w1 ⟨rfl, rfl⟩; go_must (rw [HDR.out]))
    go_ret
    exact ⟨⟨false, rfl, by rw [isFirst]; simp [HX.out]⟩, (Below.refl _ _).alloc (Nat.le_refl _) _⟩
  have hdr : declR ds s = (idx ds s : Int) := by unfold declR; rw [if_pos hix]
  have HIX := hid hix
  obtain ⟨i0, hi0⟩ : ∃ i0, i0 = idx ds s := ⟨_, rfl⟩
  rw [← hi0] at hdr hix
  have HDR := hid hdr
  clear hdr hi0 hix
  go_enter Try.func49, Try.ntmps49
  go_wp2_with (go_at_call 64; go_must (refine (ref14_Decl ds s _ S _ (by omega) (H.out.2.1.up (by go_grown : Below w.heap.size w _))).mono ?_); rintro e w1 ⟨rfl, hw1⟩; go_must (rw [HDR.out]; subst hw1))
  go_loopg [5] us.length (fun g xi wr => ∃ i : Nat, i + g = us.length ∧ xi = .int .i64 i ∧ Hid (∀ t ∈ us.take i, isFirst ds t) ∧ Hid (Below w.heap.size w wr) ∧ Hid (Blk wr w.heap.size 34 #[.int .i64 4, .string s, .int .i64 m, .slice A us.length c]))
  case atStart => exact ⟨0, by omega, rfl, hid (fun t ht => by simp at ht), hid ((Below.refl _ _).alloc (Nat.le_refl _) _), hid (Blk.new _ _ _)⟩
  case round =>
    obtain ⟨i, hi, rfl, hf, hb, hB⟩ := hrel
    have Hi := hid hi
    have z1 : wr.cell? ⟨w.heap.size, 1, none⟩ = some (.string s) := hB.out.cell 1
    have z3 : wr.cell? ⟨w.heap.size, 3, none⟩ = some (.slice A us.length c) := hB.out.cell 3
    by_cases hlt : i < us.length
    · have hlt' : (i : Int) < us.length := by omega
      obtain ⟨ad, q', s', n', A3, m', c3, hA, hSb, hab, y0, y1, y2, y3, hel⟩ := (H.out.1.up hb.out).elem hlt
      subst hA
      have Hel := hid hel
      have HLT := hid hlt
      have hmem := hid (List.getElem_mem hlt)
      generalize hu9 : us[i] = u at Hel hmem
      have Hu := hid hu9
      clear hi hSb hab hel hu9
      go_wp2_with (go_at_call 49; go_must (refine (H.out.2.2.2 u hmem.out _ _ wr (H.out.2.1.up hb.out) Hel.out).mono ?_); rintro e w2 ⟨⟨b, rfl, hb9⟩, b2⟩; go_must (have F := hid (And.intro hb9 b2); clear hb9 b2))
      · go_ret
        have hbf : b = false := by first | assumption | (cases b <;> simp_all)
        refine ⟨⟨false, rfl, ⟨fun h => (by cases h), fun h => ?_⟩⟩, below_hop F.out.2 hb.out⟩
        rw [isFirst] at h
        rcases h with h | h | h
        · omega
        · omega
        · rw [hbf] at F
          exact F.out.1.2 (h.2.1 u hmem.out)
      · have hbt : b = true := by first | assumption | (cases b <;> simp_all)
        have hgk := Hi.out
        go_roundg (gk - 1)
        case rel => exact ⟨i + 1, by omega, by go_num, hid (all_take hf.out HLT.out (of_get (P := isFirst ds) Hu.out (F.out.1.1 hbt))), hid (below_hop F.out.2 hb.out), hid (hB.out.below F.out.2 hB.out.lt)⟩
        case measure => omega
    · obtain rfl : i = us.length := by omega
      have hmk := make_ints ds.length (by omega)
      have z1d : wr.drew.cell? ⟨w.heap.size, 1, none⟩ = some (.string s) := z1
      have z1a : (wr.alloc (.cells (cellsOf (zeros ds.length)) 3)).cell? ⟨w.heap.size, 1, none⟩ = some (.string s) := (hB.out.alloc _).cell 1
      have z1b : (wr.drew.alloc (.cells (cellsOf (zeros ds.length)) 3)).cell? ⟨w.heap.size, 1, none⟩ = some (.string s) := (Blk.alloc (w := wr.drew) hB.out _).cell 1
      have C := hid (fun (w1 : World) (hb1 : Below wr.heap.size wr w1) (p : Nat) (hp : wr.heap.size ≤ p) (hs : SeenAt w1 p ds.length (fun _ => false)) => ref15_functions ds (fun b => S b ∧ b < w.heap.size) p H.out.2.2.1 (fun e => by have := hB.out.lt; omega) _ (.mk 4 s 0 []) (fun _ => false) (.agg #[.int .i64 4, .string s, .int .i64 0, .slice none 0 0]) _ w1 (Nat.le_refl _) (by rw [nodes, nodesL]; omega) ((H.out.2.1.keep (fun k hk hl => ⟨(below_hop hb1 hb.out).block k hl, hk, hl⟩))) (TAt.make rfl (Nat.le_refl _) (Nat.zero_le _) (fun _ => ⟨rfl, rfl⟩) (by rw [TRow]; trivial) (by decide) (by decide)) hs)
      clear hi
      go_wp2
      go_region_law (first
        | (go_simp; go_at_call 65; refine (C.out _ (by go_grown : Below wr.heap.size wr _) _ (by simp) (seen_new (by first | exact Blk.new' (by simp) _ _ | exact (Blk.new' (by simp) _ _).drew))).mono ?_; rintro e w2 ⟨b, Y, rfl, f1, f2, f3, f4⟩; have F := hid (And.intro (call_below (by go_grown : Below wr.heap.size wr _) f2 (by simp)) (And.intro f3 f4)); clear f1 f2 f3 f4))
      all_goals
        go_wp2
        go_ret
        refine ⟨⟨!b, rfl, ?_⟩, below_hop F.out.1 hb.out⟩
        have hfs : ∀ t ∈ us, isFirst ds t := fun t ht => hf.out t (by rw [List.take_length]; exact ht)
        rw [isFirst]
        cases b with
        | true =>
          have hbad := badT_nil (F.out.2.1 rfl)
          exact ⟨fun h => (by cases h), fun h => by rcases h with h | h | h; omega; omega; exact absurd hbad h.2.2.2⟩
        | false =>
          obtain ⟨g1, g2⟩ := F.out.2.2 rfl
          exact ⟨fun _ => .inr (.inr ⟨rfl, hfs, HIX.out, fun hb9 => clean_type g2 g1 (badT_con hb9)⟩), fun _ => rfl⟩
/-- plain, of any type. -/
theorem ref15_plain (ds : List Dc) (S : Nat → Prop) (hlim : Lim ds) : ∀ (N : Nat) (t : Ty), SizeOf.sizeOf t ≤ N → ∀ (v lv : Value) (w : World), DcsAt w S ds lv → TAt w S t v → Calls Try.prog 49 #[lv, v] w (PlainP ds t w) := by
  intro N
  induction N with
  | zero => intro t ht; cases t; simp at ht
  | succ N ih =>
  intro t ht v lv w hd hv
  obtain ⟨q, s, k, us⟩ := t
  obtain ⟨A, c, rfl, hc, hcm, _, hrow, _⟩ := hv.parts
  exact plain_node ds S hlim q s k us A c lv w hd hc hcm hrow (fun t hm v lv w => ih t (by have := ty_lt (k := q) (n := k) (s := s) hm; omega) v lv w)
/-- What First tells. -/
def FirstP (ds : List Dc) (t : Ty) (w : World) (e : Ending) (w' : World) : Prop := (∃ b, e = .returned (.bool b) ∧ (b = true ↔ sizeT t ≤ 1024 ∧ isFirst ds t)) ∧ Below w.heap.size w w'
set_option maxHeartbeats 4000000 in
set_option maxRecDepth 100000 in
theorem ref15_First (ds : List Dc) (S : Nat → Prop) (hlim : Lim ds) (t : Ty) (v lv : Value) (w : World) (hd : DcsAt w S ds lv) (hv : TAt w S t v) : Calls Try.prog 28 #[lv, v] w (FirstP ds t w) := by
  have HV := hid hv
  have HD := hid hd
  obtain ⟨q, s, k, A, m, c, rfl⟩ := hv.agg
  obtain ⟨AD, cD, rfl, _⟩ := hd
  have HL := hid hlim
  clear hv hlim
  obtain ⟨n, hn⟩ : ∃ n, n = sizeT t := ⟨_, rfl⟩
  have HNN := hid hn
  clear hn
  by_cases h9 : n ≤ 1024
  · have H9 := hid h9
    go_enter Try.func28, Try.ntmps28
    go_wp2_with (first
      | (go_at_call 23; go_must (refine (ref15_Size t _ S _ (HV.out.up (by go_grown : Below w.heap.size w _))).mono ?_); rw [← HNN.out]; rintro e w1 ⟨rfl, b1⟩; go_must (have b2 := hid (below_then (B := w.heap.size) b1 (by go_grown : Below w.heap.size w _) (by simp)); have X1 := hid ((Blk.new w 34 #[.int .i64 q, .string s, .int .i64 k, .slice A m c]).below b1 (by simp)); have x0 : w1.cell? ⟨w.heap.size, 0, none⟩ = some (.int .i64 q) := X1.out.cell 0; have x1 : w1.cell? ⟨w.heap.size, 1, none⟩ = some (.string s) := X1.out.cell 1; have x2 : w1.cell? ⟨w.heap.size, 2, none⟩ = some (.int .i64 k) := X1.out.cell 2; have x3 : w1.cell? ⟨w.heap.size, 3, none⟩ = some (.slice A m c) := X1.out.cell 3; clear b1))
      | (go_at_call 49; go_must (refine (ref15_plain ds S HL.out _ t (Nat.le_refl _) _ _ _ (HD.out.up b2.out) (HV.out.up b2.out)).mono ?_); rintro e w2 ⟨⟨b, rfl, hb⟩, b3⟩; go_must (have F := hid (And.intro hb (below_hop b3 b2.out)); clear hb b3)))
    go_ret
    refine ⟨⟨b, by first | rfl | (simp; done), ?_⟩, F.out.2⟩
    rw [F.out.1]
    exact ⟨fun h => ⟨by rw [← HNN.out]; exact H9.out, h⟩, fun h => h.2⟩
  · have H9 := hid h9
    go_enter Try.func28, Try.ntmps28
    go_wp2_with (go_at_call 23; go_must (refine (ref15_Size t _ S _ (HV.out.up (by go_grown : Below w.heap.size w _))).mono ?_); rw [← HNN.out]; rintro e w1 ⟨rfl, b1⟩; go_must (have b2 := hid (below_then (B := w.heap.size) b1 (by go_grown : Below w.heap.size w _) (by simp)); clear b1))
    go_ret
    refine ⟨⟨false, by first | rfl | (simp; done), fun h => (by cases h), fun h => absurd (by rw [HNN.out]; exact h.1) H9.out⟩, b2.out⟩
end Go.Proofs.Ytnlifgcnmhakiaa
