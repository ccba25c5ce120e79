/-
  THE WALK OF athanorref15.functions.
-/
import Derived.Test.YtnlifgcnmhakiaaTRDecl
namespace Go.Proofs.Ytnlifgcnmhakiaa
open Go.ChangeShapes Go.WideShapes Go.ChangeAt Go.RowKit

def sn (X : Nat → Bool) (i : Nat) : Int := if X i then 1 else 0
/-- What was looked at, in a row of integers. -/
structure SeenAt (w : World) (p n : Nat) (X : Nat → Bool) : Prop where
  row : ∃ cs, Blk w p 3 cs ∧ cs.size = n ∧ ∀ i, i < n → cs[i]? = some (.int .i64 (sn X i))
section
variable {w w' : World} {p n : Nat} {X : Nat → Bool}
theorem SeenAt.lt (h : SeenAt w p n X) : p < w.heap.size := by obtain ⟨cs, h1, _⟩ := h.row; exact h1.lt
theorem SeenAt.cell (h : SeenAt w p n X) {i : Nat} (hi : i < n) : w.cell? ⟨p, i, none⟩ = some (.int .i64 (sn X i)) := by obtain ⟨cs, h1, _, h3⟩ := h.row; exact (h1.cell i).trans (h3 i hi)
theorem SeenAt.frozen (h : SeenAt w p n X) (i : Nat) : w.frozen? ⟨p, i, none⟩ = false := by obtain ⟨cs, h1, _⟩ := h.row; exact h1.frozen i
theorem SeenAt.of (h : SeenAt w p n X) (hk : w'.heap[p]? = w.heap[p]?) : SeenAt w' p n X := by obtain ⟨cs, h1, h2⟩ := h.row; exact ⟨cs, hk.trans h1, h2⟩
theorem SeenAt.below (h : SeenAt w p n X) (hb : Below w.heap.size w w') : SeenAt w' p n X := h.of (hb.block p h.lt)
theorem SeenAt.set_ (h : SeenAt w p n X) {i : Nat} (hi : i < n) : SeenAt (w.setCell ⟨p, i, none⟩ (.int .i64 1)) p n (with_ X i) := by
  obtain ⟨cs, h1, h2, h3⟩ := h.row
  refine ⟨_, h1.set_ i _, by simp [h2], fun j hj => ?_⟩
  rw [Array.getElem?_setIfInBounds]
  by_cases e : i = j
  · subst e
    rw [if_pos rfl, if_pos (by omega)]
    simp [sn, with_]
  · rw [if_neg e, h3 j hj]
    simp [sn, with_, Ne.symm e]
end
def OnP (p : Nat) : Nat → Prop := fun k => k = p
/-- What functions tells. -/
def FunP (ds : List Dc) (p : Nat) (X : Nat → Bool) (t : Ty) (w : World) (e : Ending) (w' : World) : Prop :=
  ∃ b Y, e = .returned (.bool b) ∧ SeenAt w' p ds.length Y ∧ Kept (OnP p) w w' ∧ (b = true → BadT ds t) ∧ (b = false → CleanT ds Y t ∧ Since ds X Y)
def FunC (ds : List Dc) (S : Nat → Prop) (p k : Nat) : Prop :=
  ∀ (t : Ty) (X : Nat → Bool) (v lv : Value) (w : World), left_ X ds.length * 100000 + nodes t ≤ k → nodes t ≤ 20000 → DcsAt w S ds lv → TAt w S t v → SeenAt w p ds.length X →
    Calls Try.prog 65 #[lv, v, .slice (some ⟨p, 0, none⟩) ds.length ds.length] w (FunP ds p X t w)
theorem DcRow.kept {S T : Nat → Prop} {w w' : World} {ds : List Dc} {A : Option Addr} (h : DcRow w S ds A) (hk : Kept T w w') (hT : ∀ b, S b → ¬ T b) : DcRow w' S ds A := h.keep (fun k hs hl => ⟨hk.block k hl (hT k hs), hs⟩)
theorem CnRow.kept {S T : Nat → Prop} {w w' : World} {ds : List Cn} {A : Option Addr} (h : CnRow w S ds A) (hk : Kept T w w') (hT : ∀ b, S b → ¬ T b) : CnRow w' S ds A := h.keep (fun k hs hl => ⟨hk.block k hl (hT k hs), hs⟩)
theorem CleanL.take {ds : List Dc} {X Y : Nat → Bool} {us : List Ty} {i : Nat} (h : CleanL ds X (us.take i)) (hs : ∀ j, X j = true → Y j = true) (hi : i < us.length) (hu : CleanT ds Y us[i]) : CleanL ds Y (us.take (i + 1)) := all_take (h.mono hs) hi hu
theorem DcsAt.kept {S T : Nat → Prop} {w w' : World} {ds : List Dc} {v : Value} (h : DcsAt w S ds v) (hk : Kept T w w') (hT : ∀ b, S b → ¬ T b) : DcsAt w' S ds v := h.keep (fun k hs hl => ⟨hk.block k hl (hT k hs), hs⟩)
theorem bad_at {ds : List Dc} {s : ByteArray} {i0 k2 j : Nat} {d : Dc} {x : Cn} {u : Ty} (hi0 : i0 = idx ds s) (hix : idx ds s < ds.length) (h0 : i0 < ds.length) (hd : d = ds[i0]) (hk : k2 < d.cons.length) (hx : d.cons[k2] = x) (hj : j < x.fields.length) (hu : x.fields[j] = u) (hb : BadT ds u) : Bad ds s := by
  subst hi0 hd hx hu
  exact bad_of_flds hix (mem_flds.2 ⟨_, List.getElem_mem hk, List.getElem_mem hj⟩) hb
set_option maxHeartbeats 8000000 in
set_option maxRecDepth 100000 in
theorem fun_node (ds : List Dc) (S : Nat → Prop) (p : Nat) (hlim : Lim ds) (hSp : ¬ S p) (k : Nat) (ih : ∀ k', k' < k → FunC ds S p k') : FunC ds S p k := by
  intro t X v lv w hk hnt hd hv hs
  obtain ⟨q, s, m, us⟩ := t
  obtain ⟨A, c, rfl, hc, hcm, hnil, hrow, _⟩ := hv.parts
  have hlv := hd
  obtain ⟨AD, cD, rfl, hc2, hcm2, _, hdrow⟩ := hlv
  have hL : us.length ≤ 9223372036854775807 := by unfold maxLen at hcm; omega
  have H := hid (And.intro hdrow (And.intro hrow (And.intro hd hlim)))
  have HI := hid ih
  have HS := hid hs
  have HK := hid (And.intro hk hnt)
  have HN : Hid (∀ b, S b → ¬ OnP p b) := hid (fun b hb e => hSp (by unfold OnP at e; subst e; exact hb))
  have Hp := hid hs.lt
  have hlD := hlim.1
  clear hdrow hrow hd hlim ih hs hk hnt hv hc hcm hnil hc2 hcm2 hSp
  by_cases h3 : q = 3
  · subst h3
    go_enter Try.func65, Try.ntmps65
    go_wp2
    go_ret
    exact ⟨true, X, rfl, HS.out.below (Below.alloc (Below.refl _ _) (Nat.le_refl _) _), (Kept.refl _ _).alloc _, fun _ => .inl (by rw [hasFun]; exact .inl rfl), fun h => (by cases h)⟩
  have h3b : (q == 3) = false := by simpa using h3
  have H3 := hid h3
  clear h3
  go_enter Try.func65, Try.ntmps65
  go_wp2
  go_loopg [7] us.length (fun g xi wr => ∃ (i : Nat) (Y : Nat → Bool), i + g = us.length ∧ xi = .int .i64 i ∧ Hid (SeenAt wr p ds.length Y) ∧ Hid (Since ds X Y) ∧ Hid (CleanL ds Y (us.take i)) ∧ Hid (Kept (OnP p) w wr) ∧ Hid (Blk wr w.heap.size 34 #[.int .i64 q, .string s, .int .i64 m, .slice A us.length c]))
  case atStart => exact ⟨0, X, by omega, rfl, hid (HS.out.below (Below.alloc (Below.refl _ _) (Nat.le_refl _) _)), hid (Since.refl _ _), hid (fun t ht => by simp at ht), hid ((Kept.refl _ _).alloc _), hid (Blk.new _ _ _)⟩
  case round =>
    obtain ⟨i, Y, hi, rfl, hY, hSi, hcl, hKw, hB⟩ := hrel
    have Hi := hid hi
    have z0 : wr.cell? ⟨w.heap.size, 0, none⟩ = some (.int .i64 q) := hB.out.cell 0
    have z1 : wr.cell? ⟨w.heap.size, 1, none⟩ = some (.string s) := hB.out.cell 1
    have z3 : wr.cell? ⟨w.heap.size, 3, none⟩ = some (.slice A us.length c) := hB.out.cell 3
    by_cases hlt : i < us.length
    · have hlt' : (i : Int) < us.length := by omega
      obtain ⟨ad, q', s', n', A3, m', c3, hA, hSb, hab, y0, y1, y2, y3, hel⟩ := (H.out.2.1.kept hKw.out HN.out).elem hlt
      subst hA
      have hm9 := nodes_mem (List.getElem_mem hlt)
      have Hel := hid hel
      have HLT := hid hlt
      generalize hu9 : us[i] = u at hm9 Hel
      have Hu := hid hu9
      have Hms := hid (show left_ Y ds.length * 100000 + nodes u < k ∧ nodes u ≤ 20000 by
        have h1 := HK.out
        rw [nodes] at h1
        have h2 := left_mono hSi.out.sub ds.length
        have h3 := Nat.mul_le_mul_right 100000 h2
        omega)
      clear hi hSb hab hel hm9 hu9
      go_wp2_with (go_at_call 65; go_must (refine (HI.out _ Hms.out.1 u Y _ _ wr (Nat.le_refl _) Hms.out.2 (H.out.2.2.1.kept hKw.out HN.out) Hel.out hY.out).mono ?_); rintro e w1 ⟨b, Z, rfl, f1, f2, f3, f4⟩; go_must (have F := hid (And.intro f1 (And.intro f2 (And.intro f3 f4))); clear f1 f2 f3 f4))
      · go_ret
        exact ⟨true, Z, rfl, F.out.1, F.out.2.1.hop hKw.out, fun _ => badT_arg (List.getElem_mem HLT.out) (of_get (P := BadT ds) Hu.out (F.out.2.2.1 (by first | assumption | rfl))), fun h => (by cases h)⟩
      · have hb0 : b = false := by first | assumption | (cases b <;> simp_all)
        obtain ⟨g1, g2⟩ := F.out.2.2.2 hb0
        have G := hid (And.intro g1 g2)
        have hgk := Hi.out
        clear g1 g2
        go_roundg (gk - 1)
        case rel => exact ⟨i + 1, Z, by omega, by go_num, hid F.out.1, hid (hSi.out.trans G.out.2), hid (hcl.out.take G.out.2.sub HLT.out (of_get (P := CleanT ds Z) Hu.out G.out.1)), hid (F.out.2.1.hop hKw.out), hid (hB.out.kept F.out.2.1 (fun e => by have := Hp.out; unfold OnP at e; omega))⟩
        case measure => omega
    obtain rfl : i = us.length := by omega
    have hcl2 : Hid (CleanL ds Y us) := hid (fun t ht => hcl.out t (by rw [List.take_length]; exact ht))
    by_cases h4 : q = 4
    case neg =>
      have h4b : (q == 4) = false := by simpa using h4
      have H4 := hid h4
      clear hi h4
      go_wp2
      go_ret
      exact ⟨false, Y, rfl, hY.out, hKw.out, fun h => (by cases h), fun _ => ⟨cleanT_mk H3.out hcl2.out (fun e => absurd e H4.out), hSi.out⟩⟩
    subst h4
    clear hi
    by_cases hix : idx ds s < ds.length
    case neg =>
      have hdr : declR ds s = -1 := by unfold declR; rw [if_neg hix]
      have HX := hid hix
      have HDR := hid hdr
      clear hix hdr
      go_wp2_with (go_at_call 64; go_must (refine (ref14_Decl ds s _ S wr (by omega) (H.out.2.2.1.kept hKw.out HN.out)).mono ?_); rintro e w1 ⟨rfl, rfl⟩; go_must (rw [HDR.out]))
      go_ret
      exact ⟨false, Y, rfl, hY.out, hKw.out, fun h => (by cases h), fun _ => ⟨cleanT_mk (by omega) hcl2.out (fun _ e => absurd e HX.out), hSi.out⟩⟩
    have hdr : declR ds s = (idx ds s : Int) := by unfold declR; rw [if_pos hix]
    have HIX := hid hix
    obtain ⟨i0, hi0⟩ : ∃ i0, i0 = idx ds s := ⟨_, rfl⟩
    rw [← hi0] at hdr hix
    have HDR := hid hdr
    have HI0 := hid hi0
    have hi64 : i0 ≤ 1000 := by omega
    have hsc := hY.out.cell hix
    have hsf := hY.out.frozen i0
    clear hdr hi0
    by_cases hY0 : Y i0 = true
    · rw [show sn Y i0 = 1 from by unfold sn; rw [if_pos hY0]] at hsc
      have HY0 := hid hY0
      have hix' : (i0 : Int) < ds.length := by omega
      clear hY0
      go_wp2_with (go_at_call 64; go_must (refine (ref14_Decl ds s _ S wr (by omega) (H.out.2.2.1.kept hKw.out HN.out)).mono ?_); rintro e w1 ⟨rfl, rfl⟩; go_must (rw [HDR.out]))
      go_ret
      exact ⟨false, Y, rfl, hY.out, hKw.out, fun h => (by cases h), fun _ => ⟨cleanT_mk (by omega) hcl2.out (fun _ _ => by rw [← HI0.out]; exact HY0.out), hSi.out⟩⟩
    have hY1 : Y i0 = false := by simpa using hY0
    rw [show sn Y i0 = 0 from by unfold sn; rw [if_neg hY0]] at hsc
    have HY1 := hid hY1
    have hix' : (i0 : Int) < ds.length := by omega
    have HIL := hid hix
    clear hY0 hY1
    go_wp2_with (go_at_call 64; go_must (refine (ref14_Decl ds s _ S wr (by omega) (H.out.2.2.1.kept hKw.out HN.out)).mono ?_); rintro e w1 ⟨rfl, rfl⟩; go_must (rw [HDR.out]))
    have X5 : Hid (SeenAt (w1.setCell ⟨p, i0, none⟩ (.int .i64 1)) p ds.length (with_ Y i0) ∧ Kept (OnP p) w (w1.setCell ⟨p, i0, none⟩ (.int .i64 1))) := hid ⟨hY.out.set_ HIL.out, hKw.out.setCell (p := ⟨p, i0, none⟩) (.inl rfl) _⟩
    clear z0 z1 z3 hsc hsf hi64
    revert X5
    generalize w1.setCell ⟨p, i0, none⟩ (.int .i64 1) = w5
    intro X5
    obtain ⟨d, hd9⟩ : ∃ d, d = ds[i0] := ⟨_, rfl⟩
    have Hd := hid hd9
    have hLd := hid (of_get (P := LimD) hd9 (H.out.2.2.2.2 _ (List.getElem_mem hix)))
    have hcn := hLd.out.2.1
    have hmc := hid (show left_ (with_ Y i0) ds.length + 1 ≤ left_ X ds.length by
      have h1 := left_with HIL.out HY1.out
      have h2 := left_mono hSi.out.sub ds.length
      omega)
    clear hd9
    go_loopg [9] d.cons.length (fun g2 xk w2 => ∃ (k2 : Nat) (Z : Nat → Bool), k2 + g2 = d.cons.length ∧ xk = .int .i64 k2 ∧ Hid (SeenAt w2 p ds.length Z) ∧ Hid (Since ds (with_ Y i0) Z) ∧ Hid (∀ x ∈ d.cons.take k2, CleanL ds Z x.fields) ∧ Hid (Kept (OnP p) w w2))
    case atStart => exact ⟨0, _, by omega, rfl, hid X5.out.1, hid (Since.refl _ _), hid (fun x hx => by simp at hx), hid X5.out.2⟩
    case round =>
      obtain ⟨k2, Z, hk2, rfl, hZ, hSz, hcz, hKz⟩ := hrel
      have Hk2 := hid hk2
      obtain ⟨ad, P, pc, C, cc, hA, hSb, _, _, y2, _, _, hC, _⟩ := (H.out.1.kept hKz.out HN.out) i0 HIL.out
      subst hA
      have HC := hid (And.intro hC.2.2.2 hSb)
      rw [show ds[i0] = d from Hd.out.symm] at y2 HC
      have HKW := hid hKz.out
      clear hSb hC
      by_cases hkl : k2 < d.cons.length
      case neg =>
        obtain rfl : k2 = d.cons.length := by omega
        clear hk2
        go_wp2
        go_ret
        have hci : CleanI ds Z i0 := fun hl => by
          rw [show ds[i0] = d from Hd.out.symm]
          intro t ht
          obtain ⟨x, hx, hxt⟩ := mem_flds.1 ht
          exact hcz.out x (by rw [List.take_length]; exact hx) t hxt
        have hs9 := hSz.out.step hci
        exact ⟨false, Z, rfl, hZ.out, hKz.out, fun h => (by cases h), fun _ => ⟨cleanT_mk (by omega) (hcl2.out.mono hs9.sub) (fun _ _ => by rw [← HI0.out]; exact hSz.out.sub _ (by simp [with_])), hSi.out.trans hs9⟩⟩
      have hkl' : (k2 : Int) < d.cons.length := by omega
      have HKL := hid hkl
      obtain ⟨ad2, A4, c4, hA, hSb2, _, x1, x2, x3, _, x5⟩ := HC.out.1 k2 hkl
      subst hA
      have HR := hid (And.intro x5 hSb2)
      have hLc := hid (hLd.out.2.2 _ (List.getElem_mem hkl))
      generalize hx9 : d.cons[k2] = x at x1 x2 x3 HR hLc
      have HX := hid hx9
      have hxl := hLc.out.1
      have Y2 := hid (And.intro y2 x1)
      obtain ⟨gp, hgp⟩ : ∃ gp, gp = gk - 1 := ⟨_, rfl⟩
      have Hgp := hid hgp
      obtain ⟨W, hW⟩ : ∃ W, W = wr := ⟨_, rfl⟩
      subst hW
      clear hk2 hSb2 hx9 x5 hgp
      go_wp2
      go_loopg [10] x.fields.length (fun g3 xj w3 => ∃ (j : Nat) (Z2 : Nat → Bool), j + g3 = x.fields.length ∧ xj = .int .i64 j ∧ Hid (SeenAt w3 p ds.length Z2) ∧ Hid (Since ds (with_ Y i0) Z2) ∧ Hid (∀ i, Z i = true → Z2 i = true) ∧ Hid (CleanL ds Z2 (x.fields.take j)) ∧ Hid (Kept (OnP p) W w3))
      case atStart => exact ⟨0, Z, by omega, rfl, hZ, hSz, hid (fun _ h => h), hid (fun t ht => by simp at ht), hid (Kept.refl _ _)⟩
      case round =>
        obtain ⟨j, Z2, hj, rfl, hZ2, hS2, hsub, hcl3, hK3⟩ := hrel
        have Hj := hid hj
        have u2 : wr.cell? ⟨(ad.add (i0 * 4)).block, (ad.add (i0 * 4)).off + 2, none⟩ = some (.slice (some ad2) d.cons.length cc) := (World.cell?_of_block (w := W) (hK3.out.block _ (cell_lt y2) (by dsimp only; rw [add_block]; exact HN.out _ HC.out.2))).trans y2
        have u1 : wr.cell? ⟨(ad2.add (k2 * 2)).block, (ad2.add (k2 * 2)).off + 1, none⟩ = some (.slice A4 x.fields.length c4) := (World.cell?_of_block (w := W) (hK3.out.block _ (cell_lt x1) (by dsimp only; rw [add_block]; exact HN.out _ HR.out.2))).trans x1
        by_cases hjl : j < x.fields.length
        case neg =>
          obtain rfl : j = x.fields.length := by omega
          have hgk := Hk2.out
          have hgp := Hgp.out
          have hkl3 := HKL.out
          clear hj
          go_wp2
          go_roundg gp
          case rel =>
            refine ⟨k2 + 1, Z2, by omega, by go_num, hZ2, hS2, hid (all_take (fun y hy => (hcz.out y hy).mono hsub.out) HKL.out (of_get (P := fun y => CleanL ds Z2 y.fields) HX.out (fun t ht => hcl3.out t (by rw [List.take_length]; exact ht)))), hid (hK3.out.hop HKW.out)⟩
          case measure => omega
        have hjl' : (j : Int) < x.fields.length := by omega
        obtain ⟨ad3, q', s', n', A3, m', c3, hA3, hSb3, hab, t0, t1, t2, t3, hel⟩ := (HR.out.1.kept hK3.out HN.out).elem hjl
        subst hA3
        have hm9 := nodes_mem (List.getElem_mem hjl)
        have Hel := hid hel
        have HLT := hid hjl
        generalize hu9 : x.fields[j] = u at hm9 Hel
        have Hu := hid hu9
        have Hms := hid (show left_ Z2 ds.length * 100000 + nodes u < k ∧ nodes u ≤ 20000 by
          have h1 := HK.out
          have h2 := left_mono hS2.out.sub ds.length
          have h3 := hmc.out
          have h4 := hLc.out.2
          have h5 : (left_ Z2 ds.length + 1) * 100000 ≤ left_ X ds.length * 100000 := Nat.mul_le_mul_right _ (by omega)
          omega)
        clear hj hSb3 hab hel hm9 hu9
        have HKwr := hid (hK3.out.hop HKW.out)
        go_wp2_with (go_at_call 65; go_must (refine (HI.out _ Hms.out.1 u Z2 _ _ wr (Nat.le_refl _) Hms.out.2 (H.out.2.2.1.kept HKwr.out HN.out) Hel.out hZ2.out).mono ?_); rintro e w1 ⟨b, Z3, rfl, f1, f2, f3, f4⟩; go_must (have F := hid (And.intro f1 (And.intro f2 (And.intro f3 f4))); clear f1 f2 f3 f4))
        · go_ret
          exact ⟨true, Z3, rfl, F.out.1, F.out.2.1.hop HKwr.out, fun _ => badT_con (bad_at HI0.out HIX.out HIL.out Hd.out HKL.out HX.out HLT.out Hu.out (F.out.2.2.1 (by first | assumption | rfl))), fun h => (by cases h)⟩
        · have hb0 : b = false := by first | assumption | (cases b <;> simp_all)
          obtain ⟨g1, g2⟩ := F.out.2.2.2 hb0
          have G := hid (And.intro g1 g2)
          have hgk := Hj.out
          clear g1 g2
          go_roundg (gk - 1)
          case rel => exact ⟨j + 1, Z3, by omega, by go_num, hid F.out.1, hid (hS2.out.trans G.out.2), hid (fun i h => G.out.2.sub i (hsub.out i h)), hid (hcl3.out.take G.out.2.sub HLT.out (of_get (P := CleanT ds Z3) Hu.out G.out.1)), hid (F.out.2.1.hop hK3.out)⟩
          case measure => omega
theorem ref15_functions (ds : List Dc) (S : Nat → Prop) (p : Nat) (hlim : Lim ds) (hSp : ¬ S p) (k : Nat) : FunC ds S p k := by
  induction k using Nat.strongRecOn with
  | _ k ih => exact fun_node ds S p hlim hSp k ih
end Go.Proofs.Ytnlifgcnmhakiaa
