/-
  THE WALK OF core.closed.
-/
import Derived.Test.YtohdaclbgedeiaaEBinds
namespace Go.Proofs.Ytohdaclbgedeiaa
set_option linter.all false
open Go.ChangeShapes Go.WideShapes Go.ChangeAt Go.RowKit
open Ev (Co nodes nodesL bindA upM closM closML updI)
theorem wpList_unguard {P : Program} {ops : Array Oper} {Q : Exit → Act → World → Prop} {a : Act} {w : World} {rest : List Oper} {d : Option Tmp} {op : Op} {ty : TypeId} {pos : String} {after : Array Edge} {g : Option (Nat × Bool)}
    (hw : Region.wanted { dst := d, op := op, type := ty, pos := pos, after := after, guard := g } (yielded ops a.tmps) = true) (h : wpList P ops Q ({ dst := d, op := op, type := ty, pos := pos, after := after, guard := none } :: rest) a w) : wpList P ops Q ({ dst := d, op := op, type := ty, pos := pos, after := after, guard := g } :: rest) a w := by
  have e : Region.wanted { dst := d, op := op, type := ty, pos := pos, after := after, guard := none } (yielded ops a.tmps) = true := rfl
  unfold wpList at h ⊢
  rw [if_pos e] at h
  rw [if_pos hw]
  exact h
def dnM (l : List Int) (f : Int → Int) : Int → Int := l.foldl (fun g x => updI g x (g x - 1)) f
theorem up_cnt : ∀ (l : List Int) (f : Int → Int) (y : Int), upM l f y = f y + l.count y
  | [], f, y => by simp [upM]
  | a :: l, f, y => by
    have h := up_cnt l (updI f a (f a + 1)) y
    have e : upM (a :: l) f = upM l (updI f a (f a + 1)) := rfl
    rw [e, h, List.count_cons]
    unfold updI
    by_cases hy : y = a
    · subst hy; simp; omega
    · have : ¬ a = y := fun h => hy h.symm
      simp [hy, this]
theorem dn_cnt : ∀ (l : List Int) (f : Int → Int) (y : Int), dnM l f y = f y - l.count y
  | [], f, y => by simp [dnM]
  | a :: l, f, y => by
    have h := dn_cnt l (updI f a (f a - 1)) y
    have e : dnM (a :: l) f = dnM l (updI f a (f a - 1)) := rfl
    rw [e, h, List.count_cons]
    unfold updI
    by_cases hy : y = a
    · subst hy; simp; omega
    · have : ¬ a = y := fun h => hy h.symm
      simp [hy, this]
theorem dn_up (l : List Int) (f : Int → Int) : dnM l (upM l f) = f := by
  funext y
  rw [dn_cnt, up_cnt]; omega
theorem up_snoc (l : List Int) (a : Int) (f : Int → Int) : upM (l ++ [a]) f = updI (upM l f) a (upM l f a + 1) := by unfold upM; rw [List.foldl_append]; rfl
theorem dn_snoc (l : List Int) (a : Int) (f : Int → Int) : dnM (l ++ [a]) f = updI (dnM l f) a (dnM l f a - 1) := by unfold dnM; rw [List.foldl_append]; rfl
def Bnd (f : Int → Int) (B : Nat) : Prop := ∀ x, 0 ≤ f x ∧ f x ≤ B
theorem Bnd.up {f : Int → Int} {B : Nat} (h : Bnd f B) (l : List Int) : Bnd (upM l f) (B + l.length) := fun x => by
  have := h x
  have h2 := List.count_le_length (a := x) (l := l)
  rw [up_cnt]; omega
def ClosedP (t : Co) (f : Int → Int) (k M : Nat) (w : World) (e : Ending) (w' : World) : Prop := e = .returned (.bool (closM t f)) ∧ MapI w' M f (k + 4 * (nodes t - 1)) ∧ w.grownBy w' (some M)
def ClosedH (us : List Co) (M : Nat) : Prop := ∀ t ∈ us, ∀ (v : Value) (S : Nat → Prop) (w : World) (f : Int → Int) (k B : Nat), CAt w S t v → (∀ b, S b → b ≠ M) → MapI w M f k → Bnd f B → B + 2 * nodes t ≤ 17592186044416 → k + 4 * nodes t ≤ 17592186044416 → Calls Try.prog 60 #[v, .map (some M)] w (ClosedP t f k M w)
set_option maxHeartbeats 8000000 in
set_option maxRecDepth 100000 in
theorem closed_var (x y m : Int) (b : Bool) (T A : Option Addr) (tl tc l c : Nat) (w : World) (f : Int → Int) (n M : Nat) (hm : MapI w M f n) (hwf : Wf4 1 x y m) (h0 : f x = 0) : Calls Try.prog 60 #[.agg #[.int .i64 1, .int .i64 x, .int .i64 y, .int .i64 m, .bool b, .slice T tl tc, .slice A l c], .map (some M)] w (fun e w' => e = .returned (.bool false) ∧ Below w.heap.size w w') := by
  have HM := hid (hm.below (al1 w (.cells #[.int .i64 1, .int .i64 x, .int .i64 y, .int .i64 m, .bool b, .slice T tl tc, .slice A l c] 25)))
  have HWF := hid hwf.2.1
  have HV := hid h0.symm
  clear hm hwf h0
  go_enter Try.func60, Try.ntmps60
  go_wp2_with (at_lookup; go_must (refine wpList_unguard (by rfl) ?_); go_must (refine wpList_lookM (by rfl) _ _ (by rfl) HM.out HWF.out (by rfl) (by rfl) ?_); rw [← HV.out])
  go_ret
  exact ⟨rfl, by go_grown⟩
theorem closed_fail {k x y m : Int} {b : Bool} {ts : List Int} {us : List Co} {f : Int → Int} {n n2 M : Nat} {w w' : World} (h : closM (.mk k x y m b ts us) f = false) (hm : MapI w' M f n2) (hn : n2 ≤ n + 4 * (nodes (.mk k x y m b ts us) - 1)) (hg : w.grownBy w' (some M)) : ClosedP (.mk k x y m b ts us) f n M w (.returned (.bool false)) w' := ⟨by rw [h], hm.mono hn, hg⟩
theorem core_bindsL (k x y m : Int) (b : Bool) (T A : Option Addr) (tl tc l c : Nat) (w : World) (j : Nat) (L : List Int) (hL : L = bindA k x y j) (hwf : Wf4 k x y m) :
    Calls Try.prog 69 #[.agg #[.int .i64 k, .int .i64 x, .int .i64 y, .int .i64 m, .bool b, .slice T tl tc, .slice A l c], .int .i64 j] w (BindsP L w) := by subst hL; exact core_binds k x y m b T A tl tc l c w j hwf
theorem bindA_len (k x y : Int) (j : Nat) : (bindA k x y j).length ≤ 2 := by
  unfold bindA
  split
  · simp
  · split <;> simp
theorem take_snoc {L : List Int} {j : Nat} (hj : j < L.length) {a : Int} (ha : a = L[j]'hj) : L.take (j + 1) = L.take j ++ [a] := by rw [List.take_succ_eq_append_getElem hj, ha]
theorem wf_small {v : Int} (h : -1 ≤ v ∧ v ≤ 17592186044420) : (Lit.int .i64 v).wf = true := by simp [Lit.wf, IntKind.min, IntKind.max, IntKind.signed, IntKind.bits]; omega
theorem up_bnd {f : Int → Int} {B : Nat} (h : Bnd f B) {L : List Int} (hl : L.length ≤ 2) (j : Nat) (a : Int) : 0 ≤ upM (L.take j) f a ∧ upM (L.take j) f a ≤ B + 2 := by
  have h2 := h.up (L.take j) a
  have : (L.take j).length ≤ L.length := by simp; omega
  omega
theorem dn_bnd {f : Int → Int} {B : Nat} (h : Bnd f B) {L : List Int} (hl : L.length ≤ 2) (j : Nat) (a : Int) : 0 ≤ dnM (L.take j) (upM L f) a ∧ dnM (L.take j) (upM L f) a ≤ B + 2 := by
  have h2 := h.up L a
  have h3 := (List.take_sublist j L).count_le a
  have h4 := h a
  rw [dn_cnt]
  rw [up_cnt] at h2 ⊢
  omega
/-- What stands below a round of closed's loop. -/
theorem cl_start {w wr : World} {M n : Nat} {f : Int → Int} {cs es : Array Value} (hb : Blk wr w.heap.size 25 cs) (hm : MapI wr M f n) (hg : w.grownBy wr (some M)) {w3 : World} (b1 : Below (wr.alloc (.cells es 25)).heap.size (wr.alloc (.cells es 25)) w3) : Blk w3 w.heap.size 25 cs ∧ Blk w3 wr.heap.size 25 es ∧ MapI w3 M f n ∧ w.grownBy w3 (some M) ∧ Below wr.heap.size wr w3 :=
  have h := below_hop b1 (al1 wr (.cells es 25))
  ⟨hb.below h hb.lt, (Blk.new wr _ es).below b1 (by simp), hm.below h, hg.trans (below_by h _), h⟩
set_option maxHeartbeats 8000000 in
set_option maxRecDepth 100000 in
theorem closed_node (k x y m : Int) (b : Bool) (T A : Option Addr) (tc : Nat) (ts : List Int) (us : List Co) (c : Nat) (S : Nat → Prop) (w : World) (f : Int → Int) (n M B : Nat) (hl : us.length ≤ 17592186044416) (hrow : CRow w S us A 0) (hS : ∀ b, S b → b ≠ M) (hm : MapI w M f n) (hB : Bnd f B) (hBn : B + 2 + 2 * nodesL us ≤ 17592186044416) (hn : n + 2 + 4 * nodesL us ≤ 17592186044416) (hwf : Wf4 k x y m) (hk : k = 1 → f x ≠ 0) (H : ClosedH us M) : Calls Try.prog 60 #[.agg #[.int .i64 k, .int .i64 x, .int .i64 y, .int .i64 m, .bool b, .slice T ts.length tc, .slice A us.length c], .map (some M)] w (ClosedP (.mk k x y m b ts us) f n M w) := by
  have Q := hid (And.intro hrow (And.intro hS (And.intro H (And.intro hm (And.intro hB (And.intro hBn (And.intro hn (And.intro hwf hk))))))))
  have HL := hid hl
  obtain ⟨v, hv⟩ : ∃ v, v = f x := ⟨_, rfl⟩
  have HV := hid hv
  have HM := hid (hm.below (al1 w (.cells #[.int .i64 k, .int .i64 x, .int .i64 y, .int .i64 m, .bool b, .slice T ts.length tc, .slice A us.length c] 25)))
  have HWF := hid hwf.2.1
  have hvk : (k == 1) = false ∨ ((k == 1) = true ∧ (v == 0) = false) := by
    by_cases h1 : k = 1
    · exact .inr ⟨by simp [h1], by rw [hv]; simpa using hk h1⟩
    · exact .inl (by simpa using h1)
  have HC := hid (show closM (.mk k x y m b ts us) f = closML k x y 0 us f by
    rw [closM]
    by_cases h1 : k = 1
    · simp [h1, hk h1]
    · simp [h1])
  clear hrow hS hm hB hBn hn hwf hk H hv
  rcases hvk with hk1 | ⟨hk1, hv1⟩
  all_goals
    go_enter Try.func60, Try.ntmps60
    go_wp2_with (at_lookup; go_must (refine wpList_unguard (by rfl) ?_); go_must (refine wpList_lookM (by rfl) _ _ (by rfl) HM.out HWF.out (by rfl) (by rfl) ?_); rw [← HV.out])
    go_loopg [26] us.length (fun gg z wr => ∃ (i n2 : Nat), i + gg = us.length ∧ z = .int .i64 i ∧ Hid (MapI wr M f n2 ∧ n2 + 4 * nodesL (us.drop i) = n + 4 * nodesL us) ∧ Hid (closML k x y 0 us f = closML k x y i (us.drop i) f) ∧ Hid (Blk wr w.heap.size 25 (#[.int .i64 k, .int .i64 x, .int .i64 y, .int .i64 m, .bool b, .slice T ts.length tc, .slice A us.length c]) ∧ w.grownBy wr (some M)))
    case atStart => exact ⟨0, n, by omega, rfl, hid ⟨HM.out, rfl⟩, hid rfl, hid ⟨Blk.new _ _ _, World.grownBy_alloc _ _ _⟩⟩
    case round =>
      obtain ⟨i, n2, hi, rfl, hM, hE, hG⟩ := hrel
      have Hi := hid hi
      by_cases hlt : i < us.length
      case neg =>
        obtain rfl : i = us.length := by omega
        clear hi
        go_wp2
        go_ret
        refine ⟨by rw [HC.out, hE.out, List.drop_length, closML]; rfl, hM.out.1.mono ?_, hG.out.2⟩
        have := hM.out.2
        rw [List.drop_length, nodesL] at this
        rw [nodes]; omega
      have hlt' : (i : Int) < us.length := by omega
      have HLT := hid hlt
      have hkeep : ∀ b, S b → b < w.heap.size → wr.heap[b]? = w.heap[b]? ∧ S b := fun b hb hl => ⟨hG.out.2.block b hl (fun e => Q.out.2.1 b hb (by injection e)), hb⟩
      obtain ⟨ad, k9, x9, y9, n9, i9, T9, tl9, tc9, A9, m9, c9, rfl, hSb, hab, ⟨y0, y1, y2, y3, y4, y5, y6⟩, hel⟩ := (CRow.keep hkeep _ _ _ Q.out.1).elem hlt
      obtain ⟨x0, x1, x2, x3, x4, x5, x6⟩ := hG.out.1.seven
      have hlt3 : w.heap.size < wr.heap.size := hG.out.1.lt
      have hdr : us.drop i = us[i] :: us.drop (i + 1) := List.drop_eq_getElem_cons hlt
      have hE2 := hE.out
      rw [hdr, closML] at hE2
      have hkk := hM.out.2
      rw [hdr, nodesL] at hkk
      obtain ⟨u, hu⟩ : ∃ u, u = us[i] := ⟨_, rfl⟩
      rw [← hu] at hE2 hkk
      replace hel : CAt wr S u (.agg #[.int .i64 k9, .int .i64 x9, .int .i64 y9, .int .i64 n9, .bool i9, .slice T9 tl9 tc9, .slice A9 m9 c9]) := by rw [hu]; exact hel
      have HU := hid hu
      have HE2 := hid hE2
      have HKK := hid hkk
      have HEL := hid hel
      clear hi hel hSb hab hkeep hdr hE2 hkk hu
      obtain ⟨W, hW⟩ : ∃ W, W = wr := ⟨_, rfl⟩
      subst hW
      obtain ⟨L, hL⟩ : ∃ L, L = bindA k x y i := ⟨_, rfl⟩
      have hll : L.length ≤ 2 := by rw [hL]; exact bindA_len k x y i
      have hli : (L.length : Int) ≤ 2 := by omega
      have HLB := hid hL
      have HLL := hid hll
      obtain ⟨gp, hgp⟩ : ∃ gp, gp = gk - 1 := ⟨_, rfl⟩
      have Hgp := hid hgp
      clear hL hgp
      go_wp2_with (go_at_call 69; go_must (refine (core_bindsL _ _ _ _ _ _ _ _ _ _ _ _ i L HLB.out Q.out.2.2.2.2.2.2.2.1).mono ?_); rintro e w3 ⟨AL, cL, rfl, hIL, b1⟩; go_must (have W3 := hid (cl_start hG.out.1 hM.out.1 hG.out.2 b1); have HIL := hid hIL; clear b1 hIL))
      clear y0 y1 y2 y3 y4 y5 y6 x0 x1 x2 x3 x4 x5 x6
      have hneM : ∀ {g : Nat} {t : TypeId} {cs : Array Value}, Blk w3 g t cs → some g ≠ some M := fun hb e => map_blk_ne W3.out.2.2.1 hb (by injection e)
      have HNE := hid (And.intro (hneM W3.out.1) (hneM W3.out.2.1))
      have HMW := hid hM.out.1.lt
      clear hneM
      go_loopg [36] L.length (fun g2 z2 wq => ∃ j : Nat, j + g2 = L.length ∧ z2 = .int .i64 j ∧ Hid (MapI wq M (upM (L.take j) f) (n2 + j)) ∧ Hid (w3.grownBy wq (some M)))
      case atStart => exact ⟨0, by omega, rfl, hid (by simpa [upM] using W3.out.2.2.1), hid (World.grownBy.refl _ _)⟩
      case round =>
        obtain ⟨j, hj, rfl, hMq, hGq⟩ := hrel
        have Hj := hid hj
        by_cases hjl : j < L.length
        · have hjl' : (j : Int) < L.length := by omega
          have HJL := hid hjl
          obtain ⟨ad2, rfl, hS9, l0, hwfl⟩ := (HIL.out.keep (fun b hb hl => ⟨hGq.out.block b hl (fun e => by injection e with e; have := HMW.out; simp at hb; omega), hb⟩)).2 j hjl
          obtain ⟨a, ha⟩ : ∃ a, a = L[j]'hjl := ⟨_, rfl⟩
          have HA := hid ha
          replace l0 : wr.cell? (ad2.add j) = some (.int .i64 a) := by rw [ha]; exact l0
          replace hwfl : (Lit.int .i64 a).wf = true := by rw [ha]; exact hwfl
          obtain ⟨v2, hv2⟩ : ∃ v2, v2 = upM (L.take j) f a := ⟨_, rfl⟩
          have hb9 := up_bnd Q.out.2.2.2.2.1 hll j a
          rw [← hv2] at hb9
          have hBB := Q.out.2.2.2.2.2.1
          have q5 : IntKind.i64.wrap (v2 + 1) = v2 + 1 := IntWalk.i64_in _ (by omega)
          have HV2 := hid hv2
          have HWL := hid hwfl
          have HWV := hid (wf_small (v := v2 + 1) (by omega))
          have hk9 : n2 + j < maxLen := by have := HKK.out; have := Q.out.2.2.2.2.2.2.1; unfold maxLen; omega
          have HK9 := hid hk9
          clear ha hv2 hb9 hBB hwfl hk9 hj
          go_wp2_with (first | (at_lookup; go_must (refine wpList_lookM (by rfl) _ _ (by rfl) hMq.out HWL.out (by rfl) (by rfl) ?_); rw [← HV2.out]) | (at_mapUpdate; go_must (refine wpList_putM (by rfl) _ _ _ (by rfl) hMq.out HK9.out HWL.out HWV.out (by rfl) (by rfl) (by rfl) ?_); intro w9 hm9 hg9; go_must (have PM := hid hm9; have PG := hid (hGq.out.trans hg9); clear hm9 hg9)))
          have hjg := Hj.out
          go_roundg (gk - 1)
          case rel => exact ⟨j + 1, by omega, by go_num, hid (by rw [take_snoc HJL.out HA.out, up_snoc, ← HV2.out]; exact PM.out), PG⟩
          case measure => omega
        obtain rfl : j = L.length := by omega
        obtain ⟨wq, hwq⟩ : ∃ wq, wq = wr := ⟨_, rfl⟩
        subst hwq
        obtain ⟨e0, e1, e2, e3, e4, e5, e6⟩ := (W3.out.2.1.grown hGq.out HNE.out.2).seven
        have hMM : MapI wq M (upM L f) (n2 + L.length) := by have := hMq.out; rwa [List.take_length] at this
        have hUB : Bnd (upM L f) (B + 2) := fun q => by have := Q.out.2.2.2.2.1.up L q; omega
        have hBB := Q.out.2.2.2.2.2.1
        have hNN := Q.out.2.2.2.2.2.2.1
        have hnu : nodes u ≤ nodesL us := by rw [HU.out]; exact Ev.nodes_mem (List.getElem_mem HLT.out)
        have hnp := Ev.nodes_pos u
        have hKK := HKK.out
        have hnm := HMW.out
        have hwr3 := W3.out.2.2.2.2
        have hlw : W.heap.size ≤ w3.heap.size := hwr3.size
        have C := hid (Q.out.2.2.1 u (by rw [HU.out]; exact List.getElem_mem HLT.out) _ S wq (upM L f) (n2 + L.length) (B + 2) (HEL.out.keep (fun b hb hl => ⟨(hGq.out.block b (by omega) (fun e => Q.out.2.1 b hb (by injection e))).trans (hwr3.block b hl), hb⟩)) Q.out.2.1 hMM hUB (by omega) (by omega))
        obtain ⟨q, hq⟩ : ∃ q, closM u (upM L f) = q := ⟨_, rfl⟩
        have HQ := hid hq
        clear hj hMM hUB hBB hNN hnu hnp hKK hnm hwr3 hlw hq
        cases q
        all_goals
          go_wp2_with (go_at_call 60; go_must (refine C.out.mono ?_); rintro e w5 ⟨e9, hG5⟩; go_must (rw [HQ.out] at e9; subst e9; have G5 := hid hG5; clear hG5))
          have HMW2 := hid (show M < wq.heap.size by have := HMW.out; have := W3.out.2.2.2.2.size; have := hGq.out.size; omega)
          clear e0 e1 e2 e3 e4 e5 e6
          go_loopg [50] L.length (fun g2 z2 w6 => ∃ j : Nat, j + g2 = L.length ∧ z2 = .int .i64 j ∧ Hid (MapI w6 M (dnM (L.take j) (upM L f)) (n2 + L.length + 4 * (nodes u - 1) + j)) ∧ Hid (w3.grownBy w6 (some M)))
          case atStart => exact ⟨0, by omega, rfl, hid G5.out.1, hid (hGq.out.trans G5.out.2)⟩
          case round =>
            obtain ⟨j, hj, rfl, hMr, hGr⟩ := hrel
            have Hj := hid hj
            by_cases hjl : j < L.length
            · have hjl' : (j : Int) < L.length := by omega
              have HJL := hid hjl
              obtain ⟨ad2, rfl, hS9, l0, hwfl⟩ := (HIL.out.keep (fun b hb hl => ⟨hGr.out.block b hl (fun e => by injection e with e; have := HMW.out; simp at hb; omega), hb⟩)).2 j hjl
              obtain ⟨a, ha⟩ : ∃ a, a = L[j]'hjl := ⟨_, rfl⟩
              have HA := hid ha
              replace l0 : wr.cell? (ad2.add j) = some (.int .i64 a) := by rw [ha]; exact l0
              replace hwfl : (Lit.int .i64 a).wf = true := by rw [ha]; exact hwfl
              obtain ⟨v2, hv2⟩ : ∃ v2, v2 = dnM (L.take j) (upM L f) a := ⟨_, rfl⟩
              have hb9 := dn_bnd Q.out.2.2.2.2.1 hll j a
              rw [← hv2] at hb9
              have hBB := Q.out.2.2.2.2.2.1
              have q5 : IntKind.i64.wrap (v2 - 1) = v2 - 1 := IntWalk.i64_in _ (by omega)
              have HV2 := hid hv2
              have HWL := hid hwfl
              have HWV := hid (wf_small (v := v2 - 1) (by omega))
              have hk9 : n2 + L.length + 4 * (nodes u - 1) + j < maxLen := by have := HKK.out; have := Q.out.2.2.2.2.2.2.1; unfold maxLen; omega
              have HK9 := hid hk9
              clear ha hv2 hb9 hBB hwfl hk9 hj
              go_wp2_with (first | (at_lookup; go_must (refine wpList_lookM (by rfl) _ _ (by rfl) hMr.out HWL.out (by rfl) (by rfl) ?_); rw [← HV2.out]) | (at_mapUpdate; go_must (refine wpList_putM (by rfl) _ _ _ (by rfl) hMr.out HK9.out HWL.out HWV.out (by rfl) (by rfl) (by rfl) ?_); intro w9 hm9 hg9; go_must (have PM := hid hm9; have PG := hid (hGr.out.trans hg9); clear hm9 hg9)))
              have hjg := Hj.out
              go_roundg (gk - 1)
              case rel => exact ⟨j + 1, by omega, by go_num, hid (by rw [take_snoc HJL.out HA.out, dn_snoc, ← HV2.out]; exact PM.out), PG⟩
              case measure => omega
            obtain rfl : j = L.length := by omega
            have hMf : Hid (MapI wr M f (n2 + L.length + 4 * (nodes u - 1) + L.length)) := hid (by have := hMr.out; rwa [List.take_length, dn_up] at this)
            clear hj
            go_wp2
            first
              | (go_ret; exact closed_fail (by rw [HC.out, HE2.out, ← HLB.out, HQ.out]; rfl) hMf.out (by have := HKK.out; have := HLL.out; have := Ev.nodes_pos u; rw [nodes]; omega) (W3.out.2.2.2.1.trans hGr.out))
              | (go_roundg gp; (case rel => exact ⟨i + 1, n2 + 4 * nodes u, (by have := Hi.out; have := Hgp.out; have := HLT.out; omega), by go_num, hid ⟨hMf.out.mono (by have := HLL.out; have := Ev.nodes_pos u; omega), by have := HKK.out; omega⟩, hid (by rw [HE2.out, ← HLB.out, HQ.out]; rfl), hid ⟨W3.out.1.grown hGr.out HNE.out.1, W3.out.2.2.2.1.trans hGr.out⟩⟩); (case measure => (have := Hi.out; have := Hgp.out; have := HLT.out; omega)))
end Go.Proofs.Ytohdaclbgedeiaa
